/- The walk of the example: it speaks true. Conditions: none; lemmas. -/
import Derived.Test.YtjoehmgnapdhaaaW12
set_option linter.unusedSimpArgs false
set_option linter.unusedVariables false
namespace Go.Abs
open Go Go.RowKit Go.Proofs
variable {β : Base}

/-- The example speaks true. -/
theorem w8 {S : Heap} : ACalls Try.prog β 8 [] S fun e S' => e = .ret (.bool true) ∧ S' = S := by
  refine ACalls.close (R := fun e S' => e = .ret (.bool true) ∧ S'.take S.length = S) ?_ ?_
  rotate_left 1
  · rintro e S' ⟨rfl, ht⟩; exact .flat ht (by simp) ⟨rfl, rfl⟩
  have hv : ∀ S : Heap, Rk 2 S (.list .full [[.int 1, .int 2], [.int 2, .int 3], [.int 3, .int 1], [.int 2, .int 4]]) (edgs E0) := fun S => .list _ _
  have hr : ∀ S : Heap, Rk 1 S (.list .full [[.int 2], [.int 3], [.int 1]]) (ints [2, 3, 1]) := fun S => .list _ _
  have hsc : ∀ n, AVal.sc n (.list .full [[.int 1, .int 2], [.int 2, .int 3], [.int 3, .int 1], [.int 2, .int 4]]) = true := fun n => by simp
  refine fn_sound tryOrd (f8_c β.G) (by simp [f8]) ?_
  simp only [f8, f8m, mwp_seq, mwp_ops, opsWp_op, run_mv, ev_val, afterR_ok, putD_some, opsWp_nil, afterX_normal, true_and, enum]
  simp
  refine (w9 (hv S) (hsc _) (by simp [E0])).use ?_
  rintro e S1 ⟨u1, rfl, o1, hc1⟩
  rw [cyc0_2] at o1
  simp
  refine (w11 (o1.rk 0 rfl) (hr S1) (by simp [E0])).use ?_
  rintro e S2 ⟨rfl, rfl⟩
  simp
  refine (w9 (hv S2) (hsc _) (by simp [E0])).use ?_
  rintro e S3 ⟨u2, rfl, o2, _⟩
  rw [cyc0_4] at o2
  have l2 := o2.lenR 0 (v := u2) (k := 1) (es := ints []) rfl
  simp at l2
  have o3 : Own S.length S S3 _ := o1.join o2
  have hany : (E0.any fun e => decide (0 < (cyc E0 e.1).length)) = true := by
    refine List.any_eq_true.2 ⟨(2, 3), by simp [E0], ?_⟩
    rw [cyc0_2]; rfl
  simp [l2]
  refine (w12 (hv S3) (hsc _) rfl (by simp [E0])).use ?_
  rintro e S4 ⟨rfl, rfl⟩
  rw [hany]
  simp
  refine (w14 (hr S4) (by simp [E0])).use ?_
  rintro e S5 ⟨rfl, rfl⟩
  simp [maxL]
  exact o3.take

end Go.Abs
