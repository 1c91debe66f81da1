/- The lexer, run: the example of the document. Conditions: none; definitions and lemmas. -/
import Derived.Test.YtjoehmgnapdhaaaDoorF1
import Derived.Test.YtjoehmgnapdhaaaDoorV1
import Derived.Test.YtjoehmgnapdhaaaDoorA32
import Derived.KernelRfl
set_option linter.unusedSimpArgs false
set_option linter.unusedVariables false
namespace Go.Abs
open Go Go.RowKit Go.Proofs
def tbl (G : Nat → AVal) : FuncId → Option AFn
  | 3 => some (f3 G)
  | 9 => some (f9 G)
  | 10 => some (f10 G)
  | 13 => some (f13 G)
  | 15 => some (f15 G)
  | 23 => some (f23 G)
  | 24 => some (f24 G)
  | 25 => some (f25 G)
  | 26 => some (f26 G)
  | 27 => some (f27 G)
  | 28 => some (f28 G)
  | 29 => some (f29 G)
  | 31 => some (f31 G)
  | 32 => some (f32 G)
  | 53 => some (f53 G)
  | 54 => some (f54 G)
  | 55 => some (f55 G)
  | 57 => some (f57 G)
  | 59 => some (f59 G)
  | 60 => some (f60 G)
  | 64 => some (f64 G)
  | 65 => some (f65 G)
  | 80 => some (f80 G)
  | 89 => some (f89 G)
  | 93 => some (f93 G)
  | _ => none

theorem tbl_c (G : Nat → AVal) : ∀ f fn, tbl G f = some fn → ∃ rows, cmpFn Tryd.prog G rows f = some fn := by
  intro f fn h
  unfold tbl at h
  split at h
  · simp only [Option.some.injEq] at h; rw [← h]; exact ⟨_, f3_c G⟩
  · simp only [Option.some.injEq] at h; rw [← h]; exact ⟨_, f9_c G⟩
  · simp only [Option.some.injEq] at h; rw [← h]; exact ⟨_, f10_c G⟩
  · simp only [Option.some.injEq] at h; rw [← h]; exact ⟨_, f13_c G⟩
  · simp only [Option.some.injEq] at h; rw [← h]; exact ⟨_, f15_c G⟩
  · simp only [Option.some.injEq] at h; rw [← h]; exact ⟨_, f23_c G⟩
  · simp only [Option.some.injEq] at h; rw [← h]; exact ⟨_, f24_c G⟩
  · simp only [Option.some.injEq] at h; rw [← h]; exact ⟨_, f25_c G⟩
  · simp only [Option.some.injEq] at h; rw [← h]; exact ⟨_, f26_c G⟩
  · simp only [Option.some.injEq] at h; rw [← h]; exact ⟨_, f27_c G⟩
  · simp only [Option.some.injEq] at h; rw [← h]; exact ⟨_, f28_c G⟩
  · simp only [Option.some.injEq] at h; rw [← h]; exact ⟨_, f29_c G⟩
  · simp only [Option.some.injEq] at h; rw [← h]; exact ⟨_, f31_c G⟩
  · simp only [Option.some.injEq] at h; rw [← h]; exact ⟨_, f32_c G⟩
  · simp only [Option.some.injEq] at h; rw [← h]; exact ⟨_, f53_c G⟩
  · simp only [Option.some.injEq] at h; rw [← h]; exact ⟨_, f54_c G⟩
  · simp only [Option.some.injEq] at h; rw [← h]; exact ⟨_, f55_c G⟩
  · simp only [Option.some.injEq] at h; rw [← h]; exact ⟨_, f57_c G⟩
  · simp only [Option.some.injEq] at h; rw [← h]; exact ⟨_, f59_c G⟩
  · simp only [Option.some.injEq] at h; rw [← h]; exact ⟨_, f60_c G⟩
  · simp only [Option.some.injEq] at h; rw [← h]; exact ⟨_, f64_c G⟩
  · simp only [Option.some.injEq] at h; rw [← h]; exact ⟨_, f65_c G⟩
  · simp only [Option.some.injEq] at h; rw [← h]; exact ⟨_, f80_c G⟩
  · simp only [Option.some.injEq] at h; rw [← h]; exact ⟨_, f89_c G⟩
  · simp only [Option.some.injEq] at h; rw [← h]; exact ⟨_, f93_c G⟩
  · cases h

/-- The calls whose contracts are known. -/
def ext : FuncId → List AVal → Option AVal
  | 33, [.str l] => if l.all (fun b => decide (b.toNat < 128)) && decide (l.length ≤ 140737488355328) then some (.str (Lib.toLowerA l)) else none
  | 58, [.str l, .atom (.int .u8 c)] => some (.int (Lib.indexByte l c.toNat.toUInt8))
  | _, _ => none

theorem vs_one {F m} {x : AVal} {vs : Array Value} (h : RelL F m [x] vs) : ∃ v, vs = #[v] ∧ Rel F m x v := by
  obtain ⟨hl, hg⟩ := h
  obtain ⟨l⟩ := vs
  match l, hl with
  | [v], _ => exact ⟨v, rfl, hg 0 (by simp)⟩
theorem vs_two {F m} {x y : AVal} {vs : Array Value} (h : RelL F m [x, y] vs) : ∃ u v, vs = #[u, v] ∧ Rel F m x u ∧ Rel F m y v := by
  obtain ⟨hl, hg⟩ := h
  obtain ⟨l⟩ := vs
  match l, hl with
  | [u, v], _ => exact ⟨u, v, rfl, hg 0 (by simp), hg 1 (by simp)⟩

theorem ext_ok {β : Base} : ∀ f args v, ext f args = some v → ∀ S, ACalls Tryd.prog β f args S fun e S' => e = .ret v ∧ S' = S := by
  intro f args v h S
  unfold ext at h
  split at h
  · rename_i l
    split at h
    · rename_i hc
      simp only [Bool.and_eq_true, decide_eq_true_eq, List.all_eq_true] at hc
      simp only [Option.some.injEq] at h
      subst h
      refine ACalls.lift (by kernel_rfl) fun F m vs w hv => ?_
      obtain ⟨u, rfl, hu⟩ := vs_one hv
      obtain rfl := hu.str_inv
      refine (Tryd.strings_ToLower_ascii ⟨l.toArray⟩ w (by simpa [ByteArray.size] using hc.2) (fun j b hb => hc.1 b (by simpa using List.mem_of_getElem? hb))).mono fun e w' ⟨he, hb⟩ => ?_
      exact ⟨_, he, .str _, hb⟩
    · cases h
  · rename_i l c
    simp only [Option.some.injEq] at h
    subst h
    refine ACalls.lift (by kernel_rfl) fun F m vs w hv => ?_
    obtain ⟨u1, u2, rfl, h1, h2⟩ := vs_two hv
    obtain rfl := h1.str_inv
    obtain rfl := h2.int_inv
    refine (Tryd.strings_IndexByte ⟨l.toArray⟩ c w).mono fun e w' ⟨he, hw⟩ => ?_
    subst hw
    exact ⟨_, he, .atom _, Below.refl _ _⟩
  · cases h

theorem tryOrd : Tryd.prog.follows .mixedOrders = true := by kernel_rfl
end Go.Abs
