/- Walks of the document's lexer: texts, one token. Conditions: none but the lengths; definitions and lemmas. -/
import Derived.Test.YtjoehmgnapdhaaaDoorL9
import Derived.Test.YtjoehmgnapdhaaaDoorL7
set_option linter.unusedSimpArgs false
set_option linter.unusedVariables false
namespace Go.Abs
open Go Go.RowKit Go.Proofs Go.Lx
variable {w0 : World}

def txtR : Option (Bs × Nat) → Res
  | none => .error 121
  | some (b, n) => if 200 < b.length then .error 1 else .ok (⟨4, b, 0, 0⟩, n)

theorem Own.takeSet {S g S' : Heap} {N : Nat} {L : List (AVal × Nat × List (List AVal))} {x : AObj} (h : Own N (S ++ g) S' L) (hN : S.length ≤ N) : (S'.set S.length x).take S.length = S := by
  have := h.takeN hN
  refine (List.ext_getElem? fun j => ?_).trans this
  rcases Nat.lt_or_ge j S.length with hj | hj
  · rw [List.getElem?_take_of_lt hj, List.getElem?_take_of_lt hj, List.getElem?_set_ne (by omega)]
  · rw [List.getElem?_eq_none (by simp; omega), List.getElem?_eq_none (by simp; omega)]

set_option maxHeartbeats 2000000 in
/-- text. -/
theorem w63 (s : Bs) (p : Nat) (hp : p ≤ s.length) (hl : s.length ≤ 4194304) (S : Heap) : ACalls Tryd.prog (B0 w0) 63 [.str s, .int p] S fun e S' => RefR p (txtR (txt (s.drop p))) e ∧ S' = S := by
  refine ACalls.close (R := fun e S' => RefR p (txtR (txt (s.drop p))) e ∧ S'.take S.length = S) ?_ ?_
  rotate_left 1
  · rintro e S' ⟨h, ht⟩
    exact .flat ht (h.flat _) ⟨h, rfl⟩
  refine fn_sound tryOrd (f63_c _) (by simp [f63]) ?_
  simp [f63, f63m]
  refine mwp_loop (I := fun q a S' => ∃ (o : Bs) (u : AVal) (k : Nat), q = s.length - k ∧ p ≤ k ∧ k ≤ s.length ∧ get a 0 = .str s ∧ get a 1 = .int k ∧ get a 4 = .ptr S.length 0 0 ∧ get a 7 = u ∧
    Own (S.length + 1) (S ++ [.cells 4 [[.int 0, .str [], .int 0, .int 0]] (some 1)]) S' [(u, 1, o.map u8)] ∧ o.length ≤ k ∧ txt (s.drop p) = (txt (s.drop k)).map fun x => (o ++ x.1, x.2 + (k - p))) (n := s.length - p) ?_ ?_
  · refine ⟨[], _, p, rfl, Nat.le_refl _, hp, rfl, rfl, rfl, rfl, ?_, by simp, ?_⟩
    · have := (Own.start (S ++ [.cells 4 [[.int 0, .str [], .int 0, .int 0]] (some 1)])).add0 1 .full (.inr rfl)
      simpa using this
    · cases txt (s.drop p) <;> simp
  rintro q a S1 ⟨o, u, k, rfl, hpk, hk, a0, a1, a4, a7, ho, hol, ht⟩
  have hbox : S1[S.length]? = some (.cells 4 [[.int 0, .str [], .int 0, .int 0]] (some 1)) := by rw [ho.low S.length (by omega)]; simp
  have hlenS := (ho.rk 0 rfl).lenR
  simp at hlenS
  have hstr := conv_bytesStr (ho.rk 0 rfl).elems
  have hset := fun x => ho.takeSet (x := x) (by omega)
  have hidx : S.length < S1.length := by have := ho.le; omega
  have hget := fun x => List.getElem?_set_self (a := x) hidx
  have hw1 := wrapS k (by omega)
  have hw2 := wrapS (k + 1) (by omega)
  simp only [Int.natCast_add, Int.cast_ofNat_Int] at hw1 hw2
  by_cases hlt : k < s.length
  · have hdrop := List.drop_eq_getElem_cons hlt
    rw [hdrop] at ht
    have w61' := fun S => w61 (w0 := w0) s (k + 1) S
    simp only [Int.natCast_add, Int.cast_ofNat_Int] at w61'
    by_cases hq : s[k].toNat = 39
    · by_cases hq2 : (s[k + 1]?.getD 0).toNat = 39
      · have hlt2 : k + 1 < s.length := by
          rcases Nat.lt_or_ge (k + 1) s.length with h | h
          · exact h
          · rw [List.getElem?_eq_none h] at hq2; simp at hq2
        have hdrop2 := List.drop_eq_getElem_cons hlt2
        rw [List.getElem?_eq_getElem hlt2, Option.getD_some] at hq2
        rw [hdrop2, txt_two hq hq2] at ht
        obtain ⟨S2, happ, ho2, hlt3⟩ := ho.app 0 rfl (y := .list .full [[.atom (.int .u8 39)]]) (ys := [u8 39]) (bytes := 1) rfl (by simp [u8]) (by decide) (by simp; omega) (by simp; omega)
        simp [-appendR] at happ
        have hi2 : (k : Int) + 1 < (s.length : Int) := by omega
        have hi0 : (0 : Int) ≤ (k : Int) + 1 := by omega
        have hn2 : ((k : Int) + 1).toNat = k + 1 := by omega
        simp [-appendR, f63b0, a0, a1, a4, a7, hlt, hq, hw1]
        refine (w61' _).use ?_
        rintro e S3 ⟨rfl, rfl⟩
        rw [List.getElem?_eq_getElem hlt2, Option.getD_some]
        simp [-appendR, bne, hq2, a0, a1, a4, a7, hw1, hw2, hi2, hi0, hn2, hlt2, happ]
        refine ⟨s.length - (k + 2), by omega, o ++ [39], _, k + 2, rfl, by omega, by omega, by simp; omega, rfl, ?_, by simp; omega, ?_⟩
        · simpa using ho2
        · rw [ht]
          cases txt (s.drop (k + 2)) with
          | none => rfl
          | some x => simp; omega
      · have hb : (((s[k + 1]?.getD 0).toNat : Int) == 39) = false := by simp; omega
        rw [txt_end hq (fun d r' e => by
          intro h
          have : k + 1 < s.length := by
            rcases Nat.lt_or_ge (k + 1) s.length with h | h
            · exact h
            · rw [List.drop_of_length_le h] at e; cases e
          rw [List.drop_eq_getElem_cons this] at e
          simp only [List.cons.injEq] at e
          rw [List.getElem?_eq_getElem this, Option.getD_some, e.1] at hq2
          exact hq2 h)] at ht
        simp at ht
        rw [ht]
        simp [-appendR, f63b0, a0, a1, a4, a7, hlt, hq, hw1]
        refine (w61' _).use ?_
        rintro e S3 ⟨rfl, rfl⟩
        by_cases h2 : 200 < o.length
        · have h2' : (200 : Int) < (o.length : Int) := by omega
          simp [bne, hb, a0, a1, a4, a7, hlenS, h2, h2', hbox, hset, hget, txtR, tokC, zTok, RefR]
          exact ⟨k, rfl⟩
        · have h2' : ¬ (200 : Int) < (o.length : Int) := by omega
          simp [bne, hb, a0, a1, a4, a7, hlenS, hstr, h2, h2', hbox, hset, hget, hw1, txtR, tokC, zTok, RefR]
          omega
    · have hb : ((s[k].toNat : Int) == 39) = false := by simp; omega
      rw [txt_other hq] at ht
      obtain ⟨S2, happ, ho2, hlt3⟩ := ho.app 0 rfl (y := .list .full [[.atom (.int .u8 s[k].toNat)]]) (ys := [u8 s[k]]) (bytes := 1) rfl (by simp [u8]) (by decide) (by simp; omega) (by simp; omega)
      simp [-appendR] at happ
      simp [-appendR, f63b0, a0, a1, a4, a7, hlt, hq, hb, hw1, happ]
      refine ⟨s.length - (k + 1), by omega, o ++ [s[k]], _, k + 1, rfl, by omega, by omega, by simp, rfl, ?_, by simp; omega, ?_⟩
      · simpa using ho2
      · rw [ht]
        cases txt (s.drop (k + 1)) with
        | none => rfl
        | some x => simp; omega
  · obtain rfl : k = s.length := by omega
    rw [List.drop_length, txt_nil] at ht
    simp at ht
    rw [ht]
    simp [f63b0, a0, a1, a4, a7, hbox, hset, hget, txtR, tokC, zTok, RefR]
    exact ⟨s.length, rfl⟩
end Go.Abs
