/- Walks: Any of the document's answer, slices.Compact. Conditions: the lengths; definitions and lemmas. -/
import Derived.Test.YtjoehmgnapdhaaaW3
set_option linter.unusedSimpArgs false
set_option linter.unusedVariables false
namespace Go.Abs
open Go Go.RowKit Go.Proofs
variable {β : Base}

/-- Any. -/
theorem w13 {S : Heap} {v : AVal} {E : List (Int × Int)} {n : Nat} {R : Int → List Int} (h : Rk 2 S v (edgs E)) (hv : v.sc S.length = true) (hl : E.length ≤ 1048576) (hb : ∀ x, bfs E n [] [x] = some (R x)) :
    ACalls Try.prog β 13 [v] S fun e S' => e = .ret (.bool (E.any fun e => decide (e.1 ∈ R e.1))) ∧ S' = S := by
  refine fn_sound tryOrd (f13_c β.G) (by simp [f13]) ?_
  simp [f13, f13m]
  refine mwp_loop (I := fun n a S' => ∃ i : Nat, n = E.length - i ∧ i ≤ E.length ∧ get a 0 = v ∧ get a 3 = .int i ∧ S' = S ∧ (E.take i).any (fun e => decide (e.1 ∈ R e.1)) = false) (n := E.length) ?_ ?_
  · exact ⟨0, rfl, Nat.zero_le _, rfl, rfl, rfl, by simp⟩
  rintro q a S' ⟨i, rfl, hi, a0, a3, rfl, hnot⟩
  by_cases hlt : i < E.length
  · obtain ⟨p, p1, p2, q1, q2, q3, q4, q5, q6⟩ := h.edge hlt
    simp [f13b0, a0, a3, h.lenR, hlt, q1, q3, q4]
    refine (w16 h hv hl (hb E[i].1)).use ?_
    rintro e S2 ⟨rfl, rfl⟩
    have hstep : (E.take (i + 1)).any (fun e => decide (e.1 ∈ R e.1)) = decide (E[i].1 ∈ R E[i].1) := by
      rw [List.take_add_one, List.getElem?_eq_getElem hlt, List.any_append, hnot]; simp
    by_cases hm : E[i].1 ∈ R E[i].1
    · simp [hm]
      exact ⟨E[i].1, ⟨E[i].2, List.getElem_mem hlt⟩, hm⟩
    · simp [hm, a3, wrapS i (by omega)]
      refine ⟨E.length - (i + 1), by omega, i + 1, rfl, by omega, by simp [a0], by simp, ?_⟩
      have := hstep
      simp only [hm, decide_false] at this
      simpa using this
  · have : i = E.length := by omega
    subst this
    rw [List.take_length] at hnot
    simp [f13b0, a0, a3, h.lenR]
    simpa using hnot

/-! ### Compact -/
def cmpt : List Int → List Int
  | x :: y :: r => if x = y then cmpt (y :: r) else x :: cmpt (y :: r)
  | l => l

theorem cmpt_snoc : ∀ (l : List Int) (x y : Int), cmpt (l ++ [x, y]) = if x = y then cmpt (l ++ [x]) else cmpt (l ++ [x]) ++ [y]
  | [], x, y => by simp only [List.nil_append, cmpt]; split <;> simp_all
  | [a], x, y => by
    have := cmpt_snoc [] x y
    simp only [List.nil_append, List.cons_append, cmpt] at this ⊢
    split <;> split <;> simp_all
  | a :: b :: l, x, y => by
    have := cmpt_snoc (b :: l) x y
    simp only [List.cons_append, cmpt] at this ⊢
    rw [this]
    split <;> split <;> simp_all

theorem cmpt_take {l : List Int} {i : Nat} (h : i + 1 < l.length) : cmpt (l.take (i + 2)) = if l[i] = l[i + 1] then cmpt (l.take (i + 1)) else cmpt (l.take (i + 1)) ++ [l[i + 1]] := by
  have h1 : l.take (i + 2) = l.take i ++ [l[i], l[i + 1]] := by
    rw [List.take_add_one, List.take_add_one, List.getElem?_eq_getElem (show i < l.length by omega), List.getElem?_eq_getElem h, List.append_assoc]; rfl
  have h2 : l.take (i + 1) = l.take i ++ [l[i]] := by
    rw [List.take_add_one, List.getElem?_eq_getElem (show i < l.length by omega)]; rfl
  rw [h1, h2, cmpt_snoc]

theorem cmpt_len : ∀ (l : List Int), (cmpt l).length ≤ l.length
  | [] => by simp [cmpt]
  | [x] => by simp [cmpt]
  | x :: y :: r => by
    have := cmpt_len (y :: r)
    simp only [cmpt]
    split <;> simp at this ⊢ <;> omega

/-- The first loop's: nothing stands twice so far. -/
def I36 (id n : Nat) (S0 : Heap) (l : List Int) (q : Nat) (a : Tmps) (S' : Heap) : Prop :=
  ∃ k : Nat, q = l.length - k ∧ 1 ≤ k ∧ k ≤ l.length ∧ get a 0 = .row id 0 n ∧ get a 3 = .int k ∧ S' = S0 ∧ cmpt (l.take k) = l.take k

/-- The second one's. -/
def J36 (id n k0 : Nat) (cap : Option Nat) (S0 : Heap) (l : List Int) (q : Nat) (a : Tmps) (S' : Heap) : Prop :=
  ∃ (j k : Nat) (es : List Int), q = l.length - j ∧ k0 < j ∧ j ≤ l.length ∧ get a 0 = .row id 0 n ∧ get a 3 = .int k ∧ get a 4 = .row id k0 (n - k0) ∧ get a 5 = .int ((j - k0 : Nat) : Int) ∧ S' = S0.set id (.cells 1 (ints es) cap) ∧
    es.length = l.length ∧ k < j ∧ es.take k = cmpt (l.take j) ∧ k = (cmpt (l.take j)).length ∧ (∀ i, j ≤ i + 1 → es.getD i 0 = l.getD i 0)

theorem set_self_some {S : Heap} {id : Nat} {o : AObj} (h : S[id]? = some o) : S.set id o = S := by
  obtain ⟨hlt, he⟩ := List.getElem?_eq_some_iff.1 h
  rw [← he, List.set_getElem_self hlt]

set_option maxHeartbeats 1000000 in
/-- slices.Compact, over a row of one's own. -/
theorem w36 {S : Heap} {id : Nat} {l : List Int} {cap : Option Nat} (h : S[id]? = some (.cells 1 (ints l) cap)) (hl : l.length ≤ 4194304) :
    ACalls Try.prog β 36 [.row id 0 l.length] S fun e S' => e = .ret (.row id 0 (cmpt l).length) ∧ ∃ es, S' = S.set id (.cells 1 es cap) ∧ (cmpt l).length ≤ es.length ∧ es.take (cmpt l).length = ints (cmpt l) := by
  have hlt0 := lt_of_some h
  refine fn_sound tryOrd (f36_c β.G) (by simp [f36]) ?_
  by_cases h2 : l.length < 2
  · have hc : cmpt l = l := by
      cases l with
      | nil => rfl
      | cons x r => cases r with
        | nil => rfl
        | cons y r => simp only [List.length_cons] at h2; omega
    have h2' : (l.length : Int) < 2 := by omega
    simp [f36, f36m, h2']
    rw [hc]
    exact ⟨rfl, ints l, (set_self_some h).symm, by simp, by rw [← ints_len l, List.take_length]⟩
  have h2' : ¬ (l.length : Int) < 2 := by omega
  have hr : Rk 1 S (.row id 0 l.length) (ints l) := by
    have := Rk.row (k := 1) (S := S) id 0 l.length (ints l) cap h (by simp)
    have e : ((ints l).drop 0).take l.length = ints l := by rw [List.drop_zero, ← ints_len l, List.take_length]
    rwa [e] at this
  simp [f36, f36m, h2']
  refine mwp_loop (I := I36 id l.length S l) (n := l.length - 1) ?_ ?_
  · refine ⟨1, rfl, by omega, by omega, rfl, rfl, rfl, ?_⟩
    cases l with
    | nil => simp at h2
    | cons x r => simp [cmpt]
  rintro q a S' ⟨k, rfl, hk1, hk, a0, a3, rfl, hcm⟩
  by_cases hlt : k < l.length
  rotate_left 1
  · have : k = l.length := by omega
    subst this
    rw [List.take_length] at hcm
    simp [f36b1, a0, a3]
    rw [hcm]
    exact ⟨rfl, ints l, (set_self_some h).symm, by simp, by rw [← ints_len l, List.take_length]⟩
  obtain ⟨p, q1, q2⟩ := hr.int hlt
  obtain ⟨p', q1', q2'⟩ := hr.int (i := k - 1) (by omega)
  have hwp := wrapP k (by omega) (by omega)
  have hct := cmpt_take (l := l) (i := k - 1) (by omega)
  simp only [show k - 1 + 2 = k + 1 by omega, show k - 1 + 1 = k by omega, hcm] at hct
  by_cases heq : l[k] = l[k - 1]
  rotate_left 1
  · have g : (l[k] == l[k - 1]) = false := beq_eq_false_iff_ne.2 heq
    simp [-iaddrR_row, f36b1, a0, a3, hlt, q1, q2, hwp, q1', q2', g, wrapS k (by omega)]
    refine ⟨l.length - (k + 1), by omega, k + 1, rfl, by omega, by omega, by simp [a0], by simp, rfl, ?_⟩
    rw [hct, if_neg (fun e => heq e.symm), List.take_add_one, List.getElem?_eq_getElem hlt]; rfl
  rw [if_pos heq.symm] at hct
  simp [-iaddrR_row, f36b1, a0, a3, hlt, q1, q2, hwp, q1', q2', heq, h]
  refine ⟨hk, ?_⟩
  refine mwp_loop (I := J36 id l.length k cap S' l) (n := l.length - (k + 1)) ?_ ?_
  · refine ⟨k + 1, k, l, rfl, by omega, by omega, by simp [a0], by simp [a3], by simp, ?_, (set_self_some h).symm, rfl, by omega, hct.symm, by rw [hct]; simp; omega, fun _ _ => rfl⟩
    rw [show k + 1 - k = 1 by omega]; simp
  rintro q a S2 ⟨j, k1, es, rfl, hkj, hj, a0, a3, a4, a5, rfl, hes, hk1j, htk, hk1l, hsame⟩
  have hlt1 : id < S'.length := hlt0
  have hS2 : (S'.set id (.cells 1 (ints es) cap))[id]? = some (.cells 1 (ints es) cap) := List.getElem?_set_self hlt1
  generalize hT : S'.set id (.cells 1 (ints es) cap) = T at hS2
  by_cases hjl : j < l.length
  · have r4 : Rk 1 T (.row id k (l.length - k)) (ints (es.drop k)) := by
      have := Rk.row (k := 1) (S := T) id k (l.length - k) (ints es) cap hS2 (by simp; omega)
      have e : ((ints es).drop k).take (l.length - k) = ints (es.drop k) := by
        rw [List.take_of_length_le (by simp; omega)]; simp [ints]
      rwa [e] at this
    obtain ⟨p, q1, q2⟩ := r4.int (i := j - k) (by simp; omega)
    obtain ⟨p', q1', q2'⟩ := r4.int (i := j - k - 1) (by simp; omega)
    have ej : (es.drop k)[j - k]'(by simp; omega) = l[j] := by
      have := hsame j (by omega)
      rw [getD_eq _ _ _ (by omega), getD_eq _ _ _ hjl] at this
      rw [List.getElem_drop]
      simpa [show k + (j - k) = j by omega] using this
    have ej' : (es.drop k)[j - k - 1]'(by simp; omega) = l[j - 1] := by
      have := hsame (j - 1) (by omega)
      rw [getD_eq _ _ _ (by omega), getD_eq _ _ _ (by omega)] at this
      rw [List.getElem_drop]
      simpa [show k + (j - k - 1) = j - 1 by omega] using this
    rw [ej] at q2
    rw [ej'] at q2'
    have hct2 := cmpt_take (l := l) (i := j - 1) (by omega)
    simp only [show j - 1 + 2 = j + 1 by omega, show j - 1 + 1 = j by omega] at hct2
    have hlen4 : j - k < l.length - k := by omega
    have hwp2 := wrapP (j - k) (by omega) (by omega)
    have hws := wrapS (j - k) (by omega)
    by_cases hne : l[j] = l[j - 1]
    · rw [if_pos hne.symm] at hct2
      simp [-iaddrR_row, f36b0, a0, a3, a4, a5, hlen4, q1, q2, hwp2, q1', q2', hne, bne, hws]
      refine ⟨l.length - (j + 1), by omega, j + 1, k1, es, rfl, by omega, by omega, by simp [a0], by simp [a3], by simp [a4], ?_, hT.symm, hes, by omega, by rw [hct2]; exact htk, by rw [hct2]; exact hk1l, fun i hi => hsame i (by omega)⟩
      rw [show j + 1 - k = j - k + 1 by omega]; simp
    · rw [if_neg (fun e => hne e.symm)] at hct2
      have g : (l[j] == l[j - 1]) = false := beq_eq_false_iff_ne.2 hne
      have i0 : iaddrR 1 T (.row id 0 l.length) (.int k1) = .ok true (.ptr id k1 0) T := by
        simp [hS2]; omega
      have s0 : storeR false 1 T (.ptr id k1 0) (.int l[j]) = .ok true .undef (S'.set id (.cells 1 (ints (es.set k1 l[j])) cap)) := by
        have hk1e : k1 < es.length := by omega
        simp [← hT, hlt1, hk1e, ints, List.map_set]
      simp [-iaddrR_row, -storeR_ptr, f36b0, a0, a3, a4, a5, hlen4, q1, q2, hwp2, q1', q2', g, bne, hws, i0, s0, wrapS k1 (by omega)]
      refine ⟨l.length - (j + 1), by omega, j + 1, k1 + 1, es.set k1 l[j], rfl, by omega, by omega, by simp [a0], by simp, by simp [a4], ?_, rfl, by simpa using hes, by omega, ?_, ?_, fun i hi => ?_⟩
      · rw [show j + 1 - k = j - k + 1 by omega]; simp
      · rw [hct2, ← htk, List.take_add_one, List.getElem?_set_self (by omega), List.take_set_of_le (Nat.le_refl _)]; rfl
      · rw [hct2]; simp; omega
      · have : k1 ≠ i := by omega
        simp only [List.getD, List.getElem?_set_ne this]
        exact hsame i (by omega)
  · have hjl' : j = l.length := by omega
    subst hjl'
    rw [List.take_length] at htk hk1l
    have hge : ¬ (l.length - k < l.length - k) := by omega
    subst hT
    simp [f36b0, a0, a3, a4, a5, hlt1, clearR, hes]
    refine ⟨by omega, by omega, by omega, hk1l, _, rfl, ?_, ?_⟩
    · simp; omega
    · rw [← hk1l, List.take_append_of_le_length (by simp; omega), List.take_take, Nat.min_self, ← htk]
      simp [ints]
end Go.Abs
