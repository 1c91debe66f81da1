/- Walks over lists of numbers and of edges: has, waits, Next, SameInts, Index, Contains, Max, the two Victims. Conditions: none but the lengths; definitions and lemmas. -/
import Derived.Test.YtjoehmgnapdhaaaF1
import Derived.Test.YtjoehmgnapdhaaaF2
import Derived.Test.YtjoehmgnapdhaaaA31
set_option linter.unusedSimpArgs false
set_option linter.unusedVariables false
namespace Go.Abs
open Go Go.RowKit Go.Proofs
variable {β : Base}
theorem tryOrd : Try.prog.follows .mixedOrders = true := by kernel_rfl

def edgs (E : List (Int × Int)) : List (List AVal) := E.map fun p => [.int p.1, .int p.2]
@[simp] theorem edgs_len (E : List (Int × Int)) : (edgs E).length = E.length := by simp [edgs]
theorem edgs_get (l : List (Int × Int)) (i : Nat) (h : i < l.length) : (edgs l).getD i [] = [.int l[i].1, .int l[i].2] := by
  rw [getD_eq _ _ _ (by simpa using h)]; simp [edgs]

theorem Rk.edge {S v E} (h : Rk 2 S v (edgs E)) {i : Nat} (hi : i < E.length) : ∃ p p1 p2, iaddrR 2 S v (.int i) = .ok true p S ∧ loadR true 2 S p = .ok true (.agg [.int E[i].1, .int E[i].2]) S ∧
    addOff 0 S p = .ok true p1 S ∧ loadR false 1 S p1 = .ok true (.int E[i].1) S ∧ addOff 1 S p = .ok true p2 S ∧ loadR false 1 S p2 = .ok true (.int E[i].2) S := by
  obtain ⟨p, h1, h2, h3⟩ := h.elem (i := i) (by simpa using hi) (by rw [edgs_get _ _ hi]; rfl)
  obtain ⟨p1, a1, b1⟩ := h3 0
  obtain ⟨p2, a2, b2⟩ := h3 1
  refine ⟨p, p1, p2, h1, ?_, a1, ?_, a2, ?_⟩
  · rw [h2 true 2 (Nat.le_refl _), edgs_get _ _ hi]; rfl
  · rw [b1 false 1 (by omega), edgs_get _ _ hi]; rfl
  · rw [b2 false 1 (by omega), edgs_get _ _ hi]; rfl

/-- has. -/
theorem w25 {S : Heap} {v : AVal} {l : List Int} {x : Int} (h : Rk 1 S v (ints l)) (hl : l.length ≤ 4194304) : ACalls Try.prog β 25 [v, .int x] S fun e S' => e = .ret (.bool (decide (x ∈ l))) ∧ S' = S := by
  refine fn_sound tryOrd (f25_c β.G) (by simp [f25]) ?_
  simp [f25, f25m]
  refine mwp_loop (I := fun n a S' => ∃ i : Nat, n = l.length - i ∧ i ≤ l.length ∧ get a 0 = v ∧ get a 1 = .int x ∧ get a 5 = .int i ∧ S' = S ∧ x ∉ l.take i) (n := l.length) ?_ ?_
  · exact ⟨0, rfl, Nat.zero_le _, rfl, rfl, rfl, rfl, by simp⟩
  rintro n a S' ⟨i, rfl, hi, a0, a1, a5, rfl, hnot⟩
  by_cases hlt : i < l.length
  · obtain ⟨p, q1, q2⟩ := h.int hlt
    by_cases hx : l[i] = x
    · have : x ∈ l := hx ▸ List.getElem_mem hlt
      simp [f25b0, a0, a1, a5, h.lenR, hlt, q1, q2, hx, this]
    · have g : (l[i] == x) = false := beq_eq_false_iff_ne.2 hx
      simp [f25b0, a0, a1, a5, h.lenR, hlt, q1, q2, g, wrapS i (by omega)]
      exact ⟨l.length - (i + 1), by omega, i + 1, rfl, by omega, by simp, not_mem_take_succ hnot hlt hx⟩
  · have : i = l.length := by omega
    subst this
    rw [List.take_length] at hnot
    simp [f25b0, a0, a5, h.lenR, hnot]

/-- Is there that edge? -/
theorem w23 {S : Heap} {v : AVal} {E : List (Int × Int)} {x y : Int} (h : Rk 2 S v (edgs E)) (hl : E.length ≤ 4194304) : ACalls Try.prog β 23 [v, .int x, .int y] S fun e S' => e = .ret (.bool (decide ((x, y) ∈ E))) ∧ S' = S := by
  refine fn_sound tryOrd (f23_c β.G) (by simp [f23]) ?_
  simp [f23, f23m]
  refine mwp_loop (I := fun n a S' => ∃ i : Nat, n = E.length - i ∧ i ≤ E.length ∧ get a 0 = v ∧ get a 1 = .int x ∧ get a 2 = .int y ∧ get a 7 = .int i ∧ S' = S ∧ (x, y) ∉ E.take i) (n := E.length) ?_ ?_
  · exact ⟨0, rfl, Nat.zero_le _, rfl, rfl, rfl, rfl, rfl, by simp⟩
  rintro n a S' ⟨i, rfl, hi, a0, a1, a2, a7, rfl, hnot⟩
  by_cases hlt : i < E.length
  · obtain ⟨p, p1, p2, q1, q2, q3, q4, q5, q6⟩ := h.edge hlt
    by_cases hx : E[i].1 = x
    · by_cases hy : E[i].2 = y
      · have : (x, y) ∈ E := by rw [← hx, ← hy]; exact List.getElem_mem hlt
        simp [f23b0, a0, a1, a2, a7, h.lenR, hlt, q1, q3, q4, q5, q6, hx, hy, this]
      · have g : (E[i].2 == y) = false := beq_eq_false_iff_ne.2 hy
        simp [f23b0, a0, a1, a2, a7, h.lenR, hlt, q1, q3, q4, q5, q6, hx, g, wrapS i (by omega)]
        exact ⟨E.length - (i + 1), by omega, i + 1, rfl, by omega, by simp, not_mem_take_succ hnot hlt fun e => hy (by rw [e])⟩
    · have g : (E[i].1 == x) = false := beq_eq_false_iff_ne.2 hx
      simp [f23b0, a0, a1, a2, a7, h.lenR, hlt, q1, q3, q4, g, wrapS i (by omega)]
      exact ⟨E.length - (i + 1), by omega, i + 1, rfl, by omega, by simp, not_mem_take_succ hnot hlt fun e => hx (by rw [e])⟩
  · have : i = E.length := by omega
    subst this
    rw [List.take_length] at hnot
    simp [f23b0, a0, a7, h.lenR, hnot]

/-- SameInts. -/
theorem w11 {S : Heap} {v u : AVal} {l r : List Int} (h : Rk 1 S v (ints l)) (h' : Rk 1 S u (ints r)) (hl : l.length ≤ 4194304) : ACalls Try.prog β 11 [v, u] S fun e S' => e = .ret (.bool (decide (l = r))) ∧ S' = S := by
  refine fn_sound tryOrd (f11_c β.G) (by simp [f11]) ?_
  by_cases hlen : l.length = r.length
  rotate_left 1
  · have g : ((l.length : Int) == (r.length : Int)) = false := beq_eq_false_iff_ne.2 (by omega)
    have hne : l ≠ r := fun e => hlen (by rw [e])
    simp [f11, f11m, h.lenR, h'.lenR, bne, g, hne]
  simp [f11, f11m, h.lenR, h'.lenR, hlen]
  refine mwp_loop (I := fun n a S' => ∃ i : Nat, n = l.length - i ∧ i ≤ l.length ∧ get a 0 = v ∧ get a 1 = u ∧ get a 5 = .int i ∧ S' = S ∧ l.take i = r.take i) (n := l.length) ?_ ?_
  · exact ⟨0, rfl, Nat.zero_le _, rfl, rfl, rfl, rfl, by simp⟩
  rintro n a S' ⟨i, rfl, hi, a0, a1, a5, rfl, hsame⟩
  by_cases hlt : i < l.length
  · have hlt' : i < r.length := by omega
    obtain ⟨p, q1, q2⟩ := h.int hlt
    obtain ⟨p', q3, q4⟩ := h'.int hlt'
    by_cases hx : l[i] = r[i]
    · simp [f11b0, a0, a1, a5, h.lenR, hlt, q1, q2, q3, q4, hx, wrapS i (by omega)]
      refine ⟨l.length - (i + 1), by omega, i + 1, rfl, by omega, by simp, ?_⟩
      rw [List.take_add_one, List.take_add_one, List.getElem?_eq_getElem hlt, List.getElem?_eq_getElem hlt', hsame, hx]
    · have g : (l[i] == r[i]) = false := beq_eq_false_iff_ne.2 hx
      have hne : l ≠ r := fun e => hx (by subst e; rfl)
      simp [f11b0, a0, a1, a5, h.lenR, hlt, q1, q2, q3, q4, bne, g, hne]
  · have : i = l.length := by omega
    have heq : l = r := by rw [← List.take_length (l := l), ← List.take_length (l := r), ← hlen, ← this]; exact hsame
    have hge : ¬ i < r.length := by omega
    simp [f11b0, a0, a5, h.lenR, hge, heq]

/-- slices.Contains. -/
theorem w37 {S : Heap} {v : AVal} {l : List Int} {x : Int} (h : Rk 1 S v (ints l)) (hl : l.length ≤ 4194304) : ACalls Try.prog β 37 [v, .int x] S fun e S' => e = .ret (.bool (decide (x ∈ l))) ∧ S' = S := by
  have h45 : ACalls Try.prog β 45 [v, .int x] S fun e S' => ∃ n : Int, e = .ret (.int n) ∧ (0 ≤ n ↔ x ∈ l) ∧ S' = S := by
    refine fn_sound tryOrd (f45_c β.G) (by simp [f45]) ?_
    simp [f45, f45m, h.lenR]
    refine mwp_loop (I := fun n a S' => ∃ i : Nat, n = l.length - i ∧ i ≤ l.length ∧ get a 0 = v ∧ get a 1 = .int x ∧ get a 7 = .int l.length ∧ get a 8 = .int i ∧ S' = S ∧ x ∉ l.take i) (n := l.length) ?_ ?_
    · exact ⟨0, rfl, Nat.zero_le _, rfl, rfl, rfl, rfl, rfl, by simp⟩
    rintro n a S' ⟨i, rfl, hi, a0, a1, a7, a8, rfl, hnot⟩
    by_cases hlt : i < l.length
    · obtain ⟨p, q1, q2⟩ := h.int hlt
      by_cases hx : x = l[i]
      · have : l[i] ∈ l := List.getElem_mem hlt
        simp [f45b0, a0, a1, a7, a8, hlt, q1, q2, hx, this]
      · have g : (x == l[i]) = false := beq_eq_false_iff_ne.2 hx
        simp [f45b0, a0, a1, a7, a8, hlt, q1, q2, g, wrapS i (by omega)]
        exact ⟨l.length - (i + 1), by omega, i + 1, rfl, by omega, by simp, not_mem_take_succ hnot hlt fun e => hx e.symm⟩
    · have : i = l.length := by omega
      subst this
      rw [List.take_length] at hnot
      simp [f45b0, a7, a8, hnot]
  refine fn_sound tryOrd (f37_c β.G) (by simp [f37]) ?_
  simp [f37, f37m]
  refine h45.use ?_
  rintro e S' ⟨n, rfl, hn, rfl⟩
  by_cases h0 : 0 ≤ n
  · simp [h0, hn.1 h0]
  · have : x ∉ l := fun hx => h0 (hn.2 hx)
    simp [h0, this]

/-- What slices.Max and Victim tell. -/
def maxL : List Int → Int
  | [] => 0
  | x :: r => r.foldl (fun m y => if y > m then y else m) x

theorem w28 {S : Heap} {v : AVal} {l : List Int} (h : Rk 1 S v (ints l)) (hl : l.length ≤ 4194304) (h0 : l ≠ []) : ACalls Try.prog β 28 [v] S fun e S' => e = .ret (.int (maxL l)) ∧ S' = S := by
  refine fn_sound tryOrd (f28_c β.G) (by simp [f28]) ?_
  have hpos : 0 < l.length := List.length_pos_iff.2 h0
  have hge : ¬ (l.length : Int) < 1 := by omega
  obtain ⟨p, q1, q2⟩ := h.int hpos
  simp at q1
  simp [f28, f28m, h.lenR, hge, q1, q2]
  refine mwp_loop (I := fun n a S' => ∃ i : Nat, n = l.length - i ∧ 1 ≤ i ∧ i ≤ l.length ∧ get a 0 = v ∧ get a 3 = .int (maxL (l.take i)) ∧ get a 4 = .int i ∧ S' = S) (n := l.length - 1) ?_ ?_
  · refine ⟨1, rfl, by omega, by omega, rfl, ?_, rfl, rfl⟩
    cases l with
    | nil => exact absurd rfl h0
    | cons x r => simp [maxL]
  rintro n a S' ⟨i, rfl, h1, hi, a0, a3, a4, rfl⟩
  by_cases hlt : i < l.length
  · obtain ⟨p, q1, q2⟩ := h.int hlt
    simp [f28b0, a0, a3, a4, h.lenR, hlt, q1, q2, wrapS i (by omega)]
    refine ⟨l.length - (i + 1), by omega, i + 1, rfl, by omega, by omega, ?_, by simp⟩
    rw [List.take_add_one, List.getElem?_eq_getElem hlt]
    cases hT : l.take i with
    | nil => have := congrArg List.length hT; rw [List.length_take, List.length_nil] at this; omega
    | cons y t => simp [maxL]
  · have : i = l.length := by omega
    subst this
    rw [List.take_length] at a3
    simp [f28b0, a0, a3, a4, h.lenR]

theorem w14 {S : Heap} {v : AVal} {l : List Int} (h : Rk 1 S v (ints l)) (hl : l.length ≤ 4194304) : ACalls Try.prog β 14 [v] S fun e S' => e = .ret (.int (maxL l)) ∧ S' = S := by
  refine fn_sound tryOrd (f14_c β.G) (by simp [f14]) ?_
  cases l with
  | nil => simp [f14, f14m, h.lenR, maxL]
  | cons x r =>
    have g : ((r.length : Int) + 1 == 0) = false := beq_eq_false_iff_ne.2 (by omega)
    simp [f14, f14m, h.lenR, g]
    refine (w28 h hl (by simp)).use ?_
    rintro e S' ⟨rfl, rfl⟩
    simp

theorem w15 {S : Heap} {v : AVal} {l : List Int} (h : Rk 1 S v (ints l)) (hl : l.length ≤ 4194304) : ACalls Try.prog β 15 [v] S fun e S' => e = .ret (.int (maxL l)) ∧ S' = S := by
  refine fn_sound tryOrd (f15_c β.G) (by simp [f15]) ?_
  cases hL : l with
  | nil => subst hL; simp [f15, f15m, h.lenR, maxL]
  | cons x r =>
    have hpos : 0 < l.length := by rw [hL]; simp
    have g : ((l.length : Int) == 0) = false := beq_eq_false_iff_ne.2 (by omega)
    obtain ⟨p, q1, q2⟩ := h.int hpos
    simp at q1
    simp [f15, f15m, h.lenR, g, q1, q2]
    refine mwp_loop (I := fun n a S' => ∃ i : Nat, n = l.length - i ∧ i ≤ l.length ∧ get a 0 = v ∧ get a 3 = .int (maxL (l.take (max i 1))) ∧ get a 4 = .int i ∧ S' = S) (n := l.length) ?_ ?_
    · refine ⟨0, rfl, by omega, rfl, ?_, rfl, rfl⟩
      subst hL; simp [maxL]
    rintro n a S' ⟨i, rfl, hi, a0, a3, a4, rfl⟩
    by_cases hlt : i < l.length
    · obtain ⟨p, q1, q2⟩ := h.int hlt
      have key : maxL (l.take (max (i + 1) 1)) = if l[i] > maxL (l.take (max i 1)) then l[i] else maxL (l.take (max i 1)) := by
        rcases Nat.eq_zero_or_pos i with h0 | h0
        · subst h0; subst hL; simp [maxL]
        · rw [show max (i + 1) 1 = i + 1 by omega, show max i 1 = i by omega, List.take_add_one, List.getElem?_eq_getElem hlt]
          cases hT : l.take i with
          | nil => have := congrArg List.length hT; rw [List.length_take, List.length_nil] at this; omega
          | cons y t => simp [maxL]
      by_cases hgt : l[i] > maxL (l.take (max i 1))
      · rw [if_pos hgt] at key
        have hgt' : maxL (l.take (max i 1)) < l[i] := hgt
        simp [f15b0, a0, a3, a4, h.lenR, hlt, q1, q2, hgt', wrapS i (by omega)]
        exact ⟨l.length - (i + 1), by omega, i + 1, rfl, by omega, by rw [key], by simp⟩
      · rw [if_neg hgt] at key
        have hgt' : ¬ maxL (l.take (max i 1)) < l[i] := hgt
        simp [f15b0, a0, a3, a4, h.lenR, hlt, q1, q2, hgt', wrapS i (by omega)]
        exact ⟨l.length - (i + 1), by omega, i + 1, rfl, by omega, by rw [key], by simp⟩
    · have : i = l.length := by omega
      subst this
      rw [show max l.length 1 = l.length by omega, List.take_length] at a3
      simp [f15b0, a0, a3, a4, h.lenR, hL]
end Go.Abs
