/- The plain laws of the search: it depends on the edges' set alone. Conditions: none; lemmas. -/
import Derived.Test.YtjoehmgnapdhaaaW9
set_option linter.unusedSimpArgs false
set_option linter.unusedVariables false
namespace Go.Abs
open Go Go.RowKit Go.Proofs

theorem sortI_sorted (l : List Int) : (sortI l).Pairwise (· ≤ ·) := by
  have := List.pairwise_mergeSort (le := fun x y : Int => decide (x ≤ y)) (fun a b c h1 h2 => by simp only [decide_eq_true_eq] at *; omega) (fun a b => by simp only [Bool.or_eq_true, decide_eq_true_eq]; omega) l
  exact this.imp fun h => by simpa using h

theorem cmpt_sorted : ∀ (l : List Int), l.Pairwise (· ≤ ·) → (cmpt l).Pairwise (· < ·)
  | [], _ => by simp [cmpt]
  | [a], _ => by simp [cmpt]
  | a :: b :: r, h => by
    rw [List.pairwise_cons] at h
    have ih := cmpt_sorted (b :: r) h.2
    simp only [cmpt]
    split
    · exact ih
    · rename_i hne
      rw [List.pairwise_cons]
      refine ⟨fun y hy => ?_, ih⟩
      rw [cmpt_mem] at hy
      have h1 := h.1 b (by simp)
      rcases List.mem_cons.1 hy with hy | hy
      · subst hy; omega
      · have := (List.pairwise_cons.1 h.2).1 y hy; omega

theorem nxt_sorted (E : List (Int × Int)) (x : Int) : (nxt E x).Pairwise (· < ·) := cmpt_sorted _ (sortI_sorted _)

theorem sorted_ext : ∀ {l r : List Int}, l.Pairwise (· < ·) → r.Pairwise (· < ·) → (∀ x, x ∈ l ↔ x ∈ r) → l = r
  | [], [], _, _, _ => rfl
  | [], y :: r, _, _, h => by have := (h y).2 (by simp); simp at this
  | x :: l, [], _, _, h => by have := (h x).1 (by simp); simp at this
  | x :: l, y :: r, h1, h2, h => by
    rw [List.pairwise_cons] at h1 h2
    have hxy : x = y := by
      have a := (h x).1 (by simp)
      have b := (h y).2 (by simp)
      rcases List.mem_cons.1 a with a | a
      · exact a
      · rcases List.mem_cons.1 b with b | b
        · exact b.symm
        · have := h2.1 x a; have := h1.1 y b; omega
    subst hxy
    rw [sorted_ext h1.2 h2.2 fun z => ?_]
    have := h z
    simp only [List.mem_cons] at this
    constructor
    · intro hz
      rcases this.1 (.inr hz) with e | e
      · subst e; have := h1.1 z hz; omega
      · exact e
    · intro hz
      rcases this.2 (.inr hz) with e | e
      · subst e; have := h2.1 z hz; omega
      · exact e

theorem nxt_congr {E E' : List (Int × Int)} (h : ∀ e, e ∈ E ↔ e ∈ E') : nxt E = nxt E' := by
  funext x
  exact sorted_ext (nxt_sorted E x) (nxt_sorted E' x) fun y => by rw [nxt_mem, nxt_mem, h]

theorem goL_sub {f : List Int → List Int → Int → DR} (hf : ∀ m w y, ∀ q ∈ m, q ∈ (f m w y).2.1) : ∀ (ys m w : List Int), ∀ q ∈ m, q ∈ (goL f ys m w).2.1
  | [], m, w, q, h => h
  | y :: ys, m, w, q, h => by
    simp only [goL]
    split
    · exact goL_sub hf ys m w q h
    · split
      · exact hf m w y q h
      · exact goL_sub hf ys _ _ q (hf m w y q h)
theorem dfs_sub (nx z) : ∀ n m w y, ∀ q ∈ m, q ∈ (dfs nx z n m w y).2.1
  | 0, m, w, y, q, h => h
  | n + 1, m, w, y, q, h => by
    have h' : q ∈ m ++ [y] := List.mem_append_left _ h
    simp only [dfs]
    split
    · exact h'
    · split
      · exact goL_sub (dfs_sub nx z n) _ _ _ q h'
      · exact goL_sub (dfs_sub nx z n) _ _ _ q h'

theorem goL_fuel {V : List Int} {f g : List Int → List Int → Int → DR} {k : Nat} (hf : ∀ m w y, ∀ q ∈ m, q ∈ (f m w y).2.1) (h : ∀ m w y, y ∈ V → y ∉ m → mu V (m ++ [y]) < k → f m w y = g m w y) :
    ∀ (ys m w : List Int), (∀ y ∈ ys, y ∈ V) → mu V m ≤ k → goL f ys m w = goL g ys m w
  | [], m, w, _, _ => rfl
  | y :: ys, m, w, hs, hm => by
    simp only [goL]
    have hs' : ∀ u ∈ ys, u ∈ V := fun u hu => hs u (List.mem_cons_of_mem _ hu)
    split
    · exact goL_fuel hf h ys m w hs' hm
    · rename_i hy
      have hyV := hs y (by simp)
      have := mu_lt hyV hy
      have he := h m w y hyV hy (by omega)
      rw [← he]
      split
      · rfl
      · refine goL_fuel hf h ys _ _ hs' ?_
        have := mu_le (V := V) (hf m w y); omega

theorem dfs_fuel {nx : Int → List Int} {z : Int} {V : List Int} (hV : ∀ x, ∀ y ∈ nx x, y ∈ V) : ∀ n n' m w x, mu V (m ++ [x]) < n → mu V (m ++ [x]) < n' → dfs nx z n m w x = dfs nx z n' m w x
  | 0, _, _, _, _, h, _ => absurd h (Nat.not_lt_zero _)
  | _ + 1, 0, _, _, _, _, h => absurd h (Nat.not_lt_zero _)
  | n + 1, n' + 1, m, w, x, h, h' => by
    have key : goL (dfs nx z n) (nx x) (m ++ [x]) (w ++ [x]) = goL (dfs nx z n') (nx x) (m ++ [x]) (w ++ [x]) :=
      goL_fuel (V := V) (k := mu V (m ++ [x])) (dfs_sub nx z n) (fun m' w' y _ _ hlt => dfs_fuel hV n n' m' w' y (by omega) (by omega)) _ _ _ (hV x) (Nat.le_refl _)
    simp only [dfs, key]

theorem tos_mem {E : List (Int × Int)} {x y : Int} (h : y ∈ nxt E x) : y ∈ tos E := List.mem_map.2 ⟨(x, y), (nxt_mem E x y).1 h, rfl⟩

theorem cyc_fuel (E : List (Int × Int)) (z : Int) (n : Nat) (h : E.length < n) : dfs (nxt E) z n [] [] z = dfs (nxt E) z (E.length + 2) [] [] z := by
  have hm := mu_len (tos E) ([] ++ [z])
  simp only [tos, List.length_map] at hm
  exact dfs_fuel (V := tos E) (fun x y hy => tos_mem hy) _ _ _ _ _ (by simp only [tos]; omega) (by simp only [tos]; omega)

theorem cyc_congr {E E' : List (Int × Int)} (h : ∀ e, e ∈ E ↔ e ∈ E') (z : Int) : cyc E z = cyc E' z := by
  unfold cyc
  rw [← cyc_fuel E z (E.length + E'.length + 2) (by omega), ← cyc_fuel E' z (E.length + E'.length + 2) (by omega), nxt_congr h]
end Go.Abs
