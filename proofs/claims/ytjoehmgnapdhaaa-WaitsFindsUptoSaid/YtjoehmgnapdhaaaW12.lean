/- The walks of the example and of WaitsTurned. Conditions: the length; lemmas. -/
import Derived.Test.YtjoehmgnapdhaaaW10
import Derived.Test.YtjoehmgnapdhaaaW11
set_option linter.unusedSimpArgs false
set_option linter.unusedVariables false
namespace Go.Abs
open Go Go.RowKit Go.Proofs
variable {β : Base}

theorem Own.sc {N : Nat} {S0 S : Heap} {L} (h : Own N S0 S L) (i : Nat) {v k es} (hi : L[i]? = some (v, k, es)) : v.sc S.length = true := by
  cases h.ap i v k es hi with
  | none fl hf => simp
  | row id off len es cap hN hS hl => simp only [AVal.sc, decide_eq_true_eq]; exact lt_of_some hS
theorem Own.one {N : Nat} {S0 S : Heap} {L} (h : Own N S0 S L) (i : Nat) {v k es} (hi : L[i]? = some (v, k, es)) : v.one = true := by
  cases h.ap i v k es hi <;> rfl

theorem Own.keep {N : Nat} {S0 S S' : Heap} {L} (h : Own N S0 S L) (hs : ∀ j, j < S.length → S'[j]? = S[j]?) (hle : S.length ≤ S'.length) : Own N S0 S' L :=
  ⟨by have := h.le; omega, fun j hj => by rw [hs j (by have := h.le; omega)]; exact h.low j hj, fun i v k es hi => by
    cases h.ap i v k es hi with
    | none fl hf => exact .none fl hf
    | row id off len es cap hN hS hl => exact .row id off len es cap hN ((hs id (lt_of_some hS)).trans hS) hl, h.sep⟩

/-- New rows over rows. -/
theorem Own.join {N : Nat} {S0 S S' : Heap} {L M} (h : Own N S0 S L) (h' : Own S.length S S' M) : Own N S0 S' (L ++ M) := by
  have hk := h.keep h'.low h'.le
  have hidL : ∀ (q : Nat) id o l kk ee, L[q]? = some (.row id o l, kk, ee) → id < S.length := fun q id o l kk ee hq => by
    cases h.ap q _ _ _ hq with
    | row _ _ _ es cap hN h hl => exact lt_of_some h
  have hidM : ∀ (q : Nat) id o l kk ee, M[q]? = some (.row id o l, kk, ee) → S.length ≤ id := fun q id o l kk ee hq => by
    cases h'.ap q _ _ _ hq with
    | row _ _ _ es cap hN h hl => exact hN
  refine ⟨hk.le, hk.low, fun i v k es hi => ?_, fun i j id o l o' l' k es k' es' hi hj => ?_⟩
  · rcases Nat.lt_or_ge i L.length with hlt | hge
    · rw [List.getElem?_append_left hlt] at hi; exact hk.ap i v k es hi
    · rw [List.getElem?_append_right hge] at hi
      cases h'.ap _ v k es hi with
      | none fl hf => exact .none fl hf
      | row id off len es cap hN hS hl => exact .row id off len es cap (by have := h.le; omega) hS hl
  · rcases Nat.lt_or_ge i L.length with h1 | h1 <;> rcases Nat.lt_or_ge j L.length with h2 | h2
    · rw [List.getElem?_append_left h1] at hi; rw [List.getElem?_append_left h2] at hj
      exact h.sep i j id o l o' l' _ _ _ _ hi hj
    · rw [List.getElem?_append_left h1] at hi; rw [List.getElem?_append_right h2] at hj
      have := hidL _ _ _ _ _ _ hi; have := hidM _ _ _ _ _ _ hj; omega
    · rw [List.getElem?_append_right h1] at hi; rw [List.getElem?_append_left h2] at hj
      have := hidM _ _ _ _ _ _ hi; have := hidL _ _ _ _ _ _ hj; omega
    · rw [List.getElem?_append_right h1] at hi; rw [List.getElem?_append_right h2] at hj
      have := h'.sep _ _ id o l o' l' _ _ _ _ hi hj
      omega

def E0 : List (Int × Int) := [(1, 2), (2, 3), (3, 1), (2, 4)]
theorem E0_1 : nxt E0 1 = [2] := sorted_ext (nxt_sorted E0 1) (by simp) fun y => by rw [nxt_mem]; simp [E0]
theorem E0_2 : nxt E0 2 = [3, 4] := sorted_ext (nxt_sorted E0 2) (by simp) fun y => by rw [nxt_mem]; simp [E0]
theorem E0_3 : nxt E0 3 = [1] := sorted_ext (nxt_sorted E0 3) (by simp) fun y => by rw [nxt_mem]; simp [E0]
theorem E0_4 : nxt E0 4 = [] := sorted_ext (nxt_sorted E0 4) (by simp) fun y => by rw [nxt_mem]; simp [E0]
theorem cyc0_2 : cyc E0 2 = [2, 3, 1] := by
  have : E0.length + 2 = 6 := rfl
  unfold cyc
  rw [this]
  simp [dfs, goL, E0_1, E0_2, E0_3, E0_4]
theorem cyc0_4 : cyc E0 4 = [] := by
  have : E0.length + 2 = 6 := rfl
  unfold cyc
  rw [this]
  simp [dfs, goL, E0_4]

end Go.Abs
