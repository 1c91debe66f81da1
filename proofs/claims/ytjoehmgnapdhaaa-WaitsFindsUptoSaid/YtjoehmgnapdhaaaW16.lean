/- The plain law of the two searches: the one with a stack tells what the one into the depth tells. Conditions: none; lemmas. -/
import Derived.Test.YtjoehmgnapdhaaaW15
set_option linter.unusedSimpArgs false
set_option linter.unusedVariables false
namespace Go.Abs
open Go Go.RowKit Go.Proofs

def Mn (A : Int → Prop) (acc : Int × Bool) : Prop := (acc.2 = false ∧ ∀ y, ¬ A y) ∨ (acc.2 = true ∧ A acc.1 ∧ ∀ y, A y → acc.1 ≤ y)

theorem stepN_mn {x b : Int} {f : Bool} : ∀ (L : List (Int × Int)) (A : Int → Prop) (acc : Int × Bool), Mn A acc → Mn (fun y => A y ∨ ((x, y) ∈ L ∧ (f = true ∨ b < y))) (L.foldl (stepN x b f) acc)
  | [], A, acc, h => by simpa using h
  | e :: L, A, acc, h => by
    rw [List.foldl_cons]
    have hstep : Mn (fun y => A y ∨ ((x, y) = e ∧ (f = true ∨ b < y))) (stepN x b f acc e) := by
      unfold stepN
      split
      · rename_i hc
        refine .inr ⟨rfl, .inr ⟨by rw [← hc.1], hc.2.1⟩, fun y hy => ?_⟩
        rcases hy with hy | ⟨hy, _⟩
        · rcases h with ⟨h1, h2⟩ | ⟨h1, h2, h3⟩
          · exact absurd hy (h2 y)
          · rcases hc.2.2 with h4 | h4
            · rw [h1] at h4; cases h4
            · have := h3 y hy; simp only; omega
        · rw [← hy]; exact Int.le_refl _
      · rename_i hc
        rcases h with ⟨h1, h2⟩ | ⟨h1, h2, h3⟩
        · refine .inl ⟨h1, fun y hy => ?_⟩
          rcases hy with hy | ⟨hy, hf⟩
          · exact h2 y hy
          · exact hc ⟨by rw [← hy], by rw [← hy]; exact hf, .inl h1⟩
        · refine .inr ⟨h1, .inl h2, fun y hy => ?_⟩
          rcases hy with hy | ⟨hy, hf⟩
          · exact h3 y hy
          · rcases Int.lt_or_le y acc.1 with hlt | hle
            · exact absurd ⟨by rw [← hy], by rw [← hy]; exact hf, .inr (by rw [← hy]; exact hlt)⟩ hc
            · exact hle
    have := stepN_mn (x := x) (b := b) (f := f) L _ _ hstep
    have e1 : (fun y => (A y ∨ ((x, y) = e ∧ (f = true ∨ b < y))) ∨ ((x, y) ∈ L ∧ (f = true ∨ b < y))) = (fun y => A y ∨ ((x, y) ∈ e :: L ∧ (f = true ∨ b < y))) := by
      funext y
      simp only [List.mem_cons, eq_iff_iff]
      constructor
      · rintro ((h | ⟨h, h'⟩) | ⟨h, h'⟩)
        · exact .inl h
        · exact .inr ⟨.inl h, h'⟩
        · exact .inr ⟨.inr h, h'⟩
      · rintro (h | ⟨h | h, h'⟩)
        · exact .inl (.inl h)
        · exact .inl (.inr ⟨h, h'⟩)
        · exact .inr ⟨h, h'⟩
    rwa [e1] at this

/-- The successors still to try. -/
def rest (E : List (Int × Int)) (x b : Int) (f : Bool) : List Int := (nxt E x).filter fun y => f || decide (b < y)
theorem rest_mem (E : List (Int × Int)) (x b : Int) (f : Bool) (y : Int) : y ∈ rest E x b f ↔ (x, y) ∈ E ∧ (f = true ∨ b < y) := by
  simp [rest, List.mem_filter, nxt_mem]
theorem rest_sorted (E : List (Int × Int)) (x b : Int) (f : Bool) : (rest E x b f).Pairwise (· < ·) := (nxt_sorted E x).filter _
theorem rest_all (E : List (Int × Int)) (x b : Int) : rest E x b true = nxt E x := by simp [rest]

theorem nextF_rest {E : List (Int × Int)} {x b : Int} {f : Bool} : (rest E x b f = [] ∧ (nextF E x b f).2 = false) ∨ (∃ y ys, rest E x b f = y :: ys ∧ nextF E x b f = (y, true) ∧ rest E x y false = ys) := by
  have hm := stepN_mn (x := x) (b := b) (f := f) E (fun _ => False) (0, false) (.inl ⟨rfl, fun _ h => h⟩)
  have hm : Mn (fun y => False ∨ ((x, y) ∈ E ∧ (f = true ∨ b < y))) (nextF E x b f) := hm
  cases hr : rest E x b f with
  | nil =>
    refine .inl ⟨rfl, ?_⟩
    rcases hm with ⟨h, _⟩ | ⟨_, h, _⟩
    · exact h
    · have := (rest_mem E x b f (nextF E x b f).1).2 (by simpa using h)
      rw [hr] at this
      simp at this
  | cons y ys =>
    have hsort := rest_sorted E x b f
    rw [hr, List.pairwise_cons] at hsort
    have hy := (rest_mem E x b f y).1 (by rw [hr]; simp)
    refine .inr ⟨y, ys, rfl, ?_, ?_⟩
    · rcases hm with ⟨_, h⟩ | ⟨h, h', h''⟩
      · exact absurd (.inr hy) (h y)
      · have h1 := h'' y (.inr hy)
        have h2 := (rest_mem E x b f (nextF E x b f).1).2 (by simpa using h')
        rw [hr] at h2
        have h3 : (nextF E x b f).1 = y := by
          rcases List.mem_cons.1 h2 with e | e
          · exact e
          · have := hsort.1 _ e; omega
        exact Prod.ext h3 h
    · refine sorted_ext (rest_sorted E x y false) hsort.2 fun u => ?_
      rw [rest_mem]
      constructor
      · rintro ⟨h1, h2⟩
        have h2 : y < u := by simpa using h2
        have : u ∈ rest E x b f := (rest_mem E x b f u).2 ⟨h1, hy.2.imp id fun h => by omega⟩
        rw [hr] at this
        rcases List.mem_cons.1 this with e | e
        · omega
        · exact e
      · intro hu
        have := (rest_mem E x b f u).1 (by rw [hr]; exact List.mem_cons_of_mem _ hu)
        exact ⟨this.1, .inr (hsort.1 u hu)⟩

theorem cyRun_succ {E : List (Int × Int)} {z : Int} {n : Nat} {x b : Int} {f : Bool} {fr : List (Int × Int × Bool)} {m : List Int} : cyRun E z (n + 1) ((x, b, f) :: fr) m = if (x, z) ∈ E then some (ways ((x, b, f) :: fr)) else
      if (nextF E x b f).2 = true then
        if (nextF E x b f).1 ∈ m then cyRun E z n ((x, (nextF E x b f).1, false) :: fr) m
        else cyRun E z n (((nextF E x b f).1, 0, true) :: (x, (nextF E x b f).1, false) :: fr) (m ++ [(nextF E x b f).1])
      else cyRun E z n fr m := rfl

/-- The one search does what the other does. -/
def Sims (E : List (Int × Int)) (z : Int) (r : DR) (F : List (Int × Int × Bool)) (fr : List (Int × Int × Bool)) (m : List Int) : Prop :=
  (r.1 = true → ∃ k, ∀ j, cyRun E z (j + k) F m = some r.2.2) ∧ (r.1 = false → ∃ k, ∀ j, cyRun E z (j + k) F m = cyRun E z j fr r.2.1)

theorem Sims.step {E z r F F' fr m m'} (h : Sims E z r F fr m) (he : ∀ j, cyRun E z (j + 1) F' m' = cyRun E z j F m) : Sims E z r F' fr m' :=
  ⟨fun hr => by obtain ⟨k, hk⟩ := h.1 hr; exact ⟨k + 1, fun j => by rw [← Nat.add_assoc, he]; exact hk j⟩,
   fun hr => by obtain ⟨k, hk⟩ := h.2 hr; exact ⟨k + 1, fun j => by rw [← Nat.add_assoc, he]; exact hk j⟩⟩

theorem goL_sims {E : List (Int × Int)} {z : Int} {n : Nat} (ih : ∀ m y fr, y ∉ m → mu (tos E) (m ++ [y]) < n → Sims E z (dfs (nxt E) z n m (ways fr) y) ((y, 0, true) :: fr) fr (m ++ [y])) :
    ∀ (ys m : List Int) (x b : Int) (f : Bool) (fr : List (Int × Int × Bool)), (x, z) ∉ E → rest E x b f = ys → mu (tos E) m ≤ n → Sims E z (goL (dfs (nxt E) z n) ys m (ways ((x, b, f) :: fr))) ((x, b, f) :: fr) fr m
  | [], m, x, b, f, fr, hx, hr, _ => by
    refine ⟨fun h => by simp [goL] at h, fun _ => ⟨1, fun j => ?_⟩⟩
    rw [cyRun_succ, if_neg hx]
    rcases nextF_rest (E := E) (x := x) (b := b) (f := f) with ⟨_, h⟩ | ⟨y, ys, h, _⟩
    · rw [if_neg (by rw [h]; simp)]; rfl
    · rw [hr] at h; cases h
  | y :: ys, m, x, b, f, fr, hx, hr, hm => by
    rcases nextF_rest (E := E) (x := x) (b := b) (f := f) with ⟨h, _⟩ | ⟨y', ys', h, hn, hrest⟩
    · rw [hr] at h; cases h
    rw [hr, List.cons.injEq] at h
    obtain ⟨rfl, rfl⟩ := h
    have hw : ways ((x, b, f) :: fr) = ways ((x, y, false) :: fr) := by simp [ways]
    have hyV : y ∈ tos E := List.mem_map.2 ⟨(x, y), ((rest_mem E x b f y).1 (by rw [hr]; simp)).1, rfl⟩
    simp only [goL]
    by_cases hym : y ∈ m
    · rw [if_pos hym, hw]
      refine (goL_sims ih ys m x y false fr hx hrest hm).step fun j => ?_
      rw [cyRun_succ, if_neg hx, hn, if_pos rfl, if_pos hym]
    · rw [if_neg hym]
      have hlt := mu_lt hyV hym
      have h1 := ih m y ((x, y, false) :: fr) hym (by omega)
      rw [← hw] at h1
      have he : ∀ j, cyRun E z (j + 1) ((x, b, f) :: fr) m = cyRun E z j ((y, 0, true) :: (x, y, false) :: fr) (m ++ [y]) := fun j => by
        rw [cyRun_succ, if_neg hx, hn, if_pos rfl, if_neg hym]
      by_cases ht : (dfs (nxt E) z n m (ways ((x, b, f) :: fr)) y).1 = true
      · rw [if_pos ht]
        obtain ⟨k, hk⟩ := h1.1 ht
        exact ⟨fun _ => ⟨k + 1, fun j => by rw [← Nat.add_assoc, he]; exact hk j⟩, fun h => by rw [ht] at h; cases h⟩
      · rw [if_neg ht]
        have ht' : (dfs (nxt E) z n m (ways ((x, b, f) :: fr)) y).1 = false := by simpa using ht
        obtain ⟨k, hk⟩ := h1.2 ht'
        have hsub := dfs_sub (nxt E) z n m (ways ((x, b, f) :: fr)) y
        have h2 := goL_sims ih ys (dfs (nxt E) z n m (ways ((x, b, f) :: fr)) y).2.1 x y false fr hx hrest (by have := mu_le (V := tos E) hsub; omega)
        rw [dfs_w _ _ _ _ _ _ ht', hw]
        rw [hw] at h2 hk
        refine ⟨fun hr' => ?_, fun hr' => ?_⟩
        · obtain ⟨k2, hk2⟩ := h2.1 hr'
          refine ⟨k2 + (k + 1), fun j => ?_⟩
          rw [show j + (k2 + (k + 1)) = (j + k2) + k + 1 by omega, he, hk]; exact hk2 j
        · obtain ⟨k2, hk2⟩ := h2.2 hr'
          refine ⟨k2 + (k + 1), fun j => ?_⟩
          rw [show j + (k2 + (k + 1)) = (j + k2) + k + 1 by omega, he, hk]; exact hk2 j

theorem dfs_sims {E : List (Int × Int)} {z : Int} : ∀ n m x fr, x ∉ m → mu (tos E) (m ++ [x]) < n → Sims E z (dfs (nxt E) z n m (ways fr) x) ((x, 0, true) :: fr) fr (m ++ [x])
  | 0, _, _, _, _, h => absurd h (Nat.not_lt_zero _)
  | n + 1, m, x, fr, hx, hn => by
    simp only [dfs]
    by_cases hz : z ∈ nxt E x
    · rw [if_pos hz]
      refine ⟨fun _ => ⟨1, fun j => ?_⟩, fun h => by cases h⟩
      rw [cyRun_succ, if_pos ((nxt_mem E x z).1 hz), ways_cons]
    · rw [if_neg hz]
      have hxz : (x, z) ∉ E := fun h => hz ((nxt_mem E x z).2 h)
      have h1 := goL_sims (z := z) (fun m y fr hy hlt => dfs_sims n m y fr hy hlt) (nxt E x) (m ++ [x]) x 0 true fr hxz (rest_all E x 0) (by omega)
      rw [ways_cons] at h1
      by_cases ht : (goL (dfs (nxt E) z n) (nxt E x) (m ++ [x]) (ways fr ++ [x])).1 = true
      · rw [if_pos ht]; exact h1
      · rw [if_neg ht]
        exact ⟨fun h => (by cases h), fun _ => h1.2 (by simpa using ht)⟩

theorem cyc_run (E : List (Int × Int)) (z : Int) : ∃ k, cyRun E z k [(z, 0, true)] [z] = some (cyc E z) := by
  have hm := mu_len (tos E) ([] ++ [z])
  simp only [tos, List.length_map] at hm
  have h := dfs_sims (E := E) (z := z) (E.length + 2) [] z [] (by simp) (by simp only [tos]; omega)
  have hw : ways [] = [] := rfl
  rw [hw] at h
  cases hr : (dfs (nxt E) z (E.length + 2) [] [] z).1 with
  | true =>
    obtain ⟨k, hk⟩ := h.1 hr
    exact ⟨0 + k, hk 0⟩
  | false =>
    obtain ⟨k, hk⟩ := h.2 hr
    refine ⟨0 + k, ?_⟩
    rw [(cyc_false hr).1]
    rw [List.nil_append] at hk
    rw [hk 0]
    rfl
end Go.Abs
