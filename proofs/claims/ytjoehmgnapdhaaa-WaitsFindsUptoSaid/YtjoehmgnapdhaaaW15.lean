/- The plain laws of reaching: what Reach tells, what the search tells. Conditions: none; lemmas. -/
import Derived.Test.YtjoehmgnapdhaaaW11
set_option linter.unusedSimpArgs false
set_option linter.unusedVariables false
namespace Go.Abs
open Go Go.RowKit Go.Proofs

/-- One can come from one to another along the edges, by one at least. -/
inductive Rch (E : List (Int × Int)) : Int → Int → Prop
  | one {a b} (h : (a, b) ∈ E) : Rch E a b
  | step {a b c} (h : (a, b) ∈ E) (r : Rch E b c) : Rch E a c

theorem Rch.snoc {E a b c} (h : Rch E a b) (e : (b, c) ∈ E) : Rch E a c := by
  induction h with
  | one h => exact .step h (.one e)
  | step h _ ih => exact .step h (ih e)

/-! ### Reach -/
theorem bfsStep_sub {x : Int} : ∀ (L : List (Int × Int)) (m w : List Int), (∀ y ∈ m, y ∈ (L.foldl (bfsStep x) (m, w)).1) ∧ (∀ y ∈ w, y ∈ (L.foldl (bfsStep x) (m, w)).2) ∧
    (∀ y, (x, y) ∈ L → y ∈ (L.foldl (bfsStep x) (m, w)).1) ∧ (∀ y ∈ (L.foldl (bfsStep x) (m, w)).1, y ∈ m ∨ (x, y) ∈ L ∧ y ∈ (L.foldl (bfsStep x) (m, w)).2) ∧ (∀ y ∈ (L.foldl (bfsStep x) (m, w)).2, y ∈ w ∨ (x, y) ∈ L) ∧
    (L.foldl (bfsStep x) (m, w)).2.length + m.length = w.length + (L.foldl (bfsStep x) (m, w)).1.length
  | [], m, w => by simp
  | e :: L, m, w => by
    rw [List.foldl_cons]
    by_cases hc : e.1 = x ∧ e.2 ∉ m
    · have hs : bfsStep x (m, w) e = (m ++ [e.2], w ++ [e.2]) := by simp only [bfsStep]; rw [if_pos hc]
      rw [hs]
      obtain ⟨h1, h2, h3, h4, h5, h6⟩ := bfsStep_sub (x := x) L (m ++ [e.2]) (w ++ [e.2])
      have hxe : (x, e.2) = e := by rw [← hc.1]
      refine ⟨fun y hy => h1 y (by simp [hy]), fun y hy => h2 y (by simp [hy]), fun y hy => ?_, fun y hy => ?_, fun y hy => ?_, by simp at h6 ⊢; omega⟩
      · rcases List.mem_cons.1 hy with h | h
        · exact h1 y (by rw [← h]; simp)
        · exact h3 y h
      · rcases h4 y hy with h | ⟨h, h'⟩
        · rcases List.mem_append.1 h with h | h
          · exact .inl h
          · simp only [List.mem_singleton] at h
            subst h
            exact .inr ⟨by rw [hxe]; simp, h2 _ (by simp)⟩
        · exact .inr ⟨List.mem_cons_of_mem _ h, h'⟩
      · rcases h5 y hy with h | h
        · rcases List.mem_append.1 h with h | h
          · exact .inl h
          · simp only [List.mem_singleton] at h
            subst h
            exact .inr (by rw [hxe]; simp)
        · exact .inr (List.mem_cons_of_mem _ h)
    · have hs : bfsStep x (m, w) e = (m, w) := by simp only [bfsStep]; rw [if_neg hc]
      rw [hs]
      obtain ⟨h1, h2, h3, h4, h5, h6⟩ := bfsStep_sub (x := x) L m w
      refine ⟨h1, h2, fun y hy => ?_, fun y hy => ?_, fun y hy => ?_, h6⟩
      · rcases List.mem_cons.1 hy with h | h
        · subst h
          exact h1 y (Decidable.of_not_not fun hn => hc ⟨rfl, hn⟩)
        · exact h3 y h
      · rcases h4 y hy with h | ⟨h, h'⟩
        · exact .inl h
        · exact .inr ⟨List.mem_cons_of_mem _ h, h'⟩
      · rcases h5 y hy with h | h
        · exact .inl h
        · exact .inr (List.mem_cons_of_mem _ h)

/-- Enough rounds: each takes one away, and each number comes once. -/
theorem bfs_some {E : List (Int × Int)} : ∀ (n : Nat) (m w : List Int), Bi E m w → w.length + (E.length - m.length) ≤ n → ∃ r, bfs E n m w = some r
  | n, m, [], _, _ => ⟨m, by cases n <;> rfl⟩
  | 0, m, x :: w, _, h => by simp at h
  | n + 1, m, x :: w, hb, h => by
    have hb' : Bi E m w := ⟨hb.nd, hb.sub, by have := hb.len; simp at this; omega⟩
    have hb2 := hb'.fold x E.length
    rw [List.take_length] at hb2
    have h6 := (bfsStep_sub (x := x) E m w).2.2.2.2.2
    have hl := hb2.mlen
    have hl0 := hb.mlen
    simp only [List.length_cons] at h
    obtain ⟨r, hr⟩ := bfs_some n _ _ hb2 (by omega)
    exact ⟨r, hr⟩

theorem bfs_spec {E : List (Int × Int)} {a : Int} : ∀ (n : Nat) (m w r : List Int), bfs E n m w = some r → (∀ y ∈ m, Rch E a y) → (∀ y ∈ w, y = a ∨ Rch E a y) → (∀ y, (y = a ∨ y ∈ m) → y ∈ w ∨ ∀ s, (y, s) ∈ E → s ∈ m) → ∀ y, y ∈ r ↔ Rch E a y
  | n, m, [], r, h, hm, _, hc => by
    have : m = r := by cases n <;> simpa [bfs] using h
    subst this
    intro y
    refine ⟨hm y, fun hr => ?_⟩
    have key : ∀ b c, Rch E b c → (b = a ∨ b ∈ m) → c ∈ m := by
      intro b c hbc
      induction hbc with
      | one e => intro hb; rcases hc _ hb with h' | h'; cases h'; exact h' _ e
      | step e _ ih => intro hb; rcases hc _ hb with h' | h'; cases h'; exact ih (.inr (h' _ e))
    exact key a y hr (.inl rfl)
  | 0, m, x :: w, r, h, _, _, _ => by simp [bfs] at h
  | n + 1, m, x :: w, r, h, hm, hw, hc => by
    simp only [bfs] at h
    obtain ⟨h1, h2, h3, h4, h5, _⟩ := bfsStep_sub (x := x) E m w
    have hx : x = a ∨ Rch E a x := hw x (by simp)
    have hxy : ∀ y, (x, y) ∈ E → Rch E a y := fun y hy => by
      rcases hx with e | e
      · rw [← e]; exact .one hy
      · exact e.snoc hy
    refine bfs_spec n _ _ r h (fun y hy => ?_) (fun y hy => ?_) (fun y hy => ?_)
    · rcases h4 y hy with h' | h'
      · exact hm y h'
      · exact hxy y h'.1
    · rcases h5 y hy with h' | h'
      · exact hw y (List.mem_cons_of_mem _ h')
      · exact .inr (hxy y h')
    · have old : (y = a ∨ y ∈ m) → y ∈ (E.foldl (bfsStep x) (m, w)).2 ∨ ∀ s, (y, s) ∈ E → s ∈ (E.foldl (bfsStep x) (m, w)).1 := fun hy => by
        rcases hc y hy with h' | h'
        · rcases List.mem_cons.1 h' with h' | h'
          · subst h'; exact .inr h3
          · exact .inl (h2 y h')
        · exact .inr fun s hs => h1 s (h' s hs)
      rcases hy with hy | hy
      · exact old (.inl hy)
      · rcases h4 y hy with h' | h'
        · exact old (.inr h')
        · exact .inl h'.2

/-- What Reach keeps at its end. -/
def reachL (E : List (Int × Int)) (a : Int) : List Int := (bfs E (E.length + 1) [] [a]).getD []
theorem reach_run (E : List (Int × Int)) (a : Int) : bfs E (E.length + 1) [] [a] = some (reachL E a) := by
  obtain ⟨r, hr⟩ := bfs_some (E := E) (E.length + 1) [] [a] ⟨by simp, by simp, by simp⟩ (by simp; omega)
  rw [reachL, hr]; rfl
theorem reach_mem (E : List (Int × Int)) (a y : Int) : y ∈ reachL E a ↔ Rch E a y :=
  bfs_spec _ _ _ _ (reach_run E a) (by simp) (by simp) (fun y hy => by simp at hy; exact .inl (by simp [hy])) y

/-! ### The search: nothing is overlooked -/
structure Shut (nx : Int → List Int) (z : Int) (m m' : List Int) : Prop where
  sub : ∀ y ∈ m, y ∈ m'
  cl : ∀ y ∈ m', y ∉ m → z ∉ nx y ∧ ∀ s ∈ nx y, s ∈ m'

theorem Shut.trans {nx z m m' m''} (h : Shut nx z m m') (h' : Shut nx z m' m'') : Shut nx z m m'' :=
  ⟨fun y hy => h'.sub y (h.sub y hy), fun y hy hn => by
    by_cases hm : y ∈ m'
    · have := h.cl y hm hn; exact ⟨this.1, fun s hs => h'.sub s (this.2 s hs)⟩
    · exact h'.cl y hy hm⟩

theorem goL_shut {nx z} {f : List Int → List Int → Int → DR} {V : List Int} {k : Nat} (hf : ∀ m w y, y ∈ V → y ∉ m → mu V (m ++ [y]) < k → (f m w y).1 = false → Shut nx z m (f m w y).2.1 ∧ y ∈ (f m w y).2.1) :
    ∀ (ys m w : List Int), (∀ y ∈ ys, y ∈ V) → mu V m ≤ k → (goL f ys m w).1 = false → Shut nx z m (goL f ys m w).2.1 ∧ ∀ y ∈ ys, y ∈ (goL f ys m w).2.1
  | [], m, w, _, _, _ => ⟨⟨fun _ h => h, fun y h hn => absurd h hn⟩, fun y h => by simp at h⟩
  | y :: ys, m, w, hs, hm, h => by
    have hs' : ∀ u ∈ ys, u ∈ V := fun u hu => hs u (List.mem_cons_of_mem _ hu)
    simp only [goL] at h ⊢
    by_cases hy : y ∈ m
    · rw [if_pos hy] at h ⊢
      obtain ⟨h1, h2⟩ := goL_shut hf ys m w hs' hm h
      refine ⟨h1, fun u hu => ?_⟩
      rcases List.mem_cons.1 hu with e | e
      · subst e; exact h1.sub _ hy
      · exact h2 u e
    · rw [if_neg hy] at h ⊢
      by_cases ht : (f m w y).1 = true
      · rw [if_pos ht] at h; rw [ht] at h; cases h
      · rw [if_neg ht] at h ⊢
        have hyV := hs y (by simp)
        have hlt := mu_lt hyV hy
        obtain ⟨g1, g2⟩ := hf m w y hyV hy (by omega) (by simpa using ht)
        obtain ⟨h1, h2⟩ := goL_shut hf ys _ _ hs' (by have := mu_le (V := V) g1.sub; omega) h
        refine ⟨g1.trans h1, fun u hu => ?_⟩
        rcases List.mem_cons.1 hu with e | e
        · subst e; exact h1.sub _ g2
        · exact h2 u e

theorem dfs_shut {nx : Int → List Int} {z : Int} {V : List Int} (hV : ∀ x, ∀ y ∈ nx x, y ∈ V) : ∀ n m w x, mu V (m ++ [x]) < n → x ∉ m → (dfs nx z n m w x).1 = false → Shut nx z m (dfs nx z n m w x).2.1 ∧ x ∈ (dfs nx z n m w x).2.1
  | 0, _, _, _, h, _, _ => absurd h (Nat.not_lt_zero _)
  | n + 1, m, w, x, hn, hx, h => by
    simp only [dfs] at h ⊢
    by_cases hz : z ∈ nx x
    · rw [if_pos hz] at h; cases h
    · rw [if_neg hz] at h ⊢
      by_cases ht : (goL (dfs nx z n) (nx x) (m ++ [x]) (w ++ [x])).1 = true
      · rw [if_pos ht] at h; rw [ht] at h; cases h
      · rw [if_neg ht]
        obtain ⟨h1, h2⟩ := goL_shut (V := V) (k := mu V (m ++ [x])) (fun m' w' y _ hy hlt => dfs_shut hV n m' w' y (by omega) hy) (nx x) (m ++ [x]) (w ++ [x]) (hV x) (Nat.le_refl _) (by simpa using ht)
        refine ⟨⟨fun y hy => h1.sub y (by simp [hy]), fun y hy hn' => ?_⟩, h1.sub x (by simp)⟩
        by_cases hyx : y = x
        · subst hyx; exact ⟨hz, h2⟩
        · exact h1.cl y hy (by simp [hn', hyx])

/-! ### The search: what it tells is a way -/
/-- A way along the edges. -/
def Way (E : List (Int × Int)) : List Int → Prop
  | a :: b :: r => (a, b) ∈ E ∧ Way E (b :: r)
  | _ => True

theorem way_snoc {E : List (Int × Int)} : ∀ {l : List Int} {a b : Int}, Way E (l ++ [a]) → (a, b) ∈ E → Way E (l ++ [a] ++ [b])
  | [], _, _, _, h => ⟨h, trivial⟩
  | [_], _, _, h, h' => ⟨h.1, h', trivial⟩
  | _ :: d :: l, _, _, h, h' => ⟨h.1, way_snoc (l := d :: l) h.2 h'⟩

/-- A found way: from x on, through fresh ones, to one that leads to z. -/
structure Fnd (E : List (Int × Int)) (z : Int) (m : List Int) (x : Int) (p : List Int) : Prop where
  hd : ∃ r, p = x :: r
  way : Way E p
  nd : p.Nodup
  fr : ∀ y ∈ p, y ∉ m
  last : ∃ l e, p = l ++ [e] ∧ (e, z) ∈ E

theorem goL_found {E : List (Int × Int)} {z : Int} {f : List Int → List Int → Int → DR} (hw : ∀ m w y, (f m w y).1 = false → (f m w y).2.2 = w) (hs : ∀ m w y, ∀ q ∈ m, q ∈ (f m w y).2.1)
    (hf : ∀ m w y, y ∉ m → (f m w y).1 = true → ∃ p, (f m w y).2.2 = w ++ p ∧ Fnd E z m y p) : ∀ (ys m w : List Int), (goL f ys m w).1 = true → ∃ y ∈ ys, ∃ p m', (goL f ys m w).2.2 = w ++ p ∧ (∀ q ∈ m, q ∈ m') ∧ Fnd E z m' y p
  | [], m, w, h => by simp [goL] at h
  | y :: ys, m, w, h => by
    simp only [goL] at h ⊢
    by_cases hy : y ∈ m
    · rw [if_pos hy] at h ⊢
      obtain ⟨u, hu, r⟩ := goL_found hw hs hf ys m w h
      exact ⟨u, List.mem_cons_of_mem _ hu, r⟩
    · rw [if_neg hy] at h ⊢
      by_cases ht : (f m w y).1 = true
      · rw [if_pos ht]
        obtain ⟨p, hp, hfd⟩ := hf m w y hy ht
        exact ⟨y, by simp, p, m, hp, fun _ h => h, hfd⟩
      · rw [if_neg ht] at h ⊢
        have e := hw m w y (by simpa using ht)
        rw [e] at h ⊢
        obtain ⟨u, hu, p, m', hp, hsub, hfd⟩ := goL_found hw hs hf ys _ w h
        exact ⟨u, List.mem_cons_of_mem _ hu, p, m', hp, fun q hq => hsub q (hs m w y q hq), hfd⟩

theorem dfs_found {E : List (Int × Int)} {z : Int} : ∀ n m w x, x ∉ m → (dfs (nxt E) z n m w x).1 = true → ∃ p, (dfs (nxt E) z n m w x).2.2 = w ++ p ∧ Fnd E z m x p
  | 0, m, w, x, _, h => by simp [dfs] at h
  | n + 1, m, w, x, hx, h => by
    simp only [dfs] at h ⊢
    by_cases hz : z ∈ nxt E x
    · rw [if_pos hz]
      refine ⟨[x], rfl, ⟨[], rfl⟩, trivial, by simp, by simpa using hx, [], x, rfl, (nxt_mem E x z).1 hz⟩
    · rw [if_neg hz] at h ⊢
      by_cases ht : (goL (dfs (nxt E) z n) (nxt E x) (m ++ [x]) (w ++ [x])).1 = true
      · rw [if_pos ht]
        obtain ⟨y, hy, p, m', hp, hsub, hfd⟩ := goL_found (dfs_w (nxt E) z n) (dfs_sub (nxt E) z n) (fun m w y hy ht => dfs_found n m w y hy ht) _ _ _ ht
        obtain ⟨r, hr⟩ := hfd.hd
        obtain ⟨l, e, hl, he⟩ := hfd.last
        refine ⟨x :: p, by rw [hp]; simp, ⟨p, rfl⟩, ?_, ?_, ?_, x :: l, e, by rw [hl]; rfl, he⟩
        · rw [hr]; rw [hr] at hfd; exact ⟨(nxt_mem E x y).1 hy, hfd.way⟩
        · rw [List.nodup_cons]
          exact ⟨fun h => hfd.fr x h (hsub x (by simp)), hfd.nd⟩
        · intro q hq
          rcases List.mem_cons.1 hq with e | e
          · subst e; exact hx
          · exact fun hm => hfd.fr q e (hsub q (by simp [hm]))
      · rw [if_neg ht] at h; cases h

theorem cyc_false {E : List (Int × Int)} {z : Int} (h : (dfs (nxt E) z (E.length + 2) [] [] z).1 = false) : cyc E z = [] ∧ ¬ Rch E z z := by
  refine ⟨dfs_w _ _ _ _ _ _ h, fun hr => ?_⟩
  have hm := mu_len (tos E) ([] ++ [z])
  simp only [tos, List.length_map] at hm
  obtain ⟨hs, hz⟩ := dfs_shut (V := tos E) (fun x y hy => tos_mem hy) _ _ _ _ (by simp only [tos]; omega) (by simp) h
  have key : ∀ b c, Rch E b c → b ∈ (dfs (nxt E) z (E.length + 2) [] [] z).2.1 → c ≠ z := by
    intro b c hbc
    induction hbc with
    | one e =>
      intro hb hc
      subst hc
      exact (hs.cl _ hb (by simp)).1 ((nxt_mem E _ _).2 e)
    | step e _ ih => intro hb; exact ih ((hs.cl _ hb (by simp)).2 _ ((nxt_mem E _ _).2 e))
  exact key z z hr hz rfl

theorem way_rch {E : List (Int × Int)} {z : Int} : ∀ {r : List Int} {x : Int}, Way E (x :: r) → (∃ l e, x :: r = l ++ [e] ∧ (e, z) ∈ E) → Rch E x z
  | [], x, _, ⟨l, e, hl, he⟩ => by
    cases l with
    | nil => simp at hl; subst hl; exact .one he
    | cons a l => simp at hl
  | y :: r, x, hw, ⟨l, e, hl, he⟩ => by
    cases l with
    | nil => simp at hl
    | cons a l =>
      simp only [List.cons_append, List.cons.injEq] at hl
      exact .step hw.1 (way_rch hw.2 ⟨l, e, hl.2, he⟩)

/-- The cycle: found just if one can come back. -/
theorem cyc_spec (E : List (Int × Int)) (z : Int) : (cyc E z = [] ∧ ¬ Rch E z z) ∨ (Fnd E z [] z (cyc E z) ∧ Rch E z z) := by
  cases h : (dfs (nxt E) z (E.length + 2) [] [] z).1 with
  | false => exact .inl (cyc_false h)
  | true =>
    obtain ⟨p, hp, hfd⟩ := dfs_found _ _ _ _ (by simp) h
    rw [List.nil_append] at hp
    have : cyc E z = p := hp
    rw [this]
    obtain ⟨r, hr⟩ := hfd.hd
    exact .inr ⟨hfd, way_rch (by rw [← hr]; exact hfd.way) (by rw [← hr]; exact hfd.last)⟩
theorem cyc_pos (E : List (Int × Int)) (z : Int) : 0 < (cyc E z).length ↔ Rch E z z := by
  rcases cyc_spec E z with ⟨h, hn⟩ | ⟨h, hr⟩
  · simp [h, hn]
  · obtain ⟨r, e⟩ := h.hd
    simp [e, hr]
end Go.Abs
