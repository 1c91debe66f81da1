/- The walk of WaitsBreaks. Conditions: the length; lemmas. -/
import Derived.Test.YtjoehmgnapdhaaaW14
import Derived.Test.YtjoehmgnapdhaaaW15
set_option linter.unusedSimpArgs false
set_option linter.unusedVariables false
namespace Go.Abs
open Go Go.RowKit Go.Proofs
variable {β : Base}

theorem maxL_mem : ∀ {l : List Int}, l ≠ [] → maxL l ∈ l
  | [], h => absurd rfl h
  | x :: r, _ => by
    have key : ∀ (r : List Int) (m : Int), r.foldl (fun m y => if y > m then y else m) m = m ∨ r.foldl (fun m y => if y > m then y else m) m ∈ r := by
      intro r
      induction r with
      | nil => intro m; exact .inl rfl
      | cons y r ih =>
        intro m
        rw [List.foldl_cons]
        rcases ih (if y > m then y else m) with h | h
        · by_cases hy : y > m
          · rw [if_pos hy] at h ⊢; exact .inr (by rw [h]; simp)
          · rw [if_neg hy] at h ⊢; exact .inl h
        · exact .inr (List.mem_cons_of_mem _ h)
    simp only [maxL]
    rcases key r x with h | h
    · rw [h]; simp
    · exact List.mem_cons_of_mem _ h

theorem fnd_out {E : List (Int × Int)} {z : Int} {m : List Int} {x : Int} {C : List Int} (h : Fnd E z m x C) {y : Int} (hy : y ∈ C) : ∃ s, (y, s) ∈ E := by
  obtain ⟨l, e, hl, he⟩ := h.last
  have key : ∀ (l : List Int) (e : Int), Way E (l ++ [e]) → (e, z) ∈ E → ∀ y ∈ l ++ [e], ∃ s, (y, s) ∈ E := by
    intro l
    induction l with
    | nil => intro e _ he y hy; simp at hy; subst hy; exact ⟨z, he⟩
    | cons a l ih =>
      intro e hw he y hy
      have hw' : (∃ b, (a, b) ∈ E) ∧ Way E (l ++ [e]) := by
        cases l with
        | nil => exact ⟨⟨e, hw.1⟩, hw.2⟩
        | cons b l => exact ⟨⟨b, hw.1⟩, hw.2⟩
      rcases List.mem_cons.1 hy with h | h
      · subst h; exact hw'.1
      · exact ih e hw'.2 he y h
  have hw := h.way
  rw [hl] at hw hy
  exact key l e hw he y hy

/-- The edges that are left without someone. -/
def without (x : Int) (L : List (Int × Int)) : List (Int × Int) := L.filter fun e => decide (e.1 ≠ x) && decide (e.2 ≠ x)
theorem without_lt {x : Int} {L : List (Int × Int)} {s : Int} (h : (x, s) ∈ L) : (without x L).length < L.length := by
  unfold without
  rw [List.length_filter_lt_length_iff_exists]
  exact ⟨(x, s), h, by simp⟩

def K6 (v : AVal) (E : List (Int × Int)) (z : Int) (n : Nat) (a : Tmps) (S' : Heap) : Prop :=
  ∃ (i : Nat) (lv : AVal) (L : List (Int × Int)), n = E.length + 1 - i ∧ i ≤ E.length ∧ L.length ≤ E.length - i ∧ get a 0 = v ∧ get a 1 = .int z ∧ get a 5 = lv ∧ get a 6 = .int i ∧ Own 0 [] S' [(lv, 2, edgs L)]
def J6 (v : AVal) (z : Int) (i : Nat) (lv : AVal) (L : List (Int × Int)) (x : Int) (n : Nat) (a : Tmps) (S' : Heap) : Prop :=
  ∃ (k : Nat) (nv : AVal), n = L.length - k ∧ k ≤ L.length ∧ get a 0 = v ∧ get a 1 = .int z ∧ get a 5 = lv ∧ get a 6 = .int i ∧ get a 8 = .int x ∧ get a 9 = nv ∧ get a 37 = lv ∧ get a 38 = .int L.length ∧ get a 39 = .int k ∧ Own 0 [] S' [(lv, 2, edgs L), (nv, 2, edgs (without x (L.take k)))]

theorem without_succ {x : Int} {L : List (Int × Int)} {k : Nat} (h : k < L.length) : without x (L.take (k + 1)) = without x (L.take k) ++ if L[k].1 ≠ x ∧ L[k].2 ≠ x then [L[k]] else [] := by
  rw [List.take_add_one, List.getElem?_eq_getElem h]
  simp only [without, Option.toList_some, List.filter_append, List.filter_cons, List.filter_nil]
  congr 1
  by_cases h1 : L[k].1 = x <;> by_cases h2 : L[k].2 = x <;> simp [h1, h2]

theorem Own.drop1 {N : Nat} {S0 S : Heap} {t L} (h : Own N S0 S (t :: L)) : Own N S0 S L :=
  ⟨h.le, h.low, fun i v k es hi => h.ap (i + 1) v k es (by simpa using hi), fun i j id o l o' l' k es k' es' hi hj => by
    have := h.sep (i + 1) (j + 1) id o l o' l' k es k' es' (by simpa using hi) (by simpa using hj); omega⟩

set_option maxHeartbeats 1000000 in
theorem law6 {v : AVal} {E : List (Int × Int)} {z : Int} (h : EdV v E) (hl : 2 * E.length ≤ 1048576) : ACalls Try.prog β 6 [v, .int z] [] fun e _ => e = .ret (.bool true) := by
  refine fn_sound tryOrd (f6_c β.G) (by simp [f6]) ?_
  simp [f6, f6m]
  refine w8.use ?_
  rintro e S ⟨rfl, rfl⟩
  have oin := (Own.start ([] : Heap)).add0 2 .full (.inr rfl)
  obtain ⟨S1, happ, own1, _⟩ := oin.app 0 (v := .list .full []) (k := 2) (es := []) rfl (y := v) (ys := edgs E) (bytes := 16) (h.src _) (edgs_two _) (by omega) (by simp; omega) (by simp; omega)
  simp only [List.nil_append, List.set_cons_zero] at own1
  simp [-appendR, happ]
  refine mwp_loop (I := K6 v E z) (n := E.length + 1) ?_ ?_
  · exact ⟨0, _, E, by simp, by simp, by simp, by simp, by simp, rfl, by simp, by simpa using own1⟩
  clear own1 happ oin
  rintro q a S2 ⟨i, lv, L, rfl, hi, hL, a0, a1, a5, a6, own⟩
  have hle : (i : Int) ≤ (E.length : Int) := by omega
  have rl := own.rk 0 (v := lv) (k := 2) (es := edgs L) rfl
  have sl := own.sc 0 (v := lv) (k := 2) (es := edgs L) rfl
  simp [f6b1, a0, a1, a5, a6, (h.rk S2).lenR, hle]
  refine (w9 rl sl (by omega)).use ?_
  rintro e S3 ⟨cv, rfl, o1, hc1⟩
  have own3 := own.join o1
  have hlr := o1.lenR 0 (v := cv) (k := 1) (es := ints (cyc L z)) rfl
  have rl3 := own3.rk 0 (v := lv) (k := 2) (es := edgs L) rfl
  have sl3 := own3.sc 0 (v := lv) (k := 2) (es := edgs L) rfl
  rcases cyc_spec L z with ⟨h0, hn⟩ | ⟨hf, hr⟩
  · rw [h0] at hlr
    simp [hlr, a1, a5]
    refine (w16 (n := L.length + 1) (m := reachL L z) rl3 sl3 (by omega) (reach_run L z)).use ?_
    rintro e S4 ⟨rfl, rfl⟩
    have : z ∉ reachL L z := fun hz => hn ((reach_mem L z z).1 hz)
    simp [this]
  · obtain ⟨r, hr0⟩ := hf.hd
    have hne : cyc L z ≠ [] := by rw [hr0]; simp
    have hpos : 0 < (cyc L z).length := List.length_pos_iff.2 hne
    have g : (((cyc L z).length : Int) == 0) = false := beq_eq_false_iff_ne.2 (by omega)
    simp [hlr, g]
    refine (w14 (o1.rk 0 (v := cv) (k := 1) (es := ints (cyc L z)) rfl) (by omega)).use ?_
    rintro e S4 ⟨rfl, rfl⟩
    obtain ⟨s, hs⟩ := fnd_out hf (maxL_mem hne)
    have hshort := without_lt hs
    generalize maxL (cyc L z) = x at hs hshort
    have own4 : Own 0 [] S4 [(lv, 2, edgs L)] := own.keep o1.low o1.le
    have own5 := own4.add0 2 .full (.inr rfl)
    simp [a5, rl3.lenR]
    refine mwp_loop (I := J6 v z i lv L x) (n := L.length) ?_ ?_
    · exact ⟨0, _, by simp, by simp, by simp [a0], by simp [a1], by simp [a5], by simp [a6], by simp, rfl, by simp, by simp, by simp, by simpa [without, edgs] using own5⟩
    clear own own3 own4 own5 o1 hlr rl sl rl3 sl3 a0 a1 a5 a6
    rintro q a S5 ⟨k, nv, rfl, hk, a0, a1, a5, a6, a8, a9, a37, a38, a39, own⟩
    have rl := own.rk 0 (v := lv) (k := 2) (es := edgs L) rfl
    have rn := own.rk 1 (v := nv) (k := 2) (es := edgs (without x (L.take k))) rfl
    by_cases hkl : k < L.length
    · obtain ⟨p, p1, p2, q1, q2, _⟩ := rl.edge hkl
      have hw := wrapS k (by omega)
      have hsucc := without_succ (x := x) hkl
      have fin : ∀ (a' : Tmps) (S6 : Heap) (nv' : AVal), Own 0 [] S6 [(lv, 2, edgs L), (nv', 2, edgs (without x (L.take (k + 1))))] → get a' 0 = v → get a' 1 = .int z → get a' 5 = lv → get a' 6 = .int i → get a' 8 = .int x → get a' 9 = nv' → get a' 37 = lv → get a' 38 = .int L.length → get a' 39 = .int ((k : Int) + 1) →
          ∃ n', n' < L.length - k ∧ J6 v z i lv L x n' a' S6 := fun a' S6 nv' o b0 b1 b5 b6 b8 b9 b37 b38 b39 =>
        ⟨L.length - (k + 1), by omega, k + 1, nv', rfl, by omega, b0, b1, b5, b6, b8, b9, b37, b38, by rw [b39]; simp, o⟩
      by_cases h1 : L[k].1 = x
      · simp [f6b0, a8, a37, a38, a39, hkl, q1, q2, hw, bne, h1]
        refine fin _ _ nv (by rw [hsucc, if_neg (by simp [h1]), List.append_nil]; exact own.more _) ?_ ?_ ?_ ?_ ?_ ?_ ?_ ?_ ?_ <;> simp [a0, a1, a5, a6, a8, a9, a37, a38]
      · have g1 : (L[k].1 == x) = false := beq_eq_false_iff_ne.2 h1
        by_cases h2 : L[k].2 = x
        · simp [f6b0, a8, a37, a38, a39, hkl, q1, q2, hw, bne, g1, h2]
          refine fin _ _ nv (by rw [hsucc, if_neg (by simp [h2]), List.append_nil]; exact own.more _) ?_ ?_ ?_ ?_ ?_ ?_ ?_ ?_ ?_ <;> simp [a0, a1, a5, a6, a8, a9, a37, a38]
        · have g2 : (L[k].2 == x) = false := beq_eq_false_iff_ne.2 h2
          have hwl : (without x (L.take k)).length ≤ L.length := by
            have := List.length_filter_le (fun e : Int × Int => decide (e.1 ≠ x) && decide (e.2 ≠ x)) (L.take k)
            simp only [without]; simp at this ⊢; omega
          obtain ⟨S6, happ, own6, _⟩ := (own.more [.cells 2 [[.int L[k].1, .int L[k].2]] (some 1)]).app 1 (v := nv) (k := 2) (es := edgs (without x (L.take k))) rfl (y := .list .full [[.int L[k].1, .int L[k].2]]) (ys := edgs [L[k]]) (bytes := 16) rfl (edgs_two _) (by omega) (by simp; omega) (by simp; omega)
          simp [-appendR, f6b0, a8, a9, a37, a38, a39, hkl, q1, q2, hw, bne, g1, g2, happ]
          refine fin _ _ _ (by
            rw [hsucc, if_pos ⟨h1, h2⟩, ← edgs_app]
            simp only [List.set_cons_zero, List.set_cons_succ] at own6
            exact own6) ?_ ?_ ?_ ?_ ?_ ?_ ?_ ?_ ?_ <;> simp [a0, a1, a5, a6, a8, a37, a38]
    · have hke : k = L.length := by omega
      subst hke
      rw [List.take_length] at own rn
      have hlen : ¬ ((without x L).length : Int) ≥ (L.length : Int) := by omega
      have hlen' : ¬ (L.length : Int) ≤ ((without x L).length : Int) := by omega
      have hw := wrapS i (by omega)
      simp [f6b0, a5, a6, a9, a38, a39, rl.lenR, rn.lenR, hlen', hw]
      refine ⟨E.length + 1 - (i + 1), by omega, i + 1, nv, without x L, rfl, by omega, by omega, by simp [a0], by simp [a1], by simp, by simp, own.drop1⟩
end Go.Abs
