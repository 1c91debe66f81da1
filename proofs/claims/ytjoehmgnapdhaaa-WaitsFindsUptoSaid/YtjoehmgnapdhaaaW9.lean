/- The walks of Cycle and Any. Conditions: the length; definitions and lemmas. -/
import Derived.Test.YtjoehmgnapdhaaaW8
set_option linter.unusedSimpArgs false
set_option linter.unusedVariables false
namespace Go.Abs
open Go Go.RowKit Go.Proofs
variable {β : Base}

/-- The cycle that Cycle tells. -/
def cyc (E : List (Int × Int)) (z : Int) : List Int := (dfs (nxt E) z (E.length + 2) [] [] z).2.2

theorem cmpt_mem : ∀ (l : List Int) (x : Int), x ∈ cmpt l ↔ x ∈ l
  | [], x => by simp [cmpt]
  | [a], x => by simp [cmpt]
  | a :: b :: r, x => by
    have := cmpt_mem (b :: r) x
    simp only [cmpt]
    split
    · rename_i h; subst h; rw [this]; simp
    · rw [List.mem_cons, this, List.mem_cons (a := x) (b := a)]
theorem sortI_mem (l : List Int) (x : Int) : x ∈ sortI l ↔ x ∈ l := by simp [sortI]
theorem vals_mem (E : List (Int × Int)) (x y : Int) : y ∈ vals E x ↔ (x, y) ∈ E := by
  simp only [vals, List.mem_map, List.mem_filter, decide_eq_true_eq]
  constructor
  · rintro ⟨⟨a, b⟩, ⟨h, rfl⟩, rfl⟩; exact h
  · intro h; exact ⟨(x, y), ⟨h, rfl⟩, rfl⟩
theorem nxt_mem (E : List (Int × Int)) (x y : Int) : y ∈ nxt E x ↔ (x, y) ∈ E := by
  rw [nxt, cmpt_mem, sortI_mem, vals_mem]
theorem nxt_len (E : List (Int × Int)) (x : Int) : (nxt E x).length ≤ E.length := by
  have h1 := cmpt_len (sortI (vals E x))
  have h2 := vals_len E x
  have h3 : (sortI (vals E x)).length = (vals E x).length := by simp [sortI]
  rw [nxt]; omega

theorem mu_len (V m : List Int) : mu V m ≤ V.length := List.length_filter_le _ _

theorem w9 {S : Heap} {v : AVal} {E : List (Int × Int)} {z : Int} (h : Rk 2 S v (edgs E)) (hv : v.sc S.length = true) (hl : E.length ≤ 1048576) :
    ACalls Try.prog β 9 [v, .int z] S fun e S' => ∃ u, e = .ret u ∧ Own S.length S S' [(u, 1, ints (cyc E z))] ∧ (cyc E z).length ≤ E.length + 1 := by
  refine ACalls.close (R := fun e S' => ∃ u N, e = .ret u ∧ S.length ≤ N ∧ S'.take S.length = S ∧ (cyc E z).length ≤ E.length + 1 ∧ Wy N S' u (cyc E z)) ?_ ?_
  rotate_left 1
  · rintro e S' ⟨u, N, rfl, hN, ht, hcl, hw⟩
    generalize cyc E z = w at hw hcl
    cases hw with
    | nil =>
      refine .flat ht (by simp) ⟨_, rfl, ?_, hcl⟩
      exact (Own.start S).add0 1 .nil (.inl rfl)
    | row id l w cap hN' hS hle htk =>
      refine .row id 0 w.length 1 (ints l) cap ht (by omega) hS ?_ ⟨_, rfl, ?_, hcl⟩
      · refine scLL_iff.2 fun e he => ?_
        simp only [ints, List.mem_map] at he
        obtain ⟨i, _, rfl⟩ := he
        simp
      · have h1 := ((Own.start S).add 1 (ints l) cap).upto 0 (v := .row S.length 0 (ints l).length) (k := 1) (es := ints l) rfl (n := w.length) (by simpa using hle)
        have h2 := (Own.start S).add 1 (ints l) cap
        refine ⟨by simp, fun j hj => by rw [List.getElem?_append_left hj], fun i v k es hi => ?_, fun i j id o l o' l' k es k' es' hi hj => ?_⟩
        · cases i with
          | zero =>
            simp only [List.getElem?_cons_zero, Option.some.injEq, Prod.mk.injEq] at hi
            obtain ⟨rfl, rfl, rfl⟩ := hi
            have := Ap.row (N := S.length) (k := 1) (S := S ++ [.cells 1 (ints l) cap]) S.length 0 w.length (ints l) cap (Nat.le_refl _) (by simp) (by simpa using hle)
            rw [List.drop_zero, show (ints l).take w.length = ints w by rw [ints, ← List.map_take, htk]; rfl] at this
            exact this
          | succ i => simp at hi
        · cases i with
          | zero => cases j with
            | zero => rfl
            | succ j => simp at hj
          | succ i => simp at hi
  refine fn_sound tryOrd (f9_c β.G) (by simp [f9]) ?_
  simp [f9, f9m]
  refine (w21 h hv hl).use ?_
  rintro e S1 ⟨rfl, hof⟩
  obtain ⟨low, hlen, hnx⟩ := hof
  simp
  have hI : DI S1 (S.length + 1) z (tos E) (E.length + 1) (S1 ++ [.map [] 0, .cells 4 [[.mapv (S.length + 1), .int z, .mapv S1.length, .nilS]] (some 1)]) [] [] :=
    ⟨fun j hj => by rw [List.getElem?_append_left hj], by simp [metE], ⟨.nilS, by simp, .nil⟩, by simp, by have := mu_len (tos E) []; simp [tos] at this ⊢; omega, by simp⟩
  have hmu0 := mu_len (tos E) [z]
  simp only [tos, List.length_map] at hmu0
  refine (w22 (β := β) (by omega) hnx (fun x => by have := nxt_len E x; omega) (fun x y hy => List.mem_map.2 ⟨(x, y), (nxt_mem E x y).1 hy, rfl⟩) (E.length + 2) _ [] [] z hI (by simp) (by simp only [List.nil_append, tos]; omega) (by simp only [List.nil_append, List.length_singleton, tos]; omega)).use ?_
  rintro e S2 ⟨rfl, hI2, _⟩
  obtain ⟨wv, hso, hwy⟩ := hI2.so
  simp [hso]
  have hb2 := hI2.bd
  have hw2 := hI2.wl
  refine ⟨_, ?_, ?_, (show (cyc E z).length ≤ E.length + 1 from Nat.le_trans hw2 (by omega)), hwy⟩
  · omega
  · refine List.ext_getElem? fun j => ?_
    rcases Nat.lt_or_ge j S.length with hj | hj
    · rw [List.getElem?_take_of_lt hj, hI2.low j (by omega)]; exact low j hj
    · rw [List.getElem?_eq_none (by simp; omega), List.getElem?_eq_none hj]
end Go.Abs
