/- The walks of Any and of the document's example. Conditions: the length; definitions and lemmas. -/
import Derived.Test.YtjoehmgnapdhaaaW9
import Derived.Test.YtjoehmgnapdhaaaF3
set_option linter.unusedSimpArgs false
set_option linter.unusedVariables false
namespace Go.Abs
open Go Go.RowKit Go.Proofs
variable {β : Base}

theorem Own.lenR {N : Nat} {S0 S : Heap} {L} (h : Own N S0 S L) (i : Nat) {v k es} (hi : L[i]? = some (v, k, es)) : Go.Abs.lenR S v = .ok true (.int es.length) S := (h.rk i hi).lenR

theorem edg_sc {S : Heap} {v : AVal} {E : List (Int × Int)} (h : Rk 2 S v (edgs E)) (hv : v.sc S.length = true) {n : Nat} (hn : S.length ≤ n) : v.sc n = true := by
  generalize hes : edgs E = es at h
  cases h with
  | list fl =>
    subst hes
    simp only [AVal.sc]
    refine scLL_iff.2 fun e he => ?_
    simp only [edgs, List.mem_map] at he
    obtain ⟨i, _, rfl⟩ := he
    simp
  | row id off len es cap h hl => simp only [AVal.sc, decide_eq_true_eq] at hv ⊢; omega

/-- Any's closure. -/
theorem w27 {S : Heap} {v : AVal} {E : List (Int × Int)} {a b : Int} {K : Nat} (h : Rk 2 S v (edgs E)) (hv : v.sc S.length = true) (hl : E.length ≤ 1048576) (hK : S[K]? = some (.cells 1 [[v]] (some 1))) :
    ACalls Try.prog β 27 [.agg [.int a, .int b], .ptr K 0 0] S fun e S' => e = .ret (.bool (decide (0 < (cyc E a).length))) ∧ S' = S := by
  refine ACalls.close (R := fun e S' => e = .ret (.bool (decide (0 < (cyc E a).length))) ∧ S'.take S.length = S) ?_ ?_
  rotate_left 1
  · rintro e S' ⟨rfl, ht⟩; exact .flat ht (by simp) ⟨rfl, rfl⟩
  refine fn_sound tryOrd (f27_c β.G) (by simp [f27]) ?_
  have hKl := lt_of_some hK
  have hK' : ∀ g, (S ++ g)[K]? = some (.cells 1 [[v]] (some 1)) := fun g => by rw [List.getElem?_append_left hKl]; exact hK
  simp [f27, f27m, hK']
  have hsc : v.sc (S ++ [AObj.cells 2 [[.int a, .int b]] (some 1)]).length = true := by
    exact edg_sc h hv (by simp)
  refine (w9 (h.more _) hsc hl).use ?_
  rintro e S2 ⟨u, rfl, own, _⟩
  have hlr := own.lenR 0 (v := u) (k := 1) (es := ints (cyc E a)) rfl
  simp [hlr]
  refine List.ext_getElem? fun j => ?_
  rcases Nat.lt_or_ge j S.length with hj | hj
  · rw [List.getElem?_take_of_lt hj, own.low j (by simp; omega), List.getElem?_append_left hj]
  · rw [List.getElem?_eq_none (by simp; omega), List.getElem?_eq_none hj]

theorem w38 {S : Heap} {v : AVal} {E : List (Int × Int)} {K : Nat} (h : Rk 2 S v (edgs E)) (hv : v.sc S.length = true) (hl : E.length ≤ 1048576) (hK : S[K]? = some (.cells 1 [[v]] (some 1))) :
    ACalls Try.prog β 38 [v, .clo (.func 27) [] [.ptr K 0 0]] S fun e S' => (∃ n : Int, e = .ret (.int n) ∧ (decide (n ≥ 0) = E.any fun e => decide (0 < (cyc E e.1).length))) ∧ S' = S := by
  refine fn_sound tryOrd (f38_c β.G) (by simp [f38]) ?_
  simp [f38, f38m, h.lenR]
  refine mwp_loop (I := fun n a S' => ∃ i : Nat, n = E.length - i ∧ i ≤ E.length ∧ get a 0 = v ∧ get a 1 = .clo (.func 27) [] [.ptr K 0 0] ∧ get a 7 = .int E.length ∧ get a 8 = .int i ∧ S' = S ∧ (E.take i).any (fun e => decide (0 < (cyc E e.1).length)) = false) (n := E.length) ?_ ?_
  · exact ⟨0, rfl, Nat.zero_le _, rfl, rfl, rfl, rfl, rfl, by simp⟩
  rintro q a S' ⟨i, rfl, hi, a0, a1, a7, a8, rfl, hnot⟩
  by_cases hlt : i < E.length
  · obtain ⟨p, p1, p2, q1, q2, _⟩ := h.edge hlt
    simp [f38b0, a0, a1, a7, a8, hlt, q1, q2]
    refine (w27 h hv hl hK).use ?_
    rintro e S2 ⟨rfl, rfl⟩
    by_cases hm : 0 < (cyc E E[i].1).length
    · have hany : (E.any fun e => decide (0 < (cyc E e.1).length)) = true := List.any_eq_true.2 ⟨E[i], List.getElem_mem hlt, by simpa using hm⟩
      simp [hm]
      exact ⟨E[i].1, ⟨E[i].2, List.getElem_mem hlt⟩, hm⟩
    · simp [hm, a8, wrapS i (by omega)]
      refine ⟨E.length - (i + 1), by omega, i + 1, rfl, by omega, by simp [a0], by simp [a1], by simp [a7], by simp, ?_⟩
      rw [List.take_add_one, List.getElem?_eq_getElem hlt]
      intro x y hxy
      rcases List.mem_append.1 hxy with h' | h'
      · have := List.any_eq_false.1 hnot _ h'
        simpa using this
      · simp only [Option.toList_some, List.mem_singleton] at h'
        have : E[i].1 = x := by rw [← h']
        rw [this] at hm
        simpa using hm
  · have : i = E.length := by omega
    subst this
    rw [List.take_length] at hnot
    simp [f38b0, a7, a8]
    simpa using hnot

/-- Any. -/
theorem w12 {S : Heap} {v : AVal} {E : List (Int × Int)} (h : Rk 2 S v (edgs E)) (hv : v.sc S.length = true) (h1 : v.one = true) (hl : E.length ≤ 1048576) :
    ACalls Try.prog β 12 [v] S fun e S' => e = .ret (.bool (E.any fun e => decide (0 < (cyc E e.1).length))) ∧ S' = S := by
  refine ACalls.close (R := fun e S' => e = .ret (.bool (E.any fun e => decide (0 < (cyc E e.1).length))) ∧ ∃ g, S' = S ++ g) ?_ ?_
  rotate_left 1
  · rintro e S' ⟨rfl, g, rfl⟩; exact .flat (by simp) (by simp) ⟨rfl, rfl⟩
  refine fn_sound tryOrd (f12_c β.G) (by simp [f12]) ?_
  simp [f12, f12m, h1]
  have hsc : v.sc (S ++ [AObj.cells 1 [[v]] (some 1)]).length = true := by
    exact edg_sc h hv (by simp)
  have h26 : ACalls Try.prog β 26 [v, .clo (.func 27) [] [.ptr S.length 0 0]] (S ++ [.cells 1 [[v]] (some 1)]) fun e S' => e = .ret (.bool (E.any fun e => decide (0 < (cyc E e.1).length))) ∧ S' = S ++ [.cells 1 [[v]] (some 1)] := by
    refine fn_sound tryOrd (f26_c β.G) (by simp [f26]) ?_
    simp [f26, f26m]
    refine (w38 (h.more _) hsc hl (by simp)).use ?_
    rintro e S2 ⟨⟨n, rfl, hn⟩, rfl⟩
    simp only [ge_iff_le] at hn
    simp
    rw [← hn]
  refine h26.use ?_
  rintro e S2 ⟨rfl, rfl⟩
  simp
end Go.Abs
