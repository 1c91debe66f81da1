/- The walk of WaitsFinds. Conditions: the length; lemmas. -/
import Derived.Test.YtjoehmgnapdhaaaW14
import Derived.Test.YtjoehmgnapdhaaaW16
set_option linter.unusedSimpArgs false
set_option linter.unusedVariables false
namespace Go.Abs
open Go Go.RowKit Go.Proofs
variable {β : Base}

def K3 (v : AVal) (z : Int) (iv cv dv wv : AVal) (E : List (Int × Int)) (C : List Int) (n : Nat) (a : Tmps) (S' : Heap) : Prop :=
  ∃ (i : Nat) (l : List Int), n = C.length - i ∧ i ≤ C.length ∧ l.length = C.length ∧ get a 0 = v ∧ get a 1 = .int z ∧ get a 5 = iv ∧ get a 6 = cv ∧ get a 7 = dv ∧ get a 8 = wv ∧ get a 26 = .int C.length ∧ get a 27 = .int i ∧
    Own 0 [] S' [(iv, 2, edgs E), (cv, 1, ints l), (dv, 1, ints C)]
def J3 (v : AVal) (z : Int) (iv dv wv : AVal) (E : List (Int × Int)) (T : Heap) (n : Nat) (a : Tmps) (S' : Heap) : Prop :=
  ∃ i : Nat, n = E.length - i ∧ i ≤ E.length ∧ get a 0 = v ∧ get a 1 = .int z ∧ get a 5 = iv ∧ get a 7 = dv ∧ get a 8 = wv ∧ get a 35 = .int E.length ∧ get a 36 = .int i ∧ S' = T

set_option maxHeartbeats 1000000 in
theorem law3 {v : AVal} {E : List (Int × Int)} {z : Int} (h : EdV v E) (hl : 2 * E.length ≤ 1048576) : ACalls Try.prog β 3 [v, .int z] [] fun e _ => e = .ret (.bool true) := by
  refine fn_sound tryOrd (f3_c β.G) (by simp [f3]) ?_
  simp [f3, f3m]
  refine w8.use ?_
  rintro e S ⟨rfl, rfl⟩
  have oin := (Own.start ([] : Heap)).add0 2 .full (.inr rfl)
  obtain ⟨S1, happ, own1, _⟩ := oin.app 0 (v := .list .full []) (k := 2) (es := []) rfl (y := v) (ys := edgs E) (bytes := 16) (h.src _) (edgs_two _) (by omega) (by simp; omega) (by simp; omega)
  simp only [List.nil_append, List.set_cons_zero] at own1
  simp [-appendR, happ]
  simp only [List.length_nil, Nat.zero_add, edgs_len] at own1
  generalize hiv : AVal.row 0 0 E.length = iv at own1 ⊢
  have rin := own1.rk 0 (v := iv) (k := 2) (es := edgs E) rfl
  have sin := own1.sc 0 (v := iv) (k := 2) (es := edgs E) rfl
  have oneI := own1.one 0 (v := iv) (k := 2) (es := edgs E) rfl
  refine (w9 rin sin (by omega)).use ?_
  rintro e S2 ⟨cv, rfl, o1, hc1⟩
  have own2 := own1.join o1
  have rin2 := own2.rk 0 (v := iv) (k := 2) (es := edgs E) rfl
  have sin2 := own2.sc 0 (v := iv) (k := 2) (es := edgs E) rfl
  simp
  refine (w9 rin2 sin2 (by omega)).use ?_
  rintro e S3 ⟨dv, rfl, o2, _⟩
  have own3 := own2.join o2
  obtain ⟨kk, hkk⟩ := cyc_run E z
  simp
  refine (w10 (h.rk _) (h.sc _) (by omega) hkk).use ?_
  rintro e S4 ⟨⟨fl, rfl⟩, rfl⟩
  have own4 : Own 0 [] S4 [(iv, 2, edgs E), (cv, 1, ints (cyc E z)), (dv, 1, ints (cyc E z))] := own3
  have hlr := own4.lenR 1 (v := cv) (k := 1) (es := ints (cyc E z)) rfl
  have hany : (E.any fun e => decide (0 < (cyc E e.1).length)) = E.any fun e => decide (e.1 ∈ reachL E e.1) := by
    congr 1
    funext e
    rw [decide_eq_decide, reach_mem, cyc_pos]
  generalize cyc E z = C at own4 hlr hc1
  clear own1 own2 own3 o1 o2 rin sin rin2 sin2 oin happ hkk
  simp [hlr]
  refine mwp_loop (I := K3 v z iv cv dv (.list fl (ints C)) E C) (n := C.length) ?_ ?_
  · exact ⟨0, C, by simp, by simp, rfl, by simp, by simp, by simp, by simp, by simp, by simp, by simp, by simp, own4⟩
  clear hlr own4
  rintro q a S5 ⟨i, l, rfl, hi, hll, a0, a1, a5, a6, a7, a8, a26, a27, own⟩
  by_cases hlt : i < C.length
  · obtain ⟨p, S6, i6, st6, own6, _⟩ := own.store 1 (v := cv) (es := ints l) rfl (j := i) (by simp; omega) (x := .int (-9)) rfl rfl
    have hset : (ints l).set i [.int (-9)] = ints (l.set i (-9)) := by simp [ints, List.map_set]
    rw [hset] at own6
    have hw := wrapS i (by omega)
    simp [f3b0, a6, a26, a27, hlt, i6, st6, hw]
    exact ⟨C.length - (i + 1), by omega, i + 1, l.set i (-9), rfl, by omega, by simpa using hll, by simp [a0], by simp [a1], by simp [a5], by simp [a6], by simp [a7], by simp [a8], by simp [a26], by simp, own6⟩
  have hie : i = C.length := by omega
  subst hie
  have hlri := own.lenR 0 (v := iv) (k := 2) (es := edgs E) rfl
  simp [f3b0, a5, a26, a27, hlri]
  refine mwp_loop (I := J3 v z iv dv (.list fl (ints C)) E S5) (n := E.length) ?_ ?_
  · exact ⟨0, by simp, by simp, by simp [a0], by simp [a1], by simp [a5], by simp [a7], by simp [a8], by simp, by simp, rfl⟩
  clear a0 a1 a5 a6 a7 a8 a26 a27
  rintro q a S6 ⟨j, rfl, hj, a0, a1, a5, a7, a8, a35, a36, rfl⟩
  have ri := own.rk 0 (v := iv) (k := 2) (es := edgs E) rfl
  have si := own.sc 0 (v := iv) (k := 2) (es := edgs E) rfl
  by_cases hjl : j < E.length
  · obtain ⟨p, p1, p2, q1, q2, _⟩ := ri.edge hjl
    obtain ⟨p', p1', p2', q1', q2', _⟩ := (h.rk S6).edge hjl
    have hw := wrapS j (by omega)
    simp [f3b1, a0, a5, a35, a36, hjl, q1, q2, q1', q2', hw]
    exact ⟨E.length - (j + 1), by omega, j + 1, rfl, by omega, by simp [a0], by simp [a1], by simp [a5], by simp [a7], by simp [a8], by simp [a35], by simp, rfl⟩
  have hje : j = E.length := by omega
  subst hje
  have rd := own.rk 2 (v := dv) (k := 1) (es := ints C) rfl
  have rw_ : Rk 1 S6 (.list fl (ints C)) (ints C) := .list _ _
  simp [f3b1, a7, a8, a35, a36]
  refine (w11 rd rw_ (by omega)).use ?_
  rintro e S7 ⟨rfl, rfl⟩
  simp [a5]
  refine (w12 ri si oneI (by omega)).use ?_
  rintro e S8 ⟨rfl, rfl⟩
  rw [hany]
  generalize hA : (E.any fun e => decide (e.1 ∈ reachL E e.1)) = A
  simp [a0]
  refine (w13 (n := E.length + 1) (R := reachL E) (h.rk _) (h.sc _) (by omega) (reach_run E)).use ?_
  rintro e S9 ⟨rfl, rfl⟩
  rw [hA]
  have own9 := own.add0 1 .full (.inr rfl)
  obtain ⟨S10, happ, own10, _⟩ := own9.app 3 (v := .list .full []) (k := 1) (es := []) rfl (y := .list fl (ints C)) (ys := ints C) (bytes := 8) rfl (fun e he => by
    simp only [ints, List.mem_map] at he
    obtain ⟨i, _, rfl⟩ := he
    rfl) (by omega) (by simp; omega) (by simp; omega)
  simp only [List.length_nil, Nat.zero_add, ints_len, List.nil_append] at own10 happ
  simp [-appendR, a8, happ]
  refine (w14 (own10.rk 3 (k := 1) (es := ints C) rfl) (by omega)).use ?_
  rintro e S11 ⟨rfl, rfl⟩
  simp [a8]
  refine (w15 (Rk.list fl (ints C)) (by omega)).use ?_
  rintro e S12 ⟨rfl, rfl⟩
  simp
end Go.Abs
