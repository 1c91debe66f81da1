/- The walk of WaitsTurned. Conditions: the length; lemmas. -/
import Derived.Test.YtjoehmgnapdhaaaW13
set_option linter.unusedSimpArgs false
set_option linter.unusedVariables false
namespace Go.Abs
open Go Go.RowKit Go.Proofs
variable {β : Base}

/-- The edges turned about, each of them twice. -/
def backOf (E : List (Int × Int)) : List (Int × Int) := E.reverse.flatMap fun e => [e, e]
theorem backOf_cons (e : Int × Int) (E : List (Int × Int)) : backOf (e :: E) = backOf E ++ [e, e] := by simp [backOf]
theorem backOf_len (E : List (Int × Int)) : (backOf E).length = 2 * E.length := by
  induction E with
  | nil => rfl
  | cons e E ih => rw [backOf_cons, List.length_append, ih]; simp; omega
theorem backOf_mem (E : List (Int × Int)) (e : Int × Int) : e ∈ backOf E ↔ e ∈ E := by
  simp [backOf, List.mem_flatMap]

def K5 (v : AVal) (E : List (Int × Int)) (z : Int) (n : Nat) (a : Tmps) (S' : Heap) : Prop :=
  ∃ bv, n ≤ E.length ∧ get a 0 = v ∧ get a 1 = .int z ∧ get a 5 = bv ∧ get a 6 = .int ((n : Int) - 1) ∧ Own 0 [] S' [(bv, 2, edgs (backOf (E.drop n)))]

theorem edgs_app (E E' : List (Int × Int)) : edgs E ++ edgs E' = edgs (E ++ E') := by simp [edgs]
theorem edgs_two (E : List (Int × Int)) : ∀ e ∈ edgs E, e.length = 2 := fun e he => by
  simp only [edgs, List.mem_map] at he
  obtain ⟨i, _, rfl⟩ := he
  rfl

/-- WaitsTurned. -/
theorem w5 {v : AVal} {E : List (Int × Int)} {z : Int} (hv : ∀ S, Rk 2 S v (edgs E)) (hsrc : ∀ S, srcOf S v = some (true, edgs E)) (hl : E.length ≤ 524288) :
    ACalls Try.prog β 5 [v, .int z] [] fun e _ => e = .ret (.bool true) := by
  refine fn_sound tryOrd (f5_c β.G) (by simp [f5]) ?_
  simp [f5, f5m]
  refine w8.use ?_
  rintro e S ⟨rfl, rfl⟩
  simp [(hv _).lenR, wrap64_in (n := (E.length : Int) - 1) (by omega) (by omega)]
  refine mwp_loop (I := K5 v E z) (n := E.length) ?_ ?_
  · refine ⟨_, Nat.le_refl _, rfl, rfl, rfl, rfl, ?_⟩
    have := (Own.start ([] : Heap)).add0 2 .full (.inr rfl)
    simpa [backOf, edgs] using this
  rintro n a S' ⟨bv, hn, a0, a1, a5, a6, own⟩
  cases n with
  | succ n =>
    have hlt : n < E.length := by omega
    obtain ⟨p, p1, p2, q1, q2, _⟩ := (hv S').edge hlt
    have e6 : ((n + 1 : Nat) : Int) - 1 = n := by omega
    rw [e6] at a6
    have hbl := backOf_len (E.drop (n + 1))
    rw [List.length_drop] at hbl
    obtain ⟨S2, happ, own2, _⟩ := own.app 0 (v := bv) (k := 2) (es := edgs (backOf (E.drop (n + 1)))) rfl (y := .list .full [[.int E[n].1, .int E[n].2], [.int E[n].1, .int E[n].2]]) (ys := edgs [E[n], E[n]]) (bytes := 16) rfl (edgs_two _) (by omega) (by simp; omega) (by simp; omega)
    have hw : IntKind.i64.wrap ((n : Int) - 1) = (n : Int) - 1 := wrap64_in (by omega) (by omega)
    simp [-appendR, f5b0, a0, a5, a6, q1, q2, happ, hw]
    refine ⟨n, by omega, _, by omega, by simp [a0], by simp [a1], rfl, by simp, ?_⟩
    rw [List.drop_eq_getElem_cons hlt, backOf_cons, ← edgs_app]
    simpa using own2
  | zero =>
    rw [List.drop_zero] at own
    have hneg : ¬ (0 : Int) ≤ ((0 : Nat) : Int) - 1 := by omega
    have oin := own.add0 2 .full (.inr rfl)
    obtain ⟨S2, happ, own2, _⟩ := oin.app 1 (v := .list .full []) (k := 2) (es := []) rfl (y := v) (ys := edgs E) (bytes := 16) (hsrc _) (edgs_two _) (by omega) (by simp; omega) (by simp; omega)
    simp only [List.singleton_append, List.set_cons_succ, List.set_cons_zero, List.nil_append] at own2
    simp [-appendR, f5b0, a0, a1, a5, a6, hneg, happ]
    have hbl := backOf_len E
    have rin := own2.rk 1 (k := 2) (es := edgs E) rfl
    have sin := own2.sc 1 (k := 2) (es := edgs E) rfl
    have r0 := own2.rk 0 (v := bv) (k := 2) (es := edgs (backOf E)) rfl
    have s0 := own2.sc 0 (v := bv) (k := 2) (es := edgs (backOf E)) rfl
    simp only [List.length_nil, Nat.zero_add, edgs_len] at rin sin
    refine (w9 rin sin (by omega)).use ?_
    rintro e S3 ⟨u1, rfl, o1, hc1⟩
    have r0' := r0.frame o1.low s0
    have s0' : bv.sc S3.length = true := edg_sc r0 s0 o1.le
    simp [a1, a5]
    refine (w9 r0' s0' (by omega)).use ?_
    rintro e S4 ⟨u2, rfl, o2, _⟩
    have o3 := o1.join o2
    rw [← cyc_congr (fun e => (backOf_mem E e).symm) z] at o3
    have hcl : (cyc E z).length ≤ 4194304 := by omega
    simp
    refine (w11 (o3.rk 0 (v := u1) (k := 1) (es := ints (cyc E z)) rfl) (o3.rk 1 (v := u2) (k := 1) (es := ints (cyc E z)) rfl) hcl).use ?_
    rintro e S5 ⟨rfl, rfl⟩
    simp
/-- The edges as they are read. -/
def EdV (v : AVal) (E : List (Int × Int)) : Prop := v = .nilS ∧ E = [] ∨ v = .list .any (edgs E)
theorem EdV.rk {v E} (h : EdV v E) (S : Heap) : Rk 2 S v (edgs E) := by
  rcases h with ⟨rfl, rfl⟩ | rfl
  · exact .list _ _
  · exact .list _ _
theorem EdV.src {v E} (h : EdV v E) (S : Heap) : srcOf S v = some (true, edgs E) := by
  rcases h with ⟨rfl, rfl⟩ | rfl <;> rfl
theorem EdV.sc {v E} (h : EdV v E) (n : Nat) : v.sc n = true := edg_sc (S := []) (h.rk []) (by
  rcases h with ⟨rfl, rfl⟩ | rfl
  · simp
  · simp only [AVal.sc]
    refine scLL_iff.2 fun e he => ?_
    simp only [edgs, List.mem_map] at he
    obtain ⟨i, _, rfl⟩ := he
    simp) (Nat.zero_le _)
theorem EdV.one {v E} (h : EdV v E) : v.one = true := by
  rcases h with ⟨rfl, rfl⟩ | rfl <;> rfl

theorem law5 {v : AVal} {E : List (Int × Int)} {z : Int} (h : EdV v E) (hl : 2 * E.length ≤ 1048576) : ACalls Try.prog β 5 [v, .int z] [] fun e _ => e = .ret (.bool true) :=
  w5 h.rk h.src (by omega)
end Go.Abs
