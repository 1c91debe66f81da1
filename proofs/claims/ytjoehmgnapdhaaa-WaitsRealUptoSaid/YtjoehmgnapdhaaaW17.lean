/- The walk of WaitsReal. Conditions: the length; lemmas. -/
import Derived.Test.YtjoehmgnapdhaaaW14
import Derived.Test.YtjoehmgnapdhaaaW15
set_option linter.unusedSimpArgs false
set_option linter.unusedVariables false
namespace Go.Abs
open Go Go.RowKit Go.Proofs
variable {β : Base}

theorem tmodN (a b : Nat) : ((a : Int)).tmod (b : Int) = ((a % b : Nat) : Int) := rfl

/-- A ring: each leads to the next, the last to the first. -/
theorem ring {E : List (Int × Int)} {z : Int} {C : List Int} (h : Fnd E z [] z C) (i : Nat) (hi : i < C.length) : (C[i], C[(i + 1) % C.length]'(Nat.mod_lt _ (by omega))) ∈ E := by
  have way_get : ∀ (l : List Int) (j : Nat) (hj : j + 1 < l.length), Way E l → (l[j], l[j + 1]) ∈ E := by
    intro l
    induction l with
    | nil => intro j hj; simp at hj
    | cons a l ih =>
      intro j hj hw
      cases l with
      | nil => simp at hj
      | cons b r =>
        cases j with
        | zero => exact hw.1
        | succ j => exact ih j (by simpa using hj) hw.2
  rcases Nat.lt_or_ge (i + 1) C.length with hlt | hge
  · have e : (i + 1) % C.length = i + 1 := Nat.mod_eq_of_lt hlt
    simp only [e]
    exact way_get C i hlt h.way
  · have hl : i + 1 = C.length := by omega
    have e : (i + 1) % C.length = 0 := by rw [hl]; exact Nat.mod_self _
    simp only [e]
    obtain ⟨r, hr⟩ := h.hd
    obtain ⟨l, x, hlx, hx⟩ := h.last
    have h0 : C[0]'(by omega) = z := by simp [hr]
    have h1 : C[i] = x := by
      have : i = l.length := by rw [hlx] at hl; simp at hl; exact hl
      subst this
      simp [hlx]
    rw [h0, h1]; exact hx
theorem ring_nd {E : List (Int × Int)} {z : Int} {C : List Int} (h : Fnd E z [] z C) (i j : Nat) (hi : i < C.length) (hj : j < i) : C[j] ≠ C[i] := by
  have := List.nodup_iff_pairwise_ne.1 h.nd
  exact (List.pairwise_iff_getElem.1 this) j i (by omega) hi hj

/-- The outer loop's. -/
def K4 (v : AVal) (z : Int) (cv : AVal) (C : List Int) (n : Nat) (a : Tmps) (S' : Heap) : Prop :=
  ∃ i : Nat, n = C.length - i ∧ i ≤ C.length ∧ get a 0 = v ∧ get a 1 = .int z ∧ get a 5 = cv ∧ get a 29 = cv ∧ get a 30 = .int C.length ∧ get a 31 = .int i ∧ Own 0 [] S' [(cv, 1, ints C)]
/-- The first inner one's. -/
def J4 (v : AVal) (E : List (Int × Int)) (z : Int) (cv : AVal) (C : List Int) (i : Nat) (x y : Int) (n : Nat) (a : Tmps) (S' : Heap) : Prop :=
  ∃ k : Nat, n = E.length - k ∧ k ≤ E.length ∧ get a 0 = v ∧ get a 1 = .int z ∧ get a 5 = cv ∧ get a 29 = cv ∧ get a 30 = .int C.length ∧ get a 31 = .int i ∧ get a 6 = .int i ∧ get a 7 = .int x ∧ get a 8 = .int y ∧ get a 9 = .bool (decide ((x, y) ∈ E.take k)) ∧
    get a 44 = v ∧ get a 45 = .int E.length ∧ get a 46 = .int k ∧ Own 0 [] S' [(cv, 1, ints C)]
/-- The second inner one's. -/
def L4 (v : AVal) (z : Int) (cv : AVal) (C : List Int) (i : Nat) (x : Int) (u : AVal) (T : Heap) (n : Nat) (a : Tmps) (S' : Heap) : Prop :=
  ∃ k : Nat, n = i - k ∧ k ≤ i ∧ get a 0 = v ∧ get a 1 = .int z ∧ get a 5 = cv ∧ get a 29 = cv ∧ get a 30 = .int C.length ∧ get a 31 = .int i ∧ get a 7 = .int x ∧ get a 9 = .bool true ∧ get a 66 = u ∧ get a 67 = .int i ∧ get a 68 = .int k ∧ S' = T

theorem mem_take_succ {l : List (Int × Int)} {k : Nat} (h : k < l.length) (x : Int × Int) : decide (x ∈ l.take (k + 1)) = (decide (x ∈ l.take k) || decide (l[k] = x)) := by
  rw [Bool.eq_iff_iff, Bool.or_eq_true, decide_eq_true_eq, decide_eq_true_eq, decide_eq_true_eq, List.take_add_one, List.getElem?_eq_getElem h]
  simp only [Option.toList_some, List.mem_append, List.mem_singleton]
  constructor
  · rintro (h | h)
    · exact .inl h
    · exact .inr h.symm
  · rintro (h | h)
    · exact .inl h
    · exact .inr h.symm

set_option maxHeartbeats 1000000 in
theorem law4 {v : AVal} {E : List (Int × Int)} {z : Int} (h : EdV v E) (hl : 2 * E.length ≤ 1048576) : ACalls Try.prog β 4 [v, .int z] [] fun e _ => e = .ret (.bool true) := by
  refine fn_sound tryOrd (f4_c β.G) (by simp [f4]) ?_
  simp [f4, f4m]
  refine w8.use ?_
  rintro e S ⟨rfl, rfl⟩
  have oin := (Own.start ([] : Heap)).add0 2 .full (.inr rfl)
  obtain ⟨S1, happ, own1, _⟩ := oin.app 0 (v := .list .full []) (k := 2) (es := []) rfl (y := v) (ys := edgs E) (bytes := 16) (h.src _) (edgs_two _) (by omega) (by simp; omega) (by simp; omega)
  simp only [List.nil_append, List.set_cons_zero] at own1
  simp [-appendR, happ]
  have rin := own1.rk 0 (k := 2) (es := edgs E) rfl
  have sin := own1.sc 0 (k := 2) (es := edgs E) rfl
  simp only [List.length_nil, Nat.zero_add, edgs_len] at rin sin
  refine (w9 rin sin (by omega)).use ?_
  rintro e S2 ⟨cv, rfl, o1, hc1⟩
  have hlr := o1.lenR 0 (v := cv) (k := 1) (es := ints (cyc E z)) rfl
  simp [hlr]
  refine (w16 (n := E.length + 1) (m := reachL E z) (h.rk _) (h.sc _) (by omega) (reach_run E z)).use ?_
  rintro e S3 ⟨rfl, rfl⟩
  have hreach : decide (z ∈ reachL E z) = decide (0 < (cyc E z).length) := by
    rw [decide_eq_decide, reach_mem, cyc_pos]
  have hown : Own 0 [] S3 [(cv, 1, ints (cyc E z))] := by
    have := (Own.start ([] : Heap)).keep (S' := S1) (fun j hj => by simp at hj) (by simp)
    exact this.join ((⟨o1.le, o1.low, o1.ap, o1.sep⟩ : Own S1.length S1 S3 [(cv, 1, ints (cyc E z))]))
  rw [hreach]
  have hspec := cyc_spec E z
  generalize cyc E z = C at hlr hown hspec hc1
  have hbe : ∀ b : Bool, (b == b) = true := fun b => by simp
  simp [bne, hbe, hlr]
  refine mwp_loop (I := K4 v z cv C) (n := C.length) ?_ ?_
  · exact ⟨0, by simp, by simp, by simp, by simp, by simp, by simp, by simp, by simp, hown⟩
  clear hown hlr o1 rin sin happ own1
  rintro q a S4 ⟨i, rfl, hi, a0, a1, a5, a29, a30, a31, own⟩
  have rc := own.rk 0 (v := cv) (k := 1) (es := ints C) rfl
  by_cases hlt : i < C.length
  rotate_left 1
  · have : i = C.length := by omega
    subst this
    simp [f4b2, a30, a31]
  rcases hspec with ⟨h0, _⟩ | ⟨hf, _⟩
  · rw [h0] at hlt; simp at hlt
  obtain ⟨p, q1, q2⟩ := rc.int hlt
  have hml : (i + 1) % C.length < C.length := Nat.mod_lt _ (by omega)
  obtain ⟨p', q1', q2'⟩ := rc.int hml
  have hring := ring hf i hlt
  have hne0 : ¬ (C.length : Int) = 0 := by omega
  have hlr := rc.lenR
  rw [ints_len] at hlr
  have htm : ((i + 1 : Nat) : Int).tmod (C.length : Int) = (((i + 1) % C.length : Nat) : Int) := tmodN _ _
  simp only [Int.natCast_add, Int.natCast_one] at htm
  have hws := wrapS i (by omega)
  simp only [Int.natCast_add, Int.natCast_one] at hws
  simp [-Int.natCast_emod, f4b2, a0, a5, a29, a30, a31, hlt, q1, q2, hlr, hws, hne0, htm, q1', q2', (h.rk S4).lenR]
  refine ⟨fun e => by rw [e] at hlt; simp at hlt, ?_⟩
  generalize hx : C[i] = x at hring
  generalize hy : C[(i + 1) % C.length] = y at hring
  refine mwp_loop (I := J4 v E z cv C i x y) (n := E.length) ?_ ?_
  · exact ⟨0, by simp, by simp, by simp [a0], by simp [a1], by simp [a5], by simp [a29], by simp [a30], by simp [a31], by simp, by simp, by simp, by simp, by simp, by simp, by simp, own⟩
  clear q1 q2 q1' q2' a0 a1 a5 a29 a30 a31 own rc
  rintro q a S5 ⟨k, rfl, hk, a0, a1, a5, a29, a30, a31, a6, a7, a8, a9, a44, a45, a46, own⟩
  by_cases hkl : k < E.length
  · obtain ⟨p, p1, p2, q1, q2, _⟩ := (h.rk S5).edge hkl
    have hsucc := mem_take_succ hkl (x, y)
    have hw := wrapS k (by omega)
    have fin : ∀ (a' : Tmps) (b : Bool), decide ((x, y) ∈ E.take (k + 1)) = b → get a' 0 = v → get a' 1 = .int z → get a' 5 = cv → get a' 29 = cv → get a' 30 = .int C.length → get a' 31 = .int i → get a' 6 = .int i → get a' 7 = .int x → get a' 8 = .int y → get a' 9 = .bool b → get a' 44 = v → get a' 45 = .int E.length → get a' 46 = .int ((k : Int) + 1) →
        ∀ o : AObj, ∃ n', n' < E.length - k ∧ J4 v E z cv C i x y n' a' (S5 ++ [o]) := fun a' b hb b0 b1 b5 b29 b30 b31 b6 b7 b8 b9 b44 b45 b46 o =>
      ⟨E.length - (k + 1), by omega, k + 1, rfl, by omega, b0, b1, b5, b29, b30, b31, b6, b7, b8, by rw [hb]; exact b9, b44, b45, by rw [b46]; simp, own.more _⟩
    by_cases hin : (x, y) ∈ E.take k
    · simp only [hin, decide_true] at a9
      simp [f4b0, a44, a45, a46, a9, hkl, q1, q2, hw]
      refine fin _ true (by rw [hsucc]; simp [hin]) ?_ ?_ ?_ ?_ ?_ ?_ ?_ ?_ ?_ ?_ ?_ ?_ ?_ _ <;> simp [a0, a1, a5, a29, a30, a31, a6, a7, a8, a44, a45]
    · simp only [hin, decide_false] at a9
      by_cases h1 : E[k].1 = x
      · by_cases h2 : E[k].2 = y
        · have he : E[k] = (x, y) := Prod.ext h1 h2
          simp [f4b0, a44, a45, a46, a7, a8, a9, hkl, q1, q2, hw, h1, h2]
          refine fin _ true (by rw [hsucc]; simp [he]) ?_ ?_ ?_ ?_ ?_ ?_ ?_ ?_ ?_ ?_ ?_ ?_ ?_ _ <;> simp [a0, a1, a5, a29, a30, a31, a6, a7, a8, a44, a45]
        · have g : (E[k].2 == y) = false := beq_eq_false_iff_ne.2 h2
          have he : E[k] ≠ (x, y) := fun e => h2 (by rw [e])
          simp [f4b0, a44, a45, a46, a7, a8, a9, hkl, q1, q2, hw, h1, g]
          refine fin _ false (by rw [hsucc]; simp [he, hin]) ?_ ?_ ?_ ?_ ?_ ?_ ?_ ?_ ?_ ?_ ?_ ?_ ?_ _ <;> simp [a0, a1, a5, a29, a30, a31, a6, a7, a8, a44, a45]
      · have g : (E[k].1 == x) = false := beq_eq_false_iff_ne.2 h1
        have he : E[k] ≠ (x, y) := fun e => h1 (by rw [e])
        simp [f4b0, a44, a45, a46, a7, a8, a9, hkl, q1, q2, hw, g]
        refine fin _ false (by rw [hsucc]; simp [he, hin]) ?_ ?_ ?_ ?_ ?_ ?_ ?_ ?_ ?_ ?_ ?_ ?_ ?_ _ <;> simp [a0, a1, a5, a29, a30, a31, a6, a7, a8, a44, a45]
  · have hke : k = E.length := by omega
    subst hke
    rw [List.take_length] at a9
    simp only [hring, decide_true] at a9
    obtain ⟨u, hsl, ownu⟩ := own.upto 0 (v := cv) (k := 1) (es := ints C) rfl (n := i) (by simp; omega)
    have ru := ownu.rk 0 (v := u) (k := 1) (es := (ints C).take i) rfl
    have hti : (ints C).take i = ints (C.take i) := by simp [ints, List.map_take]
    rw [hti] at ru
    have hlu := ru.lenR
    have hmin : (ints (C.take i)).length = i := by simp; omega
    rw [hmin] at hlu
    simp [-slcR, f4b0, a5, a6, a45, a46, hsl, hlu]
    refine mwp_loop (I := L4 v z cv C i x u S5) (n := i) ?_ ?_
    · exact ⟨0, by simp, by simp, by simp [a0], by simp [a1], by simp [a5], by simp [a29], by simp [a30], by simp [a31], by simp [a7], by simp [a9], by simp, by simp, by simp, rfl⟩
    clear a0 a1 a5 a29 a30 a31 a6 a7 a8 a9 a44 a45 a46 hsl hlu
    rintro q a S6 ⟨k, rfl, hk, a0, a1, a5, a29, a30, a31, a7, a9, a66, a67, a68, rfl⟩
    by_cases hki : k < i
    · obtain ⟨p, q1, q2⟩ := ru.int (i := k) (by simp; omega)
      have he : (C.take i)[k]'(by simp; omega) = C[k] := by simp
      rw [he] at q2
      have hne := ring_nd hf i k hlt hki
      rw [hx] at hne
      have g : (C[k] == x) = false := beq_eq_false_iff_ne.2 hne
      have hw := wrapS k (by omega)
      simp [f4b1, a66, a67, a68, a7, a9, hki, q1, q2, bne, g, hw]
      exact ⟨i - (k + 1), by omega, k + 1, rfl, by omega, by simp [a0], by simp [a1], by simp [a5], by simp [a29], by simp [a30], by simp [a31], by simp [a7], by simp, by simp [a66], by simp [a67], by simp, rfl⟩
    · have hki' : k = i := by omega
      subst hki'
      have rc := own.rk 0 (v := cv) (k := 1) (es := ints C) rfl
      obtain ⟨p, q1, q2⟩ := rc.int (i := 0) (by omega)
      have h0 : C[0]'(by omega) = z := by obtain ⟨r, hr⟩ := hf.hd; simp [hr]
      rw [h0] at q2
      simp at q1
      have hw := wrapS k (by omega)
      simp [f4b1, a67, a68, a1, a5, a9, a31, q1, q2, bne, hw]
      exact ⟨C.length - (k + 1), by omega, k + 1, rfl, by omega, by simp [a0], by simp [a1], by simp [a5], by simp [a29], by simp [a30], by simp, own⟩
end Go.Abs
