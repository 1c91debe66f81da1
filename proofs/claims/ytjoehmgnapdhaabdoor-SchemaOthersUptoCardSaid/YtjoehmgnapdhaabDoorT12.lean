/- SchemaOthers' loops. Conditions: none but the lengths; definitions and lemmas. -/
import Derived.Test.YtjoehmgnapdhaabDoorTA
set_option linter.unusedSimpArgs false
set_option linter.unusedVariables false
namespace Go.Abs
open Go Go.RowKit Go.Proofs Go.Lx
variable {w0 : World}

theorem PartC.pre {T R P m} (h : PartC T R P m) {A : List (List Val)} (hA : ∀ r ∈ A, tagC r ≠ T.name) : PartC T (A ++ R) P m := by
  obtain ⟨ps, h1, h2⟩ := h
  refine ⟨ps, ?_, h2⟩
  have : A.filter (fun r => decide (tagC r = T.name)) = [] := by
    rw [List.filter_eq_nil_iff]; intro r hr; simpa using hA r hr
  rw [List.filter_append, h1, this]; rfl
theorem colRows_tag {T : Tbl} {n : Nat} : ∀ r ∈ colRows T.name T.cols n, tagC r = T.name := fun r hr => by
  obtain ⟨j, _, rfl⟩ := List.mem_map.1 hr
  rfl
theorem ColRows.own {T : Tbl} (hT : NamesT T) : ColRows (colRows T.name T.cols T.cols.length) := fun r hr => by
  obtain ⟨j, hj, rfl⟩ := List.mem_map.1 hr
  have hj' := List.mem_range.1 hj
  have h1 := (nameB_no hT.nm).2
  have h2 := (nameB_no (hT.cn j hj')).2
  refine ⟨_, _, _, rfl, by omega, ?_⟩
  rw [getD_eq _ _ _ hj']; omega
theorem PartC.self (T : Tbl) : PartC T (colRows T.name T.cols T.cols.length) (fun _ => True) T.cols.length := by
  refine ⟨List.range T.cols.length, ?_, List.nodup_range, fun j => by simp, by simp⟩
  rw [List.filter_eq_self.2 (fun r hr => by simpa using colRows_tag r hr)]
  rfl
theorem IdxRows.cons {X} (h : IdxRows X) {T : Tbl} (hT : NamesT T) {x : Idx} (hx : x ∈ T.idxs) : IdxRows (idxVals T x :: X) := fun r hr => by
  rcases List.mem_cons.1 hr with hr | hr
  · have h1 := (nameB_no hT.nm).2
    have h2 := (nameB_no (hT.xn x hx)).2
    exact ⟨_, _, hr, by omega, by omega, hT.join x hx⟩
  · exact h r hr

set_option maxHeartbeats 4000000 in
theorem l4c {Sb : Heap} {T o : Tbl} (hO : NamesT o) (hne : o.name ≠ T.name) {b : Nat} {cap : Option Nat} {av : List AVal} (hb : Sb[b]? = some (.cells 3 [av] cap)) (hav : TblV Sb o av) {x2 x5 x8 x9 x44 x45 x46 : AVal} {Q : AExit → Tmps → Heap → Prop} {a : Tmps} {u0 : AVal} {X0 : List (List Val)} {F : List (List Val)}
    (a2 : get a 2 = x2) (a5 : get a 5 = x5) (a8 : get a 8 = x8) (a9 : get a 9 = x9) (a44 : get a 44 = x44) (a45 : get a 45 = x45) (a46 : get a 46 = x46) (a11 : get a 11 = .ptr b 0 0) (a6 : get a 6 = u0) (a66 : get a 66 = .int o.idxs.length) (a67 : get a 67 = .int 0) (hu0 : Rk 1 Sb u0 (rowsC X0)) (hX0 : IdxRows X0) (hXl0 : X0.length ≤ 1000000000) (hF0 : X0.filter (fun r => decide (tagI r = T.name)) = F)
    (hQ : ∀ a' u6 X, get a' 2 = x2 → get a' 5 = x5 → get a' 8 = x8 → get a' 9 = x9 → get a' 44 = x44 → get a' 45 = x45 → get a' 46 = x46 → get a' 6 = u6 → Rk 1 Sb u6 (rowsC X) → IdxRows X → X.length = X0.length + o.idxs.length → X.filter (fun r => decide (tagI r = T.name)) = F → Q (.exit 4) a' Sb) :
    mwp (ACalls Tryd.prog (B0 w0)) (.loop (f4b1 fun _ => .top)) Q a Sb := by
  have h8 := hO.good.n8
  refine mwp_loop (I := fun n a S' => ∃ (i : Nat) (u6 : AVal) (X : List (List Val)), n = o.idxs.length - i ∧ i ≤ o.idxs.length ∧ get a 2 = x2 ∧ get a 5 = x5 ∧ get a 8 = x8 ∧ get a 9 = x9 ∧ get a 44 = x44 ∧ get a 45 = x45 ∧ get a 46 = x46 ∧ get a 11 = .ptr b 0 0 ∧ get a 6 = u6 ∧ get a 66 = .int o.idxs.length ∧ get a 67 = .int i ∧
    Sb = S' ∧ Rk 1 Sb u6 (rowsC X) ∧ IdxRows X ∧ X.length = X0.length + i ∧ X.filter (fun r => decide (tagI r = T.name)) = F) (n := o.idxs.length)
    ⟨0, _, X0, rfl, Nat.zero_le _, a2, a5, a8, a9, a44, a45, a46, a11, a6, a66, a67, rfl, hu0, hX0, rfl, hF0⟩ ?_
  clear a2 a5 a8 a9 a44 a45 a46 a11 a6 a66 a67 hu0 hX0 hF0
  rintro n a S' ⟨i, u6, X, rfl, hi, a2, a5, a8, a9, a44, a45, a46, a11, a6, a66, a67, rfl, hu, hX, hXl, hF⟩
  by_cases hlt : i < o.idxs.length
  · have hltI : (i : Int) < (o.idxs.length : Int) := by omega
    have w8' := w8 (w0 := w0) hav hO.sz hO.sz2 (fun x hx => by have := hO.join x hx; omega) i
    rw [if_pos (by omega), idxRow_at hlt] at w8'
    have hxm : o.idxs[i] ∈ o.idxs := List.getElem_mem hlt
    generalize o.idxs[i] = x at *
    have hF5 : (idxVals o x :: X).filter (fun r => decide (tagI r = T.name)) = F := by
      rw [List.filter_cons, hF]; simp [tagI_idx, hne]
    have hX5 := hX.cons hO hxm
    have happ : appendR 1 24 Sb (.list .full [[.list .full (valsC (idxVals o x))]]) u6 = .ok true (.list .any (rowsC (idxVals o x :: X))) Sb := by
      have h1 : ∀ e ∈ rowsC X, e.length = 1 := fun e he => by
        obtain ⟨r, _, rfl⟩ := List.mem_map.1 he
        rfl
      have h2 : (1 + X.length) * 24 ≤ 140737488355328 := by omega
      have h3 : 1 + X.length ≤ 4611686018427387903 := by omega
      have h1' : decide (∀ e ∈ rowsC X, e.length = 1) = true := decide_eq_true h1
      simp only [appendR, hu.src, h1', Fl.isFull, rowsC_len, List.length_singleton, decide_eq_true h2, decide_eq_true h3]
      simp [rowsC, rowC]
    obtain ⟨vc, vi, es, rfl, _⟩ := hav
    simp [-appendR, f4b1, a2, a5, a8, a9, a44, a45, a46, a11, a6, a66, a67, hltI, hb]
    refine w8'.use ?_
    rintro e S4 ⟨rfl, rfl⟩
    simp [-appendR, a2, a5, a8, a9, a44, a45, a46, a11, a6, a66, a67, happ, wrapS i (by omega)]
    exact ⟨o.idxs.length - (i + 1), by omega, i + 1, rfl, by omega, by simp, _, .list _ _, hX5, by simp; omega, hF5⟩
  · have hie : i = o.idxs.length := by omega
    subst hie
    have hge : ¬ (o.idxs.length : Int) < (o.idxs.length : Int) := by omega
    simp [f4b1, a2, a5, a8, a9, a44, a45, a46, a11, a6, a66, a67, hge]
    exact hQ _ _ X (by simp [a2]) (by simp [a5]) (by simp [a8]) (by simp [a9]) (by simp [a44]) (by simp [a45]) (by simp [a46]) (by simp [a6]) hu hX hXl hF

/-- Descriptions in a slice. -/
def TblsV (S : Heap) (Ts : List Tbl) (es : List (List AVal)) : Prop := es.length = Ts.length ∧ ∀ i (h : i < Ts.length), TblV S Ts[i] (es.getD i [])
theorem Ab.tbls {S S' : Heap} {Ts es} (h : Ab S S') (ht : TblsV S Ts es) : TblsV S' Ts es := ⟨ht.1, fun i hi => h.tbl (ht.2 i hi)⟩

set_option maxHeartbeats 8000000 in
theorem l4b {S9 : Heap} {T : Tbl} (hT : NamesT T) {Ts : List Tbl} {v1 : AVal} {es : List (List AVal)} (hv1 : Rk 3 S9 v1 es) (hts : TblsV S9 Ts es) (hTl : Ts.length ≤ 10000000) {b2 : Nat} {cap2 : Option Nat} {avT : List AVal} (hb2 : S9[b2]? = some (.cells 3 [avT] cap2)) (htT : TblV S9 T avT) {x8 x9 : AVal} {Q : AExit → Tmps → Heap → Prop} {a : Tmps} {u50 u60 : AVal} {R0 X0 : List (List Val)}
    (a2 : get a 2 = .ptr b2 0 0) (a5 : get a 5 = u50) (a6 : get a 6 = u60) (a8 : get a 8 = x8) (a9 : get a 9 = x9) (a44 : get a 44 = v1) (a45 : get a 45 = .int Ts.length) (a46 : get a 46 = .int 0)
    (hu50 : Rk 1 S9 u50 (rowsC R0)) (hu60 : Rk 1 S9 u60 (rowsC X0)) (hn0 : isNil .slice u50 = some false) (hR0 : ColRows R0) (hX0 : IdxRows X0) (hRl0 : R0.length ≤ 16) (hXl0 : X0.length ≤ 8) (hP0 : PartC T R0 (fun _ => True) T.cols.length) (hF0 : X0.filter (fun r => decide (tagI r = T.name)) = T.idxs.map (idxVals T))
    (hr : ∀ a' S', get a' 4 = .bool true → Ab S9 S' → Q .ret a' S')
    (hQ : ∀ a' S' u5 u6 R X, get a' 2 = .ptr b2 0 0 → get a' 5 = u5 → get a' 6 = u6 → get a' 8 = x8 → get a' 9 = x9 → Ab S9 S' → Rk 1 S' u5 (rowsC R) → Rk 1 S' u6 (rowsC X) → isNil .slice u5 = some false → ColRows R → IdxRows X → R.length ≤ 1000000000 → X.length ≤ 1000000000 → PartC T R (fun _ => True) T.cols.length → X.filter (fun r => decide (tagI r = T.name)) = T.idxs.map (idxVals T) → Q (.exit 2) a' S') :
    mwp (ACalls Tryd.prog (B0 w0)) (.loop (f4b2 fun _ => .top)) Q a S9 := by
  refine mwp_loop (I := fun n a S' => ∃ (i : Nat) (u5 u6 : AVal) (R X : List (List Val)), n = Ts.length - i ∧ i ≤ Ts.length ∧ get a 2 = .ptr b2 0 0 ∧ get a 5 = u5 ∧ get a 6 = u6 ∧ get a 8 = x8 ∧ get a 9 = x9 ∧ get a 44 = v1 ∧ get a 45 = .int Ts.length ∧ get a 46 = .int i ∧
    Ab S9 S' ∧ Rk 1 S' u5 (rowsC R) ∧ Rk 1 S' u6 (rowsC X) ∧ isNil .slice u5 = some false ∧ ColRows R ∧ IdxRows X ∧ R.length ≤ 16 + 16 * i ∧ X.length ≤ 8 + 8 * i ∧ PartC T R (fun _ => True) T.cols.length ∧ X.filter (fun r => decide (tagI r = T.name)) = T.idxs.map (idxVals T)) (n := Ts.length)
    ⟨0, _, _, R0, X0, rfl, Nat.zero_le _, a2, a5, a6, a8, a9, a44, a45, a46, Ab.refl _, hu50, hu60, hn0, hR0, hX0, by omega, by omega, hP0, hF0⟩ ?_
  clear a2 a5 a6 a8 a9 a44 a45 a46 hu50 hu60 hn0 hR0 hX0 hRl0 hXl0 hP0 hF0
  rintro n a S' ⟨i, u5, u6, R, X, rfl, hi, a2, a5, a6, a8, a9, a44, a45, a46, hab, hu5, hu6, hn, hR, hX, hRl, hXl, hP, hF⟩
  by_cases hlt : i < Ts.length
  · have hltI : (i : Int) < (Ts.length : Int) := by omega
    have hto := (hab.tbls hts).2 i hlt
    obtain ⟨p, q1, q2, _⟩ := (hab.rk hv1).elem (i := i) (by rw [hts.1]; exact hlt) (by
      obtain ⟨vc, vi, e2, he, _⟩ := hto
      rw [he]; rfl)
    have q3 := q2 true 3 (Nat.le_refl _)
    generalize Ts[i] = o at *
    have hto0 := hto
    obtain ⟨vc, vi, eo, he, hc, hi', hx⟩ := hto
    rw [he] at q3 hto0
    simp at q3
    have oc := hc.rk.isOne
    have oi := hi'.rk.isOne
    have habx : Ab S' (S' ++ [AObj.cells 3 [[.str o.name, vc, vi]] (some 1)]) := Ab.start _ _
    have hbo : (S' ++ [AObj.cells 3 [[.str o.name, vc, vi]] (some 1)])[S'.length]? = some (.cells 3 [[.str o.name, vc, vi]] (some 1)) := by simp
    have g2 := ((hab.trans habx).get (lt_of_some hb2)).trans hb2
    simp [-appendR, f4b2, a2, a5, a6, a8, a9, a44, a45, a46, hltI, q1, q3, oc, oi]
    generalize S' ++ [AObj.cells 3 [[.str o.name, vc, vi]] (some 1)] = Sb at *
    have htb := habx.tbl hto0
    refine (w6 htb).use ?_
    rintro e S3 ⟨rfl, rfl⟩
    by_cases hck : checkT o = 0
    rotate_left 1
    · have hg0 : (checkT o == 0) = false := beq_eq_false_iff_ne.2 hck
      simp [bne, hg0, a2, a5, a6, a8, a9, a44, a45, a46]
      exact hr _ _ (by simp) (hab.trans habx)
    have nO := namesT hck
    obtain ⟨vcT, viT, eT, heT, _⟩ := id htT
    rw [heT] at g2
    by_cases hne : o.name = T.name
    · simp [hck, hbo, g2, hne, a2, a5, a6, a8, a9, a44, a45, a46]
      exact hr _ _ (by simp) (hab.trans habx)
    simp [-appendR, hck, hbo, g2, hne, oc, oi, a2, a5, a6, a8, a9, a44, a45, a46]
    refine (w7 htb nO.sz).use ?_
    rintro e S4 ⟨uo, rfl, ho4⟩
    have h16 := nO.good.n16
    have h8 := nO.good.n8
    have hu54 := ho4.ab.rk (habx.rk hu5)
    obtain ⟨S5, happ, ho5, _⟩ := ho4.app 0 rfl (y := u5) (ys := rowsC R) (bytes := 24) hu54.src (fun e he => by
      obtain ⟨r, _, rfl⟩ := List.mem_map.1 he
      rfl) (by decide) (by simp; omega) (by simp; omega)
    rw [← rowsC_app] at ho5
    simp only [List.set_cons_zero] at ho5
    obtain ⟨v5, hv5⟩ : ∃ v5, v5 = AVal.row S4.length 0 ((rowsC (colRows o.name o.cols o.cols.length)).length + (rowsC R).length) := ⟨_, rfl⟩
    rw [← hv5] at happ ho5
    have hR5 : ColRows (colRows o.name o.cols o.cols.length ++ R) := fun r hr => by
      rcases List.mem_append.1 hr with hr | hr
      · exact ColRows.own nO r hr
      · exact hR r hr
    have hP5 := hP.pre (A := colRows o.name o.cols o.cols.length) (fun r hr => by rw [colRows_tag r hr]; exact hne)
    have hn5 : isNil .slice v5 = some false := Ap.nn (ho5.ap 0 _ _ _ rfl) (hP5.ne (by have := hT.good.n1; omega))
    have hbo5 := (ho5.ab.get (lt_of_some hbo)).trans hbo
    have hu65 := ho5.ab.rk (habx.rk hu6)
    have hto5 := ho5.ab.tbl htb
    have hli := (ho5.ab.rs (habx.rs hi')).rk.lenR
    rw [hx.1] at hli
    have hab5 := hab.trans (habx.trans ho5.ab)
    simp [-appendR, a2, a5, a6, a8, a9, a44, a45, a46, happ, hbo5, hli]
    refine l4c (x2 := .ptr b2 0 0) (x5 := v5) (x8 := x8) (x9 := x9) (x44 := v1) (x45 := .int Ts.length) (x46 := .int i) (u0 := u6) nO hne hbo5 hto5 (by simp [a2]) (by simp) (by simp [a8]) (by simp [a9]) (by simp [a44]) (by simp [a45]) (by simp [a46]) (by simp) (by simp [a6]) (by simp) (by simp) hu65 hX (by omega) hF ?_
    intro a' u7 X7 b2' b5 b8 b9 b44 b45 b46 b6 hu7 hX7 hXl7 hF7
    simp [b2', b5, b8, b9, b44, b45, b46, b6, wrapS i (by omega)]
    exact ⟨Ts.length - (i + 1), by omega, i + 1, rfl, by omega, by simp, hab5, _, ho5.rk 0 rfl, X7, hu7, hn5, hR5, hX7, by simp; omega, by omega, hP5, hF7⟩
  · have hie : i = Ts.length := by omega
    subst hie
    have hge : ¬ (Ts.length : Int) < (Ts.length : Int) := by omega
    simp [f4b2, a2, a5, a6, a8, a9, a44, a45, a46, hge]
    exact hQ _ _ _ _ R X (by simp [a2]) (by simp [a5]) (by simp [a6]) (by simp [a8]) (by simp [a9]) hab hu5 hu6 hn hR hX (by omega) (by omega) hP hF
end Go.Abs
