/- The walk of SchemaOthers. Conditions: none but the lengths; definitions and lemmas. -/
import Derived.Test.YtjoehmgnapdhaabDoorT12
set_option linter.unusedSimpArgs false
set_option linter.unusedVariables false
namespace Go.Abs
open Go Go.RowKit Go.Proofs Go.Lx
variable {w0 : World}

set_option maxHeartbeats 4000000 in
theorem l4x {S0 : Heap} {T : Tbl} (hT : NamesT T) {b : Nat} {cap : Option Nat} {av : List AVal} (hb : S0[b]? = some (.cells 3 [av] cap)) (hav : TblV S0 T av) {x1 x5 : AVal} {LX : List Ent} {Q : AExit → Tmps → Heap → Prop} {a : Tmps} {S1 : Heap} {u0 : AVal}
    (a1 : get a 1 = x1) (ab : get a 2 = .ptr b 0 0) (a5 : get a 5 = x5) (a6 : get a 6 = u0) (al : get a 25 = .int T.idxs.length) (ai : get a 26 = .int 0) (ho : Own S0.length S0 S1 ((u0, 1, rowsC []) :: LX))
    (hQ : ∀ a' S' u6 X, get a' 1 = x1 → get a' 2 = .ptr b 0 0 → get a' 5 = x5 → get a' 6 = u6 → Own S0.length S0 S' ((u6, 1, rowsC X) :: LX) → IdxRows X → X.length ≤ T.idxs.length → X.filter (fun r => decide (tagI r = T.name)) = T.idxs.map (idxVals T) → Q (.exit 0) a' S') :
    mwp (ACalls Tryd.prog (B0 w0)) (.loop (f4b0 fun _ => .top)) Q a S1 := by
  have h8 := hT.good.n8
  refine mwp_loop (I := fun n a S' => ∃ (i : Nat) (u6 : AVal) (X : List (List Val)), n = T.idxs.length - i ∧ i ≤ T.idxs.length ∧ get a 1 = x1 ∧ get a 2 = .ptr b 0 0 ∧ get a 5 = x5 ∧ get a 6 = u6 ∧ get a 25 = .int T.idxs.length ∧ get a 26 = .int i ∧
    Own S0.length S0 S' ((u6, 1, rowsC X) :: LX) ∧ IdxRows X ∧ X.length = i ∧ X.filter (fun r => decide (tagI r = T.name)) = (T.idxs.take i).map (idxVals T)) (n := T.idxs.length)
    ⟨0, _, [], rfl, Nat.zero_le _, a1, ab, a5, a6, al, ai, ho, (by intro r h; cases h), rfl, rfl⟩ ?_
  clear a1 ab a5 a6 al ai ho
  rintro n a S' ⟨i, u6, X, rfl, hi, a1, ab, a5, a6, al, ai, ho, hX, hXl, hF⟩
  by_cases hlt : i < T.idxs.length
  · have hltI : (i : Int) < (T.idxs.length : Int) := by omega
    have hbS := (ho.ab.get (lt_of_some hb)).trans hb
    have w8' := w8 (w0 := w0) (ho.ab.tbl hav) hT.sz hT.sz2 (fun x hx => by have := hT.join x hx; omega) i
    rw [if_pos (by omega), idxRow_at hlt] at w8'
    have hxm : T.idxs[i] ∈ T.idxs := List.getElem_mem hlt
    have htk : (T.idxs.take (i + 1)).map (idxVals T) = (T.idxs.take i).map (idxVals T) ++ [idxVals T T.idxs[i]] := by
      rw [List.take_add_one, List.getElem?_eq_getElem hlt, List.map_append]; rfl
    generalize T.idxs[i] = x at *
    obtain ⟨S3, happ3, ho4, _⟩ := ho.app 0 rfl (y := .list .full [rowC (idxVals T x)]) (ys := [rowC (idxVals T x)]) (bytes := 24) rfl (by simp [rowC]) (by decide) (by simp; omega) (by simp; omega)
    rw [← rowsC_snoc] at ho4
    obtain ⟨v3, hv3⟩ : ∃ v3, v3 = AVal.row S'.length 0 ((rowsC X).length + 1) := ⟨_, rfl⟩
    simp only [List.length_singleton, ← hv3, rowC] at happ3 ho4
    have ho5 : Own S0.length S0 S3 ((v3, 1, rowsC (X ++ [idxVals T x])) :: LX) := ho4
    have hX5 := hX.snoc hT hxm
    have hF5 : (X ++ [idxVals T x]).filter (fun r => decide (tagI r = T.name)) = (T.idxs.take (i + 1)).map (idxVals T) := by
      rw [List.filter_append, hF, htk]; simp [tagI_idx]
    obtain ⟨vc, vi, es, rfl, _⟩ := hav
    simp [-appendR, f4b0, a1, ab, a5, a6, al, ai, hltI, hbS]
    refine w8'.use ?_
    rintro e S4 ⟨rfl, rfl⟩
    simp [-appendR, a1, ab, a5, a6, al, ai, happ3, wrapS i (by omega)]
    refine ⟨T.idxs.length - (i + 1), by omega, i + 1, rfl, by omega, by simp, _, ho5, hX5, by simp; omega, by rw [hF5, List.map_take]⟩
  · have hie : i = T.idxs.length := by omega
    subst hie
    have hge : ¬ (T.idxs.length : Int) < (T.idxs.length : Int) := by omega
    rw [List.take_length] at hF
    simp [f4b0, a1, ab, a5, a6, al, ai, hge]
    exact hQ _ _ _ X (by simp [a1]) (by simp [ab]) (by simp [a5]) (by simp [a6]) ho hX (by omega) hF

set_option maxHeartbeats 8000000 in
/-- SchemaOthers. -/
theorem w4 {S : Heap} {T : Tbl} {Ts : List Tbl} {avT : List AVal} {v1 : AVal} {es : List (List AVal)} (htT : TblV S T avT) (hv1 : Rk 3 S v1 es) (hts : TblsV S Ts es) (hTl : Ts.length ≤ 10000000) : ACalls Tryd.prog (B0 w0) 4 [.agg avT, v1] S fun e S' => e = .ret (.bool true) ∧ S' = S := by
  refine ACalls.close (R := fun e S' => e = .ret (.bool true) ∧ S'.take S.length = S) ?_ ?_
  rotate_left 1
  · rintro e S' ⟨rfl, ht⟩
    exact .flat ht rfl ⟨rfl, rfl⟩
  have htT0 := htT
  obtain ⟨vcA, viA, esA, rfl, hcA, hiA, hxA⟩ := htT
  have o1 := hcA.rk.isOne
  have o2 := hiA.rk.isOne
  have hab1 : Ab S (S ++ [AObj.cells 3 [[.str T.name, vcA, viA]] (some 1)]) := Ab.start _ _
  have hb2 : (S ++ [AObj.cells 3 [[.str T.name, vcA, viA]] (some 1)])[S.length]? = some (.cells 3 [[.str T.name, vcA, viA]] (some 1)) := by simp
  refine fn_sound tryOrd (f4_c _) (by simp [f4]) ?_
  simp [f4, f4m, o1, o2]
  generalize S ++ [AObj.cells 3 [[.str T.name, vcA, viA]] (some 1)] = S1 at *
  refine (speaks5 w0 S1).use ?_
  rintro e S2 ⟨rfl, rfl⟩
  have htk := hab1.2
  have hA2 := hab1.tbl htT0
  simp [hb2, o1, o2]
  refine (w6 hA2).use ?_
  rintro e S3 ⟨rfl, rfl⟩
  by_cases hck : checkT T = 0
  rotate_left 1
  · have hg0 : (checkT T == 0) = false := beq_eq_false_iff_ne.2 hck
    simp [bne, hg0, htk]
  have nA := namesT hck
  have h16 := nA.good.n16
  have h1 := nA.good.n1
  have h8 := nA.good.n8
  simp [hck, hb2, o1, o2]
  refine (w7 hA2 nA.sz).use ?_
  rintro e S5 ⟨vx, rfl, ho5⟩
  have g2 := (ho5.ab.get (lt_of_some hb2)).trans hb2
  have hli := (ho5.ab.rs (hab1.rs hiA)).rk.lenR
  rw [hxA.1] at hli
  have ho6 : Own S3.length S3 S5 ((.list .full [], 1, rowsC []) :: [(vx, 1, rowsC (colRows T.name T.cols T.cols.length))]) := (ho5.add0 1 .full (.inr rfl)).perm (List.Perm.swap _ _ _)
  simp [g2, hli]
  refine l4x (x1 := v1) (x5 := vx) nA hb2 hA2 (by simp) (by simp) (by simp) (by simp) (by simp) (by simp) ho6 ?_
  intro a6 S6 u6 X b1 b2 b5 b6 ho7 hX hXl hF
  have g2 := (ho7.ab.get (lt_of_some hb2)).trans hb2
  have hu5 : Rk 1 S6 vx (rowsC (colRows T.name T.cols T.cols.length)) := ho7.rk 1 rfl
  have hu6 : Rk 1 S6 u6 (rowsC X) := ho7.rk 0 rfl
  have hP := PartC.self T
  have hR := ColRows.own nA
  have hnn : isNil .slice vx = some false := Ap.nn (ho7.ap 1 vx 1 _ rfl) (hP.ne (by omega))
  have hRl : (colRows T.name T.cols T.cols.length).length = T.cols.length := by simp
  have hab7 := ho7.ab
  clear ho7 ho6 ho5
  simp [b1, b2, b5, b6, g2]
  refine (build hck hu5 hnn hu6 hR hX (by omega) (by omega) hP hF).use ?_
  rintro e S8 ⟨avS, rfl, hab8, htS⟩
  obtain ⟨vcS, viS, esS, rfl, hcS, hiS, hxS⟩ := id htS
  have o5 := hcS.rk.isOne
  have o6 := hiS.rk.isOne
  have hab9 : Ab S8 (S8 ++ [AObj.cells 3 [[.str T.name, vcS, viS]] (some 1)]) := Ab.start _ _
  have hbs : (S8 ++ [AObj.cells 3 [[.str T.name, vcS, viS]] (some 1)])[S8.length]? = some (.cells 3 [[.str T.name, vcS, viS]] (some 1)) := by simp
  simp [b1, b2, b5, b6, o5, o6]
  generalize hS9 : S8 ++ [AObj.cells 3 [[.str T.name, vcS, viS]] (some 1)] = S9 at *
  have hab10 := hab7.trans (hab8.trans hab9)
  have hv9 := (hab1.trans hab10).rk hv1
  have ht9 := (hab1.trans hab10).tbls hts
  have g9 := (hab10.get (lt_of_some hb2)).trans hb2
  have hlv := hv9.lenR
  rw [ht9.1] at hlv
  simp [b1, b2, b5, b6, hlv]
  refine l4b (x8 := .ptr S8.length 0 0) (x9 := .int 0) nA hv9 ht9 hTl g9 (hab10.tbl hA2) (by simp [b2]) (by simp [b5]) (by simp [b6]) (by simp) (by simp) (by simp [b1]) (by simp) (by simp) ((hab8.trans hab9).rk hu5) ((hab8.trans hab9).rk hu6) hnn hR hX (by omega) (by omega) hP hF ?_ ?_
  · intro a' S' h4 hab
    simp [h4]
    exact (hab1.trans (hab10.trans hab)).2
  clear b1 b2 b5 b6
  intro a7 S10 u5 u7 R X2 b2 b5 b6 b8 b9 hab11 hu5' hu7 hn7 hR7 hX7 hRl7 hXl7 hP7 hF7
  have g2 := (hab11.get (lt_of_some g9)).trans g9
  simp [b2, b5, b6, b8, b9, g2]
  refine (build hck hu5' hn7 hu7 hR7 hX7 (by omega) (by omega) hP7 hF7).use ?_
  rintro e S11 ⟨avT, rfl, hab12, htT2⟩
  obtain ⟨vcT, viT, esT, rfl, hcT, hiT, hxT⟩ := id htT2
  have o7 := hcT.rk.isOne
  have o8 := hiT.rk.isOne
  have hab13 : Ab S11 (S11 ++ [AObj.cells 3 [[.str T.name, vcT, viT]] (some 1)]) := Ab.start _ _
  have hbt : (S11 ++ [AObj.cells 3 [[.str T.name, vcT, viT]] (some 1)])[S11.length]? = some (.cells 3 [[.str T.name, vcT, viT]] (some 1)) := by simp
  simp [b2, b5, b6, b8, b9, o7, o8]
  have hab14 := hab11.trans (hab12.trans hab13)
  have hbs' := (hab14.get (lt_of_some hbs)).trans hbs
  have g2' := (hab14.get (lt_of_some g9)).trans g9
  have hS := hab14.tbl (hab9.tbl htS)
  have hT := hab13.tbl htT2
  have hA9 := (hab10.trans hab14).tbl hA2
  have htk2 := (hab1.trans (hab10.trans hab14)).2
  generalize S11 ++ [AObj.cells 3 [[.str T.name, vcT, viT]] (some 1)] = S14 at *
  simp [b2, b5, b6, b8, b9, hbs', hbt, g2']
  refine (w10 hS hA9 nA.sz).use ?_
  rintro e S15 ⟨rfl, rfl⟩
  simp [b2, b5, b6, b8, b9, hbs', hbt, g2']
  refine (w10 hT hA9 nA.sz).use ?_
  rintro e S16 ⟨rfl, rfl⟩
  simp [htk2]
end Go.Abs
