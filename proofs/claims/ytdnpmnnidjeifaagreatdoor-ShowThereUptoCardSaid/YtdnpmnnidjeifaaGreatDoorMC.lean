/- Walks of the seat's functions, and their plain laws. Conditions: none but the lengths and the tables; definitions and lemmas. -/
import Derived.Test.YtdnpmnnidjeifaaGreatDoorMB
import Derived.Test.YtdnpmnnidjeifaaGreatDoorMA
import Derived.Lib.ItoaNum
import Derived.Lib.Replace
import Derived.Lib.SplitLaws
import Derived.Test.YtdnpmnnidjeifaaGreatDoorA35
set_option linter.unusedSimpArgs false
set_option linter.unusedVariables false
namespace Go.Abs
open Go Go.RowKit Go.Proofs Go.Lx Go.Pz
variable {w0 : World}
def exlC (xs : List Ex) : List (List AVal) := xs.map exC
@[simp] theorem exlC_len (xs : List Ex) : (exlC xs).length = xs.length := by simp [exlC]
theorem exlC_snoc (xs : List Ex) (x : Ex) : exlC (xs ++ [x]) = exlC xs ++ [exC x] := by simp [exlC]
theorem whole_len {N : Nat} {s s' : Sta} {x : Ex} (h : whole resv N s = .ok (x,s')) (hl : s.l.length ≤ N) : s'.l.length < s.l.length := by
 rw [whole] at h
 cases hF : Pz.either resv N 0 s.l with
 | error c => rw [hF] at h; cases h
 | ok y =>
   obtain ⟨y,l'⟩ := y
   have := either_good resv N 0 _ _ _ hl hF
   rw [hF] at h
   simp only [Except.ok.injEq,Prod.mk.injEq] at h
   obtain ⟨rfl,rfl⟩ := h
   simp only
   omega
set_option maxHeartbeats 1000000 in
theorem w127 {T : Heap} {pid b2 bp N : Nat} (hp : pid < T.length) (hb2 : b2 < T.length) (hpb : pid ≠ b2) (hbp : T[bp]? = some (.cells 1 [[.ptr pid 0 0]] (some 1))) (hbp1 : bp ≠ pid) (hbp2 : bp ≠ b2) {s : Sta} {S : Heap} {xs : List Ex}
  (hli : LI T pid b2 [.nilS] 0 7 (exlC xs) s S) (hlen : xs.length ≤ 60) (hl : s.l.length < N) (hN : N ≤ 1000000) :
  ACalls Tryz.prog (B0 w0) 127 [.ptr b2 0 0,.ptr bp 0 0] S (LR T pid b2 [.nilS] 0 7 exlC (exprsS resv N xs s)) := by
 obtain ⟨r,hr⟩ : ∃ r,exprsS resv N xs s = r := ⟨_,rfl⟩
 rw [hr]
 rw [exprsS] at hr
 obtain ⟨h1,⟨v,h2,h3⟩,h4⟩ := hli
 have h2 : S[b2]? = some (.cells 1 [[v]] (some 1)) := h2
 have g1 : S[bp]? = some (.cells 1 [[.ptr pid 0 0]] (some 1)) := (h4.2 bp (lt_of_some hbp) hbp1 hbp2).trans hbp
 have hv := (h3.rk 0 rfl).lenR
 rw [exlC_len] at hv
 refine fn_sound tryOrd (f127_c _) (by simp [f127]) ?_
 simp [-appendR,f127,f127m,g1,h2,hv]
 refine (w128 h1 hl hN).use ?_
 rintro e S1 ⟨hst,h5⟩
 have k1 := h4.trans (hst.k2 (sid := b2))
 have h6 := (hst.2 b2 (Ne.symm hpb)).trans h2
 have ho1 := h3.step hst hp
 have hv1 := (ho1.rk 0 rfl).lenR
 rw [exlC_len] at hv1
 cases hF : whole resv N s with
 | error c =>
   rw [hF] at h5 hr
   obtain ⟨rfl,_⟩ := h5
   simp
   subst hr
   exact ⟨rfl,k1⟩
 | ok y =>
   obtain ⟨x,s1⟩ := y
   rw [hF] at h5 hr
   rw [bindS_ok] at hr
   obtain ⟨rfl,h7⟩ := h5
   obtain ⟨S3,a1,a2,a3,a4⟩ := ho1.app2 0 rfl (y := .list .full [[.int 0,.nilS,.int 0,.int 0,.int 0,.str [],.str []]]) (ys := [[.int 0,.nilS,.int 0,.int 0,.int 0,.str [],.str []]]) (bytes := 88) rfl (by simp) (by decide) (by simp; omega) (by simp; omega)
   simp only [exlC_len,List.length_singleton,List.set_cons_zero] at a1 a2
   have hlow : ∀ j,j < T.length → S3[j]? = S1[j]? := fun j hj => a4 j (by have := k1.1; omega) fun o l e => by
    subst e
    have := (ho1.idlt (i := 0) rfl).1
    omega
   have g3 := (hlow b2 hb2).trans h6
   have hap := a2.ap 0 _ _ _ rfl
   obtain ⟨es3,cap3,hc3,hle3,hes3⟩ : ∃ es3 cap3,S3[S1.length]? = some (.cells 7 es3 cap3) ∧ 0 + (xs.length + 1) ≤ es3.length ∧ (es3.drop 0).take (xs.length + 1) = exlC xs ++ [[.int 0,.nilS,.int 0,.int 0,.int 0,.str [],.str []]] := by
    generalize hZ : exlC xs ++ [[AVal.int 0,.nilS,.int 0,.int 0,.int 0,.str [],.str []]] = Z at hap
    cases hap with
    | row _ _ _ es3 cap3 hN hS hle => exact ⟨es3,cap3,hS,hle,rfl⟩
   have hq : S1.length ≠ b2 := by have := k1.1; omega
   have hqp : S1.length ≠ pid := by have := k1.1; omega
   have hlt3 : xs.length < es3.length := by omega
   have fin : ∀ H : Heap,H.length = S3.length → H[S1.length]? = some (.cells 7 (es3.set xs.length (exC x)) cap3) → H[b2]? = some (.cells 1 [[.row S1.length 0 (xs.length + 1)]] (some 1)) → (∀ j,j ≠ S1.length → j ≠ b2 → H[j]? = S3[j]?) →
     LI T pid b2 [.nilS] 0 7 (exlC (xs ++ [x])) s1 H := fun H e1 e2 e3 e4 => by
    refine ⟨?_,⟨.row S1.length 0 (xs.length + 1),e3,⟨?_,fun _ _ => rfl,fun i v k es hi => ?_,fun i j id o l o' l' k es k' es' hi hj => ?_⟩⟩,?_⟩
    ·obtain ⟨o,ho,hpo⟩ := h7
     exact ⟨o,by rw [e4 pid (Ne.symm hqp) hpb,hlow pid hp]; exact ho,hpo⟩
    ·have := k1.1; omega
    ·cases i with
     | zero =>
       simp only [List.getElem?_cons_zero,Option.some.injEq,Prod.mk.injEq] at hi
       obtain ⟨rfl,rfl,rfl⟩ := hi
       have := Ap.row (N := T.length) (k := 7) (S := H) S1.length 0 (xs.length + 1) (es3.set xs.length (exC x)) cap3 k1.1 e2 (by simpa using hle3)
       rw [List.drop_zero] at this hes3
       have hx : (es3.set xs.length (exC x)).take (xs.length + 1) = exlC (xs ++ [x]) := by
        rw [List.take_set,hes3,exlC_snoc,List.set_append_right _ _ (by simp)]
        simp
       rwa [hx] at this
     | succ i => simp at hi
    ·cases i <;> cases j <;> first | rfl | (simp at hi; done) | (simp at hj; done)
    ·refine ⟨by have := k1.1; omega,fun j hj j1 j2 => ?_⟩
     rw [e4 j (by have := k1.1; omega) j2,hlow j hj,k1.2 j hj j1 j2]
   simp [-appendR,h6,hv1,a1,hc3,hlt3,g3,hq]
   have hql := lt_of_some hc3
   have hbl := lt_of_some g3
   refine ⟨by omega,?_,?_⟩
   ·subst hr
    refine And.intro rfl (fin _ (by simp) ?_ ?_ ?_)
    ·rw [List.getElem?_set_ne (Ne.symm hq),List.getElem?_set_self hql]
    ·rw [List.getElem?_set_self (by simpa using hbl)]
    ·intro j j1 j2
     rw [List.getElem?_set_ne (Ne.symm j2),List.getElem?_set_ne (Ne.symm j1)]
   ·have g4 : (S3.set b2 (.cells 1 [[.row S1.length 0 (xs.length + 1)]] (some 1)))[S1.length]? = some (.cells 7 es3 cap3) := by rw [List.getElem?_set_ne (Ne.symm hq)]; exact hc3
    simp [g4,hlt3]
    subst hr
    refine ⟨by omega,?_⟩
    refine And.intro rfl (fin _ (by simp) ?_ ?_ ?_)
    ·rw [List.getElem?_set_self (by simpa using hql)]
    ·rw [List.getElem?_set_ne hq,List.getElem?_set_self hbl]
    ·intro j j1 j2
     rw [List.getElem?_set_ne (Ne.symm j1),List.getElem?_set_ne (Ne.symm j2)]
end Go.Abs
namespace Go.Abs
open Go Go.RowKit Go.Proofs Go.Lx Go.Pz
variable {w0 : World}
def rwsC (rows : List (List Ex)) : List (List AVal) := rows.map fun xs => [.list .unk (exlC xs)]
@[simp] theorem rwsC_len (xs : List (List Ex)) : (rwsC xs).length = xs.length := by simp [rwsC]
theorem rwsC_snoc (xs : List (List Ex)) (x : List Ex) : rwsC (xs ++ [x]) = rwsC xs ++ [[.list .unk (exlC x)]] := by simp [rwsC]
theorem exprsS_step {N : Nat} {x : List Ex} {s : Sta} {x' : List Ex} {s' : Sta} (hl : s.l.length ≤ N) (h : exprsS resv N x s = .ok (x',s')) : x'.length = x.length + 1 ∧ s'.l.length ≤ s.l.length := by
 rw [exprsS] at h
 cases hF : whole resv N s with
 | error c => rw [hF] at h; cases h
 | ok y =>
   obtain ⟨y,s1⟩ := y
   have := whole_len hF hl
   rw [hF,bindS_ok] at h
   simp only [Except.ok.injEq,Prod.mk.injEq] at h
   obtain ⟨rfl,rfl⟩ := h
   exact ⟨by simp,by omega⟩
theorem listF_step {α : Type} {V : α → Nat} {step : α → Sta → ResS α} {N : Nat} (hs : ∀ x s x' s',s.l.length ≤ N → step x s = .ok (x',s') → V x' = V x + 1 ∧ s'.l.length ≤ s.l.length) : ∀ (f : Nat) (x : α) (s : Sta) (x' : α) (s' : Sta),s.l.length ≤ N → listF step f x s = .ok (x',s') → V x + 1 ≤ V x' ∧ s'.l.length ≤ s.l.length
 | 0,x,s,x',s',hl,h => by
   have := hs x s x' s' hl h
   omega
 | f + 1,x,s,x',s',hl,h => by
   rw [listF] at h
   cases hF : step x s with
   | error c => rw [hF] at h; cases h
   | ok y =>
     obtain ⟨y,s1⟩ := y
     have h1 := hs _ _ _ _ hl hF
     rw [hF] at h
     simp only at h
     split at h
     ·split at h
      ·cases h
      ·have h2 := listF_step hs f y ⟨s1.l.tail,s1.d⟩ x' s' (by simp; omega) h
       simp only [List.length_tail] at h2
       omega
     ·simp only [Except.ok.injEq,Prod.mk.injEq] at h
      obtain ⟨rfl,rfl⟩ := h
      omega
def R82 (S0 : Heap) (pid sid : Nat) (c0 : List AVal) (n0 : Nat) (rows : List (List Ex)) (r : ResS (List (List Ex))) (e : AEnd) (S' : Heap) : Prop :=
 match r with
 | .ok (rows',s) => e = .ret .undef ∧ ∃ (xs : List Ex) (rid off len : Nat) (es0 : List (List AVal)) (cap : Option Nat),rows' = rows ++ [xs] ∧ n0 ≤ rid ∧ S'[rid]? = some (.cells 7 es0 cap) ∧ off + len ≤ es0.length ∧ (es0.drop off).take len = exlC xs ∧
   LI S0 pid sid c0 6 1 (rwsC rows ++ [[.row rid off len]]) s S'
 | .error c => e = .panic (trb c) ∧ Kst pid sid S0 S'
section
variable {S0 : Heap} {pid sid bp bs : Nat} (hB : Bx S0 pid sid bp bs) {c0 : List AVal} (hc0 : c0.length = 18) {s : Sta} {S : Heap}
include hB hc0
set_option maxHeartbeats 2000000 in
theorem w126a {N : Nat} {rows : List (List Ex)} (hli : LI S0 pid sid c0 6 1 (rwsC rows) s S) (hlen : rows.length ≤ 60) (hl : s.l.length < N) (hN : N ≤ 1000000) :
  ACalls Tryz.prog (B0 w0) 126 [.ptr bp 0 0,.ptr bs 0 0] S (R82 S0 pid sid c0 S.length rows (rowS resv N rows s)) := by
 obtain ⟨r,hr⟩ : ∃ r,rowS resv N rows s = r := ⟨_,rfl⟩
 rw [hr]
 rw [rowS,needS] at hr
 obtain ⟨h1,⟨v,h2,h3⟩,h4⟩ := hli
 have g1 := hB.gp h4
 have hg1 := hmoreG (lt_of_some g1)
 refine fn_sound tryOrd (f126_c _) (by simp [f126]) ?_
 simp [-appendR,f126,f126m,hg1,g1]
 refine (w120 (h1.more _) _).use ?_
 rintro e S1 ⟨hsq1,h5⟩
 obtain ⟨T1,rfl,hst1⟩ := hsq1.split h1.lt
 have e1 := hst1.1
 have k1 := h4.trans (hst1.k2 (sid := sid))
 by_cases hT : isT 5 [40] s.l = true
 rotate_left 1
 ·have hT : isT 5 [40] s.l = false := by simpa using hT
  rw [need_er hT] at h5
  rw [if_neg (by simp [hT]),thenS_error] at hr
  obtain ⟨rfl,_⟩ := h5
  simp
  subst hr
  exact And.intro rfl (k1.more _)
 rw [need_ok hT] at h5
 rw [if_pos hT,thenS_ok] at hr
 obtain ⟨rfl,h5⟩ := h5
 have h5 := h5.less (hst1.1 ▸ h1.lt)
 have hlt1 := isT_len hT
 have g3 := hB.gp k1
 have hg3 := hmoreG (lt_of_some g3)
 obtain ⟨T,hTe⟩ : ∃ T,T = T1 ++ [AObj.cells 1 [[AVal.nilS]] (some 1)] := ⟨_,rfl⟩
 have hTl : T.length = T1.length + 1 := by rw [hTe]; simp
 have hpT : pid < T.length := by have := h5.lt; omega
 have hb2 : T[T1.length]? = some (.cells 1 [[.nilS]] (some 1)) := by rw [hTe]; simp
 have hpb : pid ≠ T1.length := by have := h5.lt; omega
 have gT : T[bp]? = some (.cells 1 [[.ptr pid 0 0]] (some 1)) := by rw [hTe,hg3]; exact g3
 have hbpb : bp ≠ T1.length := by have := lt_of_some g3; omega
 have li0 : LI T pid T1.length [.nilS] 0 7 (exlC []) ⟨s.l.tail,s.d⟩ T :=
  ⟨by rw [hTe]; exact h5.more _,⟨.nilS,hb2,by
   have := (Own.start T).add0 7 .nil (.inl rfl)
   exact this⟩,Kst.refl _ _ _⟩
 simp [-appendR,hg3,g3,e1]
 rw [← hTe]
 refine (w121 (step := exprsS resv N) (V := exlC) (n := s.l.length - 1) (most := 50) (o1 := []) hpT hpb (by decide) (fun x s2 S2 hli hlen hl2 => w127 (N := N) hpT (by omega) hpb gT hB.b1 hbpb hli (by simp at hlen; omega) (by omega) hN)
  (fun x s2 x' s2' hl3 h => ?_) (x := []) (s := ⟨s.l.tail,s.d⟩) li0 rfl (by simp) (by decide)).use ?_
 ·have := exprsS_step (N := N) (by omega) h
  simpa using this
 rintro e S3 h6
 have kT : Kst pid sid S0 T := by rw [hTe]; exact k1.more _
 have hS0T1 : S0.length ≤ T1.length := k1.1
 cases hF : listF (exprsS resv N) 50 [] ⟨s.l.tail,s.d⟩ with
 | error c =>
   rw [hF] at h6 hr
   obtain ⟨rfl,k⟩ := h6
   simp
   subst hr
   exact And.intro rfl (kT.inner k hS0T1)
 | ok y =>
   obtain ⟨xs,s2⟩ := y
   have hst := listF_step (V := List.length) (N := N) (fun x s x' s' h h' => exprsS_step h h') 50 [] ⟨s.l.tail,s.d⟩ xs s2 (by simp only; omega) hF
   rw [hF] at h6 hr
   rw [bindS_ok,needS] at hr
   obtain ⟨rfl,b1,⟨v1,b2,b3⟩,b4⟩ := h6
   have b2 : S3[T1.length]? = some (.cells 1 [[v1]] (some 1)) := b2
   have k3 := kT.inner b4 hS0T1
   have g5 := hB.gp k3
   simp [-appendR,g5]
   refine (w120 b1 _).use ?_
   rintro e S4 ⟨hst4,h7⟩
   have k4 := k3.trans (hst4.k2 (sid := sid))
   by_cases hC : isT 5 [41] s2.l = true
   rotate_left 1
   ·have hC : isT 5 [41] s2.l = false := by simpa using hC
    rw [need_er hC] at h7
    rw [if_neg (by simp [hC]),thenS_error] at hr
    obtain ⟨rfl,_⟩ := h7
    simp
    subst hr
    exact And.intro rfl k4
   rw [need_ok hC] at h7
   rw [if_pos hC,thenS_ok] at hr
   obtain ⟨rfl,h7⟩ := h7
   have g6 := hB.gs k4
   have c2 := (hst4.2 T1.length (Ne.symm hpb)).trans b2
   have hsT1 : sid < T1.length := by have := hB.hs; omega
   have c3 : S4[sid]? = some (.cells c0.length [c0.set 6 v] (some 1)) := by
    rw [hst4.2 sid (Ne.symm hB.ps),b4.2 sid (by omega) (Ne.symm hB.ps) (by omega),hTe,List.getElem?_append_left hsT1,hst1.2 sid (Ne.symm hB.ps)]
    exact h2
   have hkeep : ∀ j,S0.length ≤ j → j < S.length → S4[j]? = S[j]? := fun j hj hj2 => by
    have hp0 := hB.hp
    rw [hst4.2 j (by omega),b4.2 j (by omega) (by omega) (by omega),hTe,List.getElem?_append_left (by omega),hst1.2 j (by omega)]
   have ho4 := h3.keep (S' := S4) (by have := b4.1; have := hst4.1; omega) hkeep
   obtain ⟨rid,off,len,rfl⟩ : ∃ rid off len,v1 = .row rid off len := by
    have hap := b3.ap 0 _ _ _ rfl
    generalize hZ : exlC xs = Z at hap
    cases hap with
    | none fl hf =>
      have : xs.length = 0 := by rw [← exlC_len xs,hZ]; rfl
      simp at hst
      omega
    | row id off len es0 cap hN hS hle => exact ⟨id,off,len,rfl⟩
   have hap := (b3.step hst4 hpT).ap 0 _ _ _ rfl
   obtain ⟨es0,cap,d1,d2,d3,d4⟩ : ∃ es0 cap,T.length ≤ rid ∧ S4[rid]? = some (.cells 7 es0 cap) ∧ off + len ≤ es0.length ∧ (es0.drop off).take len = exlC xs := by
    generalize hZ : exlC xs = Z at hap
    cases hap with
    | row _ _ _ es0 cap hN hS hle => exact ⟨es0,cap,hN,hS,hle,rfl⟩
   obtain ⟨S5,a1,a2,a3,a4,a5,a6⟩ := LI.app2 (bytes := 24) (s := ⟨s2.l.tail,s2.d⟩) hB.hp hB.hs hB.ps h7 c3 ho4 k4 (x := [.row rid off len]) rfl (by decide) (by decide) (by simp; omega) (y := .list .full [[.row rid off len]]) rfl
   rw [hc0] at a3 a5
   have g7 := (a2 bs (lt_of_some hB.xs)).trans g6
   have d5 : S5[rid]? = some (.cells 7 es0 cap) := (a6 rid (lt_of_some d2) fun o l e => by
    subst e
    have := (h3.idlt (i := 0) rfl).2
    omega).trans d2
   rw [rwsC_len] at a1 a5
   simp [-appendR,g6,c3,c2,hc0,a1,g7,a3]
   subst hr
   refine And.intro rfl ⟨xs,rid,off,len,es0,cap,rfl,by omega,?_,d3,d4,a5⟩
   rw [List.getElem?_set_ne (by omega)]
   exact d5
theorem w126 {N : Nat} {rows : List (List Ex)} (hli : LI S0 pid sid c0 6 1 (rwsC rows) s S) (hlen : rows.length ≤ 60) (hl : s.l.length < N) (hN : N ≤ 1000000) :
  ACalls Tryz.prog (B0 w0) 126 [.ptr bp 0 0,.ptr bs 0 0] S (LR S0 pid sid c0 6 1 rwsC (rowS resv N rows s)) := by
 refine (w126a hB hc0 hli hlen hl hN).frzH ?_
 intro hscs e S' hR
 cases hres : rowS resv N rows s with
 | error c => rw [hres] at hR; exact .inl hR
 | ok y =>
   obtain ⟨rows',s'⟩ := y
   rw [hres] at hR
   obtain ⟨rfl,xs,rid,off,len,es0,cap,rfl,hn0,hrid,hle,hes,h1,⟨v',h2,h3⟩,h4⟩ := hR
   refine .inr ⟨rid,7,es0,cap,hrid,rfl,?_⟩
   obtain ⟨q1,⟨v,q2,q3⟩,q4⟩ := hli
   have hp0 := hB.hp
   have hs0 := hB.hs
   have hle0 := q4.1
   have hmap : ∀ j o,j ≠ rid → S'[j]? = some o → ((S'.set rid .dead).map (AObj.fz rid es0))[j]? = some (o.fz rid es0) := fun j o hj ho => by
    rw [List.getElem?_map,List.getElem?_set_ne (Ne.symm hj),ho]; rfl
   have hlow : ∀ j o,j < S.length → S'[j]? = some o → o.sc S.length = true → ((S'.set rid .dead).map (AObj.fz rid es0))[j]? = some o := fun j o hj ho hsc => by
    rw [hmap j o (by omega) ho,AObj.fz_sc (n := S.length) hn0 hsc]
   have hap := h3.ap 0 _ _ _ rfl
   obtain ⟨id',off',len',rfl⟩ : ∃ id' off' len',v' = .row id' off' len' := by
    generalize hZ : rwsC rows ++ [[AVal.row rid off len]] = Z at hap
    cases hap with
    | none fl hf => exact absurd hZ (by simp)
    | row id off len es0 cap hN hS hle => exact ⟨id,off,len,rfl⟩
   obtain ⟨es1,cap1,d1,d2,d3,d4⟩ : ∃ es1 cap1,S0.length ≤ id' ∧ S'[id']? = some (.cells 1 es1 cap1) ∧ off' + len' ≤ es1.length ∧ (es1.drop off').take len' = rwsC rows ++ [[.row rid off len]] := by
    generalize hZ : rwsC rows ++ [[AVal.row rid off len]] = Z at hap
    cases hap with
    | row _ _ _ es0 cap hN hS hle => exact ⟨es0,cap,hN,hS,hle,rfl⟩
   have hne : id' ≠ rid := fun e => by rw [e,hrid] at d2; cases d2
   refine ⟨?_,⟨.row id' off' len',?_,?_⟩,?_⟩
   ·obtain ⟨o,ho,hpo⟩ := h1
    exact ⟨o,hlow pid o (by omega) ho (hpo.sc _),hpo⟩
   ·rw [hmap sid _ (by omega) h2]
    congr 1
    simp only [AObj.fz,List.map_cons,List.map_nil]
    congr 2
    have hsc := hscs _ (List.mem_of_getElem? q2)
    simp only [AObj.sc,scLL,Bool.and_true] at hsc
    have hfz := fzL_sc (id := rid) (es := es0) hn0 _ hsc
    have e6 : c0.set 6 (AVal.row id' off' len') = (c0.set 6 v).set 6 (.row id' off' len') := by rw [List.set_set]
    rw [e6,fzL_eq,List.map_set,← fzL_eq,hfz]
    congr 1
    simp only [AVal.fz]
    rw [if_neg (fun h => hne h.1)]
   ·refine ⟨by simp; have := h4.1; omega,fun _ _ => rfl,fun i u k es hi => ?_,fun i j id o l o' l' k es k' es' hi hj => ?_⟩
    ·cases i with
     | zero =>
       simp only [List.getElem?_cons_zero,Option.some.injEq,Prod.mk.injEq] at hi
       obtain ⟨rfl,rfl,rfl⟩ := hi
       have := Ap.row (N := S0.length) (k := 1) (S := (S'.set rid .dead).map (AObj.fz rid es0)) id' off' len' (es1.map (fzL rid es0)) cap1 d1 (hmap id' _ hne d2) (by simpa using d3)
       rw [← List.map_drop,← List.map_take,d4] at this
       have e7 : (rwsC rows ++ [[AVal.row rid off len]]).map (fzL rid es0) = rwsC (rows ++ [xs]) := by
        rw [rwsC_snoc,List.map_append]
        congr 1
        ·simp [rwsC]
        ·simp [hle,hes]
       rwa [e7] at this
     | succ i => simp at hi
    ·cases i <;> cases j <;> first | rfl | (simp at hi; done) | (simp at hj; done)
   ·refine ⟨by simp; have := h4.1; omega,fun j hj j1 j2 => ?_⟩
    have e8 := h4.2 j hj j1 j2
    have e9 := q4.2 j hj j1 j2
    have hjS : j < S.length := by omega
    have hget : S[j]? = some S[j] := List.getElem?_eq_getElem hjS
    have hS' : S'[j]? = some S[j] := by rw [e8,← e9,hget]
    rw [hlow j _ hjS hS' (hscs _ (List.getElem_mem hjS)),← e9,hget]
end
end Go.Abs
namespace Go.Abs
open Go Go.RowKit Go.Proofs Go.Lx Go.Pz
variable {w0 : World}
structure CI (S1 : Heap) (pid sid : Nat) (c : List AVal) (s : Sta) (S : Heap) : Prop where
 at_ : At S pid s.l 0 s.d
 st : S[sid]? = some (.cells 18 [c] (some 1))
 k2 : Kst pid sid S1 S
theorem setNe {S : Heap} {i j : Nat} (h : i ≠ j) (o : AObj) : (S.set i o)[j]? = S[j]? := List.getElem?_set_ne h
theorem setSelf {S : Heap} {i : Nat} (h : i < S.length) (o : AObj) : (S.set i o)[i]? = some o := List.getElem?_set_self h
section
variable {S1 : Heap} {pid sid : Nat} {c : List AVal} {s : Sta} {S : Heap}
theorem CI.step (h : CI S1 pid sid c s S) (hps : pid ≠ sid) {S' : Heap} (hst : Step pid S S') {s' : Sta} (ha : At S' pid s'.l 0 s'.d) : CI S1 pid sid c s' S' :=
 ⟨ha,(hst.2 sid (Ne.symm hps)).trans h.st,h.k2.trans hst.k2⟩
theorem CI.set (h : CI S1 pid sid c s S) (hps : pid ≠ sid) (c' : List AVal) : CI S1 pid sid c' s (S.set sid (.cells 18 [c'] (some 1))) := by
 obtain ⟨⟨o,ho,hpo⟩,h2,h3⟩ := h
 exact ⟨⟨o,by rw [List.getElem?_set_ne (Ne.symm hps)]; exact ho,hpo⟩,List.getElem?_set_self (lt_of_some h2),⟨by simpa using h3.1,fun j hj j1 j2 => by rw [List.getElem?_set_ne (Ne.symm j2)]; exact h3.2 j hj j1 j2⟩⟩
theorem CI.li (h : CI S1 pid sid c s S) (f k : Nat) (hc : c.length = 18) (hf : c.set f .nilS = c) : LI S pid sid c f k [] s S :=
 ⟨h.at_,⟨.nilS,by rw [hf,hc]; exact h.st,by
  have := (Own.start S).add0 k .nil (.inl rfl)
  exact this⟩,Kst.refl _ _ _⟩
theorem LI.ci {S0 : Heap} {f k : Nat} {es : List (List AVal)} (hc : c.length = 18) (h1 : Kst pid sid S1 S0) (h : LI S0 pid sid c f k es s S) : ∃ v,CI S1 pid sid (c.set f v) s S ∧ Ap S0.length k S v es := by
 obtain ⟨a,⟨v,b,o⟩,k⟩ := h
 rw [hc] at b
 exact ⟨v,⟨a,b,h1.trans k⟩,o.ap 0 _ _ _ rfl⟩
end
abbrev z18 : List AVal := [.int 0,.str [],.str [],.nilS,.nilS,.bool false,.nilS,.nilS,.nilS,.int 0,.nilS,.int 0,.int 0,.int 0,.str [],.str [],.nilS,.nilS]
def Vk (N k : Nat) (S : Heap) (v : AVal) (es : List (List AVal)) : Prop := Ap N k S v es ∨ ∃ fl,v = .list fl es
theorem Vk.nil (N k : Nat) (S : Heap) : Vk N k S .nilS [] := .inr ⟨.nil,rfl⟩
theorem Ap.le {N N' k S v es} (h : Ap N k S v es) (hn : N' ≤ N) : Ap N' k S v es := by
 cases h with
 | none fl hf => exact .none fl hf
 | row id off len es cap hN hS hl => exact .row id off len es cap (Nat.le_trans hn hN) hS hl
theorem Ap.step {N k S v es pid} {S' : Heap} (h : Ap N k S v es) (hst : Step pid S S') (hp : pid < N) : Ap N k S' v es := by
 cases h with
 | none fl hf => exact .none fl hf
 | row id off len es cap hN hS hl => exact .row id off len es cap hN (by rw [hst.2 id (by omega)]; exact hS) hl
def SC (N : Nat) (S : Heap) (st : Stm) (c : List AVal) : Prop := ∃ vC vN vR vI vF vO vS,c = [.int st.kind,.str st.table,.str st.index,vC,vN,.bool st.uniq,vR,vI,vF] ++ exC st.wher ++ [vO,vS] ∧
 Vk N 3 S vC (pcolsC st.cols) ∧ Vk N 1 S vN (namesC st.names) ∧ Vk N 1 S vR (rwsC st.rows) ∧ Vk N 8 S vI (itmsC st.items) ∧ Vk N 9 S vF (srcsC st.src) ∧ Vk N 8 S vO (srtsC st.order) ∧ Vk N 8 S vS (asnsC st.sets)
def CrR (S : Heap) (pid sid : Nat) (r : ResS Stm) (e : AEnd) (S' : Heap) : Prop :=
 match r with
 | .ok (st,s) => e = .ret .undef ∧ ∃ c,CI S pid sid c s S' ∧ SC S.length S' st c
 | .error c => e = .panic (trb c) ∧ Kst pid sid S S'
theorem exC_zero : exC .zero = [.int 0,.nilS,.int 0,.int 0,.int 0,.str [],.str []] := by rw [Ex.zero,exC_eq,exsV_nil]
theorem nameS_len {s s' : Sta} {n : Bs} (h : nameS resv s = .ok (n,s')) : s'.l.length < s.l.length := by
 rw [nameS] at h
 cases hF : nameR resv s.l with
 | error c => rw [hF] at h; cases h
 | ok y =>
   obtain ⟨y,l⟩ := y
   have := nameR_len hF
   rw [hF] at h
   simp only [Except.ok.injEq,Prod.mk.injEq] at h
   obtain ⟨-,rfl⟩ := h
   simp only; omega
theorem colS_step {x : List Pz.Col} {s : Sta} {x' : List Pz.Col} {s' : Sta} (h : (bindS (columnS resv s) fun c s => .ok (x ++ [c],s)) = .ok (x',s')) : (pcolsC x').length = (pcolsC x).length + 1 ∧ s'.l.length ≤ s.l.length := by
 cases hF : columnS resv s with
 | error c => rw [hF] at h; cases h
 | ok y =>
   obtain ⟨y,s1⟩ := y
   rw [hF,bindS_ok] at h
   simp only [Except.ok.injEq,Prod.mk.injEq] at h
   obtain ⟨rfl,rfl⟩ := h
   refine ⟨by simp,?_⟩
   rw [columnS] at hF
   cases hN : nameS resv s with
   | error c => rw [hN] at hF; cases hF
   | ok z =>
     obtain ⟨n,s2⟩ := z
     have h1 := nameS_len hN
     rw [hN,bindS_ok] at hF
     have ht : ∀ t s3,typeS s2 = .ok (t,s3) → s3.l.length < s2.l.length := fun t s3 h => by
      rw [typeS] at h
      split at h
      ·rename_i hh; simp only [Except.ok.injEq,Prod.mk.injEq] at h; obtain ⟨-,rfl⟩ := h; have := isT_len hh; simp only; omega
      split at h
      ·rename_i hh; simp only [Except.ok.injEq,Prod.mk.injEq] at h; obtain ⟨-,rfl⟩ := h; have := isT_len hh; simp only; omega
      split at h
      ·rename_i hh; simp only [Except.ok.injEq,Prod.mk.injEq] at h; obtain ⟨-,rfl⟩ := h; have := isT_len hh; simp only; omega
      split at h
      ·rename_i hh; simp only [Except.ok.injEq,Prod.mk.injEq] at h; obtain ⟨-,rfl⟩ := h; have := isT_len hh; simp only; omega
      ·cases h
     cases hT : typeS s2 with
     | error c => rw [hT] at hF; cases hF
     | ok z2 =>
       obtain ⟨t,s3⟩ := z2
       have h2 := ht t s3 hT
       rw [hT,bindS_ok] at hF
       split at hF
       ·rw [needS] at hF
        split at hF
        ·simp only [thenS_ok,Except.ok.injEq,Prod.mk.injEq] at hF
         obtain ⟨-,rfl⟩ := hF
         simp; omega
        ·cases hF
       ·simp only [Except.ok.injEq,Prod.mk.injEq] at hF
        obtain ⟨-,rfl⟩ := hF
        omega
theorem nmS_step {x : List Bs} {s : Sta} {x' : List Bs} {s' : Sta} (h : (bindS (nameS resv s) fun c s => .ok (x ++ [c],s)) = .ok (x',s')) : (namesC x').length = (namesC x).length + 1 ∧ s'.l.length ≤ s.l.length := by
 cases hF : nameS resv s with
 | error c => rw [hF] at h; cases h
 | ok y =>
   obtain ⟨y,s1⟩ := y
   have h1 := nameS_len hF
   rw [hF,bindS_ok] at h
   simp only [Except.ok.injEq,Prod.mk.injEq] at h
   obtain ⟨rfl,rfl⟩ := h
   exact ⟨by simp,by omega⟩
set_option maxHeartbeats 4000000 in
theorem w80 {S : Heap} {pid sid : Nat} {s : Sta} (hps : pid ≠ sid) (h0 : CI S pid sid z18 s S) : ACalls Tryz.prog (B0 w0) 80 [.ptr pid 0 0,.ptr sid 0 0] S (CrR S pid sid (createS resv s)) := by
 obtain ⟨r,hr⟩ : ∃ r,createS resv s = r := ⟨_,rfl⟩
 rw [hr]
 rw [createS] at hr
 have hpl := h0.at_.lt
 have hsl := lt_of_some h0.st
 obtain ⟨S1,hS1⟩ : ∃ S1,S1 = S ++ [AObj.cells 1 [[.ptr pid 0 0]] (some 1),.cells 1 [[.ptr sid 0 0]] (some 1)] := ⟨_,rfl⟩
 have hl1 : S1.length = S.length + 2 := by rw [hS1]; simp
 have hB : Bx S1 pid sid S.length (S.length + 1) := ⟨by omega,by omega,hps,by rw [hS1]; simp,by rw [hS1,List.getElem?_append_right (by omega)]; simp,by omega,by omega,by omega,by omega⟩
 have hk1 : Kst pid sid S S1 := by rw [hS1]; exact (Kst.refl _ _ _).more _
 have h1 : CI S pid sid z18 s S1 := ⟨by rw [hS1]; exact h0.at_.more _,by rw [hS1,List.getElem?_append_left hsl]; exact h0.st,hk1⟩
 have hc1 : CI S1 pid sid z18 s S1 := ⟨h1.at_,h1.st,Kst.refl _ _ _⟩
 refine fn_sound tryOrd (f80_c _) (by simp [f80]) ?_
 have gp0 := hB.xp
 have gs0 := hB.xs
 rw [hS1] at gp0 gs0
 simp [-appendR,f80,f80m]
 rw [← hS1] at gp0 gs0 ⊢
 refine (w81 hc1.at_ _).use ?_
 rintro e S2 ⟨hst2,rfl,h2⟩
 by_cases hT : isT 1 [116,97,98,108,101] s.l = true
 ·rw [if_pos hT,nameS] at hr
  rw [hT] at h2
  simp only [if_true] at h2
  have c2 := hc1.step hps hst2 (s' := ⟨s.l.tail,s.d⟩) h2
  have gp2 := hB.gp c2.k2
  have gs2 := hB.gs c2.k2
  simp [-appendR,hT,gp2,gs2]
  refine (w82 c2.at_).use ?_
  rintro e S3 ⟨hst3,h3⟩
  simp only at hr h3
  cases hN : nameR resv s.l.tail with
  | error c =>
    rw [hN] at hr h3
    obtain ⟨rfl,_⟩ := h3
    simp
    subst hr
    exact And.intro rfl (hk1.trans (c2.k2.trans hst3.k2))
  | ok y =>
    obtain ⟨n,l3⟩ := y
    rw [hN] at hr h3
    simp only [bindS_ok] at hr
    obtain ⟨rfl,h3⟩ := h3
    have c3 := c2.step hps hst3 (s' := ⟨l3,s.d⟩) h3
    have gp3 := hB.gp c3.k2
    have gs3 := hB.gs c3.k2
    have st3 := c3.st
    have n1 := fun o => setNe (S := S3) hB.b4.symm o
    have n2 := fun o => setNe (S := S3) hB.b2.symm o
    have n3 := fun o => setSelf (lt_of_some c3.st) o
    simp [-appendR,gp3,gs3,st3,n1,n2,n3]
    have c4 := c3.set hps [.int 1,.str n,.str [],.nilS,.nilS,.bool false,.nilS,.nilS,.nilS,.int 0,.nilS,.int 0,.int 0,.int 0,.str [],.str [],.nilS,.nilS]
    generalize S3.set sid (.cells 18 [[.int 1,.str n,.str [],.nilS,.nilS,.bool false,.nilS,.nilS,.nilS,.int 0,.nilS,.int 0,.int 0,.int 0,.str [],.str [],.nilS,.nilS]] (some 1)) = S4 at *
    refine (w120 c4.at_ _).use ?_
    rintro e S5 ⟨hst5,h5⟩
    rw [needS] at hr
    simp only at hr h5
    by_cases hP : isT 5 [40] l3 = true
    rotate_left 1
    ·have hP : isT 5 [40] l3 = false := by simpa using hP
     rw [need_er hP] at h5
     rw [if_neg (by simp [hP]),thenS_error] at hr
     obtain ⟨rfl,_⟩ := h5
     simp
     subst hr
     exact And.intro rfl (hk1.trans (c4.k2.trans hst5.k2))
    rw [need_ok hP] at h5
    rw [if_pos hP,thenS_ok] at hr
    obtain ⟨rfl,h5⟩ := h5
    have c5 := c4.step hps hst5 (s' := ⟨l3.tail,s.d⟩) h5
    have gp5 := hB.gp c5.k2
    have gs5 := hB.gs c5.k2
    have hB5 : Bx S5 pid sid S.length (S.length + 1) := ⟨c5.at_.lt,lt_of_some c5.st,hps,gp5,gs5,hB.b1,hB.b2,hB.b3,hB.b4⟩
    simp [-appendR,gp5,gs5]
    refine (w121 (V := pcolsC) (step := fun cs s => bindS (columnS resv s) fun c s => .ok (cs ++ [c],s)) (n := l3.tail.length) (most := 16) (o1 := []) hB5.hp hps (by decide) (fun x s2 S2 hli hlen hl2 => w122 hB5 rfl hli (by simp at hlen; omega)) (fun x s2 x' s2' _ h => colS_step h)
     (x := []) (s := ⟨l3.tail,s.d⟩) (c5.li 3 3 rfl rfl) rfl (Nat.le_refl _) (by decide)).use ?_
    rintro e S6 h6
    cases hF : listF (fun cs s => bindS (columnS resv s) fun c s => .ok (cs ++ [c],s)) 16 [] ⟨l3.tail,s.d⟩ with
    | error c =>
      rw [hF] at hr h6
      obtain ⟨rfl,h6⟩ := h6
      simp
      subst hr
      exact And.intro rfl (hk1.trans (c5.k2.trans h6))
    | ok y2 =>
      obtain ⟨cs,s6⟩ := y2
      rw [hF] at hr h6
      rw [bindS_ok,needS] at hr
      obtain ⟨rfl,h6⟩ := h6
      obtain ⟨v,c6,ap6⟩ := h6.ci rfl c5.k2
      have gp6 := hB.gp c6.k2
      simp [-appendR,gp6]
      refine (w120 c6.at_ _).use ?_
      rintro e S7 ⟨hst7,h7⟩
      by_cases hQ : isT 5 [41] s6.l = true
      ·rw [need_ok hQ] at h7
       rw [if_pos hQ,thenS_ok] at hr
       obtain ⟨rfl,h7⟩ := h7
       have c7 := c6.step hps hst7 (s' := ⟨s6.l.tail,s6.d⟩) h7
       have ap7 := (ap6.step hst7 c5.at_.lt).le (N' := S.length) (by have := hk1.1; have := c5.k2.1; omega)
       simp
       subst hr
       refine And.intro rfl ⟨_,⟨c7.at_,c7.st,hk1.trans c7.k2⟩,v,.nilS,.nilS,.nilS,.nilS,.nilS,.nilS,?_,.inl ap7,.nil _ _ _,.nil _ _ _,.nil _ _ _,.nil _ _ _,.nil _ _ _,.nil _ _ _⟩
       rw [exC_zero]; rfl
      ·have hQ : isT 5 [41] s6.l = false := by simpa using hQ
       rw [need_er hQ] at h7
       rw [if_neg (by simp [hQ]),thenS_error] at hr
       obtain ⟨rfl,_⟩ := h7
       simp
       subst hr
       exact And.intro rfl (hk1.trans (c6.k2.trans hst7.k2))
 ·have hT : isT 1 [116,97,98,108,101] s.l = false := by simpa using hT
  rw [if_neg (by simp [hT])] at hr
  rw [hT] at h2
  simp only [Bool.false_eq_true,if_false] at h2
  simp only at hr
  have c2 := hc1.step hps hst2 (s' := s) h2
  have gp2 := hB.gp c2.k2
  have gs2 := hB.gs c2.k2
  simp [-appendR,hT,gp2,gs2]
  refine (w81 c2.at_ _).use ?_
  rintro e S3 ⟨hst3,rfl,h3⟩
  have c3 := c2.step hps hst3 (s' := if isT 1 [117,110,105,113,117,101] s.l then ⟨s.l.tail,s.d⟩ else s) (by split at h3 <;> simp_all)
  generalize hu : isT 1 [117,110,105,113,117,101] s.l = u at *
  generalize hs3 : (if u = true then (⟨s.l.tail,s.d⟩ : Sta) else s) = s3 at *
  have gp3 := hB.gp c3.k2
  have gs3 := hB.gs c3.k2
  have st3 := c3.st
  have n1 := fun o => setNe (S := S3) hB.b4.symm o
  have n2 := fun o => setNe (S := S3) hB.b2.symm o
  have n3 := fun o => setSelf (lt_of_some c3.st) o
  simp [-appendR,gp3,gs3,st3,n1,n2,n3]
  have c4 := c3.set hps [.int 3,.str [],.str [],.nilS,.nilS,.bool u,.nilS,.nilS,.nilS,.int 0,.nilS,.int 0,.int 0,.int 0,.str [],.str [],.nilS,.nilS]
  generalize S3.set sid (.cells 18 [[.int 3,.str [],.str [],.nilS,.nilS,.bool u,.nilS,.nilS,.nilS,.int 0,.nilS,.int 0,.int 0,.int 0,.str [],.str [],.nilS,.nilS]] (some 1)) = S4 at *
  have gp4 := hB.gp c4.k2
  try simp [-appendR,gp4]
  refine (w79 c4.at_ _).use ?_
  rintro e S5 ⟨hst5,h5⟩
  rw [needS] at hr
  by_cases hI : isT 1 [105,110,100,101,120] s3.l = true
  rotate_left 1
  ·have hI : isT 1 [105,110,100,101,120] s3.l = false := by simpa using hI
   rw [need_er hI] at h5
   rw [if_neg (by simp [hI]),thenS_error] at hr
   obtain ⟨rfl,_⟩ := h5
   simp
   subst hr
   exact And.intro rfl (hk1.trans (c4.k2.trans hst5.k2))
  rw [need_ok hI] at h5
  rw [if_pos hI,thenS_ok,nameS] at hr
  obtain ⟨rfl,h5⟩ := h5
  have c5 := c4.step hps hst5 (s' := ⟨s3.l.tail,s3.d⟩) h5
  have gp5 := hB.gp c5.k2
  have gs5 := hB.gs c5.k2
  simp [-appendR,gp5,gs5]
  refine (w82 c5.at_).use ?_
  rintro e S6 ⟨hst6,h6⟩
  simp only at hr h6
  cases hN : nameR resv s3.l.tail with
  | error c =>
    rw [hN] at hr h6
    obtain ⟨rfl,_⟩ := h6
    simp
    subst hr
    exact And.intro rfl (hk1.trans (c5.k2.trans hst6.k2))
  | ok y =>
    obtain ⟨ix,l6⟩ := y
    rw [hN] at hr h6
    simp only [bindS_ok] at hr
    obtain ⟨rfl,h6⟩ := h6
    have c6 := c5.step hps hst6 (s' := ⟨l6,s3.d⟩) h6
    have gp6 := hB.gp c6.k2
    have gs6 := hB.gs c6.k2
    have st6 := c6.st
    simp [-appendR,gp6,gs6,st6]
    have c7 := c6.set hps [.int 3,.str [],.str ix,.nilS,.nilS,.bool u,.nilS,.nilS,.nilS,.int 0,.nilS,.int 0,.int 0,.int 0,.str [],.str [],.nilS,.nilS]
    generalize S6.set sid (.cells 18 [[.int 3,.str [],.str ix,.nilS,.nilS,.bool u,.nilS,.nilS,.nilS,.int 0,.nilS,.int 0,.int 0,.int 0,.str [],.str [],.nilS,.nilS]] (some 1)) = S7 at *
    have gp7 := hB.gp c7.k2
    try simp [-appendR,gp7]
    refine (w79 c7.at_ _).use ?_
    rintro e S8 ⟨hst8,h8⟩
    rw [needS] at hr
    simp only at hr h8
    by_cases hO : isT 1 [111,110] l6 = true
    rotate_left 1
    ·have hO : isT 1 [111,110] l6 = false := by simpa using hO
     rw [need_er hO] at h8
     rw [if_neg (by simp [hO]),thenS_error] at hr
     obtain ⟨rfl,_⟩ := h8
     simp
     subst hr
     exact And.intro rfl (hk1.trans (c7.k2.trans hst8.k2))
    rw [need_ok hO] at h8
    rw [if_pos hO,thenS_ok,nameS] at hr
    obtain ⟨rfl,h8⟩ := h8
    have c8 := c7.step hps hst8 (s' := ⟨l6.tail,s3.d⟩) h8
    have gp8 := hB.gp c8.k2
    have gs8 := hB.gs c8.k2
    simp [-appendR,gp8,gs8]
    refine (w82 c8.at_).use ?_
    rintro e S9 ⟨hst9,h9⟩
    simp only at hr h9
    cases hN2 : nameR resv l6.tail with
    | error c =>
      rw [hN2] at hr h9
      obtain ⟨rfl,_⟩ := h9
      simp
      subst hr
      exact And.intro rfl (hk1.trans (c8.k2.trans hst9.k2))
    | ok y2 =>
      obtain ⟨tn,l9⟩ := y2
      rw [hN2] at hr h9
      simp only [bindS_ok] at hr
      obtain ⟨rfl,h9⟩ := h9
      have c9 := c8.step hps hst9 (s' := ⟨l9,s3.d⟩) h9
      have gp9 := hB.gp c9.k2
      have gs9 := hB.gs c9.k2
      have st9 := c9.st
      simp [-appendR,gp9,gs9,st9]
      have c10 := c9.set hps [.int 3,.str tn,.str ix,.nilS,.nilS,.bool u,.nilS,.nilS,.nilS,.int 0,.nilS,.int 0,.int 0,.int 0,.str [],.str [],.nilS,.nilS]
      generalize S9.set sid (.cells 18 [[.int 3,.str tn,.str ix,.nilS,.nilS,.bool u,.nilS,.nilS,.nilS,.int 0,.nilS,.int 0,.int 0,.int 0,.str [],.str [],.nilS,.nilS]] (some 1)) = T0 at *
      have gp10 := hB.gp c10.k2
      try simp [-appendR,gp10]
      refine (w120 c10.at_ _).use ?_
      rintro e T1 ⟨tst1,t1⟩
      rw [needS] at hr
      simp only at hr t1
      by_cases hP : isT 5 [40] l9 = true
      rotate_left 1
      ·have hP : isT 5 [40] l9 = false := by simpa using hP
       rw [need_er hP] at t1
       rw [if_neg (by simp [hP]),thenS_error] at hr
       obtain ⟨rfl,_⟩ := t1
       simp
       subst hr
       exact And.intro rfl (hk1.trans (c10.k2.trans tst1.k2))
      rw [need_ok hP] at t1
      rw [if_pos hP,thenS_ok] at hr
      obtain ⟨rfl,t1⟩ := t1
      have c11 := c10.step hps tst1 (s' := ⟨l9.tail,s3.d⟩) t1
      have gp11 := hB.gp c11.k2
      have gs11 := hB.gs c11.k2
      have hB11 : Bx T1 pid sid S.length (S.length + 1) := ⟨c11.at_.lt,lt_of_some c11.st,hps,gp11,gs11,hB.b1,hB.b2,hB.b3,hB.b4⟩
      simp [-appendR,gp11,gs11]
      refine (w121 (V := namesC) (step := fun cs s => bindS (nameS resv s) fun c s => .ok (cs ++ [c],s)) (n := l9.tail.length) (most := 4) (o1 := []) hB11.hp hps (by decide) (fun x s2 S2 hli hlen hl2 => w124 hB11 rfl hli (by simp at hlen; omega)) (fun x s2 x' s2' _ h => nmS_step h)
       (x := []) (s := ⟨l9.tail,s3.d⟩) (c11.li 4 1 rfl rfl) rfl (Nat.le_refl _) (by decide)).use ?_
      rintro e T2 t2
      cases hF : listF (fun cs s => bindS (nameS resv s) fun c s => .ok (cs ++ [c],s)) 4 [] ⟨l9.tail,s3.d⟩ with
      | error c =>
        rw [hF] at hr t2
        obtain ⟨rfl,t2⟩ := t2
        simp
        subst hr
        exact And.intro rfl (hk1.trans (c11.k2.trans t2))
      | ok y2 =>
        obtain ⟨cs,s6⟩ := y2
        rw [hF] at hr t2
        rw [bindS_ok,needS] at hr
        obtain ⟨rfl,t2⟩ := t2
        obtain ⟨v,c12,ap12⟩ := t2.ci rfl c11.k2
        have gp12 := hB.gp c12.k2
        simp [-appendR,gp12]
        refine (w120 c12.at_ _).use ?_
        rintro e T3 ⟨tst3,t3⟩
        by_cases hQ : isT 5 [41] s6.l = true
        ·rw [need_ok hQ] at t3
         rw [if_pos hQ,thenS_ok] at hr
         obtain ⟨rfl,t3⟩ := t3
         have c13 := c12.step hps tst3 (s' := ⟨s6.l.tail,s6.d⟩) t3
         have ap13 := (ap12.step tst3 c11.at_.lt).le (N' := S.length) (by have := hk1.1; have := c11.k2.1; omega)
         simp
         subst hr
         refine And.intro rfl ⟨_,⟨c13.at_,c13.st,hk1.trans c13.k2⟩,.nilS,v,.nilS,.nilS,.nilS,.nilS,.nilS,?_,.nil _ _ _,.inl ap13,.nil _ _ _,.nil _ _ _,.nil _ _ _,.nil _ _ _,.nil _ _ _⟩
         rw [exC_zero]; rfl
        ·have hQ : isT 5 [41] s6.l = false := by simpa using hQ
         rw [need_er hQ] at t3
         rw [if_neg (by simp [hQ]),thenS_error] at hr
         obtain ⟨rfl,_⟩ := t3
         simp
         subst hr
         exact And.intro rfl (hk1.trans (c12.k2.trans tst3.k2))
end Go.Abs
namespace Go.Abs
open Go Go.RowKit Go.Proofs Go.Lx Go.Pz
variable {w0 : World}
theorem rowS_step {N : Nat} {x : List (List Ex)} {s : Sta} {x' : List (List Ex)} {s' : Sta} (hl : s.l.length ≤ N) (h : rowS resv N x s = .ok (x',s')) : (rwsC x').length = (rwsC x).length + 1 ∧ s'.l.length ≤ s.l.length := by
 rw [rowS,needS] at h
 split at h
 ·rename_i hh
  have h1 := isT_len hh
  rw [thenS_ok] at h
  cases hF : listF (exprsS resv N) 50 [] ⟨s.l.tail,s.d⟩ with
  | error c => rw [hF] at h; cases h
  | ok y =>
    obtain ⟨xs,s1⟩ := y
    have hst := listF_step (V := List.length) (N := N) (fun x s x' s' h h' => exprsS_step h h') 50 [] ⟨s.l.tail,s.d⟩ xs s1 (by simp only; omega) hF
    rw [hF,bindS_ok,needS] at h
    split at h
    ·rename_i hh2
     have h2 := isT_len hh2
     rw [thenS_ok] at h
     simp only [Except.ok.injEq,Prod.mk.injEq] at h
     obtain ⟨rfl,rfl⟩ := h
     simp only at hst ⊢
     exact ⟨by simp,by omega⟩
    ·cases h
 ·cases h
theorem itemS_step {N : Nat} {x : List Itm} {s : Sta} {x' : List Itm} {s' : Sta} (hl : s.l.length ≤ N) (h : itemS resv N x s = .ok (x',s')) : (itmsC x').length = (itmsC x).length + 1 ∧ s'.l.length ≤ s.l.length := by
 rw [itemS] at h
 cases hF : whole resv N s with
 | error c => rw [hF] at h; cases h
 | ok y =>
   obtain ⟨y,s1⟩ := y
   have h1 := whole_len hF hl
   rw [hF,bindS_ok,aliasS] at h
   split at h
   ·rename_i hh
    have h2 := isT_len hh
    cases hN : nameS resv ⟨s1.l.tail,s1.d⟩ with
    | error c => rw [hN] at h; cases h
    | ok z =>
      obtain ⟨n,s2⟩ := z
      have h3 := nameS_len hN
      rw [hN,bindS_ok] at h
      simp only [Except.ok.injEq,Prod.mk.injEq] at h
      obtain ⟨rfl,rfl⟩ := h
      simp only at h3
      exact ⟨by simp,by omega⟩
   ·rw [bindS_ok] at h
    simp only [Except.ok.injEq,Prod.mk.injEq] at h
    obtain ⟨rfl,rfl⟩ := h
    exact ⟨by simp,by omega⟩
theorem setS_step {N : Nat} {x : List Asn} {s : Sta} {x' : List Asn} {s' : Sta} (hl : s.l.length ≤ N) (h : setS resv N x s = .ok (x',s')) : (asnsC x').length = (asnsC x).length + 1 ∧ s'.l.length ≤ s.l.length := by
 rw [setS] at h
 cases hN : nameS resv s with
 | error c => rw [hN] at h; cases h
 | ok y =>
   obtain ⟨n,s1⟩ := y
   have h1 := nameS_len hN
   rw [hN,bindS_ok,needS] at h
   split at h
   ·rename_i hh
    have h2 := isT_len hh
    rw [thenS_ok] at h
    cases hF : whole resv N ⟨s1.l.tail,s1.d⟩ with
    | error c => rw [hF] at h; cases h
    | ok z =>
      obtain ⟨z,s2⟩ := z
      have h3 := whole_len hF (by simp only; omega)
      rw [hF,bindS_ok] at h
      simp only [Except.ok.injEq,Prod.mk.injEq] at h
      obtain ⟨rfl,rfl⟩ := h
      simp only at h3
      exact ⟨by simp,by omega⟩
   ·cases h
theorem sortS_step {N : Nat} {x : List Srt} {s : Sta} {x' : List Srt} {s' : Sta} (hl : s.l.length ≤ N) (h : sortS resv N x s = .ok (x',s')) : (srtsC x').length = (srtsC x).length + 1 ∧ s'.l.length ≤ s.l.length := by
 rw [sortS] at h
 cases hF : whole resv N s with
 | error c => rw [hF] at h; cases h
 | ok y =>
   obtain ⟨y,s1⟩ := y
   have h1 := whole_len hF hl
   rw [hF,bindS_ok] at h
   simp only [Except.ok.injEq,Prod.mk.injEq] at h
   obtain ⟨rfl,rfl⟩ := h
   refine ⟨by simp,?_⟩
   split
   ·simp only [List.length_tail]; omega
   ·omega
theorem CI.boxes {S : Heap} {pid sid : Nat} {s : Sta} {c : List AVal} (hps : pid ≠ sid) (h0 : CI S pid sid c s S) (S1 : Heap) (hS1 : S1 = S ++ [AObj.cells 1 [[.ptr pid 0 0]] (some 1),.cells 1 [[.ptr sid 0 0]] (some 1)]) :
  S1.length = S.length + 2 ∧ Bx S1 pid sid S.length (S.length + 1) ∧ Kst pid sid S S1 ∧ CI S1 pid sid c s S1 := by
 have hpl := h0.at_.lt
 have hsl := lt_of_some h0.st
 have hl1 : S1.length = S.length + 2 := by rw [hS1]; simp
 have hB : Bx S1 pid sid S.length (S.length + 1) := ⟨by omega,by omega,hps,by rw [hS1]; simp,by rw [hS1,List.getElem?_append_right (by omega)]; simp,by omega,by omega,by omega,by omega⟩
 exact ⟨hl1,hB,by rw [hS1]; exact (Kst.refl _ _ _).more _,by rw [hS1]; exact h0.at_.more _,by rw [hS1,List.getElem?_append_left hsl]; exact h0.st,Kst.refl _ _ _⟩
theorem Bx.re {S0 S : Heap} {pid sid bp bs : Nat} (hB : Bx S0 pid sid bp bs) (h : Kst pid sid S0 S) : Bx S pid sid bp bs :=
 ⟨Nat.lt_of_lt_of_le hB.hp h.1,Nat.lt_of_lt_of_le hB.hs h.1,hB.ps,hB.gp h,hB.gs h,hB.b1,hB.b2,hB.b3,hB.b4⟩
set_option maxHeartbeats 4000000 in
theorem w83 {S : Heap} {pid sid N : Nat} {s : Sta} (hps : pid ≠ sid) (h0 : CI S pid sid z18 s S) (hl : s.l.length < N) (hN : N ≤ 1000000) : ACalls Tryz.prog (B0 w0) 83 [.ptr pid 0 0,.ptr sid 0 0] S (CrR S pid sid (insertS resv N s)) := by
 obtain ⟨r,hr⟩ : ∃ r,insertS resv N s = r := ⟨_,rfl⟩
 rw [hr]
 rw [insertS,needS] at hr
 obtain ⟨S1,hS1⟩ : ∃ S1,S1 = S ++ [AObj.cells 1 [[.ptr pid 0 0]] (some 1),.cells 1 [[.ptr sid 0 0]] (some 1)] := ⟨_,rfl⟩
 obtain ⟨hl1,hB,hk1,hc1⟩ := h0.boxes hps S1 hS1
 refine fn_sound tryOrd (f83_c _) (by simp [f83]) ?_
 have gp0 := hB.xp
 have gs0 := hB.xs
 rw [hS1] at gp0 gs0
 simp [-appendR,f83,f83m,gp0]
 rw [← hS1] at gp0 gs0 ⊢
 refine (w79 hc1.at_ _).use ?_
 rintro e S2 ⟨hst2,h2⟩
 by_cases hT : isT 1 [105,110,116,111] s.l = true
 rotate_left 1
 ·have hT : isT 1 [105,110,116,111] s.l = false := by simpa using hT
  rw [need_er hT] at h2
  rw [if_neg (by simp [hT]),thenS_error] at hr
  obtain ⟨rfl,_⟩ := h2
  simp
  subst hr
  exact And.intro rfl (hk1.trans hst2.k2)
 have hlt := isT_len hT
 rw [need_ok hT] at h2
 rw [if_pos hT,thenS_ok,nameS] at hr
 obtain ⟨rfl,h2⟩ := h2
 have c2 := hc1.step hps hst2 (s' := ⟨s.l.tail,s.d⟩) h2
 have gp2 := hB.gp c2.k2
 have gs2 := hB.gs c2.k2
 simp [-appendR,gp2,gs2]
 refine (w82 c2.at_).use ?_
 rintro e S3 ⟨hst3,h3⟩
 simp only at hr h3
 cases hN1 : nameR resv s.l.tail with
 | error c =>
   rw [hN1] at hr h3
   obtain ⟨rfl,_⟩ := h3
   simp
   subst hr
   exact And.intro rfl (hk1.trans (c2.k2.trans hst3.k2))
 | ok y =>
   obtain ⟨n,l3⟩ := y
   have hlt3 := nameR_len hN1
   rw [hN1] at hr h3
   simp only [bindS_ok] at hr
   obtain ⟨rfl,h3⟩ := h3
   have c3 := c2.step hps hst3 (s' := ⟨l3,s.d⟩) h3
   have gp3 := hB.gp c3.k2
   have gs3 := hB.gs c3.k2
   have st3 := c3.st
   have n1 := fun o => setNe (S := S3) hB.b4.symm o
   have n2 := fun o => setNe (S := S3) hB.b2.symm o
   have n3 := fun o => setSelf (lt_of_some c3.st) o
   simp [-appendR,gp3,gs3,st3,n1,n2,n3]
   have c4 := c3.set hps [.int 5,.str n,.str [],.nilS,.nilS,.bool false,.nilS,.nilS,.nilS,.int 0,.nilS,.int 0,.int 0,.int 0,.str [],.str [],.nilS,.nilS]
   generalize S3.set sid (.cells 18 [[.int 5,.str n,.str [],.nilS,.nilS,.bool false,.nilS,.nilS,.nilS,.int 0,.nilS,.int 0,.int 0,.int 0,.str [],.str [],.nilS,.nilS]] (some 1)) = S4 at *
   have gp4 := hB.gp c4.k2
   try simp [-appendR,gp4]
   refine (w79 c4.at_ _).use ?_
   rintro e S5 ⟨hst5,h5⟩
   rw [needS] at hr
   simp only at hr h5
   by_cases hP : isT 1 [118,97,108,117,101,115] l3 = true
   rotate_left 1
   ·have hP : isT 1 [118,97,108,117,101,115] l3 = false := by simpa using hP
    rw [need_er hP] at h5
    rw [if_neg (by simp [hP]),thenS_error] at hr
    obtain ⟨rfl,_⟩ := h5
    simp
    subst hr
    exact And.intro rfl (hk1.trans (c4.k2.trans hst5.k2))
   rw [need_ok hP] at h5
   rw [if_pos hP,thenS_ok] at hr
   obtain ⟨rfl,h5⟩ := h5
   have c5 := c4.step hps hst5 (s' := ⟨l3.tail,s.d⟩) h5
   have gp5 := hB.gp c5.k2
   have gs5 := hB.gs c5.k2
   have hB5 := hB.re c5.k2
   have hlt5 := isT_len hP
   simp [-appendR,gp5,gs5]
   refine (w121 (V := rwsC) (step := rowS resv N) (n := l3.tail.length) (most := 50) (o1 := []) hB5.hp hps (by decide) (fun x s2 S2 hli hlen hl2 => w126 hB5 rfl hli (by simp at hlen; omega) (by simp at hl2 hlt3; omega) hN) (fun x s2 x' s2' hl2 h => rowS_step (N := N) (by simp at hl2 hlt3; omega) h)
    (x := []) (s := ⟨l3.tail,s.d⟩) (c5.li 6 1 rfl rfl) rfl (Nat.le_refl _) (by decide)).use ?_
   rintro e S6 h6
   cases hF : listF (rowS resv N) 50 [] ⟨l3.tail,s.d⟩ with
   | error c =>
     rw [hF] at hr h6
     obtain ⟨rfl,h6⟩ := h6
     simp
     subst hr
     exact And.intro rfl (hk1.trans (c5.k2.trans h6))
   | ok y2 =>
     obtain ⟨cs,s6⟩ := y2
     rw [hF] at hr h6
     rw [bindS_ok] at hr
     obtain ⟨rfl,h6⟩ := h6
     obtain ⟨v,c6,ap6⟩ := h6.ci rfl c5.k2
     have ap7 := ap6.le (N' := S.length) (by have := hk1.1; have := c5.k2.1; omega)
     simp
     subst hr
     refine And.intro rfl ⟨_,⟨c6.at_,c6.st,hk1.trans c6.k2⟩,.nilS,.nilS,v,.nilS,.nilS,.nilS,.nilS,?_,.nil _ _ _,.nil _ _ _,.inl ap7,.nil _ _ _,.nil _ _ _,.nil _ _ _,.nil _ _ _⟩
     rw [exC_zero]; rfl
def WhC (S1 : Heap) (pid sid : Nat) (c0 : List AVal) (r : ResS Ex) (e : AEnd) (S' : Heap) : Prop :=
    match r with
    | .ok (x,s) => e = .ret .undef ∧ CI S1 pid sid (c0.take 9 ++ exC x ++ c0.drop 16) s S'
    | .error c => e = .panic (trb c) ∧ Kst pid sid S1 S'
theorem WhR.ci {S1 S : Heap} {pid sid : Nat} {s : Sta} {c0 : List AVal} {r : ResS Ex} {e : AEnd} {S' : Heap} (h0 : CI S1 pid sid c0 s S) (h : WhR S pid sid c0 r e S') : WhC S1 pid sid c0 r e S' := by
 obtain ⟨h1,h2,h3⟩ := h
 have k : Kst pid sid S1 S' := h0.k2.trans ⟨Nat.le_of_eq h1,fun j _ j1 j2 => h2 j j1 j2⟩
 cases r with
 | error c => exact ⟨h3,k⟩
 | ok y =>
   obtain ⟨x,s'⟩ := y
   exact ⟨h3.1,h3.2.1,h3.2.2,k⟩
theorem WhR.ap {S : Heap} {pid sid : Nat} {c0 : List AVal} {r : ResS Ex} {e : AEnd} {S' : Heap} (h : WhR S pid sid c0 r e S') {M k : Nat} {v : AVal} {es} (ha : Ap M k S v es) (hp : pid < M) (hs : sid < M) : Ap M k S' v es := by
 cases ha with
 | none fl hf => exact .none fl hf
 | row id off len es cap hN hS hl => exact .row id off len es cap hN (by rw [h.2.1 id (by omega) (by omega)]; exact hS) hl
set_option maxHeartbeats 4000000 in
theorem w85 {S : Heap} {pid sid N : Nat} {s : Sta} (hps : pid ≠ sid) (h0 : CI S pid sid z18 s S) (hl : s.l.length < N) (hN : N ≤ 1000000) : ACalls Tryz.prog (B0 w0) 85 [.ptr pid 0 0,.ptr sid 0 0] S (CrR S pid sid (updateS resv N s)) := by
 obtain ⟨r,hr⟩ : ∃ r,updateS resv N s = r := ⟨_,rfl⟩
 rw [hr]
 rw [updateS,nameS] at hr
 obtain ⟨S1,hS1⟩ : ∃ S1,S1 = S ++ [AObj.cells 1 [[.ptr pid 0 0]] (some 1),.cells 1 [[.ptr sid 0 0]] (some 1)] := ⟨_,rfl⟩
 obtain ⟨hl1,hB,hk1,hc1⟩ := h0.boxes hps S1 hS1
 refine fn_sound tryOrd (f85_c _) (by simp [f85]) ?_
 have gp0 := hB.xp
 have gs0 := hB.xs
 rw [hS1] at gp0 gs0
 simp [-appendR,f85,f85m,gp0,gs0]
 rw [← hS1] at gp0 gs0 ⊢
 refine (w82 hc1.at_).use ?_
 rintro e S3 ⟨hst3,h3⟩
 cases hN1 : nameR resv s.l with
 | error c =>
   rw [hN1] at hr h3
   obtain ⟨rfl,_⟩ := h3
   simp
   subst hr
   exact And.intro rfl (hk1.trans hst3.k2)
 | ok y =>
   obtain ⟨n,l3⟩ := y
   have hlt3 := nameR_len hN1
   rw [hN1] at hr h3
   simp only [bindS_ok] at hr
   obtain ⟨rfl,h3⟩ := h3
   have c3 := hc1.step hps hst3 (s' := ⟨l3,s.d⟩) h3
   have gp3 := hB.gp c3.k2
   have gs3 := hB.gs c3.k2
   have st3 := c3.st
   have n1 := fun o => setNe (S := S3) hB.b4.symm o
   have n2 := fun o => setNe (S := S3) hB.b2.symm o
   have n3 := fun o => setSelf (lt_of_some c3.st) o
   simp [-appendR,gp3,gs3,st3,n1,n2,n3]
   have c4 := c3.set hps [.int 7,.str n,.str [],.nilS,.nilS,.bool false,.nilS,.nilS,.nilS,.int 0,.nilS,.int 0,.int 0,.int 0,.str [],.str [],.nilS,.nilS]
   generalize S3.set sid (.cells 18 [[.int 7,.str n,.str [],.nilS,.nilS,.bool false,.nilS,.nilS,.nilS,.int 0,.nilS,.int 0,.int 0,.int 0,.str [],.str [],.nilS,.nilS]] (some 1)) = S4 at *
   have gp4 := hB.gp c4.k2
   try simp [-appendR,gp4]
   refine (w79 c4.at_ _).use ?_
   rintro e S5 ⟨hst5,h5⟩
   rw [needS] at hr
   simp only at hr h5
   by_cases hP : isT 1 [115,101,116] l3 = true
   rotate_left 1
   ·have hP : isT 1 [115,101,116] l3 = false := by simpa using hP
    rw [need_er hP] at h5
    rw [if_neg (by simp [hP]),thenS_error] at hr
    obtain ⟨rfl,_⟩ := h5
    simp
    subst hr
    exact And.intro rfl (hk1.trans (c4.k2.trans hst5.k2))
   rw [need_ok hP] at h5
   rw [if_pos hP,thenS_ok] at hr
   obtain ⟨rfl,h5⟩ := h5
   have c5 := c4.step hps hst5 (s' := ⟨l3.tail,s.d⟩) h5
   have gp5 := hB.gp c5.k2
   have gs5 := hB.gs c5.k2
   have hB5 := hB.re c5.k2
   have hlt5 := isT_len hP
   simp [-appendR,gp5,gs5]
   refine (w121 (V := asnsC) (step := setS resv N) (n := l3.tail.length) (most := 50) (o1 := []) hB5.hp hps (by decide) (fun x s2 S2 hli hlen hl2 => w133 hB5 rfl hli (by simp at hlen; omega) (by simp at hl2 hlt5; omega) hN) (fun x s2 x' s2' hl2 h => setS_step (N := N) (by simp at hl2 hlt5; omega) h)
    (x := []) (s := ⟨l3.tail,s.d⟩) (c5.li 17 8 rfl rfl) rfl (Nat.le_refl _) (by decide)).use ?_
   rintro e S6 h6
   cases hF : listF (setS resv N) 50 [] ⟨l3.tail,s.d⟩ with
   | error c =>
     rw [hF] at hr h6
     obtain ⟨rfl,h6⟩ := h6
     simp
     subst hr
     exact And.intro rfl (hk1.trans (c5.k2.trans h6))
   | ok y2 =>
     obtain ⟨cs,s6⟩ := y2
     have hl6 := (listF_step (V := fun xs => (asnsC xs).length) (N := N) (fun x s x' s' h h' => setS_step h h') 50 [] ⟨l3.tail,s.d⟩ cs s6 (by simp only [List.length_tail]; omega) hF).2
     simp only [List.length_tail] at hl6
     rw [hF] at hr h6
     rw [bindS_ok] at hr
     obtain ⟨rfl,h6⟩ := h6
     obtain ⟨v,c6,ap6⟩ := h6.ci rfl c5.k2
     have gp6 := hB.gp c6.k2
     have gs6 := hB.gs c6.k2
     simp [-appendR,gp6,gs6]
     refine (w86 (N := N) rfl (by rw [exC_zero]; rfl) hps c6.at_ c6.st (by omega) hN).use ?_
     rintro e S7 h7
     have h8 := h7.ci c6
     cases hW : whereS resv N s6 with
     | error c =>
       rw [hW] at h8 hr
       obtain ⟨rfl,h8⟩ := h8
       simp
       subst hr
       exact And.intro rfl (hk1.trans h8)
     | ok y3 =>
       obtain ⟨w,s7⟩ := y3
       rw [hW] at h8 hr
       rw [bindS_ok] at hr
       obtain ⟨rfl,c7⟩ := h8
       have ap7 := (h7.ap ap6 c5.at_.lt (lt_of_some c5.st)).le (N' := S.length) (by have := hk1.1; have := c5.k2.1; omega)
       simp
       subst hr
       refine And.intro rfl ⟨_,⟨c7.at_,c7.st,hk1.trans c7.k2⟩,.nilS,.nilS,.nilS,.nilS,.nilS,.nilS,v,?_,.nil _ _ _,.nil _ _ _,.nil _ _ _,.nil _ _ _,.nil _ _ _,.nil _ _ _,.inl ap7⟩
       rfl
end Go.Abs
namespace Go.Abs
open Go Go.RowKit Go.Proofs Go.Lx Go.Pz
variable {w0 : World}
theorem sourceS_on {s s' : Sta} {x : Src} (h : sourceS resv s = .ok (x,s')) : x.on = .zero ∧ s'.l.length < s.l.length := by
 rw [sourceS] at h
 cases hN : nameS resv s with
 | error c => rw [hN] at h; cases h
 | ok y =>
   obtain ⟨n,s1⟩ := y
   have h1 := nameS_len hN
   rw [hN,bindS_ok,aliasS] at h
   split at h
   ·rename_i hh
    have h2 := isT_len hh
    cases hN2 : nameS resv ⟨s1.l.tail,s1.d⟩ with
    | error c => rw [hN2] at h; cases h
    | ok z =>
      obtain ⟨n2,s2⟩ := z
      have h3 := nameS_len hN2
      rw [hN2,bindS_ok] at h
      simp only [Except.ok.injEq,Prod.mk.injEq] at h
      obtain ⟨rfl,rfl⟩ := h
      simp only at h3
      exact ⟨rfl,by omega⟩
   ·rw [bindS_ok] at h
    simp only [Except.ok.injEq,Prod.mk.injEq] at h
    obtain ⟨rfl,rfl⟩ := h
    exact ⟨rfl,by omega⟩
def f84b1 (G : Nat → AVal) : MC := match f84b0 G with | .seq _ y => y | x => x
def EJ (T0 : Heap) (pid sid bp bs : Nat) (c : List AVal) (N n : Nat) (r : ResS (List Src)) (m : Nat) (a : Tmps) (S' : Heap) : Prop :=
 ∃ (xs : List Src) (s : Sta) (tid : Nat),LI T0 pid sid c 8 9 (srcsC xs) s S' ∧ get a 2 = .ptr bp 0 0 ∧ get a 3 = .ptr bs 0 0 ∧ get a 4 = .ptr tid 0 0 ∧ S'[tid]? = some (.cells 4 [tokC (s.l.headD zTok)] (some 1)) ∧
  xs.length + m = 4 ∧ s.l.length ≤ n ∧ joinsS resv N m xs s = r
def JQ (T0 : Heap) (pid sid bp bs : Nat) (c : List AVal) (n : Nat) (r : ResS (List Src)) : AExit → Tmps → Heap → Prop
 | .normal,a,S' => ∃ xs s,r = .ok (xs,s) ∧ LI T0 pid sid c 8 9 (srcsC xs) s S' ∧ get a 2 = .ptr bp 0 0 ∧ get a 3 = .ptr bs 0 0 ∧ s.l.length ≤ n
 | .panic v,a,S' => ∃ cde,r = .error cde ∧ v = trb cde ∧ Kst pid sid T0 S'
 | _,_,_ => False
section
variable {T0 : Heap} {pid sid bp bs : Nat} (hB : Bx T0 pid sid bp bs) {c : List AVal} (hc : c.length = 18) {N n : Nat} (hnN : n < N) (hN : N ≤ 1000000)
include hB hc hnN hN
set_option maxHeartbeats 4000000 in
theorem w84b {G : Nat → AVal} {m : Nat} {a : Tmps} {S' : Heap} {xs : List Src} {s : Sta} {tid : Nat} {t : Tok} {r0 : List Tok} {r : ResS (List Src)} (hli : LI T0 pid sid c 8 9 (srcsC xs) s S') (b2 : get a 2 = .ptr bp 0 0) (b3 : get a 3 = .ptr bs 0 0) (b4 : get a 4 = .ptr tid 0 0)
  (b5 : S'[tid]? = some (.cells 4 [tokC t] (some 1))) (hst : s.l = t :: r0) (hm : xs.length + m = 4) (hl : s.l.length ≤ n) (hr : joinsS resv N m xs s = r) (hij : (isT 1 [105,110,110,101,114] s.l || isT 1 [106,111,105,110] s.l) = true) :
  mwp (ACalls Tryz.prog (B0 w0)) (f84b1 G) (fun e a' S' => match e with | .normal => ∃ n',n' < m ∧ EJ T0 pid sid bp bs c N n r n' a' S' | e => afterK 0 e a' S' (q := ⟨JQ T0 pid sid bp bs c n r⟩)) a S' := by
 obtain ⟨h1,⟨v,h2,h3⟩,h4⟩ := hli
 have gp := hB.gp h4
 have gs := hB.gs h4
 rw [hc] at h2
 have hv := (h3.rk 0 rfl).lenR
 rw [srcsC_len] at hv
 have htid : tid ≠ pid ∧ tid ≠ sid := by
  constructor
  ·rintro rfl
   obtain ⟨o,ho,vv,_,rfl⟩ := h1
   rw [ho] at b5; cases b5
  ·rintro rfl
   rw [h2] at b5; cases b5
 have htv : ∀ o l,v ≠ .row tid o l := fun o l e => by
  subst e
  have := h3.ap 0 _ _ _ rfl
  generalize hZ : srcsC xs = Z at this
  cases this with
  | row _ _ _ es0 cap hN hS hle => rw [hS] at b5; cases b5
 have htl := lt_of_some b5
 cases m with
 | zero =>
   have h4e : ((xs.length : Int) == 4) = true := beq_iff_eq.2 (by omega)
   rw [joinsS,if_pos hij] at hr
   try simp only at hr
   simp [-appendR,f84b1,f84b0,b2,b3,gs,h2,hc,hv,h4e]
   refine (w27 151 _).use ?_
   rintro e S3 ⟨rfl,rfl⟩
   simp
   exact ⟨151,hr.symm,rfl,h4⟩
 | succ m =>
   have h4e : ((xs.length : Int) == 4) = false := beq_eq_false_iff_ne.2 (by omega)
   rw [joinsS,if_pos hij] at hr
   try simp only at hr
   simp [-appendR,f84b1,f84b0,b2,b3,gs,gp,h2,hc,hv,h4e]
   refine (w81 h1 _).use ?_
   rintro e S1 ⟨hst1,rfl,h5⟩
   have k1 := h4.trans (hst1.k2 (sid := sid))
   have gp1 := hB.gp k1
   generalize hs1 : (if isT 1 [105,110,110,101,114] s.l = true then (⟨s.l.tail,s.d⟩ : Sta) else s) = s1 at *
   have hl1 : s1.l.length ≤ n := by rw [← hs1]; split <;> (try simp only [List.length_tail]) <;> omega
   have c1 : At S1 pid s1.l 0 s1.d := by
    rw [← hs1]
    by_cases hh : isT 1 [105,110,110,101,114] s.l = true
    ·rw [if_pos hh] at h5 ⊢; exact h5
    ·rw [if_neg hh] at h5 ⊢; exact h5
   simp [-appendR,b2,b3,gp1]
   refine (w79 c1 _).use ?_
   rintro e S2 ⟨hst2,h6⟩
   have k2 := k1.trans (hst2.k2 (sid := sid))
   have gp2 := hB.gp k2
   rw [needS] at hr
   by_cases hJ : isT 1 [106,111,105,110] s1.l = true
   rotate_left 1
   ·have hJ : isT 1 [106,111,105,110] s1.l = false := by simpa using hJ
    rw [need_er hJ] at h6
    rw [if_neg (by simp [hJ]),thenS_error] at hr
    obtain ⟨rfl,_⟩ := h6
    simp
    exact ⟨130,hr.symm,rfl,k2⟩
   have hlt1 := isT_len hJ
   rw [need_ok hJ] at h6
   rw [if_pos hJ,thenS_ok] at hr
   obtain ⟨rfl,h6⟩ := h6
   simp [-appendR,b2,b3,gp2]
   refine (w131 (s := ⟨s1.l.tail,s1.d⟩) h6).use ?_
   rintro e S3 ⟨hst3,h7⟩
   have k3 := k2.trans (hst3.k2 (sid := sid))
   have gp3 := hB.gp k3
   cases hS : sourceS resv ⟨s1.l.tail,s1.d⟩ with
   | error cd =>
     rw [hS] at h7 hr
     obtain ⟨rfl,_⟩ := h7
     simp
     exact ⟨cd,hr.symm,rfl,k3⟩
   | ok y =>
     obtain ⟨⟨tb,al,on⟩,s3⟩ := y
     obtain ⟨hon,hl3⟩ := sourceS_on hS
     simp only [List.length_tail] at hl3 hon
     subst hon
     rw [hS] at h7 hr
     rw [bindS_ok] at hr
     obtain ⟨rfl,h7⟩ := h7
     have hb : srcC ⟨tb,al,.zero⟩ = [.str tb,.str al,.int 0,.nilS,.int 0,.int 0,.int 0,.str [],.str []] := by rw [srcC,Ex.zero,exC_eq,exsV_nil]
     have hg3 := hmoreG (lt_of_some gp3)
     simp [-appendR,b2,b3,hb,hg3,gp3]
     refine (w79 (h7.more _) _).use ?_
     rintro e S4' ⟨hsq4,h8⟩
     obtain ⟨S4,rfl,hst4⟩ := hsq4.split h7.lt
     have e4 := hst4.1
     have k4 := k3.trans (hst4.k2 (sid := sid))
     have gp4 := hB.gp k4
     have hg4 := hmoreG (lt_of_some gp4)
     rw [needS] at hr
     by_cases hO : isT 1 [111,110] s3.l = true
     rotate_left 1
     ·have hO : isT 1 [111,110] s3.l = false := by simpa using hO
      rw [need_er hO] at h8
      rw [if_neg (by simp [hO]),thenS_error] at hr
      obtain ⟨rfl,_⟩ := h8
      simp
      exact ⟨130,hr.symm,rfl,k4.more _⟩
     have hlt3 := isT_len hO
     rw [need_ok hO] at h8
     rw [if_pos hO,thenS_ok] at hr
     obtain ⟨rfl,h8⟩ := h8
     have h8 := h8.less (hst4.1 ▸ h7.lt)
     simp [-appendR,b2,b3,hg4,gp4]
     refine (w128 (N := N) (s := ⟨s3.l.tail,s3.d⟩) (h8.more _) (by simp only [List.length_tail]; omega) hN).use ?_
     rintro e S5' ⟨hsq5,h9⟩
     obtain ⟨S5,rfl,hst5⟩ := hsq5.split h8.lt
     have e5 := hst5.1
     have k5 := k4.trans (hst5.k2 (sid := sid))
     have gp5 := hB.gp k5
     have gs5 := hB.gs k5
     have hg5 := hmoreG (lt_of_some gp5)
     have hgs5 := hmoreG (lt_of_some gs5)
     cases hW : whole resv N ⟨s3.l.tail,s3.d⟩ with
     | error cd =>
       rw [hW] at h9 hr
       obtain ⟨rfl,_⟩ := h9
       simp
       exact ⟨cd,hr.symm,rfl,k5.more _⟩
     | ok y2 =>
       obtain ⟨o,s5⟩ := y2
       have hl5 := whole_len hW (by simp only [List.length_tail]; omega)
       simp only [List.length_tail] at hl5
       rw [hW] at h9 hr
       rw [bindS_ok] at hr
       obtain ⟨rfl,h9⟩ := h9
       have h9 := h9.less (hst5.1 ▸ h8.lt)
       obtain ⟨op,vv,kind,num,scale,text,qual,hx,o1,o2⟩ := exC_shape o
       obtain ⟨g,hg⟩ : ∃ g,g = [AObj.cells 9 [[.str tb,.str al,.int op,vv,.int kind,.int num,.int scale,.str text,.str qual]] (some 1)] := ⟨_,rfl⟩
       have h25 := (hst5.2 sid (Ne.symm hB.ps)).trans ((hst4.2 sid (Ne.symm hB.ps)).trans ((hst3.2 sid (Ne.symm hB.ps)).trans ((hst2.2 sid (Ne.symm hB.ps)).trans ((hst1.2 sid (Ne.symm hB.ps)).trans h2))))
       have ht5 := (hst5.2 tid htid.1).trans ((hst4.2 tid htid.1).trans ((hst3.2 tid htid.1).trans ((hst2.2 tid htid.1).trans ((hst1.2 tid htid.1).trans b5))))
       have o5 := ((((h3.step hst1 hB.hp).step hst2 hB.hp).step hst3 hB.hp).step hst4 hB.hp).step hst5 hB.hp
       have hgi5 := hmoreG (lt_of_some h25)
       have hgt5 := hmoreG (lt_of_some ht5)
       obtain ⟨S6,a1,a2,a3,a4,a5,a6⟩ := LI.app2 (S := S5 ++ g) (bytes := 120) (s := s5) hB.hp hB.hs hB.ps (h9.more _) (by rw [hc,hgi5]; exact h25) (o5.more' _) (k5.more _) (x := srcC ⟨tb,al,o⟩) (by simp [srcC]) (by decide) (by decide) (by simp; omega) (y := .list .full [srcC ⟨tb,al,o⟩]) rfl
       rw [hc] at a3 a5
       have g8 := (a2 bs (lt_of_some hB.xs)).trans ((hgs5 g).trans gs5)
       have g9 := (a2 bp (lt_of_some hB.xp)).trans ((hg5 g).trans gp5)
       have ht6 := (a6 tid (by have := lt_of_some ht5; simp; omega) htv).trans ((hgt5 g).trans ht5)
       rw [srcsC_len] at a1 a5
       simp only [srcC,hx] at a1
       generalize hR : (S5 ++ g).length = R at *
       have hs8 : (S6.set sid (.cells 18 [c.set 8 (.row R 0 (xs.length + 1))] (some 1)))[tid]? = some (.cells 4 [tokC t] (some 1)) := by rw [List.getElem?_set_ne (Ne.symm htid.2)]; exact ht6
       have hs9 : (S6.set sid (.cells 18 [c.set 8 (.row R 0 (xs.length + 1))] (some 1)))[bp]? = some (.cells 1 [[.ptr pid 0 0]] (some 1)) := by rw [List.getElem?_set_ne hB.b2.symm]; exact g9
       subst hg
       have hg8 := hmoreG (lt_of_some hs8)
       have hg9 := hmoreG (lt_of_some hs9)
       have hgl : ∀ o,(S6.set sid (.cells 18 [c.set 8 (.row R 0 (xs.length + 1))] (some 1)) ++ [o])[S6.length]? = some o := fun o => by rw [List.getElem?_append_right (by simp)]; simp
       have hsl : ∀ o o',(S6.set sid (.cells 18 [c.set 8 (.row R 0 (xs.length + 1))] (some 1)) ++ [o]).set S6.length o' = S6.set sid (.cells 18 [c.set 8 (.row R 0 (xs.length + 1))] (some 1)) ++ [o'] := fun o o' => by rw [List.set_append_right _ _ (by simp)]; simp
       simp [-appendR,-List.length_append,tokC,hgl,hsl,hg9,hs9,hx,o1,putAt,splice,e4,e5,b2,b3,b4,hgs5,gs5,hgi5,h25,hc,a1,g8,a3,hs8]
       refine (w78 (a5.at_.more _)).use ?_
       rintro e S9 ⟨rfl,rfl⟩
       simp [-appendR,-List.length_append,tokC,hgl,hsl]
       exact ⟨m,by omega,xs ++ [⟨tb,al,o⟩],s5,S6.length,by rw [srcsC_snoc]; exact a5.more _,by simp [b2],by simp [b3],by simp,by simp [hgl,tokC],by simp; omega,by omega,hr⟩
set_option maxHeartbeats 4000000 in
theorem w84l {G : Nat → AVal} {m : Nat} {a : Tmps} {S' : Heap} {r : ResS (List Src)} (h : EJ T0 pid sid bp bs c N n r m a S') :
  mwp (ACalls Tryz.prog (B0 w0)) (.block 0 (.loop (f84b0 G))) (JQ T0 pid sid bp bs c n r) a S' := by
 simp only [mwp_block]
 refine mwp_loop (I := EJ T0 pid sid bp bs c N n r) h ?_
 clear h
 rintro m a S' ⟨xs,s,tid,hli,b2,b3,b4,b5,hm,hl,hr⟩
 have hdone : ∀ a',get a' 2 = .ptr bp 0 0 → get a' 3 = .ptr bs 0 0 → (isT 1 [105,110,110,101,114] s.l || isT 1 [106,111,105,110] s.l) = false → JQ T0 pid sid bp bs c n r .normal a' S' := fun a' e1 e2 e3 => by
  refine ⟨xs,s,?_,hli,e1,e2,hl⟩
  rw [← hr]
  cases m <;> rw [joinsS,if_neg (by simp [e3])]
 have hd4 : ∃ kd tx nm sc,tokC (s.l.headD zTok) = [.int kd,.str tx,.int nm,.int sc] ∧ (s.l.headD zTok).kind = kd ∧ (s.l.headD zTok).text = tx := ⟨_,_,_,_,rfl,rfl,rfl⟩
 obtain ⟨kd,tx,nm,sc,e1,e2,e3⟩ := hd4
 rw [e1] at b5
 have e45 : f84b0 G = .seq (.seq (.ops [⟨some 26,none,.op (.faddr 0 4)⟩,
  ⟨some 27,none,.op (.load false 1 26)⟩,
  ⟨some 28,none,.op (.bin .eql .int 27 (.val (.int 1)))⟩,
  ⟨some 29,none,.op (.mv 28)⟩,
  ⟨some 30,some (29,true),.op (.faddr 1 4)⟩,
  ⟨some 31,some (29,true),.op (.load false 1 30)⟩,
  ⟨some 32,some (29,true),.op (.bin .eql .str 31 (.val (.str [105,110,110,101,114])))⟩,
  ⟨some 33,some (29,true),.op (.mv 32)⟩,
  ⟨some 34,some (33,false),.op (.faddr 1 4)⟩,
  ⟨some 35,some (33,false),.op (.load false 1 34)⟩,
  ⟨some 36,some (33,false),.op (.bin .eql .str 35 (.val (.str [106,111,105,110])))⟩,
  ⟨some 37,some (29,true),.op (.pick 33 (.val (.bool true)) 36)⟩,
  ⟨some 38,none,.op (.pick 29 37 (.val (.bool false)))⟩])
 (.cond 38
  (.skip)
  (.exit 0))) (f84b1 G) := rfl
 rw [e45,mwp_seq]
 by_cases hk : kd = 1
 ·obtain ⟨t,r0,hc2⟩ : ∃ t r0,s.l = t :: r0 := by
   cases hc2 : s.l with
   | nil => rw [hc2] at e2; rw [hk] at e2; cases e2
   | cons t r0 => exact ⟨t,r0,rfl⟩
  have hI : ∀ w,isT 1 w s.l = (tx == w) := fun w => by
   rw [hc2] at e2 e3 ⊢
   simp only [List.headD_cons] at e2 e3
   rw [isT_cons]
   rw [Bool.eq_iff_iff]; simp [e2,e3,hk]
  rw [hI,hI] at hdone
  have b5' : S'[tid]? = some (.cells 4 [tokC t] (some 1)) := by
   rw [b5,← e1,hc2]; rfl
  have go := fun a' (q2 : get a' 2 = .ptr bp 0 0) (q3 : get a' 3 = .ptr bs 0 0) (q4 : get a' 4 = .ptr tid 0 0) hij => w84b (w0 := w0) hB hc hnN hN (G := G) hli q2 q3 q4 b5' hc2 hm hl hr hij
  rw [hI,hI] at go
  by_cases h1 : tx = [105,110,110,101,114]
  ·simp [b4,b5,hk,h1]
   refine go _ ?_ ?_ ?_ ?_
   ·simp [b2]
   ·simp [b3]
   ·simp [b4]
   ·simp [h1]
  ·by_cases h2 : tx = [106,111,105,110]
   ·simp [b4,b5,hk,h1,h2]
    refine go _ ?_ ?_ ?_ ?_
    ·simp [b2]
    ·simp [b3]
    ·simp [b4]
    ·simp [h2]
   ·simp [b4,b5,hk,h1,h2]
    refine hdone _ ?_ ?_ ?_
    ·simp [b2]
    ·simp [b3]
    ·simp [h1,h2]
 ·have hk2 : (kd == 1) = false := beq_eq_false_iff_ne.2 hk
  have hI : ∀ w,isT 1 w s.l = false := fun w => by
   cases hc2 : s.l with
   | nil => rfl
   | cons t r0 =>
     rw [hc2] at e2
     simp only [List.headD_cons] at e2
     rw [isT_cons]
     simp [e2,hk]
  simp [b4,b5,hk2]
  refine hdone _ ?_ ?_ ?_
  ·simp [b2]
  ·simp [b3]
  ·simp [hI]
end
end Go.Abs
namespace Go.Abs
open Go Go.RowKit Go.Proofs Go.Lx Go.Pz
variable {w0 : World}
theorem Ap.kst {M k : Nat} {S : Heap} {v : AVal} {es} {pid sid : Nat} {S' : Heap} (h : Ap M k S v es) (hk : Kst pid sid S S') (hp : pid < M) (hs : sid < M) : Ap M k S' v es := by
 cases h with
 | none fl hf => exact .none fl hf
 | row id off len es cap hN hS hl => exact .row id off len es cap hN (by rw [hk.2 id (lt_of_some hS) (by omega) (by omega)]; exact hS) hl
theorem listF_sub {α : Type} {step : α → Sta → ResS α} {N : Nat} {V : α → Nat} (hs : ∀ x s x' s',s.l.length ≤ N → step x s = .ok (x',s') → V x' = V x + 1 ∧ s'.l.length ≤ s.l.length) {f : Nat} {x : α} {s : Sta} {x' : α} {s' : Sta} (hl : s.l.length ≤ N) (h : listF step f x s = .ok (x',s')) : s'.l.length ≤ s.l.length :=
 (listF_step hs f x s x' s' hl h).2
theorem LI.one {S1 S4 : Heap} {pid sid : Nat} {c : List AVal} {s : Sta} (hps : pid ≠ sid) (hc : c.length = 18) (h : CI S1 pid sid c s S4) (f k : Nat) (x : List AVal) :
  LI S4 pid sid c f k [x] s ((S4 ++ [AObj.cells k [x] (some 1)]).set sid (.cells 18 [c.set f (.row S4.length 0 1)] (some 1))) := by
 have hsl := lt_of_some h.st
 have hpl := h.at_.lt
 obtain ⟨⟨o,ho,hpo⟩,h2,h3⟩ := h
 refine ⟨⟨o,by rw [List.getElem?_set_ne (Ne.symm hps),List.getElem?_append_left hpl]; exact ho,hpo⟩,⟨.row S4.length 0 1,by rw [hc]; exact List.getElem?_set_self (by simp; omega),⟨by simp,fun _ _ => rfl,fun i v k' es hi => ?_,fun i j id o l o' l' k es k' es' hi hj => ?_⟩⟩,⟨by simp,fun j hj j1 j2 => by rw [List.getElem?_set_ne (Ne.symm j2),List.getElem?_append_left hj]⟩⟩
 ·cases i with
  | zero =>
    simp only [List.getElem?_cons_zero,Option.some.injEq,Prod.mk.injEq] at hi
    obtain ⟨rfl,rfl,rfl⟩ := hi
    exact Ap.row (N := S4.length) (k := k) S4.length 0 1 [x] (some 1) (Nat.le_refl _) (by rw [List.getElem?_set_ne (by omega)]; simp) (by simp)
  | succ i => simp at hi
 ·cases i <;> cases j <;> first | rfl | (simp at hi; done) | (simp at hj; done)
def IQ (S1 : Heap) (pid sid bp bs n : Nat) (c : List AVal) (r : ResS (List Itm)) : AExit → Tmps → Heap → Prop
 | .normal,a,S' => ∃ x s,r = .ok (x,s) ∧ s.l.length ≤ n ∧ ∃ v,CI S1 pid sid (c.set 7 v) s S' ∧ Ap S1.length 8 S' v (itmsC x) ∧ get a 2 = .ptr bp 0 0 ∧ get a 3 = .ptr bs 0 0
 | .panic v,a,S' => ∃ cde,r = .error cde ∧ v = trb cde ∧ Kst pid sid S1 S'
 | _,_,_ => False
section
variable {S1 : Heap} {pid sid bp bs : Nat} (hB : Bx S1 pid sid bp bs) {N : Nat} (hN : N ≤ 1000000)
include hB hN
set_option maxHeartbeats 4000000 in
theorem w84i {a : Tmps} {S' : Heap} {c : List AVal} (hc : c.length = 18) (hf : c.set 7 .nilS = c) {s : Sta} (c1 : CI S1 pid sid c s S') (hl : s.l.length < N) (b2 : get a 2 = .ptr bp 0 0) (b3 : get a 3 = .ptr bs 0 0) :
  mwp (ACalls Tryz.prog (B0 w0)) (.seq (.ops [⟨some 9,none,.op (.load false 1 2)⟩,
  ⟨some 10,none,.call 129 [9,(.val (.str [42]))]⟩,
  ⟨some 11,none,.op (.un .not 10)⟩])
 (.cond 11
  (.ops [⟨some 12,none,.op (.load false 1 2)⟩,
   ⟨some 13,none,.op (.mkfn (.func 130) [] [2,3])⟩,
   ⟨some 14,none,.call 121 [12,(.val (.int 50)),13]⟩])
  (.skip))) (IQ S1 pid sid bp bs s.l.length c (itemsS resv N s)) a S' := by
 obtain ⟨r,hr⟩ : ∃ r,itemsS resv N s = r := ⟨_,rfl⟩
 rw [hr]
 rw [itemsS] at hr
 have gp1 := hB.gp c1.k2
 have gs1 := hB.gs c1.k2
 simp [-appendR,b2,b3,gp1]
 refine (w129 c1.at_ _).use ?_
 rintro e S2 ⟨hst2,rfl,h2⟩
 by_cases hT : isT 5 [42] s.l = true
 ·rw [if_pos hT] at hr
  rw [hT] at h2
  simp only [if_true] at h2
  have c2 := c1.step hB.ps hst2 (s' := ⟨s.l.tail,s.d⟩) h2
  simp [hT]
  exact ⟨[],⟨s.l.tail,s.d⟩,hr.symm,by simp,.nilS,by rw [hf]; exact c2,.none .nil (.inl rfl),by simp [b2],by simp [b3]⟩
 ·have hT : isT 5 [42] s.l = false := by simpa using hT
  rw [if_neg (by simp [hT])] at hr
  rw [hT] at h2
  simp only [Bool.false_eq_true,if_false] at h2
  have c2 := c1.step hB.ps hst2 (s' := s) h2
  have gp2 := hB.gp c2.k2
  have hB2 := hB.re c2.k2
  simp [-appendR,hT,b2,b3,gp2]
  refine (w121 (V := itmsC) (step := itemS resv N) (n := s.l.length) (most := 50) (o1 := []) hB2.hp hB.ps (by decide) (fun x s2 S2 hli hlen hl2 => w130 hB2 hc hli (by simp at hlen; omega) (by omega) hN) (fun x s2 x' s2' hl2 h => itemS_step (N := N) (by omega) h)
   (x := []) (s := s) (c2.li 7 8 hc hf) rfl (Nat.le_refl _) (by decide)).use ?_
  rintro e S3 h3
  cases hF : listF (itemS resv N) 50 [] s with
  | error cd =>
    rw [hF] at hr h3
    obtain ⟨rfl,h3⟩ := h3
    simp
    exact ⟨cd,hr.symm,rfl,c2.k2.trans h3⟩
  | ok y =>
    obtain ⟨xs,s3⟩ := y
    have hl3 := listF_sub (N := N) (V := fun xs => (itmsC xs).length) (fun x s x' s' h h' => itemS_step h h') (by omega) hF
    rw [hF] at hr h3
    obtain ⟨rfl,h3⟩ := h3
    obtain ⟨v,c3,ap3⟩ := h3.ci hc c2.k2
    simp
    exact ⟨xs,s3,hr.symm,hl3,v,c3,ap3.le c2.k2.1,by simp [b2],by simp [b3]⟩
end
set_option maxHeartbeats 4000000 in
theorem w84 {S : Heap} {pid sid N : Nat} {s : Sta} (hps : pid ≠ sid) (h0 : CI S pid sid z18 s S) (hl : s.l.length < N) (hN : N ≤ 1000000) : ACalls Tryz.prog (B0 w0) 84 [.ptr pid 0 0,.ptr sid 0 0] S (CrR S pid sid (queryS resv N s)) := by
 obtain ⟨r,hr⟩ : ∃ r,queryS resv N s = r := ⟨_,rfl⟩
 rw [hr]
 rw [queryS] at hr
 obtain ⟨S1,hS1⟩ : ∃ S1,S1 = S ++ [AObj.cells 1 [[.ptr pid 0 0]] (some 1),.cells 1 [[.ptr sid 0 0]] (some 1)] := ⟨_,rfl⟩
 obtain ⟨hl1,hB,hk1,hc1⟩ := h0.boxes hps S1 hS1
 refine fn_sound tryOrd (f84_c _) (by simp [f84]) ?_
 have gp0 := hB.xp
 have gs0 := hB.xs
 have st0 := hc1.st
 rw [hS1] at gp0 gs0 st0
 rw [f84,f84m,mwp_seq]
 simp [-appendR,-mwp_seq]
 rw [mwp_seq]
 simp [-appendR,-mwp_seq,gs0,st0]
 rw [← hS1]
 have c1 := hc1.set hps [.int 6,.str [],.str [],.nilS,.nilS,.bool false,.nilS,.nilS,.nilS,.int 0,.nilS,.int 0,.int 0,.int 0,.str [],.str [],.nilS,.nilS]
 generalize S1.set sid (.cells 18 [[.int 6,.str [],.str [],.nilS,.nilS,.bool false,.nilS,.nilS,.nilS,.int 0,.nilS,.int 0,.int 0,.int 0,.str [],.str [],.nilS,.nilS]] (some 1)) = S2 at *
 rw [mwp_seq]
 refine mwp_mono _ _ (fun _ _ _ _ _ hr h => h.mono hr) ?_ (w84i (w0 := w0) hB hN rfl rfl c1 hl (by simp) (by simp))
 clear c1 S2 hS1 gp0 gs0 st0
 intro e a S2 hI
 cases hR : itemsS resv N s with
 | error cd =>
   rw [hR] at hI hr
   rw [bindS_error] at hr
   cases e <;> first | exact hI.elim | skip
   ·obtain ⟨_,_,h,_⟩ := hI; cases h
   ·obtain ⟨cde,h,rfl,hk⟩ := hI
    cases h
    simp
    subst hr
    exact And.intro rfl (hk1.trans hk)
 | ok y =>
 rw [hR] at hI hr
 cases e <;> first | exact hI.elim | skip
 rotate_left 1
 ·obtain ⟨cde,h,_⟩ := hI; cases h
 obtain ⟨is,s1,h,hl1',v7,c2,ap2,b2,b3⟩ := hI
 obtain rfl := Except.ok.inj h
 clear h
 rw [bindS_ok,needS] at hr
 have gp2 := hB.gp c2.k2
 have gs2 := hB.gs c2.k2
 simp only [afterX_normal]
 rw [mwp_seq]
 simp [-appendR,-mwp_seq,b2,b3,gp2]
 refine (w79 c2.at_ _).use ?_
 rintro e S3 ⟨hst3,h3⟩
 by_cases hT : isT 1 [102,114,111,109] s1.l = true
 rotate_left 1
 ·have hT : isT 1 [102,114,111,109] s1.l = false := by simpa using hT
  rw [need_er hT] at h3
  rw [if_neg (by simp [hT]),thenS_error] at hr
  obtain ⟨rfl,_⟩ := h3
  simp
  subst hr
  exact And.intro rfl (hk1.trans (c2.k2.trans hst3.k2))
 have hlt1 := isT_len hT
 rw [need_ok hT] at h3
 rw [if_pos hT,thenS_ok] at hr
 obtain ⟨rfl,h3⟩ := h3
 have c3 := c2.step hps hst3 (s' := ⟨s1.l.tail,s1.d⟩) h3
 have ap3 := ap2.step hst3 hB.hp
 have gp3 := hB.gp c3.k2
 have gs3 := hB.gs c3.k2
 simp only [afterE_ret]
 simp [-appendR,-mwp_seq]
 rw [mwp_seq]
 simp [-appendR,-mwp_seq,b2,b3,gp3,gs3]
 refine (w131 (s := ⟨s1.l.tail,s1.d⟩) c3.at_).use ?_
 rintro e S4 ⟨hst4,h4⟩
 cases hS : sourceS resv ⟨s1.l.tail,s1.d⟩ with
 | error cd =>
   rw [hS] at h4 hr
   obtain ⟨rfl,_⟩ := h4
   simp
   subst hr
   exact And.intro rfl (hk1.trans (c3.k2.trans hst4.k2))
 | ok y =>
 obtain ⟨⟨tb,al,on⟩,s4⟩ := y
 obtain ⟨hon,hl4⟩ := sourceS_on hS
 simp only [List.length_tail] at hl4 hon
 subst hon
 rw [hS] at h4 hr
 rw [bindS_ok] at hr
 obtain ⟨rfl,h4⟩ := h4
 have c4 := c3.step hps hst4 (s' := s4) h4
 have ap4 := ap3.step hst4 hB.hp
 have gp4 := hB.gp c4.k2
 have gs4 := hB.gs c4.k2
 have st4 := c4.st
 have hg4 := hmoreG (lt_of_some gp4)
 have hgs4 := hmoreG (lt_of_some gs4)
 have hgi4 := hmoreG (lt_of_some st4)
 have hb : srcC ⟨tb,al,.zero⟩ = [.str tb,.str al,.int 0,.nilS,.int 0,.int 0,.int 0,.str [],.str []] := by rw [srcC,Ex.zero,exC_eq,exsV_nil]
 simp only [List.set_cons_succ,List.set_cons_zero] at st4
 simp [-appendR,-mwp_seq,b2,b3,hb,hgs4,gs4,hgi4,st4]
 have li5 := LI.one hps rfl c4 8 9 (srcC ⟨tb,al,.zero⟩)
 rw [hb] at li5
 simp only [List.set_cons_succ,List.set_cons_zero] at li5
 generalize hS5 : (S4 ++ [AObj.cells 9 [[.str tb,.str al,.int 0,.nilS,.int 0,.int 0,.int 0,.str [],.str []]] (some 1)]).set sid (.cells 18 [[AVal.int 6,AVal.str [],AVal.str [],AVal.nilS,AVal.nilS,AVal.bool false,AVal.nilS,v7,AVal.row (List.length S4) 0 1,AVal.int 0,AVal.nilS,AVal.int 0,AVal.int 0,AVal.int 0,AVal.str [],AVal.str [],AVal.nilS,AVal.nilS]] (some 1)) = S5 at *
 have li5 : LI S4 pid sid [AVal.int 6,AVal.str [],AVal.str [],AVal.nilS,AVal.nilS,AVal.bool false,AVal.nilS,v7,.nilS,AVal.int 0,AVal.nilS,AVal.int 0,AVal.int 0,AVal.int 0,AVal.str [],AVal.str [],AVal.nilS,AVal.nilS] 8 9 (srcsC [⟨tb,al,.zero⟩]) s4 S5 := by
  simp only [srcsC,List.map_cons,List.map_nil,hb]; exact li5
 clear hS5
 have hB4 := hB.re c4.k2
 have gp5 := hB4.gp li5.k2
 have gs5 := hB4.gs li5.k2
 rw [mwp_seq,mwp_seq]
 simp [-appendR,-mwp_seq,b2,b3,gp5]
 refine (w78 li5.at_).use ?_
 rintro e S5 ⟨rfl,rfl⟩
 simp [-appendR,-mwp_seq,-mwp_block,tokC]
 obtain ⟨rJ,hrJ⟩ : ∃ rJ,joinsS resv N 3 [⟨tb,al,.zero⟩] s4 = rJ := ⟨_,rfl⟩
 rw [hrJ] at hr
 refine mwp_mono _ _ (fun _ _ _ _ _ hr h => h.mono hr) ?_ (w84l (w0 := w0) hB4 (c := [AVal.int 6,AVal.str [],AVal.str [],AVal.nilS,AVal.nilS,AVal.bool false,AVal.nilS,v7,.nilS,AVal.int 0,AVal.nilS,AVal.int 0,AVal.int 0,AVal.int 0,AVal.str [],AVal.str [],AVal.nilS,AVal.nilS]) rfl (N := N) (n := s4.l.length) (by omega) hN (m := 3) (r := rJ)
  ⟨[⟨tb,al,.zero⟩],s4,S5.length,li5.more _,by simp [b2],by simp [b3],by simp,by simp [tokC],by simp,Nat.le_refl _,hrJ⟩)
 intro e a6 S6 hJ
 cases e <;> first | exact hJ.elim | skip
 rotate_left 1
 ·obtain ⟨cde,rfl,rfl,hk⟩ := hJ
  rw [bindS_error] at hr
  simp
  subst hr
  exact And.intro rfl (hk1.trans (c4.k2.trans hk))
 obtain ⟨fs,s6,rfl,li6,q2,q3,hl6⟩ := hJ
 rw [bindS_ok] at hr
 obtain ⟨v8,c6,ap86⟩ := li6.ci rfl c4.k2
 have ap6 := ap4.kst li6.k2 hB.hp hB.hs
 simp only [List.set_cons_succ,List.set_cons_zero] at c6
 have gp6 := hB.gp c6.k2
 have gs6 := hB.gs c6.k2
 simp only [afterX_normal]
 rw [mwp_seq]
 simp [-appendR,-mwp_seq,q2,q3,gp6,gs6]
 refine (w86 (N := N) rfl (by rw [exC_zero]; rfl) hps c6.at_ c6.st (by omega) hN).use ?_
 rintro e S7 h7
 have h8 := h7.ci c6
 cases hW : whereS resv N s6 with
 | error cd =>
   rw [hW] at h8 hr
   obtain ⟨rfl,h8⟩ := h8
   simp
   subst hr
   exact And.intro rfl (hk1.trans h8)
 | ok y3 =>
 obtain ⟨w,s7⟩ := y3
 rw [hW] at h8 hr
 rw [bindS_ok] at hr
 obtain ⟨rfl,c7⟩ := h8
 have hl7 : s7.l.length ≤ s6.l.length := by
  rw [whereS] at hW
  split at hW
  ·rename_i hh
   have := isT_len hh
   have := whole_len hW (by simp only [List.length_tail]; omega)
   simp only [List.length_tail] at this
   omega
  ·simp only [Except.ok.injEq,Prod.mk.injEq] at hW
   obtain ⟨-,rfl⟩ := hW
   exact Nat.le_refl _
 have ap77 := (h7.ap ap6 hB.hp hB.hs).le (N' := S.length) (by have := hk1.1; omega)
 have ap78 := (h7.ap ap86 hB4.hp hB4.hs).le (N' := S.length) (by have := hk1.1; have := c4.k2.1; omega)
 obtain ⟨op,vv,kind,num,scale,text,qual,hx,o1,o2⟩ := exC_shape w
 have hc7 : List.take 9 [AVal.int 6,AVal.str [],AVal.str [],AVal.nilS,AVal.nilS,AVal.bool false,AVal.nilS,v7,v8,AVal.int 0,AVal.nilS,AVal.int 0,AVal.int 0,AVal.int 0,AVal.str [],AVal.str [],AVal.nilS,AVal.nilS] ++ exC w ++ List.drop 16 [AVal.int 6,AVal.str [],AVal.str [],AVal.nilS,AVal.nilS,AVal.bool false,AVal.nilS,v7,v8,AVal.int 0,AVal.nilS,AVal.int 0,AVal.int 0,AVal.int 0,AVal.str [],AVal.str [],AVal.nilS,AVal.nilS]
   = [AVal.int 6,AVal.str [],AVal.str [],AVal.nilS,AVal.nilS,AVal.bool false,AVal.nilS,v7,v8,.int op,vv,.int kind,.int num,.int scale,.str text,.str qual,AVal.nilS,AVal.nilS] := by rw [hx]; rfl
 rw [hc7] at c7
 have gp7 := hB.gp c7.k2
 have gs7 := hB.gs c7.k2
 simp [-appendR,q2,q3,gp7,gs7]
 refine (w81 c7.at_ _).use ?_
 rintro e S8 ⟨hst8,rfl,h9⟩
 have ap87 := ap77.step hst8 (by have := c7.at_.lt; have := h0.at_.lt; omega)
 have ap88 := ap78.step hst8 (by have := c7.at_.lt; have := h0.at_.lt; omega)
 rw [orderS] at hr
 by_cases hO : isT 1 [111,114,100,101,114] s7.l = true
 rotate_left 1
 ·have hO : isT 1 [111,114,100,101,114] s7.l = false := by simpa using hO
  rw [if_neg (by simp [hO]),bindS_ok] at hr
  rw [hO] at h9
  simp only [Bool.false_eq_true,if_false] at h9
  have c8 := c7.step hps hst8 (s' := s7) h9
  simp [hO]
  subst hr
  refine And.intro rfl ⟨_,⟨c8.at_,c8.st,hk1.trans c8.k2⟩,.nilS,.nilS,.nilS,v7,v8,.nilS,.nilS,?_,.nil _ _ _,.nil _ _ _,.nil _ _ _,.inl ap87,.inl ap88,.nil _ _ _,.nil _ _ _⟩
  rw [hx]; rfl
 have hlt7 := isT_len hO
 rw [if_pos hO,needS] at hr
 rw [hO] at h9
 simp only [if_true] at h9
 simp only at hr
 have c8 := c7.step hps hst8 (s' := ⟨s7.l.tail,s7.d⟩) h9
 have gp8 := hB.gp c8.k2
 have gs8 := hB.gs c8.k2
 simp [-appendR,hO,q2,q3,gp8,gs8]
 refine (w79 c8.at_ _).use ?_
 rintro e S9 ⟨hst9,h10⟩
 simp only at h10
 by_cases hY : isT 1 [98,121] s7.l.tail = true
 rotate_left 1
 ·have hY : isT 1 [98,121] s7.l.tail = false := by simpa using hY
  rw [need_er hY] at h10
  rw [if_neg (by simp [hY]),thenS_error,bindS_error] at hr
  obtain ⟨rfl,_⟩ := h10
  simp
  subst hr
  exact And.intro rfl (hk1.trans (c8.k2.trans hst9.k2))
 have hlt8 := isT_len hY
 simp only [List.length_tail] at hlt8
 rw [need_ok hY] at h10
 rw [if_pos hY,thenS_ok] at hr
 obtain ⟨rfl,h10⟩ := h10
 have c9 := c8.step hps hst9 (s' := ⟨s7.l.tail.tail,s7.d⟩) h10
 have ap97 := ap87.step hst9 (by have := c7.at_.lt; have := h0.at_.lt; omega)
 have ap98 := ap88.step hst9 (by have := c7.at_.lt; have := h0.at_.lt; omega)
 have gp9 := hB.gp c9.k2
 have gs9 := hB.gs c9.k2
 have hB9 := hB.re c9.k2
 simp [-appendR,q2,q3,gp9,gs9]
 refine (w121 (V := srtsC) (step := sortS resv N) (n := s7.l.tail.tail.length) (most := 50) (o1 := []) hB9.hp hps (by decide) (fun x s2 S2 hli hlen hl2 => w132 hB9 rfl hli (by simp at hlen; omega) (by simp only [List.length_tail] at hl2; omega) hN) (fun x s2 x' s2' hl2 h => sortS_step (N := N) (by simp only [List.length_tail] at hl2; omega) h)
  (x := []) (s := ⟨s7.l.tail.tail,s7.d⟩) (c9.li 16 8 rfl rfl) rfl (Nat.le_refl _) (by decide)).use ?_
 rintro e T1 t1
 try simp only at hr
 cases hF : listF (sortS resv N) 50 [] ⟨s7.l.tail.tail,s7.d⟩ with
 | error cd =>
   rw [hF] at hr t1
   rw [bindS_error] at hr
   obtain ⟨rfl,t1⟩ := t1
   simp
   subst hr
   exact And.intro rfl (hk1.trans (c9.k2.trans t1))
 | ok y2 =>
   obtain ⟨os,s10⟩ := y2
   rw [hF] at hr t1
   rw [bindS_ok] at hr
   obtain ⟨rfl,t1⟩ := t1
   have ap107 := ap97.kst t1.k2 h0.at_.lt (lt_of_some h0.st)
   have ap108 := ap98.kst t1.k2 h0.at_.lt (lt_of_some h0.st)
   obtain ⟨v,c10,ap10⟩ := t1.ci rfl c9.k2
   have ap109 := ap10.le (N' := S.length) (by have := hk1.1; have := c9.k2.1; omega)
   simp
   subst hr
   refine And.intro rfl ⟨_,⟨c10.at_,c10.st,hk1.trans c10.k2⟩,.nilS,.nilS,.nilS,v7,v8,v,.nilS,?_,.nil _ _ _,.nil _ _ _,.nil _ _ _,.inl ap107,.inl ap108,.inl ap109,.nil _ _ _⟩
   rw [hx]; rfl
end Go.Abs
namespace Go.Abs
open Go Go.RowKit Go.Proofs Go.Lx Go.Pz
variable {w0 : World}
theorem Vk.one {N k S v es} (h : Vk N k S v es) : v.one = true ∧ cellsOf false v = some [v] := by
 rcases h with h | ⟨fl,rfl⟩
 ·cases h <;> exact ⟨rfl,rfl⟩
 ·exact ⟨rfl,rfl⟩
theorem SC.z {N : Nat} {S : Heap} {st : Stm} (hc : st.cols = []) (hn : st.names = []) (hr : st.rows = []) (hi : st.items = []) (hs : st.src = []) (ho : st.order = []) (ht : st.sets = []) :
  SC N S st ([.int st.kind,.str st.table,.str st.index,.nilS,.nilS,.bool st.uniq,.nilS,.nilS,.nilS] ++ exC st.wher ++ [.nilS,.nilS]) :=
 ⟨.nilS,.nilS,.nilS,.nilS,.nilS,.nilS,.nilS,rfl,by rw [hc]; exact .nil _ _ _,by rw [hn]; exact .nil _ _ _,by rw [hr]; exact .nil _ _ _,by rw [hi]; exact .nil _ _ _,by rw [hs]; exact .nil _ _ _,by rw [ho]; exact .nil _ _ _,by rw [ht]; exact .nil _ _ _⟩
theorem SC.z0 {N : Nat} {S : Heap} {k : Int} {tb ix : Bs} : SC N S { kind := k,table := tb,index := ix } [.int k,.str tb,.str ix,.nilS,.nilS,.bool false,.nilS,.nilS,.nilS,.int 0,.nilS,.int 0,.int 0,.int 0,.str [],.str [],.nilS,.nilS] := by
 have := SC.z (N := N) (S := S) (st := { kind := k,table := tb,index := ix }) rfl rfl rfl rfl rfl rfl rfl
 simp only [exC_zero] at this
 exact this
def f21s (G : Nat → AVal) : MC := match f26m G with | .seq _ (.seq _ (.seq _ (.seq _ (.seq (.seq _ b) _)))) => b | x => x
def MQ (S2 : Heap) (pid sid : Nat) (r : ResS Stm) : AExit → Tmps → Heap → Prop
 | .normal,a,S' => ∃ st s c,r = .ok (st,s) ∧ CI S2 pid sid c s S' ∧ SC S2.length S' st c ∧ get a 2 = .ptr sid 0 0
 | .panic v,a,S' => ∃ cde,r = .error cde ∧ v = trb cde ∧ Kst pid sid S2 S'
 | _,_,_ => False
theorem CrR.mq {S2 : Heap} {pid sid : Nat} {r : ResS Stm} {e : AEnd} {S' : Heap} (h : CrR S2 pid sid r e S') {a : Tmps} (hz : get a 2 = .ptr sid 0 0) : match e with
  | .ret v => v = .undef ∧ MQ S2 pid sid r .normal a S'
  | .panic v => MQ S2 pid sid r (.panic v) a S' := by
 cases r with
 | error c => obtain ⟨rfl,h⟩ := h; exact ⟨c,rfl,rfl,h⟩
 | ok y =>
   obtain ⟨st,s⟩ := y
   obtain ⟨rfl,c,h1,h2⟩ := h
   exact ⟨rfl,st,s,c,rfl,h1,h2,hz⟩
set_option maxHeartbeats 8000000 in
theorem w26s {G : Nat → AVal} {a : Tmps} {S : Heap} {pid sid N : Nat} {w : Bs} {s : Sta} (hps : pid ≠ sid) (h0 : CI S pid sid z18 s S) (hl : s.l.length < N) (hN : N ≤ 1000000) (b0 : get a 0 = .ptr pid 0 0) (b2 : get a 2 = .ptr sid 0 0) (b16 : get a 16 = .str w) {r : ResS Stm}
  (hr : (if w = [99,114,101,97,116,101] then createS resv s
 else if w = [100,114,111,112] then dropS resv s
 else if w = [105,110,115,101,114,116] then insertS resv N s
 else if w = [115,101,108,101,99,116] then queryS resv N s
 else if w = [117,112,100,97,116,101] then updateS resv N s
 else if w = [100,101,108,101,116,101] then deleteS resv N s
 else if w = [98,101,103,105,110] then .ok ({ kind := 9 },s)
 else if w = [99,111,109,109,105,116] then .ok ({ kind := 10 },s)
 else if w = [114,111,108,108,98,97,99,107] then .ok ({ kind := 11 },s)
 else .error 130) = r) :
  mwp (ACalls Tryz.prog (B0 w0)) (f21s G) (MQ S pid sid r) a S := by
 have st0 := h0.st
 have crq : ∀ (f : FuncId) (a' : Tmps) (S' : Heap) (kn : AVal → Heap → Prop),True := fun _ _ _ _ => trivial
 by_cases w1 : w = [99,114,101,97,116,101]
 ·rw [if_pos w1] at hr
  simp [-appendR,f21s,f26m,b0,b2,b16,w1]
  refine (w80 hps h0).use ?_
  rintro e S1 h1
  rw [hr] at h1
  have h2 := h1.mq (a := a) b2
  cases e with
  | ret v =>
    obtain ⟨rfl,st,s',c,h3,h4,h5,h6⟩ := h2
    simp
    exact ⟨st,s',c,h3,h4,h5,by simp [b2]⟩
  | panic v => simp; exact h2
 rw [if_neg w1] at hr
 by_cases w2 : w = [100,114,111,112]
 ·rw [if_pos w2,dropS] at hr
  simp [-appendR,f21s,f26m,b0,b2,b16,w1,w2,st0]
  have c1 := h0.set hps [.int 4,.str [],.str [],.nilS,.nilS,.bool false,.nilS,.nilS,.nilS,.int 0,.nilS,.int 0,.int 0,.int 0,.str [],.str [],.nilS,.nilS]
  generalize S.set sid (.cells 18 [[.int 4,.str [],.str [],.nilS,.nilS,.bool false,.nilS,.nilS,.nilS,.int 0,.nilS,.int 0,.int 0,.int 0,.str [],.str [],.nilS,.nilS]] (some 1)) = S1 at *
  refine (w81 c1.at_ _).use ?_
  rintro e S2 ⟨hst2,rfl,h2⟩
  by_cases hT : isT 1 [116,97,98,108,101] s.l = true
  ·rw [if_pos hT,nameS] at hr
   rw [hT] at h2
   simp only [if_true] at h2
   have c2 := c1.step hps hst2 (s' := ⟨s.l.tail,s.d⟩) h2
   simp [-appendR,hT,b0,b2]
   refine (w82 c2.at_).use ?_
   rintro e S3 ⟨hst3,h3⟩
   simp only at hr h3
   cases hN1 : nameR resv s.l.tail with
   | error c =>
     rw [hN1] at hr h3
     obtain ⟨rfl,_⟩ := h3
     simp
     exact ⟨c,hr.symm,rfl,c2.k2.trans hst3.k2⟩
   | ok y =>
     obtain ⟨n,l3⟩ := y
     rw [hN1] at hr h3
     simp only [bindS_ok] at hr
     obtain ⟨rfl,h3⟩ := h3
     have c3 := c2.step hps hst3 (s' := ⟨l3,s.d⟩) h3
     have st3 := c3.st
     simp [-appendR,st3,b2,setSelf (lt_of_some c3.st)]
     have c4 := c3.set hps [.int 2,.str n,.str [],.nilS,.nilS,.bool false,.nilS,.nilS,.nilS,.int 0,.nilS,.int 0,.int 0,.int 0,.str [],.str [],.nilS,.nilS]
     exact ⟨_,_,_,hr.symm,c4,SC.z0,by simp [b2]⟩
  ·have hT : isT 1 [116,97,98,108,101] s.l = false := by simpa using hT
   rw [if_neg (by simp [hT]),needS] at hr
   rw [hT] at h2
   simp only [Bool.false_eq_true,if_false] at h2
   have c2 := c1.step hps hst2 (s' := s) h2
   simp [-appendR,hT,b0,b2]
   refine (w79 c2.at_ _).use ?_
   rintro e S3 ⟨hst3,h3⟩
   by_cases hI : isT 1 [105,110,100,101,120] s.l = true
   rotate_left 1
   ·have hI : isT 1 [105,110,100,101,120] s.l = false := by simpa using hI
    rw [need_er hI] at h3
    rw [if_neg (by simp [hI]),thenS_error] at hr
    obtain ⟨rfl,_⟩ := h3
    simp
    exact ⟨130,hr.symm,rfl,c2.k2.trans hst3.k2⟩
   rw [need_ok hI] at h3
   rw [if_pos hI,thenS_ok,nameS] at hr
   obtain ⟨rfl,h3⟩ := h3
   have c3 := c2.step hps hst3 (s' := ⟨s.l.tail,s.d⟩) h3
   simp [-appendR,b0,b2]
   refine (w82 c3.at_).use ?_
   rintro e S4 ⟨hst4,h4⟩
   simp only at hr h4
   cases hN1 : nameR resv s.l.tail with
   | error c =>
     rw [hN1] at hr h4
     obtain ⟨rfl,_⟩ := h4
     simp
     exact ⟨c,hr.symm,rfl,c3.k2.trans hst4.k2⟩
   | ok y =>
     obtain ⟨n,l3⟩ := y
     rw [hN1] at hr h4
     simp only [bindS_ok] at hr
     obtain ⟨rfl,h4⟩ := h4
     have c4 := c3.step hps hst4 (s' := ⟨l3,s.d⟩) h4
     have st4 := c4.st
     simp [-appendR,st4,b2]
     have c5 := c4.set hps [.int 4,.str [],.str n,.nilS,.nilS,.bool false,.nilS,.nilS,.nilS,.int 0,.nilS,.int 0,.int 0,.int 0,.str [],.str [],.nilS,.nilS]
     exact ⟨_,_,_,hr.symm,c5,SC.z0,by simp [b2]⟩
 rw [if_neg w2] at hr
 by_cases w3 : w = [105,110,115,101,114,116]
 ·rw [if_pos w3] at hr
  simp [-appendR,f21s,f26m,b0,b2,b16,w1,w2,w3]
  refine (w83 (N := N) hps h0 hl hN).use ?_
  rintro e S1 h1
  rw [hr] at h1
  have h2 := h1.mq (a := a) b2
  cases e with
  | ret v =>
    obtain ⟨rfl,st,s',c,h3,h4,h5,h6⟩ := h2
    simp
    exact ⟨st,s',c,h3,h4,h5,by simp [b2]⟩
  | panic v => simp; exact h2
 rw [if_neg w3] at hr
 by_cases w4 : w = [115,101,108,101,99,116]
 ·rw [if_pos w4] at hr
  simp [-appendR,f21s,f26m,b0,b2,b16,w1,w2,w3,w4]
  refine (w84 (N := N) hps h0 hl hN).use ?_
  rintro e S1 h1
  rw [hr] at h1
  have h2 := h1.mq (a := a) b2
  cases e with
  | ret v =>
    obtain ⟨rfl,st,s',c,h3,h4,h5,h6⟩ := h2
    simp
    exact ⟨st,s',c,h3,h4,h5,by simp [b2]⟩
  | panic v => simp; exact h2
 rw [if_neg w4] at hr
 by_cases w5 : w = [117,112,100,97,116,101]
 ·rw [if_pos w5] at hr
  simp [-appendR,f21s,f26m,b0,b2,b16,w1,w2,w3,w4,w5]
  refine (w85 (N := N) hps h0 hl hN).use ?_
  rintro e S1 h1
  rw [hr] at h1
  have h2 := h1.mq (a := a) b2
  cases e with
  | ret v =>
    obtain ⟨rfl,st,s',c,h3,h4,h5,h6⟩ := h2
    simp
    exact ⟨st,s',c,h3,h4,h5,by simp [b2]⟩
  | panic v => simp; exact h2
 rw [if_neg w5] at hr
 by_cases w6 : w = [100,101,108,101,116,101]
 ·rw [if_pos w6,deleteS,needS] at hr
  simp [-appendR,f21s,f26m,b0,b2,b16,w1,w2,w3,w4,w5,w6]
  refine (w79 h0.at_ _).use ?_
  rintro e S1 ⟨hst1,h1⟩
  by_cases hT : isT 1 [102,114,111,109] s.l = true
  rotate_left 1
  ·have hT : isT 1 [102,114,111,109] s.l = false := by simpa using hT
   rw [need_er hT] at h1
   rw [if_neg (by simp [hT]),thenS_error] at hr
   obtain ⟨rfl,_⟩ := h1
   simp
   exact ⟨130,hr.symm,rfl,hst1.k2⟩
  have hlt := isT_len hT
  rw [need_ok hT] at h1
  rw [if_pos hT,thenS_ok,nameS] at hr
  obtain ⟨rfl,h1⟩ := h1
  have c1 := h0.step hps hst1 (s' := ⟨s.l.tail,s.d⟩) h1
  simp [-appendR,b0,b2]
  refine (w82 c1.at_).use ?_
  rintro e S2 ⟨hst2,h2⟩
  simp only at hr h2
  cases hN1 : nameR resv s.l.tail with
  | error c =>
    rw [hN1] at hr h2
    obtain ⟨rfl,_⟩ := h2
    simp
    exact ⟨c,hr.symm,rfl,c1.k2.trans hst2.k2⟩
  | ok y =>
    obtain ⟨n,l2⟩ := y
    have hlt2 := nameR_len hN1
    rw [hN1] at hr h2
    simp only [bindS_ok] at hr
    obtain ⟨rfl,h2⟩ := h2
    have c2 := c1.step hps hst2 (s' := ⟨l2,s.d⟩) h2
    have st2 := c2.st
    simp [-appendR,st2,b0,b2,setSelf (lt_of_some c2.st)]
    have c3 := c2.set hps [.int 8,.str n,.str [],.nilS,.nilS,.bool false,.nilS,.nilS,.nilS,.int 0,.nilS,.int 0,.int 0,.int 0,.str [],.str [],.nilS,.nilS]
    generalize S2.set sid (.cells 18 [[.int 8,.str n,.str [],.nilS,.nilS,.bool false,.nilS,.nilS,.nilS,.int 0,.nilS,.int 0,.int 0,.int 0,.str [],.str [],.nilS,.nilS]] (some 1)) = S3 at *
    try simp [-appendR,b0,b2]
    refine (w86 (N := N) (s := ⟨l2,s.d⟩) rfl (by rw [exC_zero]; rfl) hps c3.at_ c3.st (by simp only [List.length_tail] at *; omega) hN).use ?_
    rintro e S7 h7
    have h8 := h7.ci c3
    cases hW : whereS resv N ⟨l2,s.d⟩ with
    | error cd =>
      rw [hW] at h8 hr
      obtain ⟨rfl,h8⟩ := h8
      simp
      exact ⟨cd,hr.symm,rfl,h8⟩
    | ok y3 =>
      obtain ⟨w,s7⟩ := y3
      rw [hW] at h8 hr
      rw [bindS_ok] at hr
      obtain ⟨rfl,c7⟩ := h8
      simp
      exact ⟨_,_,_,hr.symm,c7,SC.z (st := { kind := 8,table := n,wher := w }) rfl rfl rfl rfl rfl rfl rfl,by simp [b2]⟩
 rw [if_neg w6] at hr
 by_cases w7 : w = [98,101,103,105,110]
 ·rw [if_pos w7] at hr
  simp [-appendR,f21s,f26m,b0,b2,b16,w1,w2,w3,w4,w5,w6,w7,st0]
  exact ⟨_,_,_,hr.symm,h0.set hps _,SC.z0,by simp [b2]⟩
 rw [if_neg w7] at hr
 by_cases w8 : w = [99,111,109,109,105,116]
 ·rw [if_pos w8] at hr
  simp [-appendR,f21s,f26m,b0,b2,b16,w1,w2,w3,w4,w5,w6,w7,w8,st0]
  exact ⟨_,_,_,hr.symm,h0.set hps _,SC.z0,by simp [b2]⟩
 rw [if_neg w8] at hr
 by_cases w12 : w = [114,111,108,108,98,97,99,107]
 ·rw [if_pos w12] at hr
  simp [-appendR,f21s,f26m,b0,b2,b16,w1,w2,w3,w4,w5,w6,w7,w8,w12,st0]
  exact ⟨_,_,_,hr.symm,h0.set hps _,SC.z0,by simp [b2]⟩
 rw [if_neg w12] at hr
 simp [-appendR,f21s,f26m,b0,b2,b16,w1,w2,w3,w4,w5,w6,w7,w8,w12]
 refine (w27 130 _).use ?_
 rintro e S3 ⟨rfl,rfl⟩
 simp
 exact ⟨130,hr.symm,rfl,Kst.refl _ _ _⟩
end Go.Abs
namespace Go.Abs
open Go Go.RowKit Go.Proofs Go.Lx Go.Pz
variable {w0 : World}
def S21 (S : Heap) (pid : Nat) (r : ResS Stm) (e : AEnd) (S' : Heap) : Prop :=
 match r with
 | .ok (st,s) => ∃ c,e = .ret (.agg c) ∧ At S' pid s.l 0 s.d ∧ Kpt pid S S' ∧ SC S.length S' st c
 | .error c => e = .panic (trb c) ∧ Kpt pid S S'
theorem stmtS_eq {N : Nat} {s : Sta} {t : Tok} {r0 : List Tok} (hc : s.l = t :: r0) (hk : t.kind = 1) : stmtS resv N s = (if t.text = [99,114,101,97,116,101] then createS resv ⟨s.l.tail,s.d⟩
 else if t.text = [100,114,111,112] then dropS resv ⟨s.l.tail,s.d⟩
 else if t.text = [105,110,115,101,114,116] then insertS resv N ⟨s.l.tail,s.d⟩
 else if t.text = [115,101,108,101,99,116] then queryS resv N ⟨s.l.tail,s.d⟩
 else if t.text = [117,112,100,97,116,101] then updateS resv N ⟨s.l.tail,s.d⟩
 else if t.text = [100,101,108,101,116,101] then deleteS resv N ⟨s.l.tail,s.d⟩
 else if t.text = [98,101,103,105,110] then .ok ({ kind := 9 },⟨s.l.tail,s.d⟩)
 else if t.text = [99,111,109,109,105,116] then .ok ({ kind := 10 },⟨s.l.tail,s.d⟩)
 else if t.text = [114,111,108,108,98,97,99,107] then .ok ({ kind := 11 },⟨s.l.tail,s.d⟩)
 else .error 130) := by
 have hI : ∀ w,(isT 1 w s.l = true) = (t.text = w) := fun w => by
  rw [hc,isT_cons]
  simp [hk]
 rw [stmtS]
 simp only [hI]
theorem stmtS_no {N : Nat} {s : Sta} (h : ∀ w,isT 1 w s.l = false) : stmtS resv N s = .error 130 := by
 rw [stmtS]
 simp [h]
theorem Vk.k2 {M k : Nat} {S : Heap} {v : AVal} {es} {pid sid : Nat} {S' : Heap} (h : Vk M k S v es) (hk : Kst pid sid S S') (hp : pid < M) (hs : sid < M) : Vk M k S' v es := by
 rcases h with h | h
 ·exact .inl (h.kst hk hp hs)
 ·exact .inr h
theorem Vk.le {M M' k : Nat} {S : Heap} {v : AVal} {es} (h : Vk M k S v es) (hn : M' ≤ M) : Vk M' k S v es := by
 rcases h with h | h
 ·exact .inl (h.le hn)
 ·exact .inr h
theorem SC.k2 {M : Nat} {S S' : Heap} {st c} {pid sid : Nat} (h : SC M S st c) (hk : Kst pid sid S S') (hp : pid < M) (hs : sid < M) {M' : Nat} (hn : M' ≤ M) : SC M' S' st c := by
 obtain ⟨vC,vN,vR,vI,vF,vO,vS,rfl,h1,h2,h3,h4,h5,h6,h7⟩ := h
 exact ⟨vC,vN,vR,vI,vF,vO,vS,rfl,(h1.k2 hk hp hs).le hn,(h2.k2 hk hp hs).le hn,(h3.k2 hk hp hs).le hn,(h4.k2 hk hp hs).le hn,(h5.k2 hk hp hs).le hn,(h6.k2 hk hp hs).le hn,(h7.k2 hk hp hs).le hn⟩
set_option maxHeartbeats 8000000 in
theorem w26 {S : Heap} {pid N : Nat} {s : Sta} (ha : At S pid s.l 0 s.d) (hl : s.l.length < N) (hN : N ≤ 1000000) : ACalls Tryz.prog (B0 w0) 26 [.ptr pid 0 0] S (S21 S pid (stmtS resv N s)) := by
 obtain ⟨r,hr⟩ : ∃ r,stmtS resv N s = r := ⟨_,rfl⟩
 rw [hr]
 have hpl := ha.lt
 have hps : pid ≠ S.length := by omega
 refine fn_sound tryOrd (f26_c _) (by simp [f26]) ?_
 rw [f26,f26m,mwp_seq]
 simp [-appendR,-mwp_seq]
 rw [mwp_seq]
 simp [-appendR,-mwp_seq]
 refine (w78 (ha.more _)).use ?_
 rintro e S1 ⟨rfl,rfl⟩
 simp [-appendR,-mwp_seq,tokC]
 rw [mwp_seq]
 simp [-appendR,-mwp_seq,tokC]
 refine (w79 (ha.more _) _).use ?_
 rintro e S2 ⟨hsq2,h2⟩
 obtain ⟨T2,rfl,hst2⟩ := hsq2.split hpl
 clear hsq2
 have e2 := hst2.1
 generalize htx : (s.l.head?.getD zTok).text = tx at *
 have kk : Kpt pid S T2 := hst2.kpt
 by_cases hT : isT 1 tx s.l = true
 rotate_left 1
 ·have hT : isT 1 tx s.l = false := by simpa using hT
  rw [need_er hT] at h2
  obtain ⟨rfl,_⟩ := h2
  rw [stmtS_no] at hr
  ·simp
   subst hr
   exact And.intro rfl (kk.more _)
  ·intro w
   cases hc : s.l with
   | nil => rfl
   | cons t r0 =>
     rw [hc] at hT htx
     rw [isT_cons] at hT ⊢
     simp at htx
     subst htx
     simp at hT ⊢
     simp [hT]
 obtain ⟨t,r0,hc⟩ : ∃ t r0,s.l = t :: r0 := by
  cases hc : s.l with
  | nil => rw [hc] at hT; cases hT
  | cons t r0 => exact ⟨t,r0,rfl⟩
 have hk : t.kind = 1 := by
  rw [hc,isT_cons] at hT
  simp at hT
  exact hT.1
 have ht : tx = t.text := by rw [← htx,hc]; rfl
 have hlt := isT_len hT
 rw [stmtS_eq hc hk,← ht] at hr
 rw [need_ok hT] at h2
 obtain ⟨rfl,h2⟩ := h2
 obtain ⟨sl,sd⟩ := s
 simp only at hc
 subst hc
 simp only [List.head?_cons,Option.getD_some,List.tail_cons] at *
 simp only [hk] at h2 ⊢
 simp [-appendR,-mwp_seq,e2]
 rw [mwp_seq,mwp_seq]
 simp [-appendR,-mwp_seq,e2]
 rw [mwp_seq,mwp_seq]
 simp [-appendR,-mwp_seq,-mwp_block,e2]
 obtain ⟨T3,hT3⟩ : ∃ T3,T3 = T2 ++ [AObj.cells 18 [z18] (some 1),.cells 4 [[AVal.int 1,AVal.str tx,AVal.int t.num,AVal.int t.scale]] (some 1)] := ⟨_,rfl⟩
 have hps2 : pid ≠ T2.length := by omega
 have hC : CI T3 pid T2.length z18 ⟨r0,sd⟩ T3 := ⟨by rw [hT3]; exact (h2.less (by omega)).more _,by rw [hT3]; simp,Kst.refl _ _ _⟩
 have hT3l : T3.length = T2.length + 2 := by rw [hT3]; simp
 rw [← hT3]
 refine mwp_mono _ _ (fun _ _ _ _ _ hr h => h.mono hr) ?_ (w26s (w0 := w0) (N := N) (w := tx) (G := (B0 w0).G) hps2 hC (by simp only [List.length_cons] at *; omega) hN ?_ ?_ ?_ hr)
 rotate_left 1
 ·simp
 ·simp
 ·simp
 intro e a6 S6 hJ
 have hkk : ∀ {S6},Kst pid T2.length T3 S6 → Kpt pid S S6 := fun h => ⟨by have := h.1; omega,fun j hj j1 => by
  rw [h.2 j (by omega) j1 (by omega),hT3,List.getElem?_append_left (by omega),hst2.2 j j1]⟩
 cases e <;> first | exact hJ.elim | skip
 rotate_left 1
 ·obtain ⟨cde,rfl,rfl,hk⟩ := hJ
  simp
  exact And.intro rfl (hkk hk)
 obtain ⟨st,s',c,rfl,hc6,hsc,q2⟩ := hJ
 have hl6 := lt_of_some hc6.st
 obtain ⟨vC,vN,vR,vI,vF,vO,vS,rfl,g1,g2,g3,g4,g5,g6,g7⟩ := hsc
 obtain ⟨op,vv,kind,num,scale,text,qual,hx,o1,o2⟩ := exC_shape st.wher
 have st6 := hc6.st
 have hin : ∀ o,S6.set T2.length o = S6.set T2.length o := fun _ => rfl
 have hself := fun o => setSelf (S := S6) hl6 o
 rw [hx] at st6
 simp only [List.cons_append,List.nil_append] at st6
 have hsame : ∀ o,S6[T2.length]? = some o → S6.set T2.length o = S6 := fun o h => by
  refine List.ext_getElem? fun j => ?_
  by_cases hj : j = T2.length
  ·subst hj; rw [List.getElem?_set_self hl6,h]
  ·rw [List.getElem?_set_ne (Ne.symm hj)]
 have hs6 := hsame _ st6
 simp [-appendR,q2,st6,g1.one.1,g2.one.1,g3.one.1,g4.one.1,g5.one.1,g6.one.1,g7.one.1,o1,hs6]
 refine ⟨_,rfl,hc6.at_,hkk hc6.k2,vC,vN,vR,vI,vF,vO,vS,?_,g1.le (by omega),g2.le (by omega),g3.le (by omega),g4.le (by omega),g5.le (by omega),g6.le (by omega),g7.le (by omega)⟩
 rw [hx]; rfl
end Go.Abs
namespace Go.Abs
open Go Go.RowKit Go.Proofs Go.Lx Go.Pz
variable {w0 : World}
theorem toks_len : ∀ (n : Nat) (l : Bs) (s : List Tok),l.length ≤ n → toks l = .ok s → s.length ≤ l.length
 | n,[],s,_,h => by rw [toks_nil] at h; cases h; simp
 | 0,c :: r,s,hn,h => by simp at hn
 | n + 1,c :: r,s,hn,h => by
   by_cases hb : isB c = true
   ·rw [toks_blank hb] at h
    have := toks_len n r s (by simpa using hn) h
    simp; omega
   ·have hb : isB c = false := by simpa using hb
    cases ho : Lx.one (c :: r) with
    | error e => rw [toks_err hb ho] at h; cases h
    | ok y =>
      obtain ⟨tk,m⟩ := y
      rw [toks_tok hb ho] at h
      cases hr : toks (r.drop (m - 1)) with
      | error e => rw [hr] at h; cases h
      | ok s' =>
        rw [hr] at h
        cases h
        have := toks_len n _ s' (by simp at hn ⊢; omega) hr
        simp at this ⊢; omega
theorem tokens_len {l : Bs} {s : List Tok} (h : Lx.tokens l = .ok s) : s.length ≤ 4000 := by
 rw [Lx.tokens] at h
 split at h
 ·cases h
 ·have := toks_len _ l s (Nat.le_refl _) h
  omega
theorem w24g (l : Bs) (S : Heap) : ACalls Tryz.prog (B0 w0) 24 [.str l] S fun e S' => S' = S ∧ (match Lx.tokens l with
  | .ok ts => ∃ v,TkV v ts ∧ e = .ret (.tuple [v,.int 0])
  | .error n => n ≠ 0 ∧ e = .ret (.tuple [.nilS,.int n])) := by
 refine ACalls.close (w24 l S) ?_
 intro e S' h
 cases hres : Lx.tokens l with
 | error n =>
   rw [hres] at h
   cases h with
   | err _ he S' hl ht =>
     refine .flat (List.ext_getElem? fun j => ?_) rfl ⟨rfl,he,rfl⟩
     rcases Nat.lt_or_ge j S.length with hj | hj
     ·rw [List.getElem?_take_of_lt hj]; exact ht j hj
     ·rw [List.getElem?_eq_none (by simp; omega),List.getElem?_eq_none hj]
 | ok ts =>
   rw [hres] at h
   cases h with
   | ok _ u S' ho =>
     have htake : ∀ S'' : Heap,S.length ≤ S''.length → (∀ j,j < S.length → S''[j]? = S[j]?) → S''.take S.length = S := fun S'' hl ht => by
      refine List.ext_getElem? fun j => ?_
      rcases Nat.lt_or_ge j S.length with hj | hj
      ·rw [List.getElem?_take_of_lt hj]; exact ht j hj
      ·rw [List.getElem?_eq_none (by simp; omega),List.getElem?_eq_none hj]
     have hap := ho.ap 0 _ _ _ rfl
     generalize hes : toksV ts = es at *
     have hsc : ∀ n,scLL n es = true := fun n => hes ▸ toksV_sc ts n
     cases hap with
     | none fl hf =>
       refine .flat (htake _ ho.le ho.low) (by simp) ⟨rfl,.list fl [],⟨fl,by rw [hes],fun hne => ?_⟩,rfl⟩
       cases ts with
       | nil => exact absurd rfl hne
       | cons t r => simp [toksV] at hes
     | row id off len es0 cap hN hS hl =>
       refine .frz id 4 es0 cap hS ?_
       refine .flat (htake _ (by simpa using ho.le) fun j hj => ?_) ?_ ⟨rfl,.list .unk ((es0.drop off).take len),⟨.unk,by rw [hes],fun _ => by simp⟩,?_⟩
       ·rw [List.getElem?_set_ne (by omega)]; exact ho.low j hj
       ·simpa [hl] using hsc S.length
       ·simp [hl,hes]
def FC (st : Stm) (c : List AVal) : Prop := ∃ vC vN vR vI vF vO vS,c = [.int st.kind,.str st.table,.str st.index,vC,vN,.bool st.uniq,vR,vI,vF] ++ exC st.wher ++ [vO,vS] ∧
 (∃ fl,vC = .list fl (pcolsC st.cols)) ∧ (∃ fl,vN = .list fl (namesC st.names)) ∧ (∃ fl,vR = .list fl (rwsC st.rows)) ∧ (∃ fl,vI = .list fl (itmsC st.items)) ∧ (∃ fl,vF = .list fl (srcsC st.src)) ∧ (∃ fl,vO = .list fl (srtsC st.order)) ∧ (∃ fl,vS = .list fl (asnsC st.sets))
theorem Vk.fz {N k : Nat} {S : Heap} {v : AVal} {es} (h : Vk N k S v es) {id : Nat} {o : AObj} {es0 : List (List AVal)} {k0 : Nat} {cap : Option Nat} (hS : S[id]? = some (.cells k0 es0 cap)) (h0 : o = .dead) : Vk N k (S.set id o) (v.fz id es0) es := by
 rcases h with h | ⟨fl,rfl⟩
 ·cases h with
  | none fl hf => exact .inr ⟨fl,rfl⟩
  | row i off len es1 cap1 hN hS1 hl =>
    by_cases hi : i = id
    ·subst hi
     rw [hS] at hS1
     simp only [Option.some.injEq,AObj.cells.injEq] at hS1
     obtain ⟨rfl,rfl,rfl⟩ := hS1
     exact .inr ⟨.unk,by simp [hl]⟩
    ·left
     simp only [AVal.fz]
     rw [if_neg (fun h => hi h.1)]
     exact .row i off len es1 cap1 hN (by rw [List.getElem?_set_ne (Ne.symm hi)]; exact hS1) hl
 ·exact .inr ⟨fl,rfl⟩
theorem Closes.all {S : Heap} {R : AEnd → Heap → Prop} (F : List AVal → AEnd) (hF : ∀ id es vs,(F vs).fz id es = F (vs.map (AVal.fz id es))) :
  ∀ (n : Nat) (rest : List (Nat × AVal × List (List AVal))) (done : List (AVal × List (List AVal))) (S' : Heap),rest.length = n → S'.take S.length = S → (∀ x ∈ done,∃ fl,x.1 = .list fl x.2) → (∀ x ∈ rest,Vk S.length x.1 S' x.2.1 x.2.2) →
  (∀ vs : List AVal,vs.length = done.length + rest.length → (∀ i (h : i < (done.map (·.2) ++ rest.map (·.2.2)).length),∃ fl,vs.getD i .top = .list fl ((done.map (·.2) ++ rest.map (·.2.2))[i])) → (F vs).sc S.length = true ∧ R (F vs) S) →
  Closes S (F (done.map (·.1) ++ rest.map (·.2.1))) S' R
 | 0,[],done,S',hn,ht,hd,hr,hR => by
   obtain ⟨h1,h2⟩ := hR (done.map (·.1)) (by simp) fun i h => by
    have hi : i < done.length := by simpa using h
    obtain ⟨fl,e⟩ := hd done[i] (List.getElem_mem hi)
    exact ⟨fl,by simp [List.getD_eq_getElem?_getD,hi,e]⟩
   simpa using Closes.flat ht (by simpa using h1) (by simpa using h2)
 | n + 1,(k,v,es) :: rest,done,S',hn,ht,hd,hr,hR => by
   have next : ∀ (S'' : Heap) (rest' : List (Nat × AVal × List (List AVal))) (fl : Fl),S''.take S.length = S → (∀ x ∈ rest',Vk S.length x.1 S'' x.2.1 x.2.2) → rest'.map (·.2.2) = rest.map (·.2.2) →
     Closes S (F ((done.map (·.1)) ++ .list fl es :: rest'.map (·.2.1))) S'' R := fun S'' rest' fl ht' hr' he => by
    have hlen : rest'.length = rest.length := by simpa using congrArg List.length he
    have := Closes.all (S := S) (R := R) F hF n rest' (done ++ [(.list fl es,es)]) S'' (by simp at hn; omega) ht' (fun x hx => by
     simp only [List.mem_append,List.mem_singleton] at hx
     rcases hx with hx | rfl
     ·exact hd x hx
     ·exact ⟨fl,rfl⟩) hr' fun vs hvs h => hR vs (by simp at hvs ⊢; omega) fun i hi => by
      have e2 : (done ++ [(AVal.list fl es,es)]).map (·.2) ++ rest'.map (·.2.2) = done.map (·.2) ++ ((k,v,es) :: rest).map (·.2.2) := by simp [he]
      have := h i (by rw [e2]; exact hi)
      simpa [e2,he] using this
    simpa using this
   rcases hr (k,v,es) (by simp) with h | ⟨fl,e⟩
   ·simp only at h
    generalize hv : v = v' at h
    generalize hes : es = es' at h
    cases h with
    | none fl hf =>
      subst hv hes
      simpa using next S' rest fl ht (fun x hx => hr x (by simp [hx])) rfl
    | row id off len es1 cap1 hN hS1 hl =>
      subst hv
      refine .frz id k es1 cap1 hS1 ?_
      rw [hF]
      have e3 : ((done.map (·.1) ++ ((k,AVal.row id off len,es) :: rest).map (·.2.1)).map (AVal.fz id es1)) = done.map (·.1) ++ .list .unk es :: (rest.map fun x => (x.1,x.2.1.fz id es1,x.2.2)).map (·.2.1) := by
       simp only [List.map_append,List.map_cons,List.map_map]
       congr 1
       ·refine List.map_congr_left fun x hx => ?_
        obtain ⟨fl,e⟩ := hd x hx
        simp [e]
       ·congr 1
        simp [hl,hes]
      rw [← hes,e3]
      refine next (S'.set id .dead) (rest.map fun x => (x.1,x.2.1.fz id es1,x.2.2)) .unk ?_ ?_ (by simp)
      ·refine List.ext_getElem? fun j => ?_
       rcases Nat.lt_or_ge j S.length with hj | hj
       ·rw [List.getElem?_take_of_lt hj,List.getElem?_set_ne (by omega),← List.getElem?_take_of_lt hj,ht]
       ·rw [List.getElem?_eq_none (by simp; omega),List.getElem?_eq_none hj]
      ·intro x hx
       obtain ⟨y,hy,rfl⟩ := List.mem_map.1 hx
       exact (hr y (by simp [hy])).fz hS1 rfl
   ·simp only at e
    subst e
    simpa using next S' rest fl ht (fun x hx => hr x (by simp [hx])) rfl
end Go.Abs
namespace Go.Abs
open Go Go.RowKit Go.Proofs Go.Lx Go.Pz
variable {w0 : World}
theorem scLL_map {α : Type} {n : Nat} {f : α → List AVal} (h : ∀ x,scL n (f x) = true) : ∀ (l : List α),scLL n (l.map f) = true
 | [] => rfl
 | x :: r => by simp only [List.map_cons,scLL,Bool.and_eq_true]; exact ⟨h x,scLL_map h r⟩
theorem scL_app {n : Nat} : ∀ (a b : List AVal),scL n a = true → scL n b = true → scL n (a ++ b) = true
 | [],b,_,h => h
 | x :: r,b,h,h' => by
   simp only [List.cons_append,scL,Bool.and_eq_true] at h ⊢
   exact ⟨h.1,scL_app r b h.2 h'⟩
theorem exC_fz (id : Nat) (es : List (List AVal)) (x : Ex) : (exC x).map (AVal.fz id es) = exC x := by
 have := fzL_sc (n := 0) (id := id) (es := es) (Nat.zero_le _) _ (exC_sc 0 x)
 rwa [fzL_eq] at this
def F7 (st : Stm) : List AVal → AEnd
 | [vC,vN,vR,vI,vF,vO,vS] => .ret (.tuple [.agg ([.int st.kind,.str st.table,.str st.index,vC,vN,.bool st.uniq,vR,vI,vF] ++ exC st.wher ++ [vO,vS]),.int 0])
 | _ => .ret (.int 0)
theorem F7_fz (st : Stm) (id : Nat) (es : List (List AVal)) (vs : List AVal) : (F7 st vs).fz id es = F7 st (vs.map (AVal.fz id es)) := by
 match vs with
 | [] => rfl
 | [_] => rfl
 | [_,_] => rfl
 | [_,_,_] => rfl
 | [_,_,_,_] => rfl
 | [_,_,_,_,_] => rfl
 | [_,_,_,_,_,_] => rfl
 | [vC,vN,vR,vI,vF,vO,vS] =>
   simp only [F7,List.map_cons,List.map_nil,AEnd.fz,AVal.fz,fzL_eq,List.map_append,exC_fz]
 | _ :: _ :: _ :: _ :: _ :: _ :: _ :: _ :: _ => rfl
def PaR (S : Heap) (x : Bs) (e : AEnd) (S' : Heap) : Prop :=
 S' = S ∧ match Pz.parse resv x with
  | .ok st => ∃ c,e = .ret (.tuple [.agg c,.int 0]) ∧ FC st c
  | .error n => e = .ret (.tuple [.agg z18,.int n])
def Pa9 (S : Heap) (x : Bs) (e : AEnd) (S' : Heap) : Prop :=
 S'.take S.length = S ∧ match Pz.parse resv x with
  | .ok st => ∃ c,e = .ret (.tuple [.agg c,.int 0]) ∧ SC S.length S' st c
  | .error n => e = .ret (.tuple [.agg z18,.int n])
theorem pa9_close {S : Heap} {x : Bs} {e : AEnd} {S' : Heap} (h : Pa9 S x e S') : Closes S e S' (PaR S x) := by
 obtain ⟨ht,h⟩ := h
 cases hp : Pz.parse resv x with
 | error n =>
   rw [hp] at h
   simp only at h
   subst h
   exact .flat ht rfl ⟨rfl,by rw [hp]⟩
 | ok st =>
   rw [hp] at h
   obtain ⟨c,rfl,vC,vN,vR,vI,vF,vO,vS,rfl,h1,h2,h3,h4,h5,h6,h7⟩ := h
   have := Closes.all (S := S) (R := PaR S x) (F7 st) (F7_fz st) 7 [(3,vC,pcolsC st.cols),(1,vN,namesC st.names),(1,vR,rwsC st.rows),(8,vI,itmsC st.items),(9,vF,srcsC st.src),(8,vO,srtsC st.order),(8,vS,asnsC st.sets)] [] S' rfl ht
    (by simp) (by
     intro y hy
     simp only [List.mem_cons,List.mem_nil_iff,or_false] at hy
     rcases hy with rfl | rfl | rfl | rfl | rfl | rfl | rfl <;> assumption) (by
     intro vs hl hv
     match vs,hl with
     | [a,b,c,d,e,f,g],_ =>
       obtain ⟨f1,e1⟩ := hv 0 (by simp)
       obtain ⟨f2,e2⟩ := hv 1 (by simp)
       obtain ⟨f3,e3⟩ := hv 2 (by simp)
       obtain ⟨f4,e4⟩ := hv 3 (by simp)
       obtain ⟨f5,e5⟩ := hv 4 (by simp)
       obtain ⟨f6,e6⟩ := hv 5 (by simp)
       obtain ⟨f7,e7⟩ := hv 6 (by simp)
       simp at e1 e2 e3 e4 e5 e6 e7
       subst e1 e2 e3 e4 e5 e6 e7
       have s1 : scLL S.length (pcolsC st.cols) = true := scLL_map (fun x => by simp [pcolC,scL,AVal.sc]) _
       have s2 : scLL S.length (namesC st.names) = true := scLL_map (fun x => by simp [scL,AVal.sc]) _
       have s3 : scLL S.length (rwsC st.rows) = true := scLL_map (fun x => by
        have : scLL S.length (exlC x) = true := scLL_map (fun x => exC_sc _ x) _
        simp [scL,AVal.sc,this]) _
       have s4 : scLL S.length (itmsC st.items) = true := scLL_map (fun x => scL_app _ _ (exC_sc _ _) (by simp [scL,AVal.sc])) _
       have s5 : scLL S.length (srcsC st.src) = true := scLL_map (fun x => by simp [srcC,scL,AVal.sc]) _
       have s6 : scLL S.length (srtsC st.order) = true := scLL_map (fun x => scL_app _ _ (exC_sc _ _) (by simp [scL,AVal.sc])) _
       have s7 : scLL S.length (asnsC st.sets) = true := scLL_map (fun x => by simp [asnC,scL,AVal.sc]) _
       refine ⟨?_,rfl,?_⟩
       ·have : scL S.length ([.int st.kind,.str st.table,.str st.index,.list f1 (pcolsC st.cols),.list f2 (namesC st.names),.bool st.uniq,.list f3 (rwsC st.rows),.list f4 (itmsC st.items),.list f5 (srcsC st.src)] ++ exC st.wher ++ [.list f6 (srtsC st.order),.list f7 (asnsC st.sets)]) = true :=
         scL_app _ _ (scL_app _ _ (by simp [scL,AVal.sc,s1,s2,s3,s4,s5]) (exC_sc _ _)) (by simp [scL,AVal.sc,s6,s7])
        simp only [F7,AEnd.sc,AVal.sc,scL,this,Bool.and_self]
       ·rw [hp]
        exact ⟨_,rfl,_,_,_,_,_,_,_,rfl,⟨f1,rfl⟩,⟨f2,rfl⟩,⟨f3,rfl⟩,⟨f4,rfl⟩,⟨f5,rfl⟩,⟨f6,rfl⟩,⟨f7,rfl⟩⟩)
   exact this
end Go.Abs
namespace Go.Abs
open Go Go.RowKit Go.Proofs Go.Lx Go.Pz
variable {w0 : World}
theorem call25 : callable Tryz.prog 25 = true := by kernel_rfl
theorem d20p {x : Bs} {S H : Heap} {cd z : Int} {c : List AVal} {a : Tmps} {G : Nat → AVal} (hc : c.length = 18) (h1 : H[S.length]? = some (.cells 18 [c] (some 1))) (h2 : H[S.length + 1]? = some (.cells 1 [[.int z]] (some 1))) (ht : H.take S.length = S)
  (b2 : get a 2 = .ptr S.length 0 0) (b3 : get a 3 = .ptr (S.length + 1) 0 0) (hp : Pz.parse resv x = .error cd) :
  dPost Tryz.prog (B0 w0) [.cell 2 true 18,.cell 3 false 1] (f25 G) [.ptr S.length 0 0,.ptr (S.length + 1) 0 0] (Pa9 S x) (.panic (trb cd)) a H := by
 have l1 := lt_of_some h1
 have l2 := lt_of_some h2
 have n1 : S.length + 1 ≠ S.length := by omega
 have hg := hmoreG (S := H) l1
 have hg2 := hmoreG (S := H) l2
 have e1 : ∀ o o',(H ++ [o]).set S.length o' = H.set S.length o' ++ [o] := fun o o' => List.set_append_left _ _ l1
 have e2 : ∀ o o' o'',(H.set S.length o' ++ [o]).set (S.length + 1) o'' = (H.set S.length o').set (S.length + 1) o'' ++ [o] := fun o o' o'' => List.set_append_left _ _ (by simpa using l2)
 have e3 : ∀ o o',(H.set S.length o' ++ [o])[S.length + 1]? = some (.cells 1 [[.int z]] (some 1)) := fun o o' => by rw [List.getElem?_append_left (by simpa using l2),List.getElem?_set_ne (Ne.symm n1)]; exact h2
 have e4 : ∀ o o',(H.set S.length o' ++ [o])[H.length]? = some o := fun o o' => by rw [List.getElem?_append_right (by simp)]; simp
 have e5 : ∀ o o' o'',((H.set S.length o').set (S.length + 1) o'' ++ [o])[S.length]? = some o' := fun o o' o'' => by rw [List.getElem?_append_left (by simpa using l1),List.getElem?_set_ne n1,List.getElem?_set_self l1]
 have e6 : ∀ o o' o'',((H.set S.length o').set (S.length + 1) o'' ++ [o])[S.length + 1]? = some o'' := fun o o' o'' => by rw [List.getElem?_append_left (by simpa using l2),List.getElem?_set_self (by simpa using l2)]
 have e7 : ∀ o o' o'',((H.set S.length o').set (S.length + 1) o'' ++ [o]).take S.length = S := fun o o' o'' => by
  rw [List.take_append_of_le_length (by simp; omega),List.take_set_of_le (by omega),List.take_set_of_le (by omega),ht]
 simp only [dPost]
 unfold defWp
 simp [-appendR,f25,f25m,trb,h1,h2,hg,hg2,hc,e1,e2,e3,e4,e5,e6,b2,b3]
 refine ⟨e7 _ _ _,?_⟩
 rw [hp]
end Go.Abs
namespace Go.Abs
open Go Go.RowKit Go.Proofs Go.Lx Go.Pz
variable {w0 : World}
set_option maxHeartbeats 2000000 in
theorem w12 (x : Bs) (S : Heap) : ACalls Tryz.prog (B0 w0) 12 [.str x] S (PaR S x) := by
 refine ACalls.close (R := Pa9 S x) ?_ (fun e S' h => pa9_close h)
 refine fnD_sound tryOrd (f12_c _) (by simp [f12]) ?_
 simp [-appendR,f12,mwpL,f12p0,f12p1]
 refine (w24g x _).use ?_
 rintro e S1 ⟨rfl,h1⟩
 cases hT : Lx.tokens x with
 | error n =>
   rw [hT] at h1
   obtain ⟨hn,rfl⟩ := h1
   have hb : (n != 0) = true := by simp [hn]
   simp [-appendR,f12p2,hb,mwpL]
   refine ⟨by simp,?_⟩
   rw [Pz.parse,hT]
 | ok ts =>
   rw [hT] at h1
   obtain ⟨v,hv,rfl⟩ := h1
   have hlen := tokens_len hT
   have hpz : Pz.parse resv x = parseT resv ts := by rw [Pz.parse,hT]
   simp [-appendR,f12p2,mwpL,hv.one.1,hv.one.2.1]
   refine ⟨25,[],_,⟨rfl,rfl,rfl⟩,f25 _,f25_c _,by simp [f25],call25,?_⟩
   simp [-appendR,f12m,hv.one.1,hv.one.2.1]
   obtain ⟨H,hH⟩ : ∃ H,H = S ++ [AObj.cells 18 [z18] (some 1),.cells 1 [[.int 0]] (some 1),.cells 3 [[v,.int 0,.int 0]] (some 1)] := ⟨_,rfl⟩
   have hHl : H.length = S.length + 3 := by rw [hH]; simp
   have hat : At H (S.length + 2) ts 0 0 := ⟨_,by rw [hH,List.getElem?_append_right (by omega)]; simp,v,hv,rfl⟩
   rw [← hH]
   refine (w26 (N := ts.length + 1) (s := ⟨ts,0⟩) hat (Nat.lt_succ_self _) (by omega)).use ?_
   rintro e H2 h2
   have kept : Kpt (S.length + 2) H H2 → H2[S.length]? = some (.cells 18 [z18] (some 1)) ∧ H2[S.length + 1]? = some (.cells 1 [[.int 0]] (some 1)) ∧ H2.take S.length = S := fun hk => by
    refine ⟨?_,?_,?_⟩
    ·rw [hk.2 _ (by omega) (by omega),hH]; simp
    ·rw [hk.2 _ (by omega) (by omega),hH,List.getElem?_append_right (by omega)]; simp
    ·refine List.ext_getElem? fun j => ?_
     rcases Nat.lt_or_ge j S.length with hj | hj
     ·rw [List.getElem?_take_of_lt hj,hk.2 j (by omega) (by omega),hH,List.getElem?_append_left hj]
     ·rw [List.getElem?_eq_none (by simp; omega),List.getElem?_eq_none hj]
   cases hst : stmtS resv (ts.length + 1) ⟨ts,0⟩ with
   | error cd =>
     rw [hst] at h2
     obtain ⟨rfl,hk⟩ := h2
     obtain ⟨k1,k2,k3⟩ := kept hk
     simp
     exact d20p rfl k1 k2 k3 (by simp) (by simp) (by rw [hpz,parseT,hst])
   | ok y =>
     obtain ⟨st,s⟩ := y
     rw [hst] at h2
     obtain ⟨c,rfl,ha,hk,hsc⟩ := h2
     obtain ⟨k1,k2,k3⟩ := kept hk
     have hpt : Pz.parse resv x = if s.l ≠ [] then .error 130 else if 40 < s.d then .error 5 else .ok st := by rw [hpz,parseT,hst]
     have hsc0 := hsc
     obtain ⟨vC,vN,vR,vI,vF,vO,vS,rfl,g1,g2,g3,g4,g5,g6,g7⟩ := hsc
     obtain ⟨op,vv,kind,num,scale,text,qual,hx,o1,o2⟩ := exC_shape st.wher
     obtain ⟨v2,hv2,hat2⟩ := ha.get
     obtain ⟨c,hc⟩ : ∃ c : List AVal,c = [.int st.kind,.str st.table,.str st.index,vC,vN,.bool st.uniq,vR,vI,vF] ++ exC st.wher ++ [vO,vS] := ⟨_,rfl⟩
     have hc2 : c = [.int st.kind,.str st.table,.str st.index,vC,vN,.bool st.uniq,vR,vI,vF,.int op,vv,.int kind,.int num,.int scale,.str text,.str qual,vO,vS] := by rw [hc,hx]; rfl
     have hcl : c.length = 18 := by rw [hc2]; rfl
     have hco : c.all AVal.one = true := by rw [hc2]; simp [g1.one.1,g2.one.1,g3.one.1,g4.one.1,g5.one.1,g6.one.1,g7.one.1,o1]
     rw [← hc] at hsc0 ⊢
     clear hc hc2
     have l1 := lt_of_some k1
     have l2 := lt_of_some k2
     obtain ⟨H3,hH3⟩ : ∃ H3,H3 = H2.set S.length (.cells 18 [c] (some 1)) := ⟨_,rfl⟩
     have m1 : H3[S.length]? = some (.cells 18 [c] (some 1)) := by rw [hH3,List.getElem?_set_self l1]
     have m2 : H3[S.length + 1]? = some (.cells 1 [[.int 0]] (some 1)) := by rw [hH3,List.getElem?_set_ne (by omega)]; exact k2
     have m3 : H3.take S.length = S := by rw [hH3,List.take_set_of_le (by omega),k3]
     have m4 : H3[S.length + 2]? = some (.cells 3 [[v2,.int 0,.int s.d]] (some 1)) := by rw [hH3,List.getElem?_set_ne (by omega)]; exact hat2
     have hsc3 : SC S.length H3 st c := by
      have := hsc0.k2 (S' := H3) (pid := S.length + 2) (sid := S.length) (M' := H.length) ⟨by rw [hH3]; simp,fun j hj _ j2 => by rw [hH3,List.getElem?_set_ne (Ne.symm j2)]⟩ (by omega) (by omega) (Nat.le_refl _)
      exact this.k2 (pid := S.length + 2) (sid := S.length) (Kst.refl _ _ _) (by omega) (by omega) (by omega)
     have hll := fun S => hv2.lenR S
     simp [-appendR,k1,hcl,hco]
     rw [← hH3]
     simp [-appendR,hat2,m4,hll]
     have hex : ∀ {cd : Int} {a : Tmps},get a 2 = .ptr S.length 0 0 → get a 3 = .ptr (S.length + 1) 0 0 → Pz.parse resv x = .error cd → ACalls Tryz.prog (B0 w0) 27 [.int cd] H3 fun e S' => @afterE e S' ⟨fun _ _ => False⟩ ⟨fun v S' => dPost Tryz.prog (B0 w0) [.cell 2 true 18,.cell 3 false 1] (f25 fun x => AVal.top) [.ptr S.length 0 0,.ptr (S.length + 1) 0 0] (Pa9 S x) (.panic v) a S'⟩ := fun b2 b3 hp => by
      refine (w27 _ _).use ?_
      rintro e S3 ⟨rfl,rfl⟩
      simp only [afterE_panic]
      exact d20p hcl m1 m2 m3 b2 b3 hp
     cases hl : s.l with
     | cons t r =>
       rw [hl,if_pos (by simp)] at hpt
       have h0 : (0 : Int) < (r.length : Int) + 1 := by omega
       simp [h0]
       refine (w27 _ _).use ?_
       rintro e S3 ⟨rfl,rfl⟩
       simp
       exact d20p hcl m1 m2 m3 (by simp) (by simp) hpt
     | nil =>
       rw [hl,if_neg (by simp)] at hpt
       simp [-appendR,m4]
       by_cases hd : 40 < s.d
       ·rw [if_pos hd] at hpt
        have hd' : (40 : Int) < (s.d : Int) := by omega
        simp [hd']
        refine (w27 _ _).use ?_
        rintro e S3 ⟨rfl,rfl⟩
        simp
        exact d20p hcl m1 m2 m3 (by simp) (by simp) hpt
       ·rw [if_neg hd] at hpt
        have hd' : ¬ (40 : Int) < (s.d : Int) := by omega
        have l1' := lt_of_some m1
        have l2' := lt_of_some m2
        have q1 : H3.set S.length (.cells 18 [c] (some 1)) = H3 := by rw [hH3,List.set_set]
        have q2 : H3.set (S.length + 1) (.cells 1 [[.int 0]] (some 1)) = H3 := by
         refine List.ext_getElem? fun j => ?_
         by_cases hj : j = S.length + 1
         ·subst hj; rw [List.getElem?_set_self l2',m2]
         ·rw [List.getElem?_set_ne (Ne.symm hj)]
        simp [-appendR,hd',m1,m2,hcl,hco,q1,q2,dPost,defWp,f25,f25m]
        refine ⟨m3,?_⟩
        rw [hpt]
        exact ⟨c,rfl,hsc3⟩
end Go.Abs
namespace Go.Abs
open Go Go.RowKit Go.Proofs Go.Lx Go.Pz
variable {w0 : World}
def toksF : Nat → Bs → Except Int (List Tok)
 | 0,_ => .error 0
 | _ + 1,[] => .ok []
 | n + 1,c :: r => if isB c then toksF n r else
   match Lx.one (c :: r) with
   | .error e => .error e
   | .ok (t,m) => match toksF n (r.drop (m - 1)) with
     | .error e => .error e
     | .ok ts => .ok (t :: ts)
theorem toksF_eq : ∀ (n : Nat) (l : Bs),l.length < n → toksF n l = toks l
 | 0,l,h => by omega
 | n + 1,[],h => by rw [toks_nil]; rfl
 | n + 1,c :: r,h => by
   by_cases hb : isB c = true
   ·rw [toksF,if_pos hb,toks_blank hb]
    exact toksF_eq n r (by simpa using h)
   ·have hb : isB c = false := by simpa using hb
    rw [toksF,if_neg (by simp [hb])]
    cases ho : Lx.one (c :: r) with
    | error e => rw [toks_err hb ho]
    | ok y =>
      obtain ⟨tk,m⟩ := y
      simp only
      rw [toks_tok hb ho,toksF_eq n _ (by simp at h ⊢; omega)]
      cases toks (List.drop (m - 1) r) <;> rfl
def parseF (n : Nat) (x : Bs) : Except Int Stm := match toksF n x with
 | .error c => .error c
 | .ok ts => parseT resv ts
theorem parseF_eq {n : Nat} {x : Bs} (h : x.length < n) (h' : x.length ≤ 4000) : Pz.parse resv x = parseF n x := by
 rw [Pz.parse,Lx.tokens,if_neg (by omega),← toksF_eq n x h,parseF]
 cases toksF n x <;> rfl
end Go.Abs
namespace Go.Abs
open Go Go.RowKit Go.Proofs Go.Lx Go.Pz
variable {w0 : World}
abbrev TrueR (S : Heap) (e : AEnd) (S' : Heap) : Prop := e = .ret (.bool true) ∧ S' = S
theorem exsV_list (l : List Ex) : ∃ fl,exsV l = .list fl (exlC l) := by
 cases l with
 | nil => exact ⟨.nil,by rw [exsV]; rfl⟩
 | cons x r => exact ⟨.full,by rw [exsV,exsL_map]; rfl⟩
theorem li_addr {k i : Nat} {es : List (List AVal)} {c : List AVal} (hi : i < es.length) (hc : es.getD i [] = c) (hk : c.length = k) (fl : Fl) (S : Heap) : iaddrR k S (.list fl es) (.int i) = .ok true (.fptr es i 0) S := by
 have hk' : es[i].length = k := by rw [← hk,← hc,getD_eq _ _ _ hi]
 simp [hi,hk']
theorem li_load {k i : Nat} {es : List (List AVal)} {c : List AVal} (hi : i < es.length) (hc : es.getD i [] = c) (hk : c.length = k) (agg : Bool) (m off : Nat) (hm : off + m ≤ k) (S : Heap) : loadR agg m S (.fptr es i off) = .ok true (takeAt agg m c off) S := by
 have hk' : es[i].length = k := by rw [← hk,← hc,getD_eq _ _ _ hi]
 have hc' : es[i] = c := by rw [← hc,getD_eq _ _ _ hi]
 simp [hi,hk',hc',hm,hk]
def SaI (S : Heap) (l : List Ex) (v v' : AVal) (m : Nat) (a : Tmps) (S' : Heap) : Prop :=
 ∃ i : Nat,m = l.length - i ∧ i ≤ l.length ∧ S' = S ∧ get a 0 = v ∧ get a 1 = v' ∧ get a 5 = .int i
end Go.Abs
namespace Go.Abs
open Go Go.RowKit Go.Proofs Go.Lx Go.Pz
theorem wL_append (a b : List Ex) : wL (a ++ b) = wL a + wL b := by
 induction a with
 | nil => rw [List.nil_append,wL_nil]; omega
 | cons x r ih => rw [List.cons_append,wL_cons,wL_cons,ih]; omega
def wR : List (List Ex) → Nat
 | [] => 0
 | x :: r => wL x + 1 + wR r
theorem wR_append (a b : List (List Ex)) : wR (a ++ b) = wR a + wR b := by
 induction a with
 | nil => simp [wR]
 | cons x r ih => simp [wR,ih]; omega
theorem wR_len (a : List (List Ex)) : a.length ≤ wR a := by
 induction a with
 | nil => simp [wR]
 | cons x r ih => simp [wR]; omega
theorem wR_mem {x : List Ex} {l : List (List Ex)} (h : x ∈ l) : wL x + 1 ≤ wR l := by
 induction l with
 | nil => cases h
 | cons y r ih =>
   rw [wR]
   rcases List.mem_cons.1 h with rfl | h
   ·omega
   ·have := ih h; omega
theorem listF_w {α : Type} {V : α → Nat} {step : α → Sta → ResS α} {N : Nat} (hs : ∀ x s x' s',s.l.length ≤ N → step x s = .ok (x',s') → V x' + s'.l.length ≤ V x + s.l.length ∧ s'.l.length ≤ s.l.length) : ∀ (f : Nat) (x : α) (s : Sta) (x' : α) (s' : Sta),s.l.length ≤ N → listF step f x s = .ok (x',s') → V x' + s'.l.length ≤ V x + s.l.length ∧ s'.l.length ≤ s.l.length
 | 0,x,s,x',s',hl,h => hs x s x' s' hl h
 | f + 1,x,s,x',s',hl,h => by
   rw [listF] at h
   cases hF : step x s with
   | error c => rw [hF] at h; cases h
   | ok y =>
     obtain ⟨y,s1⟩ := y
     have h1 := hs _ _ _ _ hl hF
     rw [hF] at h
     simp only at h
     split at h
     ·split at h
      ·cases h
      ·have h2 := listF_w hs f y ⟨s1.l.tail,s1.d⟩ x' s' (by simp; omega) h
       simp only [List.length_tail] at h2
       omega
     ·simp only [Except.ok.injEq,Prod.mk.injEq] at h
      obtain ⟨rfl,rfl⟩ := h
      omega
theorem whole_w {N : Nat} {s s' : Sta} {x : Ex} (h : whole resv N s = .ok (x,s')) (hl : s.l.length ≤ N) : x.w + s'.l.length < s.l.length := by
 rw [whole] at h
 cases hF : Pz.either resv N 0 s.l with
 | error c => rw [hF] at h; cases h
 | ok y =>
   obtain ⟨y,l'⟩ := y
   have := either_good resv N 0 _ _ _ hl hF
   rw [hF] at h
   simp only [Except.ok.injEq,Prod.mk.injEq] at h
   obtain ⟨rfl,rfl⟩ := h
   simpa using this
theorem bindS_inv {α β : Type} {x : ResS α} {f : α → Sta → ResS β} {r : β × Sta} (h : bindS x f = .ok r) : ∃ a s,x = .ok (a,s) ∧ f a s = .ok r := by
 cases x with
 | error c => cases h
 | ok y => obtain ⟨a,s⟩ := y; exact ⟨a,s,rfl,h⟩
theorem thenS_inv {β : Type} {x : Except Int Sta} {f : Sta → ResS β} {r : β × Sta} (h : thenS x f = .ok r) : ∃ s,x = .ok s ∧ f s = .ok r := by
 cases x with
 | error c => cases h
 | ok s => exact ⟨s,rfl,h⟩
theorem needS_inv {k : Int} {w : Bs} {s s' : Sta} (h : needS k w s = .ok s') : s'.l.length < s.l.length := by
 rw [needS] at h
 split at h
 ·rename_i hh
  have := isT_len hh
  cases h
  simp only; omega
 ·cases h
theorem aliasS_inv {s s' : Sta} {x : Bs} (h : aliasS resv s = .ok (x,s')) : s'.l.length ≤ s.l.length := by
 rw [aliasS] at h
 split at h
 ·rename_i hh
  have := isT_len hh
  have := nameS_len h
  simp only at this; omega
 ·cases h; exact Nat.le_refl _
theorem whereS_w {N : Nat} {s s' : Sta} {x : Ex} (h : whereS resv N s = .ok (x,s')) (hl : s.l.length ≤ N) : x.w + s'.l.length ≤ s.l.length := by
 rw [whereS] at h
 split at h
 ·rename_i hh
  have := isT_len hh
  have := whole_w h (by simp only; omega)
  simp only at this; omega
 ·cases h
  simp [Ex.zero,w_mk,wL_nil]
structure StB (n : Nat) (st : Stm) : Prop where
 cols : st.cols.length ≤ n
 names : st.names.length ≤ n
 rows : wR st.rows ≤ n
 items : wL (st.items.map (·.e)) ≤ n
 src : wL (st.src.map (·.on)) ≤ n
 wher : st.wher.w ≤ n
 order : wL (st.order.map (·.e)) ≤ n
 sets : wL (st.sets.map (·.e)) ≤ n
theorem StB.zero (n : Nat) : StB n {} := by constructor <;> simp [wR,wL_nil,Ex.zero,w_mk]
section
variable {N : Nat} {s s' : Sta}
theorem createS_b {st : Stm} (h : createS resv s = .ok (st,s')) : StB s.l.length st := by
 rw [createS] at h
 split at h
 ·rename_i hh
  have h0 := isT_len hh
  obtain ⟨n,s1,h1,h⟩ := bindS_inv h
  obtain ⟨s2,h2,h⟩ := thenS_inv h
  obtain ⟨cs,s3,h3,h⟩ := bindS_inv h
  obtain ⟨s4,h4,h⟩ := thenS_inv h
  cases h
  have := nameS_len h1
  have := needS_inv h2
  have := (listF_w (V := List.length) (N := s2.l.length) (fun x s x' s' _ h => by
   have hw := h
   obtain ⟨c,s5,h5,h⟩ := bindS_inv h
   obtain ⟨nn,s6,h6,h5⟩ := bindS_inv (show (bindS (nameS resv s) _) = _ from h5)
   have := nameS_len h6
   have hc := colS_step hw
   cases h
   obtain ⟨t,s7,h7,h5⟩ := bindS_inv h5
   have ht : s7.l.length ≤ s6.l.length := by
    rw [typeS] at h7
    split at h7
    ·cases h7; simp
    split at h7
    ·cases h7; simp
    split at h7
    ·cases h7; simp
    split at h7
    ·cases h7; simp
    ·cases h7
   have hs : s'.l.length ≤ s7.l.length := by
    split at h5
    ·obtain ⟨s8,h8,h5⟩ := thenS_inv h5
     have := needS_inv h8
     cases h5
     simp only [List.length_tail] at this; omega
    ·cases h5; exact Nat.le_refl _
   simp
   omega) 16 [] s2 cs s3 (Nat.le_refl _) h3).1
  simp only [List.length_tail] at *
  constructor <;> simp [wR,wL_nil,Ex.zero,w_mk] at * <;> omega
 ·simp only at h
  obtain ⟨s1,h1,h⟩ := thenS_inv h
  obtain ⟨i,s2,h2,h⟩ := bindS_inv h
  obtain ⟨s3,h3,h⟩ := thenS_inv h
  obtain ⟨n,s4,h4,h⟩ := bindS_inv h
  obtain ⟨s5,h5,h⟩ := thenS_inv h
  obtain ⟨ns,s6,h6,h⟩ := bindS_inv h
  obtain ⟨s7,h7,h⟩ := thenS_inv h
  cases h
  have a1 := needS_inv h1
  have := nameS_len h2
  have := needS_inv h3
  have := nameS_len h4
  have := needS_inv h5
  have := (listF_w (V := List.length) (N := s5.l.length) (fun x s x' s' _ h => by
   obtain ⟨c,s5,h5,h⟩ := bindS_inv h
   have := nameS_len h5
   cases h
   simp; omega) 4 [] s5 ns s6 (Nat.le_refl _) h6).1
  have hle : (if isT 1 [117,110,105,113,117,101] s.l = true then (⟨s.l.tail,s.d⟩ : Sta) else s).l.length ≤ s.l.length := by split <;> simp
  constructor <;> simp [wR,wL_nil,Ex.zero,w_mk] at * <;> omega
theorem insertS_b {st : Stm} (hl : s.l.length ≤ N) (h : insertS resv N s = .ok (st,s')) : StB s.l.length st := by
 rw [insertS] at h
 obtain ⟨s1,h1,h⟩ := thenS_inv h
 obtain ⟨n,s2,h2,h⟩ := bindS_inv h
 obtain ⟨s3,h3,h⟩ := thenS_inv h
 obtain ⟨rs,s4,h4,h⟩ := bindS_inv h
 cases h
 have := needS_inv h1
 have := nameS_len h2
 have := needS_inv h3
 have := (listF_w (V := wR) (N := N) (fun x s x' s' hl h => by
  rw [rowS] at h
  obtain ⟨s5,h5,h⟩ := thenS_inv h
  obtain ⟨xs,s6,h6,h⟩ := bindS_inv h
  obtain ⟨s7,h7,h⟩ := thenS_inv h
  cases h
  have := needS_inv h5
  have := needS_inv h7
  have := (listF_w (V := wL) (N := N) (fun x s x' s' hl h => by
   rw [exprsS] at h
   obtain ⟨y,s8,h8,h⟩ := bindS_inv h
   cases h
   have := whole_w h8 hl
   rw [wL_append,wL_cons,wL_nil]
   omega) 50 [] s5 xs s6 (by omega) h6).1
  rw [wL_nil] at this
  rw [wR_append]
  simp only [wR]
  omega) 50 [] s3 rs s' (by omega) h4).1
 constructor <;> simp [wR,wL_nil,Ex.zero,w_mk] at * <;> omega
theorem updateS_b {st : Stm} (hl : s.l.length ≤ N) (h : updateS resv N s = .ok (st,s')) : StB s.l.length st := by
 rw [updateS] at h
 obtain ⟨n,s1,h1,h⟩ := bindS_inv h
 obtain ⟨s2,h2,h⟩ := thenS_inv h
 obtain ⟨xs0,s3,h3,h⟩ := bindS_inv h
 obtain ⟨w,s4,h4,h⟩ := bindS_inv h
 cases h
 have := nameS_len h1
 have := needS_inv h2
 have hL := listF_w (V := fun xs : List Asn => wL (xs.map (·.e))) (N := N) (fun x s x' s' hl h => by
  rw [setS] at h
  obtain ⟨n,s5,h5,h⟩ := bindS_inv h
  obtain ⟨s6,h6,h⟩ := thenS_inv h
  obtain ⟨y,s7,h7,h⟩ := bindS_inv h
  cases h
  have := nameS_len h5
  have := needS_inv h6
  have := whole_w h7 (by omega)
  rw [List.map_append,wL_append,List.map_cons,List.map_nil,wL_cons,wL_nil]
  try dsimp only
  omega) 50 [] s2 xs0 s3 (by omega) h3
 have := whereS_w h4 (by omega)
 simp only [List.map_nil,wL_nil] at hL
 constructor <;> simp [wR,wL_nil] <;> omega
theorem queryS_b {st : Stm} (hl : s.l.length ≤ N) (h : queryS resv N s = .ok (st,s')) : StB s.l.length st := by
 rw [queryS] at h
 obtain ⟨is,s1,h1,h⟩ := bindS_inv h
 obtain ⟨s2,h2,h⟩ := thenS_inv h
 obtain ⟨x,s3,h3,h⟩ := bindS_inv h
 obtain ⟨fs,s4,h4,h⟩ := bindS_inv h
 obtain ⟨w,s5,h5,h⟩ := bindS_inv h
 obtain ⟨os,s6,h6,h⟩ := bindS_inv h
 cases h
 have b1 : wL (is.map (·.e)) + s1.l.length ≤ s.l.length := by
  rw [itemsS] at h1
  split at h1
  ·cases h1
   simp [wL_nil]
  ·have := (listF_w (V := fun xs : List Itm => wL (xs.map (·.e))) (N := N) (fun x s x' s' hl h => by
    rw [itemS] at h
    obtain ⟨y,s7,h7,h⟩ := bindS_inv h
    obtain ⟨n,s8,h8,h⟩ := bindS_inv h
    cases h
    have := whole_w h7 hl
    have := aliasS_inv h8
    rw [List.map_append,wL_append,List.map_cons,List.map_nil,wL_cons,wL_nil]
    try dsimp only
    omega) 50 [] s is s1 hl h1).1
   simpa [wL_nil] using this
 have := needS_inv h2
 have b3 : s3.l.length < s2.l.length ∧ x.on = .zero := (sourceS_on h3).symm
 have b4 : ∀ (f : Nat) (xs : List Src) (s : Sta) (fs : List Src) (s' : Sta),s.l.length ≤ N → joinsS resv N f xs s = .ok (fs,s') → wL (fs.map (·.on)) + s'.l.length ≤ wL (xs.map (·.on)) + s.l.length := by
  intro f
  induction f with
  | zero =>
    intro xs s fs s' hl h
    rw [joinsS] at h
    split at h
    ·cases h
    ·cases h; exact Nat.le_refl _
  | succ f ih =>
    intro xs s fs s' hl h
    rw [joinsS] at h
    split at h
    ·try simp only at h
     obtain ⟨s7,h7,h⟩ := thenS_inv h
     obtain ⟨y,s8,h8,h⟩ := bindS_inv h
     obtain ⟨s9,h9,h⟩ := thenS_inv h
     obtain ⟨o,s10,h10,h⟩ := bindS_inv h
     have a7 := needS_inv h7
     have hle : (if isT 1 [105,110,110,101,114] s.l = true then (⟨s.l.tail,s.d⟩ : Sta) else s).l.length ≤ s.l.length := by split <;> simp
     have := (sourceS_on h8).2
     have := needS_inv h9
     have := whole_w h10 (by omega)
     have := ih _ _ _ _ (by omega) h
     rw [List.map_append,wL_append,List.map_cons,List.map_nil,wL_cons,wL_nil] at this
     dsimp only at this
     omega
    ·cases h; exact Nat.le_refl _
 have b5 := b4 3 [x] s3 fs s4 (by omega) h4
 simp only [List.map_cons,List.map_nil,wL_cons,wL_nil,b3.2,Ex.zero,w_mk] at b5
 have b6 := whereS_w h5 (by omega)
 have b7 : wL (os.map (·.e)) + s'.l.length ≤ s5.l.length := by
  rw [orderS] at h6
  split at h6
  ·rename_i hh
   have := isT_len hh
   obtain ⟨s7,h7,h6⟩ := thenS_inv h6
   have := needS_inv h7
   simp only at this
   have := (listF_w (V := fun xs : List Srt => wL (xs.map (·.e))) (N := N) (fun x s x' s' hl h => by
    rw [sortS] at h
    obtain ⟨y,s8,h8,h⟩ := bindS_inv h
    cases h
    have := whole_w h8 hl
    have hle : (if isT 1 [100,101,115,99] s8.l = true then (⟨s8.l.tail,s8.d⟩ : Sta) else s8).l.length ≤ s8.l.length := by split <;> simp
    rw [List.map_append,wL_append,List.map_cons,List.map_nil,wL_cons,wL_nil]
    try dsimp only
    omega) 50 [] s7 os s' (by omega) h6).1
   simp only [List.map_nil,wL_nil] at this
   omega
  ·cases h6; simp [wL_nil]
 constructor <;> simp [wR,wL_nil] <;> omega
theorem stmtS_b {st : Stm} (hl : s.l.length ≤ N) (h : stmtS resv N s = .ok (st,s')) : StB s.l.length st := by
 have up : ∀ {n m : Nat} {st},StB n st → n ≤ m → StB m st := fun h hm => ⟨by have := h.cols; omega,by have := h.names; omega,by have := h.rows; omega,by have := h.items; omega,by have := h.src; omega,by have := h.wher; omega,by have := h.order; omega,by have := h.sets; omega⟩
 rw [stmtS] at h
 split at h
 ·exact up (createS_b h) (by simp)
 split at h
 ·rw [dropS] at h
  split at h
  ·obtain ⟨n,s1,h1,h⟩ := bindS_inv h
   cases h
   constructor <;> simp [wR,wL_nil,Ex.zero,w_mk]
  ·obtain ⟨s1,h1,h⟩ := thenS_inv h
   obtain ⟨n,s2,h2,h⟩ := bindS_inv h
   cases h
   constructor <;> simp [wR,wL_nil,Ex.zero,w_mk]
 split at h
 ·exact up (insertS_b (by simp only [List.length_tail]; omega) h) (by simp)
 split at h
 ·exact up (queryS_b (by simp only [List.length_tail]; omega) h) (by simp)
 split at h
 ·exact up (updateS_b (by simp only [List.length_tail]; omega) h) (by simp)
 split at h
 ·rw [deleteS] at h
  obtain ⟨s1,h1,h⟩ := thenS_inv h
  obtain ⟨n,s2,h2,h⟩ := bindS_inv h
  obtain ⟨w,s3,h3,h⟩ := bindS_inv h
  cases h
  have hlt9 : s1.l.length < s.l.length := by
   have := needS_inv h1
   simp only [List.length_tail] at this
   omega
  have := nameS_len h2
  have := whereS_w h3 (by omega)
  constructor <;> simp [wR,wL_nil] <;> omega
 split at h
 ·cases h; constructor <;> simp [wR,wL_nil,Ex.zero,w_mk]
 split at h
 ·cases h; constructor <;> simp [wR,wL_nil,Ex.zero,w_mk]
 split at h
 ·cases h; constructor <;> simp [wR,wL_nil,Ex.zero,w_mk]
 ·cases h
end
theorem parse_b {x : Bs} {st : Stm} (h : Pz.parse resv x = .ok st) : StB 4000 st := by
 rw [Pz.parse] at h
 cases hT : Lx.tokens x with
 | error n => rw [hT] at h; cases h
 | ok ts =>
   rw [hT] at h
   simp only at h
   have hl := tokens_len hT
   rw [parseT] at h
   cases hs : stmtS resv (ts.length + 1) ⟨ts,0⟩ with
   | error c => rw [hs] at h; cases h
   | ok y =>
     obtain ⟨st',s⟩ := y
     rw [hs] at h
     simp only at h
     have hb := stmtS_b (N := ts.length + 1) (by simp) hs
     split at h
     ·cases h
     split at h
     ·cases h
     ·cases h
      exact ⟨by have := hb.cols; simp only at this; omega,by have := hb.names; simp only at this; omega,by have := hb.rows; simp only at this; omega,by have := hb.items; simp only at this; omega,by have := hb.src; simp only at this; omega,by have := hb.wher; simp only at this; omega,by have := hb.order; simp only at this; omega,by have := hb.sets; simp only at this; omega⟩
end Go.Abs
namespace Go.Abs
open Go Go.RowKit Go.Proofs Go.Lx Go.Pz
variable {w0 : World}
def LpI (H : Heap) (n slot p2 p3 : Nat) (m : Nat) (a : Tmps) (S' : Heap) : Prop :=
 ∃ i : Nat,m = n - i ∧ i ≤ n ∧ S' = H ∧ get a 2 = .ptr p2 0 0 ∧ get a 3 = .ptr p3 0 0 ∧ get a slot = .int i
def LpQ (H : Heap) (p2 p3 : Nat) : AExit → Tmps → Heap → Prop
 | .normal,a,S' => S' = H ∧ get a 2 = .ptr p2 0 0 ∧ get a 3 = .ptr p3 0 0
 | _,_,_ => False
section
variable {H : Heap} {p2 p3 : Nat} {fl fl' : Fl} {a : Tmps}
theorem two_elem {k i : Nat} {es : List (List AVal)} {c : List AVal} (hi : i < es.length) (hc : es.getD i [] = c) (hk : c.length = k) (fl : Fl) :
  ∃ p,iaddrR k H (.list fl es) (.int i) = .ok true p H ∧ (∀ agg m,m ≤ k → loadR agg m H p = .ok true (takeAt agg m c 0) H) ∧
  ∀ off,∃ p',addOff off H p = .ok true p' H ∧ ∀ agg m,off + m ≤ k → loadR agg m H p' = .ok true (takeAt agg m c off) H := by
 have := (Rk.list (k := k) (S := H) fl es).elem hi (by rw [hc]; exact hk)
 rwa [hc] at this
set_option maxHeartbeats 1000000 in
theorem lp11a {os : List Pz.Col} (hol : os.length ≤ 4000) (l2 : loadR false 1 H (.ptr p2 0 3) = .ok true (.list fl (pcolsC os)) H) (l3 : loadR false 1 H (.ptr p3 0 3) = .ok true (.list fl' (pcolsC os)) H) {G : Nat → AVal} (b2 : get a 2 = .ptr p2 0 0) (b3 : get a 3 = .ptr p3 0 0) (b5 : get a 5 = .int 0) :
  mwp (ACalls Tryz.prog (B0 w0)) (.block 0 (.loop (f13b0 G))) (LpQ H p2 p3) a H := by
 simp only [mwp_block]
 refine mwp_loop (I := LpI H os.length 5 p2 p3) ⟨0,rfl,Nat.zero_le _,rfl,b2,b3,b5⟩ ?_
 clear b2 b3 b5
 rintro m a S' ⟨i,rfl,hi,rfl,b2,b3,b5⟩
 by_cases hlt : i < os.length
 ·have hltI : (i : Int) < (os.length : Int) := by omega
  have hg : (pcolsC os).getD i [] = pcolC os[i] := by rw [getD_eq _ _ _ (by simpa using hlt)]; simp [pcolsC]
  obtain ⟨p,q1,q2,q3⟩ := two_elem (H := S') (by simpa using hlt) hg (k := 3) (by simp [pcolC]) fl
  obtain ⟨p',r1,r2,r3⟩ := two_elem (H := S') (by simpa using hlt) hg (k := 3) (by simp [pcolC]) fl'
  have hw := wrapS i (by omega)
  generalize os[i] = y at *
  have t1 : takeAt true 3 (pcolC y) 0 = .agg [.str y.name,.int y.type,.bool y.req] := by simp [pcolC,takeAt]
  have q8 := q2 true 3 (by omega)
  have r8 := r2 true 3 (by omega)
  rw [t1] at q8 r8
  simp [f13b0,b2,b3,b5,l2,l3,hltI,q1,r1,q8,r8,hw]
  exact ⟨os.length - (i + 1),by omega,i + 1,rfl,by omega,rfl,by simp [b2],by simp [b3],by simp⟩
 ·have hie : i = os.length := by omega
  subst hie
  simp [f13b0,b2,b3,b5,l2]
  exact ⟨rfl,by simp [b2],by simp [b3]⟩
set_option maxHeartbeats 1000000 in
theorem lp11b {os : List Bs} (hol : os.length ≤ 4000) (l2 : loadR false 1 H (.ptr p2 0 4) = .ok true (.list fl (namesC os)) H) (l3 : loadR false 1 H (.ptr p3 0 4) = .ok true (.list fl' (namesC os)) H) {G : Nat → AVal} (b2 : get a 2 = .ptr p2 0 0) (b3 : get a 3 = .ptr p3 0 0) (b5 : get a 6 = .int 0) :
  mwp (ACalls Tryz.prog (B0 w0)) (.block 2 (.loop (f13b1 G))) (LpQ H p2 p3) a H := by
 simp only [mwp_block]
 refine mwp_loop (I := LpI H os.length 6 p2 p3) ⟨0,rfl,Nat.zero_le _,rfl,b2,b3,b5⟩ ?_
 clear b2 b3 b5
 rintro m a S' ⟨i,rfl,hi,rfl,b2,b3,b5⟩
 by_cases hlt : i < os.length
 ·have hltI : (i : Int) < (os.length : Int) := by omega
  have hg : (namesC os).getD i [] = [.str os[i]] := by rw [getD_eq _ _ _ (by simpa using hlt)]; simp [namesC]
  obtain ⟨p,q1,q2,q3⟩ := two_elem (H := S') (by simpa using hlt) hg (k := 1) (by simp) fl
  obtain ⟨p',r1,r2,r3⟩ := two_elem (H := S') (by simpa using hlt) hg (k := 1) (by simp) fl'
  have hw := wrapS i (by omega)
  generalize os[i] = y at *
  have t1 : takeAt false 1 [.str y] 0 = .str y := by simp [takeAt]
  have q8 := q2 false 1 (by omega)
  have r8 := r2 false 1 (by omega)
  rw [t1] at q8 r8
  simp [f13b1,b2,b3,b5,l2,l3,hltI,q1,r1,q8,r8,hw]
  exact ⟨os.length - (i + 1),by omega,i + 1,rfl,by omega,rfl,by simp [b2],by simp [b3],by simp⟩
 ·have hie : i = os.length := by omega
  subst hie
  simp [f13b1,b2,b3,b5,l2]
  exact ⟨rfl,by simp [b2],by simp [b3]⟩
end
end Go.Abs
namespace Go.Abs
open Go Go.RowKit Go.Proofs Go.Lx Go.Pz
variable {w0 : World}
theorem setNext {H : Heap} {p2 p3 : Nat} {a : Tmps} {S' : Heap} (h : LpQ H p2 p3 .normal a S') : S' = H ∧ get a 2 = .ptr p2 0 0 ∧ get a 3 = .ptr p3 0 0 := h
end Go.Abs
namespace Go.Abs
open Go Go.RowKit Go.Proofs Go.Lx Go.Pz
variable {w0 : World}
end Go.Abs
namespace Go.Abs
open Go Go.RowKit Go.Proofs Go.Lx Go.Pz
variable {w0 : World}
theorem FC.zero : FC {} z18 := ⟨.nilS,.nilS,.nilS,.nilS,.nilS,.nilS,.nilS,by rw [exC_zero]; rfl,⟨.nil,rfl⟩,⟨.nil,rfl⟩,⟨.nil,rfl⟩,⟨.nil,rfl⟩,⟨.nil,rfl⟩,⟨.nil,rfl⟩,⟨.nil,rfl⟩⟩
theorem FC.len {st c} (h : FC st c) : c.length = 18 ∧ c.all AVal.one = true := by
 obtain ⟨vC,vN,vR,vI,vF,vO,vS,rfl,⟨f1,rfl⟩,⟨f2,rfl⟩,⟨f3,rfl⟩,⟨f4,rfl⟩,⟨f5,rfl⟩,⟨f6,rfl⟩,⟨f7,rfl⟩⟩ := h
 exact ⟨by simp,by simp⟩
def stOf : Except Int Stm → Stm
 | .ok st => st
 | .error _ => {}
def cdOf : Except Int Stm → Int
 | .ok _ => 0
 | .error n => n
theorem PaR.two {S : Heap} {x : Bs} {e : AEnd} {S' : Heap} (h : PaR S x e S') : S' = S ∧ ∃ c,e = .ret (.tuple [.agg c,.int (cdOf (Pz.parse resv x))]) ∧ FC (stOf (Pz.parse resv x)) c ∧ StB 4000 (stOf (Pz.parse resv x)) := by
 obtain ⟨rfl,h⟩ := h
 refine ⟨rfl,?_⟩
 cases hp : Pz.parse resv x with
 | error n =>
   rw [hp] at h
   exact ⟨z18,h,FC.zero,StB.zero _⟩
 | ok st =>
   rw [hp] at h
   obtain ⟨c,h1,h2⟩ := h
   exact ⟨c,h1,h2,parse_b hp⟩
end Go.Abs
namespace Go.Abs
open Go Go.RowKit Go.Proofs Go.Lx Go.Pz
variable {w0 : World}
mutual
def ExV : Ex → List AVal → Prop
 | .mk op args kind num scale text qual,av => ∃ fl es,av = [.int op,.list fl es,.int kind,.int num,.int scale,.str text,.str qual] ∧ ExsV args es
def ExsV : List Ex → List (List AVal) → Prop
 | [],es => es = []
 | x :: r,es => ∃ e es',es = e :: es' ∧ ExV x e ∧ ExsV r es'
end
theorem ExV_mk {op : Int} {args : List Ex} {kind num scale : Int} {text qual : Bs} {av : List AVal} : ExV (.mk op args kind num scale text qual) av ↔ ∃ fl es,av = [.int op,.list fl es,.int kind,.int num,.int scale,.str text,.str qual] ∧ ExsV args es := by rw [ExV]
theorem ExsV_nil {es : List (List AVal)} : ExsV [] es ↔ es = [] := by rw [ExsV]
theorem ExsV_cons {x : Ex} {r : List Ex} {es : List (List AVal)} : ExsV (x :: r) es ↔ ∃ e es',es = e :: es' ∧ ExV x e ∧ ExsV r es' := by rw [ExsV]
theorem ExsV_len : ∀ {l : List Ex} {es : List (List AVal)},ExsV l es → es.length = l.length
 | [],es,h => by rw [ExsV_nil] at h; subst h; rfl
 | x :: r,es,h => by
   rw [ExsV_cons] at h
   obtain ⟨e,es',rfl,_,h2⟩ := h
   simp [ExsV_len h2]
theorem ExsV_get : ∀ {l : List Ex} {es : List (List AVal)},ExsV l es → ∀ i (h : i < l.length),ExV l[i] (es.getD i [])
 | [],es,h,i,hi => by simp at hi
 | x :: r,es,h,i,hi => by
   rw [ExsV_cons] at h
   obtain ⟨e,es',rfl,h1,h2⟩ := h
   cases i with
   | zero => simpa using h1
   | succ i => simpa using ExsV_get h2 i (by simpa using hi)
theorem ExsV_of : ∀ {l : List Ex} {es : List (List AVal)},es.length = l.length → (∀ i (h : i < l.length),ExV l[i] (es.getD i [])) → ExsV l es
 | [],es,h,_ => by rw [ExsV_nil]; exact List.eq_nil_of_length_eq_zero h
 | x :: r,[],h,_ => by simp at h
 | x :: r,e :: es,h,hg => by
   rw [ExsV_cons]
   exact ⟨e,es,rfl,hg 0 (by simp),ExsV_of (by simpa using h) fun i hi => hg (i + 1) (by simpa using hi)⟩
theorem ExV_len {x : Ex} {av : List AVal} (h : ExV x av) : av.length = 7 := by
 obtain ⟨op,args,kind,num,scale,text,qual⟩ := x
 rw [ExV_mk] at h
 obtain ⟨fl,es,rfl,_⟩ := h
 rfl
theorem ExV_one {x : Ex} {av : List AVal} (h : ExV x av) : av.all AVal.one = true := by
 obtain ⟨op,args,kind,num,scale,text,qual⟩ := x
 rw [ExV_mk] at h
 obtain ⟨fl,es,rfl,_⟩ := h
 simp
theorem szLL_mem : ∀ {es : List (List AVal)} {i : Nat},i < es.length → szL (es.getD i []) + 1 ≤ szLL es
 | [],i,h => by simp at h
 | e :: r,0,_ => by simp [szLL]; omega
 | e :: r,i + 1,h => by
   have := szLL_mem (es := r) (i := i) (by simpa using h)
   simp only [szLL,List.getD_cons_succ]; omega
theorem wL_sz : ∀ {l : List Ex} {es : List (List AVal)},es.length = l.length → (∀ i (h : i < l.length),(l[i]).w ≤ szL (es.getD i [])) → wL l ≤ szLL es
 | [],es,h,_ => by rw [wL_nil]; omega
 | x :: r,[],h,_ => by simp at h
 | x :: r,e :: es,h,hg => by
   have h0 : x.w ≤ szL e := hg 0 (by simp)
   have h1 := wL_sz (l := r) (es := es) (by simpa using h) fun i hi => hg (i + 1) (by simpa using hi)
   rw [wL_cons]
   simp only [szLL]; omega
variable {B : Nat}
end Go.Abs
namespace Go.Abs
open Go Go.RowKit Go.Proofs Go.Lx Go.Pz
variable {w0 : World}
theorem w29v {l : List Ex} {es : List (List AVal)} (hl : l.length < 4000000000000000000) (hes : ExsV l es) (h17 : ∀ x ∈ l,∀ av,ExV x av → ∀ S,ACalls Tryz.prog (B0 w0) 28 [.agg (exC x),.agg av] S (TrueR S)) (fl fl' : Fl) (S : Heap) :
  ACalls Tryz.prog (B0 w0) 29 [.list fl (exlC l),.list fl' es] S (TrueR S) := by
 have hel := ExsV_len hes
 refine fn_sound tryOrd (f29_c _) (by simp [f29]) ?_
 simp [f29,f29m,hel]
 refine mwp_loop (I := SaI S l (.list fl (exlC l)) (.list fl' es)) (n := l.length) ⟨0,rfl,Nat.zero_le _,rfl,rfl,rfl,rfl⟩ ?_
 rintro m a S' ⟨i,rfl,hi,rfl,a0,a1,a5⟩
 by_cases hlt : i < l.length
 ·have hltI : (i : Int) < (l.length : Int) := by omega
  have hg : (exlC l).getD i [] = exC l[i] := by rw [getD_eq _ _ _ (by simpa using hlt)]; simp [exlC]
  have q1 := li_addr (k := 7) (es := exlC l) (by simpa using hlt) hg (by simp)
  have q2 := li_load (k := 7) (es := exlC l) (by simpa using hlt) hg (by simp) true 7 0 (by omega)
  have hv := ExsV_get hes i hlt
  have hlt2 : i < es.length := by omega
  have p1 := li_addr (k := 7) (es := es) hlt2 rfl (ExV_len hv)
  have p2 := li_load (k := 7) (es := es) hlt2 rfl (ExV_len hv) true 7 0 (by omega)
  have hw := wrapS i (by omega)
  have h := h17 l[i] (List.getElem_mem hlt) _ hv
  have hl7 := ExV_len hv
  generalize es.getD i [] = ev at *
  have htk2 : takeAt true 7 ev 0 = .agg ev := by simp [takeAt,List.take_of_length_le,hl7]
  rw [htk2] at p2
  have ht : takeAt true 7 (exC l[i]) 0 = .agg (exC l[i]) := by simp [takeAt,List.take_of_length_le]
  rw [ht] at q2
  generalize l[i] = y at *
  simp [f29b0,a0,a1,a5,hltI,q1,q2,p1,p2]
  refine (h _).use ?_
  rintro e S1 ⟨rfl,rfl⟩
  simp [a0,a1,a5,hw]
  exact ⟨l.length - (i + 1),by omega,i + 1,rfl,by omega,rfl,by simp [a0],by simp [a1],by simp⟩
 ·have hie : i = l.length := by omega
  subst hie
  simp [f29b0,a0,a1,a5]
  exact ⟨rfl,rfl⟩
theorem w28v : ∀ (n : Nat),n < 4000000000000000000 → ∀ (x : Ex),x.w ≤ n → ∀ (av : List AVal),ExV x av → ∀ (S : Heap),ACalls Tryz.prog (B0 w0) 28 [.agg (exC x),.agg av] S (TrueR S) := by
 intro n
 induction n using Nat.strongRecOn with
 | _ n ih =>
   intro hn x hx av hav S
   obtain ⟨op,args,kind,num,scale,text,qual⟩ := x
   rw [w_mk] at hx
   rw [ExV_mk] at hav
   obtain ⟨fl',es,rfl,hes⟩ := hav
   have hal := wL_len args
   refine ACalls.close (R := fun e S' => e = .ret (.bool true) ∧ S'.take S.length = S) ?_ ?_
   rotate_left 1
   ·rintro e S' ⟨rfl,ht⟩
    exact .flat ht rfl ⟨rfl,rfl⟩
   obtain ⟨fl,hfl⟩ := exsV_list args
   rw [exC_eq,hfl]
   refine fn_sound tryOrd (f28_c _) (by simp [f28]) ?_
   simp [f28,f28m]
   refine (w29v (by omega) hes (fun y hy av hv S => ih y.w (by have := w_mem hy; omega) (by have := w_mem hy; omega) y (Nat.le_refl _) av hv S) _ _ _).use ?_
   rintro e S1 ⟨rfl,rfl⟩
   simp
end Go.Abs
namespace Go.Abs
open Go Go.RowKit Go.Proofs Go.Lx Go.Pz
variable {w0 : World}
def opTab : List Int := [-1,2,2,2,2,2,2,2,2,2,2,2,2,1,1,1,1,2,2,1,1,0,0]
def opnds (op : Int) : Int := if op < 1 ∨ 22 < op then -1 else opTab.getD op.toNat 0
def mostN (kind : Int) : Int := if kind = 1 then 1 else if kind = 2 then 9223372036854775807 else 0
def constB (kind num scale : Int) (text qual : Bs) : Bool :=
 decide (qual = []) && (if kind = 0 ∨ kind = 1 ∨ kind = 2 then decide (0 ≤ num) && decide (num ≤ mostN kind) && decide (scale = 0) && decide (text = [])
  else if kind = 3 then (if scale = -1 ∨ scale = -2 then decide (num = 0) && decide (text = []) else decide (text = []) && decide (1 ≤ scale) && decide (scale ≤ 14) && decide (0 ≤ num) && decide (num < 1000000000000000))
  else if kind = 4 then decide (num = 0) && decide (scale = 0) && decide (text.length < 201) else false)
mutual
def okE : Ex → Bool
 | .mk op args kind num scale text qual => decide ((args.length : Int) = opnds op) && (if op = 21 then constB kind num scale text qual
   else decide (kind = 0) && decide (num = 0) && decide (scale = 0) && (if op = 22 then nameB text && (decide (qual = []) || nameB qual) else okL args && decide (text = []) && decide (qual = [])))
def okL : List Ex → Bool
 | [] => true
 | x :: r => okE x && okL r
end
theorem okE_mk {op : Int} {args : List Ex} {kind num scale : Int} {text qual : Bs} : okE (.mk op args kind num scale text qual) = (decide ((args.length : Int) = opnds op) && (if op = 21 then constB kind num scale text qual
  else decide (kind = 0) && decide (num = 0) && decide (scale = 0) && (if op = 22 then nameB text && (decide (qual = []) || nameB qual) else okL args && decide (text = []) && decide (qual = [])))) := by rw [okE]
theorem okL_nil : okL [] = true := by rw [okL]
theorem okL_cons {x : Ex} {r : List Ex} : okL (x :: r) = (okE x && okL r) := by rw [okL]
theorem okL_iff : ∀ {l : List Ex},okL l = true ↔ ∀ x ∈ l,okE x = true
 | [] => by simp [okL_nil]
 | x :: r => by rw [okL_cons,Bool.and_eq_true,okL_iff]; simp
end Go.Abs
namespace Go.Abs
open Go Go.RowKit Go.Proofs Go.Lx Go.Pz
variable {w0 : World}
end Go.Abs
namespace Go.Abs
open Go Go.RowKit Go.Proofs Go.Lx Go.Pz
variable {w0 : World}
def aheadT : List Bs := [[],[],[],[],[],[],[],[],[],[],[],[],[],[40,45,32],[73,78,84,40],[82,69,65,76,40],[40,78,79,84,32],[],[],[40],[40],[],[]]
def behindT : List Bs := [[],[],[],[],[],[],[],[],[],[],[],[],[],[41],[41],[41],[41],[],[],[32,73,83,32,78,85,76,76,41],[32,73,83,32,78,79,84,32,78,85,76,76,41],[],[]]
def signT : List Bs := [[],[61],[60,62],[60],[60,61],[62],[62,61],[43],[45],[42],[47],[37],[124,124],[],[],[],[],[65,78,68],[79,82],[],[],[],[]]
def constT (kind num scale : Int) (text : Bs) : Bs :=
 if kind = 0 then [78,85,76,76] else if kind = 1 then (if num = 0 then [70,65,76,83,69] else [84,82,85,69])
 else if kind = 3 ∧ scale = -1 then [78,65,78] else if kind = 3 ∧ scale = -2 then [73,78,70,73,78,73,84,89] else wordOf ⟨kind,text,num,scale⟩
def shapeT (op kind num scale : Int) (text qual : Bs) (l : List Bs) : Bs :=
 if op = 21 then constT kind num scale text else if op = 22 then (if qual = [] then text else qual ++ 46 :: text)
 else match l with
  | [a] => aheadT.getD op.toNat [] ++ a ++ behindT.getD op.toNat []
  | [a,b] => 40 :: a ++ 32 :: (signT.getD op.toNat [] ++ 32 :: (b ++ [41]))
  | _ => []
mutual
def textE : Ex → Bs
 | .mk op args kind num scale text qual => shapeT op kind num scale text qual (textsE args)
def textsE : List Ex → List Bs
 | [] => []
 | x :: r => textE x :: textsE r
end
theorem textE_mk {op : Int} {args : List Ex} {kind num scale : Int} {text qual : Bs} : textE (.mk op args kind num scale text qual) = shapeT op kind num scale text qual (textsE args) := by rw [textE]
theorem textsE_nil : textsE [] = [] := by rw [textsE]
theorem textsE_cons {x : Ex} {r : List Ex} : textsE (x :: r) = textE x :: textsE r := by rw [textsE]
section
variable {op kind num scale : Int} {text qual : Bs} {l : List Bs} {a b : Bs}
theorem shapeT_const (h : op = 21) : shapeT op kind num scale text qual l = constT kind num scale text := by unfold shapeT; rw [if_pos h]
theorem shapeT_col (h : op = 22) : shapeT op kind num scale text qual l = if qual = [] then text else qual ++ 46 :: text := by unfold shapeT; rw [if_neg (by omega),if_pos h]
theorem shapeT_one (h1 : op ≠ 21) (h2 : op ≠ 22) : shapeT op kind num scale text qual [a] = aheadT.getD op.toNat [] ++ a ++ behindT.getD op.toNat [] := by unfold shapeT; rw [if_neg h1,if_neg h2]
theorem shapeT_two (h1 : op ≠ 21) (h2 : op ≠ 22) : shapeT op kind num scale text qual [a,b] = 40 :: a ++ 32 :: (signT.getD op.toNat [] ++ 32 :: (b ++ [41])) := by unfold shapeT; rw [if_neg h1,if_neg h2]
end
theorem length_two {α : Type} {l : List α} (h : l.length = 2) : ∃ a b,l = [a,b] := by
 match l,h with
 | [a,b],_ => exact ⟨a,b,rfl⟩
theorem op_one {op : Int} (h : opnds op = 1) : op = 13 ∨ op = 14 ∨ op = 15 ∨ op = 16 ∨ op = 19 ∨ op = 20 := by
 unfold opnds at h
 split at h
 ·cases h
 ·obtain ⟨n,rfl⟩ : ∃ n : Nat,op = n := ⟨op.toNat,by omega⟩
  have hc : n = 1 ∨ n = 2 ∨ n = 3 ∨ n = 4 ∨ n = 5 ∨ n = 6 ∨ n = 7 ∨ n = 8 ∨ n = 9 ∨ n = 10 ∨ n = 11 ∨ n = 12 ∨ n = 13 ∨ n = 14 ∨ n = 15 ∨ n = 16 ∨ n = 17 ∨ n = 18 ∨ n = 19 ∨ n = 20 ∨ n = 21 ∨ n = 22 := by omega
  rcases hc with rfl | rfl | rfl | rfl | rfl | rfl | rfl | rfl | rfl | rfl | rfl | rfl | rfl | rfl | rfl | rfl | rfl | rfl | rfl | rfl | rfl | rfl <;> first | (exfalso; revert h; decide) | simp
theorem op_two {op : Int} (h : opnds op = 2) : op = 1 ∨ op = 2 ∨ op = 3 ∨ op = 4 ∨ op = 5 ∨ op = 6 ∨ op = 7 ∨ op = 8 ∨ op = 9 ∨ op = 10 ∨ op = 11 ∨ op = 12 ∨ op = 17 ∨ op = 18 := by
 unfold opnds at h
 split at h
 ·cases h
 ·obtain ⟨n,rfl⟩ : ∃ n : Nat,op = n := ⟨op.toNat,by omega⟩
  have hc : n = 1 ∨ n = 2 ∨ n = 3 ∨ n = 4 ∨ n = 5 ∨ n = 6 ∨ n = 7 ∨ n = 8 ∨ n = 9 ∨ n = 10 ∨ n = 11 ∨ n = 12 ∨ n = 13 ∨ n = 14 ∨ n = 15 ∨ n = 16 ∨ n = 17 ∨ n = 18 ∨ n = 19 ∨ n = 20 ∨ n = 21 ∨ n = 22 := by omega
  rcases hc with rfl | rfl | rfl | rfl | rfl | rfl | rfl | rfl | rfl | rfl | rfl | rfl | rfl | rfl | rfl | rfl | rfl | rfl | rfl | rfl | rfl | rfl <;> first | (exfalso; revert h; decide) | simp
theorem op_none {op : Int} {n : Nat} (h : (n : Int) = opnds op) (h1 : op ≠ 21) (h2 : op ≠ 22) : n = 1 ∨ n = 2 := by
 unfold opnds at h
 split at h
 ·omega
 ·obtain ⟨k,rfl⟩ : ∃ k : Nat,op = k := ⟨op.toNat,by omega⟩
  have hc : k = 1 ∨ k = 2 ∨ k = 3 ∨ k = 4 ∨ k = 5 ∨ k = 6 ∨ k = 7 ∨ k = 8 ∨ k = 9 ∨ k = 10 ∨ k = 11 ∨ k = 12 ∨ k = 13 ∨ k = 14 ∨ k = 15 ∨ k = 16 ∨ k = 17 ∨ k = 18 ∨ k = 19 ∨ k = 20 := by omega
  rcases hc with rfl | rfl | rfl | rfl | rfl | rfl | rfl | rfl | rfl | rfl | rfl | rfl | rfl | rfl | rfl | rfl | rfl | rfl | rfl | rfl <;> simp [opTab] at h <;> omega
theorem const_tok {kind num scale : Int} {text qual : Bs} (h : constB kind num scale text qual = true) : (kind = 0 ∧ num = 0 ∧ scale = 0 ∧ text = []) ∨ (kind = 1 ∧ (num = 0 ∨ num = 1) ∧ scale = 0 ∧ text = []) ∨ (kind = 3 ∧ (scale = -1 ∨ scale = -2) ∧ num = 0 ∧ text = []) ∨
  (kind ≠ 0 ∧ kind ≠ 1 ∧ ¬ (kind = 3 ∧ scale = -1) ∧ ¬ (kind = 3 ∧ scale = -2) ∧ OkT ⟨kind,text,num,scale⟩ ∧ (kind = 2 ∨ kind = 3 ∨ kind = 4)) := by
 unfold constB at h
 simp only [Bool.and_eq_true,decide_eq_true_eq] at h
 obtain ⟨_,h⟩ := h
 split at h
 ·rename_i hk
  simp only [Bool.and_eq_true,decide_eq_true_eq] at h
  obtain ⟨⟨⟨h0,h1⟩,rfl⟩,rfl⟩ := h
  rcases hk with rfl | rfl | rfl
  ·simp [mostN] at h1
   exact .inl ⟨rfl,by omega,rfl,rfl⟩
  ·simp [mostN] at h1
   exact .inr (.inl ⟨rfl,by omega,rfl,rfl⟩)
  ·simp [mostN] at h1
   refine .inr (.inr (.inr ⟨by decide,by decide,by simp,by simp,?_,.inl rfl⟩))
   obtain ⟨n,rfl⟩ : ∃ n : Nat,num = n := ⟨num.toNat,by omega⟩
   exact .int n (by omega)
 ·split at h
  ·rename_i hk
   subst hk
   split at h
   ·rename_i hs
    simp only [Bool.and_eq_true,decide_eq_true_eq] at h
    exact .inr (.inr (.inl ⟨rfl,hs,h.1,h.2⟩))
   ·rename_i hs
    simp only [Bool.and_eq_true,decide_eq_true_eq] at h
    obtain ⟨⟨⟨⟨rfl,h1⟩,h2⟩,h3⟩,h4⟩ := h
    refine .inr (.inr (.inr ⟨by decide,by decide,by omega,by omega,?_,.inr (.inl rfl)⟩))
    obtain ⟨n,rfl⟩ : ∃ n : Nat,num = n := ⟨num.toNat,by omega⟩
    obtain ⟨k,rfl⟩ : ∃ k : Nat,scale = k := ⟨scale.toNat,by omega⟩
    exact .real n k (by omega) (by omega) (by omega)
  ·split at h
   ·rename_i hk
    subst hk
    simp only [Bool.and_eq_true,decide_eq_true_eq] at h
    obtain ⟨⟨rfl,rfl⟩,h3⟩ := h
    exact .inr (.inr (.inr ⟨by decide,by decide,by simp,by simp,.text text (by omega),.inr (.inr rfl)⟩))
   ·cases h
theorem const_len {kind num scale : Int} {text qual : Bs} (h : constB kind num scale text qual = true) : (constT kind num scale text).length ≤ 1000 := by
 unfold constT
 rcases const_tok h with ⟨rfl,_⟩ | ⟨rfl,h1,_⟩ | ⟨rfl,h1,_⟩ | ⟨h1,h2,h3,h4,h5,_⟩
 ·simp
 ·rcases h1 with rfl | rfl <;> simp
 ·rcases h1 with rfl | rfl <;> simp
 ·rw [if_neg h1,if_neg h2,if_neg h3,if_neg h4]
  exact wordOf_len h5
theorem nameB_len {x : Bs} (h : nameB x = true) : x.length ≤ 32 := by
 unfold nameB at h
 simp only [Bool.and_eq_true,decide_eq_true_eq] at h
 exact h.1.1.1.2
theorem textE_len : ∀ (n : Nat) (x : Ex),x.w ≤ n → okE x = true → (textE x).length ≤ 1100 * (x.w + 1) := by
 intro n
 induction n using Nat.strongRecOn with
 | _ n ih =>
   intro x hx ho
   obtain ⟨op,args,kind,num,scale,text,qual⟩ := x
   rw [okE_mk,Bool.and_eq_true,decide_eq_true_eq] at ho
   obtain ⟨hl,ho⟩ := ho
   rw [w_mk] at hx ⊢
   rw [textE_mk]
   by_cases h21 : op = 21
   ·rw [if_pos h21] at ho
    rw [shapeT_const h21]
    have := const_len ho
    omega
   rw [if_neg h21] at ho
   simp only [Bool.and_eq_true,decide_eq_true_eq] at ho
   obtain ⟨_,ho⟩ := ho
   by_cases h22 : op = 22
   ·rw [if_pos h22] at ho
    rw [shapeT_col h22]
    simp only [Bool.and_eq_true,Bool.or_eq_true,decide_eq_true_eq] at ho
    have h1 := nameB_len ho.1
    split
    ·omega
    ·rename_i hq
     have h2 := nameB_len (ho.2.resolve_left hq)
     simp; omega
   rw [if_neg h22] at ho
   simp only [Bool.and_eq_true,decide_eq_true_eq] at ho
   obtain ⟨⟨hL,_⟩,_⟩ := ho
   rcases op_none hl h21 h22 with hn | hn
   ·obtain ⟨a,rfl⟩ : ∃ a,args = [a] := List.length_eq_one_iff.1 hn
    have hw : wL [a] = a.w + 1 := by rw [wL_cons,wL_nil]
    have h1 := ih a.w (by omega) a (Nat.le_refl _) (okL_iff.1 hL a (by simp))
    rw [textsE_cons,textsE_nil,shapeT_one h21 h22]
    have hop := op_one (op := op) (by simpa using hl.symm)
    simp only [List.length_append]
    have h2 : (aheadT.getD op.toNat []).length ≤ 5 ∧ (behindT.getD op.toNat []).length ≤ 13 := by
     rcases hop with rfl | rfl | rfl | rfl | rfl | rfl <;> decide
    omega
   ·obtain ⟨a,b,rfl⟩ : ∃ a b,args = [a,b] := length_two hn
    have hw : wL [a,b] = a.w + b.w + 2 := by rw [wL_cons,wL_cons,wL_nil]; omega
    have h1 := ih a.w (by omega) a (Nat.le_refl _) (okL_iff.1 hL a (by simp))
    have h2 := ih b.w (by omega) b (Nat.le_refl _) (okL_iff.1 hL b (by simp))
    rw [textsE_cons,textsE_cons,textsE_nil,shapeT_two h21 h22]
    have hop := op_two (op := op) (by simpa using hl.symm)
    have h3 : (signT.getD op.toNat []).length ≤ 3 := by
     rcases hop with rfl | rfl | rfl | rfl | rfl | rfl | rfl | rfl | rfl | rfl | rfl | rfl | rfl | rfl <;> decide
    simp only [List.cons_append,List.length_append,List.length_cons,List.length_nil]
    omega
end Go.Abs
namespace Go.Lx
open Go.Lib
def Stp (x : Bs) : Prop := ∀ z y,x = z :: y → isB z = true ∨ z = 41 ∨ z = 44
theorem stp_nat {z : UInt8} (h : isB z = true ∨ z = 41 ∨ z = 44) : z.toNat = 32 ∨ z.toNat = 9 ∨ z.toNat = 10 ∨ z.toNat = 13 ∨ z.toNat = 41 ∨ z.toNat = 44 := by
 rcases h with h | rfl | rfl
 ·have := isB_nat h; omega
 ·exact .inr (.inr (.inr (.inr (.inl rfl))))
 ·exact .inr (.inr (.inr (.inr (.inr rfl))))
theorem stp_D {z : UInt8} (h : isB z = true ∨ z = 41 ∨ z = 44) : isD z = false := by have := stp_nat h; simp [isD]; omega
theorem stp_L {z : UInt8} (h : isB z = true ∨ z = 41 ∨ z = 44) : isL z = false := by have := stp_nat h; simp [isL]; omega
theorem stp_W {z : UInt8} (h : isB z = true ∨ z = 41 ∨ z = 44) : isW z = false := by simp [isW,stp_D h,stp_L h]
theorem Stp.nil : Stp [] := fun z y h => by cases h
theorem Stp.blank (y : Bs) : Stp (32 :: y) := fun z y' h => by cases h; exact .inl rfl
theorem Stp.close (y : Bs) : Stp (41 :: y) := fun z y' h => by cases h; exact .inr (.inl rfl)
theorem Stp.comma (y : Bs) : Stp (44 :: y) := fun z y' h => by cases h; exact .inr (.inr rfl)
theorem run_app2 {p : UInt8 → Bool} (hp : ∀ z,(isB z = true ∨ z = 41 ∨ z = 44) → p z = false) : ∀ (l : Bs) {x : Bs},Stp x → run p (l ++ x) = run p l
 | [],x,hx => by
   cases x with
   | nil => rfl
   | cons z y => rw [List.nil_append,run_cons,hp z (hx z y rfl)]; rfl
 | c :: r,x,hx => by
   rw [List.cons_append,run_cons,run_cons,run_app2 hp r hx]
theorem part_app2 (l : Bs) {x : Bs} (hx : Stp x) : part (l ++ x) = part l := by
 cases l with
 | nil =>
   cases x with
   | nil => rfl
   | cons z y =>
     have := stp_nat (hx z y rfl)
     rw [List.nil_append,part_cons,if_neg (by omega)]; rfl
 | cons c r => rw [List.cons_append,part_cons,part_cons,run_app2 (fun z h => stp_D h) r hx]
theorem word_app2 {l x : Bs} (hx : Stp x) : word (l ++ x) = word l := by
 have h := run_app2 (p := isW) (fun z h => stp_W h) l hx
 rw [word,word,h,List.take_append_of_le_length (run_le _ _)]
theorem number_app2 {l x : Bs} (hx : Stp x) : number (l ++ x) = number l := by
 have h := run_app2 (p := isD) (fun z h => stp_D h) l hx
 have hle := run_le isD l
 have hp : part ((l ++ x).drop (run isD l)) = part (l.drop (run isD l)) := by
  rw [List.drop_append_of_le_length hle,part_app2 _ hx]
 rw [number,number,h,hp,List.take_append_of_le_length hle]
 by_cases h0 : part (l.drop (run isD l)) = 0
 ·rw [if_pos h0,if_pos h0]
 ·rw [if_neg h0,if_neg h0]
  have h1 := part_le (l.drop (run isD l))
  rw [List.length_drop] at h1
  rw [List.drop_append_of_le_length (by omega),List.take_append_of_le_length (by rw [List.length_drop]; omega)]
theorem txt_app2 {x : Bs} (hx : Stp x) : ∀ (l b : Bs) (n : Nat),txt l = some (b,n) → txt (l ++ x) = some (b,n) := by
 refine txt_ind ?_ ?_ ?_ ?_
 ·intro b n h; rw [txt_nil] at h; cases h
 ·intro c r hc ih b n h
  rw [txt_other hc] at h
  simp only [Option.map_eq_some_iff,Prod.mk.injEq] at h
  obtain ⟨⟨b',n'⟩,h,rfl,rfl⟩ := h
  rw [List.cons_append,txt_other hc,ih b' n' h]; rfl
 ·intro c r hc h2 b n h
  rw [txt_end hc h2] at h
  rw [List.cons_append,txt_end hc (fun d r' e => ?_),h]
  cases r with
  | nil => have := stp_nat (hx d r' (by simpa using e)); omega
  | cons d' r'' => simp only [List.cons_append,List.cons.injEq] at e; exact e.1 ▸ h2 d' r'' rfl
 ·intro c d r hc hd ih b n h
  rw [txt_two hc hd] at h
  simp only [Option.map_eq_some_iff,Prod.mk.injEq] at h
  obtain ⟨⟨b',n'⟩,h,rfl,rfl⟩ := h
  rw [List.cons_append,List.cons_append,txt_two hc hd,ih b' n' h]; rfl
theorem sign_app2 {c : UInt8} {r x : Bs} (hx : Stp x) : sign (c :: (r ++ x)) = sign (c :: r) := by
 cases r with
 | nil =>
   cases x with
   | nil => rfl
   | cons z y =>
     have := stp_nat (hx z y rfl)
     have h2 : two c z = false := by simp [two]; omega
     rw [List.nil_append,sign,sign,h2]; simp
 | cons d r => rw [List.cons_append,sign,sign]
theorem one_app2 {c : UInt8} {r x : Bs} {t : Tok} {n : Nat} (hx : Stp x) (h : one (c :: r) = .ok (t,n)) : one (c :: (r ++ x)) = .ok (t,n) := by
 rw [one] at h ⊢
 split at h
 ·rename_i hl
  rw [if_pos hl,← List.cons_append,word_app2 hx,h]
 ·rename_i hl
  rw [if_neg hl]
  split at h
  ·rename_i hd
   rw [if_pos hd,← List.cons_append,number_app2 hx,h]
  ·rename_i hd
   rw [if_neg hd]
   split at h
   ·rename_i hq
    rw [if_pos hq]
    rw [text] at h ⊢
    simp only [List.drop_succ_cons,List.drop_zero] at h ⊢
    cases ht : txt r with
    | none => rw [ht] at h; cases h
    | some y => obtain ⟨b,m⟩ := y; rw [ht] at h; rw [txt_app2 hx _ _ _ ht,h]
   ·rename_i hq
    rw [if_neg hq,sign_app2 hx,h]
theorem toks_one {c : UInt8} {r y : Bs} {t : Tok} {ts : List Tok} (hb : isB c = false) (h : one (c :: r) = .ok (t,r.length + 1)) (hy : Stp y) (ht : toks y = .ok ts) : toks (c :: r ++ y) = .ok (t :: ts) := by
 rw [List.cons_append,toks_tok hb (one_app2 hy h)]
 simp [ht]
theorem toks_okt {t : Tok} {y : Bs} {ts : List Tok} (h : OkT t) (hy : Stp y) (ht : toks y = .ok ts) : toks (wordOf t ++ y) = .ok (t :: ts) := by
 obtain ⟨c,r,e,hb,ho⟩ := ok_one h
 rw [e]
 exact toks_one hb ho hy ht
abbrev wT (s : Bs) : Tok := ⟨1,s,0,0⟩
abbrev sT (s : Bs) : Tok := ⟨5,s,0,0⟩
theorem toks_s1 {c : UInt8} {y : Bs} {ts : List Tok} (hc : c = 40 ∨ c = 41 ∨ c = 46 ∨ c = 45) (ht : toks y = .ok ts) : toks (c :: y) = .ok (sT [c] :: ts) := by
 have ho : one (c :: y) = .ok (sT [c],1) := by
  cases y with
  | nil => rcases hc with rfl | rfl | rfl | rfl <;> rfl
  | cons d y =>
    have h2 : two c d = false := by rcases hc with rfl | rfl | rfl | rfl <;> simp [two]
    have h3 : c ∈ ones := by rcases hc with rfl | rfl | rfl | rfl <;> decide
    have h4 : isL c = false ∧ isD c = false ∧ ¬ c.toNat = 39 := by rcases hc with rfl | rfl | rfl | rfl <;> decide
    rw [one,if_neg (by simp [h4.1]),if_neg (by simp [h4.2.1]),if_neg h4.2.2,sign,h2]
    simp [h3]
 rw [toks_tok (by rcases hc with rfl | rfl | rfl | rfl <;> rfl) ho]
 simp [ht]
theorem toks_word {c : UInt8} {r y : Bs} {ts : List Tok} (hl : isL c = true) (hw : ∀ z ∈ c :: r,isW z = true) (hn : r.length < 32) (hy : ∀ z y',y = z :: y' → isW z = false) (ht : toks y = .ok ts) : toks (c :: r ++ y) = .ok (wT ((c :: r).map lowerB) :: ts) := by
 have hrun : run isW (c :: r ++ y) = r.length + 1 := by
  cases y with
  | nil => rw [List.append_nil]; simpa using run_all hw
  | cons z y => simpa using run_some (r := y) hw (hy z y rfl)
 have ho : one (c :: (r ++ y)) = .ok (wT ((c :: r).map lowerB),r.length + 1) := by
  rw [List.cons_append] at hrun
  rw [one,if_pos hl,word,hrun,if_neg (by omega)]
  congr 4
  simp
 rw [List.cons_append,toks_tok (isL_notB hl) ho]
 simp [ht]
theorem toks_sp {y : Bs} {ts : List Tok} (ht : toks y = .ok ts) : toks (32 :: y) = .ok ts := by rw [toks_blank rfl,ht]
end Go.Lx
namespace Go.Abs
open Go.Lx Go.Pz
def constK (kind num scale : Int) (text : Bs) : List Tok :=
 if kind = 0 then [wT [110,117,108,108]] else if kind = 1 then (if num = 0 then [wT [102,97,108,115,101]] else [wT [116,114,117,101]])
 else if kind = 3 ∧ scale = -1 then [wT [110,97,110]] else if kind = 3 ∧ scale = -2 then [wT [105,110,102,105,110,105,116,121]] else [⟨kind,text,num,scale⟩]
def aheadK (op : Int) : List Tok := if op = 13 then [sT [40],sT [45]] else if op = 14 then [wT [105,110,116],sT [40]] else if op = 15 then [wT [114,101,97,108],sT [40]] else if op = 16 then [sT [40],wT [110,111,116]] else [sT [40]]
def behindK (op : Int) : List Tok := if op = 19 then [wT [105,115],wT [110,117,108,108],sT [41]] else if op = 20 then [wT [105,115],wT [110,111,116],wT [110,117,108,108],sT [41]] else [sT [41]]
def signK (op : Int) : Tok := if op = 17 then wT [97,110,100] else if op = 18 then wT [111,114] else sT (signT.getD op.toNat [])
def shapeK (op kind num scale : Int) (text qual : Bs) (l : List (List Tok)) : List Tok :=
 if op = 21 then constK kind num scale text else if op = 22 then (if qual = [] then [wT text] else [wT qual,sT [46],wT text])
 else match l with
  | [a] => aheadK op ++ a ++ behindK op
  | [a,b] => sT [40] :: a ++ signK op :: (b ++ [sT [41]])
  | _ => []
mutual
def tokE : Ex → List Tok
 | .mk op args kind num scale text qual => shapeK op kind num scale text qual (toksE args)
def toksE : List Ex → List (List Tok)
 | [] => []
 | x :: r => tokE x :: toksE r
end
theorem tokE_mk {op : Int} {args : List Ex} {kind num scale : Int} {text qual : Bs} : tokE (.mk op args kind num scale text qual) = shapeK op kind num scale text qual (toksE args) := by rw [tokE]
theorem toksE_nil : toksE [] = [] := by rw [toksE]
theorem toksE_cons {x : Ex} {r : List Ex} : toksE (x :: r) = tokE x :: toksE r := by rw [toksE]
section
variable {op kind num scale : Int} {text qual : Bs} {l : List (List Tok)} {a b : List Tok}
theorem shapeK_const (h : op = 21) : shapeK op kind num scale text qual l = constK kind num scale text := by unfold shapeK; rw [if_pos h]
theorem shapeK_col (h : op = 22) : shapeK op kind num scale text qual l = if qual = [] then [wT text] else [wT qual,sT [46],wT text] := by unfold shapeK; rw [if_neg (by omega),if_pos h]
theorem shapeK_one (h1 : op ≠ 21) (h2 : op ≠ 22) : shapeK op kind num scale text qual [a] = aheadK op ++ a ++ behindK op := by unfold shapeK; rw [if_neg h1,if_neg h2]
theorem shapeK_two (h1 : op ≠ 21) (h2 : op ≠ 22) : shapeK op kind num scale text qual [a,b] = sT [40] :: a ++ signK op :: (b ++ [sT [41]]) := by unfold shapeK; rw [if_neg h1,if_neg h2]
end
end Go.Abs
namespace Go.Abs
open Go.Lx Go.Pz
theorem kw {c : UInt8} {r y : Bs} {ts : List Tok} {s : Bs} (hl : Lx.isL c = true) (hw : (c :: r).all isW = true) (hn : r.length < 32) (hs : (c :: r).map Lib.lowerB = s) (hy : ∀ z y',y = z :: y' → isW z = false) (ht : toks y = .ok ts) : toks (c :: r ++ y) = .ok (wT s :: ts) := by
 rw [← hs]
 exact toks_word hl (List.all_eq_true.1 hw) hn hy ht
theorem nw_sp (y : Bs) : ∀ z y',(32 :: y : Bs) = z :: y' → isW z = false := fun z y' h => by cases h; rfl
theorem nw_open (y : Bs) : ∀ z y',(40 :: y : Bs) = z :: y' → isW z = false := fun z y' h => by cases h; rfl
theorem nw_close (y : Bs) : ∀ z y',(41 :: y : Bs) = z :: y' → isW z = false := fun z y' h => by cases h; rfl
theorem nw_dot (y : Bs) : ∀ z y',(46 :: y : Bs) = z :: y' → isW z = false := fun z y' h => by cases h; rfl
theorem nw_stp {y : Bs} (h : Stp y) : ∀ z y',y = z :: y' → isW z = false := fun z y' e => stp_W (h z y' e)
theorem name_word {x : Bs} (h : nameB x = true) {y : Bs} {ts : List Tok} (hy : ∀ z y',y = z :: y' → isW z = false) (ht : toks y = .ok ts) : toks (x ++ y) = .ok (wT x :: ts) := by
 unfold nameB at h
 simp only [Bool.and_eq_true,decide_eq_true_eq] at h
 obtain ⟨⟨⟨⟨h1,h2⟩,h3⟩,h4⟩,_⟩ := h
 cases x with
 | nil => simp at h1
 | cons c r =>
   have hall := List.all_eq_true.1 h4
   have hlow : (c :: r).map Lib.lowerB = c :: r := (List.map_congr_left fun z hz => by have := hall z hz; simp only [Bool.and_eq_true,decide_eq_true_eq] at this; exact this.2).trans (List.map_id _)
   refine kw (by simpa using h3) (List.all_eq_true.2 fun z hz => by have := hall z hz; simp only [Bool.and_eq_true] at this; exact this.1) (by simp at h2; omega) hlow hy ht
theorem const_toks {kind num scale : Int} {text qual : Bs} (h : constB kind num scale text qual = true) {y : Bs} {t : List Tok} (hy : Stp y) (ht : toks y = .ok t) : toks (constT kind num scale text ++ y) = .ok (constK kind num scale text ++ t) := by
 have hn := nw_stp hy
 unfold constT constK
 rcases const_tok h with ⟨rfl,_⟩ | ⟨rfl,h1,_⟩ | ⟨rfl,h1,_⟩ | ⟨h1,h2,h3,h4,h5,_⟩
 ·simpa using kw (c := 78) (r := [85,76,76]) (s := [110,117,108,108]) rfl rfl (by decide) rfl hn ht
 ·rcases h1 with rfl | rfl
  ·simpa using kw (c := 70) (r := [65,76,83,69]) (s := [102,97,108,115,101]) rfl rfl (by decide) rfl hn ht
  ·simpa using kw (c := 84) (r := [82,85,69]) (s := [116,114,117,101]) rfl rfl (by decide) rfl hn ht
 ·rcases h1 with rfl | rfl
  ·simpa using kw (c := 78) (r := [65,78]) (s := [110,97,110]) rfl rfl (by decide) rfl hn ht
  ·simpa using kw (c := 73) (r := [78,70,73,78,73,84,89]) (s := [105,110,102,105,110,105,116,121]) rfl rfl (by decide) rfl hn ht
 ·rw [if_neg h1,if_neg h2,if_neg h3,if_neg h4,if_neg h1,if_neg h2,if_neg h3,if_neg h4]
  exact toks_okt h5 hy ht
theorem ahead_toks {op : Int} (h : op = 13 ∨ op = 14 ∨ op = 15 ∨ op = 16 ∨ op = 19 ∨ op = 20) {z : Bs} {t : List Tok} (ht : toks z = .ok t) : toks (aheadT.getD op.toNat [] ++ z) = .ok (aheadK op ++ t) := by
 rcases h with rfl | rfl | rfl | rfl | rfl | rfl
 ·exact toks_s1 (.inl rfl) (toks_s1 (c := 45) (by simp) (toks_sp ht))
 ·exact kw (c := 73) (r := [78,84]) (s := [105,110,116]) rfl rfl (by decide) rfl (nw_open _) (toks_s1 (.inl rfl) ht)
 ·exact kw (c := 82) (r := [69,65,76]) (s := [114,101,97,108]) rfl rfl (by decide) rfl (nw_open _) (toks_s1 (.inl rfl) ht)
 ·exact toks_s1 (.inl rfl) (kw (c := 78) (r := [79,84]) (s := [110,111,116]) (y := 32 :: z) rfl rfl (by decide) rfl (nw_sp _) (toks_sp ht))
 ·exact toks_s1 (.inl rfl) ht
 ·exact toks_s1 (.inl rfl) ht
theorem behind_toks {op : Int} (h : op = 13 ∨ op = 14 ∨ op = 15 ∨ op = 16 ∨ op = 19 ∨ op = 20) {z : Bs} {t : List Tok} (ht : toks z = .ok t) : toks (behindT.getD op.toNat [] ++ z) = .ok (behindK op ++ t) ∧ Stp (behindT.getD op.toNat [] ++ z) := by
 have h41 := toks_s1 (c := 41) (by simp) ht
 have hnull : toks ([78,85,76,76] ++ 41 :: z) = .ok (wT [110,117,108,108] :: sT [41] :: t) := kw (c := 78) (r := [85,76,76]) rfl rfl (by decide) rfl (nw_close _) h41
 rcases h with rfl | rfl | rfl | rfl | rfl | rfl
 ·exact ⟨h41,Stp.close _⟩
 ·exact ⟨h41,Stp.close _⟩
 ·exact ⟨h41,Stp.close _⟩
 ·exact ⟨h41,Stp.close _⟩
 ·exact ⟨toks_sp (kw (c := 73) (r := [83]) (y := 32 :: ([78,85,76,76] ++ 41 :: z)) (s := [105,115]) rfl rfl (by decide) rfl (nw_sp _) (toks_sp hnull)),Stp.blank _⟩
 ·exact ⟨toks_sp (kw (c := 73) (r := [83]) (y := 32 :: ([78,79,84] ++ 32 :: ([78,85,76,76] ++ 41 :: z))) (s := [105,115]) rfl rfl (by decide) rfl (nw_sp _) (toks_sp (kw (c := 78) (r := [79,84]) (s := [110,111,116]) rfl rfl (by decide) rfl (nw_sp _) (toks_sp hnull)))),Stp.blank _⟩
theorem sign_toks {op : Int} (h : op = 1 ∨ op = 2 ∨ op = 3 ∨ op = 4 ∨ op = 5 ∨ op = 6 ∨ op = 7 ∨ op = 8 ∨ op = 9 ∨ op = 10 ∨ op = 11 ∨ op = 12 ∨ op = 17 ∨ op = 18) {z : Bs} {t : List Tok} (ht : toks z = .ok t) : toks (signT.getD op.toNat [] ++ 32 :: z) = .ok (signK op :: t) := by
 have hs := toks_sp ht
 have hb := Stp.blank z
 rcases h with rfl | rfl | rfl | rfl | rfl | rfl | rfl | rfl | rfl | rfl | rfl | rfl | rfl | rfl
 ·exact toks_one (c := 61) (r := []) rfl rfl hb hs
 ·exact toks_one (c := 60) (r := [62]) rfl rfl hb hs
 ·exact toks_one (c := 60) (r := []) rfl rfl hb hs
 ·exact toks_one (c := 60) (r := [61]) rfl rfl hb hs
 ·exact toks_one (c := 62) (r := []) rfl rfl hb hs
 ·exact toks_one (c := 62) (r := [61]) rfl rfl hb hs
 ·exact toks_one (c := 43) (r := []) rfl rfl hb hs
 ·exact toks_one (c := 45) (r := []) rfl rfl hb hs
 ·exact toks_one (c := 42) (r := []) rfl rfl hb hs
 ·exact toks_one (c := 47) (r := []) rfl rfl hb hs
 ·exact toks_one (c := 37) (r := []) rfl rfl hb hs
 ·exact toks_one (c := 124) (r := [124]) rfl rfl hb hs
 ·exact kw (c := 65) (r := [78,68]) rfl rfl (by decide) rfl (nw_sp _) hs
 ·exact kw (c := 79) (r := [82]) rfl rfl (by decide) rfl (nw_sp _) hs
theorem toks_text : ∀ (n : Nat) (x : Ex),x.w ≤ n → okE x = true → ∀ {y : Bs} {t : List Tok},Stp y → toks y = .ok t → toks (textE x ++ y) = .ok (tokE x ++ t) := by
 intro n
 induction n using Nat.strongRecOn with
 | _ n ih =>
   intro x hx ho y t hy ht
   obtain ⟨op,args,kind,num,scale,text,qual⟩ := x
   rw [okE_mk,Bool.and_eq_true,decide_eq_true_eq] at ho
   obtain ⟨hl,ho⟩ := ho
   rw [w_mk] at hx
   rw [textE_mk,tokE_mk]
   by_cases h21 : op = 21
   ·rw [if_pos h21] at ho
    rw [shapeT_const h21,shapeK_const h21]
    exact const_toks ho hy ht
   rw [if_neg h21] at ho
   simp only [Bool.and_eq_true,decide_eq_true_eq] at ho
   obtain ⟨_,ho⟩ := ho
   by_cases h22 : op = 22
   ·rw [if_pos h22] at ho
    rw [shapeT_col h22,shapeK_col h22]
    simp only [Bool.and_eq_true,Bool.or_eq_true,decide_eq_true_eq] at ho
    by_cases hq : qual = []
    ·rw [if_pos hq,if_pos hq]
     exact name_word ho.1 (nw_stp hy) ht
    ·rw [if_neg hq,if_neg hq,List.append_assoc]
     exact name_word (ho.2.resolve_left hq) (nw_dot _) (toks_s1 (c := 46) (by simp) (name_word ho.1 (nw_stp hy) ht))
   rw [if_neg h22] at ho
   simp only [Bool.and_eq_true,decide_eq_true_eq] at ho
   obtain ⟨⟨hL,_⟩,_⟩ := ho
   rcases op_none hl h21 h22 with hn | hn
   ·obtain ⟨a,rfl⟩ : ∃ a,args = [a] := List.length_eq_one_iff.1 hn
    have hw : wL [a] = a.w + 1 := by rw [wL_cons,wL_nil]
    have hop := op_one (op := op) (by simpa using hl.symm)
    rw [textsE_cons,textsE_nil,shapeT_one h21 h22,toksE_cons,toksE_nil,shapeK_one h21 h22]
    obtain ⟨hb1,hb2⟩ := behind_toks hop ht
    have := ahead_toks hop (ih a.w (by omega) a (Nat.le_refl _) (okL_iff.1 hL a (by simp)) hb2 hb1)
    simpa [List.append_assoc] using this
   ·obtain ⟨a,b,rfl⟩ : ∃ a b,args = [a,b] := length_two hn
    have hw : wL [a,b] = a.w + b.w + 2 := by rw [wL_cons,wL_cons,wL_nil]; omega
    have hop := op_two (op := op) (by simpa using hl.symm)
    rw [textsE_cons,textsE_cons,textsE_nil,shapeT_two h21 h22,toksE_cons,toksE_cons,toksE_nil,shapeK_two h21 h22]
    have h41 := toks_s1 (c := 41) (by simp) ht
    have hb := ih b.w (by omega) b (Nat.le_refl _) (okL_iff.1 hL b (by simp)) (Stp.close y) h41
    have hs := toks_sp (sign_toks hop hb)
    have ha := ih a.w (by omega) a (Nat.le_refl _) (okL_iff.1 hL a (by simp)) (Stp.blank _) hs
    have := toks_s1 (c := 40) (by simp) ha
    simpa [List.append_assoc] using this
end Go.Abs
namespace Go.Abs
open Go.Lx Go.Pz
section
variable {f : List Tok → Pz.Res Ex} {o : List Tok → Option (Int × List Tok)} {l r r2 r3 : List Tok} {a b : Ex} {op k : Int} {s : Bs}
theorem chain_one (hf : f l = .ok (a,r)) (ho : o r = none) : chain f o l = .ok (a,r) := by
 rw [chain,hf]
 simp only
 rw [chainF,ho]
theorem chain_two (hf : f l = .ok (a,r)) (ho : o r = some (op,r2)) (hf2 : f r2 = .ok (b,r3)) (ho2 : o r3 = none) (hr : 1 ≤ r.length) : chain f o l = .ok (.bin op a b,r3) := by
 rw [chain,hf]
 simp only
 rw [chainF,ho]
 simp only
 rw [hf2]
 simp only
 obtain ⟨m,hm⟩ : ∃ m,r.length = m + 1 := ⟨r.length - 1,by omega⟩
 rw [hm,chainF,ho2]
theorem ahead_zero (h0 : stripN k s l = 0) (hf : f l = .ok (a,r)) : aheadP op k s f l = .ok (a,r) := by
 rw [aheadP,h0,List.drop_zero,hf]
 rfl
theorem ahead_one (h0 : stripN k s l = 1) (hf : f (l.drop 1) = .ok (a,r)) : aheadP op k s f l = .ok (.un op a,r) := by
 rw [aheadP,h0,hf]
 rfl
end
def cloT : List Tok := [sT [41],sT [44],wT [97,115],wT [102,114,111,109],wT [105,110,110,101,114],wT [119,104,101,114,101],wT [111,114,100,101,114],wT [100,101,115,99]]
def Clo (r : List Tok) : Prop := r = [] ∨ ∃ t r',r = t :: r' ∧ t ∈ cloT
section
variable {r : List Tok} (h : Clo r)
include h
theorem Clo.mul : opMul r = none := by
 rcases h with rfl | ⟨t,r',rfl,ht⟩
 ·simp [opMul,operS,isT]
 ·simp only [cloT,List.mem_cons,List.not_mem_nil,or_false] at ht
  rcases ht with rfl | rfl | rfl | rfl | rfl | rfl | rfl | rfl <;> simp [opMul,operS,isT]
theorem Clo.sum : opSum r = none := by
 rcases h with rfl | ⟨t,r',rfl,ht⟩
 ·simp [opSum,operS,isT]
 ·simp only [cloT,List.mem_cons,List.not_mem_nil,or_false] at ht
  rcases ht with rfl | rfl | rfl | rfl | rfl | rfl | rfl | rfl <;> simp [opSum,operS,isT]
theorem Clo.test : opTest r = none := by
 rcases h with rfl | ⟨t,r',rfl,ht⟩
 ·simp [opTest,operS,isT]
 ·simp only [cloT,List.mem_cons,List.not_mem_nil,or_false] at ht
  rcases ht with rfl | rfl | rfl | rfl | rfl | rfl | rfl | rfl <;> simp [opTest,operS,isT]
theorem Clo.is : isT 1 [105,115] r = false := by
 rcases h with rfl | ⟨t,r',rfl,ht⟩
 ·simp [isT]
 ·simp only [cloT,List.mem_cons,List.not_mem_nil,or_false] at ht
  rcases ht with rfl | rfl | rfl | rfl | rfl | rfl | rfl | rfl <;> simp [isT]
theorem Clo.and : opAnd r = none := by
 rcases h with rfl | ⟨t,r',rfl,ht⟩
 ·simp [opAnd,isT]
 ·simp only [cloT,List.mem_cons,List.not_mem_nil,or_false] at ht
  rcases ht with rfl | rfl | rfl | rfl | rfl | rfl | rfl | rfl <;> simp [opAnd,isT]
theorem Clo.or : opOr r = none := by
 rcases h with rfl | ⟨t,r',rfl,ht⟩
 ·simp [opOr,isT]
 ·simp only [cloT,List.mem_cons,List.not_mem_nil,or_false] at ht
  rcases ht with rfl | rfl | rfl | rfl | rfl | rfl | rfl | rfl <;> simp [opOr,isT]
theorem Clo.dot : isT 5 [46] r = false := by
 rcases h with rfl | ⟨t,r',rfl,ht⟩
 ·simp [isT]
 ·simp only [cloT,List.mem_cons,List.not_mem_nil,or_false] at ht
  rcases ht with rfl | rfl | rfl | rfl | rfl | rfl | rfl | rfl <;> simp [isT]
end
theorem clo_tok {t : Tok} {r : List Tok} (h : t ∈ cloT) : Clo (t :: r) := .inr ⟨t,r,rfl,h⟩
theorem clo_close (r : List Tok) : Clo (sT [41] :: r) := clo_tok (by simp [cloT])
theorem clo_comma (r : List Tok) : Clo (sT [44] :: r) := clo_tok (by simp [cloT])
section
variable {E : Nat → List Tok → Pz.Res Ex} {k : Nat} {l r : List Tok} {a : Ex}
theorem lv_minus (h : oneP resv E k l = .ok (a,r)) (hs : stripN 5 [45] l = 0) : minusP resv E k l = .ok (a,r) := by
 rw [minusP]; exact ahead_zero hs h
theorem lv_term (h : minusP resv E k l = .ok (a,r)) (ho : opMul r = none) : termP resv E k l = .ok (a,r) := by
 rw [termP]; exact chain_one h ho
theorem lv_sum (h : termP resv E k l = .ok (a,r)) (ho : opSum r = none) : sumP resv E k l = .ok (a,r) := by
 rw [sumP]; exact chain_one h ho
theorem lv_test (h : sumP resv E k l = .ok (a,r)) (ho : opTest r = none) (hi : isT 1 [105,115] r = false) : testP resv E k l = .ok (a,r) := by
 rw [testP,h]
 simp only
 rw [ho]
 simp only
 rw [if_neg (by simp [hi])]
theorem lv_not (h : testP resv E k l = .ok (a,r)) (hs : stripN 1 [110,111,116] l = 0) : notP resv E k l = .ok (a,r) := by
 rw [notP]; exact ahead_zero hs h
theorem lv_both (h : notP resv E k l = .ok (a,r)) (ho : opAnd r = none) : bothP resv E k l = .ok (a,r) := by
 rw [bothP]; exact chain_one h ho
theorem lv_either (h : bothP resv E k l = .ok (a,r)) (ho : opOr r = none) : eitherP resv E k l = .ok (a,r) := by
 rw [eitherP]; exact chain_one h ho
theorem up_sum (h : sumP resv E k l = .ok (a,r)) (hn : stripN 1 [110,111,116] l = 0) (hc : Clo r) : eitherP resv E k l = .ok (a,r) :=
 lv_either (lv_both (lv_not (lv_test h hc.test hc.is) hn) hc.and) hc.or
theorem up_one (h : oneP resv E k l = .ok (a,r)) (hs : stripN 5 [45] l = 0) (hn : stripN 1 [110,111,116] l = 0) (hc : Clo r) : eitherP resv E k l = .ok (a,r) :=
 up_sum (lv_sum (lv_term (lv_minus h hs) hc.mul) hc.sum) hn hc
end
theorem resv_words : ([110,117,108,108] : Bs) ∈ resv ∧ ([116,114,117,101] : Bs) ∈ resv ∧ ([102,97,108,115,101] : Bs) ∈ resv ∧ ([110,97,110] : Bs) ∈ resv ∧ ([105,110,102,105,110,105,116,121] : Bs) ∈ resv ∧ ([105,110,116] : Bs) ∈ resv ∧ ([114,101,97,108] : Bs) ∈ resv ∧ ([110,111,116] : Bs) ∈ resv := by decide
theorem nameB_resv {x : Bs} (h : nameB x = true) : x ∉ resv := by
 unfold nameB at h
 simp only [Bool.and_eq_true,Bool.not_eq_true',decide_eq_false_iff_not] at h
 exact h.2
theorem nameB_not {x w : Bs} (h : nameB x = true) (hw : w ∈ resv) : x ≠ w := fun e => nameB_resv h (e ▸ hw)
theorem tokE_head {x : Ex} (ho : okE x = true) (r : List Tok) : stripN 5 [45] (tokE x ++ r) = 0 ∧ stripN 1 [110,111,116] (tokE x ++ r) = 0 := by
 obtain ⟨op,args,kind,num,scale,text,qual⟩ := x
 rw [okE_mk,Bool.and_eq_true,decide_eq_true_eq] at ho
 obtain ⟨hl,ho⟩ := ho
 rw [tokE_mk]
 by_cases h21 : op = 21
 ·rw [if_pos h21] at ho
  rw [shapeK_const h21]
  unfold constK
  rcases const_tok ho with ⟨rfl,_⟩ | ⟨rfl,h1,_⟩ | ⟨rfl,h1,_⟩ | ⟨h1,h2,h3,h4,h5,h6⟩
  ·simp [stripN]
  ·rcases h1 with rfl | rfl <;> simp [stripN]
  ·rcases h1 with rfl | rfl <;> simp [stripN]
  ·rw [if_neg h1,if_neg h2,if_neg h3,if_neg h4]
   rcases h6 with rfl | rfl | rfl <;> simp [stripN]
 rw [if_neg h21] at ho
 simp only [Bool.and_eq_true,decide_eq_true_eq] at ho
 obtain ⟨_,ho⟩ := ho
 by_cases h22 : op = 22
 ·rw [if_pos h22] at ho
  rw [shapeK_col h22]
  simp only [Bool.and_eq_true,Bool.or_eq_true,decide_eq_true_eq] at ho
  have h8 := resv_words.2.2.2.2.2.2.2
  by_cases hq : qual = []
  ·rw [if_pos hq]
   have := nameB_not ho.1 h8
   simp [stripN,this]
  ·rw [if_neg hq]
   have := nameB_not (ho.2.resolve_left hq) h8
   simp [stripN,this]
 rw [if_neg h22] at ho
 rcases op_none hl h21 h22 with hn | hn
 ·obtain ⟨a,rfl⟩ : ∃ a,args = [a] := List.length_eq_one_iff.1 hn
  have hop := op_one (op := op) (by simpa using hl.symm)
  rw [toksE_cons,toksE_nil,shapeK_one h21 h22]
  rcases hop with rfl | rfl | rfl | rfl | rfl | rfl <;> simp [stripN,aheadK]
 ·obtain ⟨a,b,rfl⟩ : ∃ a b,args = [a,b] := length_two hn
  rw [toksE_cons,toksE_cons,toksE_nil,shapeK_two h21 h22]
  simp [stripN]
theorem opIs {r : List Tok} : opMul (wT [105,115] :: r) = none ∧ opSum (wT [105,115] :: r) = none ∧ opTest (wT [105,115] :: r) = none := by
 simp [opMul,opSum,opTest,operS,isT]
theorem inner_ok {E : Nat → List Tok → Pz.Res Ex} {k : Nat} {l r : List Tok} {x : Ex} (hk : k < 40) (h : E (k + 1) l = .ok (x,sT [41] :: r)) : inner E k (sT [40] :: l) = .ok (x,r) := by
 have h1 : isT 5 [40] (sT [40] :: l) = true := by simp [isT]
 rw [inner,if_neg (by omega),if_pos h1,List.tail_cons,h]
 simp [isT]
theorem oneP_open {E : Nat → List Tok → Pz.Res Ex} {k : Nat} {l : List Tok} : oneP resv E k (sT [40] :: l) = inner E k (sT [40] :: l) := by
 rw [oneP]
 simp
end Go.Abs
namespace Go.Abs
open Go.Lx Go.Pz
theorem named_kw {E : Nat → List Tok → Pz.Res Ex} {k : Nat} {w : Bs} {l : List Tok} : oneP resv E k (wT w :: l) = named resv E k w (wT w :: l) := by
 rw [oneP]
 simp
theorem named_col {E : Nat → List Tok → Pz.Res Ex} {k : Nat} {w : Bs} {l : List Tok} (hw : nameB w = true) : named resv E k w (wT w :: l) = if isT 5 [46] l then (match nameR resv l.tail with
        | .error c => .error c
        | .ok (m,l2) => .ok (.col m w,l2)) else .ok (.col w [],l) := by
 obtain ⟨r1,r2,r3,r4,r5,r6,r7,_⟩ := resv_words
 have hnr := nameB_resv hw
 rw [named,if_neg (nameB_not hw r1),if_neg (nameB_not hw r2),if_neg (nameB_not hw r3),if_neg (nameB_not hw r4),if_neg (nameB_not hw r5),if_neg (by simp [nameB_not hw r6,nameB_not hw r7])]
 rw [nameR,if_pos ⟨rfl,hnr⟩]
 rfl
theorem nameR_ok {w : Bs} {l : List Tok} (hw : nameB w = true) : nameR resv (wT w :: l) = .ok (w,l) := by
 rw [nameR,if_pos ⟨rfl,nameB_resv hw⟩]
section
variable {E : Nat → List Tok → Pz.Res Ex} {k : Nat} {r : List Tok}
theorem body_one {op : Int} {a : Ex} {ta : List Tok} (hop : op = 13 ∨ op = 14 ∨ op = 15 ∨ op = 16 ∨ op = 19 ∨ op = 20) (ha : ∀ r,isT 5 [46] r = false → oneP resv E k (ta ++ r) = .ok (a,r)) (hh : ∀ r,stripN 5 [45] (ta ++ r) = 0 ∧ stripN 1 [110,111,116] (ta ++ r) = 0) :
  ∃ b,(aheadK op ++ ta ++ behindK op ++ r = (if op = 14 then wT [105,110,116] :: sT [40] :: (b ++ sT [41] :: r) else if op = 15 then wT [114,101,97,108] :: sT [40] :: (b ++ sT [41] :: r) else sT [40] :: (b ++ sT [41] :: r))) ∧
   eitherP resv E k (b ++ sT [41] :: r) = .ok ((if op = 14 ∨ op = 15 then a else .un op a),sT [41] :: r) := by
 have hc := clo_close r
 rcases hop with rfl | rfl | rfl | rfl | rfl | rfl
 ·refine ⟨sT [45] :: ta,by simp [aheadK,behindK],?_⟩
  have h1 : minusP resv E k (sT [45] :: ta ++ sT [41] :: r) = .ok (.un 13 a,sT [41] :: r) := by
   rw [minusP]
   refine ahead_one ?_ ?_
   ·have := (hh (sT [41] :: r)).1
    rw [List.cons_append,stripN]
    simp [this]
   ·simpa using ha (sT [41] :: r) hc.dot
  exact up_sum (lv_sum (lv_term h1 hc.mul) hc.sum) (by simp [stripN]) hc
 ·exact ⟨ta,by simp [aheadK,behindK],up_one (ha _ hc.dot) (hh _).1 (hh _).2 hc⟩
 ·exact ⟨ta,by simp [aheadK,behindK],up_one (ha _ hc.dot) (hh _).1 (hh _).2 hc⟩
 ·refine ⟨wT [110,111,116] :: ta,by simp [aheadK,behindK],?_⟩
  have h1 : testP resv E k (ta ++ sT [41] :: r) = .ok (a,sT [41] :: r) := lv_test (lv_sum (lv_term (lv_minus (ha _ hc.dot) (hh _).1) hc.mul) hc.sum) hc.test hc.is
  have h2 : notP resv E k (wT [110,111,116] :: ta ++ sT [41] :: r) = .ok (.un 16 a,sT [41] :: r) := by
   rw [notP]
   refine ahead_one ?_ (by simpa using h1)
   have := (hh (sT [41] :: r)).2
   rw [List.cons_append,stripN]
   simp [this]
  exact lv_either (lv_both h2 hc.and) hc.or
 ·refine ⟨ta ++ [wT [105,115],wT [110,117,108,108]],by simp [aheadK,behindK],?_⟩
  obtain ⟨o1,o2,o3⟩ := opIs (r := wT [110,117,108,108] :: sT [41] :: r)
  have h0 := ha (wT [105,115] :: wT [110,117,108,108] :: sT [41] :: r) (by simp [isT])
  have h1 := lv_sum (lv_term (lv_minus h0 (hh _).1) o1) o2
  have h2 : testP resv E k (ta ++ wT [105,115] :: wT [110,117,108,108] :: sT [41] :: r) = .ok (.un 19 a,sT [41] :: r) := by
   rw [testP,h1]
   simp only
   rw [o3]
   simp [isT]
  have h3 := lv_either (lv_both (lv_not h2 (hh _).2) hc.and) hc.or
  simpa using h3
 ·refine ⟨ta ++ [wT [105,115],wT [110,111,116],wT [110,117,108,108]],by simp [aheadK,behindK],?_⟩
  obtain ⟨o1,o2,o3⟩ := opIs (r := wT [110,111,116] :: wT [110,117,108,108] :: sT [41] :: r)
  have h0 := ha (wT [105,115] :: wT [110,111,116] :: wT [110,117,108,108] :: sT [41] :: r) (by simp [isT])
  have h1 := lv_sum (lv_term (lv_minus h0 (hh _).1) o1) o2
  have h2 : testP resv E k (ta ++ wT [105,115] :: wT [110,111,116] :: wT [110,117,108,108] :: sT [41] :: r) = .ok (.un 20 a,sT [41] :: r) := by
   rw [testP,h1]
   simp only
   rw [o3]
   simp [isT]
  have h3 := lv_either (lv_both (lv_not h2 (hh _).2) hc.and) hc.or
  simpa using h3
theorem body_two {op : Int} {a b : Ex} {ta tb : List Tok} (hop : op = 1 ∨ op = 2 ∨ op = 3 ∨ op = 4 ∨ op = 5 ∨ op = 6 ∨ op = 7 ∨ op = 8 ∨ op = 9 ∨ op = 10 ∨ op = 11 ∨ op = 12 ∨ op = 17 ∨ op = 18) (ha : ∀ r,isT 5 [46] r = false → oneP resv E k (ta ++ r) = .ok (a,r)) (hh : ∀ r,stripN 5 [45] (ta ++ r) = 0 ∧ stripN 1 [110,111,116] (ta ++ r) = 0)
  (hb : ∀ r,isT 5 [46] r = false → oneP resv E k (tb ++ r) = .ok (b,r)) (hhb : ∀ r,stripN 5 [45] (tb ++ r) = 0 ∧ stripN 1 [110,111,116] (tb ++ r) = 0) :
  eitherP resv E k (ta ++ signK op :: (tb ++ sT [41] :: r)) = .ok (.bin op a b,sT [41] :: r) := by
 have hc := clo_close r
 have hdot : isT 5 [46] (signK op :: (tb ++ sT [41] :: r)) = false := by
  rcases hop with rfl | rfl | rfl | rfl | rfl | rfl | rfl | rfl | rfl | rfl | rfl | rfl | rfl | rfl <;> simp [isT,signK,signT]
 have am := lv_minus (ha _ hdot) (hh _).1
 have bm := lv_minus (hb _ hc.dot) (hhb (sT [41] :: r)).1
 have bt := lv_term bm hc.mul
 have bs := lv_sum bt hc.sum
 have btt := lv_test bs hc.test hc.is
 have bn := lv_not btt (hhb _).2
 have bb := lv_both bn hc.and
 rcases hop with rfl | rfl | rfl | rfl | rfl | rfl | rfl | rfl | rfl | rfl | rfl | rfl | rfl | rfl
 iterate 6
  ·have asu := lv_sum (lv_term am (by simp [opMul,operS,isT,signK,signT])) (by simp [opSum,operS,isT,signK,signT])
   refine lv_either (lv_both (lv_not ?_ (hh _).2) hc.and) hc.or
   rw [testP,asu]
   simp only
   simp only [opTest,operS,isT,signK,signT]
   simp [bs]
 ·exact up_sum (by rw [sumP]; exact chain_two (lv_term am (by simp [opMul,operS,isT,signK,signT])) (by simp [opSum,operS,isT,signK,signT]) bt hc.sum (by simp)) (hh _).2 hc
 ·exact up_sum (by rw [sumP]; exact chain_two (lv_term am (by simp [opMul,operS,isT,signK,signT])) (by simp [opSum,operS,isT,signK,signT]) bt hc.sum (by simp)) (hh _).2 hc
 ·exact up_sum (lv_sum (by rw [termP]; exact chain_two am (by simp [opMul,operS,isT,signK,signT]) bm hc.mul (by simp)) hc.sum) (hh _).2 hc
 ·exact up_sum (lv_sum (by rw [termP]; exact chain_two am (by simp [opMul,operS,isT,signK,signT]) bm hc.mul (by simp)) hc.sum) (hh _).2 hc
 ·exact up_sum (lv_sum (by rw [termP]; exact chain_two am (by simp [opMul,operS,isT,signK,signT]) bm hc.mul (by simp)) hc.sum) (hh _).2 hc
 ·exact up_sum (by rw [sumP]; exact chain_two (lv_term am (by simp [opMul,operS,isT,signK,signT])) (by simp [opSum,operS,isT,signK,signT]) bt hc.sum (by simp)) (hh _).2 hc
 ·have an := lv_not (lv_test (lv_sum (lv_term am (by simp [opMul,operS,isT,signK])) (by simp [opSum,operS,isT,signK])) (by simp [opTest,operS,isT,signK]) (by simp [isT,signK])) (hh _).2
  exact lv_either (by rw [bothP]; exact chain_two an (by simp [opAnd,isT,signK]) bn hc.and (by simp)) hc.or
 ·have ab := lv_both (lv_not (lv_test (lv_sum (lv_term am (by simp [opMul,operS,isT,signK])) (by simp [opSum,operS,isT,signK])) (by simp [opTest,operS,isT,signK]) (by simp [isT,signK])) (hh _).2) (by simp [opAnd,isT,signK])
  rw [eitherP]
  exact chain_two ab (by simp [opOr,isT,signK]) bb hc.or (by simp)
end
end Go.Abs
namespace Go.Abs
open Go.Lx Go.Pz
theorem depthL_one {a : Ex} : depthL [a] = a.depth + 1 := by rw [depthL_cons,depthL_nil]; omega
theorem depthL_two {a b : Ex} : depthL [a,b] = max (a.depth + 1) (b.depth + 1) := by rw [depthL_cons,depthL_cons,depthL_nil]; omega
theorem const_one {E : Nat → List Tok → Pz.Res Ex} {k : Nat} {kind num scale : Int} {text qual : Bs} (h : constB kind num scale text qual = true) {r : List Tok} : oneP resv E k (constK kind num scale text ++ r) = .ok (.const kind num scale text,r) := by
 unfold constK
 rcases const_tok h with ⟨rfl,rfl,rfl,rfl⟩ | ⟨rfl,h1,rfl,rfl⟩ | ⟨rfl,h1,rfl,rfl⟩ | ⟨h1,h2,h3,h4,h5,h6⟩
 ·show oneP resv E k (wT [110,117,108,108] :: r) = _
  rw [named_kw]; rfl
 ·rcases h1 with rfl | rfl
  ·show oneP resv E k (wT [102,97,108,115,101] :: r) = _
   rw [named_kw]; rfl
  ·show oneP resv E k (wT [116,114,117,101] :: r) = _
   rw [named_kw]; rfl
 ·rcases h1 with rfl | rfl
  ·show oneP resv E k (wT [110,97,110] :: r) = _
   rw [named_kw]; rfl
  ·show oneP resv E k (wT [105,110,102,105,110,105,116,121] :: r) = _
   rw [named_kw]; rfl
 ·rw [if_neg h1,if_neg h2,if_neg h3,if_neg h4,List.cons_append,List.nil_append,oneP]
  cases h5 with
  | word => simp at h6
  | int n h => simp
  | real n k hk hk' h => simp
  | text b h => simp
  | sign1 => simp at h6
  | sign2 => simp at h6
theorem one_text : ∀ (w : Nat) (x : Ex),x.w ≤ w → okE x = true → ∀ (n k : Nat),x.depth ≤ n → k + x.depth ≤ 40 → ∀ r,isT 5 [46] r = false → oneP resv (Pz.either resv n) k (tokE x ++ r) = .ok (x,r) := by
 intro w
 induction w using Nat.strongRecOn with
 | _ w ih =>
   intro x hx ho n k hn hk r hr
   obtain ⟨op,args,kind,num,scale,text,qual⟩ := x
   rw [okE_mk,Bool.and_eq_true,decide_eq_true_eq] at ho
   obtain ⟨hl,ho⟩ := ho
   rw [w_mk] at hx
   rw [depth_mk] at hn hk
   rw [tokE_mk]
   by_cases h21 : op = 21
   ·rw [if_pos h21] at ho
    rw [shapeK_const h21,const_one ho]
    subst h21
    have hl0 : args = [] := List.eq_nil_of_length_eq_zero (by have : opnds 21 = 0 := by decide
                                                              omega)
    have hq : qual = [] := by unfold constB at ho; simp only [Bool.and_eq_true,decide_eq_true_eq] at ho; exact ho.1
    subst hl0 hq
    rfl
   rw [if_neg h21] at ho
   simp only [Bool.and_eq_true,decide_eq_true_eq] at ho
   obtain ⟨⟨⟨rfl,rfl⟩,rfl⟩,ho⟩ := ho
   by_cases h22 : op = 22
   ·rw [if_pos h22] at ho
    rw [shapeK_col h22]
    subst h22
    simp only [Bool.and_eq_true,Bool.or_eq_true,decide_eq_true_eq] at ho
    have hl0 : args = [] := List.eq_nil_of_length_eq_zero (by have : opnds 22 = 0 := by decide
                                                              omega)
    subst hl0
    by_cases hq : qual = []
    ·subst hq
     rw [if_pos rfl,List.cons_append,List.nil_append,named_kw,named_col ho.1,if_neg (by simp [hr])]
    ·rw [if_neg hq]
     show oneP resv (Pz.either resv n) k (wT qual :: sT [46] :: wT text :: r) = _
     rw [named_kw,named_col (ho.2.resolve_left hq),if_pos (by simp [isT]),List.tail_cons,nameR_ok ho.1]
   rw [if_neg h22] at ho
   simp only [Bool.and_eq_true,decide_eq_true_eq] at ho
   obtain ⟨⟨hL,rfl⟩,rfl⟩ := ho
   rcases op_none hl h21 h22 with hn1 | hn1
   ·obtain ⟨a,rfl⟩ : ∃ a,args = [a] := List.length_eq_one_iff.1 hn1
    have hw : wL [a] = a.w + 1 := by rw [wL_cons,wL_nil]
    rw [depthL_one] at hn hk
    obtain ⟨n,rfl⟩ : ∃ m,n = m + 1 := ⟨n - 1,by omega⟩
    have hoa := okL_iff.1 hL a (by simp)
    have hop := op_one (op := op) (by simpa using hl.symm)
    rw [toksE_cons,toksE_nil,shapeK_one h21 h22]
    obtain ⟨b,hb1,hb2⟩ := body_one (r := r) hop (ih a.w (by omega) a (Nat.le_refl _) hoa n (k + 1) (by omega) (by omega)) (fun r => tokE_head hoa r)
    rw [hb1]
    have hE : Pz.either resv (n + 1) (k + 1) (b ++ sT [41] :: r) = .ok ((if op = 14 ∨ op = 15 then a else .un op a),sT [41] :: r) := hb2
    have hin := inner_ok (E := Pz.either resv (n + 1)) (k := k) (by omega) hE
    by_cases h14 : op = 14
    ·subst h14
     rw [if_pos rfl,named_kw,named,if_neg (by decide),if_neg (by decide),if_neg (by decide),if_neg (by decide),if_neg (by decide),if_pos (by simp),List.tail_cons,hin]
     rfl
    ·by_cases h15 : op = 15
     ·subst h15
      rw [if_neg (by decide),if_pos rfl,named_kw,named,if_neg (by decide),if_neg (by decide),if_neg (by decide),if_neg (by decide),if_neg (by decide),if_pos (by simp),List.tail_cons,hin]
      rfl
     ·rw [if_neg h14,if_neg h15,oneP_open,hin,if_neg (by omega)]
   ·obtain ⟨a,b,rfl⟩ : ∃ a b,args = [a,b] := length_two hn1
    have hw : wL [a,b] = a.w + b.w + 2 := by rw [wL_cons,wL_cons,wL_nil]; omega
    rw [depthL_two] at hn hk
    obtain ⟨n,rfl⟩ : ∃ m,n = m + 1 := ⟨n - 1,by omega⟩
    have hoa := okL_iff.1 hL a (by simp)
    have hob := okL_iff.1 hL b (by simp)
    have hop := op_two (op := op) (by simpa using hl.symm)
    rw [toksE_cons,toksE_cons,toksE_nil,shapeK_two h21 h22]
    have hb := body_two (r := r) hop (ih a.w (by omega) a (Nat.le_refl _) hoa n (k + 1) (by omega) (by omega)) (fun r => tokE_head hoa r) (ih b.w (by omega) b (Nat.le_refl _) hob n (k + 1) (by omega) (by omega)) (fun r => tokE_head hob r)
    have hE : Pz.either resv (n + 1) (k + 1) (tokE a ++ signK op :: (tokE b ++ sT [41] :: r)) = .ok (.bin op a b,sT [41] :: r) := hb
    have hin := inner_ok (E := Pz.either resv (n + 1)) (k := k) (by omega) hE
    have := (oneP_open (E := Pz.either resv (n + 1)) (k := k) (l := tokE a ++ signK op :: (tokE b ++ sT [41] :: r))).trans hin
    simpa [List.append_assoc] using this
end Go.Abs
namespace Go.Abs
open Go Go.RowKit Go.Proofs Go.Lx
structure Tb (w0 : World) : Prop where
 pow : Lib.TabIs Tryz.prog w0 "internal/strconv.uint64pow10" .u64 Lib.pow10Tab
 mx : ∃ m,w0.cell? ⟨0,0,none⟩ = some (.int .i64 m)
section
variable {w0 : World}
theorem w138 (hT : Tb w0) {n : Int} (h0 : -9223372036854775808 ≤ n) (h1 : n ≤ 9223372036854775807) (S : Heap) :
  ACalls Tryz.prog (B0 w0) 138 [.int n,.int 10] S fun e S' => e = .ret (.str (Lib.itoa n)) ∧ S' = S := by
 refine ACalls.liftS (by kernel_rfl) fun F m vs w hs hrel => ?_
 obtain ⟨u1,u2,rfl,g1,g2⟩ := vs_two hrel
 obtain rfl := g1.int_inv
 obtain rfl := g2.int_inv
 have htab : Lib.TabIs Tryz.prog w "internal/strconv.uint64pow10" .u64 Lib.pow10Tab := by
  have h := hT.pow
  have hb : Below w0.heap.size w0 w := hs.below
  unfold Lib.TabIs World.var? at h ⊢
  have hg : Tryz.prog.globalNamed "internal/strconv.uint64pow10" = some 4 := by kernel_rfl
  rw [hg] at h ⊢
  simp only [Option.bind_some] at h ⊢
  have hlt : 4 < w0.heap.size := by
   rcases Nat.lt_or_ge 4 w0.heap.size with h' | h'
   ·exact h'
   ·rw [Array.getElem?_eq_none h'] at h; cases h
  rw [hb.block 4 hlt]
  exact h
 refine (Tryz.strconv_FormatInt_10 n h0 h1 w htab).mono fun e w' ⟨he,k,os,hw⟩ => ?_
 subst hw
 exact ⟨_,he,Rel.str (F := F) (m := m) _,⟨rfl,rfl,rfl,by show w.heap.size ≤ (w.heap ++ os).size; rw [Array.size_append]; omega,fun i hi => by
  show (w.heap ++ os)[i]? = _
  rw [Array.getElem?_append_left hi]⟩⟩
theorem w137 (b : Bool) (S : Heap) : ACalls Tryz.prog (B0 w0) 137 [.bool b] S fun e S' => e = .ret (.str (Lib.formatBool b)) ∧ S' = S := by
 refine ACalls.lift (by kernel_rfl) fun F m vs w hv => ?_
 obtain ⟨u,rfl,hu⟩ := vs_one hv
 obtain rfl := hu.bool_inv
 refine (Tryz.strconv_FormatBool b w).mono fun e w' ⟨he,hw⟩ => ?_
 subst hw
 exact ⟨_,he,Rel.str (F := F) (m := m) _,Below.refl _ _⟩
theorem w136 {l : Bs} (h : l.all (fun b => decide (b.toNat < 128)) = true) (hl : l.length ≤ 140737488355328) (S : Heap) : ACalls Tryz.prog (B0 w0) 136 [.str l] S fun e S' => e = .ret (.str (Lib.toUpperA l)) ∧ S' = S := by
 refine ACalls.lift (by kernel_rfl) fun F m vs w hv => ?_
 obtain ⟨u,rfl,hu⟩ := vs_one hv
 obtain rfl := hu.str_inv
 simp only [decide_eq_true_eq,List.all_eq_true] at h
 refine (Tryz.strings_ToUpper_ascii ⟨l.toArray⟩ w (by simpa [ByteArray.size] using hl) (fun j b hb => h b (by simpa using List.mem_of_getElem? hb))).mono fun e w' ⟨he,hb⟩ => ?_
 exact ⟨_,he,Rel.str (F := F) (m := m) _,hb⟩
theorem w48 (l : Bs) (c : UInt8) (S : Heap) : ACalls Tryz.prog (B0 w0) 48 [.str l,.str [c]] S fun e S' => e = .ret (.bool (decide (0 ≤ Lib.indexByte l c))) ∧ S' = S := by
 refine ACalls.lift (by kernel_rfl) fun F m vs w hv => ?_
 obtain ⟨u1,u2,rfl,h1,h2⟩ := vs_two hv
 obtain rfl := h1.str_inv
 obtain rfl := h2.str_inv
 refine (Tryz.strings_Contains_one ⟨l.toArray⟩ c w).mono fun e w' ⟨he,hw⟩ => ?_
 subst hw
 exact ⟨_,he,.atom _,Below.refl _ _⟩
theorem vs_three {F m} {x y z : AVal} {vs : Array Value} (h : RelL F m [x,y,z] vs) : ∃ u v t,vs = #[u,v,t] ∧ Rel F m x u ∧ Rel F m y v ∧ Rel F m z t := by
 obtain ⟨hl,hg⟩ := h
 obtain ⟨l⟩ := vs
 match l,hl with
 | [u,v,t],_ => exact ⟨u,v,t,rfl,hg 0 (by simp),hg 1 (by simp),hg 2 (by simp)⟩
theorem countB_le (l : Bs) : Lib.countB ⟨l.toArray⟩ ⟨#[39]⟩ ≤ l.length := by
 have := Lib.countB_le ⟨#[39]⟩ (by decide) l.length ⟨l.toArray⟩ (by simp [ByteArray.size])
 simpa [ByteArray.size] using this
theorem w139 (hT : Tb w0) {l : Bs} (hl : l.length < 4294967281) (S : Heap) : ACalls Tryz.prog (B0 w0) 139 [.str l,.str [39],.str [39,39]] S fun e S' => e = .ret (.str (Lib.replaceAll l [39] [39,39])) ∧ S' = S := by
 refine ACalls.liftS (by kernel_rfl) fun F m vs w hs hrel => ?_
 obtain ⟨u1,u2,u3,rfl,g1,g2,g3⟩ := vs_three hrel
 obtain rfl := g1.str_inv
 obtain rfl := g2.str_inv
 obtain rfl := g3.str_inv
 obtain ⟨mx,hm⟩ := hT.mx
 have hb : Below w0.heap.size w0 w := hs.below
 have hm' := (hb.cell (World.block_lt_of_cell? w0 _ hm)).trans hm
 have hc := countB_le l
 refine (Tryz.strings_ReplaceAll ⟨l.toArray⟩ ⟨#[39]⟩ ⟨#[39,39]⟩ mx w (by simpa [ByteArray.size] using hl) hm' (by decide) ?_).mono fun e w' ⟨he,hb⟩ => ?_
 ·have e1 : (⟨l.toArray⟩ : ByteArray).size = l.length := by simp [ByteArray.size]
  have e2 : (⟨#[39,39]⟩ : ByteArray).size = 2 := rfl
  rw [e1,e2]; omega
 exact ⟨_,he,Rel.str (F := F) (m := m) _,hb⟩
theorem w33 {S : Heap} {v : AVal} {xs : List Bs} {sep : Bs} (hv : Rk 1 S v (strs xs)) (hN : xs.length ≤ 140737488355328) (hl : (Lib.join xs sep).length ≤ 140737488355328) :
  ACalls Tryz.prog (B0 w0) 33 [v,.str sep] S fun e S' => e = .ret (.str (Lib.join xs sep)) ∧ S' = S := by
 have hv := hv.elems
 refine ACalls.liftS (by kernel_rfl) fun F m vs w hs hrel => ?_
 obtain ⟨u1,u2,rfl,h1,h2⟩ := vs_two hrel
 obtain rfl := h2.str_inv
 have hk : ∀ e ∈ strs xs,e.length = 1 := by simp [strs]
 obtain ⟨A,cap,rfl,hne⟩ := elems_at hs h1 hv hk
 have hle : (strs xs).length ≤ cap := by
  generalize (strs xs).length = n at h1
  cases h1 with
  | nil cap hc => simp
  | list _ _ _ _ _ _ _ _ _ _ _ hcap => exact hcap
  | row _ _ _ _ _ _ _ hl => exact hl
  | _ => exact absurd hv (by simp [elemsOf])
 by_cases h0 : xs = []
 ·subst h0
  refine (Tryz.strings_Join_none A cap ⟨sep.toArray⟩ w).mono fun e w' ⟨he,hw⟩ => ?_
  subst hw
  exact ⟨_,he,Rel.str (F := F) (m := m) [],Below.refl _ _⟩
 ·have hne' : strs xs ≠ [] := by intro h; exact h0 (List.map_eq_nil_iff.1 h)
  obtain ⟨b,x,rfl,hin⟩ := hne hne'
  have hcell : ∀ (j : Nat) (s : Bs),xs[j]? = some s → w.cell? ⟨b,x + j,none⟩ = some (.string ⟨s.toArray⟩) := fun j s hj => by
   have hjl : j < xs.length := by
    rcases Nat.lt_or_ge j xs.length with h | h
    ·exact h
    ·rw [List.getElem?_eq_none h] at hj; cases hj
   have hg : (strs xs).getD j [] = [.str s] := by
    rw [getD_eq _ _ _ (by simpa [strs] using hjl)]
    rw [List.getElem?_eq_getElem hjl] at hj
    simp only [Option.some.injEq] at hj
    simp [strs,hj]
   have := hin j (by simpa [strs] using hjl)
   rw [hg] at this
   obtain ⟨u,hu,_,hr⟩ := this 0 (by simp)
   have hr' : Rel F m (.str s) u := hr
   obtain rfl := hr'.str_inv
   simpa using hu
  have hb : b < w.heap.size := by
   cases xs with
   | nil => exact absurd rfl h0
   | cons s r =>
     have := hcell 0 s rfl
     exact World.block_lt_of_cell? _ _ this
  have hmap : (xs.map fun s => (⟨s.toArray⟩ : ByteArray)).map (fun z => z.data.toList) = xs := by
   rw [List.map_map]
   exact (List.map_congr_left fun s _ => rfl).trans (List.map_id _)
  have hlen : (strs xs).length = (xs.map fun s => (⟨s.toArray⟩ : ByteArray)).length := by simp [strs]
  have := Tryz.strings_Join b x cap (xs.map fun s => (⟨s.toArray⟩ : ByteArray)) ⟨sep.toArray⟩ w (fun j z hj => by
   simp only [List.getElem?_map,Option.map_eq_some_iff] at hj
   obtain ⟨s,hs,rfl⟩ := hj
   exact hcell j s hs) hb (by simpa using hN) (by rw [← hlen]; exact hle) (by rw [hmap]; exact hl)
  rw [← hlen,hmap] at this
  refine this.mono fun e w' ⟨he,hw⟩ => ⟨_,he,Rel.str (F := F) (m := m) _,hw⟩
end
end Go.Abs
namespace Go.Abs
open Go Go.RowKit Go.Proofs Go.Lx
theorem dec_digs : ∀ (n : Nat) (u : Nat),u ≤ n → Lib.decDigits u = digs u
 | 0,u,h => by
   have : u = 0 := by omega
   subst this
   rw [Lib.decDigits_one (by decide),digs,dif_pos (by decide)]
 | n + 1,u,h => by
   by_cases h9 : u ≤ 9
   ·rw [Lib.decDigits_one (by omega),digs,dif_pos h9]
   ·rw [Lib.decDigits,dif_neg (by omega),digs,dif_neg h9,dec_digs n (u / 10) (by omega)]
theorem itoa_digs {n : Int} (h : 0 ≤ n) : Lib.itoa n = digs n.toNat := by
 rw [Lib.itoa,if_neg (by omega),dec_digs _ _ (Nat.le_refl _)]
theorem rep_dbl : ∀ (l : Bs) (k : Nat),l.count 39 ≤ k → Lib.replaceK [39] [39,39] k l = dbl l
 | [],0,_ => rfl
 | [],k + 1,_ => by rw [Lib.replaceK]; simp [Lib.index,dbl]
 | b :: r,k,h => by
   by_cases hb : b = 39
   ·subst hb
    rw [List.count_cons_self] at h
    obtain ⟨k,rfl⟩ : ∃ k',k = k' + 1 := ⟨k - 1,by omega⟩
    rw [Lib.replaceK_hit _ _ _ _ 0 (by simp [Lib.index])]
    simp only [List.take_zero,List.nil_append,List.length_singleton,Nat.zero_add,List.drop_succ_cons,List.drop_zero]
    rw [rep_dbl r k (by omega),dbl,if_pos (by decide)]; rfl
   ·have hb' : ¬ b.toNat = 39 := fun e => hb (UInt8.toNat_inj.1 e)
    rw [List.count_cons_of_ne (by simpa using hb)] at h
    rw [dbl,if_neg hb']
    have ih := rep_dbl r k h
    cases k with
    | zero => rw [Lib.replaceK] at ih ⊢; rw [← ih]
    | succ k =>
      have hp : ([39] : Bs).isPrefixOf (b :: r) = false := by simp [List.isPrefixOf]; exact fun e => hb e.symm
      by_cases hm : Lib.index r [39] = -1
      ·have e1 : Lib.index (b :: r) [39] = -1 := by rw [Lib.index,hp,if_neg (by simp),hm]; rfl
       rw [Lib.replaceK,hm] at ih
       rw [Lib.replaceK,e1,← ih]; rfl
      ·have hge := Lib.index_ge r [39]
       obtain ⟨i,hi⟩ : ∃ i : Nat,Lib.index r [39] = i := ⟨(Lib.index r [39]).toNat,by omega⟩
       have e1 : Lib.index (b :: r) [39] = ((i + 1 : Nat) : Int) := by
        rw [Lib.index,hp,if_neg (by simp),hi,if_neg (by simp)]; simp
       rw [Lib.replaceK_hit _ _ _ _ _ hi] at ih
       rw [Lib.replaceK_hit _ _ _ _ _ e1,← ih]
       simp
theorem replace_dbl (l : Bs) : Lib.replaceAll l [39] [39,39] = dbl l := by
 have h : Lib.count l [39] = l.count 39 := Lib.count_one _ _
 rw [Lib.replaceAll,Lib.replace,if_neg (by decide),Lib.replaceNum,if_pos (.inl (by decide)),rep_dbl _ _ (Nat.le_of_eq h.symm)]
theorem digs_len : ∀ (k : Nat) (n : Nat),n < 10 ^ k → 1 ≤ k → (digs n).length ≤ k
 | 0,n,h,h1 => by omega
 | k + 1,n,h,h1 => by
   by_cases h9 : n ≤ 9
   ·rw [digs,dif_pos h9]; simp
   ·rw [digs,dif_neg h9]
    have hk : 1 ≤ k := by
     rcases Nat.eq_zero_or_pos k with rfl | h'
     ·simp at h; omega
     ·exact h'
    have := digs_len k (n / 10) (by rw [Nat.pow_succ] at h; omega) hk
    simp; omega
def pointT (n k : Nat) : Bs := (padz (digs n) k).take ((padz (digs n) k).length - k) ++ 46 :: (padz (digs n) k).drop ((padz (digs n) k).length - k)
theorem padz_len (l : Bs) (k : Nat) : (padz l k).length = max l.length (k + 1) := by simp [padz]; omega
theorem pointT_len {n k : Nat} (hn : n ≤ 999999999999999) (hk : k ≤ 14) : (pointT n k).length ≤ 16 := by
 have h1 := digs_len 15 n (by omega) (by decide)
 have h2 := padz_len (digs n) k
 simp only [pointT,List.length_append,List.length_cons,List.length_take,List.length_drop]
 omega
end Go.Abs
namespace Go.Abs
open Go Go.RowKit Go.Proofs Go.Lx Go.Pz
variable {w0 : World}
set_option maxHeartbeats 2000000 in
theorem w100 (op : Int) (S : Heap) : ACalls Tryz.prog (B0 w0) 100 [.int op] S fun e S' => e = .ret (.int (opnds op)) ∧ S' = S := by
 refine fn_sound tryOrd (f100_c _) (by simp [f100]) ?_
 by_cases h1 : op < 1
 ·have a1 : (op == 21) = false := beq_eq_false_iff_ne.2 (by omega)
  have a2 : (op == 22) = false := beq_eq_false_iff_ne.2 (by omega)
  have a3 : (op == 17) = false := beq_eq_false_iff_ne.2 (by omega)
  have a4 : (op == 18) = false := beq_eq_false_iff_ne.2 (by omega)
  have a5 : ¬ 1 ≤ op := by omega
  have a6 : ¬ 13 ≤ op := by omega
  simp [f100,f100m,h1,a1,a2,a3,a4,a5,a6,opnds]
 by_cases h2 : 22 < op
 ·have a1 : (op == 21) = false := beq_eq_false_iff_ne.2 (by omega)
  have a2 : (op == 22) = false := beq_eq_false_iff_ne.2 (by omega)
  have a3 : (op == 17) = false := beq_eq_false_iff_ne.2 (by omega)
  have a4 : (op == 18) = false := beq_eq_false_iff_ne.2 (by omega)
  have a5 : 1 ≤ op := by omega
  have a6 : ¬ op ≤ 12 := by omega
  have a7 : 13 ≤ op := by omega
  have a8 : ¬ op ≤ 20 := by omega
  simp [f100,f100m,h1,h2,a1,a2,a3,a4,a5,a6,a7,a8,opnds]
 obtain ⟨n,hn⟩ : ∃ n : Nat,op = n := ⟨op.toNat,by omega⟩
 have hc : n = 1 ∨ n = 2 ∨ n = 3 ∨ n = 4 ∨ n = 5 ∨ n = 6 ∨ n = 7 ∨ n = 8 ∨ n = 9 ∨ n = 10 ∨ n = 11 ∨ n = 12 ∨ n = 13 ∨ n = 14 ∨ n = 15 ∨ n = 16 ∨ n = 17 ∨ n = 18 ∨ n = 19 ∨ n = 20 ∨ n = 21 ∨ n = 22 := by omega
 subst hn
 rcases hc with rfl | rfl | rfl | rfl | rfl | rfl | rfl | rfl | rfl | rfl | rfl | rfl | rfl | rfl | rfl | rfl | rfl | rfl | rfl | rfl | rfl | rfl
 all_goals simp [f100,f100m,opnds,opTab]
set_option maxHeartbeats 1000000 in
theorem w140 (hT : Tb w0) {n k : Nat} (hn : n ≤ 999999999999999) (hk : k ≤ 14) (S : Heap) : ACalls Tryz.prog (B0 w0) 140 [.int n,.int k] S fun e S' => e = .ret (.str (pointT n k)) ∧ S' = S := by
 have hd := digs_len 15 n (by omega) (by decide)
 have h138 := fun S => w138 hT (n := n) (by omega) (by omega) S
 have e1 : Lib.itoa (n : Int) = digs n := by rw [itoa_digs (by omega)]; simp
 simp only [e1] at h138
 refine fn_sound tryOrd (f140_c _) (by simp [f140]) ?_
 simp [f140,f140m]
 refine (h138 _).use ?_
 rintro e S1 ⟨rfl,rfl⟩
 simp
 refine mwp_loop (I := fun m a S' => ∃ j,m = k + 1 - (digs n).length - j ∧ j ≤ k + 1 - (digs n).length ∧ S' = S1 ∧ get a 1 = .int k ∧ get a 5 = .str (List.replicate j 48 ++ digs n)) (n := k + 1 - (digs n).length) ⟨0,by omega,by omega,rfl,by simp,by simp⟩ ?_
 rintro m a S' ⟨j,rfl,hj,rfl,a1,a5⟩
 by_cases hlt : j + (digs n).length ≤ k
 ·have h' : (j : Int) + ((digs n).length : Int) ≤ (k : Int) := by omega
  simp [f140b0,a1,a5,h']
  refine ⟨?_,k + 1 - (digs n).length - (j + 1),by omega,j + 1,rfl,by omega,by simp [List.replicate_succ,a1]⟩
  omega
 ·have h' : ¬ (j : Int) + ((digs n).length : Int) ≤ (k : Int) := by omega
  have hje : j = k + 1 - (digs n).length := by omega
  have hp : List.replicate j 48 ++ digs n = padz (digs n) k := by rw [padz,hje]
  have hpl := padz_len (digs n) k
  have hpl' : ((padz (digs n) k).length : Int) = j + (digs n).length := by omega
  have hw : IntKind.i64.wrap (((padz (digs n) k).length : Int) - (k : Int)) = (((padz (digs n) k).length - k : Nat) : Int) := by rw [wrap64_in (by omega) (by omega)]; omega
  rw [hp] at a5
  rw [hpl'] at hw
  have hle : (padz (digs n) k).length - k ≤ (padz (digs n) k).length := Nat.sub_le _ _
  have hge : k ≤ (padz (digs n) k).length := by omega
  have hsml : (padz (digs n) k).length ≤ 100 := by omega
  generalize hm : (padz (digs n) k).length - k = q at *
  simp [f140b0,a1,a5,h',hpl',hw,sslcR,bound,pointT,hm]
  omega
set_option maxHeartbeats 2000000 in
theorem w101 (hT : Tb w0) (v : AVal) (hv : v.one = true) (op kind num scale : Int) (text qual : Bs) (hnum : num ≤ 9223372036854775807) (S : Heap) :
  ACalls Tryz.prog (B0 w0) 101 [.agg [.int op,v,.int kind,.int num,.int scale,.str text,.str qual]] S fun e S' => e = .ret (.bool (constB kind num scale text qual)) ∧ S' = S := by
 refine ACalls.close (R := fun e S' => e = .ret (.bool (constB kind num scale text qual)) ∧ S'.take S.length = S) ?_ ?_
 rotate_left 1
 ·rintro e S' ⟨rfl,ht⟩
  exact .flat ht rfl ⟨rfl,rfl⟩
 refine fn_sound tryOrd (f101_c _) (by simp [f101]) ?_
 by_cases hq : qual = []
 rotate_left 1
 ·simp [f101,f101m,hv,hq,constB]
 subst hq
 by_cases k4 : kind = 4
 ·subst k4
  by_cases hs : scale = 0
  rotate_left 1
  ·have hs' : (scale != 0) = true := by simp [hs]
   simp [f101,f101m,hv,hs,hs',constB]
  subst hs
  by_cases hn : num = 0
  rotate_left 1
  ·have hn' : (num == 0) = false := beq_eq_false_iff_ne.2 hn
   simp [f101,f101m,hv,hn,hn',constB]
  by_cases ht : text.length < 201
  ·have ht' : (text.length : Int) ≤ 200 := by omega
   simp [f101,f101m,hv,hn,ht,ht',constB]
  ·have ht' : ¬ (text.length : Int) ≤ 200 := by omega
   simp [f101,f101m,hv,hn,ht,ht',constB]
 have b4 : (kind == 4) = false := beq_eq_false_iff_ne.2 k4
 have b4' : (kind != 4) = true := by simp [k4]
 by_cases htx : text = []
 rotate_left 1
 ·simp [f101,f101m,hv,b4,b4',k4,htx,constB]
 subst htx
 by_cases k3 : kind = 3
 ·subst k3
  by_cases hs : scale = -1 ∨ scale = -2
  ·by_cases hn : num = 0
   ·rcases hs with rfl | rfl <;> simp [f101,f101m,hv,hn,constB]
   ·have hn' : (num == 0) = false := beq_eq_false_iff_ne.2 hn
    rcases hs with rfl | rfl <;> simp [f101,f101m,hv,hn,hn',constB]
  simp only [not_or] at hs
  obtain ⟨s1,s2⟩ := hs
  have c1 : (scale == -1) = false := beq_eq_false_iff_ne.2 s1
  have c2 : (scale == -2) = false := beq_eq_false_iff_ne.2 s2
  by_cases h1 : 1 ≤ scale
  rotate_left 1
  ·simp [f101,f101m,hv,c1,c2,s1,s2,h1,constB]
  by_cases h2 : scale ≤ 14
  rotate_left 1
  ·simp [f101,f101m,hv,c1,c2,s1,s2,h1,h2,constB]
  by_cases h3 : 0 ≤ num
  rotate_left 1
  ·simp [f101,f101m,hv,c1,c2,s1,s2,h1,h2,h3,constB]
  by_cases h4 : num ≤ 999999999999999
  rotate_left 1
  ·have h4' : ¬ num < 1000000000000000 := by omega
   simp [f101,f101m,hv,c1,c2,s1,s2,h1,h2,h3,h4,h4',constB]
  have h4' : num < 1000000000000000 := by omega
  obtain ⟨n,rfl⟩ : ∃ n : Nat,num = n := ⟨num.toNat,by omega⟩
  obtain ⟨k,rfl⟩ : ∃ k : Nat,scale = k := ⟨scale.toNat,by omega⟩
  have hp := fun S => w140 hT (n := n) (k := k) (by omega) (by omega) S
  have hpl := pointT_len (n := n) (k := k) (by omega) (by omega)
  have hpl' : ((pointT n k).length : Int) ≤ 16 := by omega
  simp [f101,f101m,hv,c1,c2,s1,s2,h1,h2,h3,h4,h4',constB]
  refine (hp _).use ?_
  rintro e S1 ⟨rfl,rfl⟩
  simp [hpl']
 have b3 : (kind == 3) = false := beq_eq_false_iff_ne.2 k3
 have b3' : (kind != 3) = true := by simp [k3]
 by_cases hs : scale = 0
 rotate_left 1
 ·have hs' : (scale != 0) = true := by simp [hs]
  simp [f101,f101m,hv,b4,b4',k4,b3,b3',k3,hs,hs',constB]
 subst hs
 by_cases k0 : kind = 0
 ·subst k0
  by_cases hn : num = 0
  ·simp [f101,f101m,hv,hn,constB,mostN]
  ·have hn' : (num == 0) = false := beq_eq_false_iff_ne.2 hn
   have : ¬ (0 ≤ num ∧ num ≤ 0) := by omega
   simp [f101,f101m,hv,hn,hn',constB,mostN]
   intro h; omega
 have b0 : (kind == 0) = false := beq_eq_false_iff_ne.2 k0
 by_cases k1 : kind = 1
 ·subst k1
  by_cases hn : num = 0
  ·simp [f101,f101m,hv,hn,constB,mostN]
  by_cases hn1 : num = 1
  ·simp [f101,f101m,hv,hn1,constB,mostN]
  have hn' : (num == 0) = false := beq_eq_false_iff_ne.2 hn
  have hn1' : (num == 1) = false := beq_eq_false_iff_ne.2 hn1
  simp [f101,f101m,hv,hn,hn',hn1,hn1',constB,mostN]
  intro h; omega
 have b1 : (kind == 1) = false := beq_eq_false_iff_ne.2 k1
 by_cases k2 : kind = 2
 ·subst k2
  by_cases hn : 0 ≤ num <;> simp [f101,f101m,hv,hn,hnum,constB,mostN]
 have b2 : (kind == 2) = false := beq_eq_false_iff_ne.2 k2
 simp [f101,f101m,hv,b0,b1,b2,b3,b4,b3',b4',k0,k1,k2,k3,k4,constB]
theorem dbl_len : ∀ (l : Bs),(dbl l).length ≤ 2 * l.length
 | [] => by simp [dbl]
 | c :: r => by
   have := dbl_len r
   rw [dbl]
   split <;> simp <;> omega
theorem up_bool (b : Bool) : Lib.toUpperA (Lib.formatBool b) = if b then [84,82,85,69] else [70,65,76,83,69] := by cases b <;> kernel_rfl
set_option maxHeartbeats 2000000 in
theorem w90 (hT : Tb w0) (v : AVal) (hv : v.one = true) (op kind num scale : Int) (text qual : Bs) (hc : constB kind num scale text qual = true) (S : Heap) :
  ACalls Tryz.prog (B0 w0) 90 [.agg [.int op,v,.int kind,.int num,.int scale,.str text,.str qual]] S fun e S' => e = .ret (.str (constT kind num scale text)) ∧ S' = S := by
 refine ACalls.close (R := fun e S' => e = .ret (.str (constT kind num scale text)) ∧ S'.take S.length = S) ?_ ?_
 rotate_left 1
 ·rintro e S' ⟨rfl,ht⟩
  exact .flat ht rfl ⟨rfl,rfl⟩
 refine fn_sound tryOrd (f90_c _) (by simp [f90]) ?_
 have htk := const_tok hc
 unfold constT
 rcases htk with ⟨rfl,_⟩ | ⟨rfl,h1,_⟩ | ⟨rfl,h1,_⟩ | ⟨h1,h2,h3,h4,h5,h6⟩
 ·simp [f90,f90m,hv]
 ·rcases h1 with rfl | rfl
  ·simp [f90,f90m,hv]
   refine (w137 false _).use ?_
   rintro e S1 ⟨rfl,rfl⟩
   simp
   refine (w136 (l := Lib.formatBool false) (by kernel_rfl) (by decide +kernel) _).use ?_
   rintro e S1 ⟨rfl,rfl⟩
   simp [up_bool]
  ·simp [f90,f90m,hv]
   refine (w137 true _).use ?_
   rintro e S1 ⟨rfl,rfl⟩
   simp
   refine (w136 (l := Lib.formatBool true) (by kernel_rfl) (by decide +kernel) _).use ?_
   rintro e S1 ⟨rfl,rfl⟩
   simp [up_bool]
 ·rcases h1 with rfl | rfl <;> simp [f90,f90m,hv]
 ·rw [if_neg h1,if_neg h2,if_neg h3,if_neg h4]
  cases h5 with
  | word => exact absurd h6 (by decide)
  | sign1 => exact absurd h6 (by decide)
  | sign2 => exact absurd h6 (by decide)
  | int n h =>
    have h138 := fun S => w138 hT (n := n) (by omega) (by omega) S
    have e1 : Lib.itoa (n : Int) = digs n := by rw [itoa_digs (by omega)]; simp
    simp only [e1] at h138
    simp [f90,f90m,hv]
    refine (h138 _).use ?_
    rintro e S1 ⟨rfl,rfl⟩
    simp [wordOf]
  | real n k hk hk' h =>
    have hp := fun S => w140 hT (n := n) (k := k) (by omega) (by omega) S
    have c1 : ((k : Int) == -1) = false := beq_eq_false_iff_ne.2 (by omega)
    have c2 : ((k : Int) == -2) = false := beq_eq_false_iff_ne.2 (by omega)
    simp [f90,f90m,hv,c1,c2]
    refine (hp _).use ?_
    rintro e S1 ⟨rfl,rfl⟩
    simp [wordOf,pointT]
  | text b h =>
    have hr := fun S => w139 hT (l := text) (by omega) S
    simp only [replace_dbl] at hr
    simp [f90,f90m,hv]
    refine (hr _).use ?_
    rintro e S1 ⟨rfl,rfl⟩
    have hdl := dbl_len text
    simp [wordOf]
    omega
theorem w91 {op : Int} (h : opnds op = 2) (S : Heap) : ACalls Tryz.prog (B0 w0) 91 [.int op] S fun e S' => e = .ret (.str (signT.getD op.toNat [])) ∧ S' = S := by
 refine fn_sound tryOrd (f91_c _) (by simp [f91]) ?_
 rcases op_two h with rfl | rfl | rfl | rfl | rfl | rfl | rfl | rfl | rfl | rfl | rfl | rfl | rfl | rfl
 all_goals simp [f91,f91m,signT]
set_option maxHeartbeats 1000000 in
theorem w57 (x : Bs) (S : Heap) : ACalls Tryz.prog (B0 w0) 57 [.str x] S fun e S' => e = .ret (.bool (nameB x)) ∧ S' = S := by
 have hnm : nameB x = (decide (1 ≤ x.length) && decide (x.length ≤ 32) && Lx.isL (x[0]?.getD 0) && (decide (run isW x = x.length) && decide (x.map Lib.lowerB = x)) && !decide (x ∈ resv)) := by
  rw [nameB,all_and]
  have e1 : x.all isW = decide (run isW x = x.length) := by rw [Bool.eq_iff_iff,decide_eq_true_eq]; exact run_eq_len.symm
  have e2 : (x.all fun c => decide (Lib.lowerB c = c)) = decide (x.map Lib.lowerB = x) := by rw [Bool.eq_iff_iff,decide_eq_true_eq]; exact map_lower_eq.symm
  rw [e1,e2]
 refine fn_sound tryOrd (f57_c _) (by simp [f57]) ?_
 cases x with
 | nil => simp [f57,f57m,hnm]
 | cons c r =>
   by_cases hlen : (c :: r).length ≤ 32
   rotate_left 1
   ·have h' : ¬ ((r.length : Int) + 1 ≤ 32) := by simp at hlen; omega
    have h'' : ¬ (r.length + 1 ≤ 32) := by simp at hlen; omega
    simp [f57,f57m,hnm,h',h'']
   have h' : ((r.length : Int) + 1 ≤ 32) := by simp at hlen; omega
   have h'' : (r.length + 1 ≤ 32) := by simp at hlen; omega
   simp [f57,f57m,h']
   refine (w73 c _).use ?_
   rintro e S1 ⟨rfl,rfl⟩
   by_cases hL : Lx.isL c = true
   rotate_left 1
   ·simp [hL,hnm]
   have w31' := fun S => w102 (q := 103) (p := isW) w103 (c :: r) (w0 := w0) (by simp; omega) S
   simp [hL]
   refine (w31' _).use ?_
   rintro e S1 ⟨rfl,rfl⟩
   by_cases hr : run isW (c :: r) = (c :: r).length
   rotate_left 1
   ·have hr' : ((run isW (c :: r) : Int) == (r.length : Int) + 1) = false := by
     rw [beq_eq_false_iff_ne]; simp at hr; omega
    have hr'' : ¬ run isW (c :: r) = r.length + 1 := by simpa using hr
    simp [hr',hr'',hnm]
   have hr' : ((run isW (c :: r) : Int) == (r.length : Int) + 1) = true := by simp at hr ⊢; omega
   have hall := run_eq_len.1 hr
   have hext := ext_ok (β := B0 w0) 104 [.str (c :: r)] (.str ((c :: r).map Lib.lowerB)) (by
    have : ((c :: r).all (fun b => decide (b.toNat < 128)) && decide ((c :: r).length ≤ 140737488355328)) = true := by
     simp only [Bool.and_eq_true,decide_eq_true_eq,List.all_eq_true]
     refine ⟨fun d hd => ?_,by omega⟩
     have := List.all_eq_true.1 hall d hd
     simp [isW,Lx.isL,isD] at this
     omega
    simp only [ext,this,if_true]; rfl)
   simp [hr']
   refine (hext _).use ?_
   rintro e S1 ⟨rfl,rfl⟩
   by_cases hlow : (c :: r).map Lib.lowerB = c :: r
   rotate_left 1
   ·have hl2 : ¬ (c :: r) = (c :: r).map Lib.lowerB := fun e => hlow e.symm
    rw [hnm,decide_eq_false hlow]
    simp only [List.map_cons] at hl2
    simp [hl2]
   ·have w13' := fun S => w105 (w0 := w0) (c :: r) S
    rw [hnm,decide_eq_true hlow,decide_eq_true hr,decide_eq_true hlen]
    rw [List.map_cons] at hlow
    simp [hlow]
    refine (w13' _).use ?_
    rintro e S1 ⟨rfl,rfl⟩
    simp [hL]
def aliasB (s : Bs) : Bool := decide (s = []) || nameB s
theorem w52 (x : Bs) (S : Heap) : ACalls Tryz.prog (B0 w0) 52 [.str x] S fun e S' => e = .ret (.bool (aliasB x)) ∧ S' = S := by
 refine fn_sound tryOrd (f52_c _) (by simp [f52]) ?_
 by_cases h : x = []
 ·simp [f52,f52m,h,aliasB]
 ·simp [f52,f52m,h,aliasB]
  refine (w57 x _).use ?_
  rintro e S1 ⟨rfl,rfl⟩
  simp
theorem w58 (n a b : Int) (S : Heap) : ACalls Tryz.prog (B0 w0) 58 [.int n,.int a,.int b] S fun e S' => e = .ret (.bool (decide (a ≤ n) && decide (n ≤ b))) ∧ S' = S := by
 refine fn_sound tryOrd (f58_c _) (by simp [f58]) ?_
 by_cases h : a ≤ n <;> simp [f58,f58m,h]
end Go.Abs
