/- The abstract machine, part 22: code, translated. Conditions: the program takes a statement's parts in every order (hm). -/
import Derived.Test.YtdnpmnnidjeifaaGreatDoorA21
namespace Go.Abs
open Go Go.RowKit
def MOp.eff : MOp → Bool
 | .alloc .. | .box .. | .brow .. | .store .. | .mkmap | .mkslice .. | .append .. | .copy .. | .delete .. | .clearS .. | .mapUp .. | .mapEnt .. | .entSt .. | .rangeM _ | .rangeS _ | .nextS _ | .panic _ | .conv .strBytes _ => true
 | _ => false
def MI.eff (i : MI) : Bool :=
 match i.k with
 | .op m => m.eff
 | _ => true
def cmpIs (P : Program) (G : Nat → AVal) (rows : List Nat) (nt : Nat) (ops : Array Oper) : List Oper → Option (List MI)
 | [] => some []
 | o :: r => match cmpI P G rows nt ops o, cmpIs P G rows nt ops r with
   | some i, some l => some (i :: l)
   | _, _ => none
def effOf (mis : List MI) (i : Nat) : Bool :=
 match mis[i]? with
 | some m => m.eff
 | none => false
def mkDE (mis : List MI) (i : Nat) (late : Bool) : Option DE :=
 match mis[i]? with
 | some mi => some ⟨i, mi, mi.eff, late⟩
 | none => none
def DT.cons (x : DE) : DT → DT
 | .rd l t => .rd (x :: l) t
 | t => .rd [x] t
def orT : List (Option DT) → Option DT
 | [] => some .nil
 | [t] => t
 | t :: r => match t, orT r with
   | some s, some t => some (.or s t)
   | _, _ => none
def rdy (ms : List Nat) (done i : Nat) : Bool := !done.testBit i && ((ms.getD i 0) &&& done == ms.getD i 0)
def lateOf (ms : List Nat) (mis : List MI) (n done i : Nat) : Bool := (List.range n).any fun j => effOf mis j && !done.testBit j && !anc ms j i
def keepOf (ms : List Nat) (mis : List MI) (n done i : Nat) : List Nat :=
 (List.range n).filter fun r => done.testBit r && !effOf mis r && !anc ms i r && !(List.range n).any fun e => done.testBit e && effOf mis e && anc ms e r
def mkT (ms : List Nat) (mis : List MI) (n : Nat) : Nat → Nat → Option DT
 | 0, _ => some .nil
 | f + 1, done => match (List.range n).find? fun i => rdy ms done i && !effOf mis i with
   | some i => match mkDE mis i (lateOf ms mis n done i), mkT ms mis n f (done ||| 2 ^ i) with
     | some x, some t => some (.cons x t)
     | _, _ => none
   | none => orT (((List.range n).filter (rdy ms done)).map fun i => match mkDE mis i false, mkT ms mis n f (done ||| 2 ^ i) with
     | some x, some t => some (.ef x (keepOf ms mis n done i) t)
     | _, _ => none)
def edgesOk (ops : Array Oper) : Bool := ops.toList.all fun o => o.after.toList.all fun e => !Region.binds .any e || decide (e.on < ops.size)
def cmpDraw (P : Program) (G : Nat → AVal) (rows : List Nat) (nt : Nat) (ops : Array Oper) : Option DT :=
 match cmpIs P G rows nt ops ops.toList with
 | none => none
 | some mis => match mkT (masks ops.toList []) mis ops.size ops.size 0 with
   | none => none
   | some t => if treeOk (masks ops.toList []) ops.size true t [] && edgesOk ops then some t else none
def stuckC : MC := .cond (.val .top) .skip .skip
def cmpC (P : Program) (G : Nat → AVal) (rows : List Nat) (nt : Nat) : Code → Option MC
 | .skip => some .skip
 | .region _ ops false => (cmpIs P G rows nt ops ops.toList).map .ops
 | .region _ ops true => match cmpDraw P G rows nt ops with
   | some t => some (.draw t)
   | none => some stuckC
 | .seq x y => match cmpC P G rows nt x, cmpC P G rows nt y with
   | some x, some y => some (.seq x y)
   | _, _ => none
 | .cond c x y => match od G c, cmpC P G rows nt x, cmpC P G rows nt y with
   | some c, some x, some y => some (.cond c x y)
   | _, _, _ => none
 | .block i c => (cmpC P G rows nt c).map (.block i)
 | .loop c => (cmpC P G rows nt c).map .loop
 | .exit i => some (.exit i)
 | .ret => some .ret
 | _ => some stuckC
section
variable {P : Program} {β : Base} {rows : List Nat} {nt : Nat} {D : List Deferred} {ops : Array Oper}
theorem cmpIs_spec {G : Nat → AVal} : ∀ {l : List Oper} {mis : List MI}, cmpIs P G rows nt ops l = some mis → l.length = mis.length ∧ ∀ (q : Nat) (h : q < l.length) (h' : q < mis.length), cmpI P G rows nt ops l[q] = some mis[q]
 | [], mis, h => by simp only [cmpIs, Option.some.injEq] at h; subst h; exact ⟨rfl, fun q h => by simp at h⟩
 | o :: r, mis, h => by
   simp only [cmpIs] at h
   split at h
   ·rename_i i l hi hl
    simp only [Option.some.injEq] at h; subst h
    obtain ⟨h1, h2⟩ := cmpIs_spec hl
    refine ⟨by simp [h1], fun q hq hq' => ?_⟩
    cases q with
    | zero => exact hi
    | succ q => exact h2 q (by simpa using hq) (by simpa using hq')
   ·cases h
theorem cons_des {x : DE} {t : DT} : (DT.cons x t).des = x :: t.des := by cases t <;> simp [DT.cons, DT.des]
theorem mkDE_spec {mis : List MI} {i : Nat} {late : Bool} {x : DE} (h : mkDE mis i late = some x) : ∃ mi, mis[x.ix]? = some mi ∧ x.i = mi := by
 unfold mkDE at h
 split at h
 ·rename_i mi hmi; simp only [Option.some.injEq] at h; subst h; exact ⟨mi, hmi, rfl⟩
 ·cases h
theorem orT_des {p : DE → Prop} : ∀ {l : List (Option DT)}, (∀ t, some t ∈ l → ∀ x ∈ t.des, p x) → ∀ {t}, orT l = some t → ∀ x ∈ t.des, p x
 | [], _, t, h, x, hx => by simp only [orT, Option.some.injEq] at h; subst h; simp [DT.des] at hx
 | [o], hl, t, h, x, hx => by simp only [orT] at h; subst h; exact hl t (by simp) x hx
 | o :: o' :: r, hl, t, h, x, hx => by
   simp only [orT] at h
   split at h
   ·rename_i s t' hs ht
    simp only [Option.some.injEq] at h; subst h
    simp only [DT.des, List.mem_append] at hx
    rcases hx with hx | hx
    ·exact hl _ (by simp) x hx
    ·exact orT_des (l := o' :: r) (fun t ht => hl t (by simp at ht ⊢; exact .inr ht)) ht x hx
   ·cases h
theorem mkT_spec {ms : List Nat} {mis : List MI} {n : Nat} : ∀ {f done : Nat} {t : DT}, mkT ms mis n f done = some t → ∀ x ∈ t.des, ∃ mi, mis[x.ix]? = some mi ∧ x.i = mi
 | 0, _, t, h, x, hx => by simp only [mkT, Option.some.injEq] at h; subst h; simp [DT.des] at hx
 | f + 1, done, t, h, x, hx => by
   simp only [mkT] at h
   split at h
   ·split at h
    ·rename_i y t' hy ht
     simp only [Option.some.injEq] at h; subst h
     rw [cons_des] at hx
     rcases List.mem_cons.1 hx with hx | hx
     ·subst hx; exact mkDE_spec hy
     ·exact mkT_spec ht x hx
    ·cases h
   ·refine orT_des (p := fun x => ∃ mi, mis[x.ix]? = some mi ∧ x.i = mi) (fun s hs y hy => ?_) h x hx
    obtain ⟨i, hi, he⟩ := List.mem_map.1 hs
    split at he
    ·rename_i z t' hz ht
     simp only [Option.some.injEq] at he; subst he
     simp only [DT.des] at hy
     rcases List.mem_cons.1 hy with hy | hy
     ·subst hy; exact mkDE_spec hz
     ·exact mkT_spec ht y hy
    ·cases he
theorem cmpDraw_spec {G : Nat → AVal} {t : DT} (h : cmpDraw P G rows nt ops = some t) : treeOk (masks ops.toList []) ops.size true t [] = true ∧ (∀ (i : Nat) o e, ops[i]? = some o → e ∈ o.after → Region.binds .any e = true → e.on < ops.size) ∧
  ∀ x ∈ t.des, Comp P G rows nt ops x := by
 unfold cmpDraw at h
 split at h
 ·cases h
 ·rename_i mis hmis
  split at h
  ·cases h
  ·rename_i t' ht
   split at h
   ·rename_i hst
    simp only [Option.some.injEq] at h; subst h
    simp only [Bool.and_eq_true] at hst
    obtain ⟨e1, e2⟩ := cmpIs_spec hmis
    refine ⟨hst.1, fun i o e ho he hb => ?_, fun x hx => ?_⟩
    ·have ho' : o ∈ ops.toList := by
      have := Array.mem_of_getElem? ho
      simpa using this
     have := List.all_eq_true.1 (List.all_eq_true.1 hst.2 o ho') e (by simpa using he)
     simpa [hb] using this
    ·obtain ⟨mi, hmi, hxi⟩ := mkT_spec ht x hx
     obtain ⟨hlt, hmi⟩ := List.getElem?_eq_some_iff.1 hmi
     have hlt' : x.ix < ops.toList.length := by rw [e1]; exact hlt
     refine ⟨ops.toList[x.ix], ?_, ?_⟩
     ·rw [← Array.getElem?_toList, List.getElem?_eq_getElem hlt']
     ·rw [e2 x.ix hlt' hlt, hmi, hxi]
   ·cases h
theorem mwp_mono (C : CallP) : ∀ (c : MC) {Q Q' : AExit → Tmps → Heap → Prop}, (∀ f args S R R', (∀ e S', R e S' → R' e S') → C f args S R → C f args S R') → (∀ e a S, Q e a S → Q' e a S) → ∀ {a S}, mwp C c Q a S → mwp C c Q' a S := by
 intro c
 have hstep : (∀ f args S R R', (∀ e S', R e S' → R' e S') → C f args S R → C f args S R') → ∀ (i : MI) (a : Tmps) (S : Heap) (Kp Kp' : AVal → Heap → Prop) (K K' : AVal → Heap → Prop), (∀ v S, Kp v S → Kp' v S) → (∀ v S, K v S → K' v S) → stepV C Kp i a S K → stepV C Kp' i a S K' := by
  intro hC i a S Kp Kp' K K' hp hk h
  unfold stepV at h ⊢
  split
  ·rename_i hw; rw [hw] at h; exact h
  ·rename_i hw; rw [hw] at h; exact hk _ _ h
  ·rename_i hw
   rw [hw] at h
   simp only at h
   split
   ·rename_i m hm
    rw [hm] at h
    simp only at h
    split
    ·rename_i hr; rw [hr] at h; exact ⟨h.1, hk _ _ h.2⟩
    ·rename_i hr; rw [hr] at h; exact hp _ _ h
    ·rename_i hr; rw [hr] at h; exact h
   ·rename_i y hm
    rw [hm] at h
    simp only at h
    split
    ·rename_i hr; rw [hr] at h; exact fun o ho => hk _ _ (h o ho)
    ·rename_i hr; rw [hr] at h; exact h
   ·rename_i f args hm
    rw [hm] at h
    exact hC _ _ _ _ _ (fun e S' hh => by cases e <;> first | exact hk _ _ hh | exact hp _ _ hh) h
   ·rename_i x args hm
    rw [hm] at h
    simp only at h
    split
    ·rename_i hr
     rw [hr] at h
     exact hC _ _ _ _ _ (fun e S' hh => by cases e <;> first | exact hk _ _ hh | exact hp _ _ hh) h
    ·rename_i hr
     split at h
     ·rename_i hr'; exact absurd hr' (hr _ _ _)
     ·exact h
 induction c with
 | skip => exact fun _ hq _ _ h => hq _ _ _ h
 | exit i => exact fun _ hq _ _ h => hq _ _ _ h
 | ret => exact fun _ hq _ _ h => hq _ _ _ h
 | ops l =>
   intro Q Q' hC hq a S h
   simp only [mwp] at h ⊢
   induction l generalizing a S with
   | nil => exact hq _ _ _ h
   | cons i r ih =>
     exact hstep hC i a S (fun v S => Q (.panic v) a S) (fun v S => Q' (.panic v) a S) (fun v S' => opsWp C (fun v a S => Q (.panic v) a S) r (putD i.dst v a) S' (Q .normal)) (fun v S' => opsWp C (fun v a S => Q' (.panic v) a S) r (putD i.dst v a) S' (Q' .normal))
      (fun v S h => hq _ _ _ h) (fun v S h => ih h) h
 | draw t =>
   intro Q Q' hC hq a S h
   simp only [mwp] at h ⊢
   generalize ([] : List Pend) = ps at h ⊢
   have hread : ∀ (l : List DE) (ps : List Pend) (a : Tmps) (S : Heap) (K K' : List Pend → Tmps → Prop), (∀ ps a, K ps a → K' ps a) → readWp l ps a S K → readWp l ps a S K' := by
    intro l
    induction l with
    | nil => exact fun ps a S K K' hk h => hk _ _ h
    | cons x r ih =>
      intro ps a S K K' hk h
      simp only [readWp] at h ⊢
      rcases hg : wantedA a x.i.g with _ | b
      ·simp only [hg] at h
      ·cases b with
       | false => simp only [hg] at h ⊢; exact ih _ _ _ _ _ hk h
       | true =>
         rcases hk' : x.i.k with m | _ | _ | _
         ·simp only [hg, hk'] at h ⊢
          rcases hr : m.run S a with ⟨side, v, S'⟩ | _ | _
          ·simp only [hr] at h ⊢; exact ⟨h.1, h.2.1, ih _ _ _ _ _ hk h.2.2⟩
          ·simp only [hr] at h
          ·simp only [hr] at h
         ·simp only [hg, hk'] at h
         ·simp only [hg, hk'] at h
         ·simp only [hg, hk'] at h
   induction t generalizing a S ps with
   | nil => exact hq _ _ _ h
   | rd l t ih => exact hread l ps a S _ _ (fun ps a h => ih ps h) h
   | ef x keep t ih =>
     exact hstep hC x.i a S (fun v S => Q (.panic v) [] S) (fun v S => Q' (.panic v) [] S)
      (fun v S' => pendOk S' (kept keep ps) ∧ drawWp C (fun v S => Q (.panic v) [] S) t (kept keep ps) (putD x.i.dst v a) S' (Q .normal)) (fun v S' => pendOk S' (kept keep ps) ∧ drawWp C (fun v S => Q' (.panic v) [] S) t (kept keep ps) (putD x.i.dst v a) S' (Q' .normal))
      (fun v S h => hq _ _ _ h) (fun v S h => ⟨h.1, ih _ h.2⟩) h
   | or s t ihs iht => exact ⟨ihs ps h.1, iht ps h.2⟩
 | seq x y ihx ihy =>
   intro Q Q' hC hq a S h
   exact ihx hC (fun e a S h => by cases e <;> first | exact ihy hC hq h | exact hq _ _ _ h) h
 | cond c x y ihx ihy =>
   intro Q Q' hC hq a S h
   simp only [mwp] at h ⊢
   split
   ·rename_i hc
    rw [hc] at h
    exact ⟨fun hb => ihx hC hq (h.1 hb), fun hb => ihy hC hq (h.2 hb)⟩
   ·rename_i hc
    split at h
    ·rename_i hc'; exact absurd hc' (hc _)
    ·exact h
 | block i c ih =>
   intro Q Q' hC hq a S h
   exact ih hC (fun e a S h => by
    cases e with
    | exit j =>
      simp only at h ⊢
      split <;> rename_i hj
      ·simp only [hj, if_true] at h; exact hq _ _ _ h
      ·simp only [hj, if_false] at h; exact hq _ _ _ h
    | _ => exact hq _ _ _ h) h
 | loop c ih =>
   intro Q Q' hC hq a S h
   obtain ⟨n, h⟩ := h
   refine ⟨n, ?_⟩
   induction n generalizing a S with
   | zero => exact h
   | succ n ihn => exact ih hC (fun e a S h => by cases e <;> first | exact ihn h | exact hq _ _ _ h) h
theorem mwp_sound (hm : P.follows .mixedOrders = true) : ∀ (c : Code) {mc : MC} {Q : AExit → Tmps → Heap → Prop} {a : Tmps} {S : Heap}, cmpC P β.G rows nt c = some mc → mwp (ACalls P β) mc Q a S → AWp P β nt D c Q a S := by
 intro c
 induction c with
 | skip => intro mc Q a S h hw; simp only [cmpC, Option.some.injEq] at h; subst h; exact .skip hw
 | region id ops d =>
   intro mc Q a S h hw
   cases d with
   | false =>
     simp only [cmpC, Option.map_eq_some_iff] at h
     obtain ⟨mis, hmis, rfl⟩ := h
     obtain ⟨e1, e2⟩ := cmpIs_spec hmis
     intro F m act w hs ht hd hn
     refine wp_region (ops_sound (rows := rows) (List.range ops.size) mis (by simpa using e1) (fun q h h' => ?_) F m S w a act (Ext.refl F m) hs ht hn hd hw)
     have hlt : q < ops.toList.length := by simpa using h
     refine ⟨ops.toList[q], ?_, e2 q hlt h'⟩
     rw [List.getElem_range, ← Array.getElem?_toList, List.getElem?_eq_getElem hlt]
   | true =>
     simp only [cmpC] at h
     split at h
     rotate_left 1
     ·simp only [Option.some.injEq] at h; subst h; simp [stuckC, mwp, ev] at hw
     rename_i t hl
     simp only [Option.some.injEq] at h
     subst h
     obtain ⟨htree, hedge, hcomp⟩ := cmpDraw_spec hl
     intro F m act w hs ht hd hn
     refine wp_region_any hm (draw_sound (rows := rows) ops.size (U := List.range ops.size) (dn := []) (t := t) (ps := []) (a := a) (S := S) (F := F) (m := m) ?_ hs.drew (Ext.refl F m) hd (by simp) (fun i hi _ => List.mem_range.2 hi))
     have hno : ∀ i, (Array.replicate ops.size false).getD i false = false := fun i => by
      rw [Array.getD_eq_getD_getElem?, Array.getElem?_replicate]; split <;> rfl
     refine ⟨hn, by simp, fun i o e hi => ?_, hedge, fun i hi => ?_, fun x hx => (nomatch hx), fun x hx => (nomatch hx), fun x hx => (nomatch hx), .nil, fun x hx => (nomatch hx), fun x hx => (nomatch hx), fun x hx => (nomatch hx), hcomp, htree, fun d _ => ht d, fun x hx => (nomatch hx), hw⟩
     ·rw [hno] at hi; cases hi
     ·rw [hno] at hi; cases hi
 | seq x y ihx ihy =>
   intro mc Q a S h hw
   simp only [cmpC] at h
   split at h
   ·rename_i mx my hx hy
    simp only [Option.some.injEq] at h; subst h
    refine .seq (ihx hx (mwp_mono _ _ (fun f args S R R' hr h => h.mono hr) (fun e a S hq => ?_) hw))
    cases e <;> first | exact ihy hy hq | exact hq
   ·cases h
 | cond c x y ihx ihy =>
   intro mc Q a S h hw
   simp only [cmpC] at h
   split at h
   ·rename_i c' mx my hc hx hy
    simp only [Option.some.injEq] at h; subst h
    simp only [mwp] at hw
    split at hw
    ·rename_i b hb
     exact .cond hc hb (fun h => ihx hx (hw.1 h)) (fun h => ihy hy (hw.2 h))
    ·exact hw.elim
   ·cases h
 | block i c ih =>
   intro mc Q a S h hw
   simp only [cmpC, Option.map_eq_some_iff] at h
   obtain ⟨mc', hc, rfl⟩ := h
   exact .block (ih hc hw)
 | loop c ih =>
   intro mc Q a S h hw
   simp only [cmpC, Option.map_eq_some_iff] at h
   obtain ⟨mc', hc, rfl⟩ := h
   obtain ⟨n, hw⟩ := hw
   refine AWp.loop (fun n a S => Nat.rec (motive := fun _ => Tmps → Heap → Prop) (fun _ _ => False) (fun _ R a S => mwp (ACalls P β) mc' (fun e a' S' => match e with | .normal => R a' S' | e => Q e a' S') a S) n a S) (fun _ _ h => h) (fun n a S h => ih hc h) n hw
 | exit i => intro mc Q a S h hw; simp only [cmpC, Option.some.injEq] at h; subst h; exact .exit hw
 | ret => intro mc Q a S h hw; simp only [cmpC, Option.some.injEq] at h; subst h; exact .ret hw
 | _ => intro mc Q a S h hw; simp only [cmpC, Option.some.injEq] at h; subst h; simp [stuckC, mwp, ev] at hw
end
end Go.Abs
