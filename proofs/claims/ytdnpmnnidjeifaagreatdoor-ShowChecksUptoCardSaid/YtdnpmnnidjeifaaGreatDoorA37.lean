/- The abstract machine, part 37: a function that defers one call, which recovers. Conditions: hm as in part 22; definitions and lemmas. -/
import Derived.Test.YtdnpmnnidjeifaaGreatDoorA35
import Derived.Recover
namespace Go.Abs
open Go Go.RowKit
def lastDefer (ops : Array Oper) : Bool :=
 match ops[ops.size - 1]? with
 | some o => match o.op with
   | .defer _ => true
   | _ => false
 | none => false
def splitD : Code → Option (List Code × Array Oper × Code)
 | .seq (.region id ops false) y => if lastDefer ops then some ([], ops, y) else (splitD y).map fun t => (.region id ops false :: t.1, t.2)
 | .seq x y => (splitD y).map fun t => (x :: t.1, t.2)
 | _ => none
def preWp (P : Program) (N : Act → World → Prop) (Q : Exit → Act → World → Prop) : List Code → Act → World → Prop
 | [], a, w => N a w
 | x :: r, a, w => x.wp P (Exit.then (preWp P N Q r) Q) a w
theorem splitD_wp {P : Program} {Q : Exit → Act → World → Prop} : ∀ {c : Code} {pre : List Code} {ops : Array Oper} {y : Code}, splitD c = some (pre, ops, y) → ∀ {a w}, preWp P (fun a w => ∀ id, (Code.seq (.region id ops false) y).wp P Q a w) Q pre a w → c.wp P Q a w := by
 intro c
 induction c with
 | seq x y ihx ihy =>
   intro pre ops z h a w hp
   have step : ∀ {t : List Code × Array Oper × Code}, splitD y = some t → (pre, ops, z) = (x :: t.1, t.2) → (Code.seq x y).wp P Q a w := fun {t} ht he => by
    obtain ⟨t1, t2, t3⟩ := t
    simp only [Prod.mk.injEq] at he
    obtain ⟨rfl, rfl, rfl⟩ := he
    refine wp_seq (wp_mono hp fun e a w hh => ?_)
    cases e <;> first | exact ihy ht hh | exact hh
   unfold splitD at h
   split at h
   ·rename_i id o y' hxy
    simp only [Code.seq.injEq] at hxy
    obtain ⟨rfl, rfl⟩ := hxy
    split at h
    ·simp only [Option.some.injEq, Prod.mk.injEq] at h
     obtain ⟨rfl, rfl, rfl⟩ := h
     exact hp id
    ·simp only [Option.map_eq_some_iff] at h
     obtain ⟨t, ht, he⟩ := h
     exact step ht he.symm
   ·rename_i x' y' hno hxy
    simp only [Code.seq.injEq] at hxy
    obtain ⟨rfl, rfl⟩ := hxy
    simp only [Option.map_eq_some_iff] at h
    obtain ⟨t, ht, he⟩ := h
    exact step ht he.symm
   ·cases h
 | _ => intro pre ops z h; simp [splitD] at h
structure AFnD where
 nt : Nat
 res : List ARV
 pre : List MC
 ops : List MI
 d : MOpd
 post : MC
def cmpL (P : Program) (G : Nat → AVal) (nt : Nat) : List Code → Option (List MC)
 | [] => some []
 | c :: r => match cmpC P G [] nt c, cmpL P G nt r with
   | some x, some l => some (x :: l)
   | _, _ => none
def deferOf : Oper → Option Operand
 | { dst := none, op := .defer { callee := .value x, args, .. }, guard := none, .. } => if args.size = 0 then some x else none
 | _ => none
def cmpFnD (P : Program) (G : Nat → AVal) (f : FuncId) : Option AFnD :=
 match P.funcs[f]? with
 | none => none
 | some fn => match fn.body with
   | none => none
   | some c => match splitD c with
     | none => none
     | some (pre, ops, post) => match (ops[ops.size - 1]?).bind deferOf with
       | none => none
       | some x => match callable P f, cmpRVs P fn.results.toList, cmpL P G fn.ntmps pre, cmpIs P G [] fn.ntmps ops ops.toList.dropLast, od G x, cmpC P G [] fn.ntmps post with
         | true, some r, some p, some l, some x, some q => some ⟨fn.ntmps, r, p, l, x, q⟩
         | _, _, _, _, _, _ => none
structure ADef where
 nt : Nat
 d0 : Nat
 d1 : Nat
 mc : MC
def recoverOf (nt : Nat) : Oper → Option Nat
 | { dst := some d, op := .call { callee := .builtin .recover, args, .. }, guard := none, .. } => if args.size = 0 ∧ d < nt then some d else none
 | _ => none
def moveOf (nt : Nat) (d0 : Nat) : Oper → Option Nat
 | { dst := some d, op := .move (.tmp t), guard := none, .. } => if t = d0 ∧ d < nt then some d else none
 | { dst := some d, op := .assign (.tmp t), guard := none, .. } => if t = d0 ∧ d < nt then some d else none
 | _ => none
def cmpDef (P : Program) (G : Nat → AVal) (g : FuncId) : Option ADef :=
 match P.funcs[g]? with
 | none => none
 | some fn => match fn.body with
   | some (.seq (.region _ ops false) c) => match (ops[0]?).bind (recoverOf fn.ntmps) with
     | none => none
     | some d0 => match (ops[1]?).bind (moveOf fn.ntmps d0), callable P g, cmpRVs P fn.results.toList, cmpC P G [] fn.ntmps c with
       | some d1, true, some [], some mc => if ops.size = 2 then some ⟨fn.ntmps, d0, d1, mc⟩ else none
       | _, _, _, _ => none
   | _ => none
def defWp (P : Program) (β : Base) (gd : ADef) (args : List AVal) (v : AVal) (S : Heap) (K : Heap → Prop) : Prop :=
 mwp (ACalls P β) gd.mc (fun e _ S' => match e with | .normal | .ret => K S' | _ => False) ((gd.d1, v) :: (gd.d0, v) :: enum 0 args) S
def dPost (P : Program) (β : Base) (res : List ARV) (gd : ADef) (args : List AVal) (R : AEnd → Heap → Prop) : AExit → Tmps → Heap → Prop
 | .normal, a, S | .ret, a, S => defWp P β gd args (.atom .nilIface) S fun S' => resPost res R .ret a S'
 | .panic v, a, S => defWp P β gd args v S fun S' => resPost res R .ret a S'
 | .exit _, _, _ => False
def mwpL (C : CallP) (K : Tmps → Heap → Prop) (Q : AExit → Tmps → Heap → Prop) : List MC → Tmps → Heap → Prop
 | [], a, S => K a S
 | x :: r, a, S => mwp C x (fun e a' S' => match e with | .normal => mwpL C K Q r a' S' | e => Q e a' S') a S
section
variable {P : Program} {β : Base} {nt : Nat}
theorem ops_then {D : List Deferred} {ops : Array Oper} {PQ : Exit → Act → World → Prop} {KP : AVal → Tmps → Heap → Prop} {K : Tmps → Heap → Prop} {F0 : Frz} {m0 : Pls} {js : List Nat}
  (hK : ∀ F m a S act w, Ext F0 m0 F m → Sim β F m S w → RelT F m a act.tmps → act.tmps.size = nt → act.defers = D → K a S → wpOps P ops PQ js act w)
  (hP : ∀ F m a S act w v u, Ext F0 m0 F m → Sim β F m S w → RelT F m a act.tmps → act.tmps.size = nt → act.defers = D → Rel F m v u → KP v a S → PQ (.panic [{ v := u, recovered := false }]) act w) :
  ∀ (is : List Nat) (l : List MI), is.length = l.length → (∀ (q : Nat) (h : q < is.length) (h' : q < l.length), ∃ o, ops[is[q]]? = some o ∧ cmpI P β.G [] nt ops o = some l[q]) →
  ∀ (F : Frz) (m : Pls) (S : Heap) (w : World) (a : Tmps) (act : Act), Ext F0 m0 F m → Sim β F m S w → RelT F m a act.tmps → act.tmps.size = nt → act.defers = D →
  opsWp (ACalls P β) KP l a S K → wpOps P ops PQ (is ++ js) act w
 | [], [], _, _, F, m, S, w, a, act, he, hs, ht, hsz, hd, h => hK F m a S act w he hs ht hsz hd h
 | i :: is, mi :: l, hlen, hall, F, m, S, w, a, act, he, hs, ht, hsz, hd, h => by
   obtain ⟨o, ho, hc⟩ := hall 0 (by simp) (by simp)
   simp only [List.getElem_cons_zero] at ho hc
   rw [List.cons_append, wpOps_cons]
   simp only [opsWp, stepWp] at h
   have hpre := step_sound (PQ := PQ) (KK := wpOps P ops PQ (is ++ js)) ho hc hs ht hsz h
   have hdst : mi.dst = o.dst ∧ ∀ d, o.dst = some d → d < nt := by
    unfold cmpI at hc
    split at hc
    ·rename_i k g _ _ hd'
     simp only [Option.some.injEq] at hc
     subst hc
     exact ⟨rfl, fun d he => by rw [he] at hd'; simpa using hd'⟩
    ·cases hc
   refine (hpre (fun F' m' v u S' w' he' hs' hr hK' => ?_) (fun F' m' v u S' w' he' hs' hr hK' => ?_)).2.2
   ·refine ops_then hK hP is l (by simpa using hlen) (fun q h1 h2 => by have := hall (q + 1) (by simp; omega) (by simp; omega); simpa using this) F' m' S' w' _ _ (he.trans he') hs' ?_ (by rw [put_size]; exact hsz) (by rw [put_defers]; exact hd) hK'
    rw [hdst.1]
    exact putD_rel (ht.mono he') (fun d h => by rw [hsz]; exact hdst.2 d h) hr
   ·exact hP F' m' a S' act w' v u (he.trans he') hs' (ht.mono he') hsz hd hr hK'
theorem pre_sound (hm : P.follows .mixedOrders = true) {Q : AExit → Tmps → Heap → Prop} {K : Tmps → Heap → Prop} {N : Act → World → Prop} {QM : Exit → Act → World → Prop} {F0 : Frz} {m0 : Pls}
  (hN : ∀ F m a S act w, Ext F0 m0 F m → Sim β F m S w → RelT F m a act.tmps → act.tmps.size = nt → act.defers = [] → K a S → N act w)
  (hQ : ∀ e act w, Post β nt [] F0 m0 (fun e a S => match e with | .normal => False | e => Q e a S) e act w → QM e act w) :
  ∀ (pre : List Code) (l : List MC), cmpL P β.G nt pre = some l → ∀ (F : Frz) (m : Pls) (S : Heap) (w : World) (a : Tmps) (act : Act), Ext F0 m0 F m → Sim β F m S w → RelT F m a act.tmps → act.tmps.size = nt → act.defers = [] →
  mwpL (ACalls P β) K Q l a S → preWp P N QM pre act w
 | [], l, hc, F, m, S, w, a, act, he, hs, ht, hsz, hd, h => by
   simp only [cmpL, Option.some.injEq] at hc; subst hc
   exact hN F m a S act w he hs ht hsz hd h
 | c :: pre, l, hc, F, m, S, w, a, act, he, hs, ht, hsz, hd, h => by
   simp only [cmpL] at hc
   split at hc
   ·rename_i x l' hx hl
    simp only [Option.some.injEq] at hc; subst hc
    refine wp_mono (mwp_sound (D := []) hm c hx h F m act w hs ht hd hsz) fun e act' w' hp => ?_
    obtain ⟨h1, h2, ae, F', m', a', S', he', hs', ht', hr, hq⟩ := hp
    cases e with
    | normal =>
      obtain rfl := Exit.rel_normal hr
      exact pre_sound hm hN hQ pre l' hl F' m' S' w' a' act' (he.trans he') hs' ht' h2 h1 hq
    | _ =>
      refine hQ _ _ _ ⟨h1, h2, ae, F', m', a', S', he.trans he', hs', ht', hr, ?_⟩
      cases ae <;> first | exact hr.elim | exact hq
   ·cases hc
theorem res_fin {g : Func} {r : List ARV} (hr : cmpRVs P g.results.toList = some r) {F m S w} {a : Tmps} {tmps : Array Value} (hs : Sim β F m S w) (ht : RelT F m a tmps) {vs : List AVal} (hvs : resL a S r = some (true, vs)) :
  ∃ u, (results g tmps).run P w = .ok u w ∧ Rel F m (one vs) u := by
 obtain ⟨us, hus, hl, hrs⟩ := resL_sound (P := P) hs ht hr hvs
 have hrel : Rel F m (one vs) (if h : us.toArray.size = 1 then us.toArray[0] else .tuple us.toArray) := by
  match vs, us, hl, hrs with
  | [v], [u], _, hrs => exact hrs 0 (by simp)
  | [], [], _, _ => exact .tuple _ _ rfl (fun i hi => by simp at hi)
  | v :: v' :: l, u :: u' :: l', hl, hrs =>
    rw [dif_neg (by simp)]
    exact .tuple _ _ (by simpa using hl.symm) (fun i hi => by simpa using hrs i hi)
 refine ⟨_, ?_, hrel⟩
 have e1 : g.results = g.results.toList.toArray := by simp
 unfold results
 rw [e1, List.mapM_toArray]
 simp only [Sem.run_bind, Sem.run_map, Result.andThen]
 erw [hus]
 rfl
theorem enum_rel {F m} {args : List AVal} {vs : Array Value} (hv : RelL F m args vs) (n : Nat) : RelT F m (enum 0 args) (vs ++ Array.replicate (n - vs.size) undef) := fun d => by
 rw [get_enum]
 simp only [Nat.zero_le, if_true, Nat.sub_zero]
 by_cases hd : d < args.length
 ·have := hv.2 d hd
  have hd' : d < vs.size := by rw [← hv.1]; exact hd
  rw [Array.getD_eq_getD_getElem?, Array.getElem?_append_left hd', ← Array.getD_eq_getD_getElem?]
  exact this
 ·rw [List.getD_eq_getElem?_getD, List.getElem?_eq_none (by omega)]
  exact .top _
theorem recoverOf_spec {n : Nat} {o : Oper} {d : Nat} (h : recoverOf n o = some d) : o.dst = some d ∧ o.guard = none ∧ d < n ∧ ∀ (ρ : Operand → Value) (w : World), (execOp ρ o).run P w = .ok .recover w := by
 unfold recoverOf at h
 split at h
 ·split at h
  ·rename_i hc
   simp only [Option.some.injEq] at h
   subst h
   refine ⟨rfl, rfl, hc.2, fun ρ w => ?_⟩
   simp [execOp, resolve, invoke, builtin]
  ·cases h
 ·cases h
theorem moveOf_spec {n d0 : Nat} {o : Oper} {d : Nat} (h : moveOf n d0 o = some d) : o.dst = some d ∧ o.guard = none ∧ d < n ∧ ∀ (ρ : Operand → Value) (w : World), (execOp ρ o).run P w = .ok (.value (ρ (.tmp d0))) w := by
 unfold moveOf at h
 split at h
 ·split at h
  ·rename_i hc
   simp only [Option.some.injEq] at h
   subst h
   obtain ⟨rfl, hlt⟩ := hc
   exact ⟨rfl, rfl, hlt, fun ρ w => by simp [execOp]⟩
  ·cases h
 ·split at h
  ·rename_i hc
   simp only [Option.some.injEq] at h
   subst h
   obtain ⟨rfl, hlt⟩ := hc
   exact ⟨rfl, rfl, hlt, fun ρ w => by simp [execOp]⟩
  ·cases h
 ·cases h
theorem deferOf_spec {o : Oper} {x : Operand} (h : deferOf o = some x) : o.dst = none ∧ o.guard = none ∧ ∀ (ρ : Operand → Value) (w : World) fn first cap, ρ x = .func fn first cap → (execOp ρ o).run P w = .ok (.defer { target := .fn fn cap, args := first }) w := by
 unfold deferOf at h
 split at h
 ·split at h
  ·rename_i hc
   simp only [Option.some.injEq] at h
   subst h
   refine ⟨rfl, rfl, fun ρ w fn first cap hx => ?_⟩
   have : ∀ a : Array Operand, a.size = 0 → a = #[] := fun a h => Array.eq_empty_of_size_eq_zero h
   rw [this _ hc]
   simp [execOp, resolve, hx, Deferred.ofValue]
  ·cases h
 ·cases h
theorem def_sound (hm : P.follows .mixedOrders = true) {g : FuncId} {gd : ADef} (hg : cmpDef P β.G g = some gd) {args : List AVal} (hlen : args.length ≤ gd.nt) {F : Frz} {m : Pls} {S : Heap} {w : World} {vs : Array Value} (hs : Sim β F m S w) (hv : RelL F m args vs)
  {v : AVal} {u : Value} (hu : Rel F m v u) {K : Heap → Prop} (h : defWp P β gd args v S K) {mode mode' : FrameMode} (hmode : (mode = .returning ∧ u = .nilIface ∧ mode' = .returning) ∨ (mode = .panicking [{ v := u, recovered := false }] ∧ mode' = .panicking [{ v := u, recovered := true }])) :
  CallsD P g vs mode w fun e u' w' => ∃ r, e = .returned r ∧ u' = mode' ∧ ∃ F' m' S', Ext F m F' m' ∧ Sim β F' m' S' w' ∧ K S' := by
 unfold cmpDef at hg
 split at hg
 ·cases hg
 rename_i fn hf
 split at hg
 rotate_left 1
 ·cases hg
 rename_i id ops c hb
 split at hg
 ·cases hg
 rename_i d0 h0
 split at hg
 rotate_left 1
 ·cases hg
 rename_i d1 mc h1 hcal hres hc
 split at hg
 rotate_left 1
 ·cases hg
 rename_i hsz
 simp only [Option.some.injEq] at hg
 subst hg
 simp only [Option.bind_eq_some_iff] at h0 h1
 obtain ⟨o0, ho0, h0⟩ := h0
 obtain ⟨o1, ho1, h1⟩ := h1
 obtain ⟨q1, q2, q3, q4⟩ := recoverOf_spec (P := P) h0
 obtain ⟨r1, r2, r3, r4⟩ := moveOf_spec (P := P) h1
 have hw : ∀ (o : Oper) (y : Nat → Option Bool), o.guard = none → Region.wanted o y = true := fun o y hh => by unfold Region.wanted; rw [hh]
 refine callsD_of_wpS hf hb fun c₀ cs hmc => wpS_seq (wpS_region ?_)
 have hrange : List.range ops.size = [0, 1] := by rw [hsz]; rfl
 have hsz2 : vs.size ≤ fn.ntmps := by rw [← hv.1]; exact hlen
 have key : ∀ (cs' : List Frame), cs' = { c₀ with mode := mode' } :: cs →
   c.wpS P (bodyPostS P fn c₀ cs fun e u' w' => ∃ r, e = .returned r ∧ u' = mode' ∧ ∃ F' m' S', Ext F m F' m' ∧ Sim β F' m' S' w' ∧ K S')
    ((({ tmps := vs ++ Array.replicate (fn.ntmps - vs.size) undef, defers := [] } : Act).put (some d0) u).put (some d1) u) cs' w := fun cs' hcs => by
  refine wpS_of_wp (wp_mono (mwp_sound (D := []) hm c hc h F m _ w hs ?_ rfl (by simp [Act.put]; omega)) fun e act' w' hp => ?_)
  ·have ht := enum_rel hv fn.ntmps
   have ht0 := ht.put (d := d0) (v := v) (u := u) (by simp; omega) hu
   exact ht0.put (d := d1) (v := v) (u := u) (by simp; omega) hu
  ·obtain ⟨p1, p2, ae, F', m', a', S', he', hs', ht', hr, hq⟩ := hp
   have fin : K S' → ∃ u', cs' = { c₀ with mode := u' } :: cs ∧ ∃ r, (results fn act'.tmps).run P w' = .ok r w' ∧ ∃ r', Ending.returned r = .returned r' ∧ u' = mode' ∧ ∃ F' m' S', Ext F m F' m' ∧ Sim β F' m' S' w' ∧ K S' := fun hK => by
    obtain ⟨r, hr, _⟩ := res_fin (P := P) hres hs' ht' (vs := []) rfl
    exact ⟨mode', hcs, r, hr, r, rfl, rfl, F', m', S', he', hs', hK⟩
   cases e with
   | normal =>
     obtain rfl := Exit.rel_normal hr
     exact ⟨p1, fin hq⟩
   | ret => cases ae <;> first | exact hr.elim | exact ⟨p1, fin hq⟩
   | panic ch => cases ae <;> first | exact hr.elim | exact hq.elim
   | exit i => cases ae <;> first | exact hr.elim | exact hq.elim
   | _ => cases ae <;> exact hr.elim
 rw [hrange]
 simp only [wpOpsS, ho0, hw _ _ q2, if_true, q4, ho1, hw _ _ r2, r4, Oper.upon_value, q1, r1]
 have hget : ∀ (a : Act) (x : Value), d0 < a.tmps.size → (a.put (some d0) x).eval (.tmp d0) = x := fun a x hlt => by
  simp [Act.put, Act.eval, Array.getD, hlt]
 have hlt0 : d0 < ({ tmps := vs ++ Array.replicate (fn.ntmps - vs.size) undef, defers := [] } : Act).tmps.size := by simp; omega
 rcases hmode with ⟨rfl, rfl, rfl⟩ | ⟨rfl, rfl⟩
 ·have hrec : recoverD (c₀ :: cs) = none := by simp [recoverD, hmc]
  simp only [hrec, hget _ _ hlt0]
  refine key _ ?_
  obtain ⟨⟩ := c₀
  simp only at hmc
  subst hmc
  rfl
 ·have hrec : recoverD (c₀ :: cs) = some (u, { c₀ with mode := .panicking [{ v := u, recovered := true }] } :: cs) := by simp [recoverD, hmc]
  simp only [hrec, hget _ _ hlt0]
  exact key _ rfl
theorem fnD_sound (hm : P.follows .mixedOrders = true) {f : FuncId} {fn : AFnD} (hf : cmpFnD P β.G f = some fn) {args : List AVal} {S : Heap} {R : AEnd → Heap → Prop} (hlen : args.length ≤ fn.nt)
  (h : mwpL (ACalls P β) (fun a S => opsWp (ACalls P β) (fun v _ S => R (.panic v) S) fn.ops a S fun a1 S1 => ∃ g first cap gd, ev a1 fn.d = .clo (.func g) first cap ∧ cmpDef P β.G g = some gd ∧ (first ++ cap).length ≤ gd.nt ∧
   callable P g = true ∧ mwp (ACalls P β) fn.post (dPost P β fn.res gd (first ++ cap) R) a1 S1) (resPost fn.res R) fn.pre (enum 0 args) S) : ACalls P β f args S R := by
 unfold cmpFnD at hf
 split at hf
 ·cases hf
 rename_i g hg
 split at hf
 ·cases hf
 rename_i c hb
 split at hf
 ·cases hf
 rename_i pre ops post hsp
 split at hf
 ·cases hf
 rename_i x hx
 split at hf
 rotate_left 1
 ·cases hf
 rename_i r p l x' q hcal hr hp hl hx' hq
 simp only [Option.some.injEq] at hf
 subst hf
 simp only [Option.bind_eq_some_iff] at hx
 obtain ⟨o, ho, hx⟩ := hx
 obtain ⟨d1, d2, d3⟩ := deferOf_spec (P := P) hx
 refine ⟨hcal, fun F m w vs hs hv => calls_of_wp_defers hg hb (splitD_wp hsp ?_)⟩
 have hsz : vs.size ≤ g.ntmps := by rw [← hv.1]; exact hlen
 have fin : ∀ F' m' a S' tmps w', Ext F m F' m' → Sim β F' m' S' w' → RelT F' m' a tmps → resPost r R .ret a S' → Leaves P g tmps (fun e w' => ∃ ae F' m' S', Ext F m F' m' ∧ Sim β F' m' S' w' ∧ EndRel F' m' ae e ∧ R ae S') [] .returning w' := fun F' m' a S' tmps w' he' hs' ht' hq => by
  simp only [resPost] at hq
  split at hq
  ·rename_i s vs' hvs
   obtain ⟨rfl, hR⟩ := hq
   obtain ⟨u, hu, hrel⟩ := res_fin (P := P) hr hs' ht' hvs
   exact ⟨u, hu, .ret (one vs'), F', m', S', he', hs', hrel, hR⟩
  ·exact hq.elim
 refine pre_sound hm (F0 := F) (m0 := m) (nt := g.ntmps) ?_ ?_ pre p hp F m S w (enum 0 args) _ (Ext.refl F m) hs (enum_rel hv g.ntmps) (by simp; omega) rfl h
 rotate_left 1
 ·intro e act w' hp
  obtain ⟨h1, h2, ae, F', m', a', S', he', hs', ht', hrel, hq⟩ := hp
  cases e with
  | normal => obtain rfl := Exit.rel_normal hrel; exact hq.elim
  | ret =>
    cases ae <;> first | exact hrel.elim | skip
    show Leaves P g act.tmps _ act.defers .returning w'
    rw [h1]
    exact fin F' m' a' S' _ w' he' hs' ht' hq
  | panic ch =>
    cases ae <;> first | exact hrel.elim | skip
    show Leaves P g act.tmps _ act.defers (.panicking ch) w'
    rw [h1]
    exact ⟨.panic _, F', m', S', he', hs', hrel, hq⟩
  | exit i => cases ae <;> first | exact hrel.elim | exact hq.elim
  | _ => cases ae <;> exact hrel.elim
 ·intro F1 m1 a1 S1 act1 w1 he1 hs1 ht1 hsz1 hd1 hK id
  refine wp_seq (wp_region ?_)
  have hpos : 0 < ops.size := by
   rcases Nat.eq_zero_or_pos ops.size with h0 | h0
   ·rw [Array.getElem?_eq_none (by omega)] at ho; cases ho
   ·exact h0
  have hrg : List.range ops.size = List.range (ops.size - 1) ++ [ops.size - 1] := by
   obtain ⟨n, hn⟩ : ∃ n, ops.size = n + 1 := ⟨ops.size - 1, by omega⟩
   rw [hn, List.range_succ]; rfl
  obtain ⟨e1, e2⟩ := cmpIs_spec hl
  rw [hrg]
  refine ops_then (nt := g.ntmps) (D := []) (F0 := F1) (m0 := m1) (KP := fun v _ S => R (.panic v) S) ?_ ?_ (List.range (ops.size - 1)) l (by rw [← e1]; simp) (fun k h h' => ?_) F1 m1 S1 w1 a1 act1 (Ext.refl _ _) hs1 ht1 hsz1 hd1 hK
  rotate_left 2
  ·have hlt : k < ops.toList.dropLast.length := by rw [e1]; exact h'
   have hlt2 : k < ops.toList.length := by simp at hlt; simp; omega
   refine ⟨ops.toList[k], ?_, ?_⟩
   ·rw [List.getElem_range, ← Array.getElem?_toList, List.getElem?_eq_getElem hlt2]
   ·have := e2 k hlt h'
    rwa [List.getElem_dropLast] at this
  rotate_left 1
  ·intro F2 m2 a2 S2 act2 w2 v u he2 hs2 ht2 hsz2 hd2 hu hR
   show Leaves P g act2.tmps _ act2.defers (.panicking _) w2
   rw [hd2]
   exact ⟨.panic v, F2, m2, S2, he1.trans he2, hs2, ⟨u, rfl, hu⟩, hR⟩
  ·intro F2 m2 a2 S2 act2 w2 he2 hs2 ht2 hsz2 hd2 ⟨gi, first, cap, gd, hev, hgd, hgl, hgc, hpost⟩
   have rx := rel_od hs2.glob ht2 hx'
   rw [hev] at rx
   generalize hval : act2.eval x = xv at rx
   cases rx with
   | clo _ _ _ f2 c2 hf hc hf1 hc1 =>
     have r1 : RelL F2 m2 first f2 := ⟨hf, hf1⟩
     have r2 : RelL F2 m2 cap c2 := ⟨hc, hc1⟩
     have hw : Region.wanted o (yielded ops act2.tmps) = true := by unfold Region.wanted; rw [d2]
     rw [wpOps_cons]
     unfold wpOp
     rw [ho]
     simp only [hw, if_true]
     left
     unfold Oper.wp
     rw [d3 act2.eval w2 _ _ _ hval, Oper.upon_defer, d1]
     show (Exit.then (post.wp P _) _) .normal _ _
     show post.wp P _ _ _
     have hinv : (invoke (.fn (.func gi) c2) f2).run P w2 = .ok (.enter gi (f2 ++ c2)) w2 := by simp [invoke, run_callFunc hgc]
     refine wp_mono (mwp_sound (D := [{ target := .fn (.func gi) c2, args := f2 }]) hm post hq hpost F2 m2 _ w2 hs2 (by simpa [Act.put] using ht2) (by simp [Act.put, hd2]) (by simpa [Act.put] using hsz2)) fun e act3 w3 hp3 => ?_
     obtain ⟨h1, h2, ae, F3, m3, a3, S3, he3, hs3, ht3, hrel, hq3⟩ := hp3
     have hinv3 : ∀ w, (invoke (.fn (.func gi) c2) f2).run P w = .ok (.enter gi (f2 ++ c2)) w := fun w => by simp [invoke, run_callFunc hgc]
     have rargs : RelL F3 m3 (first ++ cap) (f2 ++ c2) := (r1.append r2).mono he3
     have nrm : defWp P β gd (first ++ cap) (.atom .nilIface) S3 (fun S' => resPost r R .ret a3 S') → Leaves P g act3.tmps (fun e w' => ∃ ae F' m' S', Ext F m F' m' ∧ Sim β F' m' S' w' ∧ EndRel F' m' ae e ∧ R ae S') act3.defers .returning w3 := fun hh => by
      rw [h1]
      refine leaves_cons (by simp) (hinv3 w3) ((def_sound hm hgd hgl hs3 rargs (.atom .nilIface) hh (.inl ⟨rfl, rfl, rfl⟩)).mono ?_)
      rintro e u' w' ⟨rr, rfl, rfl, F4, m4, S4, he4, hs4, hK4⟩
      exact fin F4 m4 a3 S4 _ w' (((he1.trans he2).trans he3).trans he4) hs4 (ht3.mono he4) hK4
     cases e with
     | normal =>
       obtain rfl := Exit.rel_normal hrel
       exact nrm hq3
     | ret => cases ae <;> first | exact hrel.elim | exact nrm hq3
     | panic ch =>
       cases ae <;> first | exact hrel.elim | skip
       obtain ⟨u, rfl, hu⟩ := hrel
       show Leaves P g act3.tmps _ act3.defers (.panicking _) w3
       rw [h1]
       refine leaves_cons (by simp) (hinv3 w3) ((def_sound hm hgd hgl hs3 rargs hu hq3 (.inr ⟨rfl, rfl⟩)).mono ?_)
       rintro e u' w' ⟨rr, rfl, rfl, F4, m4, S4, he4, hs4, hK4⟩
       show Leaves P g act3.tmps _ [] (settle _) w'
       exact fin F4 m4 a3 S4 _ w' (((he1.trans he2).trans he3).trans he4) hs4 (ht3.mono he4) hK4
     | exit i => cases ae <;> first | exact hrel.elim | exact hq3.elim
     | _ => cases ae <;> exact hrel.elim
end
end Go.Abs
