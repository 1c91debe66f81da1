/- The abstract machine, part 23: a function. Conditions: hm as in part 22. -/
import Derived.Test.YtdnpmnnidjeifaaGreatDoorA22
namespace Go.Abs
open Go Go.RowKit
inductive ARV where
 | tmp (t : Nat)
 | cell (t : Nat) (agg : Bool) (k : Nat)
structure AFn where
 nt : Nat
 res : List ARV
 mc : MC
def cmpRV (P : Program) : ResultVar → Option ARV
 | .tmp t => some (.tmp t)
 | .cell a t => (tyI P t).map fun i => .cell a i.agg i.size
def cmpRVs (P : Program) : List ResultVar → Option (List ARV)
 | [] => some []
 | r :: l => match cmpRV P r, cmpRVs P l with
   | some r, some l => some (r :: l)
   | _, _ => none
def cmpFn (P : Program) (G : Nat → AVal) (rows : List Nat) (f : FuncId) : Option AFn :=
 match P.funcs[f]? with
 | none => none
 | some fn => match fn.body with
   | none => none
   | some c => match callable P f, cmpRVs P fn.results.toList, cmpC P G rows fn.ntmps c with
     | true, some r, some c => some ⟨fn.ntmps, r, c⟩
     | _, _, _ => none
def resV (a : Tmps) (S : Heap) : ARV → Option (Bool × AVal)
 | .tmp t => some (true, get a t)
 | .cell t agg k => match loadR agg k S (get a t) with
   | .ok s v _ => some (s, v)
   | _ => none
def resL (a : Tmps) (S : Heap) : List ARV → Option (Bool × List AVal)
 | [] => some (true, [])
 | r :: l => match resV a S r, resL a S l with
   | some (s, v), some (s', vs) => some (s && s', v :: vs)
   | _, _ => none
def one : List AVal → AVal
 | [v] => v
 | vs => .tuple vs
def resPost (res : List ARV) (R : AEnd → Heap → Prop) : AExit → Tmps → Heap → Prop
 | .normal, a, S | .ret, a, S => match resL a S res with
   | some (s, vs) => s = true ∧ R (.ret (one vs)) S
   | none => False
 | .panic v, _, S => R (.panic v) S
 | .exit _, _, _ => False
def enum : Nat → List AVal → Tmps
 | _, [] => []
 | n, v :: r => (n, v) :: enum (n + 1) r
theorem get_enum {d : Nat} : ∀ {n : Nat} {l : List AVal}, get (enum n l) d = if n ≤ d then l.getD (d - n) .top else .top
 | n, [] => by simp [enum, get]
 | n, v :: r => by
   simp only [enum, get]
   split
   ·rename_i h; subst h; simp
   ·rename_i h
    rw [get_enum]
    by_cases h1 : n ≤ d
    ·rw [if_pos h1, if_pos (by omega)]
     obtain ⟨k, rfl⟩ : ∃ k, d = n + 1 + k := ⟨d - (n + 1), by omega⟩
     have e1 : n + 1 + k - (n + 1) = k := by omega
     have e2 : n + 1 + k - n = k + 1 := by omega
     rw [e1, e2]; rfl
    ·rw [if_neg h1, if_neg (by omega)]
section
variable {P : Program} {β : Base} {rows : List Nat}
theorem resV_sound {F m S w} {a : Tmps} {tmps : Array Value} (hs : Sim β F m S w) (ht : RelT F m a tmps) {r : ResultVar} {ar : ARV} (hc : cmpRV P r = some ar) {v : AVal} (h : resV a S ar = some (true, v)) :
  ∃ u, ((match r with
   | .tmp t => pure (tmps.getD t undef)
   | .cell a t => do loadVar t (← asAddr (tmps.getD a undef)) : Sem Value)).run P w = .ok u w ∧ Rel F m v u := by
 cases r with
 | tmp t =>
   simp only [cmpRV, Option.some.injEq] at hc; subst hc
   simp only [resV, Option.some.injEq, Prod.mk.injEq] at h
   obtain ⟨_, rfl⟩ := h
   exact ⟨_, rfl, ht t⟩
 | cell d t =>
   simp only [cmpRV, Option.map_eq_some_iff] at hc
   obtain ⟨i, hi, rfl⟩ := hc
   simp only [resV] at h
   split at h
   ·rename_i s v' S' hl
    simp only [Option.some.injEq, Prod.mk.injEq] at h
    obtain ⟨rfl, rfl⟩ := h
    have rx := ht d
    unfold loadR at hl
    split at hl
    ·rename_i id p j hb
     rw [hb] at rx
     split at hl
     ·rename_i k es cap hS
      simp only [ORes.ok.injEq, Bool.and_eq_true, decide_eq_true_eq] at hl
      obtain ⟨⟨hlt, hk⟩, rfl, rfl⟩ := hl
      generalize hx : tmps.getD d undef = x at rx
      cases rx with
      | ptr _ _ _ q hm =>
        obtain ⟨u, hu, hr⟩ := loadVar_elem (P := P) (hs.inMem hS hm hlt) hi j hk
        rw [Nat.add_assoc] at hu
        exact ⟨u, by simp only [hx, asAddr, Sem.run_bind, Sem.run_pure, Result.andThen]; exact hu, hr⟩
     ·cases hl
    ·rename_i es p j hb
     rw [hb] at rx
     simp only [ORes.ok.injEq, Bool.and_eq_true, decide_eq_true_eq] at hl
     obtain ⟨⟨hlt, hk⟩, rfl, rfl⟩ := hl
     generalize hx : tmps.getD d undef = x at rx
     cases rx with
     | fptr _ _ _ b o k vs hk' hk0 h1 hF h =>
       obtain ⟨u, hu, hr⟩ := loadVar_elem (P := P) (frz_inMem hs hk' h1 hF h hlt) hi j hk
       rw [Nat.add_assoc] at hu
       exact ⟨u, by simp only [hx, asAddr, Sem.run_bind, Sem.run_pure, Result.andThen]; exact hu, hr⟩
    ·cases hl
   ·cases h
theorem resL_sound {F m S w} {a : Tmps} {tmps : Array Value} (hs : Sim β F m S w) (ht : RelT F m a tmps) : ∀ {rs : List ResultVar} {ars : List ARV}, cmpRVs P rs = some ars → ∀ {vs : List AVal}, resL a S ars = some (true, vs) →
  ∃ us : List Value, (rs.mapM (fun r => (match r with
   | .tmp t => pure (tmps.getD t undef)
   | .cell a t => do loadVar t (← asAddr (tmps.getD a undef)) : Sem Value))).run P w = .ok us w ∧ us.length = vs.length ∧ ∀ i, i < vs.length → Rel F m (vs.getD i .top) (us.getD i undef)
 | [], ars, hc, vs, h => by
   simp only [cmpRVs, Option.some.injEq] at hc; subst hc
   simp only [resL, Option.some.injEq, Prod.mk.injEq] at h
   obtain ⟨_, rfl⟩ := h
   exact ⟨[], rfl, rfl, fun i hi => by simp at hi⟩
 | r :: rs, ars, hc, vs, h => by
   simp only [cmpRVs] at hc
   split at hc
   ·rename_i ar ars' h1 h2
    simp only [Option.some.injEq] at hc; subst hc
    simp only [resL] at h
    split at h
    ·rename_i s v s' vs' h3 h4
     simp only [Option.some.injEq, Prod.mk.injEq, Bool.and_eq_true] at h
     obtain ⟨⟨rfl, rfl⟩, rfl⟩ := h
     obtain ⟨u, hu, hr⟩ := resV_sound hs ht h1 h3
     obtain ⟨us, hus, hl, hrs⟩ := resL_sound hs ht h2 h4
     refine ⟨u :: us, ?_, by simp [hl], fun i hi => ?_⟩
     ·simp only [List.mapM_cons, Sem.run_bind, hu, Result.andThen, hus]; rfl
     ·cases i with
      | zero => exact hr
      | succ i => exact hrs i (by simpa using hi)
    ·cases h
   ·cases hc
theorem fn_sound (hm : P.follows .mixedOrders = true) {f : FuncId} {fn : AFn} (hf : cmpFn P β.G rows f = some fn) {args : List AVal} {S : Heap} {R : AEnd → Heap → Prop} (hlen : args.length ≤ fn.nt)
  (h : mwp (ACalls P β) fn.mc (resPost fn.res R) (enum 0 args) S) : ACalls P β f args S R := by
 unfold cmpFn at hf
 split at hf
 ·cases hf
 ·rename_i g hg
  split at hf
  ·cases hf
  ·rename_i c hb
   split at hf
   ·rename_i r c' hcal hr hc
    simp only [Option.some.injEq] at hf; subst hf
    refine ⟨hcal, fun F m w vs hs hv => calls_of_wp hg hb ?_⟩
    have hsz : vs.size ≤ g.ntmps := by rw [← hv.1]; exact hlen
    refine wp_mono (mwp_sound hm c hc h F m _ w hs (fun d => ?_) rfl (by simp; omega)) fun e act w' hp => ?_
    ·show Rel F m _ ((vs ++ Array.replicate (g.ntmps - vs.size) undef).getD d undef)
     rw [get_enum]
     simp only [Nat.zero_le, if_true, Nat.sub_zero]
     by_cases hd : d < args.length
     ·have := hv.2 d hd
      have hd' : d < vs.size := by rw [← hv.1]; exact hd
      rw [Array.getD_eq_getD_getElem?, Array.getElem?_append_left hd', ← Array.getD_eq_getD_getElem?]
      exact this
     ·rw [List.getD_eq_getElem?_getD, List.getElem?_eq_none (by omega)]
      exact .top _
    ·obtain ⟨h1, h2, ae, F', m', a', S', he, hs', ht', hrel, hq⟩ := hp
     have fin : (∃ vs', resL a' S' r = some (true, vs') ∧ R (.ret (one vs')) S') → ∃ u, (results g act.tmps).run P w' = .ok u w' ∧ ∃ ae F' m' S', Ext F m F' m' ∧ Sim β F' m' S' w' ∧ EndRel F' m' ae (.returned u) ∧ R ae S' := by
      rintro ⟨vs', hvs, hR⟩
      obtain ⟨us, hus, hl, hrs⟩ := resL_sound (P := P) hs' ht' hr hvs
      have hrel : Rel F' m' (one vs') (if h : us.toArray.size = 1 then us.toArray[0] else .tuple us.toArray) := by
       match vs', us, hl, hrs with
       | [v], [u], _, hrs => exact hrs 0 (by simp)
       | [], [], _, _ => exact .tuple _ _ rfl (fun i hi => by simp at hi)
       | v :: v' :: l, u :: u' :: l', hl, hrs =>
         rw [dif_neg (by simp)]
         exact .tuple _ _ (by simpa using hl.symm) (fun i hi => by simpa using hrs i hi)
      refine ⟨_, ?_, .ret (one vs'), F', m', S', he, hs', hrel, hR⟩
      obtain ⟨rs⟩ : ∃ rs : List ResultVar, True := ⟨g.results.toList, trivial⟩
      have e1 : g.results = g.results.toList.toArray := by simp
      unfold results
      rw [e1, List.mapM_toArray]
      simp only [Sem.run_bind, Sem.run_map, Result.andThen]
      erw [hus]
      rfl
     have fin' : resPost r R .normal a' S' → ∃ u, (results g act.tmps).run P w' = .ok u w' ∧ ∃ ae F' m' S', Ext F m F' m' ∧ Sim β F' m' S' w' ∧ EndRel F' m' ae (.returned u) ∧ R ae S' := fun hq => by
      apply fin
      simp only [resPost] at hq
      split at hq
      ·rename_i s vs' hvs
       obtain ⟨rfl, hR⟩ := hq
       exact ⟨vs', hvs, hR⟩
      ·exact hq.elim
     cases e with
     | normal =>
       obtain rfl := Exit.rel_normal hrel
       exact ⟨h1, fin' hq⟩
     | ret =>
       cases ae <;> first | exact hrel.elim | exact ⟨h1, fin' hq⟩
     | panic ch =>
       cases ae <;> first | exact hrel.elim | skip
       obtain ⟨u, rfl, hr'⟩ := hrel
       exact ⟨h1, .panic _, F', m', S', he, hs', ⟨u, rfl, hr'⟩, hq⟩
     | exit i => cases ae <;> first | exact hrel.elim | exact hq.elim
     | _ => cases ae <;> exact hrel.elim
   ·cases hf
end
end Go.Abs
