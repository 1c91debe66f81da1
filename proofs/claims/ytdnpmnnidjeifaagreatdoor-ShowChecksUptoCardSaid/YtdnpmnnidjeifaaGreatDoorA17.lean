/- The abstract machine, part 17: one instruction, and code whose order is given. Conditions: none; definitions and lemmas. -/
import Derived.Test.YtdnpmnnidjeifaaGreatDoorA16
namespace Go.Abs
open Go Go.RowKit
section
variable {P : Program} {β : Base} {rows : List Nat} {nt : Nat}
theorem wanted_sound {F m} {a : Tmps} {tmps : Array Value} (ht : RelT F m a tmps) {ops : Array Oper} {o : Oper} {g : Option (Nat × Bool)} (hg : cmpG nt ops o.guard = some g) (hsz : tmps.size = nt) {b : Bool} (h : wantedA a g = some b) :
  Region.wanted o (yielded ops tmps) = b := by
 unfold cmpG at hg
 unfold Region.wanted
 split at hg
 ·rename_i hn
  simp only [Option.some.injEq] at hg; subst hg
  simp only [wantedA, Option.some.injEq] at h
  rw [hn]; exact h
 ·rename_i j want hgd
  rw [hgd]
  split at hg
  ·rename_i d hd
   split at hg
   ·rename_i hlt
    simp only [Option.some.injEq] at hg; subst hg
    have r := ht d
    have hy : yielded ops tmps j = match tmps.getD d undef with | .bool b => some b | _ => none := by
     have hdt : d < tmps.size := by rw [hsz]; assumption
     simp only [yielded, hd, Option.bind_some, Array.getElem?_eq_getElem hdt, agetD_eq _ _ _ hdt]
     split <;> simp_all
    simp only [wantedA] at h
    split at h
    ·rename_i c hc
     simp only [Option.some.injEq] at h; subst h
     rw [hc] at r
     simp only [hy, r.bool_inv]
     cases c <;> cases want <;> rfl
    ·rename_i hc
     simp only [Option.some.injEq] at h; subst h
     rw [hc] at r
     have : tmps.getD d undef = .tuple #[] := by
      generalize tmps.getD d undef = q at r
      cases r with
      | tuple cs vs hl _ => congr 1; exact Array.eq_empty_of_size_eq_zero hl.symm
     simp [hy, this]
    ·cases h
   ·cases hg
  ·cases hg
theorem callable_spec {f : FuncId} (h : callable P f = true) : ∃ fn, P.funcs[f]? = some fn ∧ (fn.name == "runtime.NumGoroutine") = false ∧ fn.body.isNone = false := by
 unfold callable at h
 split at h
 ·rename_i fn hf
  simp only [Bool.and_eq_true, bne_iff_ne, ne_eq] at h
  refine ⟨fn, hf, by simpa using h.1, ?_⟩
  have := h.2
  cases hb : fn.body <;> simp_all
 ·cases h
theorem run_callFunc {f : FuncId} (h : callable P f = true) (args : Array Value) (w : World) : (callFunc f args).run P w = .ok (.enter f args) w := by
 obtain ⟨fn, h1, h2, h3⟩ := callable_spec h
 have h2' : ¬ (fn.name = "runtime.NumGoroutine") := by simpa using h2
 have h3' : ¬ (fn.body = none) := by intro h; rw [h] at h3; cases h3
 simp [callFunc, h1, h2', h3']
theorem relL_ods {F m} (hg : ∀ g, Rel F m (β.G g) (.pointer (some ⟨g, 0, none⟩))) {a : Tmps} {act : Act} (h : RelT F m a act.tmps) {xs : Array Operand} {ys : List MOpd} (hx : ods β.G xs.toList = some ys) :
  RelL F m (ys.map (ev a)) (xs.map act.eval) := rel_ods hg h hx
theorem op_step {F m S w} {a : Tmps} {act : Act} {o : Oper} {mo : MOp} {Kp : AVal → Heap → Prop} {K : AVal → Heap → Prop} (hsound : Sound P β o mo) (hnp : ∀ x, mo ≠ .panic x) (hs : Sim β F m S w) (ht : RelT F m a act.tmps)
  (h : match mo.run S a with
   | .ok side v S' => side = true ∧ K v S'
   | .panic v S' => Kp v S'
   | .fail => False) {PQ : Exit → Act → World → Prop} {KK : Act → World → Prop}
  (hK : ∀ F' m' v u S' w', Ext F m F' m' → Sim β F' m' S' w' → Rel F' m' v u → K v S' → KK (act.put o.dst u) w') : o.wp P act w KK PQ := by
 split at h
 ·rename_i side v S' hrun
  obtain ⟨rfl, h⟩ := h
  obtain ⟨u, w', F', m', hy, he, hs', hr⟩ := hsound F m S w a act v S' hs ht hrun
  unfold Oper.wp
  rcases hy with hy | ⟨hy, rfl⟩
  ·rw [hy, Oper.upon_value]; exact hK F' m' v u S' w' he hs' hr h
  ·rw [hy, Oper.upon_skip]; exact hK F' m' v _ S' w' he hs' hr h
 ·rename_i v S' hrun
  obtain ⟨x, t, u, rfl, _⟩ := panic_only hrun
  exact absurd rfl (hnp _)
 ·exact h.elim
theorem cmpKr_cases {o : Oper} {k : MK} (h : cmpKr P β.G rows o = some k) : (∃ mo, k = .op mo ∧ Sound P β o mo ∧ ∀ x, mo ≠ .panic x) ∨ cmpK P β.G o.op = some k := by
 unfold cmpKr at h
 split at h
 rotate_left 1
 ·simp only [Option.some.injEq] at h
  exact .inl ⟨stuckOp, h.symm, fun F m S w a act v S' _ _ hr => by simp [stuckOp, MOp.run, ev] at hr, fun x hx => by cases hx⟩
 rename_i k' h'
 simp only [Option.some.injEq] at h
 subst h
 have h := h'
 clear h'
 unfold cmpKr0 at h
 split at h
 ·rename_i t n parts d hop hd
  split at h
  ·split at h
   ·rename_i e hu
    split at h
    ·rename_i i l hi hl
     simp only [Option.some.injEq] at h
     subst h
     exact .inl ⟨_, rfl, sound_brow hop hu hi hl, fun x hx => by cases hx⟩
    ·cases h
   ·cases h
  ·exact .inr h
 ·exact .inr h
theorem step_sound {F m S w} {a : Tmps} {act : Act} {ops : Array Oper} {i : Nat} {o : Oper} {mi : MI} {Kp : AVal → Heap → Prop} {K : AVal → Heap → Prop} (ho : ops[i]? = some o) (hc : cmpI P β.G rows nt ops o = some mi)
  (hs : Sim β F m S w) (ht : RelT F m a act.tmps) (hsz : act.tmps.size = nt) (h : stepV (ACalls P β) Kp mi a S K) {PQ : Exit → Act → World → Prop} {KK : Act → World → Prop}
  (hK : ∀ F' m' v u S' w', Ext F m F' m' → Sim β F' m' S' w' → Rel F' m' v u → K v S' → KK (act.put o.dst u) w')
  (hP : ∀ F' m' v u S' w', Ext F m F' m' → Sim β F' m' S' w' → Rel F' m' v u → Kp v S' → PQ (.panic [{ v := u, recovered := false }]) act w') :
  mi.dst = o.dst ∧ (∀ d, o.dst = some d → d < nt) ∧ wpOp P ops PQ i KK act w := by
 unfold cmpI at hc
 split at hc
 ·rename_i k g hk hg hd
  simp only [Option.some.injEq] at hc
  subst hc
  refine ⟨rfl, fun d he => by rw [he] at hd; simpa using hd, ?_⟩
  simp only [stepV] at h
  unfold wpOp
  rw [ho]
  simp only
  split at h
  ·exact h.elim
  ·rename_i hw
   rw [wanted_sound ht hg hsz hw]
   simp only [Bool.false_eq_true, if_false]
   exact hK F m .undef undef S w (Ext.refl F m) hs (.tuple [] #[] rfl (fun i hi => by simp at hi)) h
  ·rename_i hw
   rw [wanted_sound ht hg hsz hw]
   simp only [if_true]
   left
   have hcall : ∀ f args xs, callable P f = true → RelL F m args xs → (execOp act.eval o).run P w = .ok (.enter f xs) w → (ACalls P β f args S fun e S' => match e with
     | .ret v => K v S'
     | .panic v => Kp v S') → o.wp P act w KK PQ := fun f args xs _ hrel hrun hC => by
    unfold Oper.wp
    rw [hrun, Oper.upon_enter]
    refine (hC.2 F m w xs hs hrel).mono fun e w' hp => ?_
    obtain ⟨ae, F', m', S', he, hs', hr, hh⟩ := hp
    cases e with
    | returned u => cases ae <;> first | exact hr.elim | exact hK F' m' _ u S' w' he hs' hr hh
    | panicked ch =>
      cases ae <;> first | exact hr.elim | skip
      obtain ⟨u, rfl, hr⟩ := hr
      exact hP F' m' _ u S' w' he hs' hr hh
    | outgrown => cases ae <;> exact hr.elim
   rcases cmpKr_cases hk with ⟨mo, rfl, hsound, hnp⟩ | hk
   ·exact op_step hsound hnp hs ht h hK
   unfold cmpK at hk
   split at hk
   ·rename_i f args ts hop
    split at hk
    ·rename_i hcal
     simp only [Option.map_eq_some_iff] at hk
     obtain ⟨l, hl, rfl⟩ := hk
     have hrel := relL_ods hs.glob ht hl
     refine hcall f _ (args.map act.eval) hcal hrel ?_ h
     simp [execOp, hop, resolve, Act.eval, Deferred.ofValue, invoke, run_callFunc hcal]
    ·cases hk
   ·rename_i x args ts hnf hop
    split at hk
    ·rename_i x' l hx hl
     simp only [Option.some.injEq] at hk
     subst hk
     have rx := rel_od hs.glob ht hx
     have hrel := relL_ods hs.glob ht hl
     simp only at h
     split at h
     ·rename_i f first cap hev
      rw [hev] at rx
      generalize hv : act.eval x = v at rx
      cases rx with
      | clo _ _ _ f2 c2 hf hc h1 h2 =>
        have r1 : RelL F m first f2 := ⟨hf, h1⟩
        have r2 : RelL F m cap c2 := ⟨hc, h2⟩
        have hcal := h.1
        refine hcall f _ (f2 ++ args.map act.eval ++ c2) hcal ((r1.append hrel).append r2) ?_ h
        simp [execOp, hop, resolve, hv, Deferred.ofValue, invoke, run_callFunc hcal]
     ·exact h.elim
    ·cases hk
   ·rename_i x hop
    simp only [Option.map_eq_some_iff] at hk
    obtain ⟨x', hx, rfl⟩ := hk
    simp only at h
    split at h
    ·rename_i l hl
     obtain ⟨r, hr, u, w', hrun, hs', hrel⟩ := sound_next hop hx hs ht hl
     unfold Oper.wp
     rw [hrun, Oper.upon_value]
     exact hK F m r.1 u r.2 w' (Ext.refl F m) hs' hrel (h r hr)
    ·exact h.elim
   ·rename_i x hop
    simp only [Option.map_eq_some_iff] at hk
    obtain ⟨x', hx, rfl⟩ := hk
    have rx := rel_od hs.glob ht hx
    simp only [MOp.run] at h
    cases he : ev a x' with
    | iface t u =>
      rw [he] at h rx
      simp only at h
      generalize hv : act.eval x = v at rx
      have rx' := rx
      cases rx with
      | iface _ _ uv hu =>
        unfold Oper.wp
        have hrun : (execOp act.eval o).run P w = .halt (.panic (.iface t uv)) w := by simp [execOp, hop, hv, Instr.panic, goPanic]
        rw [hrun, Oper.upon_panic]
        exact hP F m _ _ S w (Ext.refl F m) hs rx' h
    | _ => rw [he] at h; exact h.elim
   ·rename_i hn1 hn2 hn3 hn4
    split at hk
    ·rename_i mo hmo
     split at hk
     ·rename_i hserv
      simp only [Option.some.injEq] at hk
      subst hk
      exact op_step (cmp_sound (P := P) (β := β) (o := o) hmo hserv) (fun x hx => by subst hx; cases hserv) hs ht h hK
     ·cases hk
    ·cases hk
 ·cases hc
theorem putD_rel {F m} {a : Tmps} {act : Act} (ht : RelT F m a act.tmps) {dst : Option Nat} (hd : ∀ d, dst = some d → d < act.tmps.size) {v : AVal} {u : Value} (hr : Rel F m v u) :
  RelT F m (putD dst v a) (act.put dst u).tmps := by
 cases dst with
 | none => exact ht
 | some d => exact ht.put (hd d rfl) hr
theorem put_size (act : Act) (dst : Option Nat) (u : Value) : (act.put dst u).tmps.size = act.tmps.size := by
 cases dst <;> simp [Act.put]
theorem put_defers (act : Act) (dst : Option Nat) (u : Value) : (act.put dst u).defers = act.defers := by
 cases dst <;> rfl
theorem ops_sound {D : List Deferred} {Q : AExit → Tmps → Heap → Prop} {ops : Array Oper} {F0 : Frz} {m0 : Pls} : ∀ (is : List Nat) (l : List MI), is.length = l.length → (∀ (q : Nat) (h : q < is.length) (h' : q < l.length), ∃ o, ops[is[q]]? = some o ∧ cmpI P β.G rows nt ops o = some l[q]) →
  ∀ (F : Frz) (m : Pls) (S : Heap) (w : World) (a : Tmps) (act : Act), Ext F0 m0 F m → Sim β F m S w → RelT F m a act.tmps → act.tmps.size = nt → act.defers = D →
  opsWp (ACalls P β) (fun v a S => Q (.panic v) a S) l a S (Q .normal) → wpOps P ops (Post β nt D F0 m0 Q) is act w
 | [], [], _, _, F, m, S, w, a, act, he, hs, ht, hsz, hd, h => ⟨hd, hsz, .normal, F, m, a, S, he, hs, ht, trivial, h⟩
 | i :: is, mi :: l, hlen, hall, F, m, S, w, a, act, he, hs, ht, hsz, hd, h => by
   obtain ⟨o, ho, hc⟩ := hall 0 (by simp) (by simp)
   simp only [List.getElem_cons_zero] at ho hc
   rw [wpOps_cons]
   simp only [opsWp, stepWp] at h
   have hpre := step_sound (PQ := Post β nt D F0 m0 Q) (KK := wpOps P ops (Post β nt D F0 m0 Q) is) ho hc hs ht hsz h
   have hdst : mi.dst = o.dst ∧ ∀ d, o.dst = some d → d < nt := by
    unfold cmpI at hc
    split at hc
    ·rename_i k g _ _ hd'
     simp only [Option.some.injEq] at hc
     subst hc
     exact ⟨rfl, fun d he => by rw [he] at hd'; simpa using hd'⟩
    ·cases hc
   refine (hpre (fun F' m' v u S' w' he' hs' hr hK => ?_) (fun F' m' v u S' w' he' hs' hr hK => ?_)).2.2
   ·refine ops_sound is l (by simpa using hlen) (fun q h1 h2 => by have := hall (q + 1) (by simp; omega) (by simp; omega); simpa using this) F' m' S' w' _ _ (he.trans he') hs' ?_ (by rw [put_size]; exact hsz) (by rw [put_defers]; exact hd) hK
    rw [hdst.1]
    exact putD_rel (ht.mono he') (fun d h => by rw [hsz]; exact hdst.2 d h) hr
   ·exact ⟨hd, hsz, .panic v, F', m', a, S', he.trans he', hs', ht.mono he', ⟨u, rfl, hr⟩, hK⟩
end
end Go.Abs
