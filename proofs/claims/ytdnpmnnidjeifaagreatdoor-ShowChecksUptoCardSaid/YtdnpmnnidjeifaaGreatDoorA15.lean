/- The abstract machine, part 15: code, calls. Conditions: none; definitions and lemmas. -/
import Derived.Test.YtdnpmnnidjeifaaGreatDoorA29
import Derived.Orders
namespace Go.Abs
open Go Go.RowKit
inductive MK where
 | op (m : MOp)
 | next (x : MOpd)
 | call (f : FuncId) (args : List MOpd)
 | callV (x : MOpd) (args : List MOpd)
structure MI where
 dst : Option Nat
 g : Option (Nat × Bool)
 k : MK
structure DE where
 ix : Nat
 i : MI
 w : Bool
 late : Bool
inductive DT where
 | nil
 | rd (l : List DE) (t : DT)
 | ef (x : DE) (keep : List Nat) (t : DT)
 | or (s t : DT)
inductive MC where
 | skip
 | ops (l : List MI)
 | draw (t : DT)
 | seq (x y : MC)
 | cond (c : MOpd) (x y : MC)
 | block (i : Nat) (c : MC)
 | loop (c : MC)
 | exit (i : Nat)
 | ret
inductive AEnd where
 | ret (v : AVal)
 | panic (v : AVal)
inductive AExit where
 | normal
 | exit (i : Nat)
 | ret
 | panic (v : AVal)
def putD (d : Option Nat) (v : AVal) (a : Tmps) : Tmps :=
 match d with
 | some d => (d, v) :: a
 | none => a
def wantedA (a : Tmps) : Option (Nat × Bool) → Option Bool
 | none => some true
 | some (d, b) => match get a d with
   | .atom (.bool c) => some (c == b)
   | .tuple [] => some false
   | _ => none
abbrev CallP := FuncId → List AVal → Heap → (AEnd → Heap → Prop) → Prop
def stepV (C : CallP) (Kp : AVal → Heap → Prop) (i : MI) (a : Tmps) (S : Heap) (K : AVal → Heap → Prop) : Prop :=
 match wantedA a i.g with
 | none => False
 | some false => K .undef S
 | some true => match i.k with
   | .op m => match m.run S a with
     | .ok side v S' => side = true ∧ K v S'
     | .panic v S' => Kp v S'
     | .fail => False
   | .next x => match nextM S (ev a x) with
     | some l => ∀ o ∈ l, K o.1 o.2
     | none => False
   | .call f args => C f (args.map (ev a)) S fun e S' => match e with
     | .ret v => K v S'
     | .panic v => Kp v S'
   | .callV x args => match ev a x with
     | .clo (.func f) first cap => C f (first ++ args.map (ev a) ++ cap) S fun e S' => match e with
       | .ret v => K v S'
       | .panic v => Kp v S'
     | _ => False
def stepWp (C : CallP) (Kp : AVal → Heap → Prop) (i : MI) (a : Tmps) (S : Heap) (K : Tmps → Heap → Prop) : Prop :=
 stepV C Kp i a S fun v S' => K (putD i.dst v a) S'
def opsWp (C : CallP) (Kp : AVal → Tmps → Heap → Prop) : List MI → Tmps → Heap → (Tmps → Heap → Prop) → Prop
 | [], a, S, K => K a S
 | i :: r, a, S, K => stepWp C (fun v S' => Kp v a S') i a S fun a' S' => opsWp C Kp r a' S' K
structure Pend where
 ix : Nat
 m : MOp
 a : Tmps
 v : AVal
def pendOk (S : Heap) : List Pend → Prop
 | [] => True
 | p :: r => p.m.run S p.a = .ok true p.v S ∧ pendOk S r
def kept (keep : List Nat) (ps : List Pend) : List Pend := ps.filter fun p => keep.contains p.ix
def readWp : List DE → List Pend → Tmps → Heap → (List Pend → Tmps → Prop) → Prop
 | [], ps, a, _, K => K ps a
 | x :: r, ps, a, S, K => match wantedA a x.i.g, x.i.k with
   | some false, _ => readWp r ps (putD x.i.dst .undef a) S K
   | some true, .op m => match m.run S a with
     | .ok side v S' => side = true ∧ S' = S ∧ readWp r (if x.late then ⟨x.ix, m, a, v⟩ :: ps else ps) (putD x.i.dst v a) S K
     | _ => False
   | _, _ => False
def drawWp (C : CallP) (Kp : AVal → Heap → Prop) : DT → List Pend → Tmps → Heap → (Tmps → Heap → Prop) → Prop
 | .nil, _, a, S, K => K a S
 | .rd l t, ps, a, S, K => readWp l ps a S fun ps' a' => drawWp C Kp t ps' a' S K
 | .ef x keep t, ps, a, S, K => stepWp C Kp x.i a S fun a' S' => pendOk S' (kept keep ps) ∧ drawWp C Kp t (kept keep ps) a' S' K
 | .or s t, ps, a, S, K => drawWp C Kp s ps a S K ∧ drawWp C Kp t ps a S K
def mwp (C : CallP) : MC → (AExit → Tmps → Heap → Prop) → Tmps → Heap → Prop
 | .skip, Q, a, S => Q .normal a S
 | .ops l, Q, a, S => opsWp C (fun v a S => Q (.panic v) a S) l a S (Q .normal)
 | .draw t, Q, a, S => drawWp C (fun v S => Q (.panic v) [] S) t [] a S (Q .normal)
 | .seq x y, Q, a, S => mwp C x (fun e a' S' => match e with | .normal => mwp C y Q a' S' | e => Q e a' S') a S
 | .cond c x y, Q, a, S => match ev a c with
   | .atom (.bool b) => (b = true → mwp C x Q a S) ∧ (b = false → mwp C y Q a S)
   | _ => False
 | .block i c, Q, a, S => mwp C c (fun e a' S' => match e with | .exit j => if j = i then Q .normal a' S' else Q (.exit j) a' S' | e => Q e a' S') a S
 | .loop c, Q, a, S => ∃ n : Nat, Nat.rec (motive := fun _ => Tmps → Heap → Prop) (fun _ _ => False) (fun _ R a S => mwp C c (fun e a' S' => match e with | .normal => R a' S' | e => Q e a' S') a S) n a S
 | .exit i, Q, a, S => Q (.exit i) a S
 | .ret, Q, a, S => Q .ret a S
def callable (P : Program) (f : FuncId) : Bool :=
 match P.funcs[f]? with
 | some fn => fn.name != "runtime.NumGoroutine" && fn.body.isSome
 | none => false
def EndRel (F : Frz) (m : Pls) : AEnd → Ending → Prop
 | .ret v, .returned u => Rel F m v u
 | .panic v, .panicked ch => ∃ u, ch = [{ v := u, recovered := false }] ∧ Rel F m v u
 | _, _ => False
def ExitRel (F : Frz) (m : Pls) : AExit → Exit → Prop
 | .normal, .normal => True
 | .exit i, .exit j => i = j
 | .ret, .ret => True
 | .panic v, .panic ch => ∃ u, ch = [{ v := u, recovered := false }] ∧ Rel F m v u
 | _, _ => False
def ACalls (P : Program) (β : Base) (f : FuncId) (args : List AVal) (S : Heap) (R : AEnd → Heap → Prop) : Prop :=
 callable P f = true ∧ ∀ (F : Frz) (m : Pls) (w : World) (vs : Array Value), Sim β F m S w → RelL F m args vs →
  Calls P f vs w fun e w' => ∃ ae F' m' S', Ext F m F' m' ∧ Sim β F' m' S' w' ∧ EndRel F' m' ae e ∧ R ae S'
def Post (β : Base) (nt : Nat) (D : List Deferred) (F : Frz) (m : Pls) (Q : AExit → Tmps → Heap → Prop) : Exit → Act → World → Prop := fun e act w =>
 act.defers = D ∧ act.tmps.size = nt ∧ ∃ ae F' m' a S', Ext F m F' m' ∧ Sim β F' m' S' w ∧ RelT F' m' a act.tmps ∧ ExitRel F' m' ae e ∧ Q ae a S'
def AWp (P : Program) (β : Base) (nt : Nat) (D : List Deferred) (c : Code) (Q : AExit → Tmps → Heap → Prop) (a : Tmps) (S : Heap) : Prop :=
 ∀ (F : Frz) (m : Pls) (act : Act) (w : World), Sim β F m S w → RelT F m a act.tmps → act.defers = D → act.tmps.size = nt → c.wp P (Post β nt D F m Q) act w
theorem Post.ext {β nt D F m F' m' Q e act w} (he : Ext F m F' m') (h : Post β nt D F' m' Q e act w) : Post β nt D F m Q e act w := by
 obtain ⟨h1, h2, ae, F'', m'', a, S', e', r⟩ := h
 exact ⟨h1, h2, ae, F'', m'', a, S', he.trans e', r⟩
theorem Exit.rel_normal {F m ae} (h : ExitRel F m ae .normal) : ae = .normal := by cases ae <;> simp [ExitRel] at h ⊢
section
variable {P : Program} {β : Base} {nt : Nat} {D : List Deferred} {Q : AExit → Tmps → Heap → Prop} {a : Tmps} {S : Heap}
theorem ACalls.mono {f args S} {R R' : AEnd → Heap → Prop} (h : ACalls P β f args S R) (hr : ∀ e S', R e S' → R' e S') : ACalls P β f args S R' :=
 ⟨h.1, fun F m w vs hs hv => (h.2 F m w vs hs hv).mono fun _ _ ⟨ae, F', m', S', e1, e2, e3, e4⟩ => ⟨ae, F', m', S', e1, e2, e3, hr _ _ e4⟩⟩
theorem AWp.skip (h : Q .normal a S) : AWp P β nt D .skip Q a S := fun F m _ _ hs ht hd hn => wp_skip ⟨hd, hn, .normal, F, m, a, S, Ext.refl F m, hs, ht, trivial, h⟩
theorem AWp.exit {i : Nat} (h : Q (.exit i) a S) : AWp P β nt D (.exit i) Q a S := fun F m _ _ hs ht hd hn => wp_exit ⟨hd, hn, .exit i, F, m, a, S, Ext.refl F m, hs, ht, rfl, h⟩
theorem AWp.ret (h : Q .ret a S) : AWp P β nt D .ret Q a S := fun F m _ _ hs ht hd hn => wp_ret ⟨hd, hn, .ret, F, m, a, S, Ext.refl F m, hs, ht, trivial, h⟩
theorem AWp.seq {x y : Code} (h : AWp P β nt D x (fun e a' S' => match e with | .normal => AWp P β nt D y Q a' S' | e => Q e a' S') a S) : AWp P β nt D (.seq x y) Q a S := by
 intro F m act w hs ht hd hn
 refine wp_seq (wp_mono (h F m act w hs ht hd hn) fun e act' w' hp => ?_)
 obtain ⟨h1, h2, ae, F', m', a', S', he, hs', ht', hr, hq⟩ := hp
 cases e with
 | normal =>
   obtain rfl := Exit.rel_normal hr
   exact wp_mono (hq F' m' act' w' hs' ht' h1 h2) fun e a w h => h.ext he
 | _ =>
   refine ⟨h1, h2, ae, F', m', a', S', he, hs', ht', hr, ?_⟩
   cases ae <;> first | exact hr.elim | exact hq
theorem AWp.cond {c : Operand} {c' : MOpd} {x y : Code} {b : Bool} (hc : od β.G c = some c') (hb : ev a c' = .bool b) (hx : b = true → AWp P β nt D x Q a S) (hy : b = false → AWp P β nt D y Q a S) : AWp P β nt D (.cond c x y) Q a S := by
 intro F m act w hs ht hd hn
 have r := rel_od hs.glob ht hc
 rw [hb] at r
 exact wp_cond_split r.bool_inv (fun h => hx h F m act w hs ht hd hn) (fun h => hy h F m act w hs ht hd hn)
theorem AWp.block {i : Nat} {c : Code} (h : AWp P β nt D c (fun e a' S' => match e with | .exit j => if j = i then Q .normal a' S' else Q (.exit j) a' S' | e => Q e a' S') a S) : AWp P β nt D (.block i c) Q a S := by
 intro F m act w hs ht hd hn
 refine wp_block (wp_mono (h F m act w hs ht hd hn) fun e act' w' hp => ?_)
 obtain ⟨h1, h2, ae, F', m', a', S', he, hs', ht', hr, hq⟩ := hp
 cases e with
 | exit j =>
   cases ae <;> first | exact hr.elim | skip
   obtain rfl := hr
   simp only [Exit.inBlock]
   split
   ·rename_i hji
    simp only [hji, if_true] at hq
    exact ⟨h1, h2, .normal, F', m', a', S', he, hs', ht', trivial, hq⟩
   ·rename_i hji
    simp only [hji, if_false] at hq
    exact ⟨h1, h2, .exit _, F', m', a', S', he, hs', ht', rfl, hq⟩
 | _ =>
   refine ⟨h1, h2, ae, F', m', a', S', he, hs', ht', hr, ?_⟩
   cases ae <;> first | exact hr.elim | exact hq
theorem AWp.loop {c : Code} (R : Nat → Tmps → Heap → Prop) (h0 : ∀ a S, ¬ R 0 a S) (hr : ∀ n a S, R (n + 1) a S → AWp P β nt D c (fun e a' S' => match e with | .normal => R n a' S' | e => Q e a' S') a S) (n : Nat) (h : R n a S) : AWp P β nt D (.loop c) Q a S := by
 intro F m act w hs ht hd hn
 have key : ∀ (I : Nat → Act → World → Prop), (∀ a w, ¬ I 0 a w) → (∀ n a w, I (n + 1) a w → c.wp P (Exit.then (I n) (Post β nt D F m Q)) a w) → ∀ n, I n act w → (Code.loop c).wp P (Post β nt D F m Q) act w := by
  intro I hI0 hI n hn
  let J : Act → World → Prop := fun a w => ∃ n, I n a w
  classical
  have hne : ∀ a w (h : J a w), ∃ n, I n a w ∧ ∀ k, I k a w → n ≤ k := fun a w h => by
   obtain ⟨n, hn⟩ := h
   induction n using Nat.strongRecOn with
   | _ n ih =>
     by_cases hk : ∃ k, k < n ∧ I k a w
     ·obtain ⟨k, hk, hi⟩ := hk; exact ih k hk hi
     ·exact ⟨n, hn, fun k hi => by
       rcases Nat.lt_or_ge k n with h | h
       ·exact absurd ⟨k, h, hi⟩ hk
       ·exact h⟩
  refine wp_loop J (fun a w => if h : J a w then Classical.choose (hne a w h) else 0) ⟨n, hn⟩ fun a w hJ => ?_
  have hspec := Classical.choose_spec (hne a w hJ)
  have hμ : (if h : J a w then Classical.choose (hne a w h) else 0) = Classical.choose (hne a w hJ) := dif_pos hJ
  rw [hμ]
  generalize Classical.choose (hne a w hJ) = q at hspec
  obtain ⟨hq, _⟩ := hspec
  cases q with
  | zero => exact absurd hq (hI0 a w)
  | succ q =>
    refine wp_mono (hI q a w hq) fun e a' w' he => ?_
    cases e with
    | normal =>
      have hJ' : J a' w' := ⟨q, he⟩
      refine ⟨hJ', ?_⟩
      show (if h : J a' w' then Classical.choose (hne a' w' h) else 0) < q + 1
      rw [dif_pos hJ']
      have := (Classical.choose_spec (hne a' w' hJ')).2 q he
      omega
    | _ => exact he
 refine key (fun n act w => act.defers = D ∧ act.tmps.size = nt ∧ ∃ F' m' a S, Ext F m F' m' ∧ Sim β F' m' S w ∧ RelT F' m' a act.tmps ∧ R n a S) (fun _ _ ⟨_, _, _, _, a, S, _, _, _, h⟩ => h0 a S h) (fun n act w ⟨h1, h2, F', m', a, S, he, hs', ht', hR⟩ => ?_) n ⟨hd, hn, F, m, a, S, Ext.refl F m, hs, ht, h⟩
 refine wp_mono (hr n a S hR F' m' act w hs' ht' h1 h2) fun e act' w' hp => ?_
 obtain ⟨h1', h2', ae, F'', m'', a', S', he', hs'', ht'', hrel, hq⟩ := hp
 cases e with
 | normal =>
   obtain rfl := Exit.rel_normal hrel
   exact ⟨h1', h2', F'', m'', a', S', he.trans he', hs'', ht'', hq⟩
 | _ =>
   refine ⟨h1', h2', ae, F'', m'', a', S', he.trans he', hs'', ht'', hrel, ?_⟩
   cases ae <;> first | exact hrel.elim | exact hq
end
end Go.Abs
