/- The abstract machine, part 20: a statement whose order is open, in every order. Conditions: none; definitions and lemmas. -/
import Derived.Test.YtdnpmnnidjeifaaGreatDoorA19
namespace Go.Abs
open Go Go.RowKit
section
variable {P : Program} {β : Base} {rows : List Nat} {nt : Nat} {ops : Array Oper}
def isL (listed : Array Bool) (x : DE) : Prop := listed.getD x.ix false = true
def Comp (P : Program) (G : Nat → AVal) (rows : List Nat) (nt : Nat) (ops : Array Oper) (x : DE) : Prop := ∃ o, ops[x.ix]? = some o ∧ cmpI P G rows nt ops o = some x.i
def PendI (ops : Array Oper) (F : Frz) (m : Pls) (listed : Array Bool) (dn : List DE) (ps : List Pend) (a : Tmps) (S : Heap) (tmps : Array Value) (x : DE) : Prop :=
 ∃ ax v, x.w = false ∧ (∀ d, x.i.dst = some d → get a d = v) ∧
  (∀ d ∈ x.i.slots, (∀ y ∈ dn, ¬ isL listed y → y.ix ≠ x.ix → y.i.dst = some d → anc (masks ops.toList []) x.ix y.ix = false) → Rel F m (get ax d) (tmps.getD d undef)) ∧
  (∀ d ∈ x.i.slots, ∀ y ∈ dn, y.ix ≠ x.ix → anc (masks ops.toList []) x.ix y.ix = true → y.i.dst = some d → get ax d = get a d) ∧
  ((wantedA ax x.i.g = some false ∧ v = .undef) ∨ (wantedA ax x.i.g = some true ∧ ∃ mo, x.i.k = .op mo ∧ mo.run S ax = .ok true v S ∧ (x.late = true → (⟨x.ix, mo, ax, v⟩ : Pend) ∈ ps)))
structure Inv (P : Program) (β : Base) (rows : List Nat) (C : CallP) (Kp : AVal → Heap → Prop) (K : Tmps → Heap → Prop) (nt : Nat) (ops : Array Oper) (F : Frz) (m : Pls) (listed : Array Bool) (top : Bool) (dn : List DE) (t : DT) (ps : List Pend) (a : Tmps) (S : Heap) (tmps : Array Value) : Prop where
 sz : tmps.size = nt
 lsz : listed.size = ops.size
 closed : Closed ops listed
 edge : ∀ (i : Nat) o e, ops[i]? = some o → e ∈ o.after → Region.binds .any e = true → e.on < ops.size
 sub : ∀ i, listed.getD i false = true → ∃ x ∈ dn, x.ix = i
 eff : ∀ x ∈ dn, x.w = true → isL listed x
 good : ∀ x ∈ dn, ∀ y ∈ dn, x.ix ≠ y.ix → slotOk (masks ops.toList []) x y = true
 inj : ∀ x ∈ dn, ∀ y ∈ dn, x.ix = y.ix → x = y
 lin : dn.Pairwise fun x y => anc (masks ops.toList []) x.ix y.ix = false
 irr : ∀ x ∈ dn, anc (masks ops.toList []) x.ix x.ix = false
 up : ∀ x ∈ dn, ∀ j, j < ops.size → anc (masks ops.toList []) x.ix j = true → ∃ y ∈ dn, y.ix = j
 comp : ∀ x ∈ dn, Comp P β.G rows nt ops x
 compT : ∀ x ∈ t.des, Comp P β.G rows nt ops x
 tree : treeOk (masks ops.toList []) ops.size top t dn = true
 cur : ∀ d, (∀ x ∈ dn, ¬ isL listed x → x.i.dst ≠ some d) → Rel F m (get a d) (tmps.getD d undef)
 pend : ∀ x ∈ dn, ¬ isL listed x → PendI ops F m listed dn ps a S tmps x
 wp : drawWp C Kp t ps a S K
theorem anc_spec {i j : Nat} (h : anc (masks ops.toList []) i j = true) : Anc ops i j :=
 (masks_spec ops.toList [] [] rfl rfl (fun i j h => by simp [anc] at h) (fun i o e h => by simp at h)).1 i j h
theorem anc_edge {i : Nat} {o : Oper} {e : Edge} (ho : ops[i]? = some o) (he : e ∈ o.after) (hb : Region.binds .any e = true) : anc (masks ops.toList []) i e.on = true :=
 (masks_spec ops.toList [] [] rfl rfl (fun i j h => by simp [anc] at h) (fun i o e h => by simp at h)).2 i o e ho he hb
theorem ready_anc {listed : Array Bool} (hc : Closed ops listed) {i j : Nat} (hr : i ∈ Region.ready .any ops listed) (h : anc (masks ops.toList []) i j = true) : listed.getD j false = true := by
 obtain ⟨_, o, ho, hall⟩ := mem_ready.1 hr
 refine (anc_spec h).listed hc fun o' e ho' he hb => ?_
 rw [ho] at ho'; cases ho'
 exact hall e he hb
theorem closed_anc {listed : Array Bool} (hc : Closed ops listed) {i j : Nat} (hi : listed.getD i false = true) (h : anc (masks ops.toList []) i j = true) : listed.getD j false = true :=
 (anc_spec h).listed hc fun o e ho he hb => hc i o e hi ho he hb
theorem get_putD {dst : Option Nat} {v : AVal} {a : Tmps} {d : Nat} (hd : dst ≠ some d) : get (putD dst v a) d = get a d := by
 unfold putD
 split
 ·rename_i d'
  simp only [get]
  rw [if_neg]; rintro rfl; exact hd rfl
 ·rfl
theorem get_putD_self {v : AVal} {a : Tmps} {d : Nat} : get (putD (some d) v a) d = v := by simp [putD, get]
theorem mem_snoc {α : Type} {l : List α} {x y : α} (h : y ∈ l ++ [x]) : y ∈ l ∨ y = x := by
 rcases List.mem_append.1 h with h | h
 ·exact .inl h
 ·simp at h; exact .inr h
theorem Inv.read {C : CallP} {Kp K} {F m} {listed : Array Bool} {dn : List DE} {x : DE} {r : List DE} {t : DT} {ps : List Pend} {a : Tmps} {S : Heap} {tmps : Array Value}
  (h : Inv P β rows C Kp K nt ops F m listed true dn (.rd (x :: r) t) ps a S tmps) : ∃ ps' a', Inv P β rows C Kp K nt ops F m listed true (dn ++ [x]) (.rd r t) ps' a' S tmps := by
 have htree := h.tree
 simp only [treeOk, readsOk, Bool.and_eq_true, Bool.true_and, Bool.not_eq_true'] at htree
 obtain ⟨⟨⟨hw, hadd⟩, hreads⟩, hrest⟩ := htree
 obtain ⟨hadd, hirr, hup⟩ := addOk_spec hadd
 have hne : ∀ y ∈ dn, y.ix ≠ x.ix := fun y hy => (hadd y hy).1
 have hlin : ∀ y ∈ dn, anc (masks ops.toList []) y.ix x.ix = false := fun y hy => (hadd y hy).2.1
 have hxy : ∀ y ∈ dn, slotOk (masks ops.toList []) x y = true := fun y hy => (hadd y hy).2.2.1
 have hyx : ∀ y ∈ dn, slotOk (masks ops.toList []) y x = true := fun y hy => (hadd y hy).2.2.2
 have hun : ¬ isL listed x := fun hl => by
  obtain ⟨y, hy, he⟩ := h.sub _ hl
  exact hne y hy he
 have key : ∀ v ps', (∀ p ∈ ps, p ∈ ps') →
   ((wantedA a x.i.g = some false ∧ v = .undef) ∨ (wantedA a x.i.g = some true ∧ ∃ mo, x.i.k = .op mo ∧ mo.run S a = .ok true v S ∧ (x.late = true → (⟨x.ix, mo, a, v⟩ : Pend) ∈ ps'))) →
   readWp r ps' (putD x.i.dst v a) S (fun ps' a' => drawWp C Kp t ps' a' S K) → Inv P β rows C Kp K nt ops F m listed true (dn ++ [x]) (.rd r t) ps' (putD x.i.dst v a) S tmps := by
  intro v ps' hps hread hwp
  refine ⟨h.sz, h.lsz, h.closed, h.edge, fun i hi => ?_, fun y hy hyw => ?_, fun y hy z hz hyz => ?_, fun y hy z hz hyz => ?_, List.pairwise_append.2 ⟨h.lin, by simp, by simpa using hlin⟩, fun y hy => ?_, fun y hy j hj ha => ?_, fun y hy => ?_, fun y hy => ?_, ?_, fun d hd => ?_, fun y hy hyu => ?_, hwp⟩
  ·obtain ⟨y, hy, he⟩ := h.sub i hi; exact ⟨y, by simp [hy], he⟩
  ·rcases mem_snoc hy with hy | rfl
   ·exact h.eff y hy hyw
   ·rw [hw] at hyw; cases hyw
  ·rcases mem_snoc hy with h1 | h1 <;> rcases mem_snoc hz with h2 | h2
   ·exact h.good y h1 z h2 hyz
   ·rw [h2]; exact hyx y h1
   ·rw [h1]; exact hxy z h2
   ·exact absurd (by rw [h1, h2]) hyz
  ·rcases mem_snoc hy with h1 | h1 <;> rcases mem_snoc hz with h2 | h2
   ·exact h.inj y h1 z h2 hyz
   ·rw [h2] at hyz; exact absurd hyz (hne y h1)
   ·rw [h1] at hyz; exact absurd hyz.symm (hne z h2)
   ·rw [h1, h2]
  ·rcases mem_snoc hy with hy | rfl
   ·exact h.irr y hy
   ·exact hirr
  ·have : ∃ z ∈ dn, z.ix = j := by
    rcases mem_snoc hy with hy | rfl
    ·exact h.up y hy j hj ha
    ·exact hup j hj ha
   obtain ⟨z, hz, he⟩ := this
   exact ⟨z, by simp [hz], he⟩
  ·rcases mem_snoc hy with hy | rfl
   ·exact h.comp y hy
   ·exact h.compT _ (by simp [DT.des])
  ·exact h.compT y (by simp [DT.des] at hy ⊢; exact .inr hy)
  ·simp only [treeOk, Bool.and_eq_true, Bool.true_and]
   rw [List.append_assoc]
   exact ⟨hreads, hrest⟩
  ·have hxd : x.i.dst ≠ some d := hd x (by simp) hun
   rw [get_putD hxd]
   exact h.cur d fun y hy hyu => hd y (by simp [hy]) hyu
  ·rcases mem_snoc hy with hy | rfl
   ·obtain ⟨ax, u, h1, h2, h3, h4, h5⟩ := h.pend y hy hyu
    refine ⟨ax, u, h1, fun d hd => ?_, fun d hd hh => h3 d hd fun z hz => hh z (by simp [hz]), fun d hd z hz hzy hanc hzd => ?_, ?_⟩
    ·rw [get_putD fun hxd => (slotOk_spec (hyx y hy) hd).1 hxd]
     exact h2 d hd
    ·rcases mem_snoc hz with hz1 | hz1
     ·rw [h4 d hd z hz1 hzy hanc hzd]
      exact (get_putD fun hxd => (slotOk_spec (hyx z hz1) hzd).1 hxd).symm
     ·rw [hz1, hlin y hy] at hanc; cases hanc
    ·rcases h5 with h5 | ⟨h5, mo, h6, h7, h8⟩
     ·exact .inl h5
     ·exact .inr ⟨h5, mo, h6, h7, fun hk => hps _ (h8 hk)⟩
   ·refine ⟨a, v, hw, fun d hd => by rw [hd]; exact get_putD_self, fun d hd hh => h.cur d fun z hz hzu hzd => ?_, fun d hd z hz hzy hanc hzd => ?_, hread⟩
    ·rcases (slotOk_spec (hyx z hz) hzd).2 hd with h' | h'
     ·rw [hlin z hz] at h'; cases h'
     ·rw [hh z (by simp [hz]) hzu (hne z hz) hzd] at h'; cases h'
    ·rcases mem_snoc hz with hz | rfl
     ·exact (get_putD fun hxd => (slotOk_spec (hyx z hz) hzd).1 hxd).symm
     ·exact absurd rfl hzy
 have hwp := h.wp
 simp only [drawWp, readWp] at hwp
 split at hwp
 ·rename_i hwn
  exact ⟨ps, _, key .undef ps (fun _ h => h) (.inl ⟨hwn, rfl⟩) hwp⟩
 ·rename_i mo hwn hmo
  split at hwp
  ·rename_i side v S' hrun
   obtain ⟨rfl, rfl, hwp⟩ := hwp
   refine ⟨_, _, key v _ (fun p hp => ?_) (.inr ⟨hwn, mo, hmo, hrun, fun hlt => ?_⟩) hwp⟩
   ·split
    ·exact List.mem_cons_of_mem _ hp
    ·exact hp
   ·rw [if_pos hlt]; simp
  ·exact hwp.elim
 ·exact hwp.elim
def DT.isRd : DT → Bool
 | .rd _ _ => true
 | _ => false
theorem Inv.advance {C : CallP} {Kp K} {F m} {listed : Array Bool} {S : Heap} {tmps : Array Value} : ∀ (t : DT) {dn : List DE} {ps : List Pend} {a : Tmps},
  Inv P β rows C Kp K nt ops F m listed true dn t ps a S tmps → ∃ dn' t' ps' a', Inv P β rows C Kp K nt ops F m listed true dn' t' ps' a' S tmps ∧ t'.isRd = false
 | .nil, dn, ps, a, h => ⟨dn, _, ps, a, h, rfl⟩
 | .ef .., dn, ps, a, h => ⟨dn, _, ps, a, h, rfl⟩
 | .or .., dn, ps, a, h => ⟨dn, _, ps, a, h, rfl⟩
 | .rd l t, dn, ps, a, h => by
   induction l generalizing dn ps a with
   | nil =>
     have h' : Inv P β rows C Kp K nt ops F m listed true dn t ps a S tmps :=
      ⟨h.sz, h.lsz, h.closed, h.edge, h.sub, h.eff, h.good, h.inj, h.lin, h.irr, h.up, h.comp, fun x hx => h.compT x (by simp [DT.des, hx]), by have := h.tree; simp only [treeOk, readsOk, Bool.and_eq_true, List.append_nil] at this; exact this.2, h.cur, h.pend, h.wp⟩
     exact h'.advance t
   | cons x r ih =>
     obtain ⟨ps', a', h'⟩ := h.read
     exact ih _ _ _ h'
theorem Inv.pick {C : CallP} {Kp K} {F m} {listed : Array Bool} {S : Heap} {tmps : Array Value} {dn : List DE} {ps : List Pend} {a : Tmps} {x : DE} : ∀ (t : DT) {top : Bool}, Inv P β rows C Kp K nt ops F m listed top dn t ps a S tmps → x ∈ t.heads →
  ∃ keep t', Inv P β rows C Kp K nt ops F m listed false dn (.ef x keep t') ps a S tmps
 | .nil, _, _, hx => by simp [DT.heads] at hx
 | .rd .., _, _, hx => by simp [DT.heads] at hx
 | .ef y keep t, top, h, hx => by
   simp only [DT.heads, List.mem_singleton] at hx
   subst hx
   refine ⟨keep, t, h.sz, h.lsz, h.closed, h.edge, h.sub, h.eff, h.good, h.inj, h.lin, h.irr, h.up, h.comp, h.compT, ?_, h.cur, h.pend, h.wp⟩
   have := h.tree
   simp only [treeOk, Bool.and_eq_true] at this ⊢
   exact ⟨⟨⟨⟨by simp, this.1.1.1.2⟩, this.1.1.2⟩, this.1.2⟩, this.2⟩
 | .or s t, top, h, hx => by
   have htree := h.tree
   simp only [treeOk, Bool.and_eq_true] at htree
   simp only [DT.heads, List.mem_append] at hx
   rcases hx with hx | hx
   ·exact Inv.pick s (top := false) ⟨h.sz, h.lsz, h.closed, h.edge, h.sub, h.eff, h.good, h.inj, h.lin, h.irr, h.up, h.comp, fun x hx => h.compT x (by simp [DT.des, hx]), htree.1.2, h.cur, h.pend, h.wp.1⟩ hx
   ·exact Inv.pick t (top := false) ⟨h.sz, h.lsz, h.closed, h.edge, h.sub, h.eff, h.good, h.inj, h.lin, h.irr, h.up, h.comp, fun x hx => h.compT x (by simp [DT.des, hx]), htree.2, h.cur, h.pend, h.wp.2⟩ hx
theorem full_spec {ms : List Nat} {n : Nat} {hs dn : List DE} (h : full ms n hs dn = true) {z : Nat} (hz : z < n) (hd : ∀ x ∈ dn, x.ix ≠ z) (ha : ∀ j, anc ms z j = true → ∃ x ∈ dn, x.ix = j) : ∃ x ∈ hs, x.ix = z := by
 have := List.all_eq_true.1 h z (List.mem_range.2 hz)
 simp only [Bool.or_eq_true] at this
 rcases this with (h1 | h1) | h1
 ·obtain ⟨x, hx, he⟩ := List.any_eq_true.1 h1
  exact absurd (by simpa using he) (hd x hx)
 ·obtain ⟨x, hx, he⟩ := List.any_eq_true.1 h1
  exact ⟨x, hx, by simpa using he⟩
 ·obtain ⟨j, hj, he⟩ := List.any_eq_true.1 h1
  simp only [Bool.and_eq_true, Bool.not_eq_true'] at he
  obtain ⟨x, hx, hxe⟩ := ha j he.1
  have : dn.any (·.ix == j) = true := List.any_eq_true.2 ⟨x, hx, by simpa using hxe⟩
  rw [this] at he; cases he.2
end
end Go.Abs
