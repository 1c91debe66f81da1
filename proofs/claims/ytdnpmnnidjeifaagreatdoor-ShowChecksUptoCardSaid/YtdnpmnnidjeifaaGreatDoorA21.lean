/- The abstract machine, part 21: a statement whose order is open, the proof. Conditions: none; definitions and lemmas. -/
import Derived.Test.YtdnpmnnidjeifaaGreatDoorA20
namespace Go.Abs
open Go Go.RowKit
section
variable {P : Program} {β : Base} {rows : List Nat} {nt : Nat} {ops : Array Oper}
theorem cmpI_dst {G : Nat → AVal} {o : Oper} {mi : MI} (hc : cmpI P G rows nt ops o = some mi) : mi.dst = o.dst ∧ ∀ d, o.dst = some d → d < nt := by
 unfold cmpI at hc
 split at hc
 ·rename_i k g _ _ hd'
  simp only [Option.some.injEq] at hc
  subst hc
  exact ⟨rfl, fun d he => by rw [he] at hd'; simpa using hd'⟩
 ·cases hc
theorem set_self {listed : Array Bool} {i : Nat} (h : i < listed.size) : (listed.setIfInBounds i true).getD i false = true := by
 simp [h]
theorem set_inv {listed : Array Bool} {i j : Nat} (h : (listed.setIfInBounds i true).getD j false = true) : listed.getD j false = true ∨ j = i := by
 by_cases hij : i = j
 ·exact .inr hij.symm
 ·rw [getD_set_ne false hij] at h; exact .inl h
theorem Closed.set {listed : Array Bool} {i : Nat} (hc : Closed ops listed) (hr : i ∈ Region.ready .any ops listed) : Closed ops (listed.setIfInBounds i true) := by
 intro j o e hj ho he hb
 apply getD_set_true
 rcases set_inv hj with h | h
 ·exact hc j o e h ho he hb
 ·subst h
  obtain ⟨_, o', ho', hall⟩ := mem_ready.1 hr
  rw [ho] at ho'; cases ho'
  exact hall e he hb
theorem first_not {α : Type} {p : α → Prop} : ∀ {l : List α}, (∃ x ∈ l, ¬ p x) → ∃ a x b, l = a ++ x :: b ∧ (∀ y ∈ a, p y) ∧ ¬ p x
 | [], h => by obtain ⟨x, hx, _⟩ := h; cases hx
 | x :: r, h => by
   by_cases hp : p x
   ·have : ∃ y ∈ r, ¬ p y := by
     obtain ⟨y, hy, hn⟩ := h
     rcases List.mem_cons.1 hy with h' | h'
     ·subst h'; exact absurd hp hn
     ·exact ⟨y, h', hn⟩
    obtain ⟨a, y, b, h1, h2, h3⟩ := first_not this
    exact ⟨x :: a, y, b, by simp [h1], fun z hz => by
     rcases List.mem_cons.1 hz with h' | h'
     ·subst h'; exact hp
     ·exact h2 z h', h3⟩
   ·exact ⟨[], x, r, rfl, fun y hy => (nomatch hy), hp⟩
theorem getD_put {act : Act} {dst : Option Nat} {u : Value} {d : Nat} (h : dst ≠ some d) : (act.put dst u).tmps.getD d undef = act.tmps.getD d undef := by
 cases dst with
 | none => rfl
 | some e =>
   have : e ≠ d := fun he => h (he ▸ rfl)
   simp [Act.put, Array.getElem?_setIfInBounds_ne this]
theorem getD_put_self {act : Act} {d : Nat} {u : Value} (h : d < act.tmps.size) : (act.put (some d) u).tmps.getD d undef = u := by
 simp [Act.put, h]
theorem anc_lt (hedge : ∀ (i : Nat) (o : Oper) (e : Edge), ops[i]? = some o → e ∈ o.after → Region.binds .any e = true → e.on < ops.size) {i j : Nat} (h : anc (masks ops.toList []) i j = true) : j < ops.size := by
 have := anc_spec h
 clear h
 induction this with
 | edge i o e ho he hb => exact hedge i o e ho he hb
 | step i o e j ho he hb _ ih => exact ih
theorem Inv.lt {C : CallP} {Kp K} {F m} {listed : Array Bool} {top dn t ps a S tmps} (h : Inv P β rows C Kp K nt ops F m listed top dn t ps a S tmps) {x : DE} (hx : x ∈ dn) : x.ix < ops.size := by
 obtain ⟨o, ho, _⟩ := h.comp x hx
 exact (Array.getElem?_eq_some_iff.1 ho).1
theorem Inv.done {C : CallP} {Kp K} {F m} {listed : Array Bool} {dn t ps a S tmps} (h : Inv P β rows C Kp K nt ops F m listed true dn t ps a S tmps) (hrd : t.isRd = false) (hr : Region.ready .any ops listed = []) :
  t = .nil ∧ ∀ x ∈ dn, isL listed x := by
 classical
 -- an operation that is not listed, and first among those behind us
 have hready : ∀ z, z < ops.size → listed.getD z false = false → (∀ j, anc (masks ops.toList []) z j = true → listed.getD j false = true) → False := fun z hz hn ha => by
  have ho : ops[z]? = some ops[z] := Array.getElem?_eq_getElem hz
  have : z ∈ Region.ready .any ops listed := by
   refine mem_ready.2 ⟨?_, _, ho, fun e he hb => ha _ (anc_edge ho he hb)⟩
   have hlt : z < listed.size := by rw [h.lsz]; exact hz
   simp [hlt] at hn ⊢
   exact hn
  rw [hr] at this; cases this
 have hdn : ∀ x ∈ dn, isL listed x := by
  intro z hz
  apply Classical.byContradiction
  intro hn
  obtain ⟨p, x, q, hl, hp, hx⟩ := first_not (p := isL listed) ⟨z, hz, hn⟩
  have hxd : x ∈ dn := by rw [hl]; simp
  refine hready x.ix (h.lt hxd) (by have : ¬ listed.getD x.ix false = true := hx; simpa using this) fun j hj => ?_
  apply Classical.byContradiction
  intro hjn
  obtain ⟨y, hy, rfl⟩ := h.up x hxd j (anc_lt h.edge hj) hj
  rw [hl] at hy
  rcases List.mem_append.1 hy with h1 | h1
  ·exact hjn (hp y h1)
  ·rcases List.mem_cons.1 h1 with h2 | h2
   ·subst h2; rw [h.irr y hxd] at hj; cases hj
   ·have hlin := h.lin
    rw [hl, List.pairwise_append] at hlin
    rw [(List.pairwise_cons.1 hlin.2.1).1 y h2] at hj; cases hj
 refine ⟨?_, hdn⟩
 have hhead : t ≠ .nil → ∃ x, x ∈ t.heads := by
  intro hne
  have key : ∀ t, treeOk (masks ops.toList []) ops.size false t dn = true → ∃ x, x ∈ t.heads := by
   intro t
   induction t with
   | nil => intro h; simp [treeOk] at h
   | rd => intro h; simp [treeOk] at h
   | ef x keep t => intro _; exact ⟨x, by simp [DT.heads]⟩
   | or s t ihs iht =>
     intro h
     simp only [treeOk, Bool.and_eq_true] at h
     obtain ⟨x, hx⟩ := ihs h.1.2
     exact ⟨x, by simp [DT.heads, hx]⟩
  have htree := h.tree
  cases t with
  | nil => exact absurd rfl hne
  | rd => cases hrd
  | ef x keep t => exact ⟨x, by simp [DT.heads]⟩
  | or s t =>
    simp only [treeOk, Bool.and_eq_true] at htree
    obtain ⟨x, hx⟩ := key s htree.1.2
    exact ⟨x, by simp [DT.heads, hx]⟩
 apply Classical.byContradiction
 intro hne
 obtain ⟨x, hx⟩ := hhead hne
 obtain ⟨keep, t', h'⟩ := Inv.pick t h hx
 have htree := h'.tree
 simp only [treeOk, Bool.and_eq_true] at htree
 have hadd := addOk_spec htree.1.1.2
 obtain ⟨o, ho, _⟩ := h'.compT x (by simp [DT.des])
 have hlt := (Array.getElem?_eq_some_iff.1 ho).1
 refine hready x.ix hlt ?_ fun j hj => ?_
 ·rcases hb : listed.getD x.ix false with _ | _
  ·rfl
  ·obtain ⟨y, hy, he⟩ := h.sub _ hb
   exact absurd he (hadd.1 y hy).1
 ·obtain ⟨y, hy, rfl⟩ := hadd.2.2 j (anc_lt h.edge hj) hj
  exact hdn y hy
theorem Inv.late {C : CallP} {Kp K} {F m F' m'} {listed : Array Bool} {dn t ps a S} {act : Act} (h : Inv P β rows C Kp K nt ops F m listed true dn t ps a S act.tmps) {x : DE} (hx : x ∈ dn)
  (hr : x.ix ∈ Region.ready .any ops listed) {v : AVal} (hv : ∀ d, x.i.dst = some d → get a d = v) (hd : ∀ d, x.i.dst = some d → d < nt) (he : Ext F m F' m') {u : Value} (hu : Rel F' m' v u) :
  Inv P β rows C Kp K nt ops F' m' (listed.setIfInBounds x.ix true) true dn t ps a S (act.put x.i.dst u).tmps := by
 have hlt := h.lt hx
 have hup : ∀ y, isL listed y → isL (listed.setIfInBounds x.ix true) y := fun y hy => getD_set_true hy
 have hdown : ∀ y ∈ dn, isL (listed.setIfInBounds x.ix true) y → isL listed y ∨ y = x := fun y hy hh => by
  rcases set_inv hh with h1 | h1
  ·exact .inl h1
  ·exact .inr (h.inj y hy x hx h1)
 refine ⟨by rw [put_size]; exact h.sz, by simp [h.lsz], h.closed.set hr, h.edge, fun i hi => ?_, fun y hy hw => hup y (h.eff y hy hw), h.good, h.inj, h.lin, h.irr, h.up, h.comp, h.compT, h.tree, fun d hh => ?_, fun y hy hyu => ?_, h.wp⟩
 ·rcases set_inv hi with h1 | h1
  ·exact h.sub i h1
  ·exact ⟨x, hx, h1.symm⟩
 ·by_cases hxd : x.i.dst = some d
  ·rw [hv d hxd, hxd, getD_put_self (by rw [h.sz]; exact hd d hxd)]
   exact hu
  ·rw [getD_put hxd]
   refine (h.cur d fun y hy hyu hyd => ?_).mono he
   rcases Classical.em (isL (listed.setIfInBounds x.ix true) y) with h1 | h1
   ·rcases hdown y hy h1 with h2 | h2
    ·exact hyu h2
    ·subst h2; exact hxd hyd
   ·exact hh y hy h1 hyd
 ·have hyl : ¬ isL listed y := fun h1 => hyu (hup y h1)
  have hyx : y.ix ≠ x.ix := fun h1 => hyu (by
   unfold isL; rw [h1]; exact set_self (by rw [h.lsz]; exact hlt))
  obtain ⟨ay, vy, h1, h2, h3, h4, h5⟩ := h.pend y hy hyl
  refine ⟨ay, vy, h1, h2, fun d hdy hh => ?_, h4, h5⟩
  by_cases hxd : x.i.dst = some d
  ·rw [hxd, getD_put_self (by rw [h.sz]; exact hd d hxd)]
   have hanc : anc (masks ops.toList []) y.ix x.ix = true := by
    rcases (slotOk_spec (h.good x hx y hy (Ne.symm hyx)) hxd).2 hdy with h' | h'
    ·exact absurd (ready_anc h.closed hr h') hyl
    ·exact h'
   rw [h4 d hdy x hx (Ne.symm hyx) hanc hxd, hv d hxd]
   exact hu
  ·rw [getD_put hxd]
   refine (h3 d hdy fun z hz hzu hzy hzd => ?_).mono he
   refine hh z hz (fun h1 => ?_) hzy hzd
   rcases hdown z hz h1 with h2 | h2
   ·exact hzu h2
   ·subst h2; exact hxd hzd
theorem pendOk_mem {S : Heap} : ∀ {ps : List Pend}, pendOk S ps → ∀ p ∈ ps, p.m.run S p.a = .ok true p.v S
 | [], _, p, hp => nomatch hp
 | q :: r, h, p, hp => by
   rcases List.mem_cons.1 hp with h1 | h1
   ·subst h1; exact h.1
   ·exact pendOk_mem h.2 p h1
theorem Inv.effect {C : CallP} {Kp K} {F m F' m'} {listed : Array Bool} {dn keep t ps a S S'} {act : Act} {x : DE} (h : Inv P β rows C Kp K nt ops F m listed false dn (.ef x keep t) ps a S act.tmps)
  (hr : x.ix ∈ Region.ready .any ops listed) {v : AVal} (hd : ∀ d, x.i.dst = some d → d < nt) (he : Ext F m F' m') {u : Value} (hu : Rel F' m' v u)
  (hp : pendOk S' (kept keep ps)) (hwp : drawWp C Kp t (kept keep ps) (putD x.i.dst v a) S' K) :
  Inv P β rows C Kp K nt ops F' m' (listed.setIfInBounds x.ix true) true (dn ++ [x]) t (kept keep ps) (putD x.i.dst v a) S' (act.put x.i.dst u).tmps := by
 have htree := h.tree
 simp only [treeOk, Bool.and_eq_true] at htree
 obtain ⟨⟨⟨⟨_, hw⟩, hadd⟩, hkeep⟩, hrest⟩ := htree
 obtain ⟨hadd, hirr, hupx⟩ := addOk_spec hadd
 have hlt : x.ix < ops.size := by
  obtain ⟨o, ho, _⟩ := h.compT x (by simp [DT.des])
  exact (Array.getElem?_eq_some_iff.1 ho).1
 have hne : ∀ y ∈ dn, y.ix ≠ x.ix := fun y hy => (hadd y hy).1
 have hlin : ∀ y ∈ dn, anc (masks ops.toList []) y.ix x.ix = false := fun y hy => (hadd y hy).2.1
 have hxy : ∀ y ∈ dn, slotOk (masks ops.toList []) x y = true := fun y hy => (hadd y hy).2.2.1
 have hyx : ∀ y ∈ dn, slotOk (masks ops.toList []) y x = true := fun y hy => (hadd y hy).2.2.2
 have hup : ∀ y, isL listed y → isL (listed.setIfInBounds x.ix true) y := fun y hy => getD_set_true hy
 have hself : isL (listed.setIfInBounds x.ix true) x := set_self (by rw [h.lsz]; exact hlt)
 have hdown : ∀ y ∈ dn, isL (listed.setIfInBounds x.ix true) y → isL listed y := fun y hy hh => by
  rcases set_inv hh with h1 | h1
  ·exact h1
  ·exact absurd h1 (hne y hy)
 refine ⟨by rw [put_size]; exact h.sz, by simp [h.lsz], h.closed.set hr, h.edge, fun i hi => ?_, fun y hy hyw => ?_, fun y hy z hz hyz => ?_, fun y hy z hz hyz => ?_, List.pairwise_append.2 ⟨h.lin, by simp, by simpa using hlin⟩, fun y hy => ?_, fun y hy j hj ha => ?_, fun y hy => ?_, fun y hy => h.compT y (by simp [DT.des, hy]), hrest, fun d hh => ?_, fun y hy hyu => ?_, hwp⟩
 ·rcases set_inv hi with h1 | h1
  ·obtain ⟨y, hy, he⟩ := h.sub i h1; exact ⟨y, by simp [hy], he⟩
  ·exact ⟨x, by simp, h1.symm⟩
 ·rcases mem_snoc hy with h1 | h1
  ·exact hup y (h.eff y h1 hyw)
  ·rw [h1]; exact hself
 ·rcases mem_snoc hy with h1 | h1 <;> rcases mem_snoc hz with h2 | h2
  ·exact h.good y h1 z h2 hyz
  ·rw [h2]; exact hyx y h1
  ·rw [h1]; exact hxy z h2
  ·exact absurd (by rw [h1, h2]) hyz
 ·rcases mem_snoc hy with h1 | h1 <;> rcases mem_snoc hz with h2 | h2
  ·exact h.inj y h1 z h2 hyz
  ·rw [h2] at hyz; exact absurd hyz (hne y h1)
  ·rw [h1] at hyz; exact absurd hyz.symm (hne z h2)
  ·rw [h1, h2]
 ·rcases mem_snoc hy with h1 | h1
  ·exact h.irr y h1
  ·rw [h1]; exact hirr
 ·have : ∃ z ∈ dn, z.ix = j := by
   rcases mem_snoc hy with h1 | h1
   ·exact h.up y h1 j hj ha
   ·rw [h1] at ha; exact hupx j hj ha
  obtain ⟨z, hz, he⟩ := this
  exact ⟨z, by simp [hz], he⟩
 ·rcases mem_snoc hy with h1 | h1
  ·exact h.comp y h1
  ·rw [h1]; exact h.compT x (by simp [DT.des])
 ·by_cases hxd : x.i.dst = some d
  ·rw [hxd, get_putD_self, getD_put_self (by rw [h.sz]; exact hd d hxd)]
   exact hu
  ·rw [getD_put hxd, get_putD hxd]
   refine (h.cur d fun y hy hyu hyd => ?_).mono he
   exact hh y (by simp [hy]) (fun h1 => hyu (hdown y hy h1)) hyd
 ·rcases mem_snoc hy with hy1 | hy1
  rotate_left 1
  ·rw [hy1] at hyu; exact absurd hself hyu
  have hyl : ¬ isL listed y := fun h1 => hyu (hup y h1)
  have hnanc : anc (masks ops.toList []) x.ix y.ix ≠ true := fun h' => hyl (ready_anc h.closed hr h')
  have hslot : ∀ d, x.i.dst = some d → d ∉ y.i.slots := fun d hxd hdy => by
   rcases (slotOk_spec (hxy y hy1) hxd).2 hdy with h' | h'
   ·exact hnanc h'
   ·rw [hlin y hy1] at h'; cases h'
  obtain ⟨ay, vy, h1, h2, h3, h4, h5⟩ := h.pend y hy1 hyl
  refine ⟨ay, vy, h1, fun d hdy => ?_, fun d hdy hh => ?_, fun d hdy z hz hzy hanc hzd => ?_, ?_⟩
  ·rw [get_putD fun hxd => (slotOk_spec (hyx y hy1) hdy).1 hxd]
   exact h2 d hdy
  ·have hxd : x.i.dst ≠ some d := fun hxd => hslot d hxd hdy
   rw [getD_put hxd]
   refine (h3 d hdy fun z hz hzu hzy hzd => ?_).mono he
   exact hh z (by simp [hz]) (fun h1 => hzu (hdown z hz h1)) hzy hzd
  ·have hxd : x.i.dst ≠ some d := fun hxd => hslot d hxd hdy
   rw [get_putD hxd]
   rcases mem_snoc hz with hz1 | hz1
   ·exact h4 d hdy z hz1 hzy hanc hzd
   ·rw [hz1] at hzd; exact absurd hzd hxd
  ·rcases h5 with h5 | ⟨h5, mo, h6, h7, h8⟩
   ·exact .inl h5
   ·have hk := List.all_eq_true.1 hkeep y hy1
    simp only [Bool.or_eq_true, h1, Bool.false_eq_true, false_or, Bool.and_eq_true] at hk
    have hin : keep.contains y.ix = true ∧ y.late = true := by
     rcases hk with (hk | hk) | hk
     ·exact absurd hk hnanc
     ·obtain ⟨z, hz, hze⟩ := List.any_eq_true.1 hk
      simp only [Bool.and_eq_true] at hze
      exact absurd (closed_anc h.closed (h.eff z hz hze.1) hze.2) hyl
     ·exact hk
    have hmem : (⟨y.ix, mo, ay, vy⟩ : Pend) ∈ kept keep ps := List.mem_filter.2 ⟨h8 hin.2, hin.1⟩
    exact .inr ⟨h5, mo, h6, pendOk_mem hp _ hmem, fun _ => hmem⟩
theorem draw_sound {D : List Deferred} {Q : AExit → Tmps → Heap → Prop} {F0 : Frz} {m0 : Pls} : ∀ (fuel : Nat) {F : Frz} {m : Pls} {listed : Array Bool} {U : List Nat} {dn : List DE} {t : DT} {ps : List Pend} {a : Tmps} {S : Heap} {act : Act} {w : World},
  Inv P β rows (ACalls P β) (fun v S => Q (.panic v) [] S) (Q .normal) nt ops F m listed true dn t ps a S act.tmps → Sim β F m S w → Ext F0 m0 F m → act.defers = D → U.length ≤ fuel → (∀ i, i < ops.size → listed.getD i false = false → i ∈ U) →
  wpAny P .any ops (Post β nt D F0 m0 Q) fuel listed act w := by
 intro fuel
 have stop : ∀ {F : Frz} {m : Pls} {listed : Array Bool} {dn : List DE} {t : DT} {ps : List Pend} {a : Tmps} {S : Heap} {act : Act} {w : World},
   Inv P β rows (ACalls P β) (fun v S => Q (.panic v) [] S) (Q .normal) nt ops F m listed true dn t ps a S act.tmps → t.isRd = false → Sim β F m S w → Ext F0 m0 F m → act.defers = D → Region.ready .any ops listed = [] → Post β nt D F0 m0 Q .normal act w := by
  intro F m listed dn t ps a S act w hI hrd hs he hd hready
  obtain ⟨rfl, hal⟩ := hI.done hrd hready
  exact ⟨hd, hI.sz, .normal, F, m, a, S, he, hs, fun d => hI.cur d fun x hx hn => absurd (hal x hx) hn, trivial, hI.wp⟩
 induction fuel with
 | zero =>
   intro F m listed U dn t ps a S act w hI hs he hd hU hall
   have hready : Region.ready .any ops listed = [] := by
    rw [List.eq_nil_iff_forall_not_mem]
    intro j hj
    obtain ⟨h0, o, ho, _⟩ := mem_ready.1 hj
    have hlt : j < ops.size := (Array.getElem?_eq_some_iff.1 ho).1
    have : j ∈ U := hall j hlt (by have : j < listed.size := by rw [hI.lsz]; exact hlt
                                   simpa [this] using h0)
    have hU0 : U = [] := List.eq_nil_of_length_eq_zero (by omega)
    rw [hU0] at this; cases this
   obtain ⟨dn, t, ps, a, hI, hrd⟩ := hI.advance t
   exact ⟨hready, stop hI hrd hs he hd hready⟩
 | succ fuel ih =>
   intro F m listed U dn t ps a S act w hI hs he hd hU hall
   obtain ⟨dn, t, ps, a, hI, hrd⟩ := hI.advance t
   refine ⟨fun hready => stop hI hrd hs he hd hready, fun i hi => ?_⟩
   obtain ⟨h0, o, ho, hedges⟩ := mem_ready.1 hi
   have hlt : i < ops.size := (Array.getElem?_eq_some_iff.1 ho).1
   have hlt' : i < listed.size := by rw [hI.lsz]; exact hlt
   have hunl : listed.getD i false = false := by simpa [hlt'] using h0
   have hU' : (U.erase i).length ≤ fuel := by
    rw [List.length_erase_of_mem (hall _ hlt hunl)]; omega
   have hall' : ∀ j, j < ops.size → (listed.setIfInBounds i true).getD j false = false → j ∈ U.erase i := fun j hj hh => by
    by_cases hji : i = j
    ·subst hji; rw [set_self hlt'] at hh; cases hh
    ·rw [getD_set_ne false hji] at hh
     exact (List.mem_erase_of_ne (Ne.symm hji)).2 (hall j hj hh)
   by_cases hxd : ∃ x ∈ dn, x.ix = i
   ·obtain ⟨x, hx, rfl⟩ := hxd
    obtain ⟨o', ho', hc⟩ := hI.comp x hx
    rw [ho] at ho'; cases ho'
    obtain ⟨hdst, hdlt⟩ := cmpI_dst hc
    have hdlt' : ∀ d, x.i.dst = some d → d < nt := by rw [hdst]; exact hdlt
    have hun : ¬ isL listed x := by unfold isL; rw [hunl]; simp
    obtain ⟨ax, v, h1, h2, h3, h4, h5⟩ := hI.pend x hx hun
    have hstep : stepV (ACalls P β) (fun _ _ => False) x.i ax S (fun v' S' => v' = v ∧ S' = S) := by
     unfold stepV
     rcases h5 with ⟨h5, h6⟩ | ⟨h5, mo, h6, h7, _⟩
     ·rw [h5]; exact ⟨h6.symm, rfl⟩
     ·rw [h5]; simp only [h6, h7]; exact ⟨trivial, trivial, trivial⟩
    refine stepV_sound ho hc hs (fun d hdx => h3 d hdx fun y hy hyu hyx hyd => ?_) hI.sz hstep (fun F' m' v' u S' w' he' hs' hu hk => ?_) (fun F' m' v' u S' w' he' hs' hu hk => hk.elim)
    ·rcases hb : anc (masks ops.toList []) x.ix y.ix with _ | _
     ·rfl
     ·exact absurd (ready_anc hI.closed hi hb) hyu
    ·obtain ⟨rfl, rfl⟩ := hk
     have hI' := hI.late hx hi h2 hdlt' he' hu
     rw [hdst] at hI'
     exact ih hI' hs' (he.trans he') (by rw [put_defers]; exact hd) hU' hall'
   ·-- it is an effect, one of the heads
    have hnd : ∀ x ∈ dn, x.ix ≠ i := fun x hx he => hxd ⟨x, hx, he⟩
    have hup : ∀ j, anc (masks ops.toList []) i j = true → ∃ x ∈ dn, x.ix = j := fun j hj => hI.sub j (ready_anc hI.closed hi hj)
    have hhead : ∃ x ∈ t.heads, x.ix = i := by
     have htree := hI.tree
     cases t with
     | nil =>
       simp only [treeOk, Bool.true_and] at htree
       obtain ⟨x, hx, he⟩ := List.any_eq_true.1 (List.all_eq_true.1 htree i (List.mem_range.2 hlt))
       exact absurd (by simpa using he) (hnd x hx)
     | rd => cases hrd
     | ef x keep t =>
       simp only [treeOk, Bool.and_eq_true, Bool.not_true, Bool.false_or] at htree
       exact full_spec htree.1.1.1.1 hlt hnd hup
     | or s t =>
       simp only [treeOk, Bool.and_eq_true, Bool.not_true, Bool.false_or] at htree
       exact full_spec htree.1.1 hlt hnd hup
    obtain ⟨x, hx, rfl⟩ := hhead
    obtain ⟨keep, t', hI⟩ := Inv.pick t hI hx
    obtain ⟨o', ho', hc⟩ := hI.compT x (by simp [DT.des])
    rw [ho] at ho'; cases ho'
    obtain ⟨hdst, hdlt⟩ := cmpI_dst hc
    have hdlt' : ∀ d, x.i.dst = some d → d < nt := by rw [hdst]; exact hdlt
    have htree := hI.tree
    simp only [treeOk, Bool.and_eq_true] at htree
    have hadd := (addOk_spec htree.1.1.2).1
    have hwp := hI.wp
    simp only [drawWp] at hwp
    rw [stepWp_eq] at hwp
    refine stepV_sound ho hc hs (fun d hdx => hI.cur d fun y hy hyu hyd => ?_) hI.sz hwp (fun F' m' v' u S' w' he' hs' hu hk => ?_) (fun F' m' v' u S' w' he' hs' hu hk => ?_)
    ·rcases (slotOk_spec (hadd y hy).2.2.2 hyd).2 hdx with h' | h'
     ·rw [(hadd y hy).2.1] at h'; cases h'
     ·exact hyu (ready_anc hI.closed hi h')
    ·have hI' := hI.effect hi hdlt' he' hu hk.1 hk.2
     rw [hdst] at hI'
     exact ih hI' hs' (he.trans he') (by rw [put_defers]; exact hd) hU' hall'
    ·exact ⟨hd, hI.sz, .panic v', F', m', [], S', he.trans he', hs', RelT.nil _, ⟨u, rfl, hu⟩, hk⟩
end
end Go.Abs
