/- The abstract machine, part 18: what an instruction looks at. Conditions: none; definitions and lemmas. -/
import Derived.Test.YtdnpmnnidjeifaaGreatDoorA17
namespace Go.Abs
open Go Go.RowKit
def MOpd.slots : MOpd → List Nat
 | .slot n => [n]
 | .val _ => []
def oslots : Option MOpd → List Nat
 | some x => x.slots
 | none => []
def MOp.slots : MOp → List Nat
 | .mv x | .box _ _ x | .load _ _ x | .nilck x | .un _ x | .conv _ x | .mkif _ x | .faddr _ x | .field _ _ _ x | .tassert _ _ _ x | .extract x _ | .lenS x | .lenStr x | .lenM x | .capS x | .clearS _ _ x | .rangeM x | .rangeS x
 | .nextS x | .entry x | .panic x => x.slots
 | .pick c x y => c.slots ++ x.slots ++ y.slots
 | .alloc .. | .mkmap => []
 | .build _ ps => ps.flatMap fun p => p.2.2.2.slots
 | .bslice _ _ _ _ ps | .brow _ _ _ _ ps => ps.flatMap fun p => p.2.slots
 | .store _ _ x y | .bin _ _ x y | .mkslice _ _ _ x y | .iaddr _ x y | .iaddrA _ _ x y | .idxA _ _ _ x y | .idxS x y | .lookup _ _ _ x y | .append _ _ x y | .copy _ x y | .delete _ x y | .mm _ x y | .mapEnt _ _ x y => x.slots ++ y.slots
 | .mkfn _ f c => f.flatMap MOpd.slots ++ c.flatMap MOpd.slots
 | .slc _ x lo hi mx => x.slots ++ oslots lo ++ oslots hi ++ oslots mx
 | .sslc x lo hi => x.slots ++ oslots lo ++ oslots hi
 | .mapUp _ x i y | .entSt x i y => x.slots ++ i.slots ++ y.slots
def MK.slots : MK → List Nat
 | .op m => m.slots
 | .next x => x.slots
 | .call _ args => args.flatMap MOpd.slots
 | .callV x args => x.slots ++ args.flatMap MOpd.slots
def gslots : Option (Nat × Bool) → List Nat
 | some (d, _) => [d]
 | none => []
def MI.slots (i : MI) : List Nat := gslots i.g ++ i.k.slots
section
variable {a a' : Tmps}
theorem ev_congr {x : MOpd} (h : ∀ d ∈ x.slots, get a d = get a' d) : ev a x = ev a' x := by
 cases x with
 | slot n => exact h n (by simp [MOpd.slots])
 | val v => rfl
theorem evs_congr {l : List MOpd} (h : ∀ d ∈ l.flatMap MOpd.slots, get a d = get a' d) : l.map (ev a) = l.map (ev a') :=
 List.map_congr_left fun x hx => ev_congr fun d hd => h d (List.mem_flatMap.2 ⟨x, hx, hd⟩)
theorem bound_congr {o : Option MOpd} {n : Nat} (h : ∀ d ∈ oslots o, get a d = get a' d) : bound n a o = bound n a' o := by
 cases o with
 | none => rfl
 | some x => simp only [bound, ev_congr (x := x) h]
theorem fillR_congr : ∀ (ps : List (Bool × Nat × Nat × MOpd)) (cs : List AVal), (∀ d ∈ ps.flatMap fun p => p.2.2.2.slots, get a d = get a' d) → fillR cs a ps = fillR cs a' ps
 | [], _, _ => rfl
 | (g, off, k, x) :: r, cs, h => by
   have e1 : ev a x = ev a' x := ev_congr fun d hd => h d (by simp [hd])
   simp only [fillR, e1]
   split
   ·rw [fillR_congr r _ fun d hd => h d (by rw [List.flatMap_cons]; exact List.mem_append_right _ hd)]
   ·rfl
theorem fillS_congr {g : Bool} {k : Nat} : ∀ (ps : List (Nat × MOpd)) (es : List (List AVal)), (∀ d ∈ ps.flatMap fun p => p.2.slots, get a d = get a' d) → fillS g k es a ps = fillS g k es a' ps
 | [], _, _ => rfl
 | (i, x) :: r, es, h => by
   have e1 : ev a x = ev a' x := ev_congr fun d hd => h d (by simp [hd])
   simp only [fillS, e1]
   split
   ·rw [fillS_congr r _ fun d hd => h d (by rw [List.flatMap_cons]; exact List.mem_append_right _ hd)]
   ·rfl
theorem run_congr {m : MOp} {S : Heap} (h : ∀ d ∈ m.slots, get a d = get a' d) : m.run S a = m.run S a' := by
 have two : ∀ x y : MOpd, m.slots = x.slots ++ y.slots → ev a x = ev a' x ∧ ev a y = ev a' y := fun x y e =>
  ⟨ev_congr fun d hd => h d (by rw [e]; simp [hd]), ev_congr fun d hd => h d (by rw [e]; simp [hd])⟩
 have three : ∀ x y z : MOpd, m.slots = x.slots ++ y.slots ++ z.slots → ev a x = ev a' x ∧ ev a y = ev a' y ∧ ev a z = ev a' z := fun x y z e =>
  ⟨ev_congr fun d hd => h d (by rw [e]; simp [hd]), ev_congr fun d hd => h d (by rw [e]; simp [hd]), ev_congr fun d hd => h d (by rw [e]; simp [hd])⟩
 cases m
 case pick c x y => obtain ⟨e1, e2, e3⟩ := three c x y rfl; simp only [MOp.run, e1, e2, e3]
 case mapUp kd x i y => obtain ⟨e1, e2, e3⟩ := three x i y rfl; simp only [MOp.run, e1, e2, e3]
 case entSt x i y => obtain ⟨e1, e2, e3⟩ := three x i y rfl; simp only [MOp.run, e1, e2, e3]
 case build z ps => simp only [MOp.run, fillR_congr ps z h]
 case bslice g k n z ps => simp only [MOp.run, fillS_congr ps _ h]
 case brow g k n z ps => simp only [MOp.run, fillS_congr ps _ h]
 case mkfn fn f c =>
  have e1 := evs_congr (l := f) (a := a) (a' := a') fun d hd => h d (by simp only [MOp.slots]; exact List.mem_append_left _ hd)
  have e2 := evs_congr (l := c) (a := a) (a' := a') fun d hd => h d (by simp only [MOp.slots]; exact List.mem_append_right _ hd)
  simp only [MOp.run, e1, e2]
 case slc k x lo hi mx =>
  have e0 : ev a x = ev a' x := ev_congr fun d hd => h d (by simp [MOp.slots, hd])
  have e1 : ∀ n, bound n a lo = bound n a' lo := fun n => bound_congr fun d hd => h d (by simp [MOp.slots, hd])
  have e2 : ∀ n, bound n a hi = bound n a' hi := fun n => bound_congr fun d hd => h d (by simp [MOp.slots, hd])
  have e3 : ∀ n, bound n a mx = bound n a' mx := fun n => bound_congr fun d hd => h d (by simp [MOp.slots, hd])
  simp only [MOp.run, slcR, e0, e1, e2, e3]
 case sslc x lo hi =>
  have e0 : ev a x = ev a' x := ev_congr fun d hd => h d (by simp [MOp.slots, hd])
  have e1 : ∀ n, bound n a lo = bound n a' lo := fun n => bound_congr fun d hd => h d (by simp [MOp.slots, hd])
  have e2 : ∀ n, bound n a hi = bound n a' hi := fun n => bound_congr fun d hd => h d (by simp [MOp.slots, hd])
  simp only [MOp.run, sslcR, e0, e1, e2]
 case alloc => rfl
 case mkmap => rfl
 all_goals first
  | (simp only [MOp.run, ev_congr h]; done)
  | (obtain ⟨e1, e2⟩ := two _ _ rfl; simp only [MOp.run, e1, e2]; done)
theorem wantedA_congr {g : Option (Nat × Bool)} (h : ∀ d ∈ gslots g, get a d = get a' d) : wantedA a g = wantedA a' g := by
 cases g with
 | none => rfl
 | some p => obtain ⟨d, b⟩ := p; simp only [wantedA, h d (by simp [gslots])]
def restr (l : List Nat) (a : Tmps) : Tmps := l.map fun d => (d, get a d)
theorem get_restr {l : List Nat} {d : Nat} (h : d ∈ l) : get (restr l a) d = get a d := by
 induction l with
 | nil => cases h
 | cons e l ih =>
   simp only [restr, List.map_cons, get]
   split
   ·rename_i he; rw [he]
   ·rename_i he
    rcases List.mem_cons.1 h with h1 | h1
    ·exact absurd h1.symm he
    ·exact ih h1
theorem get_restr_out {l : List Nat} {d : Nat} (h : d ∉ l) : get (restr l a) d = .top := by
 induction l with
 | nil => rfl
 | cons e l ih =>
   simp only [restr, List.map_cons, get]
   rw [if_neg (by rintro rfl; exact h (by simp))]
   exact ih fun h' => h (List.mem_cons_of_mem _ h')
theorem RelT.restr {F m} {l : List Nat} {tmps : Array Value} (h : ∀ d ∈ l, Rel F m (get a d) (tmps.getD d undef)) : RelT F m (restr l a) tmps := fun d => by
 by_cases hd : d ∈ l
 ·rw [get_restr hd]; exact h d hd
 ·rw [get_restr_out hd]; exact .top _
theorem stepWp_eq {C : CallP} {Kp : AVal → Heap → Prop} {i : MI} {S : Heap} {K : Tmps → Heap → Prop} : stepWp C Kp i a S K = stepV C Kp i a S fun v S' => K (putD i.dst v a) S' := rfl
theorem stepV_congr {C : CallP} {Kp : AVal → Heap → Prop} {i : MI} {S : Heap} {K : AVal → Heap → Prop} (h : ∀ d ∈ i.slots, get a d = get a' d) : stepV C Kp i a S K = stepV C Kp i a' S K := by
 have hg : wantedA a i.g = wantedA a' i.g := wantedA_congr fun d hd => h d (List.mem_append_left _ hd)
 have hk : ∀ d ∈ i.k.slots, get a d = get a' d := fun d hd => h d (List.mem_append_right _ hd)
 unfold stepV
 rw [hg]
 generalize i.k = k at hk
 cases k with
 | op m => simp only [run_congr (m := m) hk]
 | next x => simp only [ev_congr (x := x) hk]
 | call f args => simp only [evs_congr (l := args) hk]
 | callV x args =>
   have e1 : ev a x = ev a' x := ev_congr fun d hd => hk d (List.mem_append_left _ hd)
   have e2 := evs_congr (l := args) (a := a) (a' := a') fun d hd => hk d (List.mem_append_right _ hd)
   simp only [e1, e2]
end
section
variable {P : Program} {β : Base} {rows : List Nat} {nt : Nat}
theorem stepV_sound {F m S w} {a : Tmps} {act : Act} {ops : Array Oper} {i : Nat} {o : Oper} {mi : MI} {Kp : AVal → Heap → Prop} {K : AVal → Heap → Prop} (ho : ops[i]? = some o) (hc : cmpI P β.G rows nt ops o = some mi)
  (hs : Sim β F m S w) (ht : ∀ d ∈ mi.slots, Rel F m (get a d) (act.tmps.getD d undef)) (hsz : act.tmps.size = nt) (h : stepV (ACalls P β) Kp mi a S K) {PQ : Exit → Act → World → Prop} {KK : Act → World → Prop}
  (hK : ∀ F' m' v u S' w', Ext F m F' m' → Sim β F' m' S' w' → Rel F' m' v u → K v S' → KK (act.put o.dst u) w')
  (hP : ∀ F' m' v u S' w', Ext F m F' m' → Sim β F' m' S' w' → Rel F' m' v u → Kp v S' → PQ (.panic [{ v := u, recovered := false }]) act w') :
  wpOp P ops PQ i KK act w := by
 rw [stepV_congr (a' := restr mi.slots a) fun d hd => (get_restr hd).symm] at h
 exact (step_sound ho hc hs (RelT.restr ht) hsz h hK hP).2.2
end
end Go.Abs
