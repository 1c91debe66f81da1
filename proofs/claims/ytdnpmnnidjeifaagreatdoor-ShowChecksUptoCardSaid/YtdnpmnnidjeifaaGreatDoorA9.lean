/- The abstract machine, part 9: new memory, and memory that is written. Conditions: none; lemmas. -/
import Derived.Test.YtdnpmnnidjeifaaGreatDoorA8
import Derived.Laws.IdiomCopy
namespace Go.Abs
open Go Go.RowKit
section
variable {P : Program} {β : Base}
theorem Sim.own_lt {F m S w} (hs : Sim β F m S w) {id : Nat} {o : AObj} {p : Pl} (h : S[id]? = some o) (hm : m id = some p) {b x : Nat} (ho : o.owns p b x) : b < w.heap.size ∧ β.w0.heap.size ≤ b := by
 obtain ⟨q, hq, hok⟩ := hs.objs id o h
 obtain rfl := Option.some.inj (hm.symm.trans hq)
 have hb := hok.below x b ho
 refine ⟨hok.lt ho, ?_⟩
 cases o with
 | cells k es cap => rw [← ho.1]; exact hb
 | dead => exact ho.elim
 | map => obtain rfl := ho; exact hb
 | mapIter => obtain rfl := ho; exact hb
 | strIter => obtain rfl := ho; exact hb
theorem Sim.alloc {F m S w} (hs : Sim β F m S w) (o : Obj) : Sim β F m S (w.alloc o) := hs.more ((Below.refl _ _).alloc (Nat.le_refl _) o)
theorem Sim.allocRow {F m S w} (hs : Sim β F m S w) (arr : Array Value) (T : TypeId) (k cap : Nat) (es : List (List AVal)) (cp : Option Nat) (hk0 : 0 < k) (hsz : arr.size = cap * k) (hle : es.length ≤ cap)
  (hcp : ∀ c, cp = some c → cap = c) (hk : ∀ e ∈ es, e.length = k)
  (h : ∀ i j, i < es.length → j < k → (arr.getD (i * k + j) undef).oneCell' = true ∧ Rel F m (cellAt es i j) (arr.getD (i * k + j) undef)) :
  Sim β F (m.put S.length ⟨w.heap.size, 0, k, cap⟩) (S ++ [.cells k es cp]) (w.alloc (.cells arr T)) := by
 have hs1 := hs.alloc (.cells arr T)
 refine hs1.push _ _ ⟨rfl, hcp, hs.below.size, hk0, hle, hk, fun x hx hx' => ?_, fun i j hi hj => ?_⟩ (fun id o' p' hS hm b x ho hn => ?_)
 ·simp only [Nat.zero_add] at hx'
  have hlt : x < arr.size := by omega
  refine ⟨⟨arr[x], by rw [World.cell?_alloc_new]; exact Array.getElem?_eq_getElem hlt⟩, World.frozen?_alloc_new _ _ _ _, ?_⟩
  cases hF : F w.heap.size x with
  | none => rfl
  | some v => exact absurd (hs.frz_lt hF) (Nat.lt_irrefl _)
 ·have hlt : i * k + j < arr.size := by
   have : (i + 1) * k ≤ cap * k := Nat.mul_le_mul_right _ (by omega)
   rw [Nat.add_mul] at this; omega
  obtain ⟨h1, h2⟩ := h i j hi hj
  refine ⟨arr.getD (i * k + j) undef, ?_, h1, h2.mono (Ext.put hs _)⟩
  simp only [Nat.zero_add]
  rw [World.cell?_alloc_new, agetD_eq _ _ _ hlt]
  exact Array.getElem?_eq_getElem hlt
 ·have := (hs.own_lt hS hm ho).1
  have e := hn.1
  simp at e
  omega
theorem Sim.allocObj {F m S w} (hs : Sim β F m S w) (u : Obj) (o : AObj) (hok : o.ok F (m.put S.length ⟨w.heap.size, 0, 1, 1⟩) β.w0.heap.size (w.alloc u) ⟨w.heap.size, 0, 1, 1⟩)
  (how : ∀ b x, o.owns ⟨w.heap.size, 0, 1, 1⟩ b x → b = w.heap.size) : Sim β F (m.put S.length ⟨w.heap.size, 0, 1, 1⟩) (S ++ [o]) (w.alloc u) := by
 refine (hs.alloc u).push _ _ hok (fun id o' p' hS hm b x ho hn => ?_)
 have := (hs.own_lt hS hm ho).1
 have e := how b x hn
 omega
def Frz.add (F : Frz) (g : Nat) (arr : Array Value) : Frz := fun b x => if b = g then arr[x]? else F b x
theorem Sim.ext_add {F m S w} (hs : Sim β F m S w) (arr : Array Value) : Ext F m (F.add w.heap.size arr) m :=
 ⟨fun b x v h => by
  have : b ≠ w.heap.size := Nat.ne_of_lt (hs.frz_lt h)
  simp [Frz.add, this, h], fun _ _ h => h⟩
theorem Sim.allocFrz {F m S w} (hs : Sim β F m S w) (arr : Array Value) (T : TypeId) : Sim β (F.add w.heap.size arr) m S (w.alloc (.cells arr T)) := by
 have hs1 := hs.alloc (.cells arr T)
 have he := hs.ext_add arr
 refine ⟨hs1.below, fun g => (hs1.glob g).mono he, fun b x v hv => ?_, fun id o ho => ?_, hs1.apart, hs1.dom⟩
 ·simp only [Frz.add] at hv
  split at hv
  ·rename_i hb; subst hb; rw [World.cell?_alloc_new]; exact hv
  ·exact hs1.agree b x v hv
 ·obtain ⟨p, hp, hok⟩ := hs1.objs id o ho
  refine ⟨p, hp, hok.ext he fun x hx => ?_⟩
  have := (hs.own_lt ho hp hx).1
  simp [Frz.add, Nat.ne_of_lt this]
theorem setCells_below (b : Nat) {B : Nat} (hb : B ≤ b) : ∀ (vs : List Value) (x : Nat) (w0 w : World), Below B w0 w → Below B w0 (w.setCells b x vs)
 | [], _, _, _, h => h
 | v :: r, x, w0, _, h => setCells_below b hb r (x + 1) w0 _ (h.setCell (p := ⟨b, x, none⟩) hb v)
theorem setCells_heap (b : Nat) : ∀ (vs : List Value) (x : Nat) (w : World) (k : Nat), k ≠ b → (w.setCells b x vs).heap[k]? = w.heap[k]?
 | [], _, _, _, _ => rfl
 | v :: r, x, _, k, h => by rw [World.setCells, setCells_heap b r (x + 1) _ k h]; exact Below.heap_setCell _ _ _ _ h
theorem Sim.rewrite {F m S w} (hs : Sim β F m S w) {id k : Nat} {es es' : List (List AVal)} {cp : Option Nat} {p : Pl} (hS : S[id]? = some (.cells k es cp)) (hm : m id = some p) (x : Nat) (vs : List Value)
  (hx : p.o ≤ x) (hx' : x + vs.length ≤ p.o + p.cap * k) (hlen : es'.length ≤ p.cap) (hk : ∀ e ∈ es', e.length = k)
  (hc : ∀ i j, i < es'.length → j < k → ∃ v, (w.setCells p.b x vs).cell? ⟨p.b, p.o + (i * k + j), none⟩ = some v ∧ v.oneCell' = true ∧ Rel F m (cellAt es' i j) v) :
  Sim β F m (S.set id (.cells k es' cp)) (w.setCells p.b x vs) := by
 obtain ⟨q, hq, hok⟩ := hs.objs id _ hS
 obtain rfl := Option.some.inj (hm.symm.trans hq)
 obtain ⟨rfl, h2, h3, h4, h5, h6, h7, h8⟩ := hok
 have hbel := setCells_below p.b h3 vs x _ _ hs.below
 have hout : ∀ b y, (p.b = b → y < x ∨ x + vs.length ≤ y) → (w.setCells p.b x vs).cell? ⟨b, y, none⟩ = w.cell? ⟨b, y, none⟩ := fun b y h =>
  World.cell?_setCells_out p.b vs x w ⟨b, y, none⟩ (fun e _ => h e.symm)
 refine hs.set id _ p hm ⟨_, hS, fun _ _ h => h⟩ hbel (fun b y v hv => ?_) ⟨rfl, h2, h3, h4, hlen, hk, fun y hy hy' => ?_, hc⟩ (fun id' o' p' hne hS' hm' => ?_)
 ·rw [hout b y fun e => ?_]
  ·exact hs.agree b y v hv
  ·subst e
   rcases Nat.lt_or_ge y x with h | h
   ·exact .inl h
   ·rcases Nat.lt_or_ge y (x + vs.length) with h' | h'
    ·have := (h7 y (by omega) (by omega)).2.2
     rw [this] at hv; cases hv
    ·exact .inr h'
 ·obtain ⟨⟨v, hv⟩, hf, hF⟩ := h7 y hy hy'
  refine ⟨?_, by rw [World.frozen?_setCells]; exact hf, hF⟩
  rcases Nat.lt_or_ge y x with h | h
  ·exact ⟨v, by rw [hout _ _ fun _ => .inl h]; exact hv⟩
  ·rcases Nat.lt_or_ge y (x + vs.length) with h' | h'
   ·have := World.cell?_setCells_in p.b vs x w (fun j hj => by
     obtain ⟨⟨u, hu⟩, _⟩ := h7 (x + j) (by omega) (by omega)
     rw [hu]; rfl) (y - x) (by omega)
    rw [show x + (y - x) = y by omega] at this
    exact ⟨_, this⟩
   ·exact ⟨v, by rw [hout _ _ fun _ => .inr h']; exact hv⟩
 ·obtain ⟨q, hq, hok'⟩ := hs.objs id' o' hS'
  obtain rfl := Option.some.inj (hm'.symm.trans hq)
  refine hok'.keep (fun y hy => ⟨hout _ _ fun e => ?_, World.frozen?_setCells _ _ _ _ _⟩) (fun hall => ?_)
  ·rcases Nat.lt_or_ge y x with h | h
   ·exact .inl h
   ·rcases Nat.lt_or_ge y (x + vs.length) with h' | h'
    ·exact absurd (show AObj.owns (.cells p.k es cp) p p'.b y from ⟨e, by omega, by omega⟩) (fun hh => hs.apart id' id o' _ p' p hS' hS hm' hm hne _ _ hy hh)
    ·exact .inr h'
  ·by_cases hb : p'.b = p.b
   ·by_cases hlen0 : vs.length = 0
    ·obtain rfl := List.eq_nil_of_length_eq_zero hlen0; rfl
    ·exact absurd (hall x) (fun hh => hs.apart id' id o' _ p' p hS' hS hm' hm hne _ _ hh ⟨hb.symm, by omega, by omega⟩)
   ·exact setCells_heap _ _ _ _ _ hb
theorem Sim.rebase {F m S w} (hs : Sim β F m S w) {id k off : Nat} {es : List (List AVal)} {cp : Option Nat} {p : Pl} (hS : S[id]? = some (.cells k es cp)) (hm : m id = some p) (hoff : off ≤ p.cap) :
  Sim β F (m.put S.length ⟨p.b, p.o + off * k, k, p.cap - off⟩) (S.set id .dead ++ [.cells k (es.drop off) none]) w := by
 obtain ⟨q, hq, hok⟩ := hs.objs id _ hS
 obtain rfl := Option.some.inj (hm.symm.trans hq)
 obtain ⟨rfl, h2, h3, h4, h5, h6, h7, h8⟩ := hok
 have hlt : id < S.length := by
  rcases Nat.lt_or_ge id S.length with h' | h'
  ·exact h'
  ·simp [List.getElem?_eq_none h'] at hS
 have hmul : (p.cap - off) * p.k + off * p.k = p.cap * p.k := by rw [← Nat.add_mul]; congr 1; omega
 have hk1 := hs.kill id
 have hp := hk1.push (.cells p.k (es.drop off) none) ⟨p.b, p.o + off * p.k, p.k, p.cap - off⟩ ⟨rfl, by simp, h3, h4, by simp; omega, fun e he => h6 e (List.mem_of_mem_drop he), fun x hx hx' => ?_, fun i j hi hj => ?_⟩ ?_
 ·simpa using hp
 ·simp only at hx hx'
  exact h7 x (by omega) (by omega)
 ·simp at hi
  obtain ⟨v, hv, h1, hr⟩ := h8 (off + i) j (by omega) hj
  have e1 : p.o + off * p.k + (i * p.k + j) = p.o + ((off + i) * p.k + j) := by rw [Nat.add_mul]; omega
  have e2 : cellAt (es.drop off) i j = cellAt es (off + i) j := by simp [cellAt, List.getD]
  refine ⟨v, by simp only [e1]; exact hv, h1, ?_⟩
  rw [e2]
  exact hr.mono (Ext.put hk1 _)
 ·intro id' o' p' hS' hm' b x ho hn
  simp only [AObj.owns] at hn
  by_cases hid : id' = id
  ·subst hid
   rw [List.getElem?_set_self hlt] at hS'
   cases hS'
   exact ho
  ·rw [List.getElem?_set_ne (by omega)] at hS'
   exact hs.apart id' id o' _ p' p hS' hS hm' hm hid b x ho ⟨hn.1, by omega, by omega⟩
def Frz.row (F : Frz) (w : World) (p : Pl) (n : Nat) : Frz := fun b x => if p.b = b ∧ p.o ≤ x ∧ x < p.o + n * p.k then w.cell? ⟨b, x, none⟩ else F b x
theorem Sim.freeze {F m S w} (hs : Sim β F m S w) {id k : Nat} {es : List (List AVal)} {cp : Option Nat} {p : Pl} (hS : S[id]? = some (.cells k es cp)) (hm : m id = some p) :
  Ext F m (F.row w p es.length) m ∧ Sim β (F.row w p es.length) m (S.set id .dead) w ∧
   ∀ off len v, off + len ≤ es.length → Rel F m (.row id off len) v → Rel (F.row w p es.length) m (.list .unk ((es.drop off).take len)) v := by
 obtain ⟨q, hq, hok⟩ := hs.objs id _ hS
 obtain rfl := Option.some.inj (hm.symm.trans hq)
 obtain ⟨rfl, h2, h3, h4, h5, h6, h7, h8⟩ := hok
 have hmul : es.length * p.k ≤ p.cap * p.k := Nat.mul_le_mul_right _ h5
 have he : Ext F m (F.row w p es.length) m := by
  refine ⟨fun b x v h => ?_, fun _ _ h => h⟩
  unfold Frz.row
  rw [if_neg]
  ·exact h
  ·rintro ⟨rfl, hx, hx'⟩
   rw [(h7 x hx (by omega)).2.2] at h
   cases h
 have hk1 := hs.kill id
 have hlt : id < S.length := by
  rcases Nat.lt_or_ge id S.length with h' | h'
  ·exact h'
  ·simp [List.getElem?_eq_none h'] at hS
 refine ⟨he, ⟨hk1.below, fun g => (hk1.glob g).mono he, fun b x v hv => ?_, fun id' o ho => ?_, hk1.apart, hk1.dom⟩, fun off len v hle hr => ?_⟩
 ·unfold Frz.row at hv
  split at hv
  ·exact hv
  ·exact hk1.agree b x v hv
 ·obtain ⟨p', hp', hok'⟩ := hk1.objs id' o ho
  refine ⟨p', hp', hok'.ext he fun x hx => ?_⟩
  unfold Frz.row
  rw [if_neg]
  rintro ⟨hb, hx1, hx2⟩
  by_cases hid : id' = id
  ·subst hid
   rw [List.getElem?_set_self hlt] at ho
   cases ho
   exact hx
  ·rw [List.getElem?_set_ne (by omega)] at ho
   exact hs.apart id' id o _ p' p ho hS hp' hm hid p'.b x hx ⟨hb, hx1, by omega⟩
 ·cases hr with
  | row _ _ _ A cap p' hm' hl hc hA hN =>
    obtain rfl := Option.some.inj (hm.symm.trans hm')
    have hlen : ((es.drop off).take len).length = len := by simp; omega
    have hg : ∀ i j, i < len → cellAt ((es.drop off).take len) i j = cellAt es (off + i) j := fun i j hi => by
     have : ((es.drop off).take len).getD i [] = es.getD (off + i) [] := by
      rw [getD_eq _ _ _ (by omega), getD_eq _ _ _ (by omega)]; simp
     simp only [cellAt, this]
    have hcell : ∀ i j, i < len → j < p.k → ∃ u, w.cell? ⟨p.b, p.o + off * p.k + (i * p.k + j), none⟩ = some u ∧ u.oneCell' = true ∧ Rel F m (cellAt es (off + i) j) u ∧ F.row w p es.length p.b (p.o + off * p.k + (i * p.k + j)) = some u := fun i j hi hj => by
     obtain ⟨u, hu, h1, hr⟩ := h8 (off + i) j (by omega) hj
     have e1 : p.o + off * p.k + (i * p.k + j) = p.o + ((off + i) * p.k + j) := by rw [Nat.add_mul]; omega
     have : (off + i + 1) * p.k ≤ es.length * p.k := Nat.mul_le_mul_right _ (by omega)
     rw [Nat.add_mul] at this
     rw [e1]
     refine ⟨u, hu, h1, hr, ?_⟩
     unfold Frz.row
     rw [if_pos ⟨rfl, by omega, by omega⟩]; exact hu
    let vs : Nat → Nat → Value := fun i j => (w.cell? ⟨p.b, p.o + off * p.k + (i * p.k + j), none⟩).getD undef
    have hvs : ∀ i j u, w.cell? ⟨p.b, p.o + off * p.k + (i * p.k + j), none⟩ = some u → vs i j = u := fun i j u h => by simp [vs, h]
    refine .list .unk _ A len cap p.b (p.o + off * p.k) p.k vs (by simp) hlen.symm hl (by simp [Fl.isFull]) (fun e he => h6 e (List.mem_of_mem_drop (List.mem_of_mem_take he))) h4 (by simp [Fl.non])
     (fun hn => ?_) (fun hne => hA ?_) (fun i j hi hj => ?_) (fun i j hi hj => ?_) (fun i j hi hj => ?_)
    ·subst hn
     rcases Nat.eq_zero_or_pos cap with h | h
     ·exact h
     ·have := hA h; cases this
    ·rcases Nat.eq_zero_or_pos len with h | h
     ·subst h; simp at hne
     ·omega
    ·obtain ⟨u, hu, h1, _⟩ := hcell i j (by omega) hj
     rw [hvs i j u hu]; exact h1
    ·obtain ⟨u, hu, _, _, hF⟩ := hcell i j (by omega) hj
     rw [hvs i j u hu]; exact hF
    ·obtain ⟨u, hu, _, hr, _⟩ := hcell i j (by omega) hj
     rw [hvs i j u hu, hg i j (by omega)]; exact hr.mono he
end
end Go.Abs
