/- The abstract machine, part 2: abstract objects, and how they stand to the model's memory. Conditions: none; definitions and lemmas. -/
import Derived.Test.YtdnpmnnidjeifaaGreatDoorA1
namespace Go.Abs
open Go Go.RowKit
structure AEnt where
 key : AVal
 val : AVal
 born : Nat
 deriving Inhabited
inductive AObj where
 | cells (k : Nat) (es : List (List AVal)) (cap : Option Nat)
 | map (kvs : List AEnt) (clock : Nat)
 | mapIter (map : Option Nat) (since : Nat) (seen : List Nat) (stepped : Nat)
 | strIter (s : ByteArray) (pos : Nat)
 | dead
 deriving Inhabited
abbrev Heap := List AObj
def AObj.owns (o : AObj) (p : Pl) (b x : Nat) : Prop :=
 match o with
 | .cells _ _ _ => p.b = b ∧ p.o ≤ x ∧ x < p.o + p.cap * p.k
 | .dead => False
 | _ => p.b = b
def EntOk (F : Frz) (m : Pls) (e : AEnt) (c : MapEntry) : Prop := Rel F m e.key c.key ∧ c.born = e.born ∧ Rel F m e.val c.val
def AObj.ok (F : Frz) (m : Pls) (B : Nat) (w : World) (p : Pl) : AObj → Prop
 | .cells k es cap => p.k = k ∧ (∀ c, cap = some c → p.cap = c) ∧ B ≤ p.b ∧ 0 < k ∧ es.length ≤ p.cap ∧ (∀ e ∈ es, e.length = k) ∧
   (∀ x, p.o ≤ x → x < p.o + p.cap * k → (∃ v, w.cell? ⟨p.b, x, none⟩ = some v) ∧ w.frozen? ⟨p.b, x, none⟩ = false ∧ F p.b x = none) ∧
   (∀ i j, i < es.length → j < k → ∃ v, w.cell? ⟨p.b, p.o + (i * k + j), none⟩ = some v ∧ v.oneCell' = true ∧ Rel F m (cellAt es i j) v)
 | .map kvs clock => B ≤ p.b ∧ ∃ es : Array MapEntry, w.heap[p.b]? = some (.map es clock) ∧ es.size = kvs.length ∧ (∀ i, i < kvs.length → EntOk F m (kvs.getD i default) (es.getD i default))
 | .mapIter (some id) since seen stepped => B ≤ p.b ∧ ∃ q, m id = some q ∧ w.heap[p.b]? = some (.mapIter (some q.b) since seen.toArray stepped)
 | .mapIter none since seen stepped => B ≤ p.b ∧ w.heap[p.b]? = some (.mapIter none since seen.toArray stepped)
 | .strIter s pos => B ≤ p.b ∧ w.heap[p.b]? = some (.stringIter s pos)
 | .dead => True
structure Base where
 w0 : World
 G : Nat → AVal
structure Sim (β : Base) (F : Frz) (m : Pls) (S : Heap) (w : World) : Prop where
 below : Below β.w0.heap.size β.w0 w
 glob : ∀ g, Rel F m (β.G g) (.pointer (some ⟨g, 0, none⟩))
 agree : ∀ b x v, F b x = some v → w.cell? ⟨b, x, none⟩ = some v
 objs : ∀ id o, S[id]? = some o → ∃ p, m id = some p ∧ o.ok F m β.w0.heap.size w p
 apart : ∀ id id' o o' p p', S[id]? = some o → S[id']? = some o' → m id = some p → m id' = some p' → id ≠ id' → ∀ b x, o.owns p b x → ¬ o'.owns p' b x
 dom : ∀ id, S.length ≤ id → m id = none
theorem AObj.ok.keep {F m B w w' p} {o : AObj} (h : o.ok F m B w p)
  (hc : ∀ x, o.owns p p.b x → w'.cell? ⟨p.b, x, none⟩ = w.cell? ⟨p.b, x, none⟩ ∧ w'.frozen? ⟨p.b, x, none⟩ = w.frozen? ⟨p.b, x, none⟩)
  (hh : (∀ x, o.owns p p.b x) → w'.heap[p.b]? = w.heap[p.b]?) : o.ok F m B w' p := by
 cases o with
 | cells k es cap =>
   obtain ⟨rfl, h2, h3, h4, h5, h6, h7, h8⟩ := h
   refine ⟨rfl, h2, h3, h4, h5, h6, fun x hx hx' => ?_, fun i j hi hj => ?_⟩
   ·have := hc x ⟨rfl, hx, hx'⟩
    rw [this.1, this.2]; exact h7 x hx hx'
   ·have hlt : i * p.k + j < p.cap * p.k := by
     have : (i + 1) * p.k ≤ p.cap * p.k := Nat.mul_le_mul_right _ (by omega)
     rw [Nat.add_mul] at this; omega
    rw [(hc (p.o + (i * p.k + j)) ⟨rfl, by omega, by omega⟩).1]; exact h8 i j hi hj
 | map kvs clock =>
   obtain ⟨h1, es, h2, h3⟩ := h
   exact ⟨h1, es, by rw [hh (fun _ => rfl)]; exact h2, h3⟩
 | mapIter id since seen stepped =>
   cases id with
   | none => exact ⟨h.1, by rw [hh (fun _ => rfl)]; exact h.2⟩
   | some id => obtain ⟨h1, q, h2, h3⟩ := h; exact ⟨h1, q, h2, by rw [hh (fun _ => rfl)]; exact h3⟩
 | strIter s pos => exact ⟨h.1, by rw [hh (fun _ => rfl)]; exact h.2⟩
 | dead => trivial
theorem AObj.ok.ext {F m F' m' B w p} {o : AObj} (h : o.ok F m B w p) (e : Ext F m F' m') (hF : ∀ x, o.owns p p.b x → F' p.b x = F p.b x) : o.ok F' m' B w p := by
 cases o with
 | cells k es cap =>
   obtain ⟨rfl, h2, h3, h4, h5, h6, h7, h8⟩ := h
   refine ⟨rfl, h2, h3, h4, h5, h6, fun x hx hx' => ?_, fun i j hi hj => ?_⟩
   ·rw [hF x ⟨rfl, hx, hx'⟩]; exact h7 x hx hx'
   ·obtain ⟨v, hv, h1, hr⟩ := h8 i j hi hj
    exact ⟨v, hv, h1, hr.mono e⟩
 | map kvs clock =>
   obtain ⟨h1, es, h2, h3, h4⟩ := h
   exact ⟨h1, es, h2, h3, fun i hi => ⟨(h4 i hi).1.mono e, (h4 i hi).2.1, (h4 i hi).2.2.mono e⟩⟩
 | mapIter id since seen stepped =>
   cases id with
   | none => exact h
   | some id => obtain ⟨h1, q, h2, h3⟩ := h; exact ⟨h1, q, e.m _ _ h2, h3⟩
 | strIter s pos => exact h
 | dead => trivial
theorem AObj.ok.below {F m B w p} {o : AObj} (h : o.ok F m B w p) (x : Nat) (b : Nat) (ho : o.owns p b x) : B ≤ p.b := by
 cases o with
 | cells k es cap => exact h.2.2.1
 | map kvs clock => exact h.1
 | mapIter id since seen stepped => cases id <;> exact h.1
 | strIter s pos => exact h.1
 | dead => exact ho.elim
theorem AObj.ok.lt {F m B w p} {o : AObj} (h : o.ok F m B w p) {b x : Nat} (ho : o.owns p b x) : b < w.heap.size := by
 have hs : ∀ (k : Nat) (u : Obj), w.heap[k]? = some u → k < w.heap.size := fun k u hu => by
  rcases Nat.lt_or_ge k w.heap.size with h' | h'
  ·exact h'
  ·simp [Array.getElem?_eq_none h'] at hu
 cases o with
 | cells k es cap =>
   obtain ⟨rfl, h2', h3, h4, h5, h6, h7, h8⟩ := h
   obtain ⟨rfl, h1, h2⟩ := ho
   obtain ⟨⟨v, hv⟩, _⟩ := h7 x h1 h2
   exact World.block_lt_of_cell? w _ hv
 | map kvs clock => obtain ⟨h1, es, h2, _⟩ := h; obtain rfl := ho; exact hs _ _ h2
 | mapIter id since seen stepped =>
   obtain rfl := ho
   cases id with
   | none => exact hs _ _ h.2
   | some id => obtain ⟨h1, q, h2, h3⟩ := h; exact hs _ _ h3
 | strIter s pos => obtain rfl := ho; exact hs _ _ h.2
 | dead => exact ho.elim
theorem Sim.frz_lt {β F m S w} (h : Sim β F m S w) {b x : Nat} {v : Value} (hF : F b x = some v) : b < w.heap.size :=
 World.block_lt_of_cell? w _ (h.agree b x v hF)
theorem Sim.drew {β F m S w} (h : Sim β F m S w) : Sim β F m S w.drew :=
 ⟨h.below.drew, h.glob, h.agree, fun id o ho => by
  obtain ⟨p, hp, hok⟩ := h.objs id o ho
  exact ⟨p, hp, hok.keep (fun _ _ => ⟨rfl, rfl⟩) (fun _ => rfl)⟩, h.apart, h.dom⟩
theorem Sim.more {β F m S w w'} (h : Sim β F m S w) (hb : Below w.heap.size w w') : Sim β F m S w' := by
 refine ⟨h.below.trans (hb.mono h.below.size), h.glob, fun b x v hv => ?_, fun id o ho => ?_, h.apart, h.dom⟩
 ·have := h.agree b x v hv
  rw [← this]; exact hb.cell (p := ⟨b, x, none⟩) (World.block_lt_of_cell? w _ this)
 ·obtain ⟨p, hp, hok⟩ := h.objs id o ho
  refine ⟨p, hp, hok.keep (fun x hx => ?_) (fun hx => hb.block _ (hok.lt (hx 0)))⟩
  exact ⟨hb.cell (p := ⟨p.b, x, none⟩) (hok.lt hx), hb.frozen (p := ⟨p.b, x, none⟩) (hok.lt hx)⟩
def Pls.put (m : Pls) (id : Nat) (p : Pl) : Pls := fun i => if i = id then some p else m i
theorem Ext.put {β F m S w} (h : Sim β F m S w) (p : Pl) : Ext F m F (m.put S.length p) :=
 ⟨fun _ _ _ h => h, fun id q hq => by
  unfold Pls.put
  rw [if_neg]; exact hq
  rintro rfl
  rw [h.dom _ (Nat.le_refl _)] at hq; cases hq⟩
theorem Sim.push {β F m S w} (h : Sim β F m S w) (o : AObj) (p : Pl)
  (hok : o.ok F (m.put S.length p) β.w0.heap.size w p)
  (hap : ∀ id o' p', S[id]? = some o' → m id = some p' → ∀ b x, o'.owns p' b x → ¬ o.owns p b x) :
  Sim β F (m.put S.length p) (S ++ [o]) w := by
 have hnew : m S.length = none := h.dom _ (Nat.le_refl _)
 have hlt : ∀ id o', S[id]? = some o' → id < S.length := fun id o' ho => by
  rcases Nat.lt_or_ge id S.length with h' | h'
  ·exact h'
  ·simp [List.getElem?_eq_none h'] at ho
 have hcase : ∀ id o', (S ++ [o])[id]? = some o' → (id < S.length ∧ S[id]? = some o') ∨ (id = S.length ∧ o' = o) := fun id o' ho => by
  rcases Nat.lt_or_ge id S.length with h' | h'
  ·left; refine ⟨h', ?_⟩; rwa [List.getElem?_append_left h'] at ho
  ·right
   rw [List.getElem?_append_right h'] at ho
   have : id - S.length = 0 := by
    rcases Nat.eq_zero_or_pos (id - S.length) with h0 | h0
    ·exact h0
    ·rw [List.getElem?_eq_none (by simp; omega)] at ho; cases ho
   rw [this] at ho
   simp at ho
   exact ⟨by omega, ho.symm⟩
 refine ⟨h.below, fun g => (h.glob g).mono (Ext.put h p), h.agree, fun id o' ho => ?_, fun id id' o1 o2 p1 p2 h1 h2 m1 m2 hne b x w1 w2 => ?_, fun id hid => ?_⟩
 ·rcases hcase id o' ho with ⟨hl, hS⟩ | ⟨rfl, rfl⟩
  ·obtain ⟨q, hq, hk⟩ := h.objs id o' hS
   exact ⟨q, by simp [Pls.put, Nat.ne_of_lt hl, hq], hk.ext (Ext.put h p) (fun _ _ => rfl)⟩
  ·exact ⟨p, by simp [Pls.put], hok⟩
 ·rcases hcase id o1 h1 with ⟨hl1, hS1⟩ | ⟨rfl, rfl⟩ <;> rcases hcase id' o2 h2 with ⟨hl2, hS2⟩ | ⟨rfl, rfl⟩
  ·simp only [Pls.put, Nat.ne_of_lt hl1, Nat.ne_of_lt hl2, if_false] at m1 m2
   exact h.apart id id' o1 o2 p1 p2 hS1 hS2 m1 m2 hne b x w1 w2
  ·simp only [Pls.put, Nat.ne_of_lt hl1, if_false, if_true] at m1 m2
   obtain rfl := Option.some.inj m2
   exact hap id o1 p1 hS1 m1 b x w1 w2
  ·simp only [Pls.put, Nat.ne_of_lt hl2, if_false, if_true] at m1 m2
   obtain rfl := Option.some.inj m1
   exact hap id' o2 p2 hS2 m2 b x w2 w1
  ·exact hne rfl
 ·simp at hid
  have : id ≠ S.length := by omega
  simp [Pls.put, this, h.dom id (by omega)]
theorem Sim.set {β F m S w w'} (h : Sim β F m S w) (id : Nat) (o : AObj) (p : Pl) (hp : m id = some p) (hold : ∃ o0, S[id]? = some o0 ∧ ∀ b x, o.owns p b x → o0.owns p b x)
  (hbel : Below β.w0.heap.size β.w0 w') (hag : ∀ b x v, F b x = some v → w'.cell? ⟨b, x, none⟩ = some v)
  (hok : o.ok F m β.w0.heap.size w' p)
  (hk : ∀ id' o' p', id' ≠ id → S[id']? = some o' → m id' = some p' → o'.ok F m β.w0.heap.size w' p') :
  Sim β F m (S.set id o) w' := by
 obtain ⟨o0, h0, hsub⟩ := hold
 have hlt : id < S.length := by
  rcases Nat.lt_or_ge id S.length with h' | h'
  ·exact h'
  ·simp [List.getElem?_eq_none h'] at h0
 have hcase : ∀ i o', (S.set id o)[i]? = some o' → (i ≠ id ∧ S[i]? = some o') ∨ (i = id ∧ o' = o) := fun i o' ho => by
  by_cases hi : i = id
  ·subst hi
   rw [List.getElem?_set_self hlt] at ho
   exact .inr ⟨rfl, (Option.some.inj ho).symm⟩
  ·rw [List.getElem?_set_ne (by omega)] at ho
   exact .inl ⟨hi, ho⟩
 refine ⟨hbel, h.glob, hag, fun i o' ho => ?_, fun i i' o1 o2 p1 p2 h1 h2 m1 m2 hne b x w1 w2 => ?_, fun i hi => h.dom i (by simpa using hi)⟩
 ·rcases hcase i o' ho with ⟨hne, hS⟩ | ⟨rfl, rfl⟩
  ·obtain ⟨q, hq, _⟩ := h.objs i o' hS
   exact ⟨q, hq, hk i o' q hne hS hq⟩
  ·exact ⟨p, hp, hok⟩
 ·rcases hcase i o1 h1 with ⟨hn1, hS1⟩ | ⟨rfl, rfl⟩ <;> rcases hcase i' o2 h2 with ⟨hn2, hS2⟩ | ⟨rfl, rfl⟩
  ·exact h.apart i i' o1 o2 p1 p2 hS1 hS2 m1 m2 hne b x w1 w2
  ·obtain rfl := Option.some.inj (hp.symm.trans m2)
   exact h.apart i i' o1 o0 p1 p hS1 h0 m1 m2 hne b x w1 (hsub b x w2)
  ·obtain rfl := Option.some.inj (hp.symm.trans m1)
   exact h.apart i i' o0 o2 p p2 h0 hS2 m1 m2 hne b x (hsub b x w1) w2
  ·exact hne rfl
theorem Sim.kill {β F m S w} (h : Sim β F m S w) (id : Nat) : Sim β F m (S.set id .dead) w := by
 by_cases hlt : id < S.length
 ·obtain ⟨p, hp, _⟩ := h.objs id S[id] (List.getElem?_eq_getElem hlt)
  exact h.set id .dead p hp ⟨S[id], List.getElem?_eq_getElem hlt, fun _ _ h => h.elim⟩ h.below h.agree trivial (fun i o' p' _ hS hm => by
   obtain ⟨q, hq, hok⟩ := h.objs i o' hS
   obtain rfl := Option.some.inj (hq.symm.trans hm)
   exact hok)
 ·rw [List.set_eq_of_length_le (by omega)]; exact h
end Go.Abs
