/- The abstract machine, part 19: statements whose order is open. Conditions: none; definitions and lemmas. -/
import Derived.Test.YtdnpmnnidjeifaaGreatDoorA18
namespace Go.Abs
open Go Go.RowKit
def maskOf (acc : List Nat) (o : Oper) : Nat :=
 o.after.toList.foldr (fun e m => if Region.binds .any e then (m ||| 2 ^ e.on) ||| acc.getD e.on 0 else m) 0
def masks : List Oper → List Nat → List Nat
 | [], acc => acc
 | o :: r, acc => masks r (acc ++ [maskOf acc o])
def anc (ms : List Nat) (i j : Nat) : Bool := (ms.getD i 0).testBit j
inductive Anc (ops : Array Oper) : Nat → Nat → Prop
 | edge (i : Nat) (o : Oper) (e : Edge) (ho : ops[i]? = some o) (he : e ∈ o.after) (hb : Region.binds .any e = true) : Anc ops i e.on
 | step (i : Nat) (o : Oper) (e : Edge) (j : Nat) (ho : ops[i]? = some o) (he : e ∈ o.after) (hb : Region.binds .any e = true) (h : Anc ops e.on j) : Anc ops i j
theorem maskOf_spec {ops : Array Oper} {acc : List Nat} (hacc : ∀ i j, anc acc i j = true → Anc ops i j) {i : Nat} {o : Oper} (ho : ops[i]? = some o) {j : Nat} (h : (maskOf acc o).testBit j = true) : Anc ops i j := by
 unfold maskOf at h
 have key : ∀ (l : List Edge), (∀ e ∈ l, e ∈ o.after) → (l.foldr (fun e m => if Region.binds .any e then (m ||| 2 ^ e.on) ||| acc.getD e.on 0 else m) 0).testBit j = true → Anc ops i j := by
  intro l
  induction l with
  | nil => intro _ h; simp at h
  | cons e l ih =>
    intro hl h
    simp only [List.foldr_cons] at h
    split at h
    ·rename_i hb
     simp only [Nat.testBit_or, Bool.or_eq_true] at h
     rcases h with (h | h) | h
     ·exact ih (fun e he => hl e (by simp [he])) h
     ·rw [Nat.testBit_two_pow] at h
      have : e.on = j := by simpa using h
      subst this
      exact .edge i o e ho (hl e (by simp)) hb
     ·exact .step i o e j ho (hl e (by simp)) hb (hacc _ _ h)
    ·exact ih (fun e he => hl e (by simp [he])) h
 exact key _ (fun e he => by simpa using he) h
theorem maskOf_edge {acc : List Nat} {o : Oper} {e : Edge} (he : e ∈ o.after) (hb : Region.binds .any e = true) : (maskOf acc o).testBit e.on = true := by
 unfold maskOf
 have key : ∀ (l : List Edge), e ∈ l → (l.foldr (fun e m => if Region.binds .any e then (m ||| 2 ^ e.on) ||| acc.getD e.on 0 else m) 0).testBit e.on = true := by
  intro l
  induction l with
  | nil => intro h; cases h
  | cons x l ih =>
    intro h
    simp only [List.foldr_cons]
    rcases List.mem_cons.1 h with h | h
    ·subst h
     rw [if_pos hb]
     rw [Nat.testBit_or, Nat.testBit_or, Nat.testBit_two_pow]
     simp
    ·split
     ·rw [Nat.testBit_or, Nat.testBit_or, ih h]
      simp
     ·exact ih h
 exact key _ (by simpa using he)
theorem masks_spec {ops : Array Oper} : ∀ (r dn : List Oper) (acc : List Nat), ops.toList = dn ++ r → acc.length = dn.length → (∀ i j, anc acc i j = true → Anc ops i j) → (∀ i o e, i < dn.length → ops[i]? = some o → e ∈ o.after → Region.binds .any e = true → anc acc i e.on = true) →
  (∀ i j, anc (masks r acc) i j = true → Anc ops i j) ∧ (∀ i o e, ops[i]? = some o → e ∈ o.after → Region.binds .any e = true → anc (masks r acc) i e.on = true)
 | [], dn, acc, ho, hl, h1, h2 => ⟨h1, fun i o e hi he hb => h2 i o e (by
   have : i < ops.size := (Array.getElem?_eq_some_iff.1 hi).1
   have e1 : ops.toList.length = dn.length := by rw [ho]; simp
   simpa [← e1] using this) hi he hb⟩
 | o :: r, dn, acc, ho, hl, h1, h2 => by
   have hi : ops[dn.length]? = some o := by
    rw [← Array.getElem?_toList, ho]; simp
   refine masks_spec r (dn ++ [o]) (acc ++ [maskOf acc o]) (by rw [ho]; simp) (by simp [hl]) (fun i j h => ?_) (fun i o' e hlt hi' he hb => ?_)
   ·unfold anc at h
    by_cases hlt : i < acc.length
    ·rw [List.getD_eq_getElem?_getD, List.getElem?_append_left hlt] at h
     exact h1 i j (by unfold anc; rw [List.getD_eq_getElem?_getD]; exact h)
    ·by_cases heq : i = acc.length
     ·subst heq
      rw [List.getD_eq_getElem?_getD] at h
      simp at h
      rw [hl]
      exact maskOf_spec h1 hi h
     ·rw [List.getD_eq_getElem?_getD, List.getElem?_eq_none (by simp; omega)] at h
      simp at h
   ·unfold anc
    simp at hlt
    by_cases hlt' : i < dn.length
    ·rw [List.getD_eq_getElem?_getD, List.getElem?_append_left (by omega)]
     have := h2 i o' e hlt' hi' he hb
     unfold anc at this
     rwa [List.getD_eq_getElem?_getD] at this
    ·have : i = dn.length := by omega
     subst this
     rw [hi] at hi'
     cases hi'
     rw [List.getD_eq_getElem?_getD, ← hl]
     simp
     exact maskOf_edge he hb
def Closed (ops : Array Oper) (listed : Array Bool) : Prop :=
 ∀ i o e, listed.getD i false = true → ops[i]? = some o → e ∈ o.after → Region.binds .any e = true → listed.getD e.on false = true
theorem Anc.listed {ops : Array Oper} {listed : Array Bool} (hc : Closed ops listed) {i j : Nat} (h : Anc ops i j) :
  (∀ o e, ops[i]? = some o → e ∈ o.after → Region.binds .any e = true → listed.getD e.on false = true) → listed.getD j false = true := by
 induction h with
 | edge i o e ho he hb => exact fun h => h o e ho he hb
 | step i o e j ho he hb _ ih => exact fun h => ih fun o' e' ho' he' hb' => hc e.on o' e' (h o e ho he hb) ho' he' hb'
def slotOk (ms : List Nat) (x y : DE) : Bool :=
 match x.i.dst with
 | none => true
 | some d => y.i.dst != some d && (!y.i.slots.contains d || anc ms x.ix y.ix || anc ms y.ix x.ix)
theorem slotOk_spec {ms : List Nat} {x y : DE} (h : slotOk ms x y = true) {d : Nat} (hd : x.i.dst = some d) : y.i.dst ≠ some d ∧ (d ∈ y.i.slots → anc ms x.ix y.ix = true ∨ anc ms y.ix x.ix = true) := by
 simp only [slotOk, hd, Bool.or_eq_true, Bool.and_eq_true, bne_iff_ne, ne_eq, Bool.not_eq_true', List.contains_eq_mem, decide_eq_false_iff_not] at h
 refine ⟨h.1, fun hm => ?_⟩
 rcases h.2 with (h2 | h2) | h2
 ·exact absurd hm h2
 ·exact .inl h2
 ·exact .inr h2
def addOk (ms : List Nat) (n : Nat) (dn : List DE) (x : DE) : Bool :=
 (dn.all fun y => y.ix != x.ix && !anc ms y.ix x.ix && slotOk ms x y && slotOk ms y x) && !anc ms x.ix x.ix && (List.range n).all fun j => !anc ms x.ix j || dn.any (·.ix == j)
theorem addOk_spec {ms : List Nat} {n : Nat} {dn : List DE} {x : DE} (h : addOk ms n dn x = true) : (∀ y ∈ dn, y.ix ≠ x.ix ∧ anc ms y.ix x.ix = false ∧ slotOk ms x y = true ∧ slotOk ms y x = true) ∧ anc ms x.ix x.ix = false ∧
  ∀ j, j < n → anc ms x.ix j = true → ∃ y ∈ dn, y.ix = j := by
 simp only [addOk, Bool.and_eq_true, Bool.not_eq_true'] at h
 refine ⟨fun y hy => ?_, h.1.2, fun j hj ha => ?_⟩
 ·have := List.all_eq_true.1 h.1.1 y hy
  simp only [Bool.and_eq_true, bne_iff_ne, ne_eq, Bool.not_eq_true'] at this
  exact ⟨this.1.1.1, this.1.1.2, this.1.2, this.2⟩
 ·have := List.all_eq_true.1 h.2 j (List.mem_range.2 hj)
  simp only [ha, Bool.not_true, Bool.false_or] at this
  obtain ⟨y, hy, he⟩ := List.any_eq_true.1 this
  exact ⟨y, hy, by simpa using he⟩
def readsOk (ms : List Nat) (n : Nat) : List DE → List DE → Bool
 | [], _ => true
 | x :: r, dn => !x.w && addOk ms n dn x && readsOk ms n r (dn ++ [x])
def DT.heads : DT → List DE
 | .ef x _ _ => [x]
 | .or s t => s.heads ++ t.heads
 | _ => []
def DT.des : DT → List DE
 | .nil => []
 | .rd l t => l ++ t.des
 | .ef x _ t => x :: t.des
 | .or s t => s.des ++ t.des
def full (ms : List Nat) (n : Nat) (hs dn : List DE) : Bool :=
 (List.range n).all fun z => dn.any (·.ix == z) || hs.any (·.ix == z) || (List.range n).any fun j => anc ms z j && !dn.any (·.ix == j)
def treeOk (ms : List Nat) (n : Nat) : Bool → DT → List DE → Bool
 | top, .nil, dn => top && (List.range n).all fun i => dn.any (·.ix == i)
 | top, .rd l t, dn => top && readsOk ms n l dn && treeOk ms n true t (dn ++ l)
 | top, .ef x keep t, dn => (!top || full ms n [x] dn) && x.w && addOk ms n dn x &&
   (dn.all fun r => r.w || anc ms x.ix r.ix || (dn.any fun e => e.w && anc ms e.ix r.ix) || (keep.contains r.ix && r.late)) && treeOk ms n true t (dn ++ [x])
 | top, .or s t, dn => (!top || full ms n (s.heads ++ t.heads) dn) && treeOk ms n false s dn && treeOk ms n false t dn
end Go.Abs
