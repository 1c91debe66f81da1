/- The abstract machine, part 1: abstract values, and how they stand to the model's values. Conditions: none; definitions and lemmas. -/
import Derived.Calls
import Derived.RowKit3
import Derived.Below
import Derived.Laws.World
import Derived.Laws.Sem
import Derived.Laws.Cells
import Derived.Laws.CopyRow
namespace Go.Abs
open Go Go.RowKit
inductive Fl where
 | nil | full | any | unk | fulu
 deriving DecidableEq
def Fl.isFull : Fl → Bool
 | .full | .fulu => true
 | _ => false
def Fl.non : Fl → Bool
 | .full | .any => true
 | _ => false
def Fl.with (f : Fl) (b : Bool) : Fl := if f.non then (if b then .full else .any) else (if b then .fulu else .unk)
inductive AVal where
 | top
 | atom (v : Value)
 | str (l : List UInt8)
 | agg (cs : List AVal)
 | tuple (cs : List AVal)
 | list (fl : Fl) (es : List (List AVal))
 | row (id off len : Nat)
 | ptr (id i j : Nat)
 | fptr (es : List (List AVal)) (i j : Nat)
 | mapv (id : Nat)
 | itr (id : Nat)
 | clo (fn : Fn) (first captured : List AVal)
 | iface (t : TypeId) (v : AVal)
 deriving Inhabited
abbrev AVal.int (n : Int) : AVal := .atom (.int .i64 n)
abbrev AVal.bool (b : Bool) : AVal := .atom (.bool b)
abbrev AVal.undef : AVal := .tuple []
abbrev strV (l : List UInt8) : Value := .string ⟨l.toArray⟩
abbrev AVal.nilS : AVal := .list .nil []
def AVal.one : AVal → Bool
 | .top | .agg _ | .tuple _ => false
 | .atom v => v.oneCell'
 | _ => true
structure Pl where
 b : Nat
 o : Nat
 k : Nat
 cap : Nat
abbrev Frz := Nat → Nat → Option Value
abbrev Pls := Nat → Option Pl
abbrev cellAt (es : List (List AVal)) (i j : Nat) : AVal := (es.getD i []).getD j .top
inductive Rel (F : Frz) (m : Pls) : AVal → Value → Prop
 | top (v : Value) : Rel F m .top v
 | atom (v : Value) : Rel F m (.atom v) v
 | str (l : List UInt8) : Rel F m (.str l) (strV l)
 | agg (cs : List AVal) (vs : Array Value) (hl : cs.length = vs.size)
   (h1 : ∀ i, i < cs.length → (vs.getD i undef).oneCell' = true)
   (h : ∀ i, i < cs.length → Rel F m (cs.getD i .top) (vs.getD i undef)) : Rel F m (.agg cs) (.agg vs)
 | tuple (cs : List AVal) (vs : Array Value) (hl : cs.length = vs.size)
   (h : ∀ i, i < cs.length → Rel F m (cs.getD i .top) (vs.getD i undef)) : Rel F m (.tuple cs) (.tuple vs)
 | nil (cap : Nat) (hc : cap = 0) : Rel F m (.list .nil []) (.slice none 0 cap)
 | list (fl : Fl) (es : List (List AVal)) (A : Option Addr) (n cap b o k : Nat) (vs : Nat → Nat → Value)
   (hfl : fl ≠ .nil) (hn : n = es.length) (hcap : n ≤ cap) (hfull : fl.isFull = true → cap = n) (hk : ∀ e ∈ es, e.length = k) (hk0 : 0 < k)
   (hA : fl.non = true → A.isSome = true) (hA0 : A = none → cap = 0)
   (ha : es ≠ [] → A = some ⟨b, o, none⟩)
   (h1 : ∀ i j, i < es.length → j < k → (vs i j).oneCell' = true)
   (hF : ∀ i j, i < es.length → j < k → F b (o + (i * k + j)) = some (vs i j))
   (h : ∀ i j, i < es.length → j < k → Rel F m (cellAt es i j) (vs i j)) : Rel F m (.list fl es) (.slice A n cap)
 | row (id off len : Nat) (A : Option Addr) (cap : Nat) (p : Pl) (hm : m id = some p) (hl : len ≤ cap) (hc : off + cap = p.cap)
   (hA : 0 < cap → A = some ⟨p.b, p.o + off * p.k, none⟩) (hN : 0 < p.cap → A.isSome = true) : Rel F m (.row id off len) (.slice A len cap)
 | ptr (id i j : Nat) (p : Pl) (hm : m id = some p) : Rel F m (.ptr id i j) (.pointer (some ⟨p.b, p.o + (i * p.k + j), none⟩))
 | fptr (es : List (List AVal)) (i j : Nat) (b o k : Nat) (vs : Nat → Nat → Value)
   (hk : ∀ e ∈ es, e.length = k) (hk0 : 0 < k)
   (h1 : ∀ i j, i < es.length → j < k → (vs i j).oneCell' = true)
   (hF : ∀ i j, i < es.length → j < k → F b (o + (i * k + j)) = some (vs i j))
   (h : ∀ i j, i < es.length → j < k → Rel F m (cellAt es i j) (vs i j)) : Rel F m (.fptr es i j) (.pointer (some ⟨b, o + (i * k + j), none⟩))
 | mapv (id : Nat) (p : Pl) (hm : m id = some p) : Rel F m (.mapv id) (.map (some p.b))
 | itr (id : Nat) (p : Pl) (hm : m id = some p) : Rel F m (.itr id) (.pointer (some ⟨p.b, 0, none⟩))
 | clo (fn : Fn) (f1 c1 : List AVal) (f2 c2 : Array Value) (hf : f1.length = f2.size) (hc : c1.length = c2.size)
   (h1 : ∀ i, i < f1.length → Rel F m (f1.getD i .top) (f2.getD i undef))
   (h2 : ∀ i, i < c1.length → Rel F m (c1.getD i .top) (c2.getD i undef)) : Rel F m (.clo fn f1 c1) (.func fn f2 c2)
 | iface (t : TypeId) (a : AVal) (v : Value) (h : Rel F m a v) : Rel F m (.iface t a) (.iface t v)
structure Ext (F : Frz) (m : Pls) (F' : Frz) (m' : Pls) : Prop where
 f : ∀ b x v, F b x = some v → F' b x = some v
 m : ∀ id p, m id = some p → m' id = some p
theorem Ext.refl (F : Frz) (m : Pls) : Ext F m F m := ⟨fun _ _ _ h => h, fun _ _ h => h⟩
theorem Ext.trans {F m F' m' F'' m''} (h : Ext F m F' m') (h' : Ext F' m' F'' m'') : Ext F m F'' m'' :=
 ⟨fun b x v e => h'.f b x v (h.f b x v e), fun i p e => h'.m i p (h.m i p e)⟩
theorem Rel.mono {F m F' m'} (e : Ext F m F' m') {a : AVal} {v : Value} (h : Rel F m a v) : Rel F' m' a v := by
 induction h with
 | top v => exact .top v
 | atom v => exact .atom v
 | str l => exact .str l
 | agg cs vs hl h1 _ ih => exact .agg cs vs hl h1 ih
 | tuple cs vs hl _ ih => exact .tuple cs vs hl ih
 | nil cap hc => exact .nil cap hc
 | list fl es A n cap b o k vs hfl hn hcap hfull hk hk0 hA hA0 ha h1 hF _ ih => exact .list fl es A n cap b o k vs hfl hn hcap hfull hk hk0 hA hA0 ha h1 (fun i j hi hj => e.f _ _ _ (hF i j hi hj)) ih
 | row id off len A cap p hm hl hc hA hN => exact .row id off len A cap p (e.m _ _ hm) hl hc hA hN
 | ptr id i j p hm => exact .ptr id i j p (e.m _ _ hm)
 | fptr es i j b o k vs hk hk0 h1 hF _ ih => exact .fptr es i j b o k vs hk hk0 h1 (fun i j hi hj => e.f _ _ _ (hF i j hi hj)) ih
 | mapv id p hm => exact .mapv id p (e.m _ _ hm)
 | itr id p hm => exact .itr id p (e.m _ _ hm)
 | clo fn f1 c1 f2 c2 hf hc _ _ ih1 ih2 => exact .clo fn f1 c1 f2 c2 hf hc ih1 ih2
 | iface t a v _ ih => exact .iface t a v ih
theorem Rel.one {F m} {a : AVal} {v : Value} (h : Rel F m a v) (ho : a.one = true) : v.oneCell' = true := by
 cases h <;> first | rfl | (simp [AVal.one] at ho; done) | simpa [AVal.one] using ho
theorem Rel.atom_eq {F m} {u v : Value} (h : Rel F m (.atom u) v) : v = u := by cases h; rfl
def RelL (F : Frz) (m : Pls) (as : List AVal) (vs : Array Value) : Prop :=
 as.length = vs.size ∧ ∀ i, i < as.length → Rel F m (as.getD i .top) (vs.getD i undef)
theorem RelL.mono {F m F' m'} (e : Ext F m F' m') {as : List AVal} {vs : Array Value} (h : RelL F m as vs) : RelL F' m' as vs :=
 ⟨h.1, fun i hi => (h.2 i hi).mono e⟩
theorem getD_eq {α : Type} (l : List α) (i : Nat) (d : α) (h : i < l.length) : l.getD i d = l[i] := by
 simp [List.getD, List.getElem?_eq_getElem h]
theorem agetD_eq {α : Type} (l : Array α) (i : Nat) (d : α) (h : i < l.size) : l.getD i d = l[i] := by
 simp [Array.getD, h]
theorem RelL.append {F m} {as bs : List AVal} {vs us : Array Value} (h : RelL F m as vs) (h' : RelL F m bs us) : RelL F m (as ++ bs) (vs ++ us) := by
 refine ⟨by simp [h.1, h'.1], fun i hi => ?_⟩
 have hi2 : i < (vs ++ us).size := by simp [← h.1, ← h'.1]; simpa using hi
 rw [getD_eq _ _ _ hi, agetD_eq _ _ _ hi2]
 by_cases hl : i < as.length
 ·rw [List.getElem_append_left hl, Array.getElem_append_left (by rw [← h.1]; exact hl)]
  have := h.2 i hl
  rwa [getD_eq _ _ _ hl, agetD_eq _ _ _ (by rw [← h.1]; exact hl)] at this
 ·have hj : i - as.length < bs.length := by simp at hi; omega
  rw [List.getElem_append_right (by omega), Array.getElem_append_right (by rw [← h.1]; omega)]
  have := h'.2 (i - as.length) hj
  rw [getD_eq _ _ _ hj, agetD_eq _ _ _ (by rw [← h'.1]; exact hj)] at this
  simpa [h.1] using this
end Go.Abs
