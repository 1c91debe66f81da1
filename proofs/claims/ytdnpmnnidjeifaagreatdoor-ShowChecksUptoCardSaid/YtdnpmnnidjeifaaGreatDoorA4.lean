/- The abstract machine, part 4: the translation of operations, and the frame. Conditions: none; definitions and lemmas. -/
import Derived.Test.YtdnpmnnidjeifaaGreatDoorA3
namespace Go.Abs
open Go Go.RowKit
structure TyI where
 agg : Bool
 size : Nat
 bytes : Nat
 zero : Value
def aggD : TypeDesc → Bool
 | .struct _ | .array _ _ => true
 | _ => false
def cellsOk (v : Value) : Bool := v.cells.toList.all Value.oneCell'
def tyI (P : Program) (t : TypeId) : Option TyI :=
 match P.underlying t, P.info? t with
 | some d, some i => match i.zero with
   | some z => if z.cells.size = i.size ∧ cellsOk z = true ∧ 0 < i.size then some ⟨aggD d, i.size, i.bytes, z⟩ else none
   | none => none
 | _, _ => none
def TyI.z (i : TyI) : List AVal := i.zero.cells.toList.map ofCell
def od (G : Nat → AVal) : Operand → Option MOpd
 | .tmp t => some (.slot t)
 | .const v => if cellsOk v then some (.val (ofConst v)) else none
 | .global g => some (.val (G g))
 | .func f => some (.val (.clo (.func f) [] []))
def ods (G : Nat → AVal) (l : List Operand) : Option (List MOpd) := l.mapM (od G)
def oda (G : Nat → AVal) : Option Operand → Option (Option MOpd)
 | none => some none
 | some x => (od G x).map some
def eqF (P : Program) (q : TypeId → Option EqT) (f : Field) : Option (Bool × Nat × Nat × EqT) :=
 match q f.type, tyI P f.type with
 | some e, some i => some (i.agg, f.offset, i.size, e)
 | _, _ => none
def eqT (P : Program) : Nat → Bool → TypeId → Option EqT
 | 0, _, _ => none
 | n + 1, safe, t => match P.underlying t with
   | some .bool => some .bool
   | some (.int _) => some .int
   | some .string => some .str
   | some (.pointer _) => some (.nilP .ptr)
   | some (.slice _) => some (.nilP .slice)
   | some (.map _ _) => some (.nilP .map)
   | some (.func _ _ _) => some (.nilP .func)
   | some (.interface ms) => some (.nilP (.iface (safe || ms.isEmpty)))
   | some (.struct fs) => if P.stoodInHeld t || P.eqGuardType P.depth t then none else
     ((fs.toList.filter fun (f : Field) => f.name != "_").mapM (eqF P (eqT P n true))).map .agg
   | _ => none
def isConst : Operand → Bool
 | .const _ => true
 | _ => false
def KK.of : TypeDesc → Option KK
 | .string => some .str
 | .int k => some (.int k)
 | .bool => some .bool
 | _ => none
def keyKind (P : Program) (t : TypeId) : Option KK := (P.underlying t).bind KK.of
def cmpB (P : Program) (G : Nat → AVal) (b : Builtin) (ts : Array TypeId) (args : List Operand) : Option MOp :=
 match b, args, ts[0]? with
 | .len, [x], some t => match P.underlying t with
   | some .string => (od G x).map .lenStr
   | some (.slice _) => (od G x).map .lenS
   | some (.map _ _) => (od G x).map .lenM
   | _ => none
 | .cap, [x], some t => match P.underlying t with
   | some (.slice _) => (od G x).map .capS
   | _ => none
 | .append, [x, y], some t => match P.underlying t with
   | some (.slice e) => match tyI P e, od G x, od G y, (ts[1]?).bind P.underlying with
     | some i, some x, some y, some (.slice _) => some (.append i.size i.bytes x y)
     | some i, some x, some y, some .string => some (.append i.size i.bytes x y)
     | _, _, _, _ => none
   | _ => none
 | .copy, [x, y], some t => match P.underlying t with
   | some (.slice e) => match tyI P e, od G x, od G y with
     | some i, some x, some y => some (.copy i.size x y)
     | _, _, _ => none
   | _ => none
 | .delete, [x, y], some t => match P.underlying t with
   | some (.map k _) => match keyKind P k, od G x, od G y with
     | some kd, some x, some y => some (.delete kd x y)
     | _, _, _ => none
   | _ => none
 | .clear, [x], some t => match P.underlying t with
   | some (.slice e) => match tyI P e, od G x with
     | some i, some x => some (.clearS i.size i.z x)
     | _, _ => none
   | _ => none
 | .max, [x, y], _ => match od G x, od G y with
   | some x, some y => some (.mm true x y)
   | _, _ => none
 | .min, [x, y], _ => match od G x, od G y with
   | some x, some y => some (.mm false x y)
   | _, _ => none
 | _, _, _ => none
def cmpParts (P : Program) (G : Nat → AVal) (fs : Array Field) : List (Nat × Operand) → Option (List (Bool × Nat × Nat × MOpd))
 | [] => some []
 | (i, x) :: r => match (fs[i]?).bind (fun f => (tyI P f.type).map fun i => (i.agg, f.offset, i.size)), od G x, cmpParts P G fs r with
   | some (a, o, s), some x, some l => some ((a, o, s, x) :: l)
   | _, _, _ => none
def arrFs (e : TypeId) (n sz : Nat) : Array Field := ((List.range n).map fun q => ({ name := "", type := e, offset := q * sz, embedded := false, tag := "", pkgPath := "", byteOffset := 0 } : Field)).toArray
def cmpElems (G : Nat → AVal) : List (Nat × Operand) → Option (List (Nat × MOpd))
 | [] => some []
 | (i, x) :: r => match od G x, cmpElems G r with
   | some x, some l => some ((i, x) :: l)
   | _, _ => none
def cmp (P : Program) (G : Nat → AVal) (o : Op) : Option MOp :=
 match o with
 | .move x | .assign x => (od G x).map .mv
 | .pick c x y => match od G c, od G x, od G y with
   | some c, some x, some y => some (.pick c x y)
   | _, _, _ => none
 | .alloc t => (tyI P t).map fun i => .alloc i.size i.z
 | .box t x => match tyI P t, od G x with
   | some i, some x => some (.box i.agg i.size x)
   | _, _ => none
 | .build t parts => match P.underlying t, tyI P t with
   | some (.struct fs), some i => if fs.toList.all (fun f => (P.info? f.type).isSome) then (cmpParts P G fs parts.toList).map (.build i.z) else none
   | some (.array n e), some i => match tyI P e with
     | some j => (cmpParts P G (arrFs e n j.size) parts.toList).map (.build i.z)
     | none => none
   | _, _ => none
 | .buildSlice t n parts => match P.underlying t with
   | some (.slice e) => match tyI P e, cmpElems G parts.toList with
     | some i, some l => some (.bslice i.agg i.size n i.z l)
     | _, _ => none
   | _ => none
 | .load t x => match tyI P t, od G x with
   | some i, some x => some (.load i.agg i.size x)
   | _, _ => none
 | .store t x y => match tyI P t, od G x, od G y with
   | some i, some x, some y => some (.store i.agg i.size x y)
   | _, _, _ => none
 | .nilCheck x => (od G x).map .nilck
 | .binOp op t x y _ => match od G x, od G y, (match op with | .eql | .neq => eqT P 20 (isConst x || isConst y) t | _ => some .int) with
   | some x, some y, some e => some (.bin op e x y)
   | _, _, _ => none
 | .unOp op _ x => (od G x).map (.un op)
 | .convert s d x => match P.underlying s, P.underlying d, od G x with
   | some (.int _), some (.int k), some x => some (.conv (.toInt k) x)
   | some .string, some .string, some x => some (.conv .strStr x)
   | some (.int _), some .string, some x => some (.conv .intStr x)
   | some (.slice e), some .string, some x => match P.underlying e with
     | some (.int .u8) => some (.conv .bytesStr x)
     | _ => none
   | some .string, some (.slice e), some x => match P.underlying e, tyI P e with
     | some (.int .u8), some i => if i.size = 1 then some (.conv .strBytes x) else none
     | _, _ => none
   | _, _, _ => none
 | .makeInterface t x => match P.underlying t with
   | some (.interface _) => none
   | some _ => (od G x).map (.mkif t)
   | none => none
 | .makeFunc fn f c => match ods G f.toList, ods G c.toList with
   | some f, some c => some (.mkfn fn f c)
   | _, _ => none
 | .makeMap _ none => some .mkmap
 | .makeSlice t l c => match P.underlying t with
   | some (.slice e) => match tyI P e, od G l, od G c with
     | some i, some l, some c => some (.mkslice i.size i.bytes i.z l c)
     | _, _, _ => none
   | _ => none
 | .slice t x lo hi mx => match P.underlying t with
   | some .string => match od G x, oda G lo, oda G hi, mx with
     | some x, some lo, some hi, none => some (.sslc x lo hi)
     | _, _, _, _ => none
   | some (.slice e) => match tyI P e, od G x, oda G lo, oda G hi, oda G mx with
     | some i, some x, some lo, some hi, some mx' => if mx.isNone || hi.isSome then some (.slc i.size x lo hi mx') else none
     | _, _, _, _, _ => none
   | _ => none
 | .fieldAddr t x f => match P.underlying t with
   | some (.struct fs) => match (fs[f]?).bind (fun f => (tyI P f.type).map fun _ => f.offset), od G x with
     | some off, some x => some (.faddr off x)
     | _, _ => none
   | _ => none
 | .field t x f => match P.underlying t with
   | some (.struct fs) => match (fs[f]?).bind (fun f => (tyI P f.type).map fun i => (i.agg, f.offset, i.size)), od G x with
     | some (a, o, s), some x => some (.field a o s x)
     | _, _ => none
   | _ => none
 | .indexAddr t x i => match P.underlying t with
   | some (.slice e) => match tyI P e, od G x, od G i with
     | some j, some x, some i => some (.iaddr j.size x i)
     | _, _, _ => none
   | some (.array n e) => match tyI P e, od G x, od G i with
     | some j, some x, some i => some (.iaddrA n j.size x i)
     | _, _, _ => none
   | _ => none
 | .index t x i => match P.underlying t with
   | some .string => match od G x, od G i with
     | some x, some i => some (.idxS x i)
     | _, _ => none
   | some (.array n e) => match tyI P e, od G x, od G i with
     | some j, some x, some i => some (.idxA n j.agg j.size x i)
     | _, _, _ => none
   | _ => none
 | .lookup t x i ok => match P.underlying t with
   | some (.map k e) => match keyKind P k, tyI P e, od G x, od G i with
     | some kd, some j, some x, some i => some (.lookup kd (ofConst j.zero) ok x i)
     | _, _, _, _ => none
   | _ => none
 | .mapUpdate t x i y | .insert t x i y => match P.underlying t with
   | some (.map k _) => match keyKind P k, od G x, od G i, od G y with
     | some kd, some x, some i, some y => some (.mapUp kd x i y)
     | _, _, _, _ => none
   | _ => none
 | .mapEntry t x i => match P.underlying t with
   | some (.map k e) => match keyKind P k, tyI P e, od G x, od G i with
     | some kd, some j, some x, some i => some (.mapEnt kd (ofConst j.zero) x i)
     | _, _, _, _ => none
   | _ => none
 | .entryStore _ x s y => match od G x, od G s, od G y with
   | some x, some s, some y => some (.entSt x s y)
   | _, _, _ => none
 | .typeAssert x _ t ok => match P.underlying t, tyI P t with
   | some (.interface _), _ => none
   | some _, some i => (od G x).map (.tassert t ok (ofConst i.zero))
   | _, _ => none
 | .extract x i => (od G x).map fun x => .extract x i
 | .call { callee := .builtin b, args, argTypes } => cmpB P G b argTypes args.toList
 | .range t x => match P.underlying t with
   | some .string => (od G x).map .rangeS
   | some (.map _ _) => (od G x).map .rangeM
   | _ => none
 | .next x true => (od G x).map .nextS
 | .entry x => (od G x).map .entry
 | .panic x => (od G x).map .panic
 | _ => none
def RelT (F : Frz) (m : Pls) (a : Tmps) (tmps : Array Value) : Prop := ∀ d, Rel F m (get a d) (tmps.getD d undef)
theorem RelT.mono {F m F' m'} (e : Ext F m F' m') {a tmps} (h : RelT F m a tmps) : RelT F' m' a tmps := fun d => (h d).mono e
theorem RelT.put {F m a} {tmps : Array Value} (h : RelT F m a tmps) {d : Nat} (hd : d < tmps.size) {v : AVal} {u : Value} (hv : Rel F m v u) :
  RelT F m ((d, v) :: a) (tmps.setIfInBounds d u) := by
 intro n
 by_cases hn : d = n
 ·subst hn
  have : (tmps.setIfInBounds d u).getD d undef = u := by simp [Array.getD, hd]
  rw [this]; simpa [get] using hv
 ·have : (tmps.setIfInBounds d u).getD n undef = tmps.getD n undef := by
   simp only [Array.getD, Array.size_setIfInBounds]
   split
   ·rw [Array.getInternal_eq_getElem, Array.getInternal_eq_getElem, Array.getElem_setIfInBounds_ne (by assumption) hn]
   ·rfl
  rw [this]; simp only [get, if_neg hn]; exact h n
theorem RelT.nil {F m} (tmps : Array Value) : RelT F m [] tmps := fun _ => .top _
theorem rel_ofCell {F m} (v : Value) : Rel F m (ofCell v) v := by
 unfold ofCell
 split
 ·exact .nil 0 rfl
 ·rename_i s; exact (show Rel F m (.str s.data.toList) (.string ⟨s.data.toList.toArray⟩) from .str _)
 ·exact .atom v
theorem rel_cells {F m} (cs : Array Value) : ∀ i, i < (cs.toList.map ofCell).length → Rel F m ((cs.toList.map ofCell).getD i .top) (cs.getD i undef) := by
 intro i hi
 have hi' : i < cs.size := by simpa using hi
 rw [getD_eq _ _ _ hi, agetD_eq _ _ _ hi']
 simp
 exact rel_ofCell _
theorem rel_ofConst {F m} (v : Value) (h : cellsOk v = true) : Rel F m (ofConst v) v := by
 unfold ofConst
 split
 ·rename_i cs
  refine .agg _ cs (by simp) (fun i hi => ?_) (rel_cells cs)
  have hi' : i < cs.size := by simpa using hi
  rw [agetD_eq _ _ _ hi']
  simp only [cellsOk, Value.cells, List.all_eq_true, Array.mem_toList_iff] at h
  exact h _ (Array.getElem_mem hi')
 ·rename_i cs
  exact .tuple _ cs (by simp) (rel_cells cs)
 ·exact rel_ofCell v
theorem rel_od {β : Base} {F m} (hg : ∀ g, Rel F m (β.G g) (.pointer (some ⟨g, 0, none⟩))) {a : Tmps} {act : Act} (h : RelT F m a act.tmps) {x : Operand} {y : MOpd} (hx : od β.G x = some y) :
  Rel F m (ev a y) (act.eval x) := by
 cases x with
 | tmp t => simp only [od, Option.some.injEq] at hx; subst hx; exact h t
 | const v =>
   simp only [od] at hx
   split at hx
   ·simp only [Option.some.injEq] at hx; subst hx; exact rel_ofConst v (by assumption)
   ·cases hx
 | global g => simp only [od, Option.some.injEq] at hx; subst hx; exact hg g
 | func f =>
   simp only [od, Option.some.injEq] at hx; subst hx
   exact .clo _ [] [] #[] #[] rfl rfl (fun i hi => by simp at hi) (fun i hi => by simp at hi)
def Yields (P : Program) (o : Oper) (act : Act) (w : World) (u : Value) (w' : World) : Prop :=
 (execOp act.eval o).run P w = .ok (.value u) w' ∨ ((execOp act.eval o).run P w = .ok .skip w' ∧ u = undef)
def Sound (P : Program) (β : Base) (o : Oper) (mo : MOp) : Prop :=
 ∀ (F : Frz) (m : Pls) (S : Heap) (w : World) (a : Tmps) (act : Act) (v : AVal) (S' : Heap), Sim β F m S w → RelT F m a act.tmps → mo.run S a = .ok true v S' →
  ∃ u w' F' m', Yields P o act w u w' ∧ Ext F m F' m' ∧ Sim β F' m' S' w' ∧ Rel F' m' v u
theorem addOff_np (off : Nat) (S : Heap) (x v : AVal) (S' : Heap) : addOff off S x ≠ .panic v S' := by
 unfold addOff; split <;> simp
theorem loadR_np (b : Bool) (k : Nat) (S : Heap) (x v : AVal) (S' : Heap) : loadR b k S x ≠ .panic v S' := by
 unfold loadR; repeat' split
 all_goals simp
theorem storeR_np (b : Bool) (k : Nat) (S : Heap) (x y v : AVal) (S' : Heap) : storeR b k S x y ≠ .panic v S' := by
 unfold storeR; repeat' split
 all_goals simp
theorem binR_np (op : BinOp) (e : EqT) (S : Heap) (x y v : AVal) (S' : Heap) : binR op e x y S ≠ .panic v S' := by
 unfold binR; split
 all_goals first | simp; done | (split <;> simp)
theorem unR_np (op : UnOp) (S : Heap) (x v : AVal) (S' : Heap) : unR op x S ≠ .panic v S' := by
 unfold unR; repeat' split
 all_goals simp
theorem convR_np (c : Cv) (S : Heap) (x v : AVal) (S' : Heap) : convR c x S ≠ .panic v S' := by
 unfold convR; repeat' split
 all_goals simp
theorem slcR_np (k : Nat) (a : Tmps) (S : Heap) (x v : AVal) (lo hi mx : Option MOpd) (S' : Heap) : slcR k a S x lo hi mx ≠ .panic v S' := by
 unfold slcR; repeat' split
 all_goals simp
theorem sslcR_np (a : Tmps) (S : Heap) (x v : AVal) (lo hi : Option MOpd) (S' : Heap) : sslcR a S x lo hi ≠ .panic v S' := by
 unfold sslcR; repeat' split
 all_goals simp
theorem iaddrR_np (k : Nat) (S : Heap) (x i v : AVal) (S' : Heap) : iaddrR k S x i ≠ .panic v S' := by
 unfold iaddrR; repeat' split
 all_goals simp
theorem lookR_np (kd : KK) (z : AVal) (b : Bool) (S : Heap) (x i v : AVal) (S' : Heap) : lookR kd z b S x i ≠ .panic v S' := by
 unfold lookR; repeat' split
 all_goals simp
theorem mapEntR_np (kd : KK) (z : AVal) (S : Heap) (x i v : AVal) (S' : Heap) : mapEntR kd z S x i ≠ .panic v S' := by
 unfold mapEntR; repeat' split
 all_goals simp
theorem entStR_np (S : Heap) (x i y v : AVal) (S' : Heap) : entStR S x i y ≠ .panic v S' := by
 unfold entStR; repeat' split
 all_goals simp
theorem entryR_np (S : Heap) (x v : AVal) (S' : Heap) : entryR S x ≠ .panic v S' := by
 unfold entryR; repeat' split
 all_goals simp
theorem mapUpR_np (kd : KK) (S : Heap) (x i y v : AVal) (S' : Heap) : mapUpR kd S x i y ≠ .panic v S' := by
 unfold mapUpR; repeat' split
 all_goals simp
theorem delR_np (kd : KK) (S : Heap) (x i v : AVal) (S' : Heap) : delR kd S x i ≠ .panic v S' := by
 unfold delR; repeat' split
 all_goals simp
theorem lenR_np (S : Heap) (x v : AVal) (S' : Heap) : lenR S x ≠ .panic v S' := by
 unfold lenR; repeat' split
 all_goals simp
theorem appendR_np (k b : Nat) (S : Heap) (x y v : AVal) (S' : Heap) : appendR k b S x y ≠ .panic v S' := by
 unfold appendR; dsimp only; split
 ·simp
 ·split
  ·simp
  ·split <;> simp
  ·split <;> simp
  ·simp
theorem mkslR_np (k b : Nat) (z : List AVal) (S : Heap) (x y v : AVal) (S' : Heap) : mkslR k b z S x y ≠ .panic v S' := by
 unfold mkslR; repeat' split
 all_goals simp
theorem copyR_np (k : Nat) (S : Heap) (x y v : AVal) (S' : Heap) : copyR k S x y ≠ .panic v S' := by
 unfold copyR; dsimp only; split
 ·simp
 ·split
  ·simp
  ·split <;> simp
  ·simp
theorem clearR_np (k : Nat) (z : List AVal) (S : Heap) (x v : AVal) (S' : Heap) : clearR k z S x ≠ .panic v S' := by
 unfold clearR; repeat' split
 all_goals simp
theorem panic_only {mo : MOp} {S : Heap} {a : Tmps} {v : AVal} {S' : Heap} (h : mo.run S a = .panic v S') : ∃ x t u, mo = .panic x ∧ ev a x = .iface t u ∧ v = .iface t u ∧ S' = S := by
 cases mo <;> simp only [MOp.run] at h <;> first
  | exact absurd h (loadR_np _ _ _ _ _ _)
  | exact absurd h (storeR_np _ _ _ _ _ _ _)
  | exact absurd h (binR_np _ _ _ _ _ _ _)
  | exact absurd h (unR_np _ _ _ _ _)
  | exact absurd h (convR_np _ _ _ _ _)
  | exact absurd h (slcR_np _ _ _ _ _ _ _ _ _)
  | exact absurd h (sslcR_np _ _ _ _ _ _ _)
  | exact absurd h (iaddrR_np _ _ _ _ _ _)
  | exact absurd h (lookR_np _ _ _ _ _ _ _ _)
  | exact absurd h (mapUpR_np _ _ _ _ _ _ _)
  | exact absurd h (mapEntR_np _ _ _ _ _ _ _)
  | exact absurd h (entStR_np _ _ _ _ _ _)
  | exact absurd h (entryR_np _ _ _ _)
  | exact absurd h (delR_np _ _ _ _ _ _)
  | exact absurd h (lenR_np _ _ _ _)
  | exact absurd h (appendR_np _ _ _ _ _ _ _)
  | exact absurd h (mkslR_np _ _ _ _ _ _ _ _)
  | exact absurd h (copyR_np _ _ _ _ _ _)
  | exact absurd h (clearR_np _ _ _ _ _ _)
  | exact absurd h (addOff_np _ _ _ _ _)
  | (cases h; done)
  | skip
 case panic x =>
  split at h
  ·rename_i t u he
   simp only [ORes.panic.injEq] at h
   exact ⟨x, t, u, rfl, he, h.1.symm, h.2.symm⟩
  ·cases h
 all_goals
  exfalso
  revert h
  repeat' split
  all_goals first
   | (intro h; cases h; done)
   | (intro h; exact addOff_np _ _ _ _ _ h)
   | skip
end Go.Abs
