/- The abstract machine, part 3: operations without types, and what each does. Conditions: none; definitions. -/
import Derived.Test.YtdnpmnnidjeifaaGreatDoorA2
namespace Go.Abs
open Go Go.RowKit
abbrev Tmps := List (Nat × AVal)
def get : Tmps → Nat → AVal
 | [], _ => .top
 | (d, v) :: r, n => if d = n then v else get r n
inductive MOpd where
 | slot (n : Nat)
 | val (v : AVal)
instance (n : Nat) : OfNat MOpd n := ⟨.slot n⟩
def ev (a : Tmps) : MOpd → AVal
 | .slot n => get a n
 | .val v => v
def ofCell : Value → AVal
 | .slice none 0 0 => .list .nil []
 | .string s => .str s.data.toList
 | v => .atom v
def ofConst : Value → AVal
 | .agg cs => .agg (cs.toList.map ofCell)
 | .tuple cs => .tuple (cs.toList.map ofCell)
 | v => ofCell v
inductive NK where
 | ptr | slice | map | func | iface (safe : Bool)
inductive EqT where
 | int | str | bool
 | nilP (k : NK)            -- a pointer, map, function, slice or interface value against nil alone
 | agg (fs : List (Bool × Nat × Nat × EqT))
inductive KK where
 | str | int (k : IntKind) | bool
 deriving DecidableEq
inductive Cv where
 | toInt (k : IntKind)
 | strStr
 | intStr
 | bytesStr
 | strBytes
 | other (src dst : TypeId)
inductive MOp where
 | mv (x : MOpd)
 | pick (c x y : MOpd)
 | alloc (k : Nat) (z : List AVal)
 | box (agg : Bool) (k : Nat) (x : MOpd)
 | build (z : List AVal) (parts : List (Bool × Nat × Nat × MOpd))
 | bslice (agg : Bool) (k n : Nat) (z : List AVal) (parts : List (Nat × MOpd))
 | brow (agg : Bool) (k n : Nat) (z : List AVal) (parts : List (Nat × MOpd))
 | load (agg : Bool) (k : Nat) (x : MOpd)
 | store (agg : Bool) (k : Nat) (x y : MOpd)
 | nilck (x : MOpd)
 | bin (op : BinOp) (t : EqT) (x y : MOpd)
 | un (op : UnOp) (x : MOpd)
 | conv (c : Cv) (x : MOpd)
 | mkif (t : TypeId) (x : MOpd)
 | mkfn (fn : Fn) (first captured : List MOpd)
 | mkmap
 | mkslice (k bytes : Nat) (z : List AVal) (l c : MOpd)
 | slc (k : Nat) (x : MOpd) (lo hi mx : Option MOpd)
 | sslc (x : MOpd) (lo hi : Option MOpd)
 | faddr (off : Nat) (x : MOpd)
 | field (agg : Bool) (off k : Nat) (x : MOpd)
 | iaddr (k : Nat) (x i : MOpd)
 | iaddrA (n k : Nat) (x i : MOpd)
 | idxA (n : Nat) (agg : Bool) (k : Nat) (x i : MOpd)
 | idxS (x i : MOpd)
 | lookup (kd : KK) (z : AVal) (ok : Bool) (x i : MOpd)
 | mapUp (kd : KK) (x i y : MOpd)
 | mapEnt (kd : KK) (z : AVal) (x i : MOpd)
 | entSt (x s y : MOpd)
 | tassert (t : TypeId) (ok : Bool) (z : AVal) (x : MOpd)
 | extract (x : MOpd) (i : Nat)
 | lenS (x : MOpd)
 | lenStr (x : MOpd)
 | lenM (x : MOpd)
 | capS (x : MOpd)
 | append (k bytes : Nat) (x y : MOpd)
 | copy (k : Nat) (x y : MOpd)
 | delete (kd : KK) (x i : MOpd)
 | clearS (k : Nat) (z : List AVal) (x : MOpd)
 | mm (isMax : Bool) (x y : MOpd)
 | rangeM (x : MOpd)
 | rangeS (x : MOpd)
 | nextS (x : MOpd)
 | entry (x : MOpd)
 | panic (x : MOpd)
inductive ORes where
 | ok (side : Bool) (v : AVal) (S : Heap)
 | panic (v : AVal) (S : Heap)
 | fail
def cellsOf (agg : Bool) : AVal → Option (List AVal)
 | .agg cs => if agg then some cs else none
 | v => if agg then none else some [v]
def asI : AVal → Option Int
 | .atom (.int _ n) => some n
 | _ => none
def takeAt (agg : Bool) (k : Nat) (e : List AVal) (j : Nat) : AVal :=
 if agg then .agg (if j = 0 ∧ e.length = k then e else (e.drop j).take k) else e.getD j .top
def splice (e : List AVal) (j : Nat) (cs : List AVal) : List AVal := e.take j ++ cs ++ e.drop (j + cs.length)
def putAt (e : List AVal) (j : Nat) (cs : List AVal) : List AVal :=
 match cs with
 | [c] => e.set j c
 | _ => splice e j cs
def loadR (agg : Bool) (k : Nat) (S : Heap) : AVal → ORes
 | .ptr id i j => match S[id]? with
   | some (.cells _ es _) => .ok (decide (i < es.length) && decide (j + k ≤ (es.getD i []).length)) (takeAt agg k (es.getD i []) j) S
   | _ => .fail
 | .fptr es i j => .ok (decide (i < es.length) && decide (j + k ≤ (es.getD i []).length)) (takeAt agg k (es.getD i []) j) S
 | _ => .fail
def storeR (agg : Bool) (k : Nat) (S : Heap) (x y : AVal) : ORes :=
 match x, cellsOf agg y with
 | .ptr id i j, some cs => match S[id]? with
   | some (.cells k0 es cap) => .ok (cs.all AVal.one && decide (cs.length = k) && decide (i < es.length) && decide (j + k ≤ k0)) .undef
     (S.set id (.cells k0 (es.set i (if k = k0 then cs else putAt (es.getD i []) j cs)) cap))
   | _ => .fail
 | _, _ => .fail
def keyEq : KK → AVal → AVal → Option Bool
 | .str, .str a, .str b => some (decide (a = b))
 | .int kd, .atom (.int k a), .atom (.int k' b) => if k = kd ∧ k' = kd then some (decide (a = b)) else none
 | .bool, .atom (.bool a), .atom (.bool b) => some (a == b)
 | _, _, _ => none
def isNil : NK → AVal → Option Bool
 | .ptr, .atom (.pointer none) => some true
 | .ptr, .ptr .. | .ptr, .fptr .. => some false
 | .slice, .list .nil [] => some true
 | .slice, .list .full _ | .slice, .list .any _ => some false
 | .slice, .row _ _ (_ + 1) => some false
 | .map, .atom (.map none) => some true
 | .map, .mapv _ => some false
 | .func, .atom .nilFunc => some true
 | .func, .clo .. => some false
 | .iface _, .atom .nilIface => some true
 | .iface _, .iface .. => some false
 | _, _ => none
def eqR : Nat → EqT → AVal → AVal → Option Bool
 | 0, _, _, _ => none
 | _ + 1, .int, .atom (.int k a), .atom (.int k' b) => if k = k' then some (a == b) else none
 | _ + 1, .str, .str a, .str b => some (decide (a = b))
 | _ + 1, .bool, .atom (.bool a), .atom (.bool b) => some (a == b)
 | _ + 1, .nilP k, x, y => match isNil k x, isNil k y with
   | some true, some true => match k with
     | .iface false => none
     | _ => some true
   | some true, some false => some false
   | some false, some true => some false
   | _, _ => none
 | n + 1, .agg fs, .agg xs, .agg ys =>
   fs.foldr (fun f r => match eqR n f.2.2.2 (takeAt f.1 f.2.2.1 xs f.2.1) (takeAt f.1 f.2.2.1 ys f.2.1), r with
    | some a, some b => if f.2.1 + f.2.2.1 ≤ xs.length ∧ f.2.1 + f.2.2.1 ≤ ys.length then some (a && b) else none
    | _, _ => none) (some true)
 | _, _, _, _ => none
def bytesLt : List UInt8 → List UInt8 → Bool := Op.bytesLess
def binR (op : BinOp) (t : EqT) (x y : AVal) (S : Heap) : ORes :=
 match op, x, y with
 | .shl, .atom (.int k a), .atom (.int _ b) => .ok (decide (0 ≤ b)) (.atom (.int k (k.wrap (a * 2 ^ (min b.toNat k.bits))))) S
 | .shr, .atom (.int k a), .atom (.int _ b) => .ok (decide (0 ≤ b)) (.atom (.int k (a.fdiv (2 ^ (min b.toNat k.bits))))) S
 | .add, .atom (.int k a), .atom (.int k' b) => .ok (decide (k = k')) (.atom (.int k (k.wrap (a + b)))) S
 | .sub, .atom (.int k a), .atom (.int k' b) => .ok (decide (k = k')) (.atom (.int k (k.wrap (a - b)))) S
 | .mul, .atom (.int k a), .atom (.int k' b) => .ok (decide (k = k')) (.atom (.int k (k.wrap (a * b)))) S
 | .quo, .atom (.int k a), .atom (.int k' b) => .ok (decide (k = k' ∧ b ≠ 0)) (.atom (.int k (k.wrap (a.tdiv b)))) S
 | .rem, .atom (.int k a), .atom (.int k' b) => .ok (decide (k = k' ∧ b ≠ 0)) (.atom (.int k (a.tmod b))) S
 | .and, .atom (.int k a), .atom (.int k' b) => .ok (decide (k = k')) (.atom (.int k (k.wrap (BitVec.ofInt k.bits a &&& BitVec.ofInt k.bits b).toNat))) S
 | .or, .atom (.int k a), .atom (.int k' b) => .ok (decide (k = k')) (.atom (.int k (k.wrap (BitVec.ofInt k.bits a ||| BitVec.ofInt k.bits b).toNat))) S
 | .xor, .atom (.int k a), .atom (.int k' b) => .ok (decide (k = k')) (.atom (.int k (k.wrap (BitVec.ofInt k.bits a ^^^ BitVec.ofInt k.bits b).toNat))) S
 | .andNot, .atom (.int k a), .atom (.int k' b) => .ok (decide (k = k')) (.atom (.int k (k.wrap (BitVec.ofInt k.bits a &&& ~~~ BitVec.ofInt k.bits b).toNat))) S
 | .eql, .atom (.int k a), .atom (.int k' b) => .ok (decide (k = k')) (.bool (a == b)) S
 | .neq, .atom (.int k a), .atom (.int k' b) => .ok (decide (k = k')) (.bool (a != b)) S
 | .lss, .atom (.int k a), .atom (.int k' b) => .ok (decide (k = k')) (.bool (decide (a < b))) S
 | .leq, .atom (.int k a), .atom (.int k' b) => .ok (decide (k = k')) (.bool (decide (a ≤ b))) S
 | .gtr, .atom (.int k a), .atom (.int k' b) => .ok (decide (k = k')) (.bool (decide (a > b))) S
 | .geq, .atom (.int k a), .atom (.int k' b) => .ok (decide (k = k')) (.bool (decide (a ≥ b))) S
 | .add, .str a, .str b => .ok (decide (a.length + b.length ≤ 9223372036854775807)) (.str (a ++ b)) S
 | .eql, .str a, .str b => .ok true (.bool (decide (a = b))) S
 | .neq, .str a, .str b => .ok true (.bool (!decide (a = b))) S
 | .lss, .str a, .str b => .ok true (.bool (bytesLt a b)) S
 | .leq, .str a, .str b => .ok true (.bool (bytesLt a b || decide (a = b))) S
 | .gtr, .str a, .str b => .ok true (.bool (!(bytesLt a b || decide (a = b)))) S
 | .geq, .str a, .str b => .ok true (.bool (!bytesLt a b)) S
 | .eql, x, y => match eqR 20 t x y with
   | some b => .ok true (.bool b) S
   | none => .fail
 | .neq, x, y => match eqR 20 t x y with
   | some b => .ok true (.bool (!b)) S
   | none => .fail
 | _, _, _ => .fail
def unR (op : UnOp) (x : AVal) (S : Heap) : ORes :=
 match op, x with
 | .neg, .atom (.int k a) => .ok true (.atom (.int k (k.wrap (0 - a)))) S
 | .xor, .atom (.int k a) => .ok true (.atom (.int k (k.wrap (BitVec.ofInt k.bits (if k.signed then -1 else k.max) ^^^ BitVec.ofInt k.bits a).toNat))) S
 | .not, .atom (.bool b) => .ok true (.bool (!b)) S
 | _, _ => .fail
def byteOf : List AVal → Option UInt8
 | [.atom (.int .u8 n)] => some (UInt8.ofNat n.toNat)
 | _ => none
def bytesOf : List (List AVal) → Option (List UInt8)
 | [] => some []
 | e :: r => match byteOf e, bytesOf r with
   | some b, some l => some (b :: l)
   | _, _ => none
def u8 (b : UInt8) : List AVal := [.atom (.int .u8 b.toNat)]
def elemsOf (S : Heap) : AVal → Option (Bool × List (List AVal))
 | .list _ es => some (true, es)
 | .row id off len => match S[id]? with
   | some (.cells _ es _) => some (decide (off + len ≤ es.length), (es.drop off).take len)
   | _ => none
 | _ => none
def convR (c : Cv) (x : AVal) (S : Heap) : ORes :=
 match c, x with
 | .toInt k, .atom (.int _ n) => .ok true (.atom (.int k (k.wrap n))) S
 | .strStr, .str l => .ok true (.str l) S
 | .intStr, .atom (.int _ n) => .ok true (.str (Utf8.encode n).data.toList) S
 | .bytesStr, x => match elemsOf S x with
   | some (side, es) => match bytesOf es with
     | some l => .ok side (.str l) S
     | none => .fail
   | none => .fail
 | .strBytes, .str l => .ok true (.row S.length 0 l.length) (S ++ [.cells 1 (l.map u8) none])
 | _, _ => .fail
def bound (d : Nat) (a : Tmps) : Option MOpd → Option Nat
 | none => some d
 | some x => match ev a x with
   | .atom (.int _ n) => if 0 ≤ n then some n.toNat else none
   | _ => none
def slcR (k : Nat) (a : Tmps) (S : Heap) (x : AVal) (lo hi mx : Option MOpd) : ORes :=
 match x with
 | .list .nil _ => match bound 0 a lo, bound 0 a hi, bound 0 a mx with
   | some l, some h, some m => .ok (decide (l = 0) && decide (h = 0) && decide (m = 0)) (.list .nil []) S
   | _, _, _ => .fail
 | .list fl es => match bound 0 a lo, bound es.length a hi, mx with
   | some l, some h, none => .ok (decide (l ≤ h) && decide (h ≤ es.length) && (decide (l = h) || decide ((es.getD l []).length = k)))
     (.list (fl.with (decide (h = es.length) && fl.isFull)) ((es.take h).drop l)) S
   | some l, some h, some _ => match bound 0 a mx with
     | some m => .ok (decide (l ≤ h) && decide (h ≤ m) && decide (m ≤ es.length) && (decide (l = h) || decide ((es.getD l []).length = k)))
       (.list (fl.with (decide (m = h))) ((es.take h).drop l)) S
     | none => .fail
   | _, _, _ => .fail
 | .row id off len => match S[id]? with
   | some (.cells k0 es _) => match bound 0 a lo, bound len a hi, mx with
     | some l, some h, none => .ok (decide (k0 = k) && decide (l ≤ h) && decide (off + h ≤ es.length)) (.row id (off + l) (h - l)) S
     | some l, some h, some _ => match bound 0 a mx with
       | some q => .ok (decide (l ≤ h) && decide (h ≤ q) && decide (q = l) && decide (off + q ≤ es.length)) (.list .fulu []) S
       | none => .fail
     | _, _, _ => .fail
   | _ => .fail
 | _ => .fail
def sslcR (a : Tmps) (S : Heap) (x : AVal) (lo hi : Option MOpd) : ORes :=
 match x with
 | .str s => match bound 0 a lo, bound s.length a hi with
   | some l, some h => .ok (decide (l ≤ h) && decide (h ≤ s.length)) (.str ((s.take h).drop l)) S
   | _, _ => .fail
 | _ => .fail
def iaddrR (k : Nat) (S : Heap) (x i : AVal) : ORes :=
 match x, asI i with
 | .list _ es, some n => .ok (decide (0 ≤ n ∧ n < es.length) && decide ((es.getD n.toNat []).length = k)) (.fptr es n.toNat 0) S
 | .row id off len, some n => match S[id]? with
   | some (.cells k0 _ _) => .ok (decide (0 ≤ n ∧ n < len) && decide (k0 = k)) (.ptr id (off + n.toNat) 0) S
   | _ => .fail
 | _, _ => .fail
def addOff (off : Nat) (S : Heap) : AVal → ORes
 | .ptr id i j => .ok true (.ptr id i (j + off)) S
 | .fptr es i j => .ok true (.fptr es i (j + off)) S
 | _ => .fail
def findE (kd : KK) (k : AVal) : List AEnt → Option (Option AEnt)
 | [] => some none
 | e :: r => match keyEq kd k e.key with
   | some true => some (some e)
   | some false => findE kd k r
   | none => none
def setE (kd : KK) (k v : AVal) : List AEnt → List AEnt
 | [] => []
 | e :: r => match keyEq kd k e.key with
   | some true => { e with val := v } :: r
   | _ => e :: setE kd k v r
def delE (kd : KK) (k : AVal) : List AEnt → List AEnt
 | [] => []
 | e :: r => match keyEq kd k e.key with
   | some true => r
   | _ => e :: delE kd k r
def stE (n : Int) (v : AVal) : List AEnt → Option (List AEnt)
 | [] => none
 | e :: r => if (e.born : Int) = n then some ({ e with val := v } :: r) else match stE n v r with
   | some r' => some (e :: r')
   | none => none
def lookR (kd : KK) (z : AVal) (ok : Bool) (S : Heap) (x i : AVal) : ORes :=
 match x with
 | .atom (.map none) => .ok true (if ok then .tuple [z, .bool false] else z) S
 | .mapv id => match S[id]? with
   | some (.map kvs _) => match findE kd i kvs with
     | some (some e) => .ok true (if ok then .tuple [e.val, .bool true] else e.val) S
     | some none => .ok true (if ok then .tuple [z, .bool false] else z) S
     | none => .fail
   | _ => .fail
 | _ => .fail
def mapUpR (kd : KK) (S : Heap) (x i y : AVal) : ORes :=
 match x with
 | .mapv id => match S[id]? with
   | some (.map kvs c) => match findE kd i kvs with
     | some (some _) => .ok true .undef (S.set id (.map (setE kd i y kvs) c))
     | some none => .ok true .undef (S.set id (.map (kvs ++ [⟨i, y, c⟩]) (c + 1)))
     | none => .fail
   | _ => .fail
 | _ => .fail
def mapEntR (kd : KK) (z : AVal) (S : Heap) (x i : AVal) : ORes :=
 match x with
 | .mapv id => match S[id]? with
   | some (.map kvs c) => match findE kd i kvs with
     | some (some e) => .ok true (.tuple [e.val, .int e.born]) S
     | some none => .ok true (.tuple [z, .int c]) (S.set id (.map (kvs ++ [⟨i, z, c⟩]) (c + 1)))
     | none => .fail
   | _ => .fail
 | _ => .fail
def entStR (S : Heap) (x s y : AVal) : ORes :=
 match x, s with
 | .mapv id, .atom (.int _ n) => match S[id]? with
   | some (.map kvs c) => match stE n y kvs with
     | some kvs' => .ok true .undef (S.set id (.map kvs' c))
     | none => .fail
   | _ => .fail
 | _, _ => .fail
def delR (kd : KK) (S : Heap) (x i : AVal) : ORes :=
 match x with
 | .atom (.map none) => .ok true (.tuple []) S
 | .mapv id => match S[id]? with
   | some (.map kvs c) => match findE kd i kvs with
     | some _ => .ok true (.tuple []) (S.set id (.map (delE kd i kvs) c))
     | none => .fail
   | _ => .fail
 | _ => .fail
def entryR (S : Heap) (x : AVal) : ORes :=
 match x with
 | .itr id => match S[id]? with
   | some (.mapIter (some mid) _ seen stepped) => match S[mid]? with
     | some (.map kvs c) => match seen.getLast? with
       | some b => match kvs.find? (fun e => e.born == b) with
         | some e => .ok (decide (c = stepped)) (.tuple [e.key, e.val]) S
         | none => .fail
       | none => .fail
     | _ => .fail
   | _ => .fail
 | _ => .fail
def nextM (S : Heap) (x : AVal) : Option (List (AVal × Heap)) :=
 match x with
 | .itr id => match S[id]? with
   | some (.mapIter none _ _ _) => some [(.tuple [.bool false], S)]
   | some (.mapIter (some mid) since seen last) => match S[mid]? with
     | some (.map kvs c) =>
       if kvs.all (fun e => decide (e.born < since)) && decide (since ≤ last) then
        match kvs.filter fun e => !seen.contains e.born with
        | [] => some [(.tuple [.bool false], S)]
        | left => some (left.map fun e => (.tuple [.bool true, e.key, e.val], S.set id (.mapIter (some mid) since (seen ++ [e.born]) c)))
       else none
     | _ => none
   | _ => none
 | _ => none
def lenR (S : Heap) : AVal → ORes
 | .list _ es => .ok true (.int es.length) S
 | .row _ _ len => .ok true (.int len) S
 | _ => .fail
def srcOf (S : Heap) : AVal → Option (Bool × List (List AVal))
 | .str l => some (true, l.map u8)
 | y => elemsOf S y
def appendR (k bytes : Nat) (S : Heap) (x y : AVal) : ORes :=
 match srcOf S y with
 | none => .fail
 | some (s2, ys) =>
   let side (n : Nat) := s2 && decide (∀ e ∈ ys, e.length = k) && decide (0 < k) && decide ((n + ys.length) * bytes ≤ 140737488355328) && decide (n + ys.length ≤ 4611686018427387903)
   match x with
   | .list fl [] => .ok (side 0 && (decide (fl = .nil) || fl.isFull)) (.row S.length 0 ys.length) (S ++ [.cells k ys none])
   | .list fl es => if ys = [] then .ok (side es.length && decide (∀ e ∈ es, e.length = k) && fl.isFull) (.list fl es) S
     else .ok (side es.length && decide (∀ e ∈ es, e.length = k) && fl.isFull) (.row S.length 0 (es.length + ys.length)) (S ++ [.cells k (es ++ ys) none])
   | .row id off len => match S[id]? with
     | some (.cells k0 es _) => .ok (side len && decide (k0 = k) && decide (off + len ≤ es.length)) (.row S.length 0 (len + ys.length))
       (S.set id .dead ++ [.cells k ((es.drop off).take len ++ ys) none])
     | _ => .fail
   | _ => .fail
def mkslR (k bytes : Nat) (z : List AVal) (S : Heap) (l c : AVal) : ORes :=
 match l, c with
 | .atom (.int _ n), .atom (.int _ m) => .ok (decide (0 ≤ n ∧ n ≤ m ∧ m * bytes ≤ 140737488355328 ∧ m ≤ 4611686018427387903) && decide (z.length = k) && decide (0 < k)) (.row S.length 0 n.toNat)
   (S ++ [.cells k (List.replicate m.toNat z) (some m.toNat)])
 | _, _ => .fail
def copyR (k : Nat) (S : Heap) (x y : AVal) : ORes :=
 match srcOf S y with
 | none => .fail
 | some (s2, ys) => match x with
   | .list _ [] => .ok s2 (.int 0) S
   | .row id off len => match S[id]? with
     | some (.cells k0 es cap) =>
       let n := min ys.length len
       .ok (s2 && decide (k0 = k) && decide (∀ e ∈ ys, e.length = k) && decide (off + len ≤ es.length) && decide (∀ e ∈ ys, e.all AVal.one = true)) (.int n) (S.set id (.cells k0 (es.take off ++ ys.take n ++ es.drop (off + n)) cap))
     | _ => .fail
   | _ => .fail
def clearR (k : Nat) (z : List AVal) (S : Heap) : AVal → ORes
 | .list _ [] => .ok true (.tuple []) S
 | .row id off len => match S[id]? with
   | some (.cells k0 es cap) => .ok (decide (k0 = k) && decide (z.length = k) && z.all AVal.one && decide (off + len ≤ es.length)) (.tuple []) (S.set id (.cells k0 (es.take off ++ List.replicate len z ++ es.drop (off + len)) cap))
   | _ => .fail
 | _ => .fail
def fillR (cs : List AVal) (a : Tmps) : List (Bool × Nat × Nat × MOpd) → Option (Bool × List AVal)
 | [] => some (true, cs)
 | (agg, off, k, x) :: r => match cellsOf agg (ev a x) with
   | some vs => match fillR (putAt cs off vs) a r with
     | some (s, out) => some (s && decide (vs.length = k) && vs.all AVal.one && decide (off + k ≤ cs.length), out)
     | none => none
   | none => none
def fillS (agg : Bool) (k : Nat) (es : List (List AVal)) (a : Tmps) : List (Nat × MOpd) → Option (Bool × List (List AVal))
 | [] => some (true, es)
 | (i, x) :: r => match cellsOf agg (ev a x) with
   | some vs => match fillS agg k (es.set i vs) a r with
     | some (s, out) => some (s && decide (vs.length = k) && vs.all AVal.one && decide (i < es.length), out)
     | none => none
   | none => none
def MOp.run (S : Heap) (a : Tmps) : MOp → ORes
 | .mv x => .ok true (ev a x) S
 | .pick c x y => match ev a c with
   | .atom (.bool b) => .ok true (if b then ev a x else ev a y) S
   | _ => .fail
 | .alloc k z => .ok (decide (z.length = k) && decide (0 < k) && z.all AVal.one) (.ptr S.length 0 0) (S ++ [.cells k [z] (some 1)])
 | .box agg k x => match cellsOf agg (ev a x) with
   | some cs => .ok (decide (cs.length = k) && decide (0 < k) && cs.all AVal.one) (.ptr S.length 0 0) (S ++ [.cells k [cs] (some 1)])
   | none => .fail
 | .build z parts => match fillR z a parts with
   | some (s, cs) => .ok (s && z.all AVal.one) (.agg cs) S
   | none => .fail
 | .bslice agg k n z parts => match fillS agg k (List.replicate n z) a parts with
   | some (s, es) => .ok (s && decide (z.length = k) && decide (0 < k) && z.all AVal.one && decide (n * k ≤ 16777216)) (.list .full es) S
   | none => .fail
 | .brow agg k n z parts => match fillS agg k (List.replicate n z) a parts with
   | some (s, es) => .ok (s && decide (z.length = k) && decide (0 < k) && z.all AVal.one && decide (n * k ≤ 16777216)) (.row S.length 0 n) (S ++ [.cells k es (some n)])
   | none => .fail
 | .load agg k x => loadR agg k S (ev a x)
 | .store agg k x y => storeR agg k S (ev a x) (ev a y)
 | .nilck x => match ev a x with
   | .ptr id i j => .ok true (.ptr id i j) S
   | .fptr es i j => .ok true (.fptr es i j) S
   | .clo (.func f) f1 c1 => .ok true (.clo (.func f) f1 c1) S
   | .iface t v => .ok true (.iface t v) S
   | _ => .fail
 | .bin op t x y => binR op t (ev a x) (ev a y) S
 | .un op x => unR op (ev a x) S
 | .conv c x => convR c (ev a x) S
 | .mkif t x => .ok true (.iface t (ev a x)) S
 | .mkfn fn f c => .ok true (.clo fn (f.map (ev a)) (c.map (ev a))) S
 | .mkmap => .ok true (.mapv S.length) (S ++ [.map [] 0])
 | .mkslice k bytes z l c => mkslR k bytes z S (ev a l) (ev a c)
 | .slc k x lo hi mx => slcR k a S (ev a x) lo hi mx
 | .sslc x lo hi => sslcR a S (ev a x) lo hi
 | .faddr off x => addOff off S (ev a x)
 | .field agg off k x => match ev a x with
   | .agg cs => .ok (decide (off + k ≤ cs.length)) (takeAt agg k cs off) S
   | _ => .fail
 | .iaddr k x i => iaddrR k S (ev a x) (ev a i)
 | .iaddrA n k x i => match asI (ev a i) with
   | some q => match addOff (q.toNat * k) S (ev a x) with
     | .ok s v S' => .ok (s && decide (0 ≤ q ∧ q < n)) v S'
     | r => r
   | none => .fail
 | .idxA n agg k x i => match ev a x, asI (ev a i) with
   | .agg cs, some q => .ok (decide (0 ≤ q ∧ q < n) && decide (q.toNat * k + k ≤ cs.length)) (takeAt agg k cs (q.toNat * k)) S
   | _, _ => .fail
 | .idxS x i => match ev a x, asI (ev a i) with
   | .str l, some q => .ok (decide (0 ≤ q ∧ q < l.length)) (.atom (.int .u8 (l.getD q.toNat 0).toNat)) S
   | _, _ => .fail
 | .lookup kd z ok x i => lookR kd z ok S (ev a x) (ev a i)
 | .mapUp kd x i y => mapUpR kd S (ev a x) (ev a i) (ev a y)
 | .mapEnt kd z x i => mapEntR kd z S (ev a x) (ev a i)
 | .entSt x s y => entStR S (ev a x) (ev a s) (ev a y)
 | .tassert t ok z x => match ev a x with
   | .iface u v => if ok then .ok true (if u = t then .tuple [v, .bool true] else .tuple [z, .bool false]) S else .ok (decide (u = t)) v S
   | .atom .nilIface => .ok ok (.tuple [z, .bool false]) S
   | _ => .fail
 | .extract x i => match ev a x with
   | .tuple vs => .ok (decide (i < vs.length)) (vs.getD i .top) S
   | _ => .fail
 | .lenS x => lenR S (ev a x)
 | .lenStr x => match ev a x with
   | .str l => .ok true (.int l.length) S
   | _ => .fail
 | .lenM x => match ev a x with
   | .atom (.map none) => .ok true (.int 0) S
   | .mapv id => match S[id]? with
     | some (.map kvs _) => .ok true (.int kvs.length) S
     | _ => .fail
   | _ => .fail
 | .capS x => match ev a x with
   | .list .nil _ => .ok true (.int 0) S
   | .list fl es => .ok fl.isFull (.int es.length) S
   | .row id off _ => match S[id]? with
     | some (.cells _ _ (some c)) => .ok true (.int ((c - off : Nat) : Int)) S
     | _ => .fail
   | _ => .fail
 | .append k bytes x y => appendR k bytes S (ev a x) (ev a y)
 | .copy k x y => copyR k S (ev a x) (ev a y)
 | .delete kd x i => delR kd S (ev a x) (ev a i)
 | .clearS k z x => clearR k z S (ev a x)
 | .mm mx x y => match ev a x, ev a y with
   | .atom (.int k p), .atom (.int _ q) => .ok true (.atom (.int k (if mx then (if q > p then q else p) else (if q < p then q else p)))) S
   | _, _ => .fail
 | .rangeM x => match ev a x with
   | .atom (.map none) => .ok true (.itr S.length) (S ++ [.mapIter none 0 [] 0])
   | .mapv id => match S[id]? with
     | some (.map _ c) => .ok true (.itr S.length) (S ++ [.mapIter (some id) c [] c])
     | _ => .fail
   | _ => .fail
 | .rangeS x => match ev a x with
   | .str l => .ok true (.itr S.length) (S ++ [.strIter ⟨l.toArray⟩ 0])
   | _ => .fail
 | .nextS x => match ev a x with
   | .itr id => match S[id]? with
     | some (.strIter s pos) => .ok true (if pos < s.size then .tuple [.bool true, .int pos, .atom (.int .i32 (Utf8.decode s pos).1)] else .tuple [.bool false])
       (if pos < s.size then S.set id (.strIter s (pos + (Utf8.decode s pos).2)) else S)
     | _ => .fail
   | _ => .fail
 | .entry x => entryR S (ev a x)
 | .panic x => match ev a x with
   | .iface t v => .panic (.iface t v) S
   | _ => .fail
end Go.Abs
