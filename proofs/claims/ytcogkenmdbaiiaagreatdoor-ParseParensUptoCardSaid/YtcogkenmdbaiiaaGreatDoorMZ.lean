/- The plain law of the parser. Conditions: none; definitions and lemmas. -/
import Derived.Test.YtcogkenmdbaiiaaGreatDoorML
namespace Go.Pz
open Go.Lx (Bs Tok)

inductive Ex where
  | mk (op : Int) (args : List Ex) (kind num scale : Int) (text qual : Bs)
  deriving Inhabited
def Ex.zero : Ex := .mk 0 [] 0 0 0 [] []
abbrev Ex.un (op : Int) (x : Ex) : Ex := .mk op [x] 0 0 0 [] []
abbrev Ex.bin (op : Int) (x y : Ex) : Ex := .mk op [x, y] 0 0 0 [] []
abbrev Ex.const (kind num scale : Int) (text : Bs) : Ex := .mk 21 [] kind num scale text []
abbrev Ex.col (text qual : Bs) : Ex := .mk 22 [] 0 0 0 text qual
mutual
def Ex.depth : Ex → Nat
  | .mk _ args _ _ _ _ _ => depthL args
def depthL : List Ex → Nat
  | [] => 0
  | x :: r => max (x.depth + 1) (depthL r)
end

mutual
/-- The operands in it, and theirs. -/
def Ex.w : Ex → Nat
  | .mk _ args _ _ _ _ _ => wL args
def wL : List Ex → Nat
  | [] => 0
  | x :: r => x.w + 1 + wL r
end

structure Col where
  name : Bs
  type : Int
  req : Bool
  deriving DecidableEq, Inhabited
structure Itm where
  e : Ex
  name : Bs
  deriving Inhabited
structure Src where
  table : Bs
  alias : Bs
  on : Ex
  deriving Inhabited
structure Srt where
  e : Ex
  desc : Bool
  deriving Inhabited
structure Asn where
  col : Bs
  e : Ex
  deriving Inhabited
structure Stm where
  kind : Int := 0
  table : Bs := []
  index : Bs := []
  cols : List Col := []
  names : List Bs := []
  uniq : Bool := false
  rows : List (List Ex) := []
  items : List Itm := []
  src : List Src := []
  wher : Ex := .zero
  order : List Srt := []
  sets : List Asn := []
  deriving Inhabited

/-! ### Tokens -/
abbrev Res (α : Type) := Except Int (α × List Tok)
def isT (k : Int) (s : Bs) : List Tok → Bool
  | [] => false
  | t :: _ => decide (t.kind = k ∧ t.text = s)
def skip (k : Int) (s : Bs) (l : List Tok) : Option (List Tok) := if isT k s l then some l.tail else none
def need (k : Int) (s : Bs) (l : List Tok) : Except Int (List Tok) := if isT k s l then .ok l.tail else .error 130
def nameR (resv : List Bs) : List Tok → Res Bs
  | [] => .error 130
  | t :: r => if t.kind = 1 ∧ t.text ∉ resv then .ok (t.text, r) else .error 130

/-! ### Expressions -/
def chainF (f : List Tok → Res Ex) (o : List Tok → Option (Int × List Tok)) : Nat → Ex → List Tok → Res Ex
  | 0, e, l => .ok (e, l)
  | n + 1, e, l => match o l with
    | none => .ok (e, l)
    | some (op, l1) => match f l1 with
      | .error c => .error c
      | .ok (x, l2) => chainF f o n (.bin op e x) l2
def chain (f : List Tok → Res Ex) (o : List Tok → Option (Int × List Tok)) (l : List Tok) : Res Ex :=
  match f l with
  | .error c => .error c
  | .ok (e, l1) => chainF f o (l1.length + 1) e l1
def stripN (k : Int) (s : Bs) : List Tok → Nat
  | [] => 0
  | t :: r => if t.kind = k ∧ t.text = s then stripN k s r + 1 else 0
def wrap (op : Int) : Nat → Ex → Ex
  | 0, e => e
  | n + 1, e => wrap op n (.un op e)
def aheadP (op : Int) (k : Int) (s : Bs) (f : List Tok → Res Ex) (l : List Tok) : Res Ex :=
  match f (l.drop (stripN k s l)) with
  | .error c => .error c
  | .ok (e, l') => .ok (wrap op (stripN k s l) e, l')
def operS : List Bs → Int → List Tok → Option (Int × List Tok)
  | [], _, _ => none
  | s :: r, k, l => if isT 5 s l then some (k, l.tail) else operS r (k + 1) l
def opOr (l : List Tok) : Option (Int × List Tok) := if isT 1 [111, 114] l then some (18, l.tail) else none
def opAnd (l : List Tok) : Option (Int × List Tok) := if isT 1 [97, 110, 100] l then some (17, l.tail) else none
def opSum (l : List Tok) : Option (Int × List Tok) := if isT 5 [124, 124] l then some (12, l.tail) else operS [[43], [45]] 7 l
def opMul (l : List Tok) : Option (Int × List Tok) := operS [[42], [47], [37]] 9 l
def opTest (l : List Tok) : Option (Int × List Tok) := operS [[61], [60, 62], [60], [60, 61], [62], [62, 61]] 1 l

section
variable (resv : List Bs) (E : Nat → List Tok → Res Ex) (k : Nat)
def inner (l : List Tok) : Res Ex :=
  if isT 5 [40] l = true ∧ k = 40 then .error 5
  else if isT 5 [40] l then
    match E (k + 1) l.tail with
    | .error c => .error c
    | .ok (x, l2) => if isT 5 [41] l2 then .ok (x, l2.tail) else .error 130
  else .error 130
def named (w : Bs) (l : List Tok) : Res Ex :=
  if w = [110, 117, 108, 108] then .ok (.const 0 0 0 [], l.tail)
  else if w = [116, 114, 117, 101] then .ok (.const 1 1 0 [], l.tail)
  else if w = [102, 97, 108, 115, 101] then .ok (.const 1 0 0 [], l.tail)
  else if w = [110, 97, 110] then .ok (.const 3 0 (-1) [], l.tail)
  else if w = [105, 110, 102, 105, 110, 105, 116, 121] then .ok (.const 3 0 (-2) [], l.tail)
  else if w = [105, 110, 116] ∨ w = [114, 101, 97, 108] then
    match inner E k l.tail with
    | .error c => .error c
    | .ok (x, l') => .ok (.un (if w = [114, 101, 97, 108] then 15 else 14) x, l')
  else match nameR resv l with
    | .error c => .error c
    | .ok (n, l1) => if isT 5 [46] l1 then
        match nameR resv l1.tail with
        | .error c => .error c
        | .ok (m, l2) => .ok (.col m n, l2)
      else .ok (.col n [], l1)
def oneP (l : List Tok) : Res Ex :=
  match l with
  | [] => .error 130
  | t :: r =>
    if t.kind = 2 ∨ t.kind = 3 then .ok (.const t.kind t.num t.scale [], r)
    else if t.kind = 4 then .ok (.const 4 t.num t.scale t.text, r)
    else if t.kind = 1 then named resv E k t.text (t :: r)
    else inner E k (t :: r)
def minusP (l : List Tok) : Res Ex := aheadP 13 5 [45] (oneP resv E k) l
def termP (l : List Tok) : Res Ex := chain (minusP resv E k) opMul l
def sumP (l : List Tok) : Res Ex := chain (termP resv E k) opSum l
def testP (l : List Tok) : Res Ex :=
  match sumP resv E k l with
  | .error c => .error c
  | .ok (e, l1) => match opTest l1 with
    | some (op, l2) => match sumP resv E k l2 with
      | .error c => .error c
      | .ok (x, l3) => .ok (.bin op e x, l3)
    | none => if isT 1 [105, 115] l1 then
        if isT 1 [110, 111, 116] l1.tail then (if isT 1 [110, 117, 108, 108] l1.tail.tail then .ok (.un 20 e, l1.tail.tail.tail) else .error 130)
        else if isT 1 [110, 117, 108, 108] l1.tail then .ok (.un 19 e, l1.tail.tail) else .error 130
      else .ok (e, l1)
def notP (l : List Tok) : Res Ex := aheadP 16 1 [110, 111, 116] (testP resv E k) l
def bothP (l : List Tok) : Res Ex := chain (notP resv E k) opAnd l
def eitherP (l : List Tok) : Res Ex := chain (bothP resv E k) opOr l
end
def either (resv : List Bs) : Nat → Nat → List Tok → Res Ex
  | 0, _, _ => .error 130
  | n + 1, k, l => eitherP resv (either resv n) k l

/-! ### Statements -/
structure Sta where
  l : List Tok
  d : Nat
abbrev ResS (α : Type) := Except Int (α × Sta)
def bindS {α β : Type} (x : ResS α) (f : α → Sta → ResS β) : ResS β :=
  match x with
  | .error c => .error c
  | .ok (a, s) => f a s
def thenS {β : Type} (x : Except Int Sta) (f : Sta → ResS β) : ResS β :=
  match x with
  | .error c => .error c
  | .ok s => f s
@[simp] theorem bindS_error {α β : Type} (c : Int) (f : α → Sta → ResS β) : bindS (.error c) f = .error c := (rfl)
@[simp] theorem bindS_ok {α β : Type} (a : α) (s : Sta) (f : α → Sta → ResS β) : bindS (.ok (a, s)) f = f a s := (rfl)
@[simp] theorem thenS_error {β : Type} (c : Int) (f : Sta → ResS β) : thenS (.error c) f = .error c := (rfl)
@[simp] theorem thenS_ok {β : Type} (s : Sta) (f : Sta → ResS β) : thenS (.ok s) f = f s := (rfl)
section
variable (resv : List Bs) (N : Nat)
def whole (s : Sta) : ResS Ex :=
  match either resv N 0 s.l with
  | .error c => .error c
  | .ok (x, l') => .ok (x, ⟨l', max s.d x.depth⟩)
def nameS (s : Sta) : ResS Bs :=
  match nameR resv s.l with
  | .error c => .error c
  | .ok (x, l') => .ok (x, ⟨l', s.d⟩)
def needS (k : Int) (w : Bs) (s : Sta) : Except Int Sta := if isT k w s.l then .ok ⟨s.l.tail, s.d⟩ else .error 130
/-- A list with commas: the n-th element comes; f more may. -/
def listF {α : Type} (step : α → Sta → ResS α) : Nat → α → Sta → ResS α
  | 0, a, s => step a s
  | f + 1, a, s => match step a s with
    | .error c => .error c
    | .ok (a', s') => if isT 5 [44] s'.l then (if f = 0 then .error 151 else listF step f a' ⟨s'.l.tail, s'.d⟩) else .ok (a', s')
def aliasS (s : Sta) : ResS Bs := if isT 1 [97, 115] s.l then nameS resv ⟨s.l.tail, s.d⟩ else .ok ([], s)
def whereS (s : Sta) : ResS Ex := if isT 1 [119, 104, 101, 114, 101] s.l then whole resv N ⟨s.l.tail, s.d⟩ else .ok (.zero, s)
def typeS (s : Sta) : ResS Int :=
  if isT 1 [105, 110, 116] s.l then .ok (2, ⟨s.l.tail, s.d⟩)
  else if isT 1 [114, 101, 97, 108] s.l then .ok (3, ⟨s.l.tail, s.d⟩)
  else if isT 1 [98, 111, 111, 108] s.l then .ok (1, ⟨s.l.tail, s.d⟩)
  else if isT 1 [116, 101, 120, 116] s.l then .ok (4, ⟨s.l.tail, s.d⟩)
  else .error 130
def columnS (s : Sta) : ResS Col :=
  bindS (nameS resv s) fun n s =>
  bindS (typeS s) fun t s =>
  if isT 1 [110, 111, 116] s.l then
    thenS (needS 1 [110, 117, 108, 108] ⟨s.l.tail, s.d⟩) fun s =>
    .ok (⟨n, t, true⟩, s)
  else .ok (⟨n, t, false⟩, s)
def createS (s : Sta) : ResS Stm :=
  if isT 1 [116, 97, 98, 108, 101] s.l then
    bindS (nameS resv ⟨s.l.tail, s.d⟩) fun n s =>
    thenS (needS 5 [40] s) fun s =>
    bindS (listF (fun cs s => bindS (columnS resv s) fun c s => .ok (cs ++ [c], s)) 16 [] s) fun cs s =>
    thenS (needS 5 [41] s) fun s =>
    .ok ({ kind := 1, table := n, cols := cs }, s)
  else
    let u := isT 1 [117, 110, 105, 113, 117, 101] s.l
    thenS (needS 1 [105, 110, 100, 101, 120] (if u then ⟨s.l.tail, s.d⟩ else s)) fun s =>
    bindS (nameS resv s) fun i s =>
    thenS (needS 1 [111, 110] s) fun s =>
    bindS (nameS resv s) fun n s =>
    thenS (needS 5 [40] s) fun s =>
    bindS (listF (fun ns s => bindS (nameS resv s) fun c s => .ok (ns ++ [c], s)) 4 [] s) fun ns s =>
    thenS (needS 5 [41] s) fun s =>
    .ok ({ kind := 3, uniq := u, index := i, table := n, names := ns }, s)
def dropS (s : Sta) : ResS Stm :=
  if isT 1 [116, 97, 98, 108, 101] s.l then
    bindS (nameS resv ⟨s.l.tail, s.d⟩) fun n s =>
    .ok ({ kind := 2, table := n }, s)
  else
    thenS (needS 1 [105, 110, 100, 101, 120] s) fun s =>
    bindS (nameS resv s) fun n s =>
    .ok ({ kind := 4, index := n }, s)
def exprsS (xs : List Ex) (s : Sta) : ResS (List Ex) :=
  bindS (whole resv N s) fun x s =>
  .ok (xs ++ [x], s)
def rowS (rows : List (List Ex)) (s : Sta) : ResS (List (List Ex)) :=
  thenS (needS 5 [40] s) fun s =>
  bindS (listF (exprsS resv N) 50 [] s) fun xs s =>
  thenS (needS 5 [41] s) fun s =>
  .ok (rows ++ [xs], s)
def insertS (s : Sta) : ResS Stm :=
  thenS (needS 1 [105, 110, 116, 111] s) fun s =>
  bindS (nameS resv s) fun n s =>
  thenS (needS 1 [118, 97, 108, 117, 101, 115] s) fun s =>
  bindS (listF (rowS resv N) 50 [] s) fun rs s =>
  .ok ({ kind := 5, table := n, rows := rs }, s)
def itemS (xs : List Itm) (s : Sta) : ResS (List Itm) :=
  bindS (whole resv N s) fun x s =>
  bindS (aliasS resv s) fun n s =>
  .ok (xs ++ [⟨x, n⟩], s)
def sourceS (s : Sta) : ResS Src :=
  bindS (nameS resv s) fun n s =>
  bindS (aliasS resv s) fun a s =>
  .ok (⟨n, a, .zero⟩, s)
/-- Joins: f more sources may come. -/
def joinsS : Nat → List Src → Sta → ResS (List Src)
  | f, xs, s => if isT 1 [105, 110, 110, 101, 114] s.l || isT 1 [106, 111, 105, 110] s.l then
      match f with
      | 0 => .error 151
      | f + 1 =>
        thenS (needS 1 [106, 111, 105, 110] (if isT 1 [105, 110, 110, 101, 114] s.l then ⟨s.l.tail, s.d⟩ else s)) fun s =>
        bindS (sourceS resv s) fun x s =>
        thenS (needS 1 [111, 110] s) fun s =>
        bindS (whole resv N s) fun o s =>
        joinsS f (xs ++ [⟨x.table, x.alias, o⟩]) s
    else .ok (xs, s)
def sortS (xs : List Srt) (s : Sta) : ResS (List Srt) :=
  bindS (whole resv N s) fun x s =>
  let d := isT 1 [100, 101, 115, 99] s.l
  .ok (xs ++ [⟨x, d⟩], if d then ⟨s.l.tail, s.d⟩ else s)
def orderS (s : Sta) : ResS (List Srt) :=
  if isT 1 [111, 114, 100, 101, 114] s.l then
    thenS (needS 1 [98, 121] ⟨s.l.tail, s.d⟩) fun s =>
    listF (sortS resv N) 50 [] s
  else .ok ([], s)
def itemsS (s : Sta) : ResS (List Itm) := if isT 5 [42] s.l then .ok ([], ⟨s.l.tail, s.d⟩) else listF (itemS resv N) 50 [] s
def queryS (s : Sta) : ResS Stm :=
  bindS (itemsS resv N s) fun is s =>
  thenS (needS 1 [102, 114, 111, 109] s) fun s =>
  bindS (sourceS resv s) fun x s =>
  bindS (joinsS resv N 3 [x] s) fun fs s =>
  bindS (whereS resv N s) fun w s =>
  bindS (orderS resv N s) fun os s =>
  .ok ({ kind := 6, items := is, src := fs, wher := w, order := os }, s)
def setS (xs : List Asn) (s : Sta) : ResS (List Asn) :=
  bindS (nameS resv s) fun n s =>
  thenS (needS 5 [61] s) fun s =>
  bindS (whole resv N s) fun x s =>
  .ok (xs ++ [⟨n, x⟩], s)
def updateS (s : Sta) : ResS Stm :=
  bindS (nameS resv s) fun n s =>
  thenS (needS 1 [115, 101, 116] s) fun s =>
  bindS (listF (setS resv N) 50 [] s) fun zs s =>
  bindS (whereS resv N s) fun w s =>
  .ok ({ kind := 7, table := n, sets := zs, wher := w }, s)
def deleteS (s : Sta) : ResS Stm :=
  thenS (needS 1 [102, 114, 111, 109] s) fun s =>
  bindS (nameS resv s) fun n s =>
  bindS (whereS resv N s) fun w s =>
  .ok ({ kind := 8, table := n, wher := w }, s)
def stmtS (s : Sta) : ResS Stm :=
  if isT 1 [99, 114, 101, 97, 116, 101] s.l then createS resv ⟨s.l.tail, s.d⟩
  else if isT 1 [100, 114, 111, 112] s.l then dropS resv ⟨s.l.tail, s.d⟩
  else if isT 1 [105, 110, 115, 101, 114, 116] s.l then insertS resv N ⟨s.l.tail, s.d⟩
  else if isT 1 [115, 101, 108, 101, 99, 116] s.l then queryS resv N ⟨s.l.tail, s.d⟩
  else if isT 1 [117, 112, 100, 97, 116, 101] s.l then updateS resv N ⟨s.l.tail, s.d⟩
  else if isT 1 [100, 101, 108, 101, 116, 101] s.l then deleteS resv N ⟨s.l.tail, s.d⟩
  else if isT 1 [98, 101, 103, 105, 110] s.l then .ok ({ kind := 9 }, ⟨s.l.tail, s.d⟩)
  else if isT 1 [99, 111, 109, 109, 105, 116] s.l then .ok ({ kind := 10 }, ⟨s.l.tail, s.d⟩)
  else if isT 1 [114, 111, 108, 108, 98, 97, 99, 107] s.l then .ok ({ kind := 11 }, ⟨s.l.tail, s.d⟩)
  else .error 130
end
def parseT (resv : List Bs) (ts : List Tok) : Except Int Stm :=
  match stmtS resv (ts.length + 1) ⟨ts, 0⟩ with
  | .error c => .error c
  | .ok (st, s) => if s.l ≠ [] then .error 130 else if 40 < s.d then .error 5 else .ok st
def parse (resv : List Bs) (x : Bs) : Except Int Stm :=
  match Lx.tokens x with
  | .error c => .error c
  | .ok ts => parseT resv ts
end Go.Pz
namespace Go.Pz
open Go.Lx (Bs Tok)

theorem depth_mk (op : Int) (args : List Ex) (a b c : Int) (s q : Bs) : (Ex.mk op args a b c s q).depth = depthL args := by rw [Ex.depth]
theorem depthL_nil : depthL [] = 0 := by rw [depthL]
theorem depthL_cons (x : Ex) (r : List Ex) : depthL (x :: r) = max (x.depth + 1) (depthL r) := by rw [depthL]
theorem w_mk (op : Int) (args : List Ex) (a b c : Int) (s q : Bs) : (Ex.mk op args a b c s q).w = wL args := by rw [Ex.w]
theorem wL_nil : wL [] = 0 := by rw [wL]
theorem wL_cons (x : Ex) (r : List Ex) : wL (x :: r) = x.w + 1 + wL r := by rw [wL]
theorem w_un (op : Int) (x : Ex) : (Ex.un op x).w = x.w + 1 := by rw [w_mk, wL_cons, wL_nil]
theorem w_bin (op : Int) (x y : Ex) : (Ex.bin op x y).w = x.w + y.w + 2 := by rw [w_mk, wL_cons, wL_cons, wL_nil]; omega
theorem w_const (a b c : Int) (s : Bs) : (Ex.const a b c s).w = 0 := by rw [w_mk, wL_nil]
theorem w_col (s q : Bs) : (Ex.col s q).w = 0 := by rw [w_mk, wL_nil]
theorem w_wrap (op : Int) : ∀ (n : Nat) (x : Ex), (wrap op n x).w = x.w + n
  | 0, x => rfl
  | n + 1, x => by rw [wrap, w_wrap op n, w_un]; omega
theorem wL_len : ∀ (l : List Ex), l.length ≤ wL l
  | [] => Nat.zero_le _
  | x :: r => by rw [wL_cons, List.length_cons]; have := wL_len r; omega
mutual
theorem depth_le : ∀ (x : Ex), x.depth ≤ x.w
  | .mk _ args _ _ _ _ _ => by rw [depth_mk, w_mk]; exact depthL_le args
theorem depthL_le : ∀ (l : List Ex), depthL l ≤ wL l
  | [] => by rw [depthL_nil]; exact Nat.zero_le _
  | x :: r => by rw [depthL_cons, wL_cons]; have := depth_le x; have := depthL_le r; omega
end

theorem isT_len {k : Int} {s : Bs} {l : List Tok} (h : isT k s l = true) : l.tail.length + 1 = l.length := by
  cases l with
  | nil => cases h
  | cons t r => simp
theorem stripN_le (k : Int) (s : Bs) : ∀ (l : List Tok), stripN k s l ≤ l.length
  | [] => Nat.le_refl _
  | t :: r => by
    have := stripN_le k s r
    rw [stripN]; split <;> simp; omega

/-- It takes more tokens than it gets deep. -/
def Eats (m : Nat) (f : List Tok → Res Ex) : Prop := ∀ l x l', l.length ≤ m → f l = .ok (x, l') → x.w + l'.length < l.length
def EatsO (o : List Tok → Option (Int × List Tok)) : Prop := ∀ l op l', o l = some (op, l') → l'.length + 1 = l.length

theorem Eats.le {m n : Nat} {f} (h : Eats n f) (hle : m ≤ n) : Eats m f := fun l x l' hl hf => h l x l' (by omega) hf
theorem chainF_good {m : Nat} {f o} (hf : Eats m f) (ho : EatsO o) : ∀ (n : Nat) (e : Ex) (l : List Tok) (x : Ex) (l' : List Tok) (q : Nat), l.length ≤ m → e.w + l.length < q → chainF f o n e l = .ok (x, l') → x.w + l'.length < q
  | 0, e, l, x, l', q, hl, hq, h => by
    simp only [chainF, Except.ok.injEq, Prod.mk.injEq] at h
    obtain ⟨rfl, rfl⟩ := h
    exact hq
  | n + 1, e, l, x, l', q, hl, hq, h => by
    rw [chainF] at h
    split at h
    · simp only [Except.ok.injEq, Prod.mk.injEq] at h
      obtain ⟨rfl, rfl⟩ := h
      exact hq
    · rename_i op l1 ho1
      have h1 := ho _ _ _ ho1
      split at h
      · cases h
      · rename_i y l2 hy
        have h2 := hf _ _ _ (by omega) hy
        exact chainF_good hf ho n _ _ _ _ q (by omega) (by rw [w_bin]; omega) h
theorem chain_good {m : Nat} {f o} (hf : Eats m f) (ho : EatsO o) : Eats m (chain f o) := fun l x l' hl h => by
  rw [chain] at h
  split at h
  · cases h
  · rename_i e l1 he
    have h1 := hf _ _ _ hl he
    exact chainF_good hf ho _ _ _ _ _ _ (by omega) h1 h
theorem aheadP_good {m : Nat} {op k s f} (hf : Eats m f) : Eats m (aheadP op k s f) := fun l x l' hl h => by
  rw [aheadP] at h
  split at h
  · cases h
  · rename_i e l1 he
    simp only [Except.ok.injEq, Prod.mk.injEq] at h
    obtain ⟨rfl, rfl⟩ := h
    have h0 := stripN_le k s l
    have h1 := hf _ _ _ (by rw [List.length_drop]; omega) he
    rw [List.length_drop] at h1
    rw [w_wrap]; omega
theorem operS_good : ∀ (ss : List Bs) (k : Int), EatsO (operS ss k)
  | [], k => fun l op l' h => by simp [operS] at h
  | s :: r, k => fun l op l' h => by
    rw [operS] at h
    split at h
    · rename_i hs
      simp only [Option.some.injEq, Prod.mk.injEq] at h
      obtain ⟨-, rfl⟩ := h
      exact isT_len hs
    · exact operS_good r _ l op l' h
theorem opOr_good : EatsO opOr := fun l op l' h => by
  rw [opOr] at h
  split at h
  · rename_i hs
    simp only [Option.some.injEq, Prod.mk.injEq] at h
    obtain ⟨-, rfl⟩ := h
    exact isT_len hs
  · cases h
theorem opAnd_good : EatsO opAnd := fun l op l' h => by
  rw [opAnd] at h
  split at h
  · rename_i hs
    simp only [Option.some.injEq, Prod.mk.injEq] at h
    obtain ⟨-, rfl⟩ := h
    exact isT_len hs
  · cases h
theorem opSum_good : EatsO opSum := fun l op l' h => by
  rw [opSum] at h
  split at h
  · rename_i hs
    simp only [Option.some.injEq, Prod.mk.injEq] at h
    obtain ⟨-, rfl⟩ := h
    exact isT_len hs
  · exact operS_good _ _ _ _ _ h
theorem opMul_good : EatsO opMul := operS_good _ _
theorem opTest_good : EatsO opTest := operS_good _ _

theorem nameR_len {resv : List Bs} {l : List Tok} {n : Bs} {l' : List Tok} (h : nameR resv l = .ok (n, l')) : l'.length + 1 = l.length := by
  cases l with
  | nil => cases h
  | cons t r =>
    rw [nameR] at h
    split at h
    · simp only [Except.ok.injEq, Prod.mk.injEq] at h
      obtain ⟨-, rfl⟩ := h
      simp
    · cases h

section
variable {resv : List Bs} {E : Nat → List Tok → Res Ex} {m : Nat}
theorem inner_good (hE : ∀ k, Eats m (E k)) (k : Nat) : Eats (m + 1) (inner E k) := fun l x l' hl h => by
  rw [inner] at h
  split at h
  · cases h
  split at h
  · rename_i hp
    have h0 := isT_len hp
    split at h
    · cases h
    · rename_i y l2 hy
      have h1 := hE _ _ _ _ (by omega) hy
      split at h
      · rename_i hq
        have h2 := isT_len hq
        simp only [Except.ok.injEq, Prod.mk.injEq] at h
        obtain ⟨rfl, rfl⟩ := h
        omega
      · cases h
  · cases h
theorem named_good (hE : ∀ k, Eats m (E k)) (k : Nat) (w : Bs) (l : List Tok) (x : Ex) (l' : List Tok) (hl : l.length ≤ m + 1) (h0 : 0 < l.length) (h : named resv E k w l = .ok (x, l')) : x.w + l'.length < l.length := by
  have ht : l.tail.length + 1 = l.length := by simp; omega
  rw [named] at h
  split at h
  · simp only [Except.ok.injEq, Prod.mk.injEq] at h
    obtain ⟨rfl, rfl⟩ := h
    rw [w_const]; omega
  split at h
  · simp only [Except.ok.injEq, Prod.mk.injEq] at h
    obtain ⟨rfl, rfl⟩ := h
    rw [w_const]; omega
  split at h
  · simp only [Except.ok.injEq, Prod.mk.injEq] at h
    obtain ⟨rfl, rfl⟩ := h
    rw [w_const]; omega
  split at h
  · simp only [Except.ok.injEq, Prod.mk.injEq] at h
    obtain ⟨rfl, rfl⟩ := h
    rw [w_const]; omega
  split at h
  · simp only [Except.ok.injEq, Prod.mk.injEq] at h
    obtain ⟨rfl, rfl⟩ := h
    rw [w_const]; omega
  split at h
  · split at h
    · cases h
    · rename_i y l2 hy
      have h1 := inner_good hE k _ _ _ (by omega) hy
      simp only [Except.ok.injEq, Prod.mk.injEq] at h
      obtain ⟨rfl, rfl⟩ := h
      rw [w_un]; omega
  split at h
  · cases h
  · rename_i n l1 hn
    have h1 := nameR_len hn
    split at h
    · rename_i hp
      have h2 := isT_len hp
      split at h
      · cases h
      · rename_i n2 l2 hn2
        have h3 := nameR_len hn2
        simp only [Except.ok.injEq, Prod.mk.injEq] at h
        obtain ⟨rfl, rfl⟩ := h
        rw [w_col]; omega
    · simp only [Except.ok.injEq, Prod.mk.injEq] at h
      obtain ⟨rfl, rfl⟩ := h
      rw [w_col]; omega
theorem oneP_good (hE : ∀ k, Eats m (E k)) (k : Nat) : Eats (m + 1) (oneP resv E k) := fun l x l' hl h => by
  unfold oneP at h
  split at h
  · cases h
  split at h
  · simp only [Except.ok.injEq, Prod.mk.injEq] at h
    obtain ⟨rfl, rfl⟩ := h
    rw [w_const]; simp
  split at h
  · simp only [Except.ok.injEq, Prod.mk.injEq] at h
    obtain ⟨rfl, rfl⟩ := h
    rw [w_const]; simp
  split at h
  · exact named_good hE k _ _ _ _ hl (by simp) h
  · exact inner_good hE k _ _ _ hl h
theorem minusP_good (hE : ∀ k, Eats m (E k)) (k : Nat) : Eats (m + 1) (minusP resv E k) := aheadP_good (oneP_good hE k)
theorem termP_good (hE : ∀ k, Eats m (E k)) (k : Nat) : Eats (m + 1) (termP resv E k) := chain_good (minusP_good hE k) opMul_good
theorem sumP_good (hE : ∀ k, Eats m (E k)) (k : Nat) : Eats (m + 1) (sumP resv E k) := chain_good (termP_good hE k) opSum_good
theorem testP_good (hE : ∀ k, Eats m (E k)) (k : Nat) : Eats (m + 1) (testP resv E k) := fun l x l' hl h => by
  rw [testP] at h
  split at h
  · cases h
  rename_i e l1 he
  have h0 := sumP_good hE k _ _ _ hl he
  split at h
  · rename_i op l2 ho
    have h1 := opTest_good _ _ _ ho
    split at h
    · cases h
    · rename_i y l3 hy
      have h2 := sumP_good hE k _ _ _ (by omega) hy
      simp only [Except.ok.injEq, Prod.mk.injEq] at h
      obtain ⟨rfl, rfl⟩ := h
      rw [w_bin]; omega
  · split at h
    · rename_i hi
      have h1 := isT_len hi
      split at h
      · rename_i hn
        have h2 := isT_len hn
        split at h
        · rename_i hu
          have h3 := isT_len hu
          simp only [Except.ok.injEq, Prod.mk.injEq] at h
          obtain ⟨rfl, rfl⟩ := h
          rw [w_un]; omega
        · cases h
      · split at h
        · rename_i hu
          have h3 := isT_len hu
          simp only [Except.ok.injEq, Prod.mk.injEq] at h
          obtain ⟨rfl, rfl⟩ := h
          rw [w_un]; omega
        · cases h
    · simp only [Except.ok.injEq, Prod.mk.injEq] at h
      obtain ⟨rfl, rfl⟩ := h
      omega
theorem notP_good (hE : ∀ k, Eats m (E k)) (k : Nat) : Eats (m + 1) (notP resv E k) := aheadP_good (testP_good hE k)
theorem bothP_good (hE : ∀ k, Eats m (E k)) (k : Nat) : Eats (m + 1) (bothP resv E k) := chain_good (notP_good hE k) opAnd_good
theorem eitherP_good (hE : ∀ k, Eats m (E k)) (k : Nat) : Eats (m + 1) (eitherP resv E k) := chain_good (bothP_good hE k) opOr_good
end
theorem either_good (resv : List Bs) : ∀ (n k : Nat), Eats n (either resv n k)
  | 0, k => fun l x l' hl h => by cases h
  | n + 1, k => eitherP_good (fun k => either_good resv n k) k
end Go.Pz
