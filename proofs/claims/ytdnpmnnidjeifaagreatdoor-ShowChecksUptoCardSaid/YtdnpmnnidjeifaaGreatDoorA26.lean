/- The abstract machine, part 26: rules for going through code by hand. Conditions: none; definitions and lemmas. -/
import Derived.Test.YtdnpmnnidjeifaaGreatDoorA25
namespace Go.Abs
open Go Go.RowKit
section
variable {S l : Heap} {i : Nat} {o : AObj}
@[simp] theorem hget0 : (S ++ l)[S.length]? = l[0]? := by rw [List.getElem?_append_right (Nat.le_refl _)]; simp
@[simp] theorem hgetn : (S ++ l)[S.length + i]? = l[i]? := by rw [List.getElem?_append_right (by omega)]; congr 1; omega
@[simp] theorem hset0 : (S ++ l).set S.length o = S ++ l.set 0 o := by rw [List.set_append_right _ _ (Nat.le_refl _)]; simp
@[simp] theorem hsetn : (S ++ l).set (S.length + i) o = S ++ l.set i o := by
 rw [List.set_append_right _ _ (by omega)]; congr 2; omega
@[simp] theorem hsnoc {a b : Heap} : (S ++ a) ++ b = S ++ (a ++ b) := List.append_assoc _ _ _
theorem hmore (o : AObj) : S ++ [o] = S ++ [o] := (rfl)
@[simp] theorem htake : (S ++ l).take S.length = S := by simp
theorem hlow {j : Nat} (h : j < S.length) : (S ++ l)[j]? = S[j]? := List.getElem?_append_left h
end
class inductive Kt (α : Type) where
 | mk (f : α)
class inductive Kp0 : Type where
 | mk (p : Prop)
def Kt.f {α : Type} : Kt α → α
 | .mk f => f
def Kp0.p : Kp0 → Prop
 | .mk p => p
abbrev K2 := Kt (AVal → Heap → Prop)
abbrev KF := Kt (Tmps → Heap → Prop)
abbrev KQ := Kt (AExit → Tmps → Heap → Prop)
def afterR (r : ORes) [kp : K2] [k : K2] : Prop :=
 match r with
 | .ok side v S => side = true ∧ k.f v S
 | .panic v S => kp.f v S
 | .fail => False
@[simp] theorem afterR_ok {side v S kp f} : @afterR (.ok side v S) kp ⟨f⟩ = (side = true ∧ f v S) := (rfl)
@[simp] theorem afterR_fail {kp k} : @afterR .fail kp k = False := (rfl)
def afterG (g : Option Bool) [y : Kp0] [n : Kp0] : Prop :=
 match g with
 | some true => y.p
 | some false => n.p
 | none => False
@[simp] theorem afterG_true {y n} : @afterG (some true) ⟨y⟩ n = y := (rfl)
@[simp] theorem afterG_false {y n} : @afterG (some false) y ⟨n⟩ = n := (rfl)
def afterB (c : AVal) [y : Kp0] [n : Kp0] : Prop :=
 match c with
 | .atom (.bool b) => (b = true → y.p) ∧ (b = false → n.p)
 | _ => False
@[simp] theorem afterB_true {y n} : @afterB (.bool true) ⟨y⟩ n = y := by simp [afterB, Kp0.p]
@[simp] theorem afterB_false {y n} : @afterB (.bool false) y ⟨n⟩ = n := by simp [afterB, Kp0.p]
theorem afterB_bool {b y n} : @afterB (.bool b) ⟨y⟩ ⟨n⟩ = ((b = true → y) ∧ (b = false → n)) := (rfl)
def afterE (e : AEnd) (S : Heap) [k : K2] [kp : K2] : Prop :=
 match e with
 | .ret v => k.f v S
 | .panic v => kp.f v S
@[simp] theorem afterE_ret {v S k kp} : @afterE (.ret v) S ⟨k⟩ kp = k v S := (rfl)
@[simp] theorem afterE_panic {v S k kp} : @afterE (.panic v) S k ⟨kp⟩ = kp v S := (rfl)
def afterN (r : Option (List (AVal × Heap))) [k : K2] : Prop :=
 match r with
 | some l => ∀ o ∈ l, k.f o.1 o.2
 | none => False
@[simp] theorem afterN_none {k} : @afterN none k = False := (rfl)
theorem afterN_some {l f} : @afterN (some l) ⟨f⟩ = ∀ o ∈ l, f o.1 o.2 := (rfl)
@[simp] theorem afterN_one {o f} : @afterN (some [o]) ⟨f⟩ = f o.1 o.2 := by simp [afterN, Kt.f]
def afterX (e : AExit) (a : Tmps) (S : Heap) [k : KF] [q : KQ] : Prop :=
 match e with
 | .normal => k.f a S
 | e => q.f e a S
def afterK (i : Nat) (e : AExit) (a : Tmps) (S : Heap) [q : KQ] : Prop :=
 match e with
 | .exit j => if j = i then q.f .normal a S else q.f (.exit j) a S
 | e => q.f e a S
section
variable {C : CallP} {Q : AExit → Tmps → Heap → Prop} {a : Tmps} {S : Heap} {k : Tmps → Heap → Prop} {v : AVal} {i j : Nat}
@[simp] theorem afterX_normal {q : KQ} : @afterX .normal a S ⟨k⟩ q = k a S := (rfl)
@[simp] theorem afterX_exit {kk : KF} : @afterX (.exit i) a S kk ⟨Q⟩ = Q (.exit i) a S := (rfl)
@[simp] theorem afterX_ret {kk : KF} : @afterX .ret a S kk ⟨Q⟩ = Q .ret a S := (rfl)
@[simp] theorem afterX_panic {kk : KF} : @afterX (.panic v) a S kk ⟨Q⟩ = Q (.panic v) a S := (rfl)
@[simp] theorem afterK_normal : @afterK i .normal a S ⟨Q⟩ = Q .normal a S := (rfl)
@[simp] theorem afterK_exit : @afterK i (.exit j) a S ⟨Q⟩ = if j = i then Q .normal a S else Q (.exit j) a S := (rfl)
@[simp] theorem afterK_ret : @afterK i .ret a S ⟨Q⟩ = Q .ret a S := (rfl)
@[simp] theorem afterK_panic : @afterK i (.panic v) a S ⟨Q⟩ = Q (.panic v) a S := (rfl)
@[simp ↓] theorem mwp_skip : mwp C .skip Q a S = Q .normal a S := (rfl)
@[simp ↓] theorem mwp_ops {l : List MI} : mwp C (.ops l) Q a S = opsWp C (fun v a S => Q (.panic v) a S) l a S (Q .normal) := (rfl)
@[simp ↓] theorem mwp_draw {t : DT} : mwp C (.draw t) Q a S = drawWp C (fun v S => Q (.panic v) [] S) t [] a S (Q .normal) := (rfl)
@[simp ↓] theorem mwp_seq {x y : MC} : mwp C (.seq x y) Q a S = mwp C x (fun e a' S' => @afterX e a' S' ⟨mwp C y Q⟩ ⟨Q⟩) a S := by
 simp only [mwp]
 congr 1
@[simp ↓] theorem mwp_cond {c : MOpd} {x y : MC} : mwp C (.cond c x y) Q a S = @afterB (ev a c) ⟨mwp C x Q a S⟩ ⟨mwp C y Q a S⟩ := (rfl)
@[simp ↓] theorem mwp_block {i : Nat} {c : MC} : mwp C (.block i c) Q a S = mwp C c (fun e a' S' => @afterK i e a' S' ⟨Q⟩) a S := by
 simp only [mwp]
 congr 1
@[simp ↓] theorem mwp_exit {i : Nat} : mwp C (.exit i) Q a S = Q (.exit i) a S := (rfl)
@[simp ↓] theorem mwp_ret : mwp C .ret Q a S = Q .ret a S := (rfl)
variable {Kp : AVal → Heap → Prop} {KP : AVal → Tmps → Heap → Prop} {d : Option Nat} {m : MOp} {r : List MI} {K : Tmps → Heap → Prop} {f : FuncId} {args : List MOpd} {x : MOpd} {g : Nat × Bool} {kk : MK}
@[simp ↓] theorem opsWp_nil : opsWp C KP [] a S K = K a S := (rfl)
@[simp ↓] theorem opsWp_op : opsWp C KP (⟨d, none, .op m⟩ :: r) a S K = @afterR (m.run S a) ⟨fun v S => KP v a S⟩ ⟨fun v S' => opsWp C KP r (putD d v a) S' K⟩ := (rfl)
@[simp ↓] theorem opsWp_call : opsWp C KP (⟨d, none, .call f args⟩ :: r) a S K = C f (args.map (ev a)) S (fun e S' => @afterE e S' ⟨fun v S' => opsWp C KP r (putD d v a) S' K⟩ ⟨fun v S => KP v a S⟩) := (rfl)
@[simp ↓] theorem opsWp_guard : opsWp C KP (⟨d, some g, kk⟩ :: r) a S K = @afterG (wantedA a (some g)) ⟨opsWp C KP (⟨d, none, kk⟩ :: r) a S K⟩ ⟨opsWp C KP r (putD d .undef a) S K⟩ := by
 simp only [opsWp, stepWp, stepV]
 cases h : wantedA a (some g) with
 | none => rfl
 | some b => cases b <;> rfl
@[simp ↓] theorem opsWp_next : opsWp C KP (⟨d, none, .next x⟩ :: r) a S K = @afterN (nextM S (ev a x)) ⟨fun v S' => opsWp C KP r (putD d v a) S' K⟩ := (rfl)
@[simp ↓] theorem stepWp_next {K : Tmps → Heap → Prop} : stepWp C Kp ⟨d, none, .next x⟩ a S K = @afterN (nextM S (ev a x)) ⟨fun v S' => K (putD d v a) S'⟩ := (rfl)
@[simp ↓] theorem opsWp_callV : opsWp C KP (⟨d, none, .callV x args⟩ :: r) a S K = (match ev a x with
  | .clo (.func f) first cap => C f (first ++ args.map (ev a) ++ cap) S (fun e S' => @afterE e S' ⟨fun v S' => opsWp C KP r (putD d v a) S' K⟩ ⟨fun v S => KP v a S⟩)
  | _ => False) := (rfl)
@[simp ↓] theorem stepWp_op {K : Tmps → Heap → Prop} : stepWp C Kp ⟨d, none, .op m⟩ a S K = @afterR (m.run S a) ⟨Kp⟩ ⟨fun v S' => K (putD d v a) S'⟩ := (rfl)
@[simp ↓] theorem stepWp_call : stepWp C Kp ⟨d, none, .call f args⟩ a S K = C f (args.map (ev a)) S (fun e S' => @afterE e S' ⟨fun v S' => K (putD d v a) S'⟩ ⟨Kp⟩) := (rfl)
@[simp ↓] theorem stepWp_guard : stepWp C Kp ⟨d, some g, kk⟩ a S K = @afterG (wantedA a (some g)) ⟨stepWp C Kp ⟨d, none, kk⟩ a S K⟩ ⟨K (putD d .undef a) S⟩ := by
 simp only [stepWp, stepV]
 cases h : wantedA a (some g) with
 | none => rfl
 | some b => cases b <;> rfl
@[simp ↓] theorem stepWp_callV : stepWp C Kp ⟨d, none, .callV x args⟩ a S K = (match ev a x with
  | .clo (.func f) first cap => C f (first ++ args.map (ev a) ++ cap) S (fun e S' => @afterE e S' ⟨fun v S' => K (putD d v a) S'⟩ ⟨Kp⟩)
  | _ => False) := (rfl)
variable {ix : Nat} {w late : Bool} {l : List DE} {ps : List Pend} {KR : List Pend → Tmps → Prop} {t s : DT} {keep : List Nat} {y : DE}
@[simp ↓] theorem readWp_nil : readWp [] ps a S KR = KR ps a := (rfl)
@[simp ↓] theorem readWp_op : readWp (⟨ix, ⟨d, none, .op m⟩, w, late⟩ :: l) ps a S KR = @afterR (m.run S a) ⟨fun _ _ => False⟩ ⟨fun v S' => S' = S ∧ readWp l (if late then ⟨ix, m, a, v⟩ :: ps else ps) (putD d v a) S KR⟩ := by
 simp only [readWp, wantedA, afterR, Kt.f]
 cases m.run S a <;> rfl
@[simp ↓] theorem readWp_guard : readWp (⟨ix, ⟨d, some g, .op m⟩, w, late⟩ :: l) ps a S KR = @afterG (wantedA a (some g)) ⟨@afterR (m.run S a) ⟨fun _ _ => False⟩ ⟨fun v S' => S' = S ∧ readWp l (if late then ⟨ix, m, a, v⟩ :: ps else ps) (putD d v a) S KR⟩⟩ ⟨readWp l ps (putD d .undef a) S KR⟩ := by
 simp only [readWp]
 cases h : wantedA a (some g) with
 | none => rfl
 | some b => cases b <;> simp only [afterG, Kp0.p] <;> cases m.run S a <;> rfl
@[simp ↓] theorem drawWp_nil : drawWp C Kp .nil ps a S K = K a S := (rfl)
@[simp ↓] theorem drawWp_rd : drawWp C Kp (.rd l t) ps a S K = readWp l ps a S (fun ps' a' => drawWp C Kp t ps' a' S K) := (rfl)
@[simp ↓] theorem drawWp_ef : drawWp C Kp (.ef y keep t) ps a S K = stepWp C Kp y.i a S (fun a' S' => pendOk S' (kept keep ps) ∧ drawWp C Kp t (kept keep ps) a' S' K) := (rfl)
@[simp ↓] theorem drawWp_or : drawWp C Kp (.or s t) ps a S K = (drawWp C Kp s ps a S K ∧ drawWp C Kp t ps a S K) := (rfl)
@[simp] theorem pendOk_nil : pendOk S [] = True := (rfl)
@[simp] theorem pendOk_cons {p : Pend} : pendOk S (p :: ps) = (p.m.run S p.a = .ok true p.v S ∧ pendOk S ps) := (rfl)
@[simp] theorem kept_nil : kept keep [] = [] := (rfl)
@[simp] theorem kept_cons {p : Pend} : kept keep (p :: ps) = if keep.contains p.ix then p :: kept keep ps else kept keep ps := by
 simp only [kept, List.filter_cons]
end
section
variable {a : Tmps} {S : Heap} {x y z c : MOpd} {k n off i : Nat} {b agg ok : Bool} {l : List AVal} {v : AVal} {op : BinOp} {t : EqT} {u : UnOp} {ty : TypeId} {lo hi mx : Option MOpd} {ps : List (Bool × Nat × Nat × MOpd)} {qs : List (Nat × MOpd)}
@[simp ↓] theorem ev_slot {n : Nat} : ev a (.slot n) = get a n := (rfl)
@[simp ↓] theorem ev_lit {n : Nat} : ev a (no_index (OfNat.ofNat n)) = get a n := (rfl)
@[simp ↓] theorem ev_val : ev a (.val v) = v := (rfl)
@[simp] theorem get_nil : get [] n = .top := (rfl)
theorem get_cons {d : Nat} : get ((d, v) :: a) n = if d = n then v else get a n := (rfl)
@[simp ↓] theorem get_hit : get ((n, v) :: a) n = v := by simp [get]
@[simp ↓] theorem get_miss {d : Nat} (h : d ≠ n) : get ((d, v) :: a) n = get a n := by simp [get, h]
@[simp ↓] theorem putD_some {d : Nat} : putD (some d) v a = (d, v) :: a := (rfl)
@[simp ↓] theorem putD_none : putD none v a = a := (rfl)
def wantR (v : AVal) (b : Bool) : Option Bool :=
 match v with
 | .atom (.bool c) => some (c == b)
 | .tuple [] => some false
 | _ => none
@[simp] theorem wantedA_some {d : Nat} {b : Bool} : wantedA a (some (d, b)) = wantR (get a d) b := (rfl)
@[simp] theorem wantR_bool {w b : Bool} : wantR (.bool w) b = some (w == b) := (rfl)
@[simp] theorem wantR_undef {b : Bool} : wantR .undef b = some false := (rfl)
@[simp] theorem run_mv : (MOp.mv x).run S a = .ok true (ev a x) S := (rfl)
@[simp] theorem run_pick : (MOp.pick c x y).run S a = (match ev a c with
  | .atom (.bool b) => .ok true (if b then ev a x else ev a y) S
  | _ => .fail) := (rfl)
@[simp] theorem run_alloc : (MOp.alloc k l).run S a = .ok (decide (l.length = k) && decide (0 < k) && l.all AVal.one) (.ptr S.length 0 0) (S ++ [.cells k [l] (some 1)]) := (rfl)
@[simp] theorem run_box : (MOp.box agg k x).run S a = (match cellsOf agg (ev a x) with
  | some cs => .ok (decide (cs.length = k) && decide (0 < k) && cs.all AVal.one) (.ptr S.length 0 0) (S ++ [.cells k [cs] (some 1)])
  | none => .fail) := (rfl)
@[simp] theorem run_build : (MOp.build l ps).run S a = (match fillR l a ps with
  | some (s, cs) => .ok (s && l.all AVal.one) (.agg cs) S
  | none => .fail) := (rfl)
@[simp] theorem run_bslice : (MOp.bslice agg k n l qs).run S a = (match fillS agg k (List.replicate n l) a qs with
  | some (s, es) => .ok (s && decide (l.length = k) && decide (0 < k) && l.all AVal.one && decide (n * k ≤ 16777216)) (.list .full es) S
  | none => .fail) := (rfl)
@[simp] theorem run_brow : (MOp.brow agg k n l qs).run S a = (match fillS agg k (List.replicate n l) a qs with
  | some (s, es) => .ok (s && decide (l.length = k) && decide (0 < k) && l.all AVal.one && decide (n * k ≤ 16777216)) (.row S.length 0 n) (S ++ [.cells k es (some n)])
  | none => .fail) := (rfl)
@[simp] theorem run_load : (MOp.load agg k x).run S a = loadR agg k S (ev a x) := (rfl)
@[simp] theorem run_store : (MOp.store agg k x y).run S a = storeR agg k S (ev a x) (ev a y) := (rfl)
@[simp] theorem run_bin : (MOp.bin op t x y).run S a = binR op t (ev a x) (ev a y) S := (rfl)
@[simp] theorem run_un : (MOp.un u x).run S a = unR u (ev a x) S := (rfl)
@[simp] theorem run_conv {cv : Cv} : (MOp.conv cv x).run S a = convR cv (ev a x) S := (rfl)
@[simp] theorem run_mkif : (MOp.mkif ty x).run S a = .ok true (.iface ty (ev a x)) S := (rfl)
@[simp] theorem run_mkfn {fn : Fn} {f c : List MOpd} : (MOp.mkfn fn f c).run S a = .ok true (.clo fn (f.map (ev a)) (c.map (ev a))) S := (rfl)
@[simp] theorem run_mkslice {bytes : Nat} : (MOp.mkslice k bytes l x y).run S a = mkslR k bytes l S (ev a x) (ev a y) := (rfl)
@[simp] theorem run_slc : (MOp.slc k x lo hi mx).run S a = slcR k a S (ev a x) lo hi mx := (rfl)
@[simp] theorem run_sslc : (MOp.sslc x lo hi).run S a = sslcR a S (ev a x) lo hi := (rfl)
@[simp] theorem run_faddr : (MOp.faddr off x).run S a = addOff off S (ev a x) := (rfl)
@[simp] theorem run_field : (MOp.field agg off k x).run S a = (match ev a x with
  | .agg cs => .ok (decide (off + k ≤ cs.length)) (takeAt agg k cs off) S
  | _ => .fail) := (rfl)
@[simp] theorem run_iaddr : (MOp.iaddr k x y).run S a = iaddrR k S (ev a x) (ev a y) := (rfl)
@[simp] theorem run_extract : (MOp.extract x i).run S a = (match ev a x with
  | .tuple vs => .ok (decide (i < vs.length)) (vs.getD i .top) S
  | _ => .fail) := (rfl)
@[simp] theorem run_lenS : (MOp.lenS x).run S a = lenR S (ev a x) := (rfl)
@[simp] theorem run_lenStr : (MOp.lenStr x).run S a = (match ev a x with
  | .str s => .ok true (.int s.length) S
  | _ => .fail) := (rfl)
@[simp] theorem run_idxS : (MOp.idxS x y).run S a = (match ev a x, asI (ev a y) with
  | .str l, some q => .ok (decide (0 ≤ q ∧ q < l.length)) (.atom (.int .u8 (l.getD q.toNat 0).toNat)) S
  | _, _ => .fail) := (rfl)
@[simp] theorem run_append {bytes : Nat} : (MOp.append k bytes x y).run S a = appendR k bytes S (ev a x) (ev a y) := (rfl)
@[simp] theorem run_copy : (MOp.copy k x y).run S a = copyR k S (ev a x) (ev a y) := (rfl)
@[simp] theorem run_mkmap : MOp.mkmap.run S a = .ok true (.mapv S.length) (S ++ [.map [] 0]) := (rfl)
@[simp] theorem run_lookup {kd : KK} : (MOp.lookup kd v ok x y).run S a = lookR kd v ok S (ev a x) (ev a y) := (rfl)
@[simp] theorem run_mapUp {kd : KK} : (MOp.mapUp kd x y z).run S a = mapUpR kd S (ev a x) (ev a y) (ev a z) := (rfl)
@[simp] theorem run_mapEnt {kd : KK} : (MOp.mapEnt kd v x y).run S a = mapEntR kd v S (ev a x) (ev a y) := (rfl)
@[simp] theorem run_entSt : (MOp.entSt x y z).run S a = entStR S (ev a x) (ev a y) (ev a z) := (rfl)
@[simp] theorem run_delete {kd : KK} : (MOp.delete kd x y).run S a = delR kd S (ev a x) (ev a y) := (rfl)
@[simp] theorem run_rangeM : (MOp.rangeM x).run S a = (match ev a x with
  | .atom (.map none) => .ok true (.itr S.length) (S ++ [.mapIter none 0 [] 0])
  | .mapv id => match S[id]? with
    | some (.map _ c) => .ok true (.itr S.length) (S ++ [.mapIter (some id) c [] c])
    | _ => .fail
  | _ => .fail) := (rfl)
@[simp] theorem run_entry : (MOp.entry x).run S a = entryR S (ev a x) := (rfl)
@[simp] theorem run_rangeS : (MOp.rangeS x).run S a = (match ev a x with
  | .str l => .ok true (.itr S.length) (S ++ [.strIter ⟨l.toArray⟩ 0])
  | _ => .fail) := (rfl)
@[simp] theorem run_tassert : (MOp.tassert ty ok v x).run S a = (match ev a x with
  | .iface u v' => if ok then .ok true (if u = ty then .tuple [v', .bool true] else .tuple [v, .bool false]) S else .ok (decide (u = ty)) v' S
  | .atom .nilIface => .ok ok (.tuple [v, .bool false]) S
  | _ => .fail) := (rfl)
@[simp] theorem run_idxA : (MOp.idxA n agg k x y).run S a = (match ev a x, asI (ev a y) with
  | .agg cs, some q => .ok (decide (0 ≤ q ∧ q < n) && decide (q.toNat * k + k ≤ cs.length)) (takeAt agg k cs (q.toNat * k)) S
  | _, _ => .fail) := (rfl)
@[simp] theorem run_clearS : (MOp.clearS k l x).run S a = clearR k l S (ev a x) := (rfl)
@[simp] theorem run_mm : (MOp.mm b x y).run S a = (match ev a x, ev a y with
  | .atom (.int k p), .atom (.int _ q) => .ok true (.atom (.int k (if b then (if q > p then q else p) else (if q < p then q else p)))) S
  | _, _ => .fail) := (rfl)
@[simp] theorem run_nilck : (MOp.nilck x).run S a = (match ev a x with
  | .ptr id i j => .ok true (.ptr id i j) S
  | .fptr es i j => .ok true (.fptr es i j) S
  | .clo (.func f) f1 c1 => .ok true (.clo (.func f) f1 c1) S
  | .iface t v => .ok true (.iface t v) S
  | _ => .fail) := (rfl)
variable {p q : Int} {kd : IntKind} {s1 s2 : List UInt8} {b1 b2 : Bool}
@[simp] theorem bin_add : binR .add t (.int p) (.int q) S = .ok true (.int (IntKind.i64.wrap (p + q))) S := (rfl)
@[simp] theorem bin_sub : binR .sub t (.int p) (.int q) S = .ok true (.int (IntKind.i64.wrap (p - q))) S := (rfl)
@[simp] theorem bin_mul : binR .mul t (.int p) (.int q) S = .ok true (.int (IntKind.i64.wrap (p * q))) S := (rfl)
@[simp] theorem bin_quo : binR .quo t (.int p) (.int q) S = .ok (decide (q ≠ 0)) (.int (IntKind.i64.wrap (p.tdiv q))) S := by simp [binR]
@[simp] theorem bin_rem : binR .rem t (.int p) (.int q) S = .ok (decide (q ≠ 0)) (.int (p.tmod q)) S := by simp [binR]
@[simp] theorem bin_eql {k : IntKind} : binR .eql t (.atom (.int k p)) (.atom (.int k q)) S = .ok true (.bool (p == q)) S := by simp [binR]
@[simp] theorem bin_neq {k : IntKind} : binR .neq t (.atom (.int k p)) (.atom (.int k q)) S = .ok true (.bool (p != q)) S := by simp [binR]
@[simp] theorem bin_lss {k : IntKind} : binR .lss t (.atom (.int k p)) (.atom (.int k q)) S = .ok true (.bool (decide (p < q))) S := by simp [binR]
@[simp] theorem bin_leq {k : IntKind} : binR .leq t (.atom (.int k p)) (.atom (.int k q)) S = .ok true (.bool (decide (p ≤ q))) S := by simp [binR]
@[simp] theorem bin_gtr {k : IntKind} : binR .gtr t (.atom (.int k p)) (.atom (.int k q)) S = .ok true (.bool (decide (q < p))) S := by simp [binR]
@[simp] theorem bin_geq {k : IntKind} : binR .geq t (.atom (.int k p)) (.atom (.int k q)) S = .ok true (.bool (decide (q ≤ p))) S := by simp [binR]
@[simp] theorem bin_adds : binR .add t (.str s1) (.str s2) S = .ok (decide (s1.length + s2.length ≤ 9223372036854775807)) (.str (s1 ++ s2)) S := (rfl)
@[simp] theorem bin_eqls : binR .eql t (.str s1) (.str s2) S = .ok true (.bool (decide (s1 = s2))) S := (rfl)
@[simp] theorem bin_neqs : binR .neq t (.str s1) (.str s2) S = .ok true (.bool (!decide (s1 = s2))) S := (rfl)
theorem bin_eqlR {r : Bool} {u v : AVal} (hi : ∀ k p, u ≠ .atom (.int k p)) (hs : ∀ s, u ≠ .str s) (h : eqR 20 t u v = some r) : binR .eql t u v S = .ok true (.bool r) S := by
 unfold binR
 split <;> first | (exfalso; exact hi _ _ rfl) | (exfalso; exact hs _ rfl) | (rename_i he; cases he; done) | skip
 all_goals simp_all
@[simp] theorem bin_eql_list {fl : Fl} {es : List (List AVal)} {w : AVal} : binR .eql t (.list fl es) w S = (match eqR 20 t (.list fl es) w with
  | some b => .ok true (.bool b) S
  | none => .fail) := (rfl)
@[simp] theorem bin_neq_list {fl : Fl} {es : List (List AVal)} {w : AVal} : binR .neq t (.list fl es) w S = (match eqR 20 t (.list fl es) w with
  | some b => .ok true (.bool (!b)) S
  | none => .fail) := (rfl)
@[simp] theorem bin_eql_nils {w : AVal} : binR .eql t .nilS w S = (match eqR 20 t .nilS w with
  | some b => .ok true (.bool b) S
  | none => .fail) := (rfl)
@[simp] theorem bin_neq_nils {w : AVal} : binR .neq t .nilS w S = (match eqR 20 t .nilS w with
  | some b => .ok true (.bool (!b)) S
  | none => .fail) := (rfl)
@[simp] theorem bin_eql_ptr {id i j : Nat} {w : AVal} : binR .eql t (.ptr id i j) w S = (match eqR 20 t (.ptr id i j) w with
  | some b => .ok true (.bool b) S
  | none => .fail) := (rfl)
@[simp] theorem bin_neq_ptr {id i j : Nat} {w : AVal} : binR .neq t (.ptr id i j) w S = (match eqR 20 t (.ptr id i j) w with
  | some b => .ok true (.bool (!b)) S
  | none => .fail) := (rfl)
@[simp] theorem bin_eql_fptr {es : List (List AVal)} {i j : Nat} {w : AVal} : binR .eql t (.fptr es i j) w S = (match eqR 20 t (.fptr es i j) w with
  | some b => .ok true (.bool b) S
  | none => .fail) := (rfl)
@[simp] theorem bin_neq_fptr {es : List (List AVal)} {i j : Nat} {w : AVal} : binR .neq t (.fptr es i j) w S = (match eqR 20 t (.fptr es i j) w with
  | some b => .ok true (.bool (!b)) S
  | none => .fail) := (rfl)
@[simp] theorem bin_eql_mapv {id : Nat} {w : AVal} : binR .eql t (.mapv id) w S = (match eqR 20 t (.mapv id) w with
  | some b => .ok true (.bool b) S
  | none => .fail) := (rfl)
@[simp] theorem bin_neq_mapv {id : Nat} {w : AVal} : binR .neq t (.mapv id) w S = (match eqR 20 t (.mapv id) w with
  | some b => .ok true (.bool (!b)) S
  | none => .fail) := (rfl)
@[simp] theorem bin_eql_clo {fn : Fn} {c c' : List AVal} {w : AVal} : binR .eql t (.clo fn c c') w S = (match eqR 20 t (.clo fn c c') w with
  | some b => .ok true (.bool b) S
  | none => .fail) := (rfl)
@[simp] theorem bin_neq_clo {fn : Fn} {c c' : List AVal} {w : AVal} : binR .neq t (.clo fn c c') w S = (match eqR 20 t (.clo fn c c') w with
  | some b => .ok true (.bool (!b)) S
  | none => .fail) := (rfl)
@[simp] theorem bin_eql_iface {ty : TypeId} {u : AVal} {w : AVal} : binR .eql t (.iface ty u) w S = (match eqR 20 t (.iface ty u) w with
  | some b => .ok true (.bool b) S
  | none => .fail) := (rfl)
@[simp] theorem bin_neq_iface {ty : TypeId} {u : AVal} {w : AVal} : binR .neq t (.iface ty u) w S = (match eqR 20 t (.iface ty u) w with
  | some b => .ok true (.bool (!b)) S
  | none => .fail) := (rfl)
@[simp] theorem bin_eql_agg {cs : List AVal} {w : AVal} : binR .eql t (.agg cs) w S = (match eqR 20 t (.agg cs) w with
  | some b => .ok true (.bool b) S
  | none => .fail) := (rfl)
@[simp] theorem bin_neq_agg {cs : List AVal} {w : AVal} : binR .neq t (.agg cs) w S = (match eqR 20 t (.agg cs) w with
  | some b => .ok true (.bool (!b)) S
  | none => .fail) := (rfl)
@[simp] theorem bin_eql_nilp {w : AVal} : binR .eql t (.atom (.pointer none)) w S = (match eqR 20 t (.atom (.pointer none)) w with
  | some b => .ok true (.bool b) S
  | none => .fail) := (rfl)
@[simp] theorem bin_neq_nilp {w : AVal} : binR .neq t (.atom (.pointer none)) w S = (match eqR 20 t (.atom (.pointer none)) w with
  | some b => .ok true (.bool (!b)) S
  | none => .fail) := (rfl)
@[simp] theorem bin_eql_nilf {w : AVal} : binR .eql t (.atom .nilFunc) w S = (match eqR 20 t (.atom .nilFunc) w with
  | some b => .ok true (.bool b) S
  | none => .fail) := (rfl)
@[simp] theorem bin_neq_nilf {w : AVal} : binR .neq t (.atom .nilFunc) w S = (match eqR 20 t (.atom .nilFunc) w with
  | some b => .ok true (.bool (!b)) S
  | none => .fail) := (rfl)
@[simp] theorem bin_eql_nili {w : AVal} : binR .eql t (.atom .nilIface) w S = (match eqR 20 t (.atom .nilIface) w with
  | some b => .ok true (.bool b) S
  | none => .fail) := (rfl)
@[simp] theorem bin_neq_nili {w : AVal} : binR .neq t (.atom .nilIface) w S = (match eqR 20 t (.atom .nilIface) w with
  | some b => .ok true (.bool (!b)) S
  | none => .fail) := (rfl)
@[simp] theorem bin_eql_nilm {w : AVal} : binR .eql t (.atom (.map none)) w S = (match eqR 20 t (.atom (.map none)) w with
  | some b => .ok true (.bool b) S
  | none => .fail) := (rfl)
@[simp] theorem bin_neq_nilm {w : AVal} : binR .neq t (.atom (.map none)) w S = (match eqR 20 t (.atom (.map none)) w with
  | some b => .ok true (.bool (!b)) S
  | none => .fail) := (rfl)
@[simp] theorem bin_eql_bool {b : Bool} {w : AVal} : binR .eql t (.atom (.bool b)) w S = (match eqR 20 t (.atom (.bool b)) w with
  | some b => .ok true (.bool b) S
  | none => .fail) := (rfl)
@[simp] theorem bin_neq_bool {b : Bool} {w : AVal} : binR .neq t (.atom (.bool b)) w S = (match eqR 20 t (.atom (.bool b)) w with
  | some b => .ok true (.bool (!b)) S
  | none => .fail) := (rfl)
@[simp] theorem eqR_nilP {k : NK} {n : Nat} {u w : AVal} : eqR (n + 1) (.nilP k) u w = (match isNil k u, isNil k w with
  | some true, some true => match k with
    | .iface false => none
    | _ => some true
  | some true, some false => some false
  | some false, some true => some false
  | _, _ => none) := (rfl)
@[simp] theorem eqR_nilP20 {k : NK} {u w : AVal} : eqR 20 (.nilP k) u w = (match isNil k u, isNil k w with
  | some true, some true => match k with
    | .iface false => none
    | _ => some true
  | some true, some false => some false
  | some false, some true => some false
  | _, _ => none) := (rfl)
@[simp] theorem eqR_agg20 {fs : List (Bool × Nat × Nat × EqT)} {xs ys : List AVal} : eqR 20 (.agg fs) (.agg xs) (.agg ys) =
  fs.foldr (fun f r => match eqR 19 f.2.2.2 (takeAt f.1 f.2.2.1 xs f.2.1) (takeAt f.1 f.2.2.1 ys f.2.1), r with
   | some a, some b => if f.2.1 + f.2.2.1 ≤ xs.length ∧ f.2.1 + f.2.2.1 ≤ ys.length then some (a && b) else none
   | _, _ => none) (some true) := (rfl)
@[simp] theorem eqR_int19 {k k' : IntKind} {p q : Int} : eqR 19 .int (.atom (.int k p)) (.atom (.int k' q)) = if k = k' then some (p == q) else none := (rfl)
@[simp] theorem eqR_str19 {p q : List UInt8} : eqR 19 .str (.str p) (.str q) = some (decide (p = q)) := (rfl)
@[simp] theorem eqR_bool19 {p q : Bool} : eqR 19 .bool (.atom (.bool p)) (.atom (.bool q)) = some (p == q) := (rfl)
@[simp] theorem eqR_bool20 {p q : Bool} : eqR 20 .bool (.atom (.bool p)) (.atom (.bool q)) = some (p == q) := (rfl)
@[simp] theorem un_not : unR .not (.bool b1) S = .ok true (.bool (!b1)) S := (rfl)
@[simp] theorem un_neg : unR .neg (.int p) S = .ok true (.int (IntKind.i64.wrap (0 - p))) S := (rfl)
end
section
variable {k n i j off len id : Nat} {b agg : Bool} {S : Heap} {l : List UInt8} {cs : List AVal} {es : List (List AVal)} {fl : Fl} {u v : AVal} {x : Value} {fn : Fn} {c c' : List AVal} {t : TypeId}
@[simp] theorem one_int {kd : IntKind} {z : Int} : AVal.one (.atom (.int kd z)) = true := (rfl)
@[simp] theorem one_bool : AVal.one (.atom (.bool b)) = true := (rfl)
@[simp] theorem one_nilp : AVal.one (.atom (.pointer none)) = true := (rfl)
@[simp] theorem one_nilm : AVal.one (.atom (.map none)) = true := (rfl)
@[simp] theorem one_nilf : AVal.one (.atom .nilFunc) = true := (rfl)
@[simp] theorem one_nili : AVal.one (.atom .nilIface) = true := (rfl)
@[simp] theorem one_str : AVal.one (.str l) = true := (rfl)
@[simp] theorem one_list : AVal.one (.list fl es) = true := (rfl)
@[simp] theorem one_nils : AVal.one .nilS = true := (rfl)
@[simp] theorem cellsOf_nils : cellsOf false .nilS = some [.nilS] := (rfl)
@[simp] theorem lenR_nils : lenR S .nilS = .ok true (.int 0) S := (rfl)
@[simp] theorem elemsOf_nils : elemsOf S .nilS = some (true, []) := (rfl)
@[simp] theorem srcOf_nils : srcOf S .nilS = some (true, []) := (rfl)
@[simp] theorem isNil_nils' : isNil .slice .nilS = some true := (rfl)
@[simp] theorem one_row : AVal.one (.row id off len) = true := (rfl)
@[simp] theorem one_ptr : AVal.one (.ptr id i j) = true := (rfl)
@[simp] theorem one_fptr : AVal.one (.fptr es i j) = true := (rfl)
@[simp] theorem one_mapv : AVal.one (.mapv id) = true := (rfl)
@[simp] theorem one_clo : AVal.one (.clo fn c c') = true := (rfl)
@[simp] theorem one_iface : AVal.one (.iface t u) = true := (rfl)
@[simp] theorem cellsOf_agg : cellsOf true (.agg cs) = some cs := (rfl)
@[simp] theorem cellsOf_atom : cellsOf false (.atom x) = some [.atom x] := (rfl)
@[simp] theorem cellsOf_str : cellsOf false (.str l) = some [.str l] := (rfl)
@[simp] theorem cellsOf_list : cellsOf false (.list fl es) = some [.list fl es] := (rfl)
@[simp] theorem cellsOf_row : cellsOf false (.row id off len) = some [.row id off len] := (rfl)
@[simp] theorem cellsOf_ptr : cellsOf false (.ptr id i j) = some [.ptr id i j] := (rfl)
@[simp] theorem cellsOf_fptr : cellsOf false (.fptr es i j) = some [.fptr es i j] := (rfl)
@[simp] theorem cellsOf_mapv : cellsOf false (.mapv id) = some [.mapv id] := (rfl)
@[simp] theorem cellsOf_clo : cellsOf false (.clo fn c c') = some [.clo fn c c'] := (rfl)
@[simp] theorem cellsOf_iface : cellsOf false (.iface t u) = some [.iface t u] := (rfl)
@[simp] theorem cellsOf_one (h : v.one = true) : cellsOf false v = some [v] := by cases v <;> first | rfl | cases h
@[simp] theorem loadR_ptr : loadR agg k S (.ptr id i j) = (match S[id]? with
  | some (.cells _ es _) => .ok (decide (i < es.length) && decide (j + k ≤ (es.getD i []).length)) (takeAt agg k (es.getD i []) j) S
  | _ => .fail) := (rfl)
@[simp] theorem loadR_fptr : loadR agg k S (.fptr es i j) = .ok (decide (i < es.length) && decide (j + k ≤ (es.getD i []).length)) (takeAt agg k (es.getD i []) j) S := (rfl)
@[simp] theorem storeR_ptr : storeR agg k S (.ptr id i j) v = (match cellsOf agg v with
  | some cs => match S[id]? with
    | some (.cells k0 es cap) => .ok (cs.all AVal.one && decide (cs.length = k) && decide (i < es.length) && decide (j + k ≤ k0)) .undef (S.set id (.cells k0 (es.set i (if k = k0 then cs else putAt (es.getD i []) j cs)) cap))
    | _ => .fail
  | none => .fail) := by
 unfold storeR
 cases h : cellsOf agg v <;> rfl
@[simp] theorem takeAt_true : takeAt true k cs j = .agg (if j = 0 ∧ cs.length = k then cs else (cs.drop j).take k) := (rfl)
@[simp] theorem takeAt_false : takeAt false k cs j = cs.getD j .top := (rfl)
@[simp] theorem putAt_one : putAt cs j [v] = cs.set j v := (rfl)
@[simp] theorem lenR_list : lenR S (.list fl es) = .ok true (.int es.length) S := (rfl)
@[simp] theorem lenR_row : lenR S (.row id off len) = .ok true (.int len) S := (rfl)
@[simp] theorem elemsOf_list : elemsOf S (.list fl es) = some (true, es) := (rfl)
@[simp] theorem elemsOf_row : elemsOf S (.row id off len) = (match S[id]? with
  | some (.cells _ es _) => some (decide (off + len ≤ es.length), (es.drop off).take len)
  | _ => none) := (rfl)
@[simp] theorem srcOf_str : srcOf S (.str l) = some (true, l.map u8) := (rfl)
@[simp] theorem srcOf_list : srcOf S (.list fl es) = some (true, es) := (rfl)
@[simp] theorem srcOf_row : srcOf S (.row id off len) = (match S[id]? with
  | some (.cells _ es _) => some (decide (off + len ≤ es.length), (es.drop off).take len)
  | _ => none) := (rfl)
@[simp] theorem asI_int {kd : IntKind} {z : Int} : asI (.atom (.int kd z)) = some z := (rfl)
@[simp] theorem iaddrR_list {z : Int} : iaddrR k S (.list fl es) (.int z) = .ok (decide (0 ≤ z ∧ z < es.length) && decide ((es.getD z.toNat []).length = k)) (.fptr es z.toNat 0) S := (rfl)
@[simp] theorem iaddrR_row {z : Int} : iaddrR k S (.row id off len) (.int z) = (match S[id]? with
  | some (.cells k0 _ _) => .ok (decide (0 ≤ z ∧ z < len) && decide (k0 = k)) (.ptr id (off + z.toNat) 0) S
  | _ => .fail) := (rfl)
@[simp] theorem addOff_ptr : addOff off S (.ptr id i j) = .ok true (.ptr id i (j + off)) S := (rfl)
@[simp] theorem addOff_fptr : addOff off S (.fptr es i j) = .ok true (.fptr es i (j + off)) S := (rfl)
@[simp] theorem isNil_nils : isNil .slice (.list .nil []) = some true := (rfl)
@[simp] theorem isNil_full : isNil .slice (.list .full es) = some false := (rfl)
@[simp] theorem isNil_any : isNil .slice (.list .any es) = some false := (rfl)
theorem isNil_row {id off len : Nat} (h : 0 < len) : isNil .slice (.row id off len) = some false := by
 cases len with
 | zero => omega
 | succ n => rfl
@[simp] theorem isNil_ptr : isNil .ptr (.ptr id i j) = some false := (rfl)
@[simp] theorem isNil_fptr : isNil .ptr (.fptr es i j) = some false := (rfl)
@[simp] theorem isNil_nilp : isNil .ptr (.atom (.pointer none)) = some true := (rfl)
@[simp] theorem isNil_nilf : isNil .func (.atom .nilFunc) = some true := (rfl)
@[simp] theorem isNil_clo : isNil .func (.clo fn c c') = some false := (rfl)
@[simp] theorem isNil_nili : isNil (.iface b) (.atom .nilIface) = some true := (rfl)
@[simp] theorem isNil_iface : isNil (.iface b) (.iface t u) = some false := (rfl)
end
attribute [simp] enum fillR fillS resPost resL resV one appendR slcR bound Fl.isFull Fl.non Fl.with mkslR AEnd.sc AVal.sc scL scLL AEnd.fz AVal.fz fzL
theorem mwp_loop {P : Program} {β : Base} {body : MC} {Q : AExit → Tmps → Heap → Prop} (I : Nat → Tmps → Heap → Prop) {n : Nat} {a : Tmps} {S : Heap} (h0 : I n a S)
  (h : ∀ n a S, I n a S → mwp (ACalls P β) body (fun e a' S' => match e with | .normal => ∃ n', n' < n ∧ I n' a' S' | e => Q e a' S') a S) : mwp (ACalls P β) (.loop body) Q a S := by
 let R : Nat → Tmps → Heap → Prop := fun n => Nat.rec (motive := fun _ => Tmps → Heap → Prop) (fun _ _ => False) (fun _ R a S => mwp (ACalls P β) body (fun e a' S' => match e with | .normal => R a' S' | e => Q e a' S') a S) n
 have hm : ∀ f args S (R R' : AEnd → Heap → Prop), (∀ e S', R e S' → R' e S') → ACalls P β f args S R → ACalls P β f args S R' := fun f args S R R' hr h => h.mono hr
 have up : ∀ k a S, R k a S → R (k + 1) a S := by
  intro k
  induction k with
  | zero => intro a S h; exact h.elim
  | succ k ih =>
    intro a S h
    exact mwp_mono _ body hm (fun e a S h => by cases e <;> first | exact ih _ _ h | exact h) h
 have ups : ∀ d k a S, R k a S → R (k + d) a S := by
  intro d
  induction d with
  | zero => intro k a S h; exact h
  | succ d ih => intro k a S h; exact up _ _ _ (ih _ _ _ h)
 have key : ∀ n a S, I n a S → R (n + 1) a S := by
  intro n
  induction n using Nat.strongRecOn with
  | _ n ih =>
    intro a S hI
    refine mwp_mono _ body hm (fun e a' S' he => ?_) (h n a S hI)
    cases e with
    | normal =>
      obtain ⟨n', hlt, hI'⟩ := he
      have := ups (n - (n' + 1)) (n' + 1) a' S' (ih n' hlt a' S' hI')
      rw [show n' + 1 + (n - (n' + 1)) = n by omega] at this
      exact this
    | _ => exact he
 exact ⟨n + 1, key n a S h0⟩
theorem ACalls.use {P : Program} {β : Base} {f args S} {R R' : AEnd → Heap → Prop} (h : ACalls P β f args S R) (hr : ∀ e S', R e S' → R' e S') : ACalls P β f args S R' := h.mono hr
end Go.Abs
