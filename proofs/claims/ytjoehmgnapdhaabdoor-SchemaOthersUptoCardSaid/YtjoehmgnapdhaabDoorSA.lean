/- Walks over descriptions. Conditions: none but the lengths; definitions and lemmas. -/
import Derived.Test.YtjoehmgnapdhaabDoorF3
import Derived.Test.YtjoehmgnapdhaabDoorLA
set_option linter.unusedSimpArgs false
set_option linter.unusedVariables false
namespace Go.Abs
open Go Go.RowKit Go.Proofs Go.Lx
variable {w0 : World}

structure Col where
  name : Bs
  type : Int
  req : Bool
  deriving DecidableEq
structure Idx where
  name : Bs
  cols : List Int
  uniq : Bool
  deriving DecidableEq
structure Tbl where
  name : Bs
  cols : List Col
  idxs : List Idx
  deriving DecidableEq

def hasN (x : Bs) (cs : List Col) : Bool := decide (x ∈ cs.map (·.name))
def hasI (x : Bs) (cs : List Idx) : Bool := decide (x ∈ cs.map (·.name))
def hasK (x : Int) (cs : List Int) : Bool := decide (x ∈ cs)
def keysGo (n : Nat) : List Int → List Int → Int
  | _, [] => 0
  | pre, c :: r => if c < 0 ∨ (n : Int) ≤ c then 161 else if hasK c pre = true then 163 else keysGo n (pre ++ [c]) r
def colsGo : List Col → List Col → Int
  | _, [] => 0
  | pre, c :: r => if nameB c.name = false then 150 else if c.type < 1 ∨ 4 < c.type then 30 else if hasN c.name pre = true then 163 else colsGo (pre ++ [c]) r
def idxOne (n : Nat) (pre : List Idx) (x : Idx) : Int :=
  if nameB x.name = false then 150 else if hasI x.name pre = true then 163 else if x.cols.length < 1 ∨ 4 < x.cols.length then 151 else keysGo n [] x.cols
def idxGo (n : Nat) : List Idx → List Idx → Int
  | _, [] => 0
  | pre, x :: r => if idxOne n pre x = 0 then idxGo n (pre ++ [x]) r else idxOne n pre x
def colsErr (cs : List Col) : Int := if cs.length < 1 ∨ 16 < cs.length then 151 else colsGo [] cs
def checkT (t : Tbl) : Int :=
  if nameB t.name = false then 150 else if colsErr t.cols = 0 then (if 8 < t.idxs.length then 151 else idxGo t.cols.length [] t.idxs) else colsErr t.cols

/-! ### As the machine has them -/
def colC (c : Col) : List AVal := [.str c.name, .int c.type, .bool c.req]
def colsC (cs : List Col) : List (List AVal) := cs.map colC
@[simp] theorem colsC_len (cs : List Col) : (colsC cs).length = cs.length := by simp [colsC]
theorem colsC_get (cs : List Col) (i : Nat) (h : i < cs.length) : (colsC cs).getD i [] = colC cs[i] := by rw [getD_eq _ _ _ (by simpa using h)]; simp [colsC]
theorem colsC_k (cs : List Col) : ∀ e ∈ colsC cs, e.length = 3 := by simp [colsC, colC]

def AVal.slc : AVal → Bool
  | .list .nil _ => false
  | _ => true
/-- A slice that can be read, and sliced. -/
structure Rs (k : Nat) (S : Heap) (v : AVal) (es : List (List AVal)) : Prop where
  rk : Rk k S v es
  s : es ≠ [] → v.slc = true
theorem Rs.more {k S v es} (h : Rs k S v es) (g : Heap) : Rs k (S ++ g) v es := ⟨h.rk.more g, h.s⟩

theorem Rs.upto {k S v es} (h : Rs k S v es) (hk : ∀ e ∈ es, e.length = k) {n : Nat} (hn : n < es.length) :
    ∃ v', (∀ a x, ev a x = .int n → slcR k a S v none (some x) none = .ok true v' S) ∧ Rs k S v' (es.take n) := by
  obtain ⟨h, hs⟩ := h
  have hne : es ≠ [] := by intro e; subst e; simp at hn
  have hs := hs hne
  cases h with
  | nils => simp at hn
  | list fl =>
    have key : fl ≠ .nil := by rintro rfl; simp [AVal.slc] at hs
    refine ⟨.list (fl.with (decide (n = es.length) && fl.isFull)) (es.take n), fun a x hx => ?_, .list _ _, fun _ => ?_⟩
    · have h0 : (es.getD 0 []).length = k := by rw [getD_eq _ _ _ (by omega)]; exact hk _ (List.getElem_mem _)
      have h1 : n ≤ es.length := by omega
      have h2 : (0 : Int) ≤ (n : Int) := by omega
      cases fl with
      | nil => exact absurd rfl key
      | _ =>
        simp only [slcR, bound, hx, AVal.int, h2, if_true, Int.toNat_natCast, List.drop_zero]
        simp only [h0, Nat.zero_le, h1, decide_true, Bool.and_self, Bool.or_true]
    · cases fl with
      | nil => exact absurd rfl key
      | _ => cases decide (n = es.length) <;> rfl
  | row id off len es0 cap hS hl =>
    have hlen : ((es0.drop off).take len).length = len := by simp; omega
    rw [hlen] at hn
    refine ⟨.row id off n, ?_, ?_, fun _ => rfl⟩
    · intro a x hx; simp [slcR, bound, hx, hS]; omega
    · have := Rk.row (k := k) (S := S) id off n es0 cap hS (by omega)
      rw [List.take_take, Nat.min_eq_left (by omega)]; exact this

theorem Rk.col {S v cs} (h : Rk 3 S v (colsC cs)) {i : Nat} (hi : i < cs.length) : ∃ p, iaddrR 3 S v (.int i) = .ok true p S ∧ loadR true 3 S p = .ok true (.agg (colC cs[i])) S ∧
    ∃ p0, addOff 0 S p = .ok true p0 S ∧ loadR false 1 S p0 = .ok true (.str cs[i].name) S ∧ ∃ p1, addOff 1 S p = .ok true p1 S ∧ loadR false 1 S p1 = .ok true (.int cs[i].type) S := by
  obtain ⟨p, h1, h2, h3⟩ := h.elem (i := i) (by simpa using hi) (by rw [colsC_get _ _ hi]; rfl)
  obtain ⟨p0, a0, b0⟩ := h3 0
  obtain ⟨p1, a1, b1⟩ := h3 1
  refine ⟨p, h1, ?_, p0, a0, ?_, p1, a1, ?_⟩
  · rw [h2 true 3 (Nat.le_refl _), colsC_get _ _ hi]; rfl
  · rw [b0 false 1 (by omega), colsC_get _ _ hi]; rfl
  · rw [b1 false 1 (by omega), colsC_get _ _ hi]; rfl

/-- The heap has grown. -/
def Ab (S S' : Heap) : Prop := S.length ≤ S'.length ∧ S'.take S.length = S
theorem Ab.refl (S : Heap) : Ab S S := ⟨Nat.le_refl _, List.take_length⟩
theorem Ab.more {S S' : Heap} (h : Ab S S') (g : Heap) : Ab S (S' ++ g) := ⟨by simp; have := h.1; omega, by rw [List.take_append_of_le_length h.1]; exact h.2⟩
theorem Ab.rk {S S' : Heap} {k v es} (h : Ab S S') (hr : Rk k S v es) : Rk k S' v es := by
  have e : S' = S ++ S'.drop S.length := by conv => lhs; rw [← List.take_append_drop S.length S', h.2]
  rw [e]; exact hr.more _
theorem Ab.rs {S S' : Heap} {k v es} (h : Ab S S') (hr : Rs k S v es) : Rs k S' v es := ⟨h.rk hr.rk, hr.s⟩

/-! ### Columns -/
theorem w56 {S : Heap} {id : Nat} {cap : Option Nat} {c : Col} (hS : S[id]? = some (.cells 3 [colC c] cap)) (x : Col) :
    ACalls Tryd.prog (B0 w0) 56 [.agg (colC x), .ptr id 0 0] S fun e S' => e = .ret (.bool (decide (x.name = c.name))) ∧ S' = S := by
  refine ACalls.close (R := fun e S' => e = .ret (.bool (decide (x.name = c.name))) ∧ S'.take S.length = S) ?_ ?_
  rotate_left 1
  · rintro e S' ⟨rfl, ht⟩
    exact .flat ht rfl ⟨rfl, rfl⟩
  have hlt := lt_of_some hS
  have hS2 : (S ++ [AObj.cells 3 [colC x] (some 1)])[id]? = some (.cells 3 [colC c] cap) := by rw [List.getElem?_append_left hlt]; exact hS
  refine fn_sound tryOrd (f56_c _) (by simp [f56]) ?_
  simp only [colC] at hS2 ⊢
  simp [f56, f56m, hS2]

theorem w28 {S : Heap} {id : Nat} {cap : Option Nat} {c : Col} (hS : S[id]? = some (.cells 3 [colC c] cap)) {v : AVal} {cs : List Col} (hv : Rk 3 S v (colsC cs)) (hl : cs.length ≤ 4611686018427387900) :
    ACalls Tryd.prog (B0 w0) 28 [v, .clo (.func 56) [] [.ptr id 0 0]] S fun e S' => ∃ z : Int, e = .ret (.int z) ∧ decide (0 ≤ z) = hasN c.name cs ∧ S' = S := by
  refine fn_sound tryOrd (f28_c _) (by simp [f28]) ?_
  have hlen := hv.lenR
  simp at hlen
  simp [f28, f28m, hlen]
  refine mwp_loop (I := fun n a S' => ∃ i : Nat, n = cs.length - i ∧ i ≤ cs.length ∧ get a 0 = v ∧ get a 1 = .clo (.func 56) [] [.ptr id 0 0] ∧ get a 7 = .int cs.length ∧ get a 8 = .int i ∧ S' = S ∧ c.name ∉ (cs.map (·.name)).take i) (n := cs.length) ?_ ?_
  · exact ⟨0, rfl, Nat.zero_le _, rfl, rfl, rfl, rfl, rfl, by simp⟩
  rintro n a S' ⟨i, rfl, hi, a0, a1, a7, a8, rfl, hnot⟩
  by_cases hlt : i < cs.length
  · obtain ⟨p, q1, q2, _⟩ := hv.col hlt
    have w56' := w56 (w0 := w0) hS cs[i]
    simp [f28b0, a0, a1, a7, a8, hlt, q1, q2]
    refine w56'.use ?_
    rintro e S1 ⟨rfl, rfl⟩
    by_cases hx : cs[i].name = c.name
    · have hm : c.name ∈ cs.map (·.name) := List.mem_map.2 ⟨cs[i], List.getElem_mem hlt, hx⟩
      have h0 : (0 : Int) ≤ (i : Int) := by omega
      have hm' : hasN c.name cs = true := decide_eq_true hm
      simp [hx, a0, a1, a7, a8, h0, hm']
    · have hx' : (cs.map (·.name))[i]'(by simpa using hlt) ≠ c.name := by simpa using hx
      simp [hx, a0, a1, a7, a8, wrapS i (by omega)]
      have := not_mem_take_succ hnot (by simpa using hlt) hx'
      exact ⟨cs.length - (i + 1), by omega, i + 1, rfl, by omega, by simp, by simpa using this⟩
  · have : i = cs.length := by omega
    subst this
    have hno : c.name ∉ cs.map (·.name) := by rwa [List.take_of_length_le (by simp)] at hnot
    have hm' : hasN c.name cs = false := decide_eq_false hno
    simp [f28b0, a0, a1, a7, a8, hm']

theorem w55 {S : Heap} {id : Nat} {cap : Option Nat} {c : Col} (hS : S[id]? = some (.cells 3 [colC c] cap)) {v : AVal} {cs : List Col} (hv : Rk 3 S v (colsC cs)) (hl : cs.length ≤ 4611686018427387900) :
    ACalls Tryd.prog (B0 w0) 55 [v, .clo (.func 56) [] [.ptr id 0 0]] S fun e S' => e = .ret (.bool (hasN c.name cs)) ∧ S' = S := by
  refine fn_sound tryOrd (f55_c _) (by simp [f55]) ?_
  simp [f55, f55m]
  refine (w28 hS hv hl).use ?_
  rintro e S1 ⟨z, rfl, hz, rfl⟩
  simp [hz]

theorem colsGo_step (cs : List Col) (i : Nat) (h : i < cs.length) : colsGo (cs.take i) (cs.drop i) =
    if nameB cs[i].name = false then 150 else if cs[i].type < 1 ∨ 4 < cs[i].type then 30 else if hasN cs[i].name (cs.take i) = true then 163 else colsGo (cs.take (i + 1)) (cs.drop (i + 1)) := by
  rw [List.drop_eq_getElem_cons h, colsGo, List.take_add_one, List.getElem?_eq_getElem h]
  rfl

set_option maxHeartbeats 1000000 in
/-- checkColumns. -/
theorem w33 {S : Heap} {v : AVal} {cs : List Col} (hv : Rs 3 S v (colsC cs)) : ACalls Tryd.prog (B0 w0) 33 [v] S fun e S' => e = .ret (.int (colsErr cs)) ∧ S' = S := by
  refine ACalls.close (R := fun e S' => e = .ret (.int (colsErr cs)) ∧ S'.take S.length = S) ?_ ?_
  rotate_left 1
  · rintro e S' ⟨rfl, ht⟩
    exact .flat ht rfl ⟨rfl, rfl⟩
  have hlen := hv.rk.lenR
  simp at hlen
  refine fn_sound tryOrd (f33_c _) (by simp [f33]) ?_
  by_cases h1 : cs.length < 1
  · have h1' : (cs.length : Int) < 1 := by omega
    simp [f33, f33m, hlen, h1', colsErr, h1]
  have h1' : ¬ (cs.length : Int) < 1 := by omega
  by_cases h2 : 16 < cs.length
  · have h2' : (16 : Int) < (cs.length : Int) := by omega
    simp [f33, f33m, hlen, h1', h2', colsErr, h2]
  have h2' : ¬ (16 : Int) < (cs.length : Int) := by omega
  have he : colsErr cs = colsGo [] cs := by rw [colsErr, if_neg (by omega)]
  rw [he]
  obtain ⟨out, hout⟩ : ∃ out, out = colsGo [] cs := ⟨_, rfl⟩
  rw [← hout]
  simp [f33, f33m, hlen, h1', h2']
  refine mwp_loop (I := fun n a S' => ∃ i : Nat, n = cs.length - i ∧ i ≤ cs.length ∧ get a 0 = v ∧ get a 13 = v ∧ get a 14 = .int cs.length ∧ get a 15 = .int i ∧ Ab S S' ∧ out = colsGo (cs.take i) (cs.drop i)) (n := cs.length) ?_ ?_
  · exact ⟨0, rfl, Nat.zero_le _, rfl, rfl, rfl, rfl, Ab.refl S, by simpa using hout⟩
  rintro n a S' ⟨i, rfl, hi, a0, a13, a14, a15, hab, hspec⟩
  by_cases hlt : i < cs.length
  · rw [colsGo_step cs i hlt] at hspec
    have hv2 := hab.rs hv
    obtain ⟨p, q1, q2, _⟩ := hv2.rk.col hlt
    have w32' := fun S => w32 (w0 := w0) cs[i].name S
    obtain ⟨u, hu, hru⟩ := (hv2.more [.cells 3 [colC cs[i]] (some 1)]).upto (colsC_k cs) (n := i) (by simpa using hlt)
    have e1 : (colsC cs).take i = colsC (cs.take i) := by simp [colsC, List.map_take]
    rw [e1] at hru
    have w55' := w55 (w0 := w0) (c := cs[i]) (id := S'.length) (cap := some 1) (S := S' ++ [.cells 3 [colC cs[i]] (some 1)]) (by simp) hru.rk (by simp; omega)
    have hab2 := (hab.more [.cells 3 [colC cs[i]] (some 1)]).2
    have hab3 := hab.more [.cells 3 [colC cs[i]] (some 1)]
    simp only [colC] at q2 hu w55' hab2 hab3
    simp [f33b0, a0, a13, a14, a15, hlt, q1, q2]
    refine (w32' _).use ?_
    rintro e S1 ⟨rfl, rfl⟩
    by_cases hn : nameB cs[i].name = true
    rotate_left 1
    · have hn' : nameB cs[i].name = false := by simpa using hn
      rw [if_pos hn'] at hspec
      simp [hn', hab2, hspec]
    rw [if_neg (by simp [hn])] at hspec
    by_cases ht1 : cs[i].type < 1
    · rw [if_pos (.inl ht1)] at hspec
      simp [hn, ht1, hab2, hspec]
    by_cases ht4 : 4 < cs[i].type
    · rw [if_pos (.inr ht4)] at hspec
      simp [hn, ht1, ht4, hab2, hspec]
    rw [if_neg (by omega)] at hspec
    simp [-slcR, hn, ht1, ht4, a0, hu]
    refine w55'.use ?_
    rintro e S1 ⟨rfl, rfl⟩
    by_cases hm : hasN cs[i].name (cs.take i) = true
    · rw [if_pos hm] at hspec
      simp [hm, hab2, hspec]
    · rw [if_neg hm] at hspec
      simp [hm, a0, a13, a14, a15, wrapS i (by omega)]
      exact ⟨cs.length - (i + 1), by omega, i + 1, rfl, by omega, by simp, hab3, hspec⟩
  · have : i = cs.length := by omega
    subst this
    rw [List.drop_length, colsGo] at hspec
    rw [hspec]
    simp [f33b0, a0, a13, a14, a15, hab.2]
end Go.Abs
set_option linter.unusedSimpArgs false
set_option linter.unusedVariables false
namespace Go.Abs
open Go Go.RowKit Go.Proofs Go.Lx
variable {w0 : World}

theorem Rk.isOne {k S v es} (h : Rk k S v es) : v.one = true := by cases h <;> rfl
theorem Ab.get {S S' : Heap} (h : Ab S S') {i : Nat} (hi : i < S.length) : S'[i]? = S[i]? := by
  have e : S' = S ++ S'.drop S.length := by conv => lhs; rw [← List.take_append_drop S.length S', h.2]
  rw [e, List.getElem?_append_left hi]
theorem Ab.trans {S S' S'' : Heap} (h : Ab S S') (h' : Ab S' S'') : Ab S S'' := by
  refine ⟨by have := h.1; have := h'.1; omega, ?_⟩
  have := congrArg (List.take S.length) h'.2
  rwa [List.take_take, Nat.min_eq_left h.1, h.2] at this
theorem Ab.start (S g : Heap) : Ab S (S ++ g) := (Ab.refl S).more g

def IdxV (S : Heap) (x : Idx) (av : List AVal) : Prop := ∃ w, av = [.str x.name, w, .bool x.uniq] ∧ Rs 1 S w (ints x.cols)
def IdxsV (S : Heap) (xs : List Idx) (es : List (List AVal)) : Prop := es.length = xs.length ∧ ∀ i (h : i < xs.length), IdxV S xs[i] (es.getD i [])
theorem Ab.idxs {S S' : Heap} {xs es} (h : Ab S S') (hx : IdxsV S xs es) : IdxsV S' xs es :=
  ⟨hx.1, fun i hi => by obtain ⟨w, e, hr⟩ := hx.2 i hi; exact ⟨w, e, h.rs hr⟩⟩
theorem IdxsV.k {S xs es} (h : IdxsV S xs es) : ∀ e ∈ es, e.length = 3 := by
  intro e he
  obtain ⟨i, hi, rfl⟩ := List.getElem_of_mem he
  obtain ⟨w, e1, _⟩ := h.2 i (by rw [← h.1]; exact hi)
  rw [getD_eq _ _ _ hi] at e1
  rw [e1]; rfl
theorem ints_k (l : List Int) : ∀ e ∈ ints l, e.length = 1 := by simp [ints]
theorem ints_take (l : List Int) (n : Nat) : (ints l).take n = ints (l.take n) := by simp [ints, List.map_take]

/-! ### Names of indexes -/
theorem w35 {S : Heap} {id : Nat} {cap : Option Nat} {m : Bs} {w' u' : AVal} (hS : S[id]? = some (.cells 3 [[.str m, w', u']] cap)) (n : Bs) (w : AVal) (u : Bool) (hw : w.one = true) :
    ACalls Tryd.prog (B0 w0) 35 [.agg [.str n, w, .bool u], .ptr id 0 0] S fun e S' => e = .ret (.bool (decide (n = m))) ∧ S' = S := by
  refine ACalls.close (R := fun e S' => e = .ret (.bool (decide (n = m))) ∧ S'.take S.length = S) ?_ ?_
  rotate_left 1
  · rintro e S' ⟨rfl, ht⟩
    exact .flat ht rfl ⟨rfl, rfl⟩
  have hlt := lt_of_some hS
  have hS2 : (S ++ [AObj.cells 3 [[.str n, w, .bool u]] (some 1)])[id]? = some (.cells 3 [[.str m, w', u']] cap) := by rw [List.getElem?_append_left hlt]; exact hS
  refine fn_sound tryOrd (f35_c _) (by simp [f35]) ?_
  simp [f35, f35m, hS2, hw]

theorem w57 {S : Heap} {id : Nat} {cap : Option Nat} {m : Bs} {w' u' : AVal} (hS : S[id]? = some (.cells 3 [[.str m, w', u']] cap)) {v : AVal} {xs : List Idx} {es : List (List AVal)} (hv : Rk 3 S v es) (hx : IdxsV S xs es) (hl : xs.length ≤ 4611686018427387900) :
    ACalls Tryd.prog (B0 w0) 57 [v, .clo (.func 35) [] [.ptr id 0 0]] S fun e S' => ∃ z : Int, e = .ret (.int z) ∧ decide (0 ≤ z) = hasI m xs ∧ S' = S := by
  refine fn_sound tryOrd (f57_c _) (by simp [f57]) ?_
  have hlen := hv.lenR
  rw [hx.1] at hlen
  simp [f57, f57m, hlen]
  refine mwp_loop (I := fun n a S' => ∃ i : Nat, n = xs.length - i ∧ i ≤ xs.length ∧ get a 0 = v ∧ get a 1 = .clo (.func 35) [] [.ptr id 0 0] ∧ get a 7 = .int xs.length ∧ get a 8 = .int i ∧ S' = S ∧ m ∉ (xs.map (·.name)).take i) (n := xs.length) ?_ ?_
  · exact ⟨0, rfl, Nat.zero_le _, rfl, rfl, rfl, rfl, rfl, by simp⟩
  rintro n a S' ⟨i, rfl, hi, a0, a1, a7, a8, rfl, hnot⟩
  by_cases hlt : i < xs.length
  · obtain ⟨w, ew, hw⟩ := hx.2 i hlt
    obtain ⟨p, q1, q2, _⟩ := hv.elem (i := i) (by rw [hx.1]; exact hlt) (by rw [ew]; rfl)
    have q2 := q2 true 3 (Nat.le_refl _)
    rw [ew] at q2
    have w35' := w35 (w0 := w0) hS xs[i].name w xs[i].uniq hw.rk.isOne
    simp at q2
    simp [f57b0, a0, a1, a7, a8, hlt, q1, q2]
    refine w35'.use ?_
    rintro e S1 ⟨rfl, rfl⟩
    by_cases hxm : xs[i].name = m
    · have hm : m ∈ xs.map (·.name) := List.mem_map.2 ⟨xs[i], List.getElem_mem hlt, hxm⟩
      have h0 : (0 : Int) ≤ (i : Int) := by omega
      have hm' : hasI m xs = true := decide_eq_true hm
      simp [hxm, a0, a1, a7, a8, h0, hm']
    · have hx' : (xs.map (·.name))[i]'(by simpa using hlt) ≠ m := by simpa using hxm
      simp [hxm, a0, a1, a7, a8, wrapS i (by omega)]
      have := not_mem_take_succ hnot (by simpa using hlt) hx'
      exact ⟨xs.length - (i + 1), by omega, i + 1, rfl, by omega, by simp, by simpa using this⟩
  · have : i = xs.length := by omega
    subst this
    have hno : m ∉ xs.map (·.name) := by rwa [List.take_of_length_le (by simp)] at hnot
    have hm' : hasI m xs = false := decide_eq_false hno
    simp [f57b0, a0, a1, a7, a8, hm']

theorem w34 {S : Heap} {id : Nat} {cap : Option Nat} {m : Bs} {w' u' : AVal} (hS : S[id]? = some (.cells 3 [[.str m, w', u']] cap)) {v : AVal} {xs : List Idx} {es : List (List AVal)} (hv : Rk 3 S v es) (hx : IdxsV S xs es) (hl : xs.length ≤ 4611686018427387900) :
    ACalls Tryd.prog (B0 w0) 34 [v, .clo (.func 35) [] [.ptr id 0 0]] S fun e S' => e = .ret (.bool (hasI m xs)) ∧ S' = S := by
  refine fn_sound tryOrd (f34_c _) (by simp [f34]) ?_
  simp [f34, f34m]
  refine (w57 hS hv hx hl).use ?_
  rintro e S1 ⟨z, rfl, hz, rfl⟩
  simp [hz]

/-! ### Numbers of columns -/
theorem w58 {S : Heap} {v : AVal} {l : List Int} {x : Int} (hv : Rk 1 S v (ints l)) (hl : l.length ≤ 4611686018427387900) : ACalls Tryd.prog (B0 w0) 58 [v, .int x] S fun e S' => ∃ z : Int, e = .ret (.int z) ∧ decide (0 ≤ z) = hasK x l ∧ S' = S := by
  refine fn_sound tryOrd (f58_c _) (by simp [f58]) ?_
  have hlen := hv.lenR
  simp at hlen
  simp [f58, f58m, hlen]
  refine mwp_loop (I := fun n a S' => ∃ i : Nat, n = l.length - i ∧ i ≤ l.length ∧ get a 0 = v ∧ get a 1 = .int x ∧ get a 7 = .int l.length ∧ get a 8 = .int i ∧ S' = S ∧ x ∉ l.take i) (n := l.length) ?_ ?_
  · exact ⟨0, rfl, Nat.zero_le _, rfl, rfl, rfl, rfl, rfl, by simp⟩
  rintro n a S' ⟨i, rfl, hi, a0, a1, a7, a8, rfl, hnot⟩
  by_cases hlt : i < l.length
  · obtain ⟨p, q1, q2⟩ := hv.int hlt
    by_cases hx : x = l[i]
    · have hm : hasK x l = true := decide_eq_true (hx ▸ List.getElem_mem hlt)
      have h0 : (0 : Int) ≤ (i : Int) := by omega
      have hb : (x == l[i]) = true := by simp [hx]
      simp [f58b0, a0, a1, a7, a8, hlt, q1, q2, hb, h0, hm]
    · have hb : (x == l[i]) = false := beq_eq_false_iff_ne.2 hx
      simp [f58b0, a0, a1, a7, a8, hlt, q1, q2, hb, wrapS i (by omega)]
      exact ⟨l.length - (i + 1), by omega, i + 1, rfl, by omega, by simp, not_mem_take_succ hnot hlt (fun e => hx e.symm)⟩
  · have : i = l.length := by omega
    subst this
    rw [List.take_length] at hnot
    have hm : hasK x l = false := decide_eq_false hnot
    simp [f58b0, a0, a1, a7, a8, hm]
theorem w36 {S : Heap} {v : AVal} {l : List Int} {x : Int} (hv : Rk 1 S v (ints l)) (hl : l.length ≤ 4611686018427387900) : ACalls Tryd.prog (B0 w0) 36 [v, .int x] S fun e S' => e = .ret (.bool (hasK x l)) ∧ S' = S := by
  refine fn_sound tryOrd (f36_c _) (by simp [f36]) ?_
  simp [f36, f36m]
  refine (w58 hv hl).use ?_
  rintro e S1 ⟨z, rfl, hz, rfl⟩
  simp [hz]

/-! ### Tables -/
def TblV (S : Heap) (T : Tbl) (av : List AVal) : Prop := ∃ vc vi es, av = [.str T.name, vc, vi] ∧ Rs 3 S vc (colsC T.cols) ∧ Rs 3 S vi es ∧ IdxsV S T.idxs es
theorem Ab.tbl {S S' : Heap} {T av} (h : Ab S S') (ht : TblV S T av) : TblV S' T av := by
  obtain ⟨vc, vi, es, e, h1, h2, h3⟩ := ht
  exact ⟨vc, vi, es, e, h.rs h1, h.rs h2, h.idxs h3⟩

theorem idxGo_step (n : Nat) (xs : List Idx) (i : Nat) (h : i < xs.length) : idxGo n (xs.take i) (xs.drop i) =
    if idxOne n (xs.take i) xs[i] = 0 then idxGo n (xs.take (i + 1)) (xs.drop (i + 1)) else idxOne n (xs.take i) xs[i] := by
  rw [List.drop_eq_getElem_cons h, idxGo, List.take_add_one, List.getElem?_eq_getElem h]
  rfl
theorem keysGo_step (n : Nat) (l : List Int) (i : Nat) (h : i < l.length) : keysGo n (l.take i) (l.drop i) =
    if l[i] < 0 ∨ (n : Int) ≤ l[i] then 161 else if hasK l[i] (l.take i) = true then 163 else keysGo n (l.take (i + 1)) (l.drop (i + 1)) := by
  rw [List.drop_eq_getElem_cons h, keysGo, List.take_add_one, List.getElem?_eq_getElem h]
  rfl

set_option maxHeartbeats 4000000 in
/-- Check. -/
theorem w11 {S : Heap} {T : Tbl} {av : List AVal} (ht : TblV S T av) : ACalls Tryd.prog (B0 w0) 11 [.agg av] S fun e S' => e = .ret (.int (checkT T)) ∧ S' = S := by
  refine ACalls.close (R := fun e S' => e = .ret (.int (checkT T)) ∧ S'.take S.length = S) ?_ ?_
  rotate_left 1
  · rintro e S' ⟨rfl, ht⟩
    exact .flat ht rfl ⟨rfl, rfl⟩
  obtain ⟨vc, vi, es, rfl, hc, hi, hx⟩ := ht
  have oc := hc.rk.isOne
  have oi := hi.rk.isOne
  have hab1 : Ab S (S ++ [AObj.cells 3 [[.str T.name, vc, vi]] (some 1)]) := Ab.start _ _
  have hbox1 : (S ++ [AObj.cells 3 [[.str T.name, vc, vi]] (some 1)])[S.length]? = some (AObj.cells 3 [[.str T.name, vc, vi]] (some 1)) := by simp
  have w32' := fun S => w32 (w0 := w0) T.name S
  have w33' := w33 (w0 := w0) (hab1.rs hc)
  have hlc := (hab1.rs hc).rk.lenR
  have hli := (hab1.rs hi).rk.lenR
  rw [hx.1] at hli
  simp only [colsC_len] at hlc
  obtain ⟨out, hout⟩ : ∃ out, out = checkT T := ⟨_, rfl⟩
  rw [← hout]
  rw [checkT] at hout
  refine fn_sound tryOrd (f11_c _) (by simp [f11]) ?_
  simp [f11, f11m, oc, oi]
  refine (w32' _).use ?_
  rintro e S1 ⟨rfl, rfl⟩
  by_cases hn : nameB T.name = true
  rotate_left 1
  · have hn' : nameB T.name = false := by simpa using hn
    rw [if_pos hn'] at hout
    simp [hn', hout]
  rw [if_neg (by simp [hn])] at hout
  simp [hn]
  refine w33'.use ?_
  rintro e S1 ⟨rfl, rfl⟩
  by_cases hce : colsErr T.cols = 0
  rotate_left 1
  · have hb : (colsErr T.cols != 0) = true := by simpa using hce
    rw [if_neg hce] at hout
    simp [hb, hout]
  rw [if_pos hce] at hout
  by_cases h8 : 8 < T.idxs.length
  · have h8' : (8 : Int) < (T.idxs.length : Int) := by omega
    rw [if_pos h8] at hout
    simp [hce, hli, h8', hout]
  have h8' : ¬ (8 : Int) < (T.idxs.length : Int) := by omega
  rw [if_neg h8] at hout
  have hcl : T.cols.length ≤ 16 := by
    rw [colsErr] at hce
    split at hce <;> omega
  simp [hce, hli, h8']
  generalize hS1 : S ++ [AObj.cells 3 [[.str T.name, vc, vi]] (some 1)] = S1 at *
  refine mwp_loop (I := fun n a S' => ∃ i : Nat, n = T.idxs.length - i ∧ i ≤ T.idxs.length ∧ get a 1 = .ptr S.length 0 0 ∧ get a 23 = vi ∧ get a 24 = .int T.idxs.length ∧ get a 25 = .int i ∧ Ab S1 S' ∧ out = idxGo T.cols.length (T.idxs.take i) (T.idxs.drop i)) (n := T.idxs.length) ?_ ?_
  · exact ⟨0, rfl, Nat.zero_le _, rfl, rfl, rfl, rfl, Ab.refl _, by simpa using hout⟩
  rintro n a S' ⟨i, rfl, hile, a1, a23, a24, a25, hab, hspec⟩
  by_cases hlt : i < T.idxs.length
  · rw [idxGo_step _ _ _ hlt] at hspec
    have habS := hab1.trans hab
    have hi2 := habS.rs hi
    have hx2 := habS.idxs hx
    obtain ⟨w, ew, hw⟩ := hx2.2 i hlt
    obtain ⟨p, q1, q2, _⟩ := hi2.rk.elem (i := i) (by rw [hx.1]; exact hlt) (by rw [ew]; rfl)
    have q2 := q2 true 3 (Nat.le_refl _)
    rw [ew] at q2
    simp at q2
    have ow := hw.rk.isOne
    have hab2 := hab.more [.cells 3 [[.str T.idxs[i].name, w, .bool T.idxs[i].uniq]] (some 1)]
    have hbox2 : (S' ++ [AObj.cells 3 [[.str T.idxs[i].name, w, .bool T.idxs[i].uniq]] (some 1)])[S'.length]? = some (AObj.cells 3 [[.str T.idxs[i].name, w, .bool T.idxs[i].uniq]] (some 1)) := by simp
    have hbox3 : (S' ++ [AObj.cells 3 [[.str T.idxs[i].name, w, .bool T.idxs[i].uniq]] (some 1)])[S.length]? = some (AObj.cells 3 [[.str T.name, vc, vi]] (some 1)) := by
      rw [hab2.get (lt_of_some hbox1)]; exact hbox1
    have habS2 := hab1.trans hab2
    have hw2 := hw.more [.cells 3 [[.str T.idxs[i].name, w, .bool T.idxs[i].uniq]] (some 1)]
    have hlw := hw2.rk.lenR
    have hlc2 := (habS2.rs hc).rk.lenR
    simp only [ints_len, colsC_len] at hlw hlc2
    obtain ⟨u, hu, hru⟩ := (habS2.rs hi).upto hx.k (n := i) (by rw [hx.1]; exact hlt)
    have hxt : IdxsV (S' ++ [AObj.cells 3 [[.str T.idxs[i].name, w, .bool T.idxs[i].uniq]] (some 1)]) (T.idxs.take i) (es.take i) := by
      have := habS2.idxs hx
      refine ⟨by simp [this.1], fun j hj => ?_⟩
      have hj' : j < i ∧ j < T.idxs.length := by simp at hj; omega
      obtain ⟨w, e, h⟩ := this.2 j hj'.2
      have e2 : (es.take i).getD j [] = es.getD j [] := by
        rw [getD_eq _ _ _ (by simp; rw [hx.1]; omega), getD_eq _ _ _ (by rw [hx.1]; omega)]; simp
      rw [e2, List.getElem_take]
      exact ⟨w, e, h⟩
    have w32i := fun S => w32 (w0 := w0) T.idxs[i].name S
    have w34' := w34 (w0 := w0) hbox2 hru.rk hxt (by simp; omega)
    have htk := habS2.2
    generalize hS2 : S' ++ [AObj.cells 3 [[.str T.idxs[i].name, w, .bool T.idxs[i].uniq]] (some 1)] = S2 at *
    simp [f11b1, a1, a23, a24, a25, hlt, q1, q2, ow, hS2, hbox2]
    refine (w32i _).use ?_
    rintro e S3 ⟨rfl, rfl⟩
    by_cases hni : nameB T.idxs[i].name = true
    rotate_left 1
    · have hni' : nameB T.idxs[i].name = false := by simpa using hni
      have : idxOne T.cols.length (T.idxs.take i) T.idxs[i] = 150 := by rw [idxOne, if_pos hni']
      rw [this, if_neg (by decide)] at hspec
      simp [hni', hspec, htk]
    simp [-slcR, hni, a1, hbox3, hu]
    refine w34'.use ?_
    rintro e S3 ⟨rfl, rfl⟩
    by_cases hd : hasI T.idxs[i].name (T.idxs.take i) = true
    · have : idxOne T.cols.length (T.idxs.take i) T.idxs[i] = 163 := by rw [idxOne, if_neg (by simp [hni]), if_pos hd]
      rw [this, if_neg (by decide)] at hspec
      simp [hd, hspec, htk]
    by_cases hk1 : T.idxs[i].cols.length < 1
    · have hk1' : (T.idxs[i].cols.length : Int) < 1 := by omega
      have : idxOne T.cols.length (T.idxs.take i) T.idxs[i] = 151 := by rw [idxOne, if_neg (by simp [hni]), if_neg hd, if_pos (.inl hk1)]
      rw [this, if_neg (by decide)] at hspec
      simp [hd, hbox2, hlw, hk1', hspec, htk]
    have hk1' : ¬ (T.idxs[i].cols.length : Int) < 1 := by omega
    by_cases hk4 : 4 < T.idxs[i].cols.length
    · have hk4' : (4 : Int) < (T.idxs[i].cols.length : Int) := by omega
      have : idxOne T.cols.length (T.idxs.take i) T.idxs[i] = 151 := by rw [idxOne, if_neg (by simp [hni]), if_neg hd, if_pos (.inr hk4)]
      rw [this, if_neg (by decide)] at hspec
      simp [hd, hbox2, hlw, hk1', hk4', hspec, htk]
    have hk4' : ¬ (4 : Int) < (T.idxs[i].cols.length : Int) := by omega
    have : idxOne T.cols.length (T.idxs.take i) T.idxs[i] = keysGo T.cols.length [] T.idxs[i].cols := by rw [idxOne, if_neg (by simp [hni]), if_neg hd, if_neg (by omega)]
    rw [this] at hspec
    simp [hd, hbox2, hlw, hk1', hk4']
    generalize hks : T.idxs[i].cols = ks at *
    refine mwp_loop (I := fun n a S4 => ∃ j : Nat, n = ks.length - j ∧ j ≤ ks.length ∧ get a 1 = .ptr S.length 0 0 ∧ get a 5 = .ptr S'.length 0 0 ∧ get a 23 = vi ∧ get a 24 = .int T.idxs.length ∧ get a 25 = .int i ∧ get a 54 = w ∧ get a 55 = .int ks.length ∧ get a 56 = .int j ∧ S4 = S3 ∧
      out = if keysGo T.cols.length (ks.take j) (ks.drop j) = 0 then idxGo T.cols.length (T.idxs.take (i + 1)) (T.idxs.drop (i + 1)) else keysGo T.cols.length (ks.take j) (ks.drop j)) (n := ks.length) ?_ ?_
    · exact ⟨0, rfl, Nat.zero_le _, by simp [a1], by simp, by simp [a23], by simp [a24], by simp [a25], by simp, by simp, by simp, rfl, by simpa using hspec⟩
    clear a1 a23 a24 a25
    rintro n a S4 ⟨j, rfl, hjle, a1, a5, a23, a24, a25, a54, a55, a56, rfl, hks2⟩
    by_cases hj : j < ks.length
    · have step := keysGo_step T.cols.length ks j hj
      obtain ⟨p, q1, q2⟩ := hw2.rk.int hj
      obtain ⟨u2, hu2, hru2⟩ := hw2.upto (ints_k ks) (n := j) (by simpa using hj)
      rw [ints_take] at hru2
      have w36' := w36 (w0 := w0) (x := ks[j]) hru2.rk (by simp; omega)
      by_cases h0 : ks[j] < 0
      · rw [if_pos (.inl h0)] at step
        rw [step, if_neg (by decide)] at hks2
        simp [f11b0, a1, a5, a54, a55, a56, hj, q1, q2, h0, hks2, htk]
      by_cases hge : (T.cols.length : Int) ≤ ks[j]
      · rw [if_pos (.inr hge)] at step
        rw [step, if_neg (by decide)] at hks2
        simp [f11b0, a1, a5, a54, a55, a56, hj, q1, q2, h0, hbox3, hlc2, hge, hks2, htk]
      rw [if_neg (by omega)] at step
      simp [-slcR, f11b0, a1, a5, a54, a55, a56, hj, q1, q2, h0, hbox2, hbox3, hlc2, hge, hu2]
      refine w36'.use ?_
      rintro e S5 ⟨rfl, rfl⟩
      by_cases hm : hasK ks[j] (ks.take j) = true
      · rw [if_pos hm] at step
        rw [step, if_neg (by decide)] at hks2
        simp [hm, hks2, htk]
      · rw [if_neg hm] at step
        rw [step] at hks2
        simp [hm, a1, a5, a23, a24, a25, a54, a55, a56, wrapS j (by omega)]
        exact ⟨ks.length - (j + 1), by omega, j + 1, rfl, by omega, by simp, hks2⟩
    · have hjl : j = ks.length := by omega
      subst hjl
      rw [List.drop_length, keysGo, if_pos rfl] at hks2
      simp [f11b0, a1, a5, a23, a24, a25, a54, a55, a56, wrapS i (by omega)]
      exact ⟨T.idxs.length - (i + 1), by omega, i + 1, rfl, by omega, by simp, hab2, hks2⟩
  · have : i = T.idxs.length := by omega
    subst this
    rw [List.drop_length, idxGo] at hspec
    rw [hspec]
    simp [f11b1, a1, a23, a24, a25, (hab1.trans hab).2]
end Go.Abs
set_option linter.unusedSimpArgs false
set_option linter.unusedVariables false
namespace Go.Abs
open Go Go.RowKit Go.Proofs Go.Lx
variable {w0 : World}

/-- Place. -/
theorem w16 {S : Heap} {v : AVal} {cs : List Col} {m : Bs} (hv : Rk 3 S v (colsC cs)) (hl : cs.length ≤ 4611686018427387900) :
    ACalls Tryd.prog (B0 w0) 16 [v, .str m] S fun e S' => ∃ z : Int, e = .ret (.int z) ∧ decide (0 ≤ z) = hasN m cs ∧ S' = S := by
  refine fn_sound tryOrd (f16_c _) (by simp [f16]) ?_
  have hlen := hv.lenR
  simp at hlen
  simp [f16, f16m]
  refine mwp_loop (I := fun n a S' => ∃ i : Nat, n = cs.length - i ∧ i ≤ cs.length ∧ get a 0 = v ∧ get a 1 = .str m ∧ get a 5 = .int i ∧ S' = S ∧ m ∉ (cs.map (·.name)).take i) (n := cs.length) ?_ ?_
  · exact ⟨0, rfl, Nat.zero_le _, rfl, rfl, rfl, rfl, by simp⟩
  rintro n a S' ⟨i, rfl, hi, a0, a1, a5, rfl, hnot⟩
  by_cases hlt : i < cs.length
  · obtain ⟨p, q1, q2, p0, q3, q4, _⟩ := hv.col hlt
    by_cases hx : cs[i].name = m
    · have hm : m ∈ cs.map (·.name) := List.mem_map.2 ⟨cs[i], List.getElem_mem hlt, hx⟩
      have h0 : (0 : Int) ≤ (i : Int) := by omega
      have hm' : hasN m cs = true := decide_eq_true hm
      simp [f16b0, a0, a1, a5, hlen, hlt, q1, q2, q3, q4, hx, h0, hm']
    · have hx' : (cs.map (·.name))[i]'(by simpa using hlt) ≠ m := by simpa using hx
      simp [f16b0, a0, a1, a5, hlen, hlt, q1, q2, q3, q4, hx, wrapS i (by omega)]
      have := not_mem_take_succ hnot (by simpa using hlt) hx'
      exact ⟨cs.length - (i + 1), by omega, i + 1, rfl, by omega, by simp, by simpa using this⟩
  · have : i = cs.length := by omega
    subst this
    have hno : m ∉ cs.map (·.name) := by rwa [List.take_of_length_le (by simp)] at hnot
    have hm' : hasN m cs = false := decide_eq_false hno
    simp [f16b0, a0, a1, a5, hlen, hm']

theorem hasI_iff {m : Bs} {xs : List Idx} : hasI m xs = true ↔ m ∈ xs.map (·.name) := by simp [hasI]
theorem hasK_iff {m : Int} {xs : List Int} : hasK m xs = true ↔ m ∈ xs := by simp [hasK]

set_option maxHeartbeats 4000000 in
/-- index. -/
theorem w17 {S : Heap} {T : Tbl} {av : List AVal} (ht : TblV S T av) {i : Nat} (hi : i < T.idxs.length) (hcl : T.cols.length ≤ 16) (h8 : T.idxs.length ≤ 8) :
    ACalls Tryd.prog (B0 w0) 17 [.agg av, .int i] S fun e S' => e = .ret (.int (idxOne T.cols.length (T.idxs.take i) T.idxs[i])) ∧ S' = S := by
  refine ACalls.close (R := fun e S' => e = .ret (.int (idxOne T.cols.length (T.idxs.take i) T.idxs[i])) ∧ S'.take S.length = S) ?_ ?_
  rotate_left 1
  · rintro e S' ⟨rfl, ht⟩
    exact .flat ht rfl ⟨rfl, rfl⟩
  obtain ⟨vc, vi, es, rfl, hc, hiv, hx⟩ := ht
  have oc := hc.rk.isOne
  have oi := hiv.rk.isOne
  have hab1 : Ab S (S ++ [AObj.cells 3 [[.str T.name, vc, vi]] (some 1)]) := Ab.start _ _
  obtain ⟨w, ew, hw⟩ := hx.2 i hi
  have ow := hw.rk.isOne
  obtain ⟨p, q1, q2, _⟩ := (hab1.rs hiv).rk.elem (i := i) (by rw [hx.1]; exact hi) (by rw [ew]; rfl)
  have q2 := q2 true 3 (Nat.le_refl _)
  rw [ew] at q2
  simp at q2
  have hab2 : Ab S (S ++ [AObj.cells 3 [[.str T.name, vc, vi]] (some 1), AObj.cells 3 [[.str T.idxs[i].name, w, .bool T.idxs[i].uniq]] (some 1)]) := Ab.start _ _
  have hbox1 : (S ++ [AObj.cells 3 [[.str T.name, vc, vi]] (some 1), AObj.cells 3 [[.str T.idxs[i].name, w, .bool T.idxs[i].uniq]] (some 1)])[S.length]? = some (AObj.cells 3 [[.str T.name, vc, vi]] (some 1)) := by simp
  have hbox2 : (S ++ [AObj.cells 3 [[.str T.name, vc, vi]] (some 1), AObj.cells 3 [[.str T.idxs[i].name, w, .bool T.idxs[i].uniq]] (some 1)])[S.length + 1]? = some (AObj.cells 3 [[.str T.idxs[i].name, w, .bool T.idxs[i].uniq]] (some 1)) := by
    rw [List.getElem?_append_right (by omega)]; simp
  have w15' := fun S => w15 (w0 := w0) T.idxs[i].name S
  obtain ⟨out, hout⟩ : ∃ out, out = idxOne T.cols.length (T.idxs.take i) T.idxs[i] := ⟨_, rfl⟩
  rw [← hout]
  rw [idxOne] at hout
  have hlw := (hab2.rs hw).rk.lenR
  have hlc := (hab2.rs hc).rk.lenR
  have hiv2 := hab2.rs hiv
  have hx2 := hab2.idxs hx
  have hw2 := hab2.rs hw
  simp only [ints_len, colsC_len] at hlw hlc
  have htk := hab2.2
  refine fn_sound tryOrd (f17_c _) (by simp [f17]) ?_
  simp [f17, f17m, oc, oi, q1, q2, ow]
  generalize hS2 : S ++ [AObj.cells 3 [[.str T.name, vc, vi]] (some 1), AObj.cells 3 [[.str T.idxs[i].name, w, .bool T.idxs[i].uniq]] (some 1)] = S2 at *
  refine (w15' _).use ?_
  rintro e S3 ⟨rfl, rfl⟩
  by_cases hn : nameB T.idxs[i].name = true
  rotate_left 1
  · have hn' : nameB T.idxs[i].name = false := by simpa using hn
    rw [if_pos hn'] at hout
    simp [hn', hout, htk]
  rw [if_neg (by simp [hn])] at hout
  simp [hn]
  refine mwp_loop (I := fun n a S4 => ∃ k : Nat, n = i - k ∧ k ≤ i ∧ get a 1 = .int i ∧ get a 2 = .ptr S.length 0 0 ∧ get a 5 = .ptr (S.length + 1) 0 0 ∧ get a 6 = .int k ∧ S3 = S4 ∧ T.idxs[i].name ∉ ((T.idxs.take i).map (·.name)).take k) (n := i) ?_ ?_
  · exact ⟨0, rfl, Nat.zero_le _, rfl, rfl, rfl, rfl, rfl, by simp⟩
  rintro n a S4 ⟨k, rfl, hk, a1, a2, a5, a6, rfl, hnot⟩
  have hln : ((T.idxs.take i).map (·.name)).length = i := by simp; omega
  by_cases hki : k < i
  · have hkl : k < T.idxs.length := by omega
    obtain ⟨w2, ew2, hw2'⟩ := hx2.2 k hkl
    obtain ⟨p2, r1, _, r3⟩ := hiv2.rk.elem (i := k) (by rw [hx2.1]; exact hkl) (by rw [ew2]; rfl)
    obtain ⟨p3, r3, r4⟩ := r3 0
    have r4 := r4 false 1 (by omega)
    rw [ew2] at r4
    simp at r4
    have hki' : (k : Int) < (i : Int) := by omega
    by_cases hnm : T.idxs[k].name = T.idxs[i].name
    · have hd : hasI T.idxs[i].name (T.idxs.take i) = true := by
        rw [hasI_iff, ← hnm]
        exact List.mem_map.2 ⟨T.idxs[k], List.mem_take_iff_getElem.2 ⟨k, by omega, rfl⟩, rfl⟩
      rw [if_pos hd] at hout
      simp [f17b0, a1, a2, a5, a6, hki, hki', hbox1, hbox2, r1, r3, r4, hnm, hout, htk]
    · simp [f17b0, a1, a2, a5, a6, hki, hki', hbox1, hbox2, r1, r3, r4, hnm, wrapS k (by omega)]
      have := not_mem_take_succ hnot (i := k) (by omega) (by simpa using hnm)
      exact ⟨i - (k + 1), by omega, k + 1, rfl, by omega, by simp, by simpa using this⟩
  · have hki2 : k = i := by omega
    subst hki2
    rw [List.take_of_length_le (by omega)] at hnot
    have hd : ¬ hasI T.idxs[k].name (T.idxs.take k) = true := fun h => hnot (hasI_iff.1 h)
    rw [if_neg hd] at hout
    by_cases hk1 : T.idxs[k].cols.length < 1
    · have hk1' : ((T.idxs[k].cols.length : Int) == 0) = true := beq_iff_eq.2 (by omega)
      rw [if_pos (.inl hk1)] at hout
      simp [f17b0, a1, a2, a5, a6, hbox1, hbox2, hlw, hk1', hout, htk]
    have hk1' : ((T.idxs[k].cols.length : Int) == 0) = false := beq_eq_false_iff_ne.2 (by omega)
    by_cases hk4 : 4 < T.idxs[k].cols.length
    · have hk4' : (4 : Int) < (T.idxs[k].cols.length : Int) := by omega
      rw [if_pos (.inr hk4)] at hout
      simp [f17b0, a1, a2, a5, a6, hbox1, hbox2, hlw, hk1', hk4', hout, htk]
    have hk4' : ¬ (4 : Int) < (T.idxs[k].cols.length : Int) := by omega
    rw [if_neg (by omega)] at hout
    simp [f17b0, a1, a2, a5, a6, hbox1, hbox2, hlw, hk1', hk4']
    generalize hks : T.idxs[k].cols = ks at *
    refine mwp_loop (I := fun n a S4 => ∃ j : Nat, n = ks.length - j ∧ j ≤ ks.length ∧ get a 2 = .ptr S.length 0 0 ∧ get a 5 = .ptr (S.length + 1) 0 0 ∧ get a 7 = .int j ∧ S3 = S4 ∧ out = keysGo T.cols.length (ks.take j) (ks.drop j)) (n := ks.length) ?_ ?_
    · exact ⟨0, rfl, Nat.zero_le _, by simp [a2], by simp [a5], by simp, rfl, by simpa using hout⟩
    clear a1 a2 a5 a6
    rintro n a S4 ⟨j, rfl, hjle, a2, a5, a7, rfl, hks2⟩
    by_cases hj : j < ks.length
    · have step := keysGo_step T.cols.length ks j hj
      rw [step] at hks2
      obtain ⟨p4, t1, t2⟩ := hw2.rk.int hj
      by_cases h0 : ks[j] < 0
      · rw [if_pos (.inl h0)] at hks2
        simp [f17b2, a2, a5, a7, hbox1, hbox2, hlw, hj, t1, t2, h0, hks2, htk]
      by_cases hge : (T.cols.length : Int) ≤ ks[j]
      · rw [if_pos (.inr hge)] at hks2
        simp [f17b2, a2, a5, a7, hbox1, hbox2, hlw, hlc, hj, t1, t2, h0, hge, hks2, htk]
      rw [if_neg (by omega)] at hks2
      simp [f17b2, a2, a5, a7, hbox1, hbox2, hlw, hlc, hj, t1, t2, h0, hge]
      refine mwp_loop (I := fun n a S4 => ∃ q : Nat, n = j - q ∧ q ≤ j ∧ get a 2 = .ptr S.length 0 0 ∧ get a 5 = .ptr (S.length + 1) 0 0 ∧ get a 7 = .int j ∧ get a 8 = .int q ∧ S3 = S4 ∧ ks[j] ∉ (ks.take j).take q) (n := j) ?_ ?_
      · exact ⟨0, rfl, Nat.zero_le _, by simp [a2], by simp [a5], by simp [a7], by simp, rfl, by simp⟩
      clear a2 a5 a7
      rintro n a S4 ⟨q, rfl, hq, a2, a5, a7, a8, rfl, hnotk⟩
      by_cases hqj : q < j
      · have hqj' : (q : Int) < (j : Int) := by omega
        obtain ⟨p5, t3, t4⟩ := hw2.rk.int (i := q) (by omega)
        by_cases he : ks[q] = ks[j]
        · have hm : hasK ks[j] (ks.take j) = true := by
            rw [hasK_iff, ← he]
            exact List.mem_take_iff_getElem.2 ⟨q, by omega, rfl⟩
          rw [if_pos hm] at hks2
          simp [f17b1, a2, a5, a7, a8, hqj, hqj', hbox2, t1, t2, t3, t4, he, hks2, htk]
        · have he' : (ks[q] == ks[j]) = false := beq_eq_false_iff_ne.2 he
          simp [f17b1, a2, a5, a7, a8, hqj, hqj', hbox2, t1, t2, t3, t4, he', wrapS q (by omega)]
          have := not_mem_take_succ hnotk (i := q) (by simp; omega) (by simpa using he)
          exact ⟨j - (q + 1), by omega, q + 1, rfl, by omega, by simp, by simpa using this⟩
      · have hqe : q = j := by omega
        subst hqe
        rw [List.take_take, Nat.min_self] at hnotk
        have hm : ¬ hasK ks[q] (ks.take q) = true := fun h => hnotk (hasK_iff.1 h)
        rw [if_neg hm] at hks2
        simp [f17b1, a2, a5, a7, a8, wrapS q (by omega)]
        exact ⟨ks.length - (q + 1), by omega, q + 1, rfl, by omega, by simp, hks2⟩
    · have hjl : j = ks.length := by omega
      subst hjl
      rw [List.drop_length, keysGo] at hks2
      simp [f17b2, a2, a5, a7, hbox2, hlw, hks2, htk]
end Go.Abs
set_option linter.unusedSimpArgs false
set_option linter.unusedVariables false
namespace Go.Abs
open Go Go.RowKit Go.Proofs Go.Lx
variable {w0 : World}

set_option maxHeartbeats 4000000 in
/-- The document's Check. -/
theorem w6 {S : Heap} {T : Tbl} {av : List AVal} (ht : TblV S T av) : ACalls Tryd.prog (B0 w0) 6 [.agg av] S fun e S' => e = .ret (.int (checkT T)) ∧ S' = S := by
  refine ACalls.close (R := fun e S' => e = .ret (.int (checkT T)) ∧ S'.take S.length = S) ?_ ?_
  rotate_left 1
  · rintro e S' ⟨rfl, ht⟩
    exact .flat ht rfl ⟨rfl, rfl⟩
  have ht0 := ht
  obtain ⟨vc, vi, es, rfl, hc, hi, hx⟩ := ht
  have oc := hc.rk.isOne
  have oi := hi.rk.isOne
  have hab1 : Ab S (S ++ [AObj.cells 3 [[.str T.name, vc, vi]] (some 1)]) := Ab.start _ _
  have hbox1 : (S ++ [AObj.cells 3 [[.str T.name, vc, vi]] (some 1)])[S.length]? = some (AObj.cells 3 [[.str T.name, vc, vi]] (some 1)) := by simp
  have w15' := fun S => w15 (w0 := w0) T.name S
  have ht1 := hab1.tbl ht0
  have hc1 := hab1.rs hc
  have hlc := (hab1.rs hc).rk.lenR
  have hli := (hab1.rs hi).rk.lenR
  rw [hx.1] at hli
  simp only [colsC_len] at hlc
  have htk := hab1.2
  obtain ⟨out, hout⟩ : ∃ out, out = checkT T := ⟨_, rfl⟩
  rw [← hout]
  rw [checkT] at hout
  obtain ⟨ce, hce⟩ : ∃ ce, ce = colsErr T.cols := ⟨_, rfl⟩
  rw [← hce] at hout
  rw [colsErr] at hce
  refine fn_sound tryOrd (f6_c _) (by simp [f6]) ?_
  simp [f6, f6m, oc, oi]
  refine (w15' _).use ?_
  rintro e S1 ⟨rfl, rfl⟩
  by_cases hn : nameB T.name = true
  rotate_left 1
  · have hn' : nameB T.name = false := by simpa using hn
    rw [if_pos hn'] at hout
    simp [hn', hout]
  rw [if_neg (by simp [hn])] at hout
  by_cases hc0 : T.cols.length < 1
  · have hb : ((T.cols.length : Int) == 0) = true := beq_iff_eq.2 (by omega)
    rw [if_pos (.inl hc0)] at hce
    subst hce
    simp [hn, hlc, hb, hout]
  have hb : ((T.cols.length : Int) == 0) = false := beq_eq_false_iff_ne.2 (by omega)
  by_cases hc16 : 16 < T.cols.length
  · have h16 : (16 : Int) < (T.cols.length : Int) := by omega
    rw [if_pos (.inr hc16)] at hce
    subst hce
    simp [hn, hlc, hb, h16, hout]
  have h16 : ¬ (16 : Int) < (T.cols.length : Int) := by omega
  rw [if_neg (by omega)] at hce
  simp [hn, hlc, hb, h16]
  generalize hS1 : S ++ [AObj.cells 3 [[.str T.name, vc, vi]] (some 1)] = S1 at *
  refine mwp_loop (I := fun n a S' => ∃ i : Nat, n = T.cols.length - i ∧ i ≤ T.cols.length ∧ get a 1 = .ptr S.length 0 0 ∧ get a 3 = .int i ∧ S1 = S' ∧ ce = colsGo (T.cols.take i) (T.cols.drop i)) (n := T.cols.length) ?_ ?_
  · exact ⟨0, rfl, Nat.zero_le _, rfl, rfl, rfl, by simpa using hce⟩
  rintro n a S' ⟨i, rfl, hile, a1, a3, rfl, hspec⟩
  by_cases hlt : i < T.cols.length
  · rw [colsGo_step _ _ hlt] at hspec
    obtain ⟨p, q1, _, p0, q3, q4, p1, q5, q6⟩ := hc1.rk.col hlt
    obtain ⟨u, hu, hru⟩ := hc1.upto (colsC_k T.cols) (n := i) (by simpa using hlt)
    have e1 : (colsC T.cols).take i = colsC (T.cols.take i) := by simp [colsC, List.map_take]
    rw [e1] at hru
    have w15i := fun S => w15 (w0 := w0) T.cols[i].name S
    have w16' := w16 (w0 := w0) (m := T.cols[i].name) hru.rk (by simp; omega)
    simp [f6b0, a1, a3, hbox1, hlc, hlt, q1, q3, q4]
    refine (w15i _).use ?_
    rintro e S3 ⟨rfl, rfl⟩
    by_cases hni : nameB T.cols[i].name = true
    rotate_left 1
    · have hni' : nameB T.cols[i].name = false := by simpa using hni
      rw [if_pos hni'] at hspec
      rw [hspec, if_neg (by decide)] at hout
      simp [hni', hout, htk]
    rw [if_neg (by simp [hni])] at hspec
    by_cases ht1 : T.cols[i].type < 1
    · rw [if_pos (.inl ht1)] at hspec
      rw [hspec, if_neg (by decide)] at hout
      simp [hni, a1, a3, hbox1, q1, q5, q6, ht1, hout, htk]
    by_cases ht4 : 4 < T.cols[i].type
    · rw [if_pos (.inr ht4)] at hspec
      rw [hspec, if_neg (by decide)] at hout
      simp [hni, a1, a3, hbox1, q1, q5, q6, ht1, ht4, hout, htk]
    rw [if_neg (by omega)] at hspec
    simp [-slcR, hni, a1, a3, hbox1, q1, q3, q4, q5, q6, ht1, ht4, hu]
    refine w16'.use ?_
    rintro e S3 ⟨z, rfl, hz, rfl⟩
    by_cases hm : hasN T.cols[i].name (T.cols.take i) = true
    · rw [if_pos hm] at hspec
      rw [hspec, if_neg (by decide)] at hout
      rw [hm] at hz
      have hz' : 0 ≤ z := by simpa using hz
      simp [hz', hout, htk]
    · rw [if_neg hm] at hspec
      have hm' : hasN T.cols[i].name (T.cols.take i) = false := by simpa using hm
      rw [hm'] at hz
      have hz' : ¬ 0 ≤ z := by simpa using hz
      simp [hz', a1, a3, wrapS i (by omega)]
      exact ⟨T.cols.length - (i + 1), by omega, i + 1, rfl, by omega, by simp, hspec⟩
  · have hie : i = T.cols.length := by omega
    subst hie
    rw [List.drop_length, colsGo] at hspec
    rw [hspec, if_pos rfl] at hout
    by_cases h8 : 8 < T.idxs.length
    · have h8' : (8 : Int) < (T.idxs.length : Int) := by omega
      rw [if_pos h8] at hout
      simp [f6b0, a1, a3, hbox1, hlc, hli, h8', hout, htk]
    have h8' : ¬ (8 : Int) < (T.idxs.length : Int) := by omega
    rw [if_neg h8] at hout
    simp [f6b0, a1, a3, hbox1, hlc, hli, h8']
    refine mwp_loop (I := fun n a S' => ∃ i : Nat, n = T.idxs.length - i ∧ i ≤ T.idxs.length ∧ get a 1 = .ptr S.length 0 0 ∧ get a 4 = .int i ∧ S1 = S' ∧ out = idxGo T.cols.length (T.idxs.take i) (T.idxs.drop i)) (n := T.idxs.length) ?_ ?_
    · exact ⟨0, rfl, Nat.zero_le _, by simp [a1], by simp, rfl, by simpa using hout⟩
    clear a1 a3
    rintro n a S' ⟨i, rfl, hile, a1, a4, rfl, hspec⟩
    by_cases hlt2 : i < T.idxs.length
    · rw [idxGo_step _ _ _ hlt2] at hspec
      have w17' := w17 (w0 := w0) ht1 hlt2 (by omega) (by omega)
      simp [f6b1, a1, a4, hbox1, hli, hlt2]
      refine w17'.use ?_
      rintro e S3 ⟨rfl, rfl⟩
      by_cases h0 : idxOne T.cols.length (T.idxs.take i) T.idxs[i] = 0
      · rw [if_pos h0] at hspec
        simp [h0, a1, a4, wrapS i (by omega)]
        exact ⟨T.idxs.length - (i + 1), by omega, i + 1, rfl, by omega, by simp, hspec⟩
      · rw [if_neg h0] at hspec
        have hb : (idxOne T.cols.length (T.idxs.take i) T.idxs[i] != 0) = true := by simpa using h0
        simp [hb, hspec, htk]
    · have hie : i = T.idxs.length := by omega
      subst hie
      rw [List.drop_length, idxGo] at hspec
      simp [f6b1, a1, a4, hbox1, hli, hspec, htk]
end Go.Abs
set_option linter.unusedSimpArgs false
set_option linter.unusedVariables false
namespace Go.Abs
open Go Go.RowKit Go.Proofs Go.Lx
variable {w0 : World}

structure SzT (T : Tbl) : Prop where
  hc : T.cols.length * 32 ≤ 140737488351232
  hi : T.idxs.length * 48 ≤ 140737488351232
  hk : ∀ x ∈ T.idxs, x.cols.length * 8 ≤ 140737488351232

theorem Rk.low {S S' : Heap} {k v es} (h : Rk k S v es) (hl : ∀ j, j < S.length → S'[j]? = S[j]?) : Rk k S' v es := by
  cases h with
  | list fl => exact .list _ _
  | nils => exact .nils
  | row id off len es cap h hle => exact .row _ _ _ _ cap ((hl id (lt_of_some h)).trans h) hle
theorem Ab.low {S S' : Heap} (hle : S.length ≤ S'.length) (hl : ∀ j, j < S.length → S'[j]? = S[j]?) : Ab S S' := by
  refine ⟨hle, List.ext_getElem? fun j => ?_⟩
  rcases Nat.lt_or_ge j S.length with hj | hj
  · rw [List.getElem?_take_of_lt hj]; exact hl j hj
  · rw [List.getElem?_eq_none (by simp; omega), List.getElem?_eq_none hj]
theorem Own.ab {S S' : Heap} {L} (h : Own S.length S S' L) : Ab S S' := Ab.low h.le h.low

/-- A box of one's own. -/
theorem Own.boxget {N : Nat} {S0 S : Heap} {L : List (AVal × Nat × List (List AVal))} (h : Own N S0 S L) {i b k : Nat} {c : List AVal} (hi : L[i]? = some (AVal.row b 0 1, k, [c])) : ∃ rest cap, S[b]? = some (AObj.cells k (c :: rest) cap) := by
  have := h.ap i _ _ _ hi
  generalize hes : [c] = es at this
  cases this with
  | row _ _ _ es0 cap hN hS hl =>
    cases es0 with
    | nil => simp at hl
    | cons x r =>
      simp at hes
      exact ⟨r, cap, by rw [hS, hes]⟩
theorem Own.boxset {N : Nat} {S0 S : Heap} {L : List (AVal × Nat × List (List AVal))} (h : Own N S0 S L) {i b k : Nat} {c : List AVal} {rest : List (List AVal)} {cap : Option Nat} (hi : L[i]? = some (AVal.row b 0 1, k, [c])) (hS : S[b]? = some (AObj.cells k (c :: rest) cap)) (c' : List AVal) : Own N S0 (S.set b (.cells k (c' :: rest) cap)) (L.set i (.row b 0 1, k, [c'])) := by
  have hN := (h.idlt hi).1
  refine h.turn hi (by simp) (fun q hq hne => by rw [List.getElem?_set_ne (fun e => hne 0 1 (by rw [e]))]) ?_ (fun id' o l e => .inr ⟨o, l, e⟩)
  have := Ap.row (N := N) (k := k) (S := S.set b (.cells k (c' :: rest) cap)) b 0 1 (c' :: rest) cap hN (by rw [List.getElem?_set_self (lt_of_some hS)]) (by simp)
  simpa using this

/-- What a call leaves, beside what was there. -/
theorem Own.join {N : Nat} {S0 S S' : Heap} {L L' : List (AVal × Nat × List (List AVal))} (h : Own N S0 S L) (h' : Own S.length S S' L') : Own N S0 S' (L ++ L') := by
  have hl : ∀ j, j < S.length → S'[j]? = S[j]? := h'.low
  have old : ∀ (q : Nat) id o l kk ee, L[q]? = some (AVal.row id o l, kk, ee) → id < S.length := fun q id o l kk ee hq => (h.idlt hq).2
  have new : ∀ (q : Nat) id o l kk ee, L'[q]? = some (AVal.row id o l, kk, ee) → S.length ≤ id := fun q id o l kk ee hq => (h'.idlt hq).1
  refine ⟨Nat.le_trans h.le h'.le, fun j hj => (hl j (by have := h.le; omega)).trans (h.low j hj), fun i v k es hi => ?_, fun i j id o l o' l' k es k' es' hi hj => ?_⟩
  · rcases Nat.lt_or_ge i L.length with hlt | hge
    · rw [List.getElem?_append_left hlt] at hi
      have := h.ap i v k es hi
      cases this with
      | none fl hf => exact .none fl hf
      | row id off len es0 cap hN hS hle => exact .row id off len es0 cap hN ((hl id (lt_of_some hS)).trans hS) hle
    · rw [List.getElem?_append_right hge] at hi
      have := h'.ap _ v k es hi
      cases this with
      | none fl hf => exact .none fl hf
      | row id off len es0 cap hN hS hle => exact .row id off len es0 cap (Nat.le_trans h.le hN) hS hle
  · rcases Nat.lt_or_ge i L.length with h1 | h1 <;> rcases Nat.lt_or_ge j L.length with h2 | h2
    · rw [List.getElem?_append_left h1] at hi; rw [List.getElem?_append_left h2] at hj
      exact h.sep i j id o l o' l' _ _ _ _ hi hj
    · rw [List.getElem?_append_left h1] at hi; rw [List.getElem?_append_right h2] at hj
      have := old _ _ _ _ _ _ hi; have := new _ _ _ _ _ _ hj; omega
    · rw [List.getElem?_append_right h1] at hi; rw [List.getElem?_append_left h2] at hj
      have := new _ _ _ _ _ _ hi; have := old _ _ _ _ _ _ hj; omega
    · rw [List.getElem?_append_right h1] at hi; rw [List.getElem?_append_right h2] at hj
      have := h'.sep _ _ id o l o' l' _ _ _ _ hi hj; omega

theorem Own.pick {N : Nat} {S0 S : Heap} {L L' : List (AVal × Nat × List (List AVal))} (h : Own N S0 S L) (σ : Nat → Nat) (h1 : ∀ (i : Nat) x, L'[i]? = some x → L[σ i]? = some x) (h2 : ∀ i j, i < L'.length → j < L'.length → σ i = σ j → i = j) : Own N S0 S L' :=
  ⟨h.le, h.low, fun i v k es hi => h.ap (σ i) v k es (h1 i _ hi), fun i j id o l o' l' k es k' es' hi hj => h2 i j (by
      rcases Nat.lt_or_ge i L'.length with hh | hh
      · exact hh
      · rw [List.getElem?_eq_none hh] at hi; cases hi) (by
      rcases Nat.lt_or_ge j L'.length with hh | hh
      · exact hh
      · rw [List.getElem?_eq_none hh] at hj; cases hj) (h.sep _ _ id o l o' l' k es k' es' (h1 i _ hi) (h1 j _ hj))⟩
theorem Ap.slc {N k S v es} (h : Ap N k S v es) (hne : es ≠ []) : v.slc = true := by
  cases h with
  | none fl hf => exact absurd rfl hne
  | row => rfl

end Go.Abs
set_option linter.unusedSimpArgs false
set_option linter.unusedVariables false
namespace Go.Abs
open Go Go.RowKit Go.Proofs Go.Lx
variable {w0 : World}

theorem take_eq_step {α : Type} {l r : List α} {i : Nat} (h : l.take i = r.take i) (h1 : i < l.length) (h2 : i < r.length) (he : l[i] = r[i]) : l.take (i + 1) = r.take (i + 1) := by
  rw [List.take_add_one, List.take_add_one, List.getElem?_eq_getElem h1, List.getElem?_eq_getElem h2, h, he]
theorem ne_of_getElem {α : Type} {l r : List α} {i : Nat} (h1 : i < l.length) (h2 : i < r.length) (he : l[i] ≠ r[i]) : l ≠ r := fun e => he (by subst e; rfl)

/-- An element's place, the same however the heap grows. -/
theorem Rk.elemU {k S v es} (h : Rk k S v es) {i : Nat} (hi : i < es.length) (hk : (es.getD i []).length = k) :
    ∃ p, ∀ S', Ab S S' → iaddrR k S' v (.int i) = .ok true p S' ∧ ∀ agg m, m ≤ k → loadR agg m S' p = .ok true (takeAt agg m (es.getD i []) 0) S' := by
  cases h with
  | nils => simp at hi
  | list fl =>
    have hk' : es[i].length = k := by rwa [getD_eq _ _ _ hi] at hk
    exact ⟨.fptr es i 0, fun S' _ => ⟨by simp [hi, hk'], fun agg m hm => by simp [hi, hk', hm]⟩⟩
  | row id off len es cap h hl =>
    have hlen : ((es.drop off).take len).length = len := by simp; omega
    have e1 : ((es.drop off).take len).getD i [] = es.getD (off + i) [] := by
      rw [getD_eq _ _ _ (by omega), getD_eq _ _ _ (by omega)]; simp
    rw [e1] at hk ⊢
    have h1 : off + i < es.length := by omega
    have hk' : es[off + i].length = k := by rwa [getD_eq _ _ _ h1] at hk
    refine ⟨.ptr id (off + i) 0, fun S' hab => ?_⟩
    have h' : S'[id]? = some (.cells k es cap) := by rw [hab.get (lt_of_some h)]; exact h
    refine ⟨?_, fun agg m hm => by simp [h', h1, hk', hm]⟩
    simp [h']; omega

/-- SameInts. -/
theorem w31 {S : Heap} {v u : AVal} {l r : List Int} (h : Rk 1 S v (ints l)) (h' : Rk 1 S u (ints r)) (hl : l.length ≤ 4611686018427387900) : ACalls Tryd.prog (B0 w0) 31 [v, u] S fun e S' => e = .ret (.bool (decide (l = r))) ∧ S' = S := by
  have h1 := h.lenR
  have h2 := h'.lenR
  simp at h1 h2
  refine fn_sound tryOrd (f31_c _) (by simp [f31]) ?_
  by_cases hlen : l.length = r.length
  rotate_left 1
  · have g : ((l.length : Int) == (r.length : Int)) = false := beq_eq_false_iff_ne.2 (by omega)
    have hne : l ≠ r := fun e => hlen (by rw [e])
    simp [f31, f31m, h1, h2, bne, g, hne]
  simp [f31, f31m, h1, h2, hlen]
  refine mwp_loop (I := fun n a S' => ∃ i : Nat, n = l.length - i ∧ i ≤ l.length ∧ get a 0 = v ∧ get a 1 = u ∧ get a 5 = .int i ∧ S' = S ∧ l.take i = r.take i) (n := l.length) ?_ ?_
  · exact ⟨0, rfl, Nat.zero_le _, rfl, rfl, rfl, rfl, rfl⟩
  rintro n a S' ⟨i, rfl, hi, a0, a1, a5, rfl, hsame⟩
  by_cases hlt : i < l.length
  · have hlt' : i < r.length := by omega
    obtain ⟨p, q1, q2⟩ := h.int hlt
    obtain ⟨p', q3, q4⟩ := h'.int hlt'
    by_cases hx : l[i] = r[i]
    · simp [f31b0, a0, a1, a5, h1, hlt, q1, q2, q3, q4, hx, wrapS i (by omega)]
      exact ⟨l.length - (i + 1), by omega, i + 1, rfl, by omega, by simp, take_eq_step hsame hlt hlt' hx⟩
    · have hne := ne_of_getElem hlt hlt' hx
      have hb : (l[i] == r[i]) = false := beq_eq_false_iff_ne.2 hx
      simp [f31b0, a0, a1, a5, h1, hlt, q1, q2, q3, q4, bne, hb, hne]
  · have : i = l.length := by omega
    have heq : l = r := by rw [← List.take_length (l := l), ← List.take_length (l := r), ← hlen, ← this]; exact hsame
    have hge : ¬ i < r.length := by omega
    simp [f31b0, a0, a1, a5, h1, h2, hlt, hlen, hge, heq]

/-- SameCols. -/
theorem w30 {S : Heap} {v u : AVal} {l r : List Col} (h : Rk 3 S v (colsC l)) (h' : Rk 3 S u (colsC r)) (hl : l.length ≤ 4611686018427387900) : ACalls Tryd.prog (B0 w0) 30 [v, u] S fun e S' => e = .ret (.bool (decide (l = r))) ∧ S' = S := by
  have h1 := h.lenR
  have h2 := h'.lenR
  simp at h1 h2
  refine fn_sound tryOrd (f30_c _) (by simp [f30]) ?_
  by_cases hlen : l.length = r.length
  rotate_left 1
  · have g : ((l.length : Int) == (r.length : Int)) = false := beq_eq_false_iff_ne.2 (by omega)
    have hne : l ≠ r := fun e => hlen (by rw [e])
    simp [f30, f30m, h1, h2, bne, g, hne]
  simp [f30, f30m, h1, h2, hlen]
  refine mwp_loop (I := fun n a S' => ∃ i : Nat, n = l.length - i ∧ i ≤ l.length ∧ get a 0 = v ∧ get a 1 = u ∧ get a 5 = .int i ∧ S' = S ∧ l.take i = r.take i) (n := l.length) ?_ ?_
  · exact ⟨0, rfl, Nat.zero_le _, rfl, rfl, rfl, rfl, rfl⟩
  rintro n a S' ⟨i, rfl, hi, a0, a1, a5, rfl, hsame⟩
  by_cases hlt : i < l.length
  · have hlt' : i < r.length := by omega
    obtain ⟨p, q1, q2, _⟩ := h.col hlt
    obtain ⟨p', q3, q4, _⟩ := h'.col hlt'
    by_cases hx : l[i] = r[i]
    · simp only [colC] at q2 q4
      simp [f30b0, a0, a1, a5, h1, hlt, q1, q2, q3, q4, hx, wrapS i (by omega)]
      exact ⟨l.length - (i + 1), by omega, i + 1, rfl, by omega, by simp, take_eq_step hsame hlt hlt' hx⟩
    · have hne := ne_of_getElem hlt hlt' hx
      generalize l[i] = A at *
      generalize r[i] = B at *
      have hb : (!decide (A.name = B.name) || (!A.type == B.type || !A.req == B.req)) = true := by
        cases A with | mk a1 a2 a3 =>
        cases B with | mk b1 b2 b3 =>
        by_cases e1 : a1 = b1
        · by_cases e2 : a2 = b2
          · have e3 : ¬ a3 = b3 := fun e => hx (by rw [e1, e2, e])
            simp [e3]
          · simp [e2]
        · simp [e1]
      simp only [colC] at q2 q4
      simp [f30b0, a0, a1, a5, h1, hlt, q1, q2, q3, q4, hne, hb]
  · have : i = l.length := by omega
    have heq : l = r := by rw [← List.take_length (l := l), ← List.take_length (l := r), ← hlen, ← this]; exact hsame
    have hge : ¬ i < r.length := by omega
    simp [f30b0, a0, a1, a5, h1, h2, hlt, hlen, hge, heq]
set_option maxHeartbeats 4000000 in
/-- Same. -/
theorem w10 {S : Heap} {T T' : Tbl} {av av' : List AVal} (ht : TblV S T av) (ht' : TblV S T' av') (hz : SzT T) : ACalls Tryd.prog (B0 w0) 10 [.agg av, .agg av'] S fun e S' => e = .ret (.bool (decide (T = T'))) ∧ S' = S := by
  refine ACalls.close (R := fun e S' => e = .ret (.bool (decide (T = T'))) ∧ S'.take S.length = S) ?_ ?_
  rotate_left 1
  · rintro e S' ⟨rfl, ht⟩
    exact .flat ht rfl ⟨rfl, rfl⟩
  obtain ⟨vc, vi, es, rfl, hc, hi, hx⟩ := ht
  obtain ⟨vc', vi', es', rfl, hc', hi', hx'⟩ := ht'
  have oc := hc.rk.isOne
  have oi := hi.rk.isOne
  have oc' := hc'.rk.isOne
  have oi' := hi'.rk.isOne
  have hab1 : Ab S (S ++ [AObj.cells 3 [[.str T.name, vc, vi]] (some 1), AObj.cells 3 [[.str T'.name, vc', vi']] (some 1)]) := Ab.start _ _
  have hbox1 : (S ++ [AObj.cells 3 [[.str T.name, vc, vi]] (some 1), AObj.cells 3 [[.str T'.name, vc', vi']] (some 1)])[S.length]? = some (AObj.cells 3 [[.str T.name, vc, vi]] (some 1)) := by simp
  have hbox2 : (S ++ [AObj.cells 3 [[.str T.name, vc, vi]] (some 1), AObj.cells 3 [[.str T'.name, vc', vi']] (some 1)])[S.length + 1]? = some (AObj.cells 3 [[.str T'.name, vc', vi']] (some 1)) := by
    rw [List.getElem?_append_right (by omega)]; simp
  have hzc := hz.hc
  have hzi := hz.hi
  have hzk := hz.hk
  have w30' := w30 (w0 := w0) (hab1.rs hc).rk (hab1.rs hc').rk (by omega)
  have hli := (hab1.rs hi).rk.lenR
  have hli' := (hab1.rs hi').rk.lenR
  rw [hx.1] at hli
  rw [hx'.1] at hli'
  have htk := hab1.2
  refine fn_sound tryOrd (f10_c _) (by simp [f10]) ?_
  simp [f10, f10m, oc, oi, oc', oi']
  generalize hS1 : S ++ [AObj.cells 3 [[.str T.name, vc, vi]] (some 1), AObj.cells 3 [[.str T'.name, vc', vi']] (some 1)] = S1 at *
  by_cases hn : T.name = T'.name
  rotate_left 1
  · have hne : T ≠ T' := fun e => hn (by rw [e])
    simp [hn, hne, htk]
  simp [hn, hbox1, hbox2]
  refine w30'.use ?_
  rintro e S2 ⟨rfl, rfl⟩
  by_cases hcc : T.cols = T'.cols
  rotate_left 1
  · have hne : T ≠ T' := fun e => hcc (by rw [e])
    simp [hn, hcc, hne, htk]
  by_cases hll : T.idxs.length = T'.idxs.length
  rotate_left 1
  · have hne : T ≠ T' := fun e => hll (by rw [e])
    have hb : ((T.idxs.length : Int) == (T'.idxs.length : Int)) = false := beq_eq_false_iff_ne.2 (by omega)
    simp [hn, hcc, hbox1, hbox2, hli, hli', bne, hb, hne, htk]
  have hTT : decide (T = T') = decide (T.idxs = T'.idxs) := by
    cases T; cases T'
    simp at hn hcc ⊢
    simp [hn, hcc]
  rw [hTT]
  simp [hn, hcc, hbox1, hbox2, hli, hli', hll]
  refine mwp_loop (I := fun n a S' => ∃ i : Nat, n = T.idxs.length - i ∧ i ≤ T.idxs.length ∧ get a 2 = .ptr S.length 0 0 ∧ get a 3 = .ptr (S.length + 1) 0 0 ∧ get a 5 = .int i ∧ Ab S2 S' ∧ T.idxs.take i = T'.idxs.take i) (n := T.idxs.length) ?_ ?_
  · exact ⟨0, rfl, Nat.zero_le _, rfl, rfl, rfl, Ab.refl _, rfl⟩
  rintro n a S' ⟨i, rfl, hile, a2, a3, a5, hab, hsame⟩
  have habS := hab1.trans hab
  have hb1 : S'[S.length]? = some (AObj.cells 3 [[.str T.name, vc, vi]] (some 1)) := by rw [hab.get (lt_of_some hbox1)]; exact hbox1
  have hb2 : S'[S.length + 1]? = some (AObj.cells 3 [[.str T'.name, vc', vi']] (some 1)) := by rw [hab.get (lt_of_some hbox2)]; exact hbox2
  have hlS := (habS.rs hi).rk.lenR
  rw [hx.1] at hlS
  by_cases hlt : i < T.idxs.length
  · have hlt' : i < T'.idxs.length := by omega
    obtain ⟨w, ew, hw⟩ := (habS.idxs hx).2 i hlt
    obtain ⟨w', ew', hw'⟩ := (habS.idxs hx').2 i hlt'
    obtain ⟨p, hp⟩ := (habS.rs hi).rk.elemU (i := i) (by rw [hx.1]; exact hlt) (by rw [ew]; rfl)
    obtain ⟨p', hp'⟩ := (habS.rs hi').rk.elemU (i := i) (by rw [hx'.1]; exact hlt') (by rw [ew']; rfl)
    have q1 := (hp _ (Ab.refl _)).1
    have q2 := (hp _ (Ab.refl _)).2 true 3 (Nat.le_refl _)
    have q3 := (hp' _ (Ab.refl _)).1
    have q4 := (hp' _ (Ab.refl _)).2 true 3 (Nat.le_refl _)
    have q1g := fun g => (hp _ (Ab.start S' g)).1
    have q2g := fun g => (hp _ (Ab.start S' g)).2 true 3 (Nat.le_refl _)
    have q3g := fun g => (hp' _ (Ab.start S' g)).1
    have q4g := fun g => (hp' _ (Ab.start S' g)).2 true 3 (Nat.le_refl _)
    have hb1g : ∀ g, (S' ++ g)[S.length]? = some (AObj.cells 3 [[.str T.name, vc, vi]] (some 1)) := fun g => by rw [List.getElem?_append_left (lt_of_some hb1)]; exact hb1
    have hb2g : ∀ g, (S' ++ g)[S.length + 1]? = some (AObj.cells 3 [[.str T'.name, vc', vi']] (some 1)) := fun g => by rw [List.getElem?_append_left (lt_of_some hb2)]; exact hb2
    rw [ew] at q2 q2g
    rw [ew'] at q4 q4g
    simp at q2 q4 q2g q4g
    have ow := hw.rk.isOne
    have ow' := hw'.rk.isOne
    have hkk := hzk T.idxs[i] (List.getElem_mem hlt)
    have hxi : ∀ h : ¬ T.idxs[i] = T'.idxs[i], ¬ T.idxs = T'.idxs := fun h => ne_of_getElem hlt hlt' h
    have hst : T.idxs[i] = T'.idxs[i] → T.idxs.take (i + 1) = T'.idxs.take (i + 1) := take_eq_step hsame hlt hlt'
    generalize T.idxs[i] = x at *
    generalize T'.idxs[i] = x' at *
    have wA := w31 (w0 := w0) (hw.more [AObj.cells 3 [[.str x.name, w, .bool x.uniq]] (some 1), AObj.cells 3 [[.str x'.name, w', .bool x'.uniq]] (some 1)]).rk (hw'.more [AObj.cells 3 [[.str x.name, w, .bool x.uniq]] (some 1), AObj.cells 3 [[.str x'.name, w', .bool x'.uniq]] (some 1)]).rk (by omega)
    have wB := w31 (w0 := w0) (hw.more [AObj.cells 3 [[.str x'.name, w', .bool x'.uniq]] (some 1), AObj.cells 3 [[.str x.name, w, .bool x.uniq]] (some 1)]).rk (hw'.more [AObj.cells 3 [[.str x'.name, w', .bool x'.uniq]] (some 1), AObj.cells 3 [[.str x.name, w, .bool x.uniq]] (some 1)]).rk (by omega)
    have tA := (habS.more [AObj.cells 3 [[.str x.name, w, .bool x.uniq]] (some 1), AObj.cells 3 [[.str x'.name, w', .bool x'.uniq]] (some 1)]).2
    have tB := (habS.more [AObj.cells 3 [[.str x'.name, w', .bool x'.uniq]] (some 1), AObj.cells 3 [[.str x.name, w, .bool x.uniq]] (some 1)]).2
    have aA := hab.more [AObj.cells 3 [[.str x.name, w, .bool x.uniq]] (some 1), AObj.cells 3 [[.str x'.name, w', .bool x'.uniq]] (some 1)]
    have aB := hab.more [AObj.cells 3 [[.str x'.name, w', .bool x'.uniq]] (some 1), AObj.cells 3 [[.str x.name, w, .bool x.uniq]] (some 1)]
    by_cases hnm : x.name = x'.name
    rotate_left 1
    · have hne := hxi (fun e => hnm (by rw [e]))
      simp [f10b0, a2, a3, a5, hb1, hb2, hb1g, hb2g, hlS, hlt, q1, q2, q3, q4, q1g, q2g, q3g, q4g, ow, ow', hnm, hne, tA, tB]
    by_cases hun : x.uniq = x'.uniq
    rotate_left 1
    · have hne := hxi (fun e => hun (by rw [e]))
      have hunb : (x.uniq == x'.uniq) = false := beq_eq_false_iff_ne.2 hun
      simp [f10b0, a2, a3, a5, hb1, hb2, hb1g, hb2g, hlS, hlt, q1, q2, q3, q4, q1g, q2g, q3g, q4g, ow, ow', hnm, hunb, hne]
      rw [hnm] at tA tB
      exact ⟨tA, tB⟩
    have hxe : decide (x.cols = x'.cols) = decide (x = x') := by
      cases x; cases x'
      simp at hnm hun ⊢
      simp [hnm, hun]
    simp [f10b0, a2, a3, a5, hb1, hb2, hb1g, hb2g, hlS, hlt, q1, q2, q3, q4, q1g, q2g, q3g, q4g, ow, ow', hnm, hun]
    rw [hnm, hun] at wA wB tA tB aA aB
    refine ⟨?_, ?_⟩
    · refine wA.use ?_
      rintro e S3 ⟨rfl, rfl⟩
      by_cases hcl : x.cols = x'.cols
      · have hxx : x = x' := by rw [decide_eq_true hcl] at hxe; exact of_decide_eq_true hxe.symm
        simp [hcl, a2, a3, a5, wrapS i (by omega)]
        exact ⟨T.idxs.length - (i + 1), by omega, i + 1, rfl, by omega, by simp, aA, hst hxx⟩
      · have hne := hxi (fun e => hcl (by rw [e]))
        simp [hcl, hne, tA]
    · refine wB.use ?_
      rintro e S3 ⟨rfl, rfl⟩
      by_cases hcl : x.cols = x'.cols
      · have hxx : x = x' := by rw [decide_eq_true hcl] at hxe; exact of_decide_eq_true hxe.symm
        simp [hcl, a2, a3, a5, wrapS i (by omega)]
        exact ⟨T.idxs.length - (i + 1), by omega, i + 1, rfl, by omega, by simp, aB, hst hxx⟩
      · have hne := hxi (fun e => hcl (by rw [e]))
        simp [hcl, hne, tB]
  · have hie : i = T.idxs.length := by omega
    have heq : T.idxs = T'.idxs := by rw [← List.take_length (l := T.idxs), ← List.take_length (l := T'.idxs), ← hll, ← hie]; exact hsame
    have hlt2 : ¬ i < T'.idxs.length := by omega
    simp [f10b0, a2, a3, a5, hb1, hb2, hlS, hlt, hlt2, heq, habS.2]
end Go.Abs
