/- Rows of descriptions. Conditions: none but the lengths; definitions and lemmas. -/
import Derived.Test.YtjoehmgnapdhaabDoorEA
import Derived.Test.YtjoehmgnapdhaabDoorF5
import Derived.Test.YtjoehmgnapdhaabDoorA36
set_option linter.unusedSimpArgs false
set_option linter.unusedVariables false
namespace Go.Abs
open Go Go.RowKit Go.Proofs Go.Lx
variable {w0 : World}

structure Val where
  kind : Int
  num : Int
  text : Bs
  deriving DecidableEq
def valC (v : Val) : List AVal := [.int v.kind, .int v.num, .str v.text]
def valsC (l : List Val) : List (List AVal) := l.map valC
@[simp] theorem valsC_len (l : List Val) : (valsC l).length = l.length := by simp [valsC]
theorem valsC_get (l : List Val) (i : Nat) (h : i < l.length) : (valsC l).getD i [] = valC l[i] := by rw [getD_eq _ _ _ (by simpa using h)]; simp [valsC]
def rowC (r : List Val) : List AVal := [.list .full (valsC r)]
def rowsC (L : List (List Val)) : List (List AVal) := L.map rowC
@[simp] theorem rowsC_len (L : List (List Val)) : (rowsC L).length = L.length := by simp [rowsC]
theorem rowsC_get (L : List (List Val)) (i : Nat) (h : i < L.length) : (rowsC L).getD i [] = rowC L[i] := by rw [getD_eq _ _ _ (by simpa using h)]; simp [rowsC]

def textV (s : Bs) : Val := ⟨4, 0, s⟩
def intV (i : Int) : Val := ⟨2, i, []⟩
def flagV (b : Bool) : Val := ⟨1, if b then 1 else 0, []⟩
def typeWords : List Bs := [[], [66, 79, 79, 76], [73, 78, 84], [82, 69, 65, 76], [84, 69, 88, 84]]
def wordT (t : Int) : Bs := if 0 ≤ t ∧ t ≤ 4 then typeWords.getD t.toNat [] else []

theorem w19 (s : Bs) (S : Heap) : ACalls Tryd.prog (B0 w0) 19 [.str s] S fun e S' => e = .ret (.agg (valC (textV s))) ∧ S' = S := by
  refine ACalls.close (R := fun e S' => e = .ret (.agg (valC (textV s))) ∧ S'.take S.length = S) ?_ ?_
  rotate_left 1
  · rintro e S' ⟨rfl, ht⟩
    exact .flat ht rfl ⟨rfl, rfl⟩
  refine fn_sound tryOrd (f19_c _) (by simp [f19]) ?_
  simp [f19, f19m, valC, textV]
theorem w20 (b : Bool) (S : Heap) : ACalls Tryd.prog (B0 w0) 20 [.bool b] S fun e S' => e = .ret (.agg (valC (flagV b))) ∧ S' = S := by
  refine ACalls.close (R := fun e S' => e = .ret (.agg (valC (flagV b))) ∧ S'.take S.length = S) ?_ ?_
  rotate_left 1
  · rintro e S' ⟨rfl, ht⟩
    exact .flat ht rfl ⟨rfl, rfl⟩
  refine fn_sound tryOrd (f20_c _) (by simp [f20]) ?_
  cases b <;> simp [f20, f20m, valC, flagV]
theorem w18 (S : Heap) : ACalls Tryd.prog (B0 w0) 18 [] S fun e S' => e = .ret (.list .full (strs typeWords)) ∧ S' = S := by
  refine fn_sound tryOrd (f18_c _) (by simp [f18]) ?_
  simp [f18, f18m, strs, typeWords]
theorem w37 (s : Bs) (t : Int) (S : Heap) : ACalls Tryd.prog (B0 w0) 37 [.str s, .int t] S fun e S' => e = .ret (.agg (colC ⟨s, t, true⟩)) ∧ S' = S := by
  refine ACalls.close (R := fun e S' => e = .ret (.agg (colC ⟨s, t, true⟩)) ∧ S'.take S.length = S) ?_ ?_
  rotate_left 1
  · rintro e S' ⟨rfl, ht⟩
    exact .flat ht rfl ⟨rfl, rfl⟩
  refine fn_sound tryOrd (f37_c _) (by simp [f37]) ?_
  simp [f37, f37m, colC]

def isSys (s : Bs) : Bool := decide (s = [115, 121, 115, 116, 97, 98, 108, 101, 115]) || decide (s = [115, 121, 115, 99, 111, 108, 117, 109, 110, 115]) || decide (s = [115, 121, 115, 105, 110, 100, 101, 120, 101, 115])
theorem w13 (s : Bs) (S : Heap) : ACalls Tryd.prog (B0 w0) 13 [.str s] S fun e S' => e = .ret (.bool (isSys s)) ∧ S' = S := by
  refine fn_sound tryOrd (f13_c _) (by simp [f13]) ?_
  by_cases h1 : s = [115, 121, 115, 116, 97, 98, 108, 101, 115]
  · simp [f13, f13m, h1, isSys]
  by_cases h2 : s = [115, 121, 115, 99, 111, 108, 117, 109, 110, 115]
  · simp [f13, f13m, h2, isSys]
  simp [f13, f13m, h1, h2, isSys]
/-- TableRow. -/
theorem w14 {S : Heap} {T : Tbl} {av : List AVal} (ht : TblV S T av) : ACalls Tryd.prog (B0 w0) 14 [.agg av] S fun e S' => e = .ret (.list .full (valsC [textV T.name])) ∧ S' = S := by
  refine ACalls.close (R := fun e S' => e = .ret (.list .full (valsC [textV T.name])) ∧ S'.take S.length = S) ?_ ?_
  rotate_left 1
  · rintro e S' ⟨rfl, ht⟩
    exact .flat ht (by simp [valsC, valC]) ⟨rfl, rfl⟩
  obtain ⟨vc, vi, es, rfl, hc, hi, hx⟩ := ht
  have oc := hc.rk.isOne
  have oi := hi.rk.isOne
  refine fn_sound tryOrd (f14_c _) (by simp [f14]) ?_
  simp [f14, f14m, oc, oi]
  refine (w19 T.name _).use ?_
  rintro e S1 ⟨rfl, rfl⟩
  simp [valsC, valC]
end Go.Abs
set_option linter.unusedSimpArgs false
set_option linter.unusedVariables false
namespace Go.Abs
open Go Go.RowKit Go.Proofs Go.Lx
variable {w0 : World}

def colRow (tn : Bs) (i : Nat) (c : Col) : List Val := [textV tn, intV i, textV c.name, textV (wordT c.type), flagV c.req]
def colRows (tn : Bs) (cs : List Col) (n : Nat) : List (List Val) := (List.range n).map fun j => colRow tn j (cs.getD j ⟨[], 0, false⟩)
theorem colRows_succ (tn : Bs) (cs : List Col) (n : Nat) (h : n < cs.length) : colRows tn cs (n + 1) = colRows tn cs n ++ [colRow tn n cs[n]] := by
  rw [colRows, List.range_succ, List.map_append, ← colRows]
  simp [h]
@[simp] theorem colRows_len (tn : Bs) (cs : List Col) (n : Nat) : (colRows tn cs n).length = n := by simp [colRows]
theorem rowsC_app (a b : List (List Val)) : rowsC (a ++ b) = rowsC a ++ rowsC b := by simp [rowsC]
theorem strs_words : strs typeWords = [[.str []], [.str [66, 79, 79, 76]], [.str [73, 78, 84]], [.str [82, 69, 65, 76]], [.str [84, 69, 88, 84]]] := rfl

@[simp] theorem valC_len (v : Val) : (valC v).length = 3 := rfl
theorem valC_one (v : Val) : ∀ x ∈ valC v, x.one = true := by
  intro x hx; simp [valC] at hx; rcases hx with rfl | rfl | rfl <;> rfl
@[simp] theorem valC_ones (v : Val) : (∀ x : AVal, x ∈ valC v → x.one = true) ↔ True := ⟨fun _ => trivial, fun _ => valC_one v⟩
theorem wordT_neg {t : Int} (h : t < 0) : wordT t = [] := by rw [wordT, if_neg (by omega)]
theorem wordT_big {t : Int} (h : 4 < t) : wordT t = [] := by rw [wordT, if_neg (by omega)]

set_option maxHeartbeats 4000000 in
/-- ColumnRows. -/
theorem w7 {S : Heap} {T : Tbl} {av : List AVal} (ht : TblV S T av) (hz : SzT T) : ACalls Tryd.prog (B0 w0) 7 [.agg av] S fun e S' => ∃ u, e = .ret u ∧ Own S.length S S' [(u, 1, rowsC (colRows T.name T.cols T.cols.length))] := by
  obtain ⟨vc, vi, es, rfl, hc, hi, hx⟩ := ht
  have oc := hc.rk.isOne
  have oi := hi.rk.isOne
  have oB : Own S.length S (S ++ [AObj.cells 3 [[.str T.name, vc, vi]] (some 1)]) [(.row S.length 0 1, 3, [[.str T.name, vc, vi]])] := by
    have := (Own.start S).add 3 [[.str T.name, vc, vi]] (some 1)
    simpa using this
  have hlc := (oB.ab.rs hc).rk.lenR
  simp only [colsC_len] at hlc
  have hzc := hz.hc
  refine fn_sound tryOrd (f7_c _) (by simp [f7]) ?_
  simp [f7, f7m, oc, oi, hlc]
  refine mwp_loop (I := fun n a S' => ∃ (i : Nat) (u : AVal), n = T.cols.length - i ∧ i ≤ T.cols.length ∧ get a 1 = .ptr S.length 0 0 ∧ get a 2 = u ∧ get a 7 = vc ∧ get a 8 = .int T.cols.length ∧ get a 9 = .int i ∧
    Own S.length S S' [(.row S.length 0 1, 3, [[.str T.name, vc, vi]]), (u, 1, rowsC (colRows T.name T.cols i))]) (n := T.cols.length) ?_ ?_
  · exact ⟨0, _, rfl, Nat.zero_le _, rfl, rfl, rfl, rfl, rfl, oB.add0 1 .nil (.inl rfl)⟩
  rintro n a S' ⟨i, u, rfl, hile, a1, a2, a7, a8, a9, ho⟩
  by_cases hlt : i < T.cols.length
  · obtain ⟨p, q1, q2, _⟩ := (ho.ab.rs hc).rk.col hlt
    have hrw := colRows_succ T.name T.cols i hlt
    generalize hcd : T.cols[i] = c at *
    obtain ⟨r1, c1, hb1⟩ := (ho.more [.cells 3 [colC c] (some 1)]).boxget (i := 0) (b := S.length) rfl
    have w19a := fun S => w19 (w0 := w0) T.name S
    have w19b := fun S => w19 (w0 := w0) c.name S
    have w19c := fun S => w19 (w0 := w0) (wordT c.type) S
    have w20' := fun S => w20 (w0 := w0) c.req S
    have w18' := fun S => w18 (w0 := w0) S
    obtain ⟨S2, happ, ho2, _⟩ := (ho.more [.cells 3 [colC c] (some 1)]).app 1 rfl (y := .list .full [[.list .full (valsC (colRow T.name i c))]]) (ys := [rowC (colRow T.name i c)]) (bytes := 24) rfl (by simp [rowC]) (by decide) (by simp; omega) (by simp; omega)
    have hfin : ∃ n', n' < T.cols.length - i ∧ n' = T.cols.length - (i + 1) := ⟨_, by omega, rfl⟩
    simp only [colC] at q2 happ hb1
    simp [-appendR] at happ
    have hown : Own S.length S S2 [(.row S.length 0 1, 3, [[.str T.name, vc, vi]]), (.row (S'.length + 1) 0 (i + 1), 1, rowsC (colRows T.name T.cols (i + 1)))] := by
      rw [hrw, rowsC_app]
      simpa [rowsC] using ho2
    have hrow : valsC (colRow T.name i c) = [valC (textV T.name), [.int 2, .int i, .str []], valC (textV c.name), valC (textV (wordT c.type)), valC (flagV c.req)] := rfl
    rw [hrow] at happ
    have ov : ∀ v : Val, ∃ x y z, valC v = [.int x, .int y, .str z] := fun v => ⟨_, _, _, rfl⟩
    by_cases h0 : 0 ≤ c.type
    rotate_left 1
    · have hw : wordT c.type = [] := by rw [wordT, if_neg (by omega)]
      rw [hw] at w19c happ
      simp [-appendR, f7b0, a1, a2, a7, a8, a9, hlt, q1, q2, h0, hb1]
      refine (w19a _).use ?_
      rintro e S3 ⟨rfl, rfl⟩
      simp [-appendR, a1, a2, a7, a8, a9]
      refine (w19b _).use ?_
      rintro e S3 ⟨rfl, rfl⟩
      simp [-appendR, a1, a2, a7, a8, a9]
      refine (w19c _).use ?_
      rintro e S3 ⟨rfl, rfl⟩
      simp [-appendR, a1, a2, a7, a8, a9]
      refine (w20' _).use ?_
      rintro e S3 ⟨rfl, rfl⟩
      simp [-appendR, a1, a2, a7, a8, a9, happ, wrapS i (by omega)]
      exact ⟨T.cols.length - (i + 1), by omega, i + 1, rfl, by omega, by simp, hown⟩
    by_cases h4 : c.type ≤ 4
    rotate_left 1
    · have hw : wordT c.type = [] := wordT_big (by omega)
      rw [hw] at w19c happ
      simp [-appendR, f7b0, a1, a2, a7, a8, a9, hlt, q1, q2, h0, h4, hb1]
      refine (w19a _).use ?_
      rintro e S3 ⟨rfl, rfl⟩
      simp [-appendR, a1, a2, a7, a8, a9]
      refine (w19b _).use ?_
      rintro e S3 ⟨rfl, rfl⟩
      simp [-appendR, a1, a2, a7, a8, a9]
      refine (w19c _).use ?_
      rintro e S3 ⟨rfl, rfl⟩
      simp [-appendR, a1, a2, a7, a8, a9]
      refine (w20' _).use ?_
      rintro e S3 ⟨rfl, rfl⟩
      simp [-appendR, a1, a2, a7, a8, a9, happ, wrapS i (by omega)]
      exact ⟨T.cols.length - (i + 1), by omega, i + 1, rfl, by omega, by simp, hown⟩
    have hty : c.type = 0 ∨ c.type = 1 ∨ c.type = 2 ∨ c.type = 3 ∨ c.type = 4 := by omega
    obtain ⟨tt, htt⟩ : ∃ tt, c.type = tt := ⟨_, rfl⟩
    rw [htt] at hty h0 h4 q2 hb1 happ w19c
    have hlen2 : T.cols.length * 24 ≤ 140737488351232 := by omega
    rcases hty with rfl | rfl | rfl | rfl | rfl <;>
    · simp only [wordT, typeWords] at w19c happ
      simp [-appendR] at w19c happ
      simp [-appendR, f7b0, a1, a2, a7, a8, a9, hlt, q1, q2, hb1]
      refine (w18' _).use ?_
      rintro e S3 ⟨rfl, rfl⟩
      simp [-appendR, a1, a2, a7, a8, a9, strs_words, hb1]
      refine (w19a _).use ?_
      rintro e S3 ⟨rfl, rfl⟩
      simp [-appendR, a1, a2, a7, a8, a9]
      refine (w19b _).use ?_
      rintro e S3 ⟨rfl, rfl⟩
      simp [-appendR, a1, a2, a7, a8, a9]
      refine (w19c _).use ?_
      rintro e S3 ⟨rfl, rfl⟩
      simp [-appendR, a1, a2, a7, a8, a9]
      refine (w20' _).use ?_
      rintro e S3 ⟨rfl, rfl⟩
      simp [-appendR, a1, a2, a7, a8, a9, happ, wrapS i (by omega)]
      exact ⟨T.cols.length - (i + 1), by omega, i + 1, rfl, by omega, by simp, hown⟩
  · have hie : i = T.cols.length := by omega
    subst hie
    simp [f7b0, a1, a2, a7, a8, a9]
    exact ho.pick (fun _ => 1) (fun i x h => by cases i with
      | zero => exact h
      | succ i => cases h) (fun i j hi hj _ => by simp at hi hj; omega)
end Go.Abs
set_option linter.unusedSimpArgs false
set_option linter.unusedVariables false
namespace Go.Abs
open Go Go.RowKit Go.Proofs Go.Lx
variable {w0 : World}

def sysC1 : List Col := [⟨[110, 97, 109, 101], 4, true⟩]
def sysC2 : List Col := [⟨[116, 98, 108], 4, true⟩, ⟨[112, 111, 115], 2, true⟩, ⟨[110, 97, 109, 101], 4, true⟩, ⟨[116, 121, 112, 101], 4, true⟩, ⟨[114, 101, 113, 117, 105, 114, 101, 100], 1, true⟩]
def sysC3 : List Col := [⟨[110, 97, 109, 101], 4, true⟩, ⟨[116, 98, 108], 4, true⟩, ⟨[117, 110, 105, 113], 1, true⟩, ⟨[99, 111, 108, 115], 4, true⟩]
def sysT : List Tbl := [⟨[115, 121, 115, 116, 97, 98, 108, 101, 115], sysC1, []⟩, ⟨[115, 121, 115, 99, 111, 108, 117, 109, 110, 115], sysC2, []⟩, ⟨[115, 121, 115, 105, 110, 100, 101, 120, 101, 115], sysC3, []⟩]

def h7 : Heap := [.cells 3 [[.str [115, 121, 115, 116, 97, 98, 108, 101, 115], .str [115, 121, 115, 99, 111, 108, 117, 109, 110, 115], .str [115, 121, 115, 105, 110, 100, 101, 120, 101, 115]]] (some 1),
  .cells 10 [[.str [110, 97, 109, 101], .str [116, 98, 108], .str [112, 111, 115], .str [110, 97, 109, 101], .str [116, 121, 112, 101], .str [114, 101, 113, 117, 105, 114, 101, 100], .str [110, 97, 109, 101], .str [116, 98, 108], .str [117, 110, 105, 113], .str [99, 111, 108, 115]]] (some 1),
  .cells 10 [[.int 4, .int 4, .int 2, .int 4, .int 4, .int 1, .int 4, .int 4, .int 1, .int 4]] (some 1),
  .cells 4 [[.int 0, .int 1, .int 6, .int 10]] (some 1),
  .cells 3 [[.str [115, 121, 115, 116, 97, 98, 108, 101, 115], .row 5 0 1, .nilS]] (some 1),
  .cells 3 (colsC sysC1) none, .dead,
  .cells 3 [[.str [115, 121, 115, 99, 111, 108, 117, 109, 110, 115], .row 12 0 5, .nilS]] (some 1),
  .dead, .dead, .dead, .dead,
  .cells 3 (colsC sysC2) none, .dead,
  .cells 3 [[.str [115, 121, 115, 105, 110, 100, 101, 120, 101, 115], .row 18 0 4, .nilS]] (some 1),
  .dead, .dead, .dead,
  .cells 3 (colsC sysC3) none,
  .cells 3 [[.str [115, 121, 115, 116, 97, 98, 108, 101, 115], .row 5 0 1, .nilS], [.str [115, 121, 115, 99, 111, 108, 117, 109, 110, 115], .row 12 0 5, .nilS], [.str [115, 121, 115, 105, 110, 100, 101, 120, 101, 115], .row 18 0 4, .nilS]] none]

/-- A run that gives one value and leaves these objects. -/
def givesS (o : Option (List (AEnd × Heap))) (v : AVal) (S : Heap) : Bool :=
  match o with
  | some [(.ret u, T)] => u.same v && sameH T S
  | _ => false
theorem givesS_eq {o : Option (List (AEnd × Heap))} {v : AVal} {S : Heap} (h : givesS o v S = true) : o = some [(.ret v, S)] := by
  unfold givesS at h
  split at h
  · simp only [Bool.and_eq_true] at h
    rw [AVal.same_eq h.1, sameH_eq h.2]
  · cases h
/-- Three descriptions in a slice: the system tables. -/
def SysV (S : Heap) (v : AVal) : Prop := ∃ es, Rk 3 S v es ∧ es.length = 3 ∧ ∀ k (h : k < 3), TblV S (sysT[k]'h) (es.getD k [])

theorem rs_of {S : Heap} {id n : Nat} {es : List (List AVal)} {cap : Option Nat} (h : S[id]? = some (.cells 3 es cap)) (hn : es.length = n) : Rs 3 S (.row id 0 n) es := by
  have := Rk.row id 0 n es cap h (by omega)
  rw [List.drop_zero, ← hn, List.take_length, hn] at this
  exact ⟨this, fun _ => rfl⟩

set_option maxHeartbeats 4000000 in
/-- schema.System. -/
theorem w12 (S : Heap) : ACalls Tryd.prog (B0 w0) 12 [] S fun e S' => ∃ u, e = .ret u ∧ S' = S ∧ ∀ S2, SysV S2 u := by
  refine ACalls.close (R := fun e S' => e = .ret (.list .full [[.str [115, 121, 115, 116, 97, 98, 108, 101, 115], .list .full (colsC sysC1), .nilS], [.str [115, 121, 115, 99, 111, 108, 117, 109, 110, 115], .list .full (colsC sysC2), .nilS], [.str [115, 121, 115, 105, 110, 100, 101, 120, 101, 115], .list .full (colsC sysC3), .nilS]]) ∧ S'.take S.length = S) ?_ ?_
  rotate_left 1
  · rintro e S' ⟨rfl, ht⟩
    refine .flat ht rfl ⟨_, rfl, rfl, fun S2 => ⟨_, .list _ _, rfl, fun k h => ?_⟩⟩
    have hn : Rs 3 S2 .nilS [] := ⟨.nils, fun h => absurd rfl h⟩
    have hx : IdxsV S2 [] [] := ⟨rfl, fun i h => absurd h (Nat.not_lt_zero i)⟩
    rcases (show k = 0 ∨ k = 1 ∨ k = 2 by omega) with rfl | rfl | rfl
    · exact ⟨_, _, [], rfl, ⟨.list _ _, fun _ => rfl⟩, hn, hx⟩
    · exact ⟨_, _, [], rfl, ⟨.list _ _, fun _ => rfl⟩, hn, hx⟩
    · exact ⟨_, _, [], rfl, ⟨.list _ _, fun _ => rfl⟩, hn, hx⟩
  have wc := fun (s : Bs) (t : Int) => w37 (w0 := w0) s t S
  refine fn_sound tryOrd (f12_c _) (by simp [f12]) ?_
  simp [f12, f12m]
  refine (wc _ _).use ?_
  rintro e S3 ⟨rfl, rfl⟩
  simp [colC]
  refine (wc _ _).use ?_
  rintro e S3 ⟨rfl, rfl⟩
  simp [colC]
  refine (wc _ _).use ?_
  rintro e S3 ⟨rfl, rfl⟩
  simp [colC]
  refine (wc _ _).use ?_
  rintro e S3 ⟨rfl, rfl⟩
  simp [colC]
  refine (wc _ _).use ?_
  rintro e S3 ⟨rfl, rfl⟩
  simp [colC]
  refine (wc _ _).use ?_
  rintro e S3 ⟨rfl, rfl⟩
  simp [colC]
  refine (wc _ _).use ?_
  rintro e S3 ⟨rfl, rfl⟩
  simp [colC]
  refine (wc _ _).use ?_
  rintro e S3 ⟨rfl, rfl⟩
  simp [colC]
  refine (wc _ _).use ?_
  rintro e S3 ⟨rfl, rfl⟩
  simp [colC]
  refine (wc _ _).use ?_
  rintro e S3 ⟨rfl, rfl⟩
  simp [colC, colsC, sysC1, sysC2, sysC3]
end Go.Abs
set_option linter.unusedSimpArgs false
set_option linter.unusedVariables false
namespace Go.Abs
open Go Go.RowKit Go.Proofs Go.Lx
variable {w0 : World}

theorem colsGo_zero : ∀ (cs pre : List Col), colsGo pre cs = 0 → ∀ c ∈ cs, 1 ≤ c.type ∧ c.type ≤ 4
  | [], pre, _, c, h => by simp at h
  | x :: r, pre, h, c, hc => by
    unfold colsGo at h
    split at h
    · cases h
    split at h
    · cases h
    split at h
    · cases h
    rcases List.mem_cons.1 hc with rfl | hc
    · omega
    · exact colsGo_zero r _ h c hc
theorem keysGo_zero {n : Nat} : ∀ (cs pre : List Int), keysGo n pre cs = 0 → ∀ c ∈ cs, 0 ≤ c ∧ c < n
  | [], pre, _, c, h => by simp at h
  | x :: r, pre, h, c, hc => by
    unfold keysGo at h
    split at h
    · cases h
    split at h
    · cases h
    rcases List.mem_cons.1 hc with rfl | hc
    · omega
    · exact keysGo_zero r _ h c hc
theorem idxGo_zero {n : Nat} : ∀ (xs pre : List Idx), idxGo n pre xs = 0 → ∀ x ∈ xs, (∀ c ∈ x.cols, 0 ≤ c ∧ c < n) ∧ x.cols.length ≤ 4 ∧ 1 ≤ x.cols.length
  | [], pre, _, c, h => by simp at h
  | x :: r, pre, h, c, hc => by
    unfold idxGo at h
    split at h
    rotate_left 1
    · rename_i hne; exact absurd h hne
    rename_i h0
    rcases List.mem_cons.1 hc with rfl | hc
    · unfold idxOne at h0
      split at h0
      · cases h0
      split at h0
      · cases h0
      split at h0
      · cases h0
      exact ⟨keysGo_zero _ _ h0, by omega, by omega⟩
    · exact idxGo_zero r _ h c hc
structure GoodT (T : Tbl) : Prop where
  n1 : 1 ≤ T.cols.length
  n16 : T.cols.length ≤ 16
  ty : ∀ c ∈ T.cols, 1 ≤ c.type ∧ c.type ≤ 4
  n8 : T.idxs.length ≤ 8
  ix : ∀ x ∈ T.idxs, (∀ c ∈ x.cols, 0 ≤ c ∧ c < T.cols.length) ∧ x.cols.length ≤ 4 ∧ 1 ≤ x.cols.length
theorem goodT {T : Tbl} (h : checkT T = 0) : GoodT T := by
  unfold checkT at h
  split at h
  · cases h
  split at h
  rotate_left 1
  · rename_i hne; exact absurd h hne
  rename_i h0
  unfold colsErr at h0
  split at h0
  · cases h0
  split at h
  · cases h
  exact ⟨by omega, by omega, colsGo_zero _ _ h0, by omega, idxGo_zero _ _ h⟩

end Go.Abs
set_option linter.unusedSimpArgs false
set_option linter.unusedVariables false
namespace Go.Abs
open Go Go.RowKit Go.Proofs Go.Lx
variable {w0 : World}

theorem join_snoc (xs : List Bs) (y sep : Bs) : Lib.join (xs ++ [y]) sep = if xs = [] then y else Lib.join xs sep ++ sep ++ y := by
  cases xs with
  | nil => simp [Lib.join_one]
  | cons x r => simp [Lib.join_cons, Lib.joinTail]
theorem join_take_le (xs : List Bs) (sep : Bs) (k : Nat) : (Lib.join (xs.take k) sep).length ≤ (Lib.join xs sep).length := by
  cases xs with
  | nil => simp
  | cons x r =>
    cases k with
    | zero => simp [Lib.join_nil]
    | succ k =>
      have := Lib.joinTail_take_le sep r k
      simp only [List.take_succ_cons, Lib.join_cons, List.length_append]
      omega

def nameAt (cs : List Col) (c : Int) : Bs := (cs.getD c.toNat ⟨[], 0, false⟩).name
def pickN (cs : List Col) (l : List Int) : List Bs := l.filterMap fun (c : Int) => if 0 ≤ c ∧ c < cs.length then some (nameAt cs c) else none
theorem pickN_step (cs : List Col) (l : List Int) (i : Nat) (h : i < l.length) : pickN cs (l.take (i + 1)) = pickN cs (l.take i) ++ (if 0 ≤ l[i] ∧ l[i] < cs.length then [nameAt cs l[i]] else []) := by
  rw [List.take_add_one, List.getElem?_eq_getElem h, pickN, pickN, List.filterMap_append]
  by_cases hc : 0 ≤ l[i] ∧ l[i] < cs.length <;> simp [hc]
theorem pickN_len (cs : List Col) (l : List Int) : (pickN cs l).length ≤ l.length := List.length_filterMap_le _ _
theorem pickN_all (cs : List Col) (l : List Int) (h : ∀ c ∈ l, 0 ≤ c ∧ c < cs.length) : pickN cs l = l.map (nameAt cs) := by
  induction l with
  | nil => rfl
  | cons x r ih =>
    have hx := h x (List.mem_cons_self ..)
    have := ih fun c hc => h c (List.mem_cons_of_mem _ hc)
    rw [pickN, List.filterMap_cons, if_pos hx, List.map_cons, ← this]; rfl

def idxOf (T : Tbl) (j : Nat) : Idx := T.idxs.getD j ⟨[], [], false⟩
def idxVals (T : Tbl) (x : Idx) : List Val := [textV x.name, textV T.name, flagV x.uniq, textV (Lib.join (pickN T.cols x.cols) [44])]
def idxRow (T : Tbl) (k : Int) : List Val := if 0 ≤ k ∧ k < T.idxs.length then idxVals T (idxOf T k.toNat) else []
theorem strs_app (a b : List Bs) : strs (a ++ b) = strs a ++ strs b := by simp [strs]

set_option maxHeartbeats 4000000 in
/-- IndexRow. -/
theorem w8 {S : Heap} {T : Tbl} {av : List AVal} (ht : TblV S T av) (hz : SzT T) (hz2 : ∀ x ∈ T.idxs, x.cols.length * 16 ≤ 140737488351232) (hJ : ∀ x ∈ T.idxs, (Lib.join (pickN T.cols x.cols) [44]).length ≤ 140737488355328) (k : Int) :
    ACalls Tryd.prog (B0 w0) 8 [.agg av, .int k] S fun e S' => e = .ret (if 0 ≤ k ∧ k < T.idxs.length then .list .full (valsC (idxRow T k)) else .nilS) ∧ S' = S := by
  obtain ⟨vc, vi, es, rfl, hc, hi, hx⟩ := ht
  have oc := hc.rk.isOne
  have oi := hi.rk.isOne
  have oB : Own S.length S (S ++ [AObj.cells 3 [[.str T.name, vc, vi]] (some 1)]) [(.row S.length 0 1, 3, [[.str T.name, vc, vi]])] := by
    have := (Own.start S).add 3 [[.str T.name, vc, vi]] (some 1)
    simpa using this
  have hli := (oB.ab.rs hi).rk.lenR
  rw [hx.1] at hli
  refine ACalls.close (R := fun e S' => e = .ret (if 0 ≤ k ∧ k < T.idxs.length then .list .full (valsC (idxRow T k)) else .nilS) ∧ S'.take S.length = S) ?_ ?_
  rotate_left 1
  · rintro e S' ⟨rfl, ht⟩
    refine .flat ht ?_ ⟨rfl, rfl⟩
    split
    · rename_i h; simp only [idxRow, if_pos h]; rfl
    · rfl
  by_cases hk0 : k < 0
  · have hn : ¬ (0 ≤ k ∧ k < T.idxs.length) := by omega
    rw [if_neg hn]
    refine fn_sound tryOrd (f8_c _) (by simp [f8]) ?_
    simp [f8, f8m, oc, oi, hk0]
  by_cases hkn : (T.idxs.length : Int) ≤ k
  · have hn : ¬ (0 ≤ k ∧ k < T.idxs.length) := by omega
    rw [if_neg hn]
    refine fn_sound tryOrd (f8_c _) (by simp [f8]) ?_
    simp [f8, f8m, oc, oi, hk0, hkn, hli]
  obtain ⟨j, rfl⟩ : ∃ j : Nat, k = j := ⟨k.toNat, by omega⟩
  have hj : j < T.idxs.length := by omega
  have hin : 0 ≤ (j : Int) ∧ (j : Int) < T.idxs.length := by omega
  rw [if_pos hin, idxRow, if_pos hin]
  have hxo : idxOf T (j : Int).toNat = T.idxs[j] := by rw [idxOf, Int.toNat_natCast, getD_eq _ _ _ hj]
  rw [hxo]
  have hz2' := hz2 T.idxs[j] (List.getElem_mem hj)
  have hJ' := hJ T.idxs[j] (List.getElem_mem hj)
  obtain ⟨w, ew, hw⟩ := hx.2 j hj
  have hrd : ∀ {S'}, Ab S S' → ∃ p, iaddrR 3 S' vi (.int j) = .ok true p S' ∧ ∀ off, ∃ p', addOff off S' p = .ok true p' S' ∧ ∀ agg m, off + m ≤ 3 → loadR agg m S' p' = .ok true (takeAt agg m [.str T.idxs[j].name, w, .bool T.idxs[j].uniq] off) S' := fun {S'} hab => by
    obtain ⟨p, q1, _, q3⟩ := (hab.rs hi).rk.elem (i := j) (by rw [hx.1]; exact hj) (by rw [ew]; rfl)
    rw [ew] at q3
    exact ⟨p, q1, q3⟩
  generalize hxe : T.idxs[j] = x at *
  have hlw := (oB.ab.rs hw).rk.lenR
  simp only [ints_len] at hlw
  obtain ⟨p, q1, q2⟩ := hrd oB.ab
  obtain ⟨p1, q3, q4⟩ := q2 1
  have q4 := q4 false 1 (by omega)
  simp at q4
  refine fn_sound tryOrd (f8_c _) (by simp [f8]) ?_
  simp [f8, f8m, oc, oi, hk0, hkn, hli, q1, q3, q4, hlw]
  refine mwp_loop (I := fun n a S' => ∃ (i : Nat) (u : AVal), n = x.cols.length - i ∧ i ≤ x.cols.length ∧ get a 1 = .int j ∧ get a 2 = .ptr S.length 0 0 ∧ get a 5 = u ∧ get a 22 = w ∧ get a 23 = .int x.cols.length ∧ get a 24 = .int i ∧
    Own S.length S S' [(.row S.length 0 1, 3, [[.str T.name, vc, vi]]), (u, 1, strs (pickN T.cols (x.cols.take i)))]) (n := x.cols.length) ?_ ?_
  · exact ⟨0, _, rfl, Nat.zero_le _, rfl, rfl, rfl, rfl, rfl, rfl, oB.add0 1 .nil (.inl rfl)⟩
  rintro n a S' ⟨i, u, rfl, hile, a1, a2, a5, a22, a23, a24, ho⟩
  obtain ⟨r0, c0, hb0⟩ := ho.boxget (i := 0) (b := S.length) rfl
  by_cases hlt : i < x.cols.length
  · obtain ⟨p, q1, q2⟩ := (ho.ab.rs hw).rk.int hlt
    have hlc := (ho.ab.rs hc).rk.lenR
    simp only [colsC_len] at hlc
    have hst := pickN_step T.cols x.cols i hlt
    have hpl := pickN_len T.cols (x.cols.take i)
    rw [List.length_take] at hpl
    generalize hcv : x.cols[i] = c at *
    by_cases h0 : 0 ≤ c
    rotate_left 1
    · have hn : ¬ (0 ≤ c ∧ c < T.cols.length) := by omega
      rw [if_neg hn, List.append_nil] at hst
      simp [-appendR, f8b0, a1, a2, a5, a22, a23, a24, hlt, q1, q2, h0, wrapS i (by omega)]
      exact ⟨x.cols.length - (i + 1), by omega, i + 1, rfl, by omega, by simp, by rw [hst]; exact ho⟩
    by_cases h1 : c < T.cols.length
    rotate_left 1
    · have hn : ¬ (0 ≤ c ∧ c < T.cols.length) := by omega
      rw [if_neg hn, List.append_nil] at hst
      simp [-appendR, f8b0, a1, a2, a5, a22, a23, a24, hlt, q1, q2, h0, h1, hb0, hlc, wrapS i (by omega)]
      exact ⟨x.cols.length - (i + 1), by omega, i + 1, rfl, by omega, by simp, by rw [hst]; exact ho⟩
    obtain ⟨cn, rfl⟩ : ∃ cn : Nat, c = cn := ⟨c.toNat, by omega⟩
    have hcn : cn < T.cols.length := by omega
    have hn : 0 ≤ (cn : Int) ∧ (cn : Int) < T.cols.length := by omega
    rw [if_pos hn] at hst
    have hna : nameAt T.cols cn = T.cols[cn].name := by rw [nameAt, Int.toNat_natCast, getD_eq _ _ _ hcn]
    rw [hna] at hst
    obtain ⟨p2, t1, _, p3, t2, t3, _⟩ := (ho.ab.rs hc).rk.col hcn
    obtain ⟨S2, happ, ho2, _⟩ := ho.app 1 rfl (y := .list .full [[.str T.cols[cn].name]]) (ys := [[.str T.cols[cn].name]]) (bytes := 16) rfl (by simp) (by decide) (by simp; omega) (by simp; omega)
    simp [-appendR] at happ
    simp [-appendR, f8b0, a1, a2, a5, a22, a23, a24, hlt, q1, q2, h0, hcn, hb0, hlc, t1, t2, t3, happ, wrapS i (by omega)]
    refine ⟨x.cols.length - (i + 1), by omega, i + 1, rfl, by omega, by simp, ?_⟩
    rw [hst, strs_app]
    simpa [strs] using ho2
  · have hie : i = x.cols.length := by omega
    subst hie
    rw [List.take_length] at ho
    clear q1 q2 q3 q4
    obtain ⟨p, q1, q2⟩ := hrd ho.ab
    obtain ⟨p0, q3, q4⟩ := q2 0
    obtain ⟨p2, q5, q6⟩ := q2 2
    have q4 := q4 false 1 (by omega)
    have q6 := q6 false 1 (by omega)
    simp at q4 q6
    have w19a := w19 (w0 := w0) x.name S'
    have w19b := w19 (w0 := w0) T.name S'
    have w19c := w19 (w0 := w0) (Lib.join (pickN T.cols x.cols) [44]) S'
    have w20' := w20 (w0 := w0) x.uniq S'
    have hpl := pickN_len T.cols x.cols
    have wj := wJoin (β := B0 w0) (S := S') (v := u) (xs := pickN T.cols x.cols) (sep := [44]) ((ho.rk 1 rfl).elems) (by omega) hJ'
    have htk := ho.ab.2
    simp [f8b0, a1, a2, a5, a22, a23, a24, hb0, q1, q3, q4, q5, q6]
    refine w19a.use ?_
    rintro e S3 ⟨rfl, rfl⟩
    simp [a1, a2, a5, a22, a23, a24, hb0, q1, q3, q4, q5, q6]
    refine w19b.use ?_
    rintro e S3 ⟨rfl, rfl⟩
    simp [a1, a2, a5, a22, a23, a24, hb0, q1, q3, q4, q5, q6]
    refine w20'.use ?_
    rintro e S3 ⟨rfl, rfl⟩
    simp [a1, a2, a5, a22, a23, a24, hb0, q1, q3, q4, q5, q6]
    refine wj.use ?_
    rintro e S3 ⟨rfl, rfl⟩
    simp
    refine w19c.use ?_
    rintro e S3 ⟨rfl, rfl⟩
    simp [htk, idxVals, valsC]

end Go.Abs
