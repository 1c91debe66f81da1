/- Rows of descriptions. Conditions: none but the lengths; definitions and lemmas. -/
import Derived.Test.YtjoehmgnapdhaabGreatDoorEA
import Derived.Test.YtjoehmgnapdhaabGreatDoorF5
import Derived.Test.YtjoehmgnapdhaabGreatDoorA36
set_option linter.unusedSimpArgs false
set_option linter.unusedVariables false
namespace Go.Abs
open Go Go.RowKit Go.Proofs Go.Lx
variable {w0 : World}

structure Val where
  kind : Int
  num : Int
  text : Bs
  deriving DecidableEq
def valC (v : Val) : List AVal := [.int v.kind, .int v.num, .str v.text]
def valsC (l : List Val) : List (List AVal) := l.map valC
@[simp] theorem valsC_len (l : List Val) : (valsC l).length = l.length := by simp [valsC]
theorem valsC_get (l : List Val) (i : Nat) (h : i < l.length) : (valsC l).getD i [] = valC l[i] := by rw [getD_eq _ _ _ (by simpa using h)]; simp [valsC]
def rowC (r : List Val) : List AVal := [.list .full (valsC r)]
def rowsC (L : List (List Val)) : List (List AVal) := L.map rowC
@[simp] theorem rowsC_len (L : List (List Val)) : (rowsC L).length = L.length := by simp [rowsC]
theorem rowsC_get (L : List (List Val)) (i : Nat) (h : i < L.length) : (rowsC L).getD i [] = rowC L[i] := by rw [getD_eq _ _ _ (by simpa using h)]; simp [rowsC]

def textV (s : Bs) : Val := ⟨4, 0, s⟩
def intV (i : Int) : Val := ⟨2, i, []⟩
def flagV (b : Bool) : Val := ⟨1, if b then 1 else 0, []⟩
def typeWords : List Bs := [[], [66, 79, 79, 76], [73, 78, 84], [82, 69, 65, 76], [84, 69, 88, 84]]
def wordT (t : Int) : Bs := if 0 ≤ t ∧ t ≤ 4 then typeWords.getD t.toNat [] else []

theorem w34 (s : Bs) (S : Heap) : ACalls Tryz.prog (B0 w0) 34 [.str s] S fun e S' => e = .ret (.agg (valC (textV s))) ∧ S' = S := by
  refine ACalls.close (R := fun e S' => e = .ret (.agg (valC (textV s))) ∧ S'.take S.length = S) ?_ ?_
  rotate_left 1
  · rintro e S' ⟨rfl, ht⟩
    exact .flat ht rfl ⟨rfl, rfl⟩
  refine fn_sound tryOrd (f34_c _) (by simp [f34]) ?_
  simp [f34, f34m, valC, textV]
theorem w38 (s : Bs) (S : Heap) : ACalls Tryz.prog (B0 w0) 38 [.str s] S fun e S' => e = .ret (.agg (valC (textV s))) ∧ S' = S := by
  refine ACalls.close (R := fun e S' => e = .ret (.agg (valC (textV s))) ∧ S'.take S.length = S) ?_ ?_
  rotate_left 1
  · rintro e S' ⟨rfl, ht⟩
    exact .flat ht rfl ⟨rfl, rfl⟩
  refine fn_sound tryOrd (f38_c _) (by simp [f38]) ?_
  simp [f38, f38m, valC, textV]
theorem w36 (b : Bool) (S : Heap) : ACalls Tryz.prog (B0 w0) 36 [.bool b] S fun e S' => e = .ret (.agg (valC (flagV b))) ∧ S' = S := by
  refine ACalls.close (R := fun e S' => e = .ret (.agg (valC (flagV b))) ∧ S'.take S.length = S) ?_ ?_
  rotate_left 1
  · rintro e S' ⟨rfl, ht⟩
    exact .flat ht rfl ⟨rfl, rfl⟩
  refine fn_sound tryOrd (f36_c _) (by simp [f36]) ?_
  cases b <;> simp [f36, f36m, valC, flagV]
theorem w40 (b : Bool) (S : Heap) : ACalls Tryz.prog (B0 w0) 40 [.bool b] S fun e S' => e = .ret (.agg (valC (flagV b))) ∧ S' = S := by
  refine ACalls.close (R := fun e S' => e = .ret (.agg (valC (flagV b))) ∧ S'.take S.length = S) ?_ ?_
  rotate_left 1
  · rintro e S' ⟨rfl, ht⟩
    exact .flat ht rfl ⟨rfl, rfl⟩
  refine fn_sound tryOrd (f40_c _) (by simp [f40]) ?_
  cases b <;> simp [f40, f40m, valC, flagV]
theorem w35 (S : Heap) : ACalls Tryz.prog (B0 w0) 35 [] S fun e S' => e = .ret (.list .full (strs typeWords)) ∧ S' = S := by
  refine fn_sound tryOrd (f35_c _) (by simp [f35]) ?_
  simp [f35, f35m, strs, typeWords]
theorem w39 (t : Int) (h0 : 0 ≤ t) (h4 : t ≤ 4) (S : Heap) : ACalls Tryz.prog (B0 w0) 39 [.int t] S fun e S' => e = .ret (.str (wordT t)) ∧ S' = S := by
  refine ACalls.close (R := fun e S' => e = .ret (.str (wordT t)) ∧ S'.take S.length = S) ?_ ?_
  rotate_left 1
  · rintro e S' ⟨rfl, ht⟩
    exact .flat ht rfl ⟨rfl, rfl⟩
  refine fn_sound tryOrd (f39_c _) (by simp [f39]) ?_
  have ht : t = 0 ∨ t = 1 ∨ t = 2 ∨ t = 3 ∨ t = 4 := by omega
  rcases ht with rfl | rfl | rfl | rfl | rfl <;> simp [f39, f39m, wordT, typeWords]
theorem w23 (s : Bs) (t : Int) (S : Heap) : ACalls Tryz.prog (B0 w0) 23 [.str s, .int t] S fun e S' => e = .ret (.agg (colC ⟨s, t, true⟩)) ∧ S' = S := by
  refine ACalls.close (R := fun e S' => e = .ret (.agg (colC ⟨s, t, true⟩)) ∧ S'.take S.length = S) ?_ ?_
  rotate_left 1
  · rintro e S' ⟨rfl, ht⟩
    exact .flat ht rfl ⟨rfl, rfl⟩
  refine fn_sound tryOrd (f23_c _) (by simp [f23]) ?_
  simp [f23, f23m, colC]

def isSys (s : Bs) : Bool := decide (s = [115, 121, 115, 116, 97, 98, 108, 101, 115]) || decide (s = [115, 121, 115, 99, 111, 108, 117, 109, 110, 115]) || decide (s = [115, 121, 115, 105, 110, 100, 101, 120, 101, 115])
theorem w10 (s : Bs) (S : Heap) : ACalls Tryz.prog (B0 w0) 10 [.str s] S fun e S' => e = .ret (.bool (isSys s)) ∧ S' = S := by
  refine fn_sound tryOrd (f10_c _) (by simp [f10]) ?_
  by_cases h1 : s = [115, 121, 115, 116, 97, 98, 108, 101, 115]
  · simp [f10, f10m, h1, isSys]
  by_cases h2 : s = [115, 121, 115, 99, 111, 108, 117, 109, 110, 115]
  · simp [f10, f10m, h2, isSys]
  simp [f10, f10m, h1, h2, isSys]
theorem w11 (s : Bs) (S : Heap) : ACalls Tryz.prog (B0 w0) 11 [.str s] S fun e S' => e = .ret (.bool (isSys s)) ∧ S' = S := by
  refine fn_sound tryOrd (f11_c _) (by simp [f11]) ?_
  by_cases h1 : s = [115, 121, 115, 116, 97, 98, 108, 101, 115]
  · simp [f11, f11m, h1, isSys]
  by_cases h2 : s = [115, 121, 115, 99, 111, 108, 117, 109, 110, 115]
  · simp [f11, f11m, h2, isSys]
  simp [f11, f11m, h1, h2, isSys]

/-- TableRow. -/
theorem w13 {S : Heap} {T : Tbl} {av : List AVal} (ht : TblV S T av) : ACalls Tryz.prog (B0 w0) 13 [.agg av] S fun e S' => e = .ret (.list .full (valsC [textV T.name])) ∧ S' = S := by
  refine ACalls.close (R := fun e S' => e = .ret (.list .full (valsC [textV T.name])) ∧ S'.take S.length = S) ?_ ?_
  rotate_left 1
  · rintro e S' ⟨rfl, ht⟩
    exact .flat ht (by simp [valsC, valC]) ⟨rfl, rfl⟩
  obtain ⟨vc, vi, es, rfl, hc, hi, hx⟩ := ht
  have oc := hc.rk.isOne
  have oi := hi.rk.isOne
  refine fn_sound tryOrd (f13_c _) (by simp [f13]) ?_
  simp [f13, f13m, oc, oi]
  refine (w34 T.name _).use ?_
  rintro e S1 ⟨rfl, rfl⟩
  simp [valsC, valC]
theorem w17 {S : Heap} {T : Tbl} {av : List AVal} (ht : TblV S T av) : ACalls Tryz.prog (B0 w0) 17 [.agg av] S fun e S' => e = .ret (.list .full (valsC [textV T.name])) ∧ S' = S := by
  refine ACalls.close (R := fun e S' => e = .ret (.list .full (valsC [textV T.name])) ∧ S'.take S.length = S) ?_ ?_
  rotate_left 1
  · rintro e S' ⟨rfl, ht⟩
    exact .flat ht (by simp [valsC, valC]) ⟨rfl, rfl⟩
  obtain ⟨vc, vi, es, rfl, hc, hi, hx⟩ := ht
  have oc := hc.rk.isOne
  have oi := hi.rk.isOne
  refine fn_sound tryOrd (f17_c _) (by simp [f17]) ?_
  simp [f17, f17m, oc, oi]
  refine (w38 T.name _).use ?_
  rintro e S1 ⟨rfl, rfl⟩
  simp [valsC, valC]

/-- SameRow. -/
theorem w16 {S : Heap} {v u : AVal} {l r : List Val} (h : Rk 3 S v (valsC l)) (h' : Rk 3 S u (valsC r)) (hl : l.length ≤ 4611686018427387900) : ACalls Tryz.prog (B0 w0) 16 [v, u] S fun e S' => e = .ret (.bool (decide (l = r))) ∧ S' = S := by
  have h1 := h.lenR
  have h2 := h'.lenR
  simp at h1 h2
  refine fn_sound tryOrd (f16_c _) (by simp [f16]) ?_
  by_cases hlen : l.length = r.length
  rotate_left 1
  · have g : ((l.length : Int) == (r.length : Int)) = false := beq_eq_false_iff_ne.2 (by omega)
    have hne : l ≠ r := fun e => hlen (by rw [e])
    simp [f16, f16m, h1, h2, bne, g, hne]
  simp [f16, f16m, h1, h2, hlen]
  refine mwp_loop (I := fun n a S' => ∃ i : Nat, n = l.length - i ∧ i ≤ l.length ∧ get a 0 = v ∧ get a 1 = u ∧ get a 5 = .int i ∧ S' = S ∧ l.take i = r.take i) (n := l.length) ?_ ?_
  · exact ⟨0, rfl, Nat.zero_le _, rfl, rfl, rfl, rfl, rfl⟩
  rintro n a S' ⟨i, rfl, hi, a0, a1, a5, rfl, hsame⟩
  by_cases hlt : i < l.length
  · have hlt' : i < r.length := by omega
    obtain ⟨p, q1, q2, _⟩ := h.elem (i := i) (by simpa using hlt) (by rw [valsC_get _ _ hlt]; rfl)
    obtain ⟨p', q3, q4, _⟩ := h'.elem (i := i) (by simpa using hlt') (by rw [valsC_get _ _ hlt']; rfl)
    have q2 := q2 true 3 (Nat.le_refl _)
    have q4 := q4 true 3 (Nat.le_refl _)
    rw [valsC_get _ _ hlt] at q2
    rw [valsC_get _ _ hlt'] at q4
    by_cases hx : l[i] = r[i]
    · simp only [valC] at q2 q4
      simp at q2 q4
      simp [f16b0, a0, a1, a5, h1, hlt, q1, q2, q3, q4, hx, wrapS i (by omega)]
      exact ⟨l.length - (i + 1), by omega, i + 1, rfl, by omega, by simp, take_eq_step hsame hlt hlt' hx⟩
    · have hne := ne_of_getElem hlt hlt' hx
      generalize l[i] = A at *
      generalize r[i] = B at *
      have hb : (!A.kind == B.kind || (!A.num == B.num || !decide (A.text = B.text))) = true := by
        cases A with | mk a1 a2 a3 =>
        cases B with | mk b1 b2 b3 =>
        by_cases e1 : a1 = b1
        · by_cases e2 : a2 = b2
          · have e3 : ¬ a3 = b3 := fun e => hx (by rw [e1, e2, e])
            simp [e3]
          · simp [e2]
        · simp [e1]
      simp only [valC] at q2 q4
      simp at q2 q4
      simp [f16b0, a0, a1, a5, h1, hlt, q1, q2, q3, q4, hne, hb]
  · have : i = l.length := by omega
    have heq : l = r := by rw [← List.take_length (l := l), ← List.take_length (l := r), ← hlen, ← this]; exact hsame
    have hge : ¬ i < r.length := by omega
    simp [f16b0, a0, a1, a5, h1, h2, hlt, hlen, hge, heq]

/-- SameRows. -/
theorem w18 {S : Heap} {v u : AVal} {l r : List (List Val)} (h : Rk 1 S v (rowsC l)) (h' : Rk 1 S u (rowsC r)) (hl : l.length ≤ 4611686018427387900) (hz : ∀ x ∈ l, x.length ≤ 4611686018427387900) : ACalls Tryz.prog (B0 w0) 18 [v, u] S fun e S' => e = .ret (.bool (decide (l = r))) ∧ S' = S := by
  have h1 := h.lenR
  have h2 := h'.lenR
  simp at h1 h2
  refine fn_sound tryOrd (f18_c _) (by simp [f18]) ?_
  by_cases hlen : l.length = r.length
  rotate_left 1
  · have g : ((l.length : Int) == (r.length : Int)) = false := beq_eq_false_iff_ne.2 (by omega)
    have hne : l ≠ r := fun e => hlen (by rw [e])
    simp [f18, f18m, h1, h2, bne, g, hne]
  simp [f18, f18m, h1, h2, hlen]
  refine mwp_loop (I := fun n a S' => ∃ i : Nat, n = l.length - i ∧ i ≤ l.length ∧ get a 0 = v ∧ get a 1 = u ∧ get a 5 = .int i ∧ S' = S ∧ l.take i = r.take i) (n := l.length) ?_ ?_
  · exact ⟨0, rfl, Nat.zero_le _, rfl, rfl, rfl, rfl, rfl⟩
  rintro n a S' ⟨i, rfl, hi, a0, a1, a5, rfl, hsame⟩
  by_cases hlt : i < l.length
  · have hlt' : i < r.length := by omega
    obtain ⟨p, q1, q2, _⟩ := h.elem (i := i) (by simpa using hlt) (by rw [rowsC_get _ _ hlt]; rfl)
    obtain ⟨p', q3, q4, _⟩ := h'.elem (i := i) (by simpa using hlt') (by rw [rowsC_get _ _ hlt']; rfl)
    have q2 := q2 false 1 (Nat.le_refl _)
    have q4 := q4 false 1 (Nat.le_refl _)
    rw [rowsC_get _ _ hlt, rowC] at q2
    rw [rowsC_get _ _ hlt', rowC] at q4
    simp at q2 q4
    have w16' := w16 (w0 := w0) (S := S') (l := l[i]) (r := r[i]) (.list .full _) (.list .full _) (hz _ (List.getElem_mem hlt))
    simp [f18b0, a0, a1, a5, h1, hlt, q1, q2, q3, q4]
    refine w16'.use ?_
    rintro e S1 ⟨rfl, rfl⟩
    by_cases hx : l[i] = r[i]
    · simp [hx, a0, a1, a5, wrapS i (by omega)]
      exact ⟨l.length - (i + 1), by omega, i + 1, rfl, by omega, by simp, take_eq_step hsame hlt hlt' hx⟩
    · have hne := ne_of_getElem hlt hlt' hx
      simp [hx, hne]
  · have : i = l.length := by omega
    have heq : l = r := by rw [← List.take_length (l := l), ← List.take_length (l := r), ← hlen, ← this]; exact hsame
    have hge : ¬ i < r.length := by omega
    simp [f18b0, a0, a1, a5, h1, h2, hlt, hlen, hge, heq]
end Go.Abs
set_option linter.unusedSimpArgs false
set_option linter.unusedVariables false
namespace Go.Abs
open Go Go.RowKit Go.Proofs Go.Lx
variable {w0 : World}

def colRow (tn : Bs) (i : Nat) (c : Col) : List Val := [textV tn, intV i, textV c.name, textV (wordT c.type), flagV c.req]
def colRows (tn : Bs) (cs : List Col) (n : Nat) : List (List Val) := (List.range n).map fun j => colRow tn j (cs.getD j ⟨[], 0, false⟩)
theorem colRows_succ (tn : Bs) (cs : List Col) (n : Nat) (h : n < cs.length) : colRows tn cs (n + 1) = colRows tn cs n ++ [colRow tn n cs[n]] := by
  rw [colRows, List.range_succ, List.map_append, ← colRows]
  simp [h]
@[simp] theorem colRows_len (tn : Bs) (cs : List Col) (n : Nat) : (colRows tn cs n).length = n := by simp [colRows]
theorem rowsC_app (a b : List (List Val)) : rowsC (a ++ b) = rowsC a ++ rowsC b := by simp [rowsC]
theorem strs_words : strs typeWords = [[.str []], [.str [66, 79, 79, 76]], [.str [73, 78, 84]], [.str [82, 69, 65, 76]], [.str [84, 69, 88, 84]]] := rfl

@[simp] theorem valC_len (v : Val) : (valC v).length = 3 := rfl
theorem valC_one (v : Val) : ∀ x ∈ valC v, x.one = true := by
  intro x hx; simp [valC] at hx; rcases hx with rfl | rfl | rfl <;> rfl
@[simp] theorem valC_ones (v : Val) : (∀ x : AVal, x ∈ valC v → x.one = true) ↔ True := ⟨fun _ => trivial, fun _ => valC_one v⟩
theorem wordT_neg {t : Int} (h : t < 0) : wordT t = [] := by rw [wordT, if_neg (by omega)]
theorem wordT_big {t : Int} (h : 4 < t) : wordT t = [] := by rw [wordT, if_neg (by omega)]

set_option maxHeartbeats 4000000 in
/-- ColumnRows. -/
theorem w14 {S : Heap} {T : Tbl} {av : List AVal} (ht : TblV S T av) (hz : SzT T) : ACalls Tryz.prog (B0 w0) 14 [.agg av] S fun e S' => ∃ u, e = .ret u ∧ Own S.length S S' [(u, 1, rowsC (colRows T.name T.cols T.cols.length))] := by
  obtain ⟨vc, vi, es, rfl, hc, hi, hx⟩ := ht
  have oc := hc.rk.isOne
  have oi := hi.rk.isOne
  have oB : Own S.length S (S ++ [AObj.cells 3 [[.str T.name, vc, vi]] (some 1)]) [(.row S.length 0 1, 3, [[.str T.name, vc, vi]])] := by
    have := (Own.start S).add 3 [[.str T.name, vc, vi]] (some 1)
    simpa using this
  have hlc := (oB.ab.rs hc).rk.lenR
  simp only [colsC_len] at hlc
  have hzc := hz.hc
  refine fn_sound tryOrd (f14_c _) (by simp [f14]) ?_
  simp [f14, f14m, oc, oi, hlc]
  refine mwp_loop (I := fun n a S' => ∃ (i : Nat) (u : AVal), n = T.cols.length - i ∧ i ≤ T.cols.length ∧ get a 1 = .ptr S.length 0 0 ∧ get a 2 = u ∧ get a 7 = vc ∧ get a 8 = .int T.cols.length ∧ get a 9 = .int i ∧
    Own S.length S S' [(.row S.length 0 1, 3, [[.str T.name, vc, vi]]), (u, 1, rowsC (colRows T.name T.cols i))]) (n := T.cols.length) ?_ ?_
  · exact ⟨0, _, rfl, Nat.zero_le _, rfl, rfl, rfl, rfl, rfl, oB.add0 1 .nil (.inl rfl)⟩
  rintro n a S' ⟨i, u, rfl, hile, a1, a2, a7, a8, a9, ho⟩
  by_cases hlt : i < T.cols.length
  · obtain ⟨p, q1, q2, _⟩ := (ho.ab.rs hc).rk.col hlt
    have hrw := colRows_succ T.name T.cols i hlt
    generalize hcd : T.cols[i] = c at *
    obtain ⟨r1, c1, hb1⟩ := (ho.more [.cells 3 [colC c] (some 1)]).boxget (i := 0) (b := S.length) rfl
    have w34a := fun S => w34 (w0 := w0) T.name S
    have w34b := fun S => w34 (w0 := w0) c.name S
    have w34c := fun S => w34 (w0 := w0) (wordT c.type) S
    have w36' := fun S => w36 (w0 := w0) c.req S
    have w35' := fun S => w35 (w0 := w0) S
    obtain ⟨S2, happ, ho2, _⟩ := (ho.more [.cells 3 [colC c] (some 1)]).app 1 rfl (y := .list .full [[.list .full (valsC (colRow T.name i c))]]) (ys := [rowC (colRow T.name i c)]) (bytes := 24) rfl (by simp [rowC]) (by decide) (by simp; omega) (by simp; omega)
    have hfin : ∃ n', n' < T.cols.length - i ∧ n' = T.cols.length - (i + 1) := ⟨_, by omega, rfl⟩
    simp only [colC] at q2 happ hb1
    simp [-appendR] at happ
    have hown : Own S.length S S2 [(.row S.length 0 1, 3, [[.str T.name, vc, vi]]), (.row (S'.length + 1) 0 (i + 1), 1, rowsC (colRows T.name T.cols (i + 1)))] := by
      rw [hrw, rowsC_app]
      simpa [rowsC] using ho2
    have hrow : valsC (colRow T.name i c) = [valC (textV T.name), [.int 2, .int i, .str []], valC (textV c.name), valC (textV (wordT c.type)), valC (flagV c.req)] := rfl
    rw [hrow] at happ
    have ov : ∀ v : Val, ∃ x y z, valC v = [.int x, .int y, .str z] := fun v => ⟨_, _, _, rfl⟩
    by_cases h0 : 0 ≤ c.type
    rotate_left 1
    · have hw : wordT c.type = [] := by rw [wordT, if_neg (by omega)]
      rw [hw] at w34c happ
      simp [-appendR, f14b0, a1, a2, a7, a8, a9, hlt, q1, q2, h0, hb1]
      refine (w34a _).use ?_
      rintro e S3 ⟨rfl, rfl⟩
      simp [-appendR, a1, a2, a7, a8, a9]
      refine (w34b _).use ?_
      rintro e S3 ⟨rfl, rfl⟩
      simp [-appendR, a1, a2, a7, a8, a9]
      refine (w34c _).use ?_
      rintro e S3 ⟨rfl, rfl⟩
      simp [-appendR, a1, a2, a7, a8, a9]
      refine (w36' _).use ?_
      rintro e S3 ⟨rfl, rfl⟩
      simp [-appendR, a1, a2, a7, a8, a9, happ, wrapS i (by omega)]
      exact ⟨T.cols.length - (i + 1), by omega, i + 1, rfl, by omega, by simp, hown⟩
    by_cases h4 : c.type ≤ 4
    rotate_left 1
    · have hw : wordT c.type = [] := wordT_big (by omega)
      rw [hw] at w34c happ
      simp [-appendR, f14b0, a1, a2, a7, a8, a9, hlt, q1, q2, h0, h4, hb1]
      refine (w34a _).use ?_
      rintro e S3 ⟨rfl, rfl⟩
      simp [-appendR, a1, a2, a7, a8, a9]
      refine (w34b _).use ?_
      rintro e S3 ⟨rfl, rfl⟩
      simp [-appendR, a1, a2, a7, a8, a9]
      refine (w34c _).use ?_
      rintro e S3 ⟨rfl, rfl⟩
      simp [-appendR, a1, a2, a7, a8, a9]
      refine (w36' _).use ?_
      rintro e S3 ⟨rfl, rfl⟩
      simp [-appendR, a1, a2, a7, a8, a9, happ, wrapS i (by omega)]
      exact ⟨T.cols.length - (i + 1), by omega, i + 1, rfl, by omega, by simp, hown⟩
    have hty : c.type = 0 ∨ c.type = 1 ∨ c.type = 2 ∨ c.type = 3 ∨ c.type = 4 := by omega
    obtain ⟨tt, htt⟩ : ∃ tt, c.type = tt := ⟨_, rfl⟩
    rw [htt] at hty h0 h4 q2 hb1 happ w34c
    have hlen2 : T.cols.length * 24 ≤ 140737488351232 := by omega
    rcases hty with rfl | rfl | rfl | rfl | rfl <;>
    · simp only [wordT, typeWords] at w34c happ
      simp [-appendR] at w34c happ
      simp [-appendR, f14b0, a1, a2, a7, a8, a9, hlt, q1, q2, hb1]
      refine (w35' _).use ?_
      rintro e S3 ⟨rfl, rfl⟩
      simp [-appendR, a1, a2, a7, a8, a9, strs_words, hb1]
      refine (w34a _).use ?_
      rintro e S3 ⟨rfl, rfl⟩
      simp [-appendR, a1, a2, a7, a8, a9]
      refine (w34b _).use ?_
      rintro e S3 ⟨rfl, rfl⟩
      simp [-appendR, a1, a2, a7, a8, a9]
      refine (w34c _).use ?_
      rintro e S3 ⟨rfl, rfl⟩
      simp [-appendR, a1, a2, a7, a8, a9]
      refine (w36' _).use ?_
      rintro e S3 ⟨rfl, rfl⟩
      simp [-appendR, a1, a2, a7, a8, a9, happ, wrapS i (by omega)]
      exact ⟨T.cols.length - (i + 1), by omega, i + 1, rfl, by omega, by simp, hown⟩
  · have hie : i = T.cols.length := by omega
    subst hie
    simp [f14b0, a1, a2, a7, a8, a9]
    exact ho.pick (fun _ => 1) (fun i x h => by cases i with
      | zero => exact h
      | succ i => cases h) (fun i j hi hj _ => by simp at hi hj; omega)
end Go.Abs
set_option linter.unusedSimpArgs false
set_option linter.unusedVariables false
namespace Go.Abs
open Go Go.RowKit Go.Proofs Go.Lx
variable {w0 : World}

def sysC1 : List Col := [⟨[110, 97, 109, 101], 4, true⟩]
def sysC2 : List Col := [⟨[116, 98, 108], 4, true⟩, ⟨[112, 111, 115], 2, true⟩, ⟨[110, 97, 109, 101], 4, true⟩, ⟨[116, 121, 112, 101], 4, true⟩, ⟨[114, 101, 113, 117, 105, 114, 101, 100], 1, true⟩]
def sysC3 : List Col := [⟨[110, 97, 109, 101], 4, true⟩, ⟨[116, 98, 108], 4, true⟩, ⟨[117, 110, 105, 113], 1, true⟩, ⟨[99, 111, 108, 115], 4, true⟩]
def sysT : List Tbl := [⟨[115, 121, 115, 116, 97, 98, 108, 101, 115], sysC1, []⟩, ⟨[115, 121, 115, 99, 111, 108, 117, 109, 110, 115], sysC2, []⟩, ⟨[115, 121, 115, 105, 110, 100, 101, 120, 101, 115], sysC3, []⟩]

def h7 : Heap := [.cells 3 [[.str [115, 121, 115, 116, 97, 98, 108, 101, 115], .str [115, 121, 115, 99, 111, 108, 117, 109, 110, 115], .str [115, 121, 115, 105, 110, 100, 101, 120, 101, 115]]] (some 1),
  .cells 10 [[.str [110, 97, 109, 101], .str [116, 98, 108], .str [112, 111, 115], .str [110, 97, 109, 101], .str [116, 121, 112, 101], .str [114, 101, 113, 117, 105, 114, 101, 100], .str [110, 97, 109, 101], .str [116, 98, 108], .str [117, 110, 105, 113], .str [99, 111, 108, 115]]] (some 1),
  .cells 10 [[.int 4, .int 4, .int 2, .int 4, .int 4, .int 1, .int 4, .int 4, .int 1, .int 4]] (some 1),
  .cells 4 [[.int 0, .int 1, .int 6, .int 10]] (some 1),
  .cells 3 [[.str [115, 121, 115, 116, 97, 98, 108, 101, 115], .row 5 0 1, .nilS]] (some 1),
  .cells 3 (colsC sysC1) none, .dead,
  .cells 3 [[.str [115, 121, 115, 99, 111, 108, 117, 109, 110, 115], .row 12 0 5, .nilS]] (some 1),
  .dead, .dead, .dead, .dead,
  .cells 3 (colsC sysC2) none, .dead,
  .cells 3 [[.str [115, 121, 115, 105, 110, 100, 101, 120, 101, 115], .row 18 0 4, .nilS]] (some 1),
  .dead, .dead, .dead,
  .cells 3 (colsC sysC3) none,
  .cells 3 [[.str [115, 121, 115, 116, 97, 98, 108, 101, 115], .row 5 0 1, .nilS], [.str [115, 121, 115, 99, 111, 108, 117, 109, 110, 115], .row 12 0 5, .nilS], [.str [115, 121, 115, 105, 110, 100, 101, 120, 101, 115], .row 18 0 4, .nilS]] none]

/-- A run that gives one value and leaves these objects. -/
def givesS (o : Option (List (AEnd × Heap))) (v : AVal) (S : Heap) : Bool :=
  match o with
  | some [(.ret u, T)] => u.same v && sameH T S
  | _ => false
theorem givesS_eq {o : Option (List (AEnd × Heap))} {v : AVal} {S : Heap} (h : givesS o v S = true) : o = some [(.ret v, S)] := by
  unfold givesS at h
  split at h
  · simp only [Bool.and_eq_true] at h
    rw [AVal.same_eq h.1, sameH_eq h.2]
  · cases h
def tb7 (G : Nat → AVal) : FuncId → Option AFn
  | 7 => some (f7 G)
  | _ => none
theorem tb7_c (G : Nat → AVal) : ∀ f fn, tb7 G f = some fn → ∃ rows, cmpFn Tryz.prog G rows f = some fn := by
  intro f fn h
  unfold tb7 at h
  split at h
  · simp only [Option.some.injEq] at h; subst h; exact ⟨_, f7_c _⟩
  · cases h
theorem w7a (S : Heap) : ACalls Tryz.prog (B0 w0) 7 [] S fun e S' => e = .ret (.row (S.length + 19) 0 3) ∧ S' = S ++ h7.map (AObj.sh S.length) :=
  ACalls.frameS (v := .row 19 0 3) (S1 := h7) (fun _ => rfl) rfl rfl (by decide) fun w1 => callX_sound tryOrd (tb7_c _) 60 7 [] [] _ (givesS_eq (by kernel_rfl : givesS (callX (tb7 fun _ => .top) 60 7 [] []) (.row 19 0 3) h7 = true)) _ (fun o ho => by
    rw [List.mem_singleton.1 ho]; exact ⟨rfl, rfl⟩)

/-- Three descriptions in a slice: the system tables. -/
def SysV (S : Heap) (v : AVal) : Prop := ∃ es, Rk 3 S v es ∧ es.length = 3 ∧ ∀ k (h : k < 3), TblV S (sysT[k]'h) (es.getD k [])

theorem rs_of {S : Heap} {id n : Nat} {es : List (List AVal)} {cap : Option Nat} (h : S[id]? = some (.cells 3 es cap)) (hn : es.length = n) : Rs 3 S (.row id 0 n) es := by
  have := Rk.row id 0 n es cap h (by omega)
  rw [List.drop_zero, ← hn, List.take_length, hn] at this
  exact ⟨this, fun _ => rfl⟩

/-- ref.System. -/
theorem w7 (S : Heap) : ACalls Tryz.prog (B0 w0) 7 [] S fun e S' => ∃ u, e = .ret u ∧ Ab S S' ∧ SysV S' u := by
  refine (w7a S).mono ?_
  rintro e S' ⟨rfl, rfl⟩
  refine ⟨_, rfl, Ab.start _ _, ?_⟩
  have g : ∀ j, (S ++ h7.map (AObj.sh S.length))[S.length + j]? = (h7[j]?).map (AObj.sh S.length) := fun j => by
    rw [List.getElem?_append_right (by omega), Nat.add_sub_cancel_left, List.getElem?_map]
  have g5 : (S ++ h7.map (AObj.sh S.length))[S.length + 5]? = some (.cells 3 (colsC sysC1) none) := g 5
  have g12 : (S ++ h7.map (AObj.sh S.length))[S.length + 12]? = some (.cells 3 (colsC sysC2) none) := g 12
  have g18 : (S ++ h7.map (AObj.sh S.length))[S.length + 18]? = some (.cells 3 (colsC sysC3) none) := g 18
  have g19 : (S ++ h7.map (AObj.sh S.length))[S.length + 19]? = some (.cells 3 [[.str [115, 121, 115, 116, 97, 98, 108, 101, 115], .row (S.length + 5) 0 1, .nilS], [.str [115, 121, 115, 99, 111, 108, 117, 109, 110, 115], .row (S.length + 12) 0 5, .nilS], [.str [115, 121, 115, 105, 110, 100, 101, 120, 101, 115], .row (S.length + 18) 0 4, .nilS]] none) := g 19
  generalize S ++ h7.map (AObj.sh S.length) = S' at *
  refine ⟨_, (rs_of g19 rfl).rk, rfl, fun k h => ?_⟩
  have hn : Rs 3 S' .nilS [] := ⟨.nils, fun h => absurd rfl h⟩
  have hx : IdxsV S' [] [] := ⟨rfl, fun i h => absurd h (Nat.not_lt_zero i)⟩
  rcases (show k = 0 ∨ k = 1 ∨ k = 2 by omega) with rfl | rfl | rfl
  · exact ⟨_, _, [], rfl, rs_of g5 rfl, hn, hx⟩
  · exact ⟨_, _, [], rfl, rs_of g12 rfl, hn, hx⟩
  · exact ⟨_, _, [], rfl, rs_of g18 rfl, hn, hx⟩

set_option maxHeartbeats 4000000 in
/-- schema.System. -/
theorem w6 (S : Heap) : ACalls Tryz.prog (B0 w0) 6 [] S fun e S' => ∃ u, e = .ret u ∧ S' = S ∧ ∀ S2, SysV S2 u := by
  refine ACalls.close (R := fun e S' => e = .ret (.list .full [[.str [115, 121, 115, 116, 97, 98, 108, 101, 115], .list .full (colsC sysC1), .nilS], [.str [115, 121, 115, 99, 111, 108, 117, 109, 110, 115], .list .full (colsC sysC2), .nilS], [.str [115, 121, 115, 105, 110, 100, 101, 120, 101, 115], .list .full (colsC sysC3), .nilS]]) ∧ S'.take S.length = S) ?_ ?_
  rotate_left 1
  · rintro e S' ⟨rfl, ht⟩
    refine .flat ht rfl ⟨_, rfl, rfl, fun S2 => ⟨_, .list _ _, rfl, fun k h => ?_⟩⟩
    have hn : Rs 3 S2 .nilS [] := ⟨.nils, fun h => absurd rfl h⟩
    have hx : IdxsV S2 [] [] := ⟨rfl, fun i h => absurd h (Nat.not_lt_zero i)⟩
    rcases (show k = 0 ∨ k = 1 ∨ k = 2 by omega) with rfl | rfl | rfl
    · exact ⟨_, _, [], rfl, ⟨.list _ _, fun _ => rfl⟩, hn, hx⟩
    · exact ⟨_, _, [], rfl, ⟨.list _ _, fun _ => rfl⟩, hn, hx⟩
    · exact ⟨_, _, [], rfl, ⟨.list _ _, fun _ => rfl⟩, hn, hx⟩
  have wc := fun (s : Bs) (t : Int) => w23 (w0 := w0) s t S
  refine fn_sound tryOrd (f6_c _) (by simp [f6]) ?_
  simp [f6, f6m]
  refine (wc _ _).use ?_
  rintro e S3 ⟨rfl, rfl⟩
  simp [colC]
  refine (wc _ _).use ?_
  rintro e S3 ⟨rfl, rfl⟩
  simp [colC]
  refine (wc _ _).use ?_
  rintro e S3 ⟨rfl, rfl⟩
  simp [colC]
  refine (wc _ _).use ?_
  rintro e S3 ⟨rfl, rfl⟩
  simp [colC]
  refine (wc _ _).use ?_
  rintro e S3 ⟨rfl, rfl⟩
  simp [colC]
  refine (wc _ _).use ?_
  rintro e S3 ⟨rfl, rfl⟩
  simp [colC]
  refine (wc _ _).use ?_
  rintro e S3 ⟨rfl, rfl⟩
  simp [colC]
  refine (wc _ _).use ?_
  rintro e S3 ⟨rfl, rfl⟩
  simp [colC]
  refine (wc _ _).use ?_
  rintro e S3 ⟨rfl, rfl⟩
  simp [colC]
  refine (wc _ _).use ?_
  rintro e S3 ⟨rfl, rfl⟩
  simp [colC, colsC, sysC1, sysC2, sysC3]
end Go.Abs
set_option linter.unusedSimpArgs false
set_option linter.unusedVariables false
namespace Go.Abs
open Go Go.RowKit Go.Proofs Go.Lx
variable {w0 : World}

theorem colsGo_zero : ∀ (cs pre : List Col), colsGo pre cs = 0 → ∀ c ∈ cs, 1 ≤ c.type ∧ c.type ≤ 4
  | [], pre, _, c, h => by simp at h
  | x :: r, pre, h, c, hc => by
    unfold colsGo at h
    split at h
    · cases h
    split at h
    · cases h
    split at h
    · cases h
    rcases List.mem_cons.1 hc with rfl | hc
    · omega
    · exact colsGo_zero r _ h c hc
theorem keysGo_zero {n : Nat} : ∀ (cs pre : List Int), keysGo n pre cs = 0 → ∀ c ∈ cs, 0 ≤ c ∧ c < n
  | [], pre, _, c, h => by simp at h
  | x :: r, pre, h, c, hc => by
    unfold keysGo at h
    split at h
    · cases h
    split at h
    · cases h
    rcases List.mem_cons.1 hc with rfl | hc
    · omega
    · exact keysGo_zero r _ h c hc
theorem idxGo_zero {n : Nat} : ∀ (xs pre : List Idx), idxGo n pre xs = 0 → ∀ x ∈ xs, (∀ c ∈ x.cols, 0 ≤ c ∧ c < n) ∧ x.cols.length ≤ 4 ∧ 1 ≤ x.cols.length
  | [], pre, _, c, h => by simp at h
  | x :: r, pre, h, c, hc => by
    unfold idxGo at h
    split at h
    rotate_left 1
    · rename_i hne; exact absurd h hne
    rename_i h0
    rcases List.mem_cons.1 hc with rfl | hc
    · unfold idxOne at h0
      split at h0
      · cases h0
      split at h0
      · cases h0
      split at h0
      · cases h0
      exact ⟨keysGo_zero _ _ h0, by omega, by omega⟩
    · exact idxGo_zero r _ h c hc
structure GoodT (T : Tbl) : Prop where
  n1 : 1 ≤ T.cols.length
  n16 : T.cols.length ≤ 16
  ty : ∀ c ∈ T.cols, 1 ≤ c.type ∧ c.type ≤ 4
  n8 : T.idxs.length ≤ 8
  ix : ∀ x ∈ T.idxs, (∀ c ∈ x.cols, 0 ≤ c ∧ c < T.cols.length) ∧ x.cols.length ≤ 4 ∧ 1 ≤ x.cols.length
theorem goodT {T : Tbl} (h : checkT T = 0) : GoodT T := by
  unfold checkT at h
  split at h
  · cases h
  split at h
  rotate_left 1
  · rename_i hne; exact absurd h hne
  rename_i h0
  unfold colsErr at h0
  split at h0
  · cases h0
  split at h
  · cases h
  exact ⟨by omega, by omega, colsGo_zero _ _ h0, by omega, idxGo_zero _ _ h⟩

set_option maxHeartbeats 4000000 in
/-- ref.ColumnRows. -/
theorem w19 {S : Heap} {T : Tbl} {av : List AVal} (ht : TblV S T av) (hg : GoodT T) : ACalls Tryz.prog (B0 w0) 19 [.agg av] S fun e S' => ∃ u, e = .ret u ∧ Own S.length S S' [(u, 1, rowsC (colRows T.name T.cols T.cols.length))] := by
  obtain ⟨vc, vi, es, rfl, hc, hi, hx⟩ := ht
  have oc := hc.rk.isOne
  have oi := hi.rk.isOne
  have oB : Own S.length S (S ++ [AObj.cells 3 [[.str T.name, vc, vi]] (some 1)]) [(.row S.length 0 1, 3, [[.str T.name, vc, vi]])] := by
    have := (Own.start S).add 3 [[.str T.name, vc, vi]] (some 1)
    simpa using this
  have hzc := hg.n16
  refine fn_sound tryOrd (f19_c _) (by simp [f19]) ?_
  simp [f19, f19m, oc, oi]
  refine mwp_loop (I := fun n a S' => ∃ (i : Nat) (u : AVal), n = T.cols.length - i ∧ i ≤ T.cols.length ∧ get a 1 = .ptr S.length 0 0 ∧ get a 3 = u ∧ get a 4 = .int i ∧
    Own S.length S S' [(.row S.length 0 1, 3, [[.str T.name, vc, vi]]), (u, 1, rowsC (colRows T.name T.cols i))]) (n := T.cols.length) ?_ ?_
  · exact ⟨0, _, rfl, Nat.zero_le _, rfl, rfl, rfl, oB.add0 1 .full (.inr rfl)⟩
  rintro n a S' ⟨i, u, rfl, hile, a1, a3, a4, ho⟩
  have hlc := (ho.ab.rs hc).rk.lenR
  simp only [colsC_len] at hlc
  obtain ⟨r0, c0, hb0⟩ := ho.boxget (i := 0) (b := S.length) rfl
  by_cases hlt : i < T.cols.length
  · obtain ⟨p, q1, q2, _⟩ := (ho.ab.rs hc).rk.col hlt
    have hrw := colRows_succ T.name T.cols i hlt
    have hty := hg.ty T.cols[i] (List.getElem_mem hlt)
    generalize hcd : T.cols[i] = c at *
    obtain ⟨r1, c1, hb1⟩ := (ho.more [.cells 3 [colC c] (some 1)]).boxget (i := 0) (b := S.length) rfl
    have w38a := fun S => w38 (w0 := w0) T.name S
    have w38b := fun S => w38 (w0 := w0) c.name S
    have w38c := fun S => w38 (w0 := w0) (wordT c.type) S
    have w40' := fun S => w40 (w0 := w0) c.req S
    have w39' := fun S => w39 (w0 := w0) c.type (by omega) (by omega) S
    obtain ⟨S2, happ, ho2, _⟩ := (ho.more [.cells 3 [colC c] (some 1)]).app 1 rfl (y := .list .full [[.list .full (valsC (colRow T.name i c))]]) (ys := [rowC (colRow T.name i c)]) (bytes := 24) rfl (by simp [rowC]) (by decide) (by simp; omega) (by simp; omega)
    simp only [colC] at q2 happ hb1
    simp [-appendR] at happ
    have hown : Own S.length S S2 [(.row S.length 0 1, 3, [[.str T.name, vc, vi]]), (.row (S'.length + 1) 0 (i + 1), 1, rowsC (colRows T.name T.cols (i + 1)))] := by
      rw [hrw, rowsC_app]
      simpa [rowsC] using ho2
    have hrow : valsC (colRow T.name i c) = [valC (textV T.name), [.int 2, .int i, .str []], valC (textV c.name), valC (textV (wordT c.type)), valC (flagV c.req)] := rfl
    rw [hrow] at happ
    simp [-appendR, f19b0, a1, a3, a4, hlt, hlc, q1, q2, hb0, hb1]
    refine (w38a _).use ?_
    rintro e S3 ⟨rfl, rfl⟩
    simp [-appendR, a1, a3, a4]
    refine (w38b _).use ?_
    rintro e S3 ⟨rfl, rfl⟩
    simp [-appendR, a1, a3, a4]
    refine (w39' _).use ?_
    rintro e S3 ⟨rfl, rfl⟩
    simp [-appendR, a1, a3, a4]
    refine (w38c _).use ?_
    rintro e S3 ⟨rfl, rfl⟩
    simp [-appendR, a1, a3, a4]
    refine (w40' _).use ?_
    rintro e S3 ⟨rfl, rfl⟩
    simp [-appendR, a1, a3, a4, happ, wrapS i (by omega)]
    exact ⟨T.cols.length - (i + 1), by omega, i + 1, rfl, by omega, by simp, hown⟩
  · have hie : i = T.cols.length := by omega
    subst hie
    simp [f19b0, a1, a3, a4, hlc, hb0]
    exact ho.pick (fun _ => 1) (fun i x h => by cases i with
      | zero => exact h
      | succ i => cases h) (fun i j hi hj _ => by simp at hi hj; omega)
end Go.Abs
set_option linter.unusedSimpArgs false
set_option linter.unusedVariables false
namespace Go.Abs
open Go Go.RowKit Go.Proofs Go.Lx
variable {w0 : World}

theorem join_snoc (xs : List Bs) (y sep : Bs) : Lib.join (xs ++ [y]) sep = if xs = [] then y else Lib.join xs sep ++ sep ++ y := by
  cases xs with
  | nil => simp [Lib.join_one]
  | cons x r => simp [Lib.join_cons, Lib.joinTail]
theorem join_take_le (xs : List Bs) (sep : Bs) (k : Nat) : (Lib.join (xs.take k) sep).length ≤ (Lib.join xs sep).length := by
  cases xs with
  | nil => simp
  | cons x r =>
    cases k with
    | zero => simp [Lib.join_nil]
    | succ k =>
      have := Lib.joinTail_take_le sep r k
      simp only [List.take_succ_cons, Lib.join_cons, List.length_append]
      omega

def nameAt (cs : List Col) (c : Int) : Bs := (cs.getD c.toNat ⟨[], 0, false⟩).name
def pickN (cs : List Col) (l : List Int) : List Bs := l.filterMap fun (c : Int) => if 0 ≤ c ∧ c < cs.length then some (nameAt cs c) else none
theorem pickN_step (cs : List Col) (l : List Int) (i : Nat) (h : i < l.length) : pickN cs (l.take (i + 1)) = pickN cs (l.take i) ++ (if 0 ≤ l[i] ∧ l[i] < cs.length then [nameAt cs l[i]] else []) := by
  rw [List.take_add_one, List.getElem?_eq_getElem h, pickN, pickN, List.filterMap_append]
  by_cases hc : 0 ≤ l[i] ∧ l[i] < cs.length <;> simp [hc]
theorem pickN_len (cs : List Col) (l : List Int) : (pickN cs l).length ≤ l.length := List.length_filterMap_le _ _
theorem pickN_all (cs : List Col) (l : List Int) (h : ∀ c ∈ l, 0 ≤ c ∧ c < cs.length) : pickN cs l = l.map (nameAt cs) := by
  induction l with
  | nil => rfl
  | cons x r ih =>
    have hx := h x (List.mem_cons_self ..)
    have := ih fun c hc => h c (List.mem_cons_of_mem _ hc)
    rw [pickN, List.filterMap_cons, if_pos hx, List.map_cons, ← this]; rfl

def idxOf (T : Tbl) (j : Nat) : Idx := T.idxs.getD j ⟨[], [], false⟩
def idxVals (T : Tbl) (x : Idx) : List Val := [textV x.name, textV T.name, flagV x.uniq, textV (Lib.join (pickN T.cols x.cols) [44])]
def idxRow (T : Tbl) (k : Int) : List Val := if 0 ≤ k ∧ k < T.idxs.length then idxVals T (idxOf T k.toNat) else []
theorem strs_app (a b : List Bs) : strs (a ++ b) = strs a ++ strs b := by simp [strs]

set_option maxHeartbeats 4000000 in
/-- IndexRow. -/
theorem w15 {S : Heap} {T : Tbl} {av : List AVal} (ht : TblV S T av) (hz : SzT T) (hz2 : ∀ x ∈ T.idxs, x.cols.length * 16 ≤ 140737488351232) (hJ : ∀ x ∈ T.idxs, (Lib.join (pickN T.cols x.cols) [44]).length ≤ 140737488355328) (k : Int) :
    ACalls Tryz.prog (B0 w0) 15 [.agg av, .int k] S fun e S' => e = .ret (if 0 ≤ k ∧ k < T.idxs.length then .list .full (valsC (idxRow T k)) else .nilS) ∧ S' = S := by
  obtain ⟨vc, vi, es, rfl, hc, hi, hx⟩ := ht
  have oc := hc.rk.isOne
  have oi := hi.rk.isOne
  have oB : Own S.length S (S ++ [AObj.cells 3 [[.str T.name, vc, vi]] (some 1)]) [(.row S.length 0 1, 3, [[.str T.name, vc, vi]])] := by
    have := (Own.start S).add 3 [[.str T.name, vc, vi]] (some 1)
    simpa using this
  have hli := (oB.ab.rs hi).rk.lenR
  rw [hx.1] at hli
  refine ACalls.close (R := fun e S' => e = .ret (if 0 ≤ k ∧ k < T.idxs.length then .list .full (valsC (idxRow T k)) else .nilS) ∧ S'.take S.length = S) ?_ ?_
  rotate_left 1
  · rintro e S' ⟨rfl, ht⟩
    refine .flat ht ?_ ⟨rfl, rfl⟩
    split
    · rename_i h; simp only [idxRow, if_pos h]; rfl
    · rfl
  by_cases hk0 : k < 0
  · have hn : ¬ (0 ≤ k ∧ k < T.idxs.length) := by omega
    rw [if_neg hn]
    refine fn_sound tryOrd (f15_c _) (by simp [f15]) ?_
    simp [f15, f15m, oc, oi, hk0]
  by_cases hkn : (T.idxs.length : Int) ≤ k
  · have hn : ¬ (0 ≤ k ∧ k < T.idxs.length) := by omega
    rw [if_neg hn]
    refine fn_sound tryOrd (f15_c _) (by simp [f15]) ?_
    simp [f15, f15m, oc, oi, hk0, hkn, hli]
  obtain ⟨j, rfl⟩ : ∃ j : Nat, k = j := ⟨k.toNat, by omega⟩
  have hj : j < T.idxs.length := by omega
  have hin : 0 ≤ (j : Int) ∧ (j : Int) < T.idxs.length := by omega
  rw [if_pos hin, idxRow, if_pos hin]
  have hxo : idxOf T (j : Int).toNat = T.idxs[j] := by rw [idxOf, Int.toNat_natCast, getD_eq _ _ _ hj]
  rw [hxo]
  have hz2' := hz2 T.idxs[j] (List.getElem_mem hj)
  have hJ' := hJ T.idxs[j] (List.getElem_mem hj)
  obtain ⟨w, ew, hw⟩ := hx.2 j hj
  have hrd : ∀ {S'}, Ab S S' → ∃ p, iaddrR 3 S' vi (.int j) = .ok true p S' ∧ ∀ off, ∃ p', addOff off S' p = .ok true p' S' ∧ ∀ agg m, off + m ≤ 3 → loadR agg m S' p' = .ok true (takeAt agg m [.str T.idxs[j].name, w, .bool T.idxs[j].uniq] off) S' := fun {S'} hab => by
    obtain ⟨p, q1, _, q3⟩ := (hab.rs hi).rk.elem (i := j) (by rw [hx.1]; exact hj) (by rw [ew]; rfl)
    rw [ew] at q3
    exact ⟨p, q1, q3⟩
  generalize hxe : T.idxs[j] = x at *
  have hlw := (oB.ab.rs hw).rk.lenR
  simp only [ints_len] at hlw
  obtain ⟨p, q1, q2⟩ := hrd oB.ab
  obtain ⟨p1, q3, q4⟩ := q2 1
  have q4 := q4 false 1 (by omega)
  simp at q4
  refine fn_sound tryOrd (f15_c _) (by simp [f15]) ?_
  simp [f15, f15m, oc, oi, hk0, hkn, hli, q1, q3, q4, hlw]
  refine mwp_loop (I := fun n a S' => ∃ (i : Nat) (u : AVal), n = x.cols.length - i ∧ i ≤ x.cols.length ∧ get a 1 = .int j ∧ get a 2 = .ptr S.length 0 0 ∧ get a 5 = u ∧ get a 22 = w ∧ get a 23 = .int x.cols.length ∧ get a 24 = .int i ∧
    Own S.length S S' [(.row S.length 0 1, 3, [[.str T.name, vc, vi]]), (u, 1, strs (pickN T.cols (x.cols.take i)))]) (n := x.cols.length) ?_ ?_
  · exact ⟨0, _, rfl, Nat.zero_le _, rfl, rfl, rfl, rfl, rfl, rfl, oB.add0 1 .nil (.inl rfl)⟩
  rintro n a S' ⟨i, u, rfl, hile, a1, a2, a5, a22, a23, a24, ho⟩
  obtain ⟨r0, c0, hb0⟩ := ho.boxget (i := 0) (b := S.length) rfl
  by_cases hlt : i < x.cols.length
  · obtain ⟨p, q1, q2⟩ := (ho.ab.rs hw).rk.int hlt
    have hlc := (ho.ab.rs hc).rk.lenR
    simp only [colsC_len] at hlc
    have hst := pickN_step T.cols x.cols i hlt
    have hpl := pickN_len T.cols (x.cols.take i)
    rw [List.length_take] at hpl
    generalize hcv : x.cols[i] = c at *
    by_cases h0 : 0 ≤ c
    rotate_left 1
    · have hn : ¬ (0 ≤ c ∧ c < T.cols.length) := by omega
      rw [if_neg hn, List.append_nil] at hst
      simp [-appendR, f15b0, a1, a2, a5, a22, a23, a24, hlt, q1, q2, h0, wrapS i (by omega)]
      exact ⟨x.cols.length - (i + 1), by omega, i + 1, rfl, by omega, by simp, by rw [hst]; exact ho⟩
    by_cases h1 : c < T.cols.length
    rotate_left 1
    · have hn : ¬ (0 ≤ c ∧ c < T.cols.length) := by omega
      rw [if_neg hn, List.append_nil] at hst
      simp [-appendR, f15b0, a1, a2, a5, a22, a23, a24, hlt, q1, q2, h0, h1, hb0, hlc, wrapS i (by omega)]
      exact ⟨x.cols.length - (i + 1), by omega, i + 1, rfl, by omega, by simp, by rw [hst]; exact ho⟩
    obtain ⟨cn, rfl⟩ : ∃ cn : Nat, c = cn := ⟨c.toNat, by omega⟩
    have hcn : cn < T.cols.length := by omega
    have hn : 0 ≤ (cn : Int) ∧ (cn : Int) < T.cols.length := by omega
    rw [if_pos hn] at hst
    have hna : nameAt T.cols cn = T.cols[cn].name := by rw [nameAt, Int.toNat_natCast, getD_eq _ _ _ hcn]
    rw [hna] at hst
    obtain ⟨p2, t1, _, p3, t2, t3, _⟩ := (ho.ab.rs hc).rk.col hcn
    obtain ⟨S2, happ, ho2, _⟩ := ho.app 1 rfl (y := .list .full [[.str T.cols[cn].name]]) (ys := [[.str T.cols[cn].name]]) (bytes := 16) rfl (by simp) (by decide) (by simp; omega) (by simp; omega)
    simp [-appendR] at happ
    simp [-appendR, f15b0, a1, a2, a5, a22, a23, a24, hlt, q1, q2, h0, hcn, hb0, hlc, t1, t2, t3, happ, wrapS i (by omega)]
    refine ⟨x.cols.length - (i + 1), by omega, i + 1, rfl, by omega, by simp, ?_⟩
    rw [hst, strs_app]
    simpa [strs] using ho2
  · have hie : i = x.cols.length := by omega
    subst hie
    rw [List.take_length] at ho
    clear q1 q2 q3 q4
    obtain ⟨p, q1, q2⟩ := hrd ho.ab
    obtain ⟨p0, q3, q4⟩ := q2 0
    obtain ⟨p2, q5, q6⟩ := q2 2
    have q4 := q4 false 1 (by omega)
    have q6 := q6 false 1 (by omega)
    simp at q4 q6
    have w34a := w34 (w0 := w0) x.name S'
    have w34b := w34 (w0 := w0) T.name S'
    have w34c := w34 (w0 := w0) (Lib.join (pickN T.cols x.cols) [44]) S'
    have w36' := w36 (w0 := w0) x.uniq S'
    have hpl := pickN_len T.cols x.cols
    have wj := wJoin (β := B0 w0) (S := S') (v := u) (xs := pickN T.cols x.cols) (sep := [44]) ((ho.rk 1 rfl).elems) (by omega) hJ'
    have htk := ho.ab.2
    simp [f15b0, a1, a2, a5, a22, a23, a24, hb0, q1, q3, q4, q5, q6]
    refine w34a.use ?_
    rintro e S3 ⟨rfl, rfl⟩
    simp [a1, a2, a5, a22, a23, a24, hb0, q1, q3, q4, q5, q6]
    refine w34b.use ?_
    rintro e S3 ⟨rfl, rfl⟩
    simp [a1, a2, a5, a22, a23, a24, hb0, q1, q3, q4, q5, q6]
    refine w36'.use ?_
    rintro e S3 ⟨rfl, rfl⟩
    simp [a1, a2, a5, a22, a23, a24, hb0, q1, q3, q4, q5, q6]
    refine wj.use ?_
    rintro e S3 ⟨rfl, rfl⟩
    simp
    refine w34c.use ?_
    rintro e S3 ⟨rfl, rfl⟩
    simp [htk, idxVals, valsC]

set_option maxHeartbeats 4000000 in
/-- ref.IndexRow. -/
theorem w20 {S : Heap} {T : Tbl} {av : List AVal} (ht : TblV S T av) (hg : GoodT T) (hJ : ∀ x ∈ T.idxs, (Lib.join (pickN T.cols x.cols) [44]).length ≤ 140737488355328) (k : Int) :
    ACalls Tryz.prog (B0 w0) 20 [.agg av, .int k] S fun e S' => e = .ret (.list .full (valsC (idxRow T k))) ∧ S' = S := by
  obtain ⟨vc, vi, es, rfl, hc, hi, hx⟩ := ht
  have oc := hc.rk.isOne
  have oi := hi.rk.isOne
  have oB : Own S.length S (S ++ [AObj.cells 3 [[.str T.name, vc, vi]] (some 1)]) [(.row S.length 0 1, 3, [[.str T.name, vc, vi]])] := by
    have := (Own.start S).add 3 [[.str T.name, vc, vi]] (some 1)
    simpa using this
  have hli := (oB.ab.rs hi).rk.lenR
  rw [hx.1] at hli
  refine ACalls.close (R := fun e S' => e = .ret (.list .full (valsC (idxRow T k))) ∧ S'.take S.length = S) ?_ ?_
  rotate_left 1
  · rintro e S' ⟨rfl, ht⟩
    refine .flat ht ?_ ⟨rfl, rfl⟩
    by_cases h : 0 ≤ k ∧ k < T.idxs.length <;> simp only [idxRow, if_pos, if_neg, h] <;> rfl
  by_cases hk0 : k < 0
  · have hn : ¬ (0 ≤ k ∧ k < T.idxs.length) := by omega
    rw [idxRow, if_neg hn]
    refine fn_sound tryOrd (f20_c _) (by simp [f20]) ?_
    simp [f20, f20m, oc, oi, hk0, valsC]
  by_cases hkn : (T.idxs.length : Int) ≤ k
  · have hn : ¬ (0 ≤ k ∧ k < T.idxs.length) := by omega
    rw [idxRow, if_neg hn]
    refine fn_sound tryOrd (f20_c _) (by simp [f20]) ?_
    simp [f20, f20m, oc, oi, hk0, hkn, hli, valsC]
  obtain ⟨j, rfl⟩ : ∃ j : Nat, k = j := ⟨k.toNat, by omega⟩
  have hj : j < T.idxs.length := by omega
  have hin : 0 ≤ (j : Int) ∧ (j : Int) < T.idxs.length := by omega
  rw [idxRow, if_pos hin]
  have hxo : idxOf T (j : Int).toNat = T.idxs[j] := by rw [idxOf, Int.toNat_natCast, getD_eq _ _ _ hj]
  rw [hxo]
  obtain ⟨hrange, h4, _⟩ := hg.ix T.idxs[j] (List.getElem_mem hj)
  have hJ' := hJ T.idxs[j] (List.getElem_mem hj)
  obtain ⟨w, ew, hw⟩ := hx.2 j hj
  have hrd : ∀ {S'}, Ab S S' → ∃ p, iaddrR 3 S' vi (.int j) = .ok true p S' ∧ ∀ off, ∃ p', addOff off S' p = .ok true p' S' ∧ ∀ agg m, off + m ≤ 3 → loadR agg m S' p' = .ok true (takeAt agg m [.str T.idxs[j].name, w, .bool T.idxs[j].uniq] off) S' := fun {S'} hab => by
    obtain ⟨p, q1, _, q3⟩ := (hab.rs hi).rk.elem (i := j) (by rw [hx.1]; exact hj) (by rw [ew]; rfl)
    rw [ew] at q3
    exact ⟨p, q1, q3⟩
  generalize hxe : T.idxs[j] = x at *
  have hlw := (oB.ab.rs hw).rk.lenR
  simp only [ints_len] at hlw
  have hab := oB.ab
  have hbx : (S ++ [AObj.cells 3 [[.str T.name, vc, vi]] (some 1)])[S.length]? = some (AObj.cells 3 [[.str T.name, vc, vi]] (some 1)) := by simp
  refine fn_sound tryOrd (f20_c _) (by simp [f20]) ?_
  simp [f20, f20m, oc, oi, hk0, hkn, hli]
  generalize S ++ [AObj.cells 3 [[.str T.name, vc, vi]] (some 1)] = S1 at *
  obtain ⟨p, q1, q2⟩ := hrd hab
  obtain ⟨p1, q3, q4⟩ := q2 1
  have q4 := q4 false 1 (by omega)
  simp at q4
  have hlc := (hab.rs hc).rk.lenR
  simp only [colsC_len] at hlc
  refine mwp_loop (I := fun n a S' => ∃ (i : Nat), n = x.cols.length - i ∧ i ≤ x.cols.length ∧ get a 1 = .int j ∧ get a 2 = .ptr S.length 0 0 ∧ get a 5 = .str (Lib.join (pickN T.cols (x.cols.take i)) [44]) ∧ get a 6 = .int i ∧ S1 = S') (n := x.cols.length) ?_ ?_
  · exact ⟨0, rfl, Nat.zero_le _, rfl, rfl, rfl, rfl, rfl⟩
  rintro n a S' ⟨i, rfl, hile, a1, a2, a5, a6, rfl⟩
  by_cases hlt : i < x.cols.length
  · obtain ⟨t1, t2, t3⟩ := (hab.rs hw).rk.int hlt
    have hr := hrange x.cols[i] (List.getElem_mem hlt)
    have hst := pickN_step T.cols x.cols i hlt
    rw [if_pos hr] at hst
    have htl : (Lib.join (pickN T.cols (x.cols.take (i + 1))) [44]).length ≤ 140737488355328 := by
      rw [pickN_all _ _ hrange] at hJ'
      rw [pickN_all _ _ fun c hc => hrange c (List.mem_of_mem_take hc), List.map_take]
      exact Nat.le_trans (join_take_le _ _ _) hJ'
    have hpe : pickN T.cols (x.cols.take i) = [] ↔ i = 0 := by
      rw [pickN_all _ _ fun c hc => hrange c (List.mem_of_mem_take hc)]
      simp
      intro h
      rw [h] at hlt; simp at hlt
    generalize hcv : x.cols[i] = c at *
    obtain ⟨cn, rfl⟩ : ∃ cn : Nat, c = cn := ⟨c.toNat, by omega⟩
    have hcn : cn < T.cols.length := by omega
    have hna : nameAt T.cols cn = T.cols[cn].name := by rw [nameAt, Int.toNat_natCast, getD_eq _ _ _ hcn]
    rw [hna] at hst
    rw [hst, join_snoc] at htl
    have hfin : Lib.join (pickN T.cols (x.cols.take (i + 1))) [44] = if i = 0 then T.cols[cn].name else Lib.join (pickN T.cols (x.cols.take i)) [44] ++ [44] ++ T.cols[cn].name := by
      rw [hst, join_snoc]
      by_cases h0 : i = 0
      · rw [if_pos (hpe.2 h0), if_pos h0]
      · rw [if_neg (fun h => h0 (hpe.1 h)), if_neg h0]
    obtain ⟨u2, s1, _, u3, s2, s3, _⟩ := (hab.rs hc).rk.col hcn
    by_cases h0 : i = 0
    · subst h0
      rw [if_pos (hpe.2 rfl)] at htl
      rw [hpe.2 rfl, Lib.join_nil] at a5
      have hb : T.cols[cn].name.length ≤ 9223372036854775807 := by omega
      simp at hlt t2 a6
      simp [f20b0, a1, a2, a5, a6, hbx, q1, q3, q4, hlw, hlt, t2, t3, s1, s2, s3, hb, wrapS 0 (by omega)]
      exact ⟨x.cols.length - 1, by omega, 1, rfl, by omega, by simpa using hfin.symm, rfl⟩
    · rw [if_neg (fun h => h0 (hpe.1 h))] at htl
      rw [if_neg h0] at hfin
      simp at htl
      have h00 : 0 < i := by omega
      have hb1 : (Lib.join (pickN T.cols (x.cols.take i)) [44]).length + 1 ≤ 9223372036854775807 := by omega
      have hb2 : (Lib.join (pickN T.cols (x.cols.take i)) [44]).length + (1 + T.cols[cn].name.length) ≤ 9223372036854775807 := by omega
      have hb3 : (Lib.join (pickN T.cols (x.cols.take i)) [44]).length + 1 + T.cols[cn].name.length ≤ 9223372036854775807 := by omega
      simp [f20b0, a1, a2, a5, a6, hbx, q1, q3, q4, hlw, hlt, t2, t3, s1, s2, s3, hb1, hb2, hb3, h00, wrapS i (by omega)]
      exact ⟨x.cols.length - (i + 1), by omega, i + 1, rfl, by omega, by simpa using hfin.symm, by simp⟩
  · have hie : i = x.cols.length := by omega
    subst hie
    rw [List.take_length] at a5
    obtain ⟨p0, q5, q6⟩ := q2 0
    obtain ⟨p2, q7, q8⟩ := q2 2
    have q6 := q6 false 1 (by omega)
    have q8 := q8 false 1 (by omega)
    simp at q6 q8
    have w38a := w38 (w0 := w0) x.name S1
    have w38b := w38 (w0 := w0) T.name S1
    have w38c := w38 (w0 := w0) (Lib.join (pickN T.cols x.cols) [44]) S1
    have w40' := w40 (w0 := w0) x.uniq S1
    have htk := hab.2
    simp [f20b0, a1, a2, a5, a6, hbx, q1, q3, q4, q5, q6, q7, q8, hlw]
    refine w38a.use ?_
    rintro e S3 ⟨rfl, rfl⟩
    simp [a1, a2, a5, a6, hbx, q1, q5, q6, q7, q8]
    refine w38b.use ?_
    rintro e S3 ⟨rfl, rfl⟩
    simp [a1, a2, a5, a6, hbx, q1, q5, q6, q7, q8]
    refine w40'.use ?_
    rintro e S3 ⟨rfl, rfl⟩
    simp [a1, a2, a5, a6, hbx, q1, q5, q6, q7, q8]
    refine w38c.use ?_
    rintro e S3 ⟨rfl, rfl⟩
    simp [htk, idxVals, valsC]
end Go.Abs
set_option linter.unusedSimpArgs false
set_option linter.unusedVariables false
namespace Go.Abs
open Go Go.RowKit Go.Proofs Go.Lx
variable {w0 : World}

theorem sysT_ok : ∀ k (h : k < 3), checkT (sysT[k]'h) = 0 ∧ SzT (sysT[k]'h) := by
  intro k h
  rcases (show k = 0 ∨ k = 1 ∨ k = 2 by omega) with rfl | rfl | rfl
  · exact ⟨by kernel_rfl, ⟨by simp [sysT, sysC1, sysC2, sysC3], by simp [sysT, sysC1, sysC2, sysC3], fun x h => by cases h⟩⟩
  · exact ⟨by kernel_rfl, ⟨by simp [sysT, sysC1, sysC2, sysC3], by simp [sysT, sysC1, sysC2, sysC3], fun x h => by cases h⟩⟩
  · exact ⟨by kernel_rfl, ⟨by simp [sysT, sysC1, sysC2, sysC3], by simp [sysT, sysC1, sysC2, sysC3], fun x h => by cases h⟩⟩

theorem SysV.ab {S S' : Heap} {v : AVal} (h : Ab S S') (hv : SysV S v) : SysV S' v := by
  obtain ⟨es, h1, h2, h3⟩ := hv
  exact ⟨es, h.rk h1, h2, fun k hk => h.tbl (h3 k hk)⟩
theorem SysV.len {S : Heap} {v : AVal} (hv : SysV S v) : lenR S v = .ok true (.int 3) S := by
  obtain ⟨es, h1, h2, h3⟩ := hv
  have := h1.lenR
  rw [h2] at this; exact this
theorem SysV.get {S : Heap} {v : AVal} (hv : SysV S v) {k : Nat} (hk : k < 3) : ∃ av p, iaddrR 3 S v (.int k) = .ok true p S ∧ loadR true 3 S p = .ok true (.agg av) S ∧ TblV S (sysT[k]'hk) av := by
  obtain ⟨es, h1, h2, h3⟩ := hv
  have ht := h3 k hk
  have hl : (es.getD k []).length = 3 := by
    obtain ⟨vc, vi, e2, he, _⟩ := ht
    rw [he]; rfl
  obtain ⟨p, q1, q2, _⟩ := h1.elem (i := k) (by omega) hl
  have q2 := q2 true 3 (Nat.le_refl _)
  refine ⟨es.getD k [], p, q1, ?_, ht⟩
  rw [q2]
  obtain ⟨vc, vi, e2, he, _⟩ := ht
  rw [he]; simp

theorem vals_sh (n : Nat) (r : List Val) : (rowC r).length = 1 := rfl

set_option maxHeartbeats 8000000 in
/-- SchemaRows. -/
theorem w3 {S : Heap} {T : Tbl} {av : List AVal} (ht : TblV S T av) (hz : SzT T) (hz2 : ∀ x ∈ T.idxs, x.cols.length * 16 ≤ 140737488351232) (hJ : ∀ x ∈ T.idxs, (Lib.join (pickN T.cols x.cols) [44]).length ≤ 140737488355328) (k : Int) :
    ACalls Tryz.prog (B0 w0) 3 [.agg av, .int k] S fun e S' => e = .ret (.bool true) ∧ S' = S := by
  have ht0 := ht
  obtain ⟨vc, vi, es, rfl, hc, hi, hx⟩ := ht
  have oc := hc.rk.isOne
  have oi := hi.rk.isOne
  refine ACalls.close (R := fun e S' => e = .ret (.bool true) ∧ S'.take S.length = S) ?_ ?_
  rotate_left 1
  · rintro e S' ⟨rfl, ht⟩
    exact .flat ht rfl ⟨rfl, rfl⟩
  have hab1 : Ab S (S ++ [AObj.cells 3 [[.str T.name, vc, vi]] (some 1)]) := Ab.start _ _
  have hbx : (S ++ [AObj.cells 3 [[.str T.name, vc, vi]] (some 1)])[S.length]? = some (AObj.cells 3 [[.str T.name, vc, vi]] (some 1)) := by simp
  have hl1 : S.length < (S ++ [AObj.cells 3 [[.str T.name, vc, vi]] (some 1)]).length := by simp
  refine fn_sound tryOrd (f3_c _) (by simp [f3]) ?_
  simp [f3, f3m, oc, oi]
  generalize S ++ [AObj.cells 3 [[.str T.name, vc, vi]] (some 1)] = S1 at *
  refine (speaks5 w0 S1).use ?_
  rintro e S2 ⟨rfl, rfl⟩
  simp
  refine (w6 S2).use ?_
  rintro e S3 ⟨u, rfl, rfl, hu⟩
  simp
  refine (w7 S3).use ?_
  rintro e S4 ⟨v, rfl, hab4, hv⟩
  have hub := hu S4
  have hlv := hv.len
  have hlu := hub.len
  simp [hlv]
  have hb4 : S4[S.length]? = some (AObj.cells 3 [[.str T.name, vc, vi]] (some 1)) := (hab4.get hl1).trans hbx
  have hab := hab1.trans hab4
  have hl4 : S.length < S4.length := Nat.lt_of_lt_of_le hl1 hab4.1
  refine mwp_loop (I := fun n a S' => ∃ i : Nat, n = 3 - i ∧ i ≤ 3 ∧ get a 0 = .agg [.str T.name, vc, vi] ∧ get a 1 = .int k ∧ get a 2 = .ptr S.length 0 0 ∧ get a 5 = u ∧ get a 6 = v ∧ get a 13 = .int 3 ∧ get a 14 = .int i ∧ S4 = S') (n := 3) ?_ ?_
  · exact ⟨0, rfl, Nat.zero_le _, rfl, rfl, rfl, rfl, rfl, rfl, rfl, rfl⟩
  rintro n a S' ⟨i, rfl, hi3, a0, a1, a2, a5, a6, a13, a14, rfl⟩
  by_cases hlt : i < 3
  · obtain ⟨x1, p1, q1, q2, q3⟩ := hub.get hlt
    obtain ⟨x2, p2, r1, r2, r3⟩ := hv.get hlt
    obtain ⟨hck, hzk⟩ := sysT_ok i hlt
    have w8' := w8 (w0 := w0) q3 r3 hzk
    have w9' := w9 (w0 := w0) q3
    rw [hck] at w9'
    have hltI : (i : Int) < 3 := by omega
    simp [f3b0, a0, a1, a2, a5, a6, a13, a14, hltI, hlu, q1, q2, r1, r2]
    refine w8'.use ?_
    rintro e S5 ⟨rfl, rfl⟩
    simp [a0, a1, a2, a5, a6, a13, a14, q1, q2, r1, r2]
    refine w9'.use ?_
    rintro e S6 ⟨rfl, rfl⟩
    simp [a0, a1, a2, a5, a6, a13, a14, wrapS i (by omega)]
    exact ⟨3 - (i + 1), by omega, i + 1, rfl, by omega, by simp⟩
  have hge : ¬ (i : Int) < 3 := by omega
  simp [f3b0, a0, a1, a2, a5, a6, a13, a14, hge, hb4]
  have ht4 : TblV S4 T [.str T.name, vc, vi] := hab.tbl ht0
  refine (w10 T.name S4).use ?_
  rintro e S5 ⟨rfl, rfl⟩
  simp [a0, a1, a2, hb4]
  refine (w11 T.name S5).use ?_
  rintro e S6 ⟨rfl, rfl⟩
  simp [a0, a1, a2, hb4]
  refine (w12 ht4).use ?_
  rintro e S7 ⟨rfl, rfl⟩
  by_cases hck : checkT T = 0
  rotate_left 1
  · have hg0 : (checkT T == 0) = false := beq_eq_false_iff_ne.2 hck
    simp [bne, hg0, a0, a1, a2, hb4]
    refine (w13 ht4).use ?_
    rintro e S8 ⟨rfl, rfl⟩
    simp [a0, a1, a2, hb4]
    refine (w14 ht4 hz).use ?_
    rintro e S9 ⟨u9, rfl, ho9⟩
    have hb9 : S9[S.length]? = some (AObj.cells 3 [[.str T.name, vc, vi]] (some 1)) := (ho9.ab.get hl4).trans hb4
    simp [a0, a1, a2, hb9]
    refine (w15 (ho9.ab.tbl ht4) hz hz2 hJ k).use ?_
    rintro e S10 ⟨rfl, rfl⟩
    simp
    exact (hab.trans ho9.ab).2
  have hg := goodT hck
  simp [hck, a0, a1, a2, hb4]
  refine (w13 ht4).use ?_
  rintro e S8 ⟨rfl, rfl⟩
  simp [a0, a1, a2, hb4]
  refine (w17 ht4).use ?_
  rintro e S9 ⟨rfl, rfl⟩
  simp [a0, a1, a2, hb4]
  refine (w16 (S := S9) (.list .full (valsC [textV T.name])) (.list .full (valsC [textV T.name])) (by simp)).use ?_
  rintro e S10 ⟨rfl, rfl⟩
  simp [a0, a1, a2, hb4]
  refine (w14 ht4 hz).use ?_
  rintro e S11 ⟨u11, rfl, ho11⟩
  have hb11 : S11[S.length]? = some (AObj.cells 3 [[.str T.name, vc, vi]] (some 1)) := (ho11.ab.get hl4).trans hb4
  have hl11 : S.length < S11.length := Nat.lt_of_lt_of_le hl4 ho11.ab.1
  simp [a0, a1, a2, hb4, hb11]
  have ht11 := ho11.ab.tbl ht4
  refine (w19 ht11 hg).use ?_
  rintro e S12 ⟨u12, rfl, ho12⟩
  have hb12 : S12[S.length]? = some (AObj.cells 3 [[.str T.name, vc, vi]] (some 1)) := (ho12.ab.get hl11).trans hb11
  simp [a0, a1, a2, hb11, hb12]
  have ht12 := ho12.ab.tbl ht11
  have h16 := hg.n16
  refine (w18 (ho12.ab.rk (ho11.rk 0 rfl)) (ho12.rk 0 rfl) (by simp; omega) (fun x hx => by
    obtain ⟨j, _, rfl⟩ := List.mem_map.1 hx
    simp [colRow])).use ?_
  rintro e S13 ⟨rfl, rfl⟩
  simp [a0, a1, a2, hb12]
  refine (w15 ht12 hz hz2 hJ k).use ?_
  rintro e S14 ⟨rfl, rfl⟩
  simp [a0, a1, a2, hb12]
  refine (w20 ht12 hg hJ k).use ?_
  rintro e S15 ⟨rfl, rfl⟩
  simp
  refine (w16 (S := S15) (l := idxRow T k) (r := idxRow T k) (by
    by_cases h : 0 ≤ k ∧ k < T.idxs.length
    · rw [if_pos h]; exact .list _ _
    · rw [if_neg h, idxRow, if_neg h]; exact .nils) (.list .full _) (by
    by_cases h : 0 ≤ k ∧ k < T.idxs.length
    · rw [idxRow, if_pos h]; simp [idxVals]
    · rw [idxRow, if_neg h]; simp)).use ?_
  rintro e S16 ⟨rfl, rfl⟩
  simp
  exact ((hab.trans ho11.ab).trans ho12.ab).2
end Go.Abs
