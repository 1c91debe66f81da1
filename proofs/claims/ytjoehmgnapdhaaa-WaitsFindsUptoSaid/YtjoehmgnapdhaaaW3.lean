/- Walks: Cycle and Any of the document's answer. Conditions: the lengths, and that the search ends; definitions and lemmas. -/
import Derived.Test.YtjoehmgnapdhaaaW2
set_option linter.unusedSimpArgs false
set_option linter.unusedVariables false
namespace Go.Abs
open Go Go.RowKit Go.Proofs
variable {β : Base}

def bls (l : List Bool) : List (List AVal) := l.map fun b => [.bool b]
@[simp] theorem bls_len (l : List Bool) : (bls l).length = l.length := by simp [bls]
theorem bls_get (l : List Bool) (i : Nat) (h : i < l.length) : (bls l).getD i [] = [.bool l[i]] := by
  rw [getD_eq _ _ _ (by simpa using h)]; simp [bls]
theorem Rk.bool {S v l} (h : Rk 1 S v (bls l)) {i : Nat} (hi : i < l.length) : ∃ p, iaddrR 1 S v (.int i) = .ok true p S ∧ loadR false 1 S p = .ok true (.bool l[i]) S := by
  obtain ⟨p, h1, h2, _⟩ := h.elem (i := i) (by simpa using hi) (by rw [bls_get _ _ hi]; rfl)
  refine ⟨p, h1, ?_⟩
  rw [h2 false 1 (Nat.le_refl _), bls_get _ _ hi]; rfl

/-- The search of the document's answer: its frames, the top first. -/
def cyRun (E : List (Int × Int)) (z : Int) : Nat → List (Int × Int × Bool) → List Int → Option (List Int)
  | _, [], _ => some []
  | 0, _ :: _, _ => none
  | n + 1, (x, b, f) :: fr, m => if (x, z) ∈ E then some (((x, b, f) :: fr).map (·.1)).reverse else
      if (nextF E x b f).2 = true then
        if (nextF E x b f).1 ∈ m then cyRun E z n ((x, (nextF E x b f).1, false) :: fr) m
        else cyRun E z n (((nextF E x b f).1, 0, true) :: (x, (nextF E x b f).1, false) :: fr) (m ++ [(nextF E x b f).1])
      else cyRun E z n fr m

theorem stepN_mem {E0 : List (Int × Int)} {x b : Int} {f : Bool} : ∀ (E : List (Int × Int)) (acc : Int × Bool), (∀ e ∈ E, e ∈ E0) → (acc.2 = true → (x, acc.1) ∈ E0) → (E.foldl (stepN x b f) acc).2 = true → (x, (E.foldl (stepN x b f) acc).1) ∈ E0
  | [], acc, _, h, h' => h h'
  | e :: E, acc, hs, h, h' => by
    refine stepN_mem E _ (fun e he => hs e (List.mem_cons_of_mem _ he)) (fun hh => ?_) h'
    unfold stepN at hh ⊢
    split
    · rename_i hc
      rw [← hc.1]
      exact hs e (by simp)
    · rename_i hc
      rw [if_neg hc] at hh
      exact h hh
theorem nextF_mem {E : List (Int × Int)} {x b : Int} {f : Bool} (h : (nextF E x b f).2 = true) : (x, (nextF E x b f).1) ∈ E :=
  stepN_mem E (0, false) (fun _ h => h) (fun h => by cases h) h

/-- What the search keeps. -/
structure Ci (E : List (Int × Int)) (z : Int) (fr : List (Int × Int × Bool)) (m : List Int) : Prop where
  nd : m.Nodup
  sub : ∀ x ∈ m, x ∈ z :: tos E
  len : fr.length ≤ m.length
theorem Ci.mlen {E z fr m} (h : Ci E z fr m) : m.length ≤ E.length + 1 := by
  have := nodup_len h.nd h.sub
  simpa [tos] using this
theorem Ci.pop {E z x fr m} (h : Ci E z (x :: fr) m) : Ci E z fr m := ⟨h.nd, h.sub, by have := h.len; simp at this; omega⟩
theorem Ci.push {E z x fr m y} (h : Ci E z fr m) (hy : y ∉ m) (he : y ∈ tos E) : Ci E z (x :: fr) (m ++ [y]) := by
  refine ⟨?_, ?_, by have := h.len; simp; omega⟩
  · rw [List.nodup_append]
    refine ⟨h.nd, by simp, fun a ha b hb => ?_⟩
    simp only [List.mem_singleton] at hb
    subst hb
    exact fun e => hy (e ▸ ha)
  · intro q hq
    rcases List.mem_append.1 hq with hq | hq
    · exact h.sub q hq
    · simp only [List.mem_singleton] at hq; subst hq; exact List.mem_cons_of_mem _ he

def ways (fr : List (Int × Int × Bool)) : List Int := (fr.map (·.1)).reverse
def lasts (fr : List (Int × Int × Bool)) : List Int := (fr.map (·.2.1)).reverse
def firsts (fr : List (Int × Int × Bool)) : List Bool := (fr.map (·.2.2)).reverse
@[simp] theorem ways_len (fr) : (ways fr).length = fr.length := by simp [ways]
@[simp] theorem lasts_len (fr) : (lasts fr).length = fr.length := by simp [lasts]
@[simp] theorem firsts_len (fr) : (firsts fr).length = fr.length := by simp [firsts]
theorem ways_cons (x b f fr) : ways ((x, b, f) :: fr) = ways fr ++ [x] := by simp [ways]
theorem lasts_cons (x b f fr) : lasts ((x, b, f) :: fr) = lasts fr ++ [b] := by simp [lasts]
theorem firsts_cons (x b f fr) : firsts ((x, b, f) :: fr) = firsts fr ++ [f] := by simp [firsts]
theorem bls_snoc (l : List Bool) (x : Bool) : bls l ++ [[.bool x]] = bls (l ++ [x]) := by simp [bls]
theorem ints_take (l : List Int) (x : Int) : (ints (l ++ [x])).take l.length = ints l := by simp [ints]
theorem bls_take (l : List Bool) (x : Bool) : (bls (l ++ [x])).take l.length = bls l := by simp [bls]
theorem ints_set (l : List Int) (x y : Int) : (ints (l ++ [x])).set l.length [.int y] = ints (l ++ [y]) := by simp [ints, List.set_append_right]
theorem bls_set (l : List Bool) (x y : Bool) : (bls (l ++ [x])).set l.length [.bool y] = bls (l ++ [y]) := by simp [bls, List.set_append_right]

def K10 (S0 : Heap) (v : AVal) (E : List (Int × Int)) (z : Int) (c : List Int) (n : Nat) (a : Tmps) (S' : Heap) : Prop :=
  ∃ (fr : List (Int × Int × Bool)) (m : List Int) (v5 v6 v7 v8 : AVal), get a 0 = v ∧ get a 1 = .int z ∧ get a 5 = v5 ∧ get a 6 = v6 ∧ get a 7 = v7 ∧ get a 8 = v8 ∧
    Own S0.length S0 S' [(v5, 1, ints (ways fr)), (v6, 1, ints m), (v7, 1, ints (lasts fr)), (v8, 1, bls (firsts fr))] ∧ Ci E z fr m ∧ cyRun E z n fr m = some c

theorem wrapN (i : Nat) (h : i < 4611686018427387904) : IntKind.i64.wrap (i : Int) = (i : Int) := wrap64_in (by omega) (by omega)

set_option maxHeartbeats 2000000 in
/-- Cycle. -/
theorem w10 {S : Heap} {v : AVal} {E : List (Int × Int)} {z : Int} {n : Nat} {c : List Int} (h : Rk 2 S v (edgs E)) (hv : v.sc S.length = true) (hl : E.length ≤ 1048576) (hc : cyRun E z n [(z, 0, true)] [z] = some c) :
    ACalls Try.prog β 10 [v, .int z] S fun e S' => (∃ fl, e = .ret (.list fl (ints c))) ∧ S' = S := by
  refine ACalls.close (R := fun e S' => (∃ u L, e = .ret u ∧ Own S.length S S' ((u, 1, ints c) :: L)) ∨ (e = .ret (.list .full (ints c)) ∧ S'.take S.length = S)) ?_ ?_
  rotate_left 1
  · rintro e S' (⟨u, L, rfl, own⟩ | ⟨rfl, hS⟩)
    · have hap := own.ap 0 u 1 (ints c) rfl
      generalize hes : ints c = es at hap
      cases hap with
      | none fl hf =>
        refine .flat own.take (by simp) ⟨⟨fl, rfl⟩, rfl⟩
      | row id off len es0 cap hN hS hle =>
        refine .frz id 1 es0 cap hS ?_
        refine .flat ?_ ?_ ⟨⟨.unk, ?_⟩, rfl⟩
        · rw [← own.take]
          refine List.ext_getElem? fun j => ?_
          simp only [List.length_take]
          rcases Nat.lt_or_ge j S.length with hj | hj
          · rw [List.getElem?_take_of_lt (by have := own.le; omega), List.getElem?_take_of_lt hj, List.getElem?_set_ne (by omega)]
          · rw [List.getElem?_eq_none (by simp; omega), List.getElem?_eq_none (by simp; omega)]
        · simp [hle]
          rw [← hes]
          refine scLL_iff.2 fun e he => ?_
          simp only [ints, List.mem_map] at he
          obtain ⟨i, _, rfl⟩ := he
          simp
        · simp [hle, hes]
    · refine .flat hS ?_ ⟨⟨_, rfl⟩, rfl⟩
      simp
      refine scLL_iff.2 fun e he => ?_
      simp only [ints, List.mem_map] at he
      obtain ⟨i, _, rfl⟩ := he
      simp
  refine fn_sound tryOrd (f10_c β.G) (by simp [f10]) ?_
  have hown := ((((Own.start S).add 1 (ints [z]) (some 1)).add 1 (ints [z]) (some 1)).add 1 (ints [0]) (some 1)).add 1 (bls [true]) (some 1)
  simp [-hsnoc] at hown
  simp [f10, f10m]
  refine mwp_loop (I := K10 S v E z c) (n := n) ?_ ?_
  · refine ⟨[(z, 0, true)], [z], _, _, _, _, rfl, rfl, rfl, rfl, rfl, rfl, ?_, ⟨by simp, by simp, by simp⟩, hc⟩
    simpa [ways, lasts, firsts, ints, bls] using hown
  clear hown
  rintro q a S' ⟨fr, m, v5, v6, v7, v8, a0, a1, a5, a6, a7, a8, own, ci, hrun⟩
  have r5 := own.rk 0 (v := v5) (k := 1) (es := ints (ways fr)) rfl
  have r6 := own.rk 1 (v := v6) (k := 1) (es := ints m) rfl
  have r7 := own.rk 2 (v := v7) (k := 1) (es := ints (lasts fr)) rfl
  have r8 := own.rk 3 (v := v8) (k := 1) (es := bls (firsts fr)) rfl
  have rv := own.old h hv
  cases fr with
  | nil =>
    have : c = [] := by cases q <;> simpa [cyRun, eq_comm] using hrun
    subst this
    simp [f10b0, a5, r5.lenR]
    exact .inr ⟨rfl, own.take⟩
  | cons t fr =>
  obtain ⟨x, b, f⟩ := t
  cases q with
  | zero => simp [cyRun] at hrun
  | succ q =>
  have hml := ci.mlen
  have hfl := ci.len
  simp only [List.length_cons] at hfl
  have hpos : (0 : Int) < (fr.length : Int) + 1 := by omega
  have hwt := wrapN fr.length (by omega)
  obtain ⟨p5, q5, q5'⟩ := r5.int (i := fr.length) (by simp)
  have e5 : (ways ((x, b, f) :: fr))[fr.length]'(by simp) = x := by simp [ways]
  rw [e5] at q5'
  obtain ⟨p7, q7, q7'⟩ := r7.int (i := fr.length) (by simp)
  have e7 : (lasts ((x, b, f) :: fr))[fr.length]'(by simp) = b := by simp [lasts]
  rw [e7] at q7'
  obtain ⟨p8, q8, q8'⟩ := r8.bool (i := fr.length) (by simp)
  have e8 : (firsts ((x, b, f) :: fr))[fr.length]'(by simp) = f := by simp [firsts]
  rw [e8] at q8'
  simp [f10b0, a0, a1, a5, r5.lenR, hpos, hwt, q5, q5']
  refine (w23 rv (by omega)).use ?_
  rintro e S2 ⟨rfl, rfl⟩
  simp only [cyRun] at hrun
  by_cases hmem : (x, z) ∈ E
  · rw [if_pos hmem, Option.some.injEq] at hrun
    subst hrun
    simp [-List.map_cons, hmem, a5]
    exact .inl ⟨_, own⟩
  rw [if_neg hmem] at hrun
  simp [hmem, a0, a5, a7, a8, q5, q5', q7, q7', q8, q8']
  refine (w24 rv (by omega)).use ?_
  rintro e S2 ⟨rfl, rfl⟩
  have fin : ∀ (a' : Tmps) (S3 : Heap) (fr' : List (Int × Int × Bool)) (m' : List Int) (u5 u6 u7 u8 : AVal), get a' 0 = v → get a' 1 = .int z → get a' 5 = u5 → get a' 6 = u6 → get a' 7 = u7 → get a' 8 = u8 →
      Own S.length S S3 [(u5, 1, ints (ways fr')), (u6, 1, ints m'), (u7, 1, ints (lasts fr')), (u8, 1, bls (firsts fr'))] → Ci E z fr' m' → cyRun E z q fr' m' = some c → ∃ n', n' < q + 1 ∧ K10 S v E z c n' a' S3 :=
    fun a' S3 fr' m' u5 u6 u7 u8 b0 b1 b5 b6 b7 b8 o i r => ⟨q, by omega, fr', m', u5, u6, u7, u8, b0, b1, b5, b6, b7, b8, o, i, r⟩
  have hnm := nextF_mem (E := E) (x := x) (b := b) (f := f)
  generalize (nextF E x b f).1 = y at hrun hnm ⊢
  generalize (nextF E x b f).2 = found at hrun hnm ⊢
  cases found with
  | false =>
    simp only [Bool.false_eq_true, if_false] at hrun
    obtain ⟨u5, s5, own⟩ := own.upto 0 (v := v5) (k := 1) (es := ints (ways ((x, b, f) :: fr))) rfl (n := fr.length) (by simp)
    obtain ⟨u7, s7, own⟩ := own.upto 2 (v := v7) (k := 1) (es := ints (lasts ((x, b, f) :: fr))) rfl (n := fr.length) (by simp)
    obtain ⟨u8, s8, own⟩ := own.upto 3 (v := v8) (k := 1) (es := bls (firsts ((x, b, f) :: fr))) rfl (n := fr.length) (by simp)
    simp [-slcR, a5, a7, a8, s5, s7, s8]
    refine fin _ _ fr m u5 v6 u7 u8 ?_ ?_ ?_ ?_ ?_ ?_ ?_ ci.pop hrun
    · simp [a0]
    · simp [a1]
    · simp
    · simp [a6]
    · simp
    · simp
    · have t5 : (ints (ways ((x, b, f) :: fr))).take fr.length = ints (ways fr) := by rw [ways_cons, ← ways_len fr, ints_take]
      have t7 : (ints (lasts ((x, b, f) :: fr))).take fr.length = ints (lasts fr) := by rw [lasts_cons, ← lasts_len fr, ints_take]
      have t8 : (bls (firsts ((x, b, f) :: fr))).take fr.length = bls (firsts fr) := by rw [firsts_cons, ← firsts_len fr, bls_take]
      rw [t5, t7, t8] at own
      exact own
  | true =>
    simp only [if_true] at hrun
    obtain ⟨p7, S3, i7, st7, own3, _⟩ := own.store 2 (v := v7) (es := ints (lasts ((x, b, f) :: fr))) rfl (j := fr.length) (by simp) (x := .int y) rfl rfl
    obtain ⟨p8, S4, i8, st8, own4, _⟩ := own3.store 3 (v := v8) (es := bls (firsts ((x, b, f) :: fr))) rfl (j := fr.length) (by simp) (x := .bool false) rfl rfl
    have t7 : (ints (lasts ((x, b, f) :: fr))).set fr.length [.int y] = ints (lasts ((x, y, false) :: fr)) := by rw [lasts_cons, ← lasts_len fr, ints_set, lasts_cons]
    have t8 : (bls (firsts ((x, b, f) :: fr))).set fr.length [.bool false] = bls (firsts ((x, y, false) :: fr)) := by rw [firsts_cons, ← firsts_len fr, bls_set, firsts_cons]
    have t5 : ways ((x, b, f) :: fr) = ways ((x, y, false) :: fr) := by simp [ways]
    rw [t7] at own3
    rw [t7, t8, t5] at own4
    have own5 : Own S.length S S4 [(v5, 1, ints (ways ((x, y, false) :: fr))), (v6, 1, ints m), (v7, 1, ints (lasts ((x, y, false) :: fr))), (v8, 1, bls (firsts ((x, y, false) :: fr)))] := own4
    have r6' := own5.rk 1 (v := v6) (k := 1) (es := ints m) rfl
    have ci' : Ci E z ((x, y, false) :: fr) m := ⟨ci.nd, ci.sub, ci.len⟩
    simp [a0, a5, a6, a7, a8, i7, st7, i8, st8]
    refine (w25 r6' (by omega)).use ?_
    rintro e S5 ⟨rfl, rfl⟩
    by_cases hym : y ∈ m
    · rw [if_pos hym] at hrun
      simp [hym]
      refine fin _ _ ((x, y, false) :: fr) m v5 v6 v7 v8 ?_ ?_ ?_ ?_ ?_ ?_ own5 ci' hrun <;> simp [a0, a1, a5, a6, a7, a8]
    · rw [if_neg hym] at hrun
      have hyt : y ∈ tos E := List.mem_map.2 ⟨_, hnm rfl, rfl⟩
      obtain ⟨S6, p6, own6, _⟩ := own5.app 1 (v := v6) (k := 1) (es := ints m) rfl (y := .list .full [[.int y]]) (ys := [[.int y]]) (bytes := 8) rfl (by simp) (by omega) (by simp; omega) (by simp; omega)
      obtain ⟨S7, p5, own7, _⟩ := own6.app 0 (v := v5) (k := 1) (es := ints (ways ((x, y, false) :: fr))) rfl (y := .list .full [[.int y]]) (ys := [[.int y]]) (bytes := 8) rfl (by simp) (by omega) (by simp; omega) (by simp; omega)
      obtain ⟨S8, p7, own8, _⟩ := own7.app 2 (v := v7) (k := 1) (es := ints (lasts ((x, y, false) :: fr))) rfl (y := .list .full [[.int 0]]) (ys := [[.int 0]]) (bytes := 8) rfl (by simp) (by omega) (by simp; omega) (by simp; omega)
      obtain ⟨S9, p8, own9, _⟩ := own8.app 3 (v := v8) (k := 1) (es := bls (firsts ((x, y, false) :: fr))) rfl (y := .list .full [[.bool true]]) (ys := [[.bool true]]) (bytes := 1) rfl (by simp) (by omega) (by simp; omega) (by simp; omega)
      rw [ints_snoc, ints_snoc, ints_snoc, bls_snoc, ← ways_cons y 0 true, ← lasts_cons y 0 true, ← firsts_cons y 0 true] at own9
      simp [-appendR, hym, a5, a6, a7, a8, p6, p5, p7, p8]
      simp only [List.set_cons_zero, List.set_cons_succ] at own9
      refine fin _ _ ((y, 0, true) :: (x, y, false) :: fr) (m ++ [y]) _ _ _ _ ?_ ?_ ?_ ?_ ?_ ?_ own9 (ci'.push hym hyt) hrun <;> simp [a0, a1]
end Go.Abs
