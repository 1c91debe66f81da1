/- Walks: Next and Reach of the document's answer. Conditions: the lengths; definitions and lemmas. -/
import Derived.Test.YtjoehmgnapdhaaaW1
set_option linter.unusedSimpArgs false
set_option linter.unusedVariables false
namespace Go.Abs
open Go Go.RowKit Go.Proofs
variable {β : Base}

def stepN (x b : Int) (first : Bool) (acc : Int × Bool) (e : Int × Int) : Int × Bool :=
  if e.1 = x ∧ (first = true ∨ b < e.2) ∧ (acc.2 = false ∨ e.2 < acc.1) then (e.2, true) else acc
def nextF (E : List (Int × Int)) (x b : Int) (first : Bool) : Int × Bool := E.foldl (stepN x b first) (0, false)

theorem foldl_take_succ {α γ : Type} (f : γ → α → γ) (z : γ) (l : List α) (i : Nat) (h : i < l.length) : (l.take (i + 1)).foldl f z = f ((l.take i).foldl f z) l[i] := by
  rw [List.take_add_one, List.getElem?_eq_getElem h, List.foldl_append]; rfl

structure I24 (S : Heap) (v : AVal) (E : List (Int × Int)) (x b : Int) (first : Bool) (n : Nat) (a : Tmps) (S' : Heap) (i : Nat) (best : Int) (found : Bool) : Prop where
  hn : n = E.length - i
  hi : i ≤ E.length
  a0 : get a 0 = v
  a1 : get a 1 = .int x
  a2 : get a 2 = .int b
  a3 : get a 3 = .bool first
  a10 : get a 10 = .int best
  a11 : get a 11 = .bool found
  a12 : get a 12 = .int i
  hr : (E.take i).foldl (stepN x b first) (0, false) = (best, found)
  hk : Rk 2 S' v (edgs E)
  hg : ∃ g, S' = S ++ g

def J24 (S : Heap) (v : AVal) (E : List (Int × Int)) (x b : Int) (first : Bool) (n : Nat) (a : Tmps) (S' : Heap) : Prop := ∃ i best found, I24 S v E x b first n a S' i best found

/-- Next. -/
theorem w24 {S : Heap} {v : AVal} {E : List (Int × Int)} {x b : Int} {first : Bool} (h : Rk 2 S v (edgs E)) (hl : E.length ≤ 4194304) :
    ACalls Try.prog β 24 [v, .int x, .int b, .bool first] S fun e S' => e = .ret (.tuple [.int (nextF E x b first).1, .bool (nextF E x b first).2]) ∧ S' = S := by
  refine ACalls.close (R := fun e S' => e = .ret (.tuple [.int (nextF E x b first).1, .bool (nextF E x b first).2]) ∧ ∃ g, S' = S ++ g) ?_ ?_
  · refine fn_sound tryOrd (f24_c β.G) (by simp [f24]) ?_
    simp [f24, f24m]
    refine mwp_loop (I := J24 S v E x b first) (n := E.length) ?_ ?_
    · exact ⟨0, 0, false, by simp, by simp, rfl, rfl, rfl, rfl, rfl, rfl, rfl, by simp, h, [], by simp⟩
    rintro n a S' ⟨i, best, found, hI⟩
    obtain ⟨hn, hi, a0, a1, a2, a3, a10, a11, a12, hr, hk, g, hg⟩ := hI
    by_cases hlt : i < E.length
    · obtain ⟨p, p1, p2, q1, q2, _⟩ := hk.edge hlt
      have hfold := foldl_take_succ (stepN x b first) (0, false) E i hlt
      rw [hr] at hfold
      have hw := wrapS i (by omega)
      have fin : ∀ (a' : Tmps) (o : AObj) (best' : Int) (found' : Bool), stepN x b first (best, found) E[i] = (best', found') → get a' 0 = v → get a' 1 = .int x → get a' 2 = .int b → get a' 3 = .bool first → get a' 10 = .int best' → get a' 11 = .bool found' → get a' 12 = .int ((i : Int) + 1) →
          ∃ n', n' < n ∧ J24 S v E x b first n' a' (S' ++ [o]) := fun a' o best' found' e b0 b1 b2 b3 b10 b11 b12 =>
        ⟨E.length - (i + 1), by omega, i + 1, best', found', rfl, by omega, b0, b1, b2, b3, b10, b11, by rw [b12]; simp, by rw [hfold, e], hk.more _, g ++ [o], by rw [hg]; simp⟩
      by_cases hx : E[i].1 = x
      rotate_left 1
      · have gx : (E[i].1 == x) = false := beq_eq_false_iff_ne.2 hx
        simp [f24b0, a0, a1, a2, a3, a10, a11, a12, hk.lenR, hlt, q1, q2, gx, hw]
        refine fin _ _ best found (by simp [stepN, hx]) ?_ ?_ ?_ ?_ ?_ ?_ ?_ <;> simp [a0, a1, a2, a3, a10, a11]
      by_cases hb : first = true ∨ b < E[i].2
      rotate_left 1
      · simp only [not_or] at hb
        have hf : first = false := by simpa using hb.1
        subst hf
        simp [f24b0, a0, a1, a2, a3, a10, a11, a12, hk.lenR, hlt, q1, q2, hx, hb.2, hw]
        refine fin _ _ best found (by simp [stepN, hb.2]) ?_ ?_ ?_ ?_ ?_ ?_ ?_ <;> simp [a0, a1, a2, a3, a10, a11]
      by_cases hc : found = false ∨ E[i].2 < best
      · have key : stepN x b first (best, found) E[i] = (E[i].2, true) := by simp only [stepN]; rw [if_pos ⟨hx, hb, hc⟩]
        cases first with
        | true =>
          cases found with
          | false =>
            simp [f24b0, a0, a1, a2, a3, a10, a11, a12, hk.lenR, hlt, q1, q2, hx, hw]
            refine fin _ _ _ true key ?_ ?_ ?_ ?_ ?_ ?_ ?_ <;> simp [a0, a1, a2, a3, a10, a11]
          | true =>
            have hc' : E[i].2 < best := by simpa using hc
            simp [f24b0, a0, a1, a2, a3, a10, a11, a12, hk.lenR, hlt, q1, q2, hx, hc', hw]
            refine fin _ _ _ true key ?_ ?_ ?_ ?_ ?_ ?_ ?_ <;> simp [a0, a1, a2, a3, a10, a11]
        | false =>
          have hb' : b < E[i].2 := by simpa using hb
          cases found with
          | false =>
            simp [f24b0, a0, a1, a2, a3, a10, a11, a12, hk.lenR, hlt, q1, q2, hx, hb', hw]
            refine fin _ _ _ true key ?_ ?_ ?_ ?_ ?_ ?_ ?_ <;> simp [a0, a1, a2, a3, a10, a11]
          | true =>
            have hc' : E[i].2 < best := by simpa using hc
            simp [f24b0, a0, a1, a2, a3, a10, a11, a12, hk.lenR, hlt, q1, q2, hx, hb', hc', hw]
            refine fin _ _ _ true key ?_ ?_ ?_ ?_ ?_ ?_ ?_ <;> simp [a0, a1, a2, a3, a10, a11]
      · simp only [not_or] at hc
        have hf : found = true := by simpa using hc.1
        subst hf
        have key : stepN x b first (best, true) E[i] = (best, true) := by
          simp only [stepN]
          rw [if_neg]
          rintro ⟨_, _, h | h⟩
          · cases h
          · exact hc.2 h
        cases first with
        | true =>
          simp [f24b0, a0, a1, a2, a3, a10, a11, a12, hk.lenR, hlt, q1, q2, hx, hc.2, hw]
          refine fin _ _ _ true key ?_ ?_ ?_ ?_ ?_ ?_ ?_ <;> simp [a0, a1, a2, a3, a10, a11]
        | false =>
          have hb' : b < E[i].2 := by simpa using hb
          simp [f24b0, a0, a1, a2, a3, a10, a11, a12, hk.lenR, hlt, q1, q2, hx, hb', hc.2, hw]
          refine fin _ _ _ true key ?_ ?_ ?_ ?_ ?_ ?_ ?_ <;> simp [a0, a1, a2, a3, a10, a11]
    · have : i = E.length := by omega
      subst this
      rw [List.take_length] at hr
      simp [f24b0, a0, a10, a11, a12, hk.lenR]
      refine ⟨⟨?_, ?_⟩, g, hg⟩
      · rw [nextF, hr]
      · rw [nextF, hr]
  · rintro e S' ⟨rfl, g, rfl⟩
    exact .flat (by simp) (by simp) ⟨rfl, rfl⟩

/-! ### Reach -/
def bfsStep (x : Int) (mw : List Int × List Int) (e : Int × Int) : List Int × List Int :=
  if e.1 = x ∧ e.2 ∉ mw.1 then (mw.1 ++ [e.2], mw.2 ++ [e.2]) else mw
def bfs (E : List (Int × Int)) : Nat → List Int → List Int → Option (List Int)
  | _, m, [] => some m
  | 0, _, _ :: _ => none
  | n + 1, m, x :: w => bfs E n (E.foldl (bfsStep x) (m, w)).1 (E.foldl (bfsStep x) (m, w)).2

def tos (E : List (Int × Int)) : List Int := E.map (·.2)

theorem nodup_len {α : Type} [DecidableEq α] : ∀ {l m : List α}, l.Nodup → (∀ x ∈ l, x ∈ m) → l.length ≤ m.length
  | [], _, _, _ => Nat.zero_le _
  | x :: l, m, hn, hs => by
    have hx : x ∈ m := hs x (by simp)
    rw [List.nodup_cons] at hn
    have := nodup_len (l := l) (m := m.erase x) hn.2 (fun y hy => (List.mem_erase_of_ne (fun e => by subst e; exact hn.1 hy)).2 (hs y (List.mem_cons_of_mem _ hy)))
    rw [List.length_erase_of_mem hx] at this
    have hpos : 0 < m.length := List.length_pos_of_mem hx
    simp only [List.length_cons]; omega

/-- What the search keeps. -/
structure Bi (E : List (Int × Int)) (m w : List Int) : Prop where
  nd : m.Nodup
  sub : ∀ x ∈ m, x ∈ tos E
  len : w.length ≤ m.length + 1

theorem Bi.mlen {E m w} (h : Bi E m w) : m.length ≤ E.length := by
  have := nodup_len h.nd h.sub
  simpa [tos] using this

theorem Bi.step {E m w} (h : Bi E m w) (x : Int) {e : Int × Int} (he : e ∈ E) : Bi E (bfsStep x (m, w) e).1 (bfsStep x (m, w) e).2 := by
  unfold bfsStep
  split
  · rename_i hc
    refine ⟨?_, ?_, ?_⟩
    · rw [List.nodup_append]
      refine ⟨h.nd, by simp, fun a ha b hb => ?_⟩
      simp only [List.mem_singleton] at hb
      subst hb
      exact fun e => hc.2 (e ▸ ha)
    · intro y hy
      rcases List.mem_append.1 hy with hy | hy
      · exact h.sub y hy
      · simp only [List.mem_singleton] at hy; subst hy; exact List.mem_map.2 ⟨e, he, rfl⟩
    · have := h.len; simp; omega
  · exact h

theorem Bi.fold {E m w} (h : Bi E m w) (x : Int) (i : Nat) : Bi E ((E.take i).foldl (bfsStep x) (m, w)).1 ((E.take i).foldl (bfsStep x) (m, w)).2 := by
  induction i with
  | zero => simpa using h
  | succ i ih =>
    by_cases hi : i < E.length
    · rw [foldl_take_succ _ _ _ _ hi]; exact ih.step x (List.getElem_mem hi)
    · rw [List.take_of_length_le (by omega)]; rw [List.take_of_length_le (by omega)] at ih; exact ih

def J16 (S0 : Heap) (v : AVal) (E : List (Int × Int)) (x' x y : Int) (m0 w0 : List Int) (n : Nat) (a : Tmps) (S' : Heap) : Prop :=
  ∃ (i : Nat) (mm ww : List Int) (mv wv : AVal), n = E.length - i ∧ i ≤ E.length ∧ get a 0 = v ∧ get a 1 = .int x ∧ get a 2 = .int y ∧ get a 7 = mv ∧ get a 8 = wv ∧ get a 9 = .int x' ∧ get a 10 = .int i ∧
    Own S0.length S0 S' [(mv, 1, ints mm), (wv, 1, ints ww)] ∧ (E.take i).foldl (bfsStep x') (m0, w0) = (mm, ww)

def K16 (S0 : Heap) (v : AVal) (E : List (Int × Int)) (x y : Int) (m : List Int) (k : Nat) (a : Tmps) (S' : Heap) : Prop :=
  ∃ (mv wv : AVal) (mm ww : List Int), get a 0 = v ∧ get a 1 = .int x ∧ get a 2 = .int y ∧ get a 7 = mv ∧ get a 8 = wv ∧ Own S0.length S0 S' [(mv, 1, ints mm), (wv, 1, ints ww)] ∧ Bi E mm ww ∧ bfs E k mm ww = some m

theorem Own.take {S S' : Heap} {L} (own : Own S.length S S' L) : S'.take S.length = S := List.ext_getElem? fun j => by
  rcases Nat.lt_or_ge j S.length with hj | hj
  · rw [List.getElem?_take_of_lt hj]; exact own.low j hj
  · rw [List.getElem?_eq_none (by simp; omega), List.getElem?_eq_none hj]

theorem ints_snoc (l : List Int) (x : Int) : ints l ++ [[.int x]] = ints (l ++ [x]) := by simp [ints]

/-- Reach. -/
theorem w16 {S : Heap} {v : AVal} {E : List (Int × Int)} {x y : Int} {n : Nat} {m : List Int} (h : Rk 2 S v (edgs E)) (hv : v.sc S.length = true) (hl : E.length ≤ 1048576) (hb : bfs E n [] [x] = some m) :
    ACalls Try.prog β 16 [v, .int x, .int y] S fun e S' => e = .ret (.bool (decide (y ∈ m))) ∧ S' = S := by
  refine ACalls.close (R := fun e S' => e = .ret (.bool (decide (y ∈ m))) ∧ S'.take S.length = S) ?_ ?_
  rotate_left 1
  · rintro e S' ⟨rfl, hS⟩
    exact .flat hS (by simp) ⟨rfl, rfl⟩
  refine fn_sound tryOrd (f16_c β.G) (by simp [f16]) ?_
  have hown := ((Own.start S).add0 1 .full (.inr rfl)).add 1 (ints [x]) (some 1)
  simp only [List.nil_append, List.singleton_append, ints_len, List.length_singleton] at hown
  simp [f16, f16m]
  refine mwp_loop (I := K16 S v E x y m) (n := n) ?_ ?_
  · exact ⟨_, _, [], [x], rfl, rfl, rfl, rfl, rfl, hown, ⟨by simp, by simp, by simp⟩, hb⟩
  rintro k a S' ⟨mv, wv, mm, ww, a0, a1, a2, a7, a8, own, bi, hbf⟩
  have rm := own.rk 0 (v := mv) (k := 1) (es := ints mm) rfl
  have rw_ := own.rk 1 (v := wv) (k := 1) (es := ints ww) rfl
  cases hw : ww with
  | nil =>
    subst hw
    have hm : mm = m := by
      cases k <;> simpa [bfs] using hbf
    subst hm
    simp [f16b1, a8, rw_.lenR, a7, a2]
    have hml := bi.mlen
    refine (w25 rm (by omega)).use ?_
    rintro e S2 ⟨rfl, rfl⟩
    simp
    exact own.take
  | cons x' w' =>
    subst hw
    cases k with
    | zero => simp [bfs] at hbf
    | succ k =>
    obtain ⟨p, q1, q2⟩ := rw_.int (i := 0) (by simp)
    simp at q1
    have hpos : (0 : Int) < (w'.length : Int) + 1 := by omega
    obtain ⟨wv', hs1, own1⟩ := own.rest 1 (v := wv) (k := 1) (es := ints (x' :: w')) rfl (n := 1) (by simp)
    have hs1 := fun a => hs1 a (.val (.int 1)) rfl
    have own1' : Own S.length S S' [(mv, 1, ints mm), (wv', 1, ints w')] := own1
    simp [-slcR, f16b1, a8, rw_.lenR, q1, q2, hpos, hs1]
    refine mwp_loop (I := J16 S v E x' x y mm w') (n := E.length) ?_ ?_
    · exact ⟨0, mm, w', mv, wv', by simp, by simp, by simp [a0], by simp [a1], by simp [a2], by simp [a7], by simp, by simp, by simp, own1', by simp⟩
    clear own own1 own1' rm rw_ q1 q2 hs1 a0 a1 a2 a7 a8
    rintro q a S1 ⟨i, mm1, ww1, mv1, wv1, hq, hi, a0, a1, a2, a7, a8, a9, a10, own1, hfold⟩
    have bi0 : Bi E mm w' := ⟨bi.nd, bi.sub, by have := bi.len; simp at this; omega⟩
    have bi1 := bi0.fold x' i
    rw [hfold] at bi1
    have rv := own1.old h hv
    have rm := own1.rk 0 (v := mv1) (k := 1) (es := ints mm1) rfl
    by_cases hlt : i < E.length
    · have hnext := foldl_take_succ (bfsStep x') (mm, w') E i hlt
      rw [hfold] at hnext
      obtain ⟨p, p1, p2, q1, q2, q3, q4, q5, q6⟩ := rv.edge hlt
      have hml := bi1.mlen
      have hwl := bi1.len
      simp only at hml hwl
      have hw := wrapS i (by omega)
      have fin : ∀ (a' : Tmps) (S2 : Heap) (mm2 ww2 : List Int) (mv2 wv2 : AVal), bfsStep x' (mm1, ww1) E[i] = (mm2, ww2) → get a' 0 = v → get a' 1 = .int x → get a' 2 = .int y → get a' 7 = mv2 → get a' 8 = wv2 → get a' 9 = .int x' → get a' 10 = .int ((i : Int) + 1) →
          Own S.length S S2 [(mv2, 1, ints mm2), (wv2, 1, ints ww2)] → ∃ n', n' < q ∧ J16 S v E x' x y mm w' n' a' S2 := fun a' S2 mm2 ww2 mv2 wv2 e b0 b1 b2 b7 b8 b9 b10 o =>
        ⟨E.length - (i + 1), by omega, i + 1, mm2, ww2, mv2, wv2, rfl, by omega, b0, b1, b2, b7, b8, b9, by rw [b10]; simp, o, by rw [hnext, e]⟩
      by_cases hx : E[i].1 = x'
      rotate_left 1
      · have g : (E[i].1 == x') = false := beq_eq_false_iff_ne.2 hx
        simp [f16b0, a0, a9, a10, rv.lenR, hlt, q1, q3, q4, g, hw]
        refine fin _ _ mm1 ww1 mv1 wv1 (by simp [bfsStep, hx]) ?_ ?_ ?_ ?_ ?_ ?_ ?_ own1 <;> simp [a0, a1, a2, a7, a8, a9]
      simp [f16b0, a0, a7, a9, a10, rv.lenR, hlt, q1, q3, q4, q5, q6, hx]
      refine (w25 rm (by omega)).use ?_
      rintro e S2 ⟨rfl, rfl⟩
      by_cases hmem : E[i].2 ∈ mm1
      · simp [hmem, a10, hw]
        refine fin _ _ mm1 ww1 mv1 wv1 (by simp [bfsStep, hmem]) ?_ ?_ ?_ ?_ ?_ ?_ ?_ own1 <;> simp [a0, a1, a2, a7, a8, a9]
      · obtain ⟨S3, ha1, own2, _⟩ := own1.app 0 (v := mv1) (k := 1) (es := ints mm1) rfl (y := .list .full [[.int E[i].2]]) (ys := [[.int E[i].2]]) (bytes := 8) rfl (by simp) (by omega) (by simp; omega) (by simp; omega)
        obtain ⟨S4, ha2, own3, _⟩ := own2.app 1 (v := wv1) (k := 1) (es := ints ww1) rfl (y := .list .full [[.int E[i].2]]) (ys := [[.int E[i].2]]) (bytes := 8) rfl (by simp) (by omega) (by simp; omega) (by simp; omega)
        have rv3 := own2.old h hv
        obtain ⟨p', p1', p2', q1', q2', q3', q4', q5', q6'⟩ := rv3.edge hlt
        simp [-appendR, hmem, a0, a7, a8, a10, hw, q1, q5, q6, ha1, q1', q5', q6', ha2]
        refine fin _ _ (mm1 ++ [E[i].2]) (ww1 ++ [E[i].2]) _ _ (by simp [bfsStep, hx, hmem]) ?_ ?_ ?_ ?_ ?_ ?_ ?_ (by rw [← ints_snoc, ← ints_snoc]; exact own3) <;> simp [a0, a1, a2, a9]
    · have hie : i = E.length := by omega
      subst hie
      rw [List.take_length] at hfold
      simp [f16b0, a0, a10, rv.lenR]
      refine ⟨k, by omega, mv1, wv1, mm1, ww1, ?_, ?_, ?_, ?_, ?_, own1, bi1, ?_⟩
      · simp [a0]
      · simp [a1]
      · simp [a2]
      · simp [a7]
      · simp [a8]
      · simpa [bfs, hfold] using hbf
end Go.Abs
