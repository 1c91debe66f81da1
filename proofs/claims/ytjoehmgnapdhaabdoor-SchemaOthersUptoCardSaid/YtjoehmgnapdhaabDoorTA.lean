/- Build, and rows mixed. Conditions: none but the lengths; definitions and lemmas. -/
import Derived.Test.YtjoehmgnapdhaabDoorRA
set_option linter.unusedSimpArgs false
set_option linter.unusedVariables false
namespace Go.Abs
open Go Go.RowKit Go.Proofs Go.Lx
variable {w0 : World}

/-- A right value, of this kind. -/
inductive OkV : Val → Int → Prop
  | text (s : Bs) (h : s.length ≤ 200) : OkV (textV s) 4
  | int (i : Int) : OkV (intV i) 2
  | flag (b : Bool) : OkV (flagV b) 1
theorem OkV.kind {v k} (h : OkV v k) : v.kind = k := by cases h <;> rfl
theorem OkV.pos {v k} (h : OkV v k) : k = 4 ∨ k = 2 ∨ k = 1 := by cases h <;> simp

/-- value.Check. -/
theorem w61 {v : Val} {k : Int} (h : OkV v k) (S : Heap) : ACalls Tryd.prog (B0 w0) 61 [.agg (valC v)] S fun e S' => e = .ret (.int 0) ∧ S' = S := by
  refine ACalls.close (R := fun e S' => e = .ret (.int 0) ∧ S'.take S.length = S) ?_ ?_
  rotate_left 1
  · rintro e S' ⟨rfl, ht⟩
    exact .flat ht rfl ⟨rfl, rfl⟩
  refine fn_sound tryOrd (f61_c _) (by simp [f61]) ?_
  cases h with
  | text s h =>
    have h' : ¬ (200 : Int) < (s.length : Int) := by omega
    simp [f61, f61m, valC, textV, h']
  | int i => simp [f61, f61m, valC, intV]
  | flag b => cases b <;> simp [f61, f61m, valC, flagV]

set_option maxHeartbeats 1000000 in
/-- rows.Fit. -/
theorem w47 {S : Heap} {v u : AVal} {cs : List Col} {l : List Val} (hv : Rk 3 S v (colsC cs)) (hu : Rk 3 S u (valsC l)) (hlen : l.length = cs.length) (hb : l.length ≤ 1000000) (hok : ∀ i (h : i < l.length), OkV l[i] (cs[i]'(by omega)).type) :
    ACalls Tryd.prog (B0 w0) 47 [v, u] S fun e S' => e = .ret (.int 0) ∧ S' = S := by
  refine ACalls.close (R := fun e S' => e = .ret (.int 0) ∧ S'.take S.length = S) ?_ ?_
  rotate_left 1
  · rintro e S' ⟨rfl, ht⟩
    exact .flat ht rfl ⟨rfl, rfl⟩
  have h1 := hv.lenR
  have h2 := hu.lenR
  simp only [colsC_len, valsC_len] at h1 h2
  refine fn_sound tryOrd (f47_c _) (by simp [f47]) ?_
  simp [f47, f47m, h1, h2, hlen]
  refine mwp_loop (I := fun n a S' => ∃ i : Nat, n = cs.length - i ∧ i ≤ cs.length ∧ get a 0 = v ∧ get a 13 = u ∧ get a 14 = .int cs.length ∧ get a 15 = .int i ∧ Ab S S') (n := cs.length) ?_ ?_
  · exact ⟨0, rfl, Nat.zero_le _, rfl, rfl, rfl, rfl, Ab.refl S⟩
  rintro n a S' ⟨i, rfl, hi, a0, a13, a14, a15, hab⟩
  by_cases hlt : i < cs.length
  · have hlt' : i < l.length := by omega
    have ok := hok i hlt'
    obtain ⟨p, q1, q2, _⟩ := (hab.rk hu).elem (i := i) (by simpa using hlt') (by rw [valsC_get _ _ hlt']; rfl)
    have q2 := q2 true 3 (Nat.le_refl _)
    rw [valsC_get _ _ hlt'] at q2
    have hk := ok.kind
    have hp := ok.pos
    have hk0 : (l[i].kind == 0) = false := beq_eq_false_iff_ne.2 (by omega)
    obtain ⟨p2, t1, _, p3, t2, t3, p4, t4, t5⟩ := ((hab.more [.cells 3 [valC l[i]] (some 1)]).rk hv).col hlt
    rw [← hk] at t5
    have w61' := w61 (w0 := w0) ok (S' ++ [.cells 3 [valC l[i]] (some 1)])
    have htk := hab.more [.cells 3 [valC l[i]] (some 1)]
    generalize l[i] = x at *
    simp only [valC] at q2 w61' htk t1 t2 t3 t4 t5
    simp at q2
    simp [f47b0, a0, a13, a14, a15, hlt, q1, q2]
    refine w61'.use ?_
    rintro e S1 ⟨rfl, rfl⟩
    simp [bne, a0, a13, a14, a15, hk0, t1, t4, t5, wrapS i (by omega)]
    exact ⟨cs.length - (i + 1), by omega, i + 1, rfl, by omega, by simp, htk⟩
  · simp [f47b0, a0, a13, a14, a15, hlt]
    exact hab.2

/-- The columns of a slot. -/
theorem w46 {S : Heap} {id : Nat} {cap : Option Nat} {v : AVal} {cs : List Col} (hS : S[id]? = some (.cells 1 [[v]] cap)) (hv : Rk 3 S v (colsC cs)) {l : List Val} {u : AVal} (hu : Rk 3 S u (valsC l)) (hlen : l.length = cs.length) (hb : l.length ≤ 1000000) (hok : ∀ i (h : i < l.length), OkV l[i] (cs[i]'(by omega)).type) :
    ACalls Tryd.prog (B0 w0) 46 [u, .ptr id 0 0] S fun e S' => e = .ret (.bool false) ∧ S' = S := by
  have ov := hv.isOne
  refine fn_sound tryOrd (f46_c _) (by simp [f46]) ?_
  simp [f46, f46m, hS, ov]
  refine (w47 hv hu hlen hb hok).use ?_
  rintro e S1 ⟨rfl, rfl⟩
  simp

def firstAt (P : List AVal → Bool) (es : List (List AVal)) : Int := if es.findIdx P < es.length then es.findIdx P else -1
/-- slices.IndexFunc over rows: what is asked tells P. -/
theorem w48 {S : Heap} {v : AVal} {es : List (List AVal)} {q : FuncId} {cap : List AVal} {P : List AVal → Bool} (hv : Rk 1 S v es) (h1 : ∀ e ∈ es, e.length = 1) (hl : es.length ≤ 4611686018427387900)
    (hq : ∀ e ∈ es, ACalls Tryd.prog (B0 w0) q (e ++ cap) S fun x S' => x = .ret (.bool (P e)) ∧ S' = S) :
    ACalls Tryd.prog (B0 w0) 48 [v, .clo (.func q) [] cap] S fun e S' => e = .ret (.int (firstAt P es)) ∧ S' = S := by
  refine fn_sound tryOrd (f48_c _) (by simp [f48]) ?_
  have hlen := hv.lenR
  simp [f48, f48m, hlen]
  refine mwp_loop (I := fun n a S' => ∃ i : Nat, n = es.length - i ∧ i ≤ es.length ∧ get a 0 = v ∧ get a 1 = .clo (.func q) [] cap ∧ get a 7 = .int es.length ∧ get a 8 = .int i ∧ S' = S ∧ i ≤ es.findIdx P) (n := es.length) ?_ ?_
  · exact ⟨0, rfl, Nat.zero_le _, rfl, rfl, rfl, rfl, rfl, Nat.zero_le _⟩
  rintro n a S' ⟨i, rfl, hi, a0, a1, a7, a8, rfl, hle⟩
  by_cases hlt : i < es.length
  · have hk := h1 es[i] (List.getElem_mem hlt)
    obtain ⟨p, q1, q2, _⟩ := hv.elem (i := i) hlt (by rw [getD_eq _ _ _ hlt]; exact hk)
    have q2 := q2 false 1 (Nat.le_refl _)
    rw [getD_eq _ _ _ hlt] at q2
    have hq' := hq es[i] (List.getElem_mem hlt)
    have hnot : P es[i] = true ↔ es.findIdx P = i := by
      constructor
      · intro h
        have := fun hh => List.not_of_lt_findIdx (p := P) (xs := es) (i := i) hh
        rcases Nat.lt_or_ge i (es.findIdx P) with h' | h'
        · exact absurd h (by simpa using this h')
        · omega
      · intro h
        have : es.findIdx P < es.length := by omega
        have := List.findIdx_getElem (w := this)
        simpa [h] using this
    obtain ⟨x, hx⟩ : ∃ x, es[i] = [x] := by
      match es[i], hk with
      | [x], _ => exact ⟨x, rfl⟩
    rw [hx] at q2 hq' hnot
    simp at q2
    simp only [List.singleton_append] at hq'
    simp [f48b0, a0, a1, a7, a8, hlt, q1, q2]
    refine hq'.use ?_
    rintro e S1 ⟨rfl, rfl⟩
    by_cases hp : P [x] = true
    · have he : firstAt P es = i := by rw [firstAt, hnot.1 hp, if_pos hlt]
      simp [hp, he]
    · simp [hp, a0, a1, a7, a8, wrapS i (by omega)]
      have : es.findIdx P ≠ i := fun h => hp (hnot.2 h)
      exact ⟨es.length - (i + 1), by omega, i + 1, rfl, by omega, by simp, by omega⟩
  · have : firstAt P es = -1 := by rw [firstAt, if_neg (by omega)]
    simp [f48b0, a0, a1, a7, a8, hlt, this]

theorem w45 {S : Heap} {v : AVal} {es : List (List AVal)} {q : FuncId} {cap : List AVal} {P : List AVal → Bool} (hv : Rk 1 S v es) (h1 : ∀ e ∈ es, e.length = 1) (hl : es.length ≤ 4611686018427387900)
    (hq : ∀ e ∈ es, ACalls Tryd.prog (B0 w0) q (e ++ cap) S fun x S' => x = .ret (.bool (P e)) ∧ S' = S) (hno : ∀ e ∈ es, P e = false) :
    ACalls Tryd.prog (B0 w0) 45 [v, .clo (.func q) [] cap] S fun e S' => e = .ret (.bool false) ∧ S' = S := by
  refine fn_sound tryOrd (f45_c _) (by simp [f45]) ?_
  simp [f45, f45m]
  refine (w48 hv h1 hl hq).use ?_
  rintro e S1 ⟨rfl, rfl⟩
  have : firstAt P es = -1 := by
    rw [firstAt, if_neg]
    intro h
    have := List.findIdx_getElem (w := h)
    rw [hno _ (List.getElem_mem h)] at this
    cases this
  simp [this]

/-- Rows that fit: the kinds of their values. -/
def Fits (ks : List Int) (l : List Val) : Prop := l.length = ks.length ∧ ∀ i (h : i < l.length), OkV l[i] (ks.getD i 0)

/-- fit. -/
theorem w22 {S : Heap} {v : AVal} {R : List (List Val)} {k : Nat} (hk : k = 1 ∨ k = 2) (hv : Rk 1 S v (rowsC R)) (hl : R.length ≤ 4611686018427387900)
    (hf : ∀ r ∈ R, Fits (if k = 1 then [4, 2, 4, 4, 1] else [4, 4, 1, 4]) r) :
    ACalls Tryd.prog (B0 w0) 22 [.int k, v] S fun e S' => e = .ret (.bool true) ∧ S' = S := by
  refine ACalls.close (R := fun e S' => e = .ret (.bool true) ∧ S'.take S.length = S) ?_ ?_
  rotate_left 1
  · rintro e S' ⟨rfl, ht⟩
    exact .flat ht rfl ⟨rfl, rfl⟩
  refine fn_sound tryOrd (f22_c _) (by simp [f22]) ?_
  simp [f22, f22m]
  refine (w12 S).use ?_
  rintro e S1 ⟨u, rfl, rfl, hu⟩
  obtain ⟨es, g1, g2, g3⟩ := hu S1
  have hk3 : k < 3 := by omega
  obtain ⟨vc, vi, es2, he, hc, hi, hx⟩ := g3 k hk3
  obtain ⟨p, q1, _, q3⟩ := g1.elem (i := k) (by omega) (by rw [he]; rfl)
  obtain ⟨p1, q4, q5⟩ := q3 1
  have q5 := q5 false 1 (by omega)
  rw [he] at q5
  simp at q5
  have oc := hc.rk.isOne
  have hcS : Rk 3 (S1 ++ [.cells 1 [[vc]] (some 1)]) vc (colsC (sysT[k]'hk3).cols) := hc.rk.more _
  have hvS : Rk 1 (S1 ++ [.cells 1 [[vc]] (some 1)]) v (rowsC R) := hv.more _
  have w45' := w45 (w0 := w0) (q := 46) (cap := [.ptr S1.length 0 0]) (P := fun _ => false) hvS (fun e he => by
    obtain ⟨r, _, rfl⟩ := List.mem_map.1 he
    rfl) (by simpa using hl) (fun e he => by
      obtain ⟨r, hr, rfl⟩ := List.mem_map.1 he
      obtain ⟨f1, f2⟩ := hf r hr
      refine w46 (id := S1.length) (cap := some 1) (v := vc) (by simp) hcS (u := .list .full (valsC r)) (.list _ _) ?_ ?_ ?_
      · rcases hk with rfl | rfl
        · have f1' : r.length = 5 := by simpa using f1
          exact f1'
        · have f1' : r.length = 4 := by simpa using f1
          exact f1'
      · rcases hk with rfl | rfl <;> simp at f1 <;> omega
      · intro i h
        have := f2 i h
        rcases hk with rfl | rfl
        · have hi : i = 0 ∨ i = 1 ∨ i = 2 ∨ i = 3 ∨ i = 4 := by simp at f1; omega
          rcases hi with rfl | rfl | rfl | rfl | rfl <;> exact this
        · have hi : i = 0 ∨ i = 1 ∨ i = 2 ∨ i = 3 := by simp at f1; omega
          rcases hi with rfl | rfl | rfl | rfl <;> exact this) (fun _ _ => rfl)
  simp [q1, q4, q5, oc]
  refine w45'.use ?_
  rintro e S2 ⟨rfl, rfl⟩
  simp
end Go.Abs
set_option linter.unusedSimpArgs false
set_option linter.unusedVariables false
namespace Go.Abs
open Go Go.RowKit Go.Proofs Go.Lx
variable {w0 : World}

/-- slices.Clone. -/
theorem w24 {S : Heap} {v : AVal} {es : List (List AVal)} (hv : Rk 1 S v es) (hn : isNil .slice v = some false) (h1 : ∀ e ∈ es, e.length = 1) (hb : es.length * 24 ≤ 140737488355328) :
    ACalls Tryd.prog (B0 w0) 24 [v] S fun e S' => ∃ u, e = .ret u ∧ Own S.length S S' [(u, 1, es)] := by
  refine fn_sound tryOrd (f24_c _) (by simp [f24]) ?_
  have hk : binR .eql (.nilP .slice) v .nilS S = .ok true (.bool false) S := bin_eql_nilF hn rfl
  obtain ⟨S2, happ, ho2, _⟩ := ((Own.start S).add0 1 .full (.inr rfl)).app 0 rfl (y := v) (ys := es) (bytes := 24) hv.src h1 (by decide) (by simpa using hb) (by simp; omega)
  simp [-appendR] at happ
  simp [-appendR, f24, f24m, hk, happ]
  simpa using ho2

/-- The rest is cleared, the beginning is kept. -/
theorem Own.cutAt {N : Nat} {S0 S : Heap} {L : List (AVal × Nat × List (List AVal))} (h : Own N S0 S L) (i : Nat) {v : AVal} {k : Nat} {es : List (List AVal)} (hi : L[i]? = some (v, k, es)) {n : Nat} (hn : n ≤ es.length) (z : List AVal) (hz : z.length = k) (hz1 : z.all AVal.one = true) :
    ∃ v1 S1 v2, (∀ a x, ev a x = .int n → slcR k a S v (some x) none none = .ok true v1 S) ∧ clearR k z S v1 = .ok true (.tuple []) S1 ∧ (∀ a x, ev a x = .int n → slcR k a S1 v none (some x) none = .ok true v2 S1) ∧
      Own N S0 S1 (L.set i (v2, k, es.take n)) := by
  have hap := h.ap i v k es hi
  cases hap with
  | none fl hf =>
    have h0 : n = 0 := by simpa using hn
    subst h0
    refine ⟨.list fl [], S, .list fl [], ?_, rfl, ?_, h.turn hi (Nat.le_refl _) (fun _ _ _ => rfl) (.none fl hf) (fun id o l e => by cases e)⟩ <;>
    · intro a x hx
      rcases hf with rfl | rfl <;> simp [slcR, bound, hx]
  | row id off len es0 cap hN hS hl =>
    have hlen : ((es0.drop off).take len).length = len := by simp; omega
    rw [hlen] at hn
    have hlt := lt_of_some hS
    refine ⟨.row id (off + n) (len - n), S.set id (.cells k (es0.take (off + n) ++ List.replicate (len - n) z ++ es0.drop (off + n + (len - n))) cap), .row id off n, ?_, ?_, ?_, ?_⟩
    · intro a x hx; simp [slcR, bound, hx, hS]; omega
    · simp only [clearR, hS, hz, hz1, decide_true, Bool.true_and]
      have : off + n + (len - n) ≤ es0.length := by omega
      simp [this]
    · intro a x hx
      have hS' := List.getElem?_set_self (a := AObj.cells k (es0.take (off + n) ++ List.replicate (len - n) z ++ es0.drop (off + n + (len - n))) cap) hlt
      simp only [List.append_assoc] at hS' ⊢
      simp [slcR, bound, hx, hS']; omega
    · refine h.turn hi (by simp) (fun q hq hne => by rw [List.getElem?_set_ne (fun e => hne off len (by rw [e]))]) ?_ (fun id' o l e => .inr ⟨off, len, by simp only [AVal.row.injEq] at e; rw [e.1]⟩)
      have := Ap.row (N := N) (k := k) (S := S.set id (.cells k (es0.take (off + n) ++ List.replicate (len - n) z ++ es0.drop (off + n + (len - n))) cap)) id off n (es0.take (off + n) ++ List.replicate (len - n) z ++ es0.drop (off + n + (len - n))) cap hN (by rw [List.getElem?_set_self hlt]) (by simp; omega)
      have e : ((es0.take (off + n) ++ List.replicate (len - n) z ++ es0.drop (off + n + (len - n))).drop off).take n = ((es0.drop off).take len).take n := by
        rw [List.append_assoc, List.drop_append_of_le_length (by simp; omega), List.take_append_of_le_length (by simp; omega), List.drop_take, List.take_take, List.take_take, Nat.min_eq_left hn]
        simp
      rwa [e] at this

theorem filter_findIdx {P : List AVal → Bool} : ∀ {es : List (List AVal)}, es.findIdx P < es.length → (es.take (es.findIdx P + 1)).filter (fun e => !P e) = es.take (es.findIdx P)
  | [], h => by simp at h
  | e :: r, h => by
    rw [List.findIdx_cons] at h ⊢
    by_cases hp : P e = true
    · simp [hp]
    · simp [hp] at h ⊢
      have := filter_findIdx (P := P) (es := r) (by simpa using h)
      simpa using this
theorem filter_none {P : List AVal → Bool} {es : List (List AVal)} (h : ¬ es.findIdx P < es.length) : es.filter (fun e => !P e) = es := by
  rw [List.filter_eq_self]
  intro e he
  obtain ⟨i, hi, rfl⟩ := List.getElem_of_mem he
  have := List.not_of_lt_findIdx (p := P) (xs := es) (i := i) (by omega)
  simpa using this

set_option maxHeartbeats 1000000 in
/-- slices.DeleteFunc over rows. -/
theorem w23 {N : Nat} {S0 S : Heap} {L : List (AVal × Nat × List (List AVal))} {i0 : Nat} {u : AVal} {es : List (List AVal)} {q : FuncId} {cap : List AVal} {P : List AVal → Bool} (ho : Own N S0 S L) (hi : L[i0]? = some (u, 1, es))
    (h1 : ∀ e ∈ es, ∃ x : AVal, e = [x] ∧ x.one = true ∧ cellsOf false x = some [x]) (hl : es.length ≤ 4611686018427387900)
    (hq : ∀ S' : Heap, N ≤ S'.length → (∀ j, j < N → S'[j]? = S0[j]?) → ∀ e ∈ es, ACalls Tryd.prog (B0 w0) q (e ++ cap) S' fun x S2 => x = .ret (.bool (P e)) ∧ S2 = S') :
    ACalls Tryd.prog (B0 w0) 23 [u, .clo (.func q) [] cap] S fun e S' => ∃ u', e = .ret u' ∧ Own N S0 S' (L.set i0 (u', 1, es.filter fun e => !P e)) := by
  have h1' : ∀ e ∈ es, e.length = 1 := fun e he => by obtain ⟨x, rfl, _⟩ := h1 e he; rfl
  have hiL : i0 < L.length := by
    rcases Nat.lt_or_ge i0 L.length with h' | h'
    · exact h'
    · rw [List.getElem?_eq_none h'] at hi; cases hi
  have hsame : L.set i0 (u, 1, es) = L := by
    have hg : L[i0] = (u, 1, es) := by rw [List.getElem?_eq_getElem hiL] at hi; exact Option.some.inj hi
    rw [← hg, List.set_getElem_self]
  refine fn_sound tryOrd (f23_c _) (by simp [f23]) ?_
  simp [f23, f23m]
  refine (w48 (ho.rk i0 hi) h1' hl (hq S ho.le ho.low)).use ?_
  rintro e S1 ⟨rfl, rfl⟩
  by_cases hf : es.findIdx P < es.length
  rotate_left 1
  · have hfa : firstAt P es = -1 := by rw [firstAt, if_neg hf]
    have hfl := filter_none hf
    simp [hfa, hfl, hsame]
    exact ho
  have hfa : firstAt P es = (es.findIdx P : Nat) := by rw [firstAt, if_pos hf]
  have hne : (((es.findIdx P : Nat) : Int) == -1) = false := beq_eq_false_iff_ne.2 (by omega)
  obtain ⟨f0, hf0⟩ : ∃ f0, f0 = es.findIdx P := ⟨_, rfl⟩
  have hft := filter_findIdx hf
  rw [← hf0] at hf hfa hne hft
  simp [hfa, hne, wrapS f0 (by omega)]
  refine mwp_loop (I := fun n a S' => ∃ (j i : Nat) (A : List (List AVal)), n = es.length - j ∧ j ≤ es.length ∧ i < j ∧ get a 0 = u ∧ get a 1 = .clo (.func q) [] cap ∧ get a 5 = .int i ∧ get a 6 = .int j ∧
    Own N S0 S' (L.set i0 (u, 1, A)) ∧ A.length = es.length ∧ A.take i = (es.take j).filter (fun e => !P e) ∧ A.drop j = es.drop j) (n := es.length - (f0 + 1)) ?_ ?_
  · exact ⟨f0 + 1, f0, es, rfl, by omega, by omega, rfl, rfl, rfl, by simp, by rw [hsame]; exact ho, rfl, hft.symm, rfl⟩
  rintro n a S' ⟨j, i, A, rfl, hj, hij, a0, a1, a5, a6, hoA, hA, hpre, hrest⟩
  have hiA : (L.set i0 (u, 1, A))[i0]? = some (u, 1, A) := by rw [List.getElem?_set_self hiL]
  have hrk := hoA.rk i0 hiA
  have hlen := hrk.lenR
  rw [hA] at hlen
  by_cases hlt : j < es.length
  · have hjA : j < A.length := by omega
    have hAj : A[j] = es[j] := by
      have : (A.drop j)[0]? = (es.drop j)[0]? := by rw [hrest]
      simpa [hjA, hlt] using this
    obtain ⟨x, hx, ox, cx⟩ := h1 es[j] (List.getElem_mem hlt)
    obtain ⟨p, q1, q2, _⟩ := hrk.elem (i := j) hjA (by rw [getD_eq _ _ _ hjA, hAj, hx]; rfl)
    have q2 := q2 false 1 (Nat.le_refl _)
    rw [getD_eq _ _ _ hjA, hAj, hx] at q2
    simp at q2
    have hq' := hq S' hoA.le hoA.low es[j] (List.getElem_mem hlt)
    have htk : es.take (j + 1) = es.take j ++ [es[j]] := by rw [List.take_add_one, List.getElem?_eq_getElem hlt]; rfl
    have hdr : A.drop (j + 1) = es.drop (j + 1) := by rw [← List.drop_drop, ← List.drop_drop, hrest]
    rw [hx] at hq' htk
    simp only [List.singleton_append] at hq'
    obtain ⟨p2, S2, t1, t2, t3, t4⟩ := hoA.store i0 hiA (j := i) (by omega) ox cx
    rw [List.set_set] at t3
    simp [f23b0, a0, a1, a5, a6, hlen, hlt, q1, q2]
    refine hq'.use ?_
    rintro e S3 ⟨rfl, rfl⟩
    by_cases hp : P [x] = true
    · simp [hp, a0, a1, a5, a6, wrapS j (by omega)]
      refine ⟨es.length - (j + 1), by omega, j + 1, rfl, by omega, i, by omega, rfl, rfl, A, hoA, hA, ?_, hdr⟩
      rw [htk, List.filter_append, hpre]; simp [hp]
    · simp [hp, a0, a1, a5, a6, t1, t2, wrapS j (by omega), wrapS i (by omega)]
      refine ⟨es.length - (j + 1), by omega, j + 1, rfl, by omega, i + 1, by omega, by simp, by simp, A.set i [x], t3, by simpa using hA, ?_, ?_⟩
      · rw [htk, List.filter_append, ← hpre, List.take_add_one, List.take_set_of_le (Nat.le_refl _)]
        simp [hp, show i < A.length by omega]
      · rw [List.drop_set, if_pos (by omega), hdr]
  · have hje : j = es.length := by omega
    subst hje
    rw [List.take_length] at hpre
    obtain ⟨v1, S1', v2, t1, t2, t3, t4⟩ := hoA.cutAt i0 hiA (n := i) (by omega) [.nilS] rfl rfl
    rw [List.set_set, hpre] at t4
    have t1' := t1 
    simp [-slcR, f23b0, a0, a1, a5, a6, hlen]
    rw [t1 _ _ (by simp [a5])]
    simp [-slcR, t2, a0, a5]
    rw [t3 _ _ (by simp [a5])]
    simp
    exact t4
end Go.Abs
set_option linter.unusedSimpArgs false
set_option linter.unusedVariables false
namespace Go.Abs
open Go Go.RowKit Go.Proofs Go.Lx
variable {w0 : World}

theorem indexByte_at : ∀ (k t : Bs), (44 : UInt8) ∉ k → Lib.indexByte (k ++ 44 :: t) 44 = (k.length : Int)
  | [], t, _ => by simp [Lib.indexByte]
  | c :: k, t, h => by
    have hc : (c == 44) = false := by
      rw [beq_eq_false_iff_ne]; exact fun e => h (by rw [e]; exact List.mem_cons_self ..)
    have := indexByte_at k t fun hh => h (List.mem_cons_of_mem _ hh)
    have hn : ((k.length : Int) == -1) = false := beq_eq_false_iff_ne.2 (by omega)
    rw [List.cons_append, Lib.indexByte, this, hc, hn]
    simp
theorem join_two (k k' : Bs) (r : List Bs) : Lib.join (k :: k' :: r) [44] = k ++ 44 :: Lib.join (k' :: r) [44] := by
  simp [Lib.join_cons, Lib.joinTail]
theorem count_join : ∀ (k : Bs) (r : List Bs), (∀ x ∈ k :: r, (44 : UInt8) ∉ x) → Lib.countByte (Lib.join (k :: r) [44]) 44 = r.length
  | k, [], h => by
    rw [Lib.join_one, Lib.countByte, List.length_nil, List.count_eq_zero]; exact h k (List.mem_singleton.2 rfl)
  | k, k' :: r, h => by
    have h1 := count_join k' r fun x hx => h x (List.mem_cons_of_mem _ hx)
    have h2 : List.count (44 : UInt8) k = 0 := List.count_eq_zero.2 (h k (List.mem_cons_self ..))
    rw [Lib.countByte] at h1 ⊢
    rw [join_two, List.count_append, h2, List.count_cons_self, h1]
    simp

/-- strings.Index of one byte. -/
theorem w64 (l : Bs) (c : UInt8) (S : Heap) : ACalls Tryd.prog (B0 w0) 64 [.str l, .str [c]] S fun e S' => e = .ret (.int (Lib.indexByte l c)) ∧ S' = S := by
  refine fn_sound tryOrd (f64_c _) (by simp [f64]) ?_
  simp [f64, f64m]
  have h77 : ACalls Tryd.prog (B0 w0) 77 [.str l, .str [c]] S fun e S' => e = .ret (.int (Lib.indexByte l c)) ∧ S' = S := by
    refine fn_sound tryOrd (f77_c _) (by simp [f77]) ?_
    by_cases hs : [c] = l
    · subst hs; simp [f77, f77m, Lib.indexByte]
    simp [f77, f77m, hs]
    refine (ext2_ok (β := B0 w0) 85 [.str l, .atom (.int .u8 c.toNat)] S _ rfl).use ?_
    rintro e S1 ⟨rfl, rfl⟩
    simp
  refine h77.use ?_
  rintro e S1 ⟨rfl, rfl⟩
  simp

set_option maxHeartbeats 2000000 in
/-- strings.Split at commas, of what was joined by them. -/
theorem w49 {keys : List Bs} (hne : keys ≠ []) (hno : ∀ x ∈ keys, (44 : UInt8) ∉ x) (hl : (Lib.join keys [44]).length ≤ 1000000) (S : Heap) :
    ACalls Tryd.prog (B0 w0) 49 [.str (Lib.join keys [44]), .str [44], .int 0, .int (-1)] S fun e S' => ∃ u, e = .ret u ∧ Own S.length S S' [(u, 1, strs keys)] := by
  have hcnt : Lib.countByte (Lib.join keys [44]) 44 = keys.length - 1 := by
    match keys, hne with
    | k :: r, _ => rw [count_join k r hno]; simp
  have hlen1 : keys.length ≤ (Lib.join keys [44]).length + 1 := by
    have : Lib.countByte (Lib.join keys [44]) 44 ≤ (Lib.join keys [44]).length := List.count_le_length
    omega
  have hpos : 0 < keys.length := List.length_pos_iff.2 hne
  have hc1 : IntKind.i64.wrap (((keys.length - 1 : Nat) : Int) + 1) = (keys.length : Int) := by rw [wrapS _ (by omega)]; omega
  have hc2 := wrapS (Lib.join keys [44]).length (by omega)
  have hc3 := wrapP keys.length (by omega) hpos
  have hmin : (keys.length : Int) ≤ (((Lib.join keys [44]).length + 1 : Nat) : Int) := by omega
  have hmk : keys.length * 16 ≤ 140737488355328 := by omega
  have hmk2 : keys.length ≤ 4611686018427387903 := by omega
  have hmkI : (keys.length : Int) * 16 ≤ 140737488355328 := by omega
  have hmk2I : (keys.length : Int) ≤ 4611686018427387903 := by omega
  have oB := (Own.start S).add 1 (List.replicate keys.length [AVal.str []]) (some keys.length)
  simp only [List.nil_append, List.length_replicate] at oB
  refine fn_sound tryOrd (f49_c _) (by simp [f49]) ?_
  simp [f49, f49m]
  refine (ext2_ok (β := B0 w0) 63 [.str (Lib.join keys [44]), .str [44]] S _ rfl).use ?_
  rintro e S1 ⟨rfl, rfl⟩
  rw [hcnt]
  have hmin2 : ¬ ((Lib.join keys [44]).length : Int) + 1 < (keys.length : Int) := by omega
  simp [hc1, hc2, hc3, hmin2, hmkI, hmk2I]
  have hget : ∀ i, i < keys.length → ∃ k, keys[i]? = some k ∧ keys.drop i = k :: keys.drop (i + 1) := fun i h => ⟨keys[i], List.getElem?_eq_getElem h, List.drop_eq_getElem_cons h⟩
  refine mwp_loop (I := fun n a S' => ∃ (i : Nat), n = keys.length - 1 - i ∧ i ≤ keys.length - 1 ∧ get a 0 = .str (Lib.join (keys.drop i) [44]) ∧ get a 1 = .str [44] ∧ get a 2 = .int 0 ∧ get a 3 = .int (keys.length - 1 : Nat) ∧ get a 9 = .row S1.length 0 keys.length ∧ get a 10 = .int i ∧
    Own S1.length S1 S' [(.row S1.length 0 keys.length, 1, strs (keys.take i) ++ List.replicate (keys.length - i) [.str []])]) (n := keys.length - 1) ?_ ?_
  · exact ⟨0, rfl, Nat.zero_le _, rfl, rfl, rfl, rfl, rfl, rfl, by simpa [strs] using oB⟩
  rintro n a S' ⟨i, rfl, hi, a0, a1, a2, a3, a9, a10, ho⟩
  have hil : i < keys.length := by omega
  obtain ⟨k, hk, hdr⟩ := hget i hil
  have hkm : k ∈ keys := List.mem_of_getElem? hk
  have hst : strs (keys.take (i + 1)) ++ List.replicate (keys.length - (i + 1)) [AVal.str []] = (strs (keys.take i) ++ List.replicate (keys.length - i) [AVal.str []]).set i [.str k] := by
    have e1 : keys.length - i = (keys.length - (i + 1)) + 1 := by omega
    have e2 : (strs (keys.take i)).length = i := by simp; omega
    rw [List.take_add_one, hk, strs_app, e1, List.replicate_succ, List.set_append_right _ _ (by omega), e2, Nat.sub_self]
    simp [strs]
  obtain ⟨p, S2, t1, t2, t3, t4⟩ := ho.store 0 rfl (j := i) (by rw [List.length_append, strs_len, List.length_take, List.length_replicate]; omega) (x := .str k) rfl rfl
  rw [← hst] at t3
  simp only [List.set_cons_zero] at t3
  by_cases hlt : i < keys.length - 1
  · obtain ⟨k', hk', hdr'⟩ := hget (i + 1) (by omega)
    have hj : Lib.join (keys.drop i) [44] = k ++ 44 :: Lib.join (keys.drop (i + 1)) [44] := by rw [hdr, hdr', join_two]
    have hix : Lib.indexByte (Lib.join (keys.drop i) [44]) 44 = (k.length : Int) := by rw [hj, indexByte_at _ _ (hno k hkm)]
    have hltI : (i : Int) < ((keys.length - 1 : Nat) : Int) := by omega
    have w64' := w64 (w0 := w0) (Lib.join (keys.drop i) [44]) 44 S'
    rw [hix] at w64'
    have hkl : k.length ≤ 1000000 := by
      have h1 := join_take_le keys [44] (i + 1)
      rw [List.take_add_one, hk] at h1
      rw [Option.toList_some, join_snoc] at h1
      split at h1
      · omega
      · simp at h1; omega
    have hw1 : IntKind.i64.wrap ((k.length : Int) + 0) = (k.length : Int) := by rw [wrap64_in (by omega) (by omega)]; omega
    have hw2 := wrapS k.length (by omega)
    rw [hj] at a0 w64'
    simp [f49b0, a0, a1, a2, a3, a9, a10, hltI]
    refine w64'.use ?_
    rintro e S3 ⟨rfl, rfl⟩
    simp at hw1
    have hnn : ¬ (k.length : Int) < 0 := by omega
    have h01 : (0 : Int) ≤ (k.length : Int) + 1 := by omega
    generalize htl : Lib.join (keys.drop (i + 1)) [44] = t at *
    have hle : k.length + 1 ≤ k.length + (t.length + 1) := by omega
    have htk : (k ++ 44 :: t).take (k.length + (t.length + 1)) = k ++ 44 :: t := List.take_of_length_le (by simp)
    have hdp : (k ++ 44 :: t).drop (k.length + 1) = t := by rw [show k ++ 44 :: t = (k ++ [44]) ++ t by simp, List.drop_left' (by simp)]
    simp [hnn, h01, hle, htk, hdp, a0, a1, a2, a3, a9, a10, hw1, hw2, sslcR, bound, t1, t2, wrapS i (by omega)]
    exact ⟨keys.length - 1 - (i + 1), by omega, i + 1, rfl, by omega, htl.symm, by simp, t3⟩
  · have hie : i = keys.length - 1 := by omega
    have hdn : keys.drop (i + 1) = [] := List.drop_eq_nil_iff.2 (by omega)
    have hj : Lib.join (keys.drop i) [44] = k := by rw [hdr, hdn, Lib.join_one]
    have hfin : strs (keys.take (i + 1)) ++ List.replicate (keys.length - (i + 1)) [AVal.str []] = strs keys := by
      rw [List.take_of_length_le (by omega), show keys.length - (i + 1) = 0 by omega]; simp
    rw [hfin] at t3
    obtain ⟨v', u1, u2⟩ := t3.upto 0 rfl (n := keys.length) (by simp)
    have hgeI : ¬ (i : Int) < ((keys.length - 1 : Nat) : Int) := by omega
    have hw : IntKind.i64.wrap ((i : Int) + 1) = (keys.length : Int) := by rw [wrapS i (by omega)]; omega
    simp [-slcR, f49b0, a0, a1, a2, a3, a9, a10, hgeI, t1, t2, hj, hw]
    rw [u1 _ _ (by simp)]
    simp
    simpa [strs, List.take_of_length_le] using u2

theorem w27 {keys : List Bs} (hne : keys ≠ []) (hno : ∀ x ∈ keys, (44 : UInt8) ∉ x) (hl : (Lib.join keys [44]).length ≤ 1000000) (S : Heap) :
    ACalls Tryd.prog (B0 w0) 27 [.str (Lib.join keys [44]), .str [44]] S fun e S' => ∃ u, e = .ret u ∧ Own S.length S S' [(u, 1, strs keys)] := by
  refine fn_sound tryOrd (f27_c _) (by simp [f27]) ?_
  simp [f27, f27m]
  refine (w49 hne hno hl S).use ?_
  rintro e S1 ⟨u, rfl, ho⟩
  simp [ho]

/-- slices.Index of a type's word. -/
theorem w26 {t : Int} (h1 : 1 ≤ t) (h4 : t ≤ 4) (S : Heap) : ACalls Tryd.prog (B0 w0) 26 [.list .full (strs typeWords), .str (wordT t)] S fun e S' => e = .ret (.int t) ∧ S' = S := by
  have ht : t = 1 ∨ t = 2 ∨ t = 3 ∨ t = 4 := by omega
  rcases ht with rfl | rfl | rfl | rfl
  · exact runY (n := 30) (by kernel_rfl) rfl (by kernel_rfl) S
  · exact runY (n := 30) (by kernel_rfl) rfl (by kernel_rfl) S
  · exact runY (n := 30) (by kernel_rfl) rfl (by kernel_rfl) S
  · exact runY (n := 30) (by kernel_rfl) rfl (by kernel_rfl) S

theorem w29n {S : Heap} {id : Nat} {cap : Option Nat} {n : Bs} (hS : S[id]? = some (.cells 1 [[.str n]] cap)) (x : Col) :
    ACalls Tryd.prog (B0 w0) 29 [.agg (colC x), .ptr id 0 0] S fun e S' => e = .ret (.bool (decide (x.name = n))) ∧ S' = S := by
  refine ACalls.close (R := fun e S' => e = .ret (.bool (decide (x.name = n))) ∧ S'.take S.length = S) ?_ ?_
  rotate_left 1
  · rintro e S' ⟨rfl, ht⟩
    exact .flat ht rfl ⟨rfl, rfl⟩
  have hlt := lt_of_some hS
  have hS2 : (S ++ [AObj.cells 3 [colC x] (some 1)])[id]? = some (.cells 1 [[.str n]] cap) := by rw [List.getElem?_append_left hlt]; exact hS
  refine fn_sound tryOrd (f29_c _) (by simp [f29]) ?_
  simp only [colC] at hS2 ⊢
  simp [f29, f29m, hS2]

/-- The place of a column's name. -/
theorem w28n {S : Heap} {id : Nat} {cap : Option Nat} {n : Bs} (hS : S[id]? = some (.cells 1 [[.str n]] cap)) {v : AVal} {cs : List Col} (hv : Rk 3 S v (colsC cs)) (hl : cs.length ≤ 4611686018427387900)
    {j : Nat} (hj : j < cs.length) (hn : cs[j].name = n) (hb : ∀ i (h : i < j), cs[i].name ≠ n) :
    ACalls Tryd.prog (B0 w0) 28 [v, .clo (.func 29) [] [.ptr id 0 0]] S fun e S' => e = .ret (.int j) ∧ S' = S := by
  refine fn_sound tryOrd (f28_c _) (by simp [f28]) ?_
  have hlen := hv.lenR
  simp at hlen
  simp [f28, f28m, hlen]
  refine mwp_loop (I := fun m a S' => ∃ i : Nat, m = j - i ∧ i ≤ j ∧ get a 0 = v ∧ get a 1 = .clo (.func 29) [] [.ptr id 0 0] ∧ get a 7 = .int cs.length ∧ get a 8 = .int i ∧ S' = S) (n := j) ?_ ?_
  · exact ⟨0, rfl, Nat.zero_le _, rfl, rfl, rfl, rfl, rfl⟩
  rintro m a S' ⟨i, rfl, hi, a0, a1, a7, a8, rfl⟩
  have hlt : i < cs.length := by omega
  obtain ⟨p, q1, q2, _⟩ := hv.col hlt
  have w29' := w29n (w0 := w0) hS cs[i]
  simp [f28b0, a0, a1, a7, a8, hlt, q1, q2]
  refine w29'.use ?_
  rintro e S1 ⟨rfl, rfl⟩
  by_cases hij : i = j
  · subst hij
    simp [hn, a0, a1, a7, a8]
  · have hx : ¬ cs[i].name = n := hb i (by omega)
    simp [hx, a0, a1, a7, a8, wrapS i (by omega)]
    exact ⟨j - (i + 1), by omega, i + 1, rfl, by omega, by simp⟩
end Go.Abs
set_option linter.unusedSimpArgs false
set_option linter.unusedVariables false
namespace Go.Abs
open Go Go.RowKit Go.Proofs Go.Lx
variable {w0 : World}

abbrev Ent := AVal × Nat × List (List AVal)
def apartE (x y : Ent) : Prop := ∀ id o l o' l', x.1 = .row id o l → y.1 = .row id o' l' → False
theorem apartE.symm {x y : Ent} (h : apartE x y) : apartE y x := fun id o l o' l' h1 h2 => h id o' l' o l h2 h1

section
variable {N : Nat} {S0 S : Heap} {L L' : List Ent}
theorem own_iff : Own N S0 S L ↔ N ≤ S.length ∧ (∀ j, j < N → S[j]? = S0[j]?) ∧ (∀ x ∈ L, Ap N x.2.1 S x.1 x.2.2) ∧ L.Pairwise apartE := by
  constructor
  · intro h
    refine ⟨h.le, h.low, fun x hx => ?_, ?_⟩
    · obtain ⟨i, hi, rfl⟩ := List.getElem_of_mem hx
      exact h.ap i _ _ _ (List.getElem?_eq_getElem hi)
    · rw [List.pairwise_iff_getElem]
      intro i j hi hj hij id o l o' l' h1 h2
      have e1 : L[i]? = some (.row id o l, L[i].2.1, L[i].2.2) := by rw [List.getElem?_eq_getElem hi, ← h1]
      have e2 : L[j]? = some (.row id o' l', L[j].2.1, L[j].2.2) := by rw [List.getElem?_eq_getElem hj, ← h2]
      have := h.sep i j id o l o' l' _ _ _ _ e1 e2
      omega
  · rintro ⟨h1, h2, h3, h4⟩
    refine ⟨h1, h2, fun i v k es hi => h3 _ (List.mem_of_getElem? hi), fun i j id o l o' l' k es k' es' hi hj => ?_⟩
    rw [List.pairwise_iff_getElem] at h4
    have hi' : i < L.length := (List.getElem?_eq_some_iff.1 hi).1
    have hj' : j < L.length := (List.getElem?_eq_some_iff.1 hj).1
    have e1 := (List.getElem?_eq_some_iff.1 hi).2
    have e2 := (List.getElem?_eq_some_iff.1 hj).2
    rcases Nat.lt_trichotomy i j with h | h | h
    · exact (h4 i j hi' hj' h id o l o' l' (by rw [e1]) (by rw [e2])).elim
    · exact h
    · exact (h4 j i hj' hi' h id o' l' o l (by rw [e2]) (by rw [e1])).elim
theorem Own.perm (h : Own N S0 S L) (hp : L.Perm L') : Own N S0 S L' := by
  rw [own_iff] at h ⊢
  exact ⟨h.1, h.2.1, fun x hx => h.2.2.1 x (hp.mem_iff.2 hx), (hp.pairwise_iff apartE.symm).1 h.2.2.2⟩
theorem Own.sub (h : Own N S0 S L) (hp : L'.Sublist L) : Own N S0 S L' := by
  rw [own_iff] at h ⊢
  exact ⟨h.1, h.2.1, fun x hx => h.2.2.1 x (hp.subset hx), h.2.2.2.sublist hp⟩

/-- A whole element is written. -/
theorem Own.storeE (h : Own N S0 S L) (i : Nat) {v : AVal} {k : Nat} {es : List (List AVal)} (hi : L[i]? = some (v, k, es)) {j : Nat} (hj : j < es.length) (hk : (es.getD j []).length = k) {c : List AVal} (hc : c.length = k) (h1 : c.all AVal.one = true) :
    ∃ p S', iaddrR k S v (.int j) = .ok true p S ∧ storeR true k S p (.agg c) = .ok true .undef S' ∧ Own N S0 S' (L.set i (v, k, es.set j c)) ∧ S'.length = S.length := by
  have hap := h.ap i v k es hi
  cases hap with
  | none fl hf => simp at hj
  | row id off len es0 cap hN hS hl =>
    have hlen : ((es0.drop off).take len).length = len := by simp; omega
    rw [hlen] at hj
    have hlt : off + j < es0.length := by omega
    refine ⟨.ptr id (off + j) 0, S.set id (.cells k (es0.set (off + j) c) cap), ?_, ?_, ?_, by simp⟩
    · have e1 : ((es0.drop off).take len).getD j [] = es0.getD (off + j) [] := by
        rw [getD_eq _ _ _ (by omega), getD_eq _ _ _ (by omega)]; simp
      simp [hS]; omega
    · simp only [storeR, cellsOf, hS, if_true]
      simp [hc, h1, hlt]
    · refine h.turn hi (by simp) (fun q hq hne => by rw [List.getElem?_set_ne (fun e => hne off len (by rw [e]))]) ?_ (fun id' o l e => .inr ⟨o, l, e⟩)
      have := Ap.row (N := N) (k := k) (S := S.set id (.cells k (es0.set (off + j) c) cap)) id off len (es0.set (off + j) c) cap hN (by rw [List.getElem?_set_self (lt_of_some hS)]) (by simpa using hl)
      have e : ((es0.set (off + j) c).drop off).take len = ((es0.drop off).take len).set j c := by
        rw [List.drop_set, if_neg (by omega), Nat.add_sub_cancel_left, List.take_set]
      rwa [e] at this
end

/-- The elements copied so far. -/
def In19 (xs : List Idx) (es' : List (List AVal)) (inner : List Ent) : Prop :=
  es'.length = xs.length ∧ inner.length = xs.length ∧ ∀ j (h : j < xs.length), ∃ w, inner[j]? = some (w, 1, ints xs[j].cols) ∧ es'.getD j [] = [.str xs[j].name, w, .bool xs[j].uniq] ∧ w.slc = true
theorem In19.idxs {S' : Heap} {N : Nat} {S0 : Heap} {L0 : List Ent} {xs : List Idx} {es' : List (List AVal)} {inner : List Ent} (ho : Own N S0 S' (L0 ++ inner)) (h : In19 xs es' inner) : IdxsV S' xs es' := by
  obtain ⟨n1, n2, n3⟩ := h
  refine ⟨n1, fun j hj => ?_⟩
  obtain ⟨w, h1, h2, h3⟩ := n3 j hj
  refine ⟨w, h2, ⟨?_, fun _ => h3⟩⟩
  have : (L0 ++ inner)[L0.length + j]? = some (w, 1, ints xs[j].cols) := by
    rw [List.getElem?_append_right (by omega), Nat.add_sub_cancel_left]; exact h1
  exact ho.rk _ this
theorem In19.snoc {xs : List Idx} {es' : List (List AVal)} {inner : List Ent} (h : In19 xs es' inner) (x : Idx) (w : AVal) (hw : w.slc = true) :
    In19 (xs ++ [x]) (es' ++ [[.str x.name, w, .bool x.uniq]]) (inner ++ [(w, 1, ints x.cols)]) := by
  obtain ⟨n1, n2, n3⟩ := h
  refine ⟨by simp [n1], by simp [n2], fun j hj => ?_⟩
  simp only [List.length_append, List.length_singleton] at hj
  rcases Nat.lt_or_ge j xs.length with h' | h'
  · obtain ⟨w', h1, h2, h3⟩ := n3 j h'
    refine ⟨w', ?_, ?_, h3⟩
    · rw [List.getElem?_append_left (by omega), h1, List.getElem_append_left h']
    · rw [List.getElem_append_left h', getD_eq _ _ _ (by simp; omega), List.getElem_append_left (by omega), ← getD_eq _ _ _ (by omega)]; exact h2
  · have hje : j = xs.length := by omega
    subst hje
    refine ⟨w, ?_, ?_, hw⟩
    · rw [List.getElem?_append_right (by omega)]; simp [n2]
    · rw [getD_eq _ _ _ (by simp; omega), List.getElem_append_right (by omega)]; simp [n1]

/-! ### Columns, place by place -/
def zC : List AVal := [.str [], .int 0, .bool false]
def colAt (cs : List Col) (j : Nat) : Col := cs.getD j ⟨[], 0, false⟩
theorem colAt_get (cs : List Col) (j : Nat) (h : j < cs.length) : colAt cs j = cs[j] := getD_eq _ _ _ h
def fillC (cs : List Col) (ps : List Nat) : List (List AVal) := (List.range cs.length).map fun j => if j ∈ ps then colC (colAt cs j) else zC
@[simp] theorem fillC_len (cs : List Col) (ps : List Nat) : (fillC cs ps).length = cs.length := by simp [fillC]
theorem fillC_get (cs : List Col) (ps : List Nat) (j : Nat) (h : j < cs.length) : (fillC cs ps).getD j [] = if j ∈ ps then colC (colAt cs j) else zC := by
  rw [getD_eq _ _ _ (by simpa using h)]; simp [fillC]
theorem fillC_nil (cs : List Col) : fillC cs [] = List.replicate cs.length zC := by
  apply List.ext_getElem
  · simp
  · intro i h1 h2; simp [fillC]
theorem fillC_snoc (cs : List Col) (ps : List Nat) (j : Nat) (h : j < cs.length) : fillC cs (ps ++ [j]) = (fillC cs ps).set j (colC (colAt cs j)) := by
  apply List.ext_getElem
  · simp
  · intro i h1 h2
    simp only [fillC_len] at h1
    by_cases hij : j = i
    · subst hij; simp [fillC]
    · rw [List.getElem_set_ne hij]
      have : ¬ i = j := fun e => hij e.symm
      simp [fillC, this]
theorem fillC_all (cs : List Col) (ps : List Nat) (h : ∀ j, j < cs.length → j ∈ ps) : fillC cs ps = colsC cs := by
  apply List.ext_getElem
  · simp
  · intro i h1 h2
    simp only [fillC_len] at h1
    simp [fillC, h i h1, colsC, colAt, h1]
end Go.Abs
set_option linter.unusedSimpArgs false
set_option linter.unusedVariables false
namespace Go.Abs
open Go Go.RowKit Go.Proofs Go.Lx
variable {w0 : World}

theorem colRow_cells (tn : Bs) (j : Nat) (c : Col) : valsC (colRow tn j c) = [[.int 4, .int 0, .str tn], [.int 2, .int j, .str []], [.int 4, .int 0, .str c.name], [.int 4, .int 0, .str (wordT c.type)], [.int 1, .int (if c.req then 1 else 0), .str []]] := rfl
def ownRows (T : Tbl) (ps : List Nat) : List (List Val) := ps.map fun j => colRow T.name j (colAt T.cols j)
@[simp] theorem ownRows_len (T : Tbl) (ps : List Nat) : (ownRows T ps).length = ps.length := by simp [ownRows]

/-- What the loop has. -/
def L9a (T : Tbl) (b8 : Nat) (u9 vc : AVal) (ps done : List Nat) (LX : List Ent) : List Ent :=
  (.row b8 0 1, 3, [[.str T.name, vc, .list .nil []]]) :: (u9, 1, rowsC (ownRows T ps)) :: (vc, 3, fillC T.cols done) :: LX

set_option maxHeartbeats 4000000 in
theorem fill9 {N : Nat} {S0 : Heap} {T : Tbl} (hg : GoodT T) (b8 : Nat) {ps : List Nat} (hd : ps.Nodup) (hb : ∀ p ∈ ps, p < T.cols.length) (hlen : ps.length = T.cols.length) {LX : List Ent} {u9 vc x2 x3 x6 : AVal} {Q : AExit → Tmps → Heap → Prop} {a : Tmps} {S1 : Heap}
    (a2 : get a 2 = x2) (a3 : get a 3 = x3) (a6 : get a 6 = x6) (a8 : get a 8 = .ptr b8 0 0) (a9 : get a 9 = u9) (a40 : get a 40 = u9) (a41 : get a 41 = .int T.cols.length) (a42 : get a 42 = .int 0)
    (ho : Own N S0 S1 (L9a T b8 u9 vc ps [] LX))
    (hQ : ∀ a' S', get a' 2 = x2 → get a' 3 = x3 → get a' 6 = x6 → get a' 8 = .ptr b8 0 0 → Own N S0 S' (L9a T b8 u9 vc ps ps LX) → Q (.exit 0) a' S') :
    mwp (ACalls Tryd.prog (B0 w0)) (.loop (f9b0 fun _ => .top)) Q a S1 := by
  refine mwp_loop (I := fun n a S' => ∃ i : Nat, n = ps.length - i ∧ i ≤ ps.length ∧ get a 2 = x2 ∧ get a 3 = x3 ∧ get a 6 = x6 ∧ get a 8 = .ptr b8 0 0 ∧ get a 9 = u9 ∧ get a 40 = u9 ∧ get a 41 = .int T.cols.length ∧ get a 42 = .int i ∧
    Own N S0 S' (L9a T b8 u9 vc ps (ps.take i) LX)) (n := ps.length) ⟨0, rfl, Nat.zero_le _, a2, a3, a6, a8, a9, a40, a41, a42, ho⟩ ?_
  clear a2 a3 a6 a8 a9 a40 a41 a42 ho
  rintro n a S' ⟨i, rfl, hile, a2, a3, a6, a8, a9, a40, a41, a42, ho⟩
  by_cases hlt : i < ps.length
  · have h16 := hg.n16
    have hpm : ps[i] ∈ ps := List.getElem_mem hlt
    have hpn := hb _ hpm
    have hnot : ps[i] ∉ ps.take i := by
      intro hm
      obtain ⟨k, hk, he⟩ := List.mem_take_iff_getElem.1 hm
      exact (List.pairwise_iff_getElem.1 hd) k i (by omega) hlt (by omega) he
    have hsn := fillC_snoc T.cols (ps.take i) ps[i] hpn
    have htk : ps.take (i + 1) = ps.take i ++ [ps[i]] := by rw [List.take_add_one, List.getElem?_eq_getElem hlt]; rfl
    rw [← htk] at hsn
    have hfg := fillC_get T.cols (ps.take i) ps[i] hpn
    rw [if_neg hnot] at hfg
    have hrg : (rowsC (ownRows T ps)).getD i [] = rowC (colRow T.name ps[i] (colAt T.cols ps[i])) := by
      rw [rowsC_get _ _ (by simpa using hlt)]; simp [ownRows]
    have hty := hg.ty (colAt T.cols ps[i]) (by rw [colAt_get _ _ hpn]; exact List.getElem_mem hpn)
    obtain ⟨p, q1, q2, _⟩ := (ho.rk 1 rfl).elem (i := i) (by simpa using hlt) (by rw [hrg]; rfl)
    have q3 := q2 false 1 (Nat.le_refl _)
    rw [hrg, rowC, colRow_cells] at q3
    simp at q3
    clear q2
    have hlu := (ho.rk 1 rfl).lenR
    simp only [rowsC_len, ownRows_len] at hlu
    rw [hlen] at hlu
    obtain ⟨r8, c8, h8⟩ := ho.boxget (i := 0) (b := b8) rfl
    obtain ⟨pe, t1, _, t3⟩ := (ho.rk 2 rfl).elem (i := ps[i]) (by simpa using hpn) (by rw [hfg]; rfl)
    obtain ⟨pe1, t4, t5⟩ := t3 1
    have t6 := t5 false 1 (by omega)
    rw [hfg] at t6
    simp [zC] at t6
    clear t5 t3
    obtain ⟨p2, S2, u1, u2, u3, _⟩ := ho.storeE 2 rfl (j := ps[i]) (by simpa using hpn) (by rw [hfg]; rfl) (c := colC (colAt T.cols ps[i])) rfl rfl
    rw [← hsn] at u3
    obtain rfl : p2 = pe := by have := u1.symm.trans t1; simpa using this
    have hnx : Own N S0 S2 (L9a T b8 u9 vc ps (ps.take (i + 1)) LX) := u3
    simp only [colC] at u2
    generalize colAt T.cols ps[i] = c at *
    generalize ps[i] = j at *
    have w18' := w18 (w0 := w0) S'
    have w26' := w26 (w0 := w0) (t := c.type) (by omega) (by omega) S'
    have hltI : (i : Int) < (T.cols.length : Int) := by omega
    have hj0 : ¬ (j : Int) < 0 := by omega
    have hjn : ¬ (T.cols.length : Int) ≤ (j : Int) := by omega
    have ht1 : ¬ c.type < 1 := by omega
    have hreq : ((if c.req = true then (1 : Int) else 0) == 1) = c.req := by cases c.req <;> rfl
    simp [f9b0, a2, a3, a6, a8, a9, a40, a41, a42, hltI, q1, q3]
    refine w18'.use ?_
    rintro e S3 ⟨rfl, rfl⟩
    simp [a2, a3, a6, a8, a9, a40, a41, a42]
    refine w26'.use ?_
    rintro e S3 ⟨rfl, rfl⟩
    simp [a2, a3, a6, a8, a9, a40, a41, a42, hj0, hjn, hlu, h8, t1, t4, t6, ht1, hreq, u2, wrapS i (by omega)]
    exact ⟨ps.length - (i + 1), by omega, i + 1, rfl, by omega, by simp, hnx⟩
  · have hie : i = ps.length := by omega
    subst hie
    rw [List.take_length] at ho
    have hge : ¬ (ps.length : Int) < (T.cols.length : Int) := by omega
    simp [f9b0, a2, a3, a6, a8, a9, a40, a41, a42, hge]
    exact hQ _ _ (by simp [a2]) (by simp [a3]) (by simp [a6]) (by simp [a8]) ho
end Go.Abs
set_option linter.unusedSimpArgs false
set_option linter.unusedVariables false
namespace Go.Abs
open Go Go.RowKit Go.Proofs Go.Lx
variable {w0 : World}

/-! ### What a right description's names are -/
theorem colsGo_names : ∀ (cs pre : List Col), colsGo pre cs = 0 → ∀ j (h : j < cs.length), nameB cs[j].name = true ∧ cs[j].name ∉ (pre ++ cs.take j).map (·.name)
  | [], pre, _, j, h => absurd h (Nat.not_lt_zero j)
  | x :: r, pre, hz, j, h => by
    unfold colsGo at hz
    split at hz
    · cases hz
    rename_i h1
    split at hz
    · cases hz
    split at hz
    · cases hz
    rename_i h3
    cases j with
    | zero => exact ⟨by simpa using h1, by simpa [hasN] using h3⟩
    | succ j =>
      have := colsGo_names r (pre ++ [x]) hz j (by simpa using h)
      simpa [List.append_assoc] using this
theorem nameB_no {x : Bs} (h : nameB x = true) : (44 : UInt8) ∉ x ∧ x.length ≤ 32 := by
  unfold nameB at h
  simp only [Bool.and_eq_true, decide_eq_true_eq, List.all_eq_true] at h
  refine ⟨fun hm => ?_, h.1.1.1.2⟩
  have := (h.1.2 44 hm).1
  revert this
  decide
structure NamesT (T : Tbl) : Prop where
  good : GoodT T
  nm : nameB T.name = true
  cn : ∀ j (h : j < T.cols.length), nameB T.cols[j].name = true
  cd : ∀ j (h : j < T.cols.length) i (hi : i < j), T.cols[i].name ≠ T.cols[j].name
  xn : ∀ x ∈ T.idxs, nameB x.name = true
theorem idxGo_names {n : Nat} : ∀ (xs pre : List Idx), idxGo n pre xs = 0 → ∀ x ∈ xs, nameB x.name = true
  | [], pre, _, c, h => by simp at h
  | x :: r, pre, h, c, hc => by
    unfold idxGo at h
    split at h
    rotate_left 1
    · rename_i hne; exact absurd h hne
    rename_i h0
    rcases List.mem_cons.1 hc with rfl | hc
    · unfold idxOne at h0
      split at h0
      · cases h0
      · rename_i h1; simpa using h1
    · exact idxGo_names r _ h c hc
theorem namesT {T : Tbl} (h : checkT T = 0) : NamesT T := by
  have hg := goodT h
  unfold checkT at h
  split at h
  · cases h
  rename_i hn
  split at h
  rotate_left 1
  · rename_i hne; exact absurd h hne
  rename_i h0
  unfold colsErr at h0
  split at h0
  · cases h0
  split at h
  · cases h
  have hc := colsGo_names _ _ h0
  refine ⟨hg, by simpa using hn, fun j hj => (hc j hj).1, fun j hj i hi he => (hc j hj).2 ?_, idxGo_names _ _ h⟩
  simp only [List.nil_append]
  exact List.mem_map.2 ⟨T.cols[i], List.mem_take_iff_getElem.2 ⟨i, by omega, rfl⟩, he⟩

/-- What the inner loop has. -/
def L9c (T : Tbl) (x : Idx) (b8 bx : Nat) (vc vi uk xw : AVal) (q : Nat) (LX : List Ent) : List Ent :=
  (xw, 1, ints (x.cols.take q)) :: (uk, 1, strs (pickN T.cols x.cols)) :: (.row bx 0 1, 3, [[.str x.name, xw, .bool x.uniq]]) :: (.row b8 0 1, 3, [[.str T.name, vc, vi]]) :: (vc, 3, colsC T.cols) :: LX

set_option maxHeartbeats 4000000 in
theorem keys9 {N : Nat} {S0 : Heap} {T : Tbl} (hT : NamesT T) {x : Idx} (hx : x ∈ T.idxs) (b8 bx : Nat) {vc vi uk : AVal} {LX : List Ent} {x2 x3 x6 x94 x95 x96 : AVal} {Q : AExit → Tmps → Heap → Prop} {a : Tmps} {S1 : Heap}
    (a2 : get a 2 = x2) (a3 : get a 3 = x3) (a6 : get a 6 = x6) (a8 : get a 8 = .ptr b8 0 0) (a16 : get a 16 = .ptr bx 0 0) (a94 : get a 94 = x94) (a95 : get a 95 = x95) (a96 : get a 96 = x96)
    (a120 : get a 120 = uk) (a121 : get a 121 = .int (pickN T.cols x.cols).length) (a122 : get a 122 = .int 0) (ho : Own N S0 S1 (L9c T x b8 bx vc vi uk (.list .nil []) 0 LX))
    (hQ : ∀ a' S' xw, get a' 2 = x2 → get a' 3 = x3 → get a' 6 = x6 → get a' 8 = .ptr b8 0 0 → get a' 16 = .ptr bx 0 0 → get a' 94 = x94 → get a' 95 = x95 → get a' 96 = x96 → Own N S0 S' (L9c T x b8 bx vc vi uk xw x.cols.length LX) → Q (.exit 4) a' S') :
    mwp (ACalls Tryd.prog (B0 w0)) (.loop (f9b1 fun _ => .top)) Q a S1 := by
  have hg := hT.good
  obtain ⟨hr, hx4, hx1⟩ := hg.ix x hx
  have hpk := pickN_all _ _ hr
  have hpl : (pickN T.cols x.cols).length = x.cols.length := by rw [hpk]; simp
  refine mwp_loop (I := fun n a S' => ∃ (q : Nat) (xw : AVal), n = x.cols.length - q ∧ q ≤ x.cols.length ∧ get a 2 = x2 ∧ get a 3 = x3 ∧ get a 6 = x6 ∧ get a 8 = .ptr b8 0 0 ∧ get a 16 = .ptr bx 0 0 ∧ get a 94 = x94 ∧ get a 95 = x95 ∧ get a 96 = x96 ∧
    get a 120 = uk ∧ get a 121 = .int (pickN T.cols x.cols).length ∧ get a 122 = .int q ∧ Own N S0 S' (L9c T x b8 bx vc vi uk xw q LX)) (n := x.cols.length) ⟨0, _, rfl, Nat.zero_le _, a2, a3, a6, a8, a16, a94, a95, a96, a120, a121, a122, ho⟩ ?_
  clear a2 a3 a6 a8 a16 a94 a95 a96 a120 a121 a122 ho
  rintro n a S' ⟨q, xw, rfl, hq, a2, a3, a6, a8, a16, a94, a95, a96, a120, a121, a122, ho⟩
  rw [hpl] at a121
  by_cases hlt : q < x.cols.length
  · have h16 := hg.n16
    have hqr := hr x.cols[q] (List.getElem_mem hlt)
    have htk : ints (x.cols.take (q + 1)) = ints (x.cols.take q) ++ [[.int x.cols[q]]] := by
      rw [List.take_add_one, List.getElem?_eq_getElem hlt]; unfold ints; rw [List.map_append]; rfl
    have hkq : ∀ h, (pickN T.cols x.cols)[q]'h = nameAt T.cols x.cols[q] := fun h => by simp [hpk]
    obtain ⟨j, hj⟩ : ∃ j : Nat, x.cols[q] = j := ⟨x.cols[q].toNat, by omega⟩
    rw [hj] at hqr htk hkq
    have hjn : j < T.cols.length := by omega
    have hna : nameAt T.cols j = T.cols[j].name := by rw [nameAt, Int.toNat_natCast, getD_eq _ _ _ hjn]
    rw [hna] at hkq
    have hlp : q < (pickN T.cols x.cols).length := by omega
    obtain ⟨p, q1, q2, _⟩ := (ho.rk 1 rfl).elem (i := q) (by simpa using hlp) (by rw [strs_get _ _ hlp]; rfl)
    have q3 := q2 false 1 (Nat.le_refl _)
    rw [strs_get _ _ hlp, hkq] at q3
    simp at q3
    have hoB := ho.more [.cells 1 [[.str T.cols[j].name]] (some 1)]
    obtain ⟨r8, c8, h8⟩ := hoB.boxget (i := 3) (b := b8) rfl
    obtain ⟨rx, cx, hbx⟩ := hoB.boxget (i := 2) (b := bx) rfl
    have w28' := w28n (w0 := w0) (S := S' ++ [.cells 1 [[.str T.cols[j].name]] (some 1)]) (id := S'.length) (cap := some 1) (n := T.cols[j].name) (by simp) (v := vc) (cs := T.cols) (hoB.rk 4 rfl) (by omega) hjn rfl (hT.cd j hjn)
    obtain ⟨S2, happ, ho2, _⟩ := hoB.app 0 rfl (y := .list .full [[.int j]]) (ys := [[.int j]]) (bytes := 8) rfl (by simp) (by decide) (by simp; omega) (by simp; omega)
    rw [← htk] at ho2
    obtain ⟨v4, hv4⟩ : ∃ v4, v4 = AVal.row (S' ++ [AObj.cells 1 [[.str T.cols[j].name]] (some 1)]).length 0 ((ints (x.cols.take q)).length + 1) := ⟨_, rfl⟩
    simp only [List.length_singleton, ← hv4] at happ ho2
    obtain ⟨r2, c2, hb2⟩ := ho2.boxget (i := 2) (b := bx) rfl
    have ho3 := ho2.boxset (i := 2) rfl hb2 [.str x.name, v4, .bool x.uniq]
    have hnx : Own N S0 (S2.set bx (.cells 3 ([.str x.name, v4, .bool x.uniq] :: r2) c2)) (L9c T x b8 bx vc vi uk v4 (q + 1) LX) := ho3
    have hv4o : v4.one = true := by rw [hv4]; rfl
    have hv4c : cellsOf false v4 = some [v4] := by rw [hv4]; rfl
    have hltI : (q : Int) < (x.cols.length : Int) := by omega
    have hj0 : ¬ (j : Int) < 0 := by omega
    simp [-appendR, f9b1, a2, a3, a6, a8, a16, a94, a95, a96, a120, a121, a122, hltI, q1, q3, h8]
    refine w28'.use ?_
    rintro e S3 ⟨rfl, rfl⟩
    simp [-appendR, a2, a3, a6, a8, a16, a94, a95, a96, a120, a121, a122, hj0, hbx, happ, hb2, hv4o, hv4c, wrapS q (by omega)]
    exact ⟨x.cols.length - (q + 1), by omega, q + 1, rfl, by omega, by omega, by simp, v4, hnx⟩
  · have hie : q = x.cols.length := by omega
    subst hie
    have hge : ¬ (x.cols.length : Int) < (x.cols.length : Int) := by omega
    simp [f9b1, a2, a3, a6, a8, a16, a94, a95, a96, a120, a121, a122, hge]
    exact hQ _ _ _ (by simp [a2]) (by simp [a3]) (by simp [a6]) (by simp [a8]) (by simp [a16]) (by simp [a94]) (by simp [a95]) (by simp [a96]) ho
end Go.Abs
set_option linter.unusedSimpArgs false
set_option linter.unusedVariables false
namespace Go.Abs
open Go Go.RowKit Go.Proofs Go.Lx
variable {w0 : World}

theorem idxVals_cells (T : Tbl) (x : Idx) : valsC (idxVals T x) = [[.int 4, .int 0, .str x.name], [.int 4, .int 0, .str T.name], [.int 1, .int (if x.uniq then 1 else 0), .str []], [.int 4, .int 0, .str (Lib.join (pickN T.cols x.cols) [44])]] := rfl
def tagI (r : List Val) : Bs := (r.getD 1 ⟨0, 0, []⟩).text
theorem tagI_idx (T : Tbl) (x : Idx) : tagI (idxVals T x) = T.name := rfl
theorem filter_step {α : Type} (p : α → Bool) (X : List α) (m : Nat) (h : m < X.length) : (X.take (m + 1)).filter p = (X.take m).filter p ++ (if p X[m] then [X[m]] else []) ∧ (p X[m] = true → (X.filter p)[((X.take m).filter p).length]? = some X[m]) := by
  have e1 : X.take (m + 1) = X.take m ++ [X[m]] := by rw [List.take_add_one, List.getElem?_eq_getElem h]; rfl
  refine ⟨?_, fun hp => ?_⟩
  · rw [e1, List.filter_append]
    by_cases hp : p X[m] = true <;> simp [hp]
  · have e2 : X.filter p = (X.take m).filter p ++ (X[m] :: (X.drop (m + 1)).filter p) := by
      conv => lhs; rw [← List.take_append_drop m X, List.filter_append, List.drop_eq_getElem_cons h, List.filter_cons, if_pos hp]
    rw [e2, List.getElem?_append_right (Nat.le_refl _)]
    simp
theorem join_le {B : Nat} (xs : List Bs) (x : UInt8) (h : ∀ s ∈ xs, s.length ≤ B) : (Lib.join xs [x]).length ≤ xs.length * (B + 1) := by
  cases xs with
  | nil => simp [Lib.join_nil]
  | cons y r =>
    have hl : ∀ l : List Bs, (∀ s ∈ l, s.length ≤ B) → Lib.lens l ≤ l.length * B := fun l => by
      induction l with
      | nil => intro _; simp [Lib.lens]
      | cons z q ih =>
        intro hz
        have h1 := ih fun s hs => hz s (List.mem_cons_of_mem _ hs)
        have h2 := hz z (List.mem_cons_self ..)
        simp only [Lib.lens, List.map_cons, List.sum_cons, List.length_cons] at h1 ⊢
        rw [Nat.add_mul, Nat.one_mul]; omega
    have h1 := hl r fun s hs => h s (List.mem_cons_of_mem _ hs)
    have h2 := h y (List.mem_cons_self ..)
    rw [Lib.join_cons, List.length_append, Lib.joinTail_length]
    simp only [List.length_cons, List.length_nil, Nat.zero_add, Nat.one_mul, Nat.mul_add, Nat.add_mul, Nat.mul_one]
    omega
theorem perm3 {α : Type} (A : List α) (x y z : α) : (((A ++ [x]) ++ [y]) ++ [z]).Perm (z :: y :: x :: A) :=
  (List.perm_append_singleton z _).trans (.cons z ((List.perm_append_singleton y _).trans (.cons y (List.perm_append_singleton x _))))

/-- What the loop has. -/
def L9b (T : Tbl) (b8 b3 : Nat) (vc vi : AVal) (es' : List (List AVal)) (inner LX : List Ent) : List Ent :=
  (.row b8 0 1, 3, [[.str T.name, vc, vi]]) :: (vc, 3, colsC T.cols) :: (vi, 3, es') :: (.row b3 0 1, 1, [[.str T.name]]) :: (LX ++ inner)

set_option maxHeartbeats 8000000 in
theorem idxs9 {N : Nat} {S0 : Heap} {T : Tbl} (hT : NamesT T) (b8 b3 : Nat) {X : List (List Val)} (hX1 : ∀ r ∈ X, ∃ T' x', r = idxVals T' x') (hX2 : X.filter (fun r => decide (tagI r = T.name)) = T.idxs.map (idxVals T)) (hXl : X.length ≤ 4611686018427387900)
    {vc v2 : AVal} (hv2 : ∀ S', (∀ j, j < N → S'[j]? = S0[j]?) → Rk 1 S' v2 (rowsC X)) {LX : List Ent} {x6 : AVal} {Q : AExit → Tmps → Heap → Prop} {a : Tmps} {S1 : Heap}
    (a3 : get a 3 = .ptr b3 0 0) (a6 : get a 6 = x6) (a8 : get a 8 = .ptr b8 0 0) (a94 : get a 94 = v2) (a95 : get a 95 = .int X.length) (a96 : get a 96 = .int 0) (ho : Own N S0 S1 (L9b T b8 b3 vc (.list .nil []) [] [] LX))
    (hQ : ∀ a' S' vi es' inner, get a' 6 = x6 → get a' 8 = .ptr b8 0 0 → Own N S0 S' (L9b T b8 b3 vc vi es' inner LX) → In19 T.idxs es' inner → Q (.exit 2) a' S') :
    mwp (ACalls Tryd.prog (B0 w0)) (.loop (f9b2 fun _ => .top)) Q a S1 := by
  have hg := hT.good
  refine mwp_loop (I := fun n a S' => ∃ (m : Nat) (vi : AVal) (es' : List (List AVal)) (inner : List Ent), n = X.length - m ∧ m ≤ X.length ∧ get a 3 = .ptr b3 0 0 ∧ get a 6 = x6 ∧ get a 8 = .ptr b8 0 0 ∧ get a 94 = v2 ∧ get a 95 = .int X.length ∧ get a 96 = .int m ∧
    Own N S0 S' (L9b T b8 b3 vc vi es' inner LX) ∧ In19 (T.idxs.take ((X.take m).filter (fun r => decide (tagI r = T.name))).length) es' inner) (n := X.length) ⟨0, _, _, _, rfl, Nat.zero_le _, a3, a6, a8, a94, a95, a96, ho, rfl, rfl, fun j h => by simp at h⟩ ?_
  clear a3 a6 a8 a94 a95 a96 ho
  rintro n a S' ⟨m, vi, es', inner, rfl, hm, a3, a6, a8, a94, a95, a96, ho, hin⟩
  by_cases hlt : m < X.length
  · have hltI : (m : Int) < (X.length : Int) := by omega
    obtain ⟨T', x', hrow⟩ := hX1 X[m] (List.getElem_mem hlt)
    obtain ⟨hf1, hf2⟩ := filter_step (fun r => decide (tagI r = T.name)) X m hlt
    obtain ⟨p, q1, q2, _⟩ := (hv2 S' ho.low).elem (i := m) (by simpa using hlt) (by rw [rowsC_get _ _ hlt]; rfl)
    have q3 := q2 false 1 (Nat.le_refl _)
    rw [rowsC_get _ _ hlt, rowC, hrow] at q3
    simp only [takeAt] at q3
    have q4 := q3
    rw [idxVals_cells] at q4
    simp at q3 q4
    obtain ⟨r3, c3, h3⟩ := ho.boxget (i := 3) (b := b3) rfl
    rw [hrow, tagI_idx] at hf1 hf2
    by_cases hne : T'.name = T.name
    rotate_left 1
    · have hn : decide (T'.name = T.name) = false := decide_eq_false hne
      rw [hn] at hf1
      simp at hf1
      simp [f9b2, a3, a6, a8, a94, a95, a96, hltI, q1, q4, h3, hne, wrapS m (by omega)]
      exact ⟨X.length - (m + 1), by omega, m + 1, rfl, by omega, by simp, vi, es', inner, ho, by rw [hf1]; exact hin⟩
    have hn : decide (T'.name = T.name) = true := decide_eq_true hne
    have hf2 := hf2 hn
    rw [hn, if_pos rfl] at hf1
    rw [hX2] at hf2
    generalize hc : ((X.take m).filter (fun r => decide (tagI r = T.name))).length = c at *
    obtain ⟨x, hxc, hxe⟩ : ∃ x, T.idxs[c]? = some x ∧ idxVals T x = idxVals T' x' := by
      rw [List.getElem?_map] at hf2
      exact Option.map_eq_some_iff.1 hf2
    have hxm : x ∈ T.idxs := List.mem_of_getElem? hxc
    clear q4
    rw [← hxe, idxVals_cells] at q3
    rw [← hxe] at hf1
    obtain ⟨hr, hx4, hx1⟩ := hg.ix x hxm
    have hpk := pickN_all _ _ hr
    have hpl : (pickN T.cols x.cols).length = x.cols.length := by rw [hpk]; simp
    have hkn : ∀ k ∈ pickN T.cols x.cols, (44 : UInt8) ∉ k ∧ k.length ≤ 32 := fun k hk => by
      rw [hpk] at hk
      obtain ⟨cc, hcc, rfl⟩ := List.mem_map.1 hk
      have hcr := hr cc hcc
      have hj : cc.toNat < T.cols.length := by omega
      have := nameB_no (hT.cn cc.toNat hj)
      rw [nameAt, getD_eq _ _ _ hj]; exact this
    have hjl : (Lib.join (pickN T.cols x.cols) [44]).length ≤ 1000000 := by
      have := join_le (B := 32) (pickN T.cols x.cols) 44 fun k hk => (hkn k hk).2
      rw [hpl] at this
      have h5 : x.cols.length * (32 + 1) ≤ 4 * (32 + 1) := Nat.mul_le_mul_right _ hx4
      omega
    have hbx := ho.add 3 [[.str x.name, .list .nil [], .bool x.uniq]] (some 1)
    have w27' := w27 (w0 := w0) (keys := pickN T.cols x.cols) (by intro h; rw [h] at hpl; simp at hpl; omega) (fun k hk => (hkn k hk).1) hjl (S' ++ [.cells 3 [[.str x.name, .list .nil [], .bool x.uniq]] (some 1)])
    have hu : ((if x.uniq = true then (1 : Int) else 0) == 1) = x.uniq := by cases x.uniq <;> rfl
    simp [f9b2, a3, a6, a8, a94, a95, a96, hltI, q1, q3, h3, hne, hu]
    refine w27'.use ?_
    rintro e S3 ⟨uk, rfl, hok⟩
    have hj3 := (hbx.join hok).add0 1 .nil (.inl rfl)
    have hj4 : Own N S0 S3 (L9c T x b8 S'.length vc vi uk (.list .nil []) 0 ((vi, 3, es') :: (.row b3 0 1, 1, [[.str T.name]]) :: (LX ++ inner))) := by
      refine hj3.perm ?_
      exact perm3 (L9b T b8 b3 vc vi es' inner LX) _ _ _
    have hlk := (hj4.rk 1 rfl).lenR
    simp only [strs_len] at hlk
    simp [a3, a6, a8, a94, a95, a96, hlk]
    refine keys9 (x2 := get a 2) (x3 := .ptr b3 0 0) (x6 := x6) (x94 := v2) (x95 := .int X.length) (x96 := .int m) hT hxm b8 S'.length (by simp) (by simp [a3]) (by simp [a6]) (by simp [a8]) (by simp) (by simp [a94]) (by simp [a95]) (by simp [a96]) (by simp) (by simp) (by simp) hj4 ?_
    intro a' S4 xw b2 b3' b6 b8' b16 b94 b95 b96 ho4
    have hxs : ints (x.cols.take x.cols.length) = ints x.cols := by rw [List.take_length]
    have hes : es'.length ≤ 8 := by rw [hin.1, List.length_take]; have := hg.n8; omega
    have hxwo := (ho4.rk 0 rfl).isOne
    have hxwc := cellsOf_one hxwo
    have hxws : xw.slc = true := (ho4.ap 0 _ _ _ rfl).slc (by
      intro h
      have := congrArg List.length h
      simp at this
      rw [this] at hx1; simp at hx1)
    obtain ⟨r16, c16, h16⟩ := ho4.boxget (i := 2) (b := S'.length) rfl
    obtain ⟨r8, c8, h8⟩ := ho4.boxget (i := 3) (b := b8) rfl
    obtain ⟨S5, happ, ho5, _⟩ := ho4.app 5 rfl (y := .list .full [[.str x.name, xw, .bool x.uniq]]) (ys := [[.str x.name, xw, .bool x.uniq]]) (bytes := 48) rfl (by simp) (by decide) (by simp; omega) (by simp; omega)
    obtain ⟨v5, hv5⟩ : ∃ v5, v5 = AVal.row S4.length 0 (es'.length + 1) := ⟨_, rfl⟩
    simp only [List.length_singleton, ← hv5] at happ ho5
    obtain ⟨r85, c85, h85⟩ := ho5.boxget (i := 3) (b := b8) rfl
    have ho6 := ho5.boxset (i := 3) rfl h85 [.str T.name, vc, v5]
    have hv5o : v5.one = true := by rw [hv5]; rfl
    have hv5c : cellsOf false v5 = some [v5] := by rw [hv5]; rfl
    have hin2 : In19 (T.idxs.take (c + 1)) (es' ++ [[.str x.name, xw, .bool x.uniq]]) (inner ++ [(xw, 1, ints x.cols)]) := by
      rw [List.take_add_one, hxc]
      exact hin.snoc x xw hxws
    have hof : Own N S0 (S5.set b8 (.cells 3 ([.str T.name, vc, v5] :: r85) c85)) (L9b T b8 b3 vc v5 (es' ++ [[.str x.name, xw, .bool x.uniq]]) (inner ++ [(xw, 1, ints x.cols)]) LX) := by
      have h1 := ho6.sub (L' := (xw, 1, ints x.cols) :: (L9b T b8 b3 vc v5 (es' ++ [[.str x.name, xw, .bool x.uniq]]) inner LX)) (by
        rw [← hxs]
        exact .cons_cons _ (.cons _ (.cons _ (.refl _))))
      have h2 := h1.perm (List.perm_append_singleton _ _).symm
      simpa [L9b] using h2
    simp [-appendR, b2, b3', b6, b8', b16, b94, b95, b96, h16, h8, hxwo, hxwc, happ, h85, hv5o, hv5c, wrapS m (by omega)]
    refine ⟨X.length - (m + 1), by omega, m + 1, rfl, by omega, by simp, v5, _, _, hof, ?_⟩
    rw [hf1, List.length_append, hc]
    exact hin2
  · have hme : m = X.length := by omega
    subst hme
    have hge : ¬ (X.length : Int) < (X.length : Int) := by omega
    rw [List.take_length, hX2, List.length_map, List.take_length] at hin
    simp [f9b2, a3, a6, a8, a94, a95, a96, hge]
    exact hQ _ _ _ _ _ (by simp [a6]) (by simp [a8]) ho hin
end Go.Abs
set_option linter.unusedSimpArgs false
set_option linter.unusedVariables false
namespace Go.Abs
open Go Go.RowKit Go.Proofs Go.Lx
variable {w0 : World}

def tagC (r : List Val) : Bs := (r.getD 0 ⟨0, 0, []⟩).text
theorem tagC_col (tn : Bs) (i : Nat) (c : Col) : tagC (colRow tn i c) = tn := rfl
/-- Is a row of cells another's? -/
def otherP (n : Bs) : List AVal → Bool
  | [.list _ ([_, _, .str s] :: _)] => !decide (s = n)
  | _ => false
theorem otherP_row (n : Bs) {r : List Val} (h : r ≠ []) : otherP n (rowC r) = !decide (tagC r = n) := by
  match r, h with
  | v :: r, _ => rfl
theorem filter_rows (n : Bs) : ∀ (R : List (List Val)), (∀ r ∈ R, r ≠ []) → (rowsC R).filter (fun e => !otherP n e) = rowsC (R.filter fun r => decide (tagC r = n))
  | [], _ => rfl
  | r :: R, h => by
    have ih := filter_rows n R fun x hx => h x (List.mem_cons_of_mem _ hx)
    have hr := otherP_row n (h r (List.mem_cons_self ..))
    rw [show rowsC (r :: R) = rowC r :: rowsC R from rfl, List.filter_cons, List.filter_cons, hr, ih]
    by_cases hn : tagC r = n <;> simp [hn, rowsC]

/-- Build$1. -/
theorem w25 {S : Heap} {id : Nat} {cap : Option Nat} {n : Bs} (hS : S[id]? = some (.cells 1 [[.str n]] cap)) {r : List Val} (hr : r ≠ []) :
    ACalls Tryd.prog (B0 w0) 25 [.list .full (valsC r), .ptr id 0 0] S fun e S' => e = .ret (.bool (otherP n (rowC r))) ∧ S' = S := by
  match r, hr with
  | v :: r, _ =>
    refine fn_sound tryOrd (f25_c _) (by simp [f25]) ?_
    have hlt : (0 : Int) < ((r.length : Int) + 1) := by omega
    simp [f25, f25m, hS, valsC, valC, hlt]
    simp [rowC, valsC, valC, otherP]

/-- Rows of columns, right ones. -/
def ColRows (R : List (List Val)) : Prop := ∀ r ∈ R, ∃ (tn : Bs) (i : Nat) (c : Col), r = colRow tn i c ∧ tn.length ≤ 200 ∧ c.name.length ≤ 200
def IdxRows (X : List (List Val)) : Prop := ∀ r ∈ X, ∃ (T : Tbl) (x : Idx), r = idxVals T x ∧ T.name.length ≤ 200 ∧ x.name.length ≤ 200 ∧ (Lib.join (pickN T.cols x.cols) [44]).length ≤ 200
theorem wordT_le (t : Int) : (wordT t).length ≤ 4 := by
  by_cases h : 0 ≤ t ∧ t ≤ 4
  · have ht : t = 0 ∨ t = 1 ∨ t = 2 ∨ t = 3 ∨ t = 4 := by omega
    rcases ht with rfl | rfl | rfl | rfl | rfl <;> decide
  · rw [wordT, if_neg h]; simp
theorem ColRows.fits {R} (h : ColRows R) : ∀ r ∈ R, Fits [4, 2, 4, 4, 1] r := fun r hr => by
  obtain ⟨tn, i, c, rfl, h1, h2⟩ := h r hr
  refine ⟨rfl, fun k hk => ?_⟩
  have hk' : k = 0 ∨ k = 1 ∨ k = 2 ∨ k = 3 ∨ k = 4 := by simp [colRow] at hk; omega
  rcases hk' with rfl | rfl | rfl | rfl | rfl
  · exact .text _ h1
  · exact .int _
  · exact .text _ h2
  · exact .text _ (by have := wordT_le c.type; omega)
  · exact .flag _
theorem IdxRows.fits {R} (h : IdxRows R) : ∀ r ∈ R, Fits [4, 4, 1, 4] r := fun r hr => by
  obtain ⟨T, x, rfl, h1, h2, h3⟩ := h r hr
  refine ⟨rfl, fun k hk => ?_⟩
  have hk' : k = 0 ∨ k = 1 ∨ k = 2 ∨ k = 3 := by simp [idxVals] at hk; omega
  rcases hk' with rfl | rfl | rfl | rfl
  · exact .text _ h2
  · exact .text _ h1
  · exact .flag _
  · exact .text _ h3

theorem perm5 {α : Type} (a b c d e : α) : [a, b, c, d, e].Perm [c, d, e, a, b] := List.perm_append_comm (l₁ := [a, b]) (l₂ := [c, d, e])
theorem perm6 {α : Type} (a b c d e f : α) : [a, b, c, d, e, f].Perm [a, c, f, d, e, b] := by
  refine .cons a ?_
  have h1 : [b, c, d, e, f].Perm [c, d, e, f, b] := List.perm_append_comm (l₁ := [b]) (l₂ := [c, d, e, f])
  have h2 : [d, e, f, b].Perm [f, d, e, b] := (List.perm_append_comm (l₁ := [d, e]) (l₂ := [f])).append_right [b]
  exact h1.trans (.cons c h2)

set_option maxHeartbeats 8000000 in
/-- Build. -/
theorem w9b {S : Heap} {T : Tbl} (hck : checkT T = 0) {u v : AVal} {R X : List (List Val)} {ps : List Nat} (hu : Rk 1 S u (rowsC R)) (hun : isNil .slice u = some false) (hv : Rk 1 S v (rowsC X))
    (hR : ColRows R) (hX : IdxRows X) (hRl : R.length * 24 ≤ 140737488355328) (hXl : X.length * 24 ≤ 140737488355328)
    (hR2 : R.filter (fun r => decide (tagC r = T.name)) = ownRows T ps) (hd : ps.Nodup) (hb : ∀ p ∈ ps, p < T.cols.length) (hall : ∀ j, j < T.cols.length → j ∈ ps) (hlen : ps.length = T.cols.length)
    (hX2 : X.filter (fun r => decide (tagI r = T.name)) = T.idxs.map (idxVals T)) :
    ACalls Tryd.prog (B0 w0) 9 [.str T.name, u, v] S fun e S' => ∃ av, e = .ret (.tuple [.agg av, .int 0]) ∧ Ab S S' ∧ TblV S' T av := by
  have hT := namesT hck
  have hg := hT.good
  have h16 := hg.n16
  have oB : Own S.length S (S ++ [AObj.cells 1 [[.str T.name]] (some 1), AObj.cells 3 [[.str [], .list .nil [], .list .nil []]] (some 1), AObj.cells 3 [[.str T.name, .list .nil [], .list .nil []]] (some 1)])
      [(.row S.length 0 1, 1, [[.str T.name]]), (.row (S.length + 1) 0 1, 3, [[.str [], .list .nil [], .list .nil []]]), (.row (S.length + 2) 0 1, 3, [[.str T.name, .list .nil [], .list .nil []]])] := by
    have := (((Own.start S).add 1 [[.str T.name]] (some 1)).add 3 [[.str [], .list .nil [], .list .nil []]] (some 1)).add 3 [[.str T.name, .list .nil [], .list .nil []]] (some 1)
    simpa using this
  have w22a := w22 (w0 := w0) (S := S ++ [AObj.cells 1 [[.str T.name]] (some 1), AObj.cells 3 [[.str [], .list .nil [], .list .nil []]] (some 1)]) (k := 1) (.inl rfl) (hu.more _) (by omega) (by simpa using hR.fits)
  have w22b := w22 (w0 := w0) (S := S ++ [AObj.cells 1 [[.str T.name]] (some 1), AObj.cells 3 [[.str [], .list .nil [], .list .nil []]] (some 1)]) (k := 2) (.inr rfl) (hv.more _) (by omega) (by simpa using hX.fits)
  refine fn_sound tryOrd (f9_c _) (by simp [f9]) ?_
  simp [f9, f9m]
  refine w22a.use ?_
  rintro e S1 ⟨rfl, rfl⟩
  simp
  refine w22b.use ?_
  rintro e S1 ⟨rfl, rfl⟩
  simp
  have hbox3 : (S ++ [AObj.cells 1 [[.str T.name]] (some 1), AObj.cells 3 [[.str [], .list .nil [], .list .nil []]] (some 1), AObj.cells 3 [[.str T.name, .list .nil [], .list .nil []]] (some 1)])[S.length]? = some (.cells 1 [[.str T.name]] (some 1)) := by simp
  have hlB : (S ++ [AObj.cells 1 [[.str T.name]] (some 1), AObj.cells 3 [[.str [], .list .nil [], .list .nil []]] (some 1), AObj.cells 3 [[.str T.name, .list .nil [], .list .nil []]] (some 1)]).length = S.length + 3 := by simp
  have huB := oB.ab.rk hu
  generalize S ++ [AObj.cells 1 [[.str T.name]] (some 1), AObj.cells 3 [[.str [], .list .nil [], .list .nil []]] (some 1), AObj.cells 3 [[.str T.name, .list .nil [], .list .nil []]] (some 1)] = SB at *
  refine (w24 huB hun (fun e he => by
    obtain ⟨r, _, rfl⟩ := List.mem_map.1 he
    rfl) (by simpa using hRl)).use ?_
  rintro e S2 ⟨uc, rfl, hoc⟩
  simp
  have hne : ∀ r ∈ R, r ≠ [] := fun r hr => by
    obtain ⟨tn, i, c, rfl, _⟩ := hR r hr
    simp [colRow]
  refine (w23 (q := 25) (cap := [.ptr S.length 0 0]) (P := otherP T.name) hoc (i0 := 0) rfl (fun e he => by
    obtain ⟨r, _, rfl⟩ := List.mem_map.1 he
    exact ⟨_, rfl, rfl, rfl⟩) (by simp; omega) (fun S' hle hlow e he => by
      obtain ⟨r, hr, rfl⟩ := List.mem_map.1 he
      exact w25 (by rw [hlow S.length (by omega)]; exact hbox3) (hne r hr))).use ?_
  rintro e S3 ⟨u9, rfl, ho9⟩
  rw [filter_rows _ _ hne, hR2] at ho9
  simp only [List.set_cons_zero] at ho9
  have hj := oB.join ho9
  have hlu := (hj.rk 3 rfl).lenR
  simp only [rowsC_len, ownRows_len] at hlu
  rw [hlen] at hlu
  have hn32 : (T.cols.length : Int) * 32 ≤ 140737488355328 := by omega
  have hn62 : (T.cols.length : Int) ≤ 4611686018427387903 := by omega
  have hj2 := hj.add 3 (List.replicate T.cols.length zC) (some T.cols.length)
  simp only [List.length_replicate] at hj2
  obtain ⟨r8, c8, h8⟩ := hj2.boxget (i := 2) (b := S.length + 2) rfl
  have hj3 := hj2.boxset (i := 2) rfl h8 [.str T.name, .row S3.length 0 T.cols.length, .list .nil []]
  simp only [zC] at h8 hj3
  simp [hlu, hn32, hn62, h8]
  generalize (S3 ++ [AObj.cells 3 (List.replicate T.cols.length [AVal.str [], AVal.int 0, AVal.bool false]) (some T.cols.length)]).set (S.length + 2) (AObj.cells 3 ([AVal.str T.name, AVal.row S3.length 0 T.cols.length, AVal.list Fl.nil []] :: r8) c8) = S4 at *
  have hlu4 := (hj3.rk 3 rfl).lenR
  simp only [rowsC_len, ownRows_len] at hlu4
  rw [hlen] at hlu4
  have hj4 : Own S.length S S4 (L9a T (S.length + 2) u9 (.row S3.length 0 T.cols.length) ps [] [(.row S.length 0 1, 1, [[.str T.name]]), (.row (S.length + 1) 0 1, 3, [[.str [], .list .nil [], .list .nil []]])]) := by
    have := hj3.perm (perm5 _ _ _ _ _)
    unfold L9a
    rw [fillC_nil]
    exact this
  simp [hlu4]
  refine fill9 (x2 := v) (x3 := .ptr S.length 0 0) (x6 := .ptr (S.length + 1) 0 0) hg (S.length + 2) hd hb hlen rfl rfl rfl rfl rfl rfl rfl rfl hj4 ?_
  intro a' S5 b2 b3 b6 b8 ho5
  have hlv := (ho5.ab.rk hv).lenR
  simp only [rowsC_len] at hlv
  have ho6 : Own S.length S S5 (L9b T (S.length + 2) S.length (.row S3.length 0 T.cols.length) (.list .nil []) [] [] [(.row (S.length + 1) 0 1, 3, [[.str [], .list .nil [], .list .nil []]]), (u9, 1, rowsC (ownRows T ps))]) := by
    have := (ho5.add0 3 .nil (.inl rfl)).perm (perm6 _ _ _ _ _ _)
    rw [fillC_all _ _ hall] at this
    exact this
  simp [b2, b3, b6, b8, hlv]
  refine idxs9 (N := S.length) (S0 := S) (X := X) (x6 := .ptr (S.length + 1) 0 0) hT (S.length + 2) S.length (fun r hr => by
    obtain ⟨T', x', he, _⟩ := hX r hr
    exact ⟨T', x', he⟩) hX2 (by omega) (v2 := v) (fun S' hlow => hv.low hlow) (by simp [b3]) (by simp [b6]) (by simp [b8]) (by simp) (by simp) (by simp) ho6 ?_
  intro a2 S6 vi es' inner d6 d8 ho7 hin
  obtain ⟨r8', c8', g8⟩ := ho7.boxget (i := 0) (b := S.length + 2) rfl
  obtain ⟨r6', c6', g6⟩ := ho7.boxget (i := 4) (b := S.length + 1) rfl
  have ht6 : TblV S6 T [.str T.name, .row S3.length 0 T.cols.length, vi] :=
    ⟨_, vi, es', rfl, ⟨ho7.rk 1 rfl, fun _ => rfl⟩, ⟨ho7.rk 2 rfl, (ho7.ap 2 _ _ _ rfl).slc⟩, In19.idxs (L0 := [_, _, _, _, _, _]) ho7 hin⟩
  have ho8 := ho7.boxset (i := 4) rfl g6 [.str T.name, .row S3.length 0 T.cols.length, vi]
  have ht8 : TblV (S6.set (S.length + 1) (.cells 3 ([.str T.name, .row S3.length 0 T.cols.length, vi] :: r6') c6')) T [.str T.name, .row S3.length 0 T.cols.length, vi] :=
    ⟨_, vi, es', rfl, ⟨ho8.rk 1 rfl, fun _ => rfl⟩, ⟨ho8.rk 2 rfl, (ho8.ap 2 _ _ _ rfl).slc⟩, In19.idxs (L0 := [_, _, _, _, _, _]) ho8 hin⟩
  have hvi := (ho7.rk 2 rfl).isOne
  have hlt6 := lt_of_some g6
  have hset := List.getElem?_set_self (a := AObj.cells 3 ([.str T.name, .row S3.length 0 T.cols.length, vi] :: r6') c6') hlt6
  have w11' := w11 (w0 := w0) ht6
  rw [hck] at w11'
  simp [d6, d8, g8, hvi]
  refine w11'.use ?_
  rintro e S7 ⟨rfl, rfl⟩
  simp [d6, d8, g8, g6, hvi, hset]
  exact ⟨ho8.ab, ht8⟩
end Go.Abs
set_option linter.unusedSimpArgs false
set_option linter.unusedVariables false
namespace Go.Abs
open Go Go.RowKit Go.Proofs Go.Lx
variable {w0 : World}

/-- Which of a description's columns stand among these rows, each once. -/
def PartC (T : Tbl) (R : List (List Val)) (P : Nat → Prop) (m : Nat) : Prop :=
  ∃ ps, R.filter (fun r => decide (tagC r = T.name)) = ownRows T ps ∧ ps.Nodup ∧ (∀ j, j ∈ ps ↔ j < T.cols.length ∧ P j) ∧ ps.length = m
theorem PartC.nil (T : Tbl) : PartC T [] (fun _ => False) 0 := ⟨[], rfl, .nil, fun j => by simp, rfl⟩
theorem PartC.own {T R P m} (h : PartC T R P m) {j : Nat} (hj : j < T.cols.length) (hn : ¬ P j) : PartC T (R ++ [colRow T.name j (colAt T.cols j)]) (fun k => P k ∨ k = j) (m + 1) := by
  obtain ⟨ps, h1, h2, h3, h4⟩ := h
  refine ⟨ps ++ [j], ?_, ?_, fun k => ?_, by simp [h4]⟩
  · rw [List.filter_append, h1]; simp [tagC_col, ownRows]
  · rw [List.nodup_append]
    refine ⟨h2, by simp, fun x hx y hy he => ?_⟩
    rw [List.mem_singleton] at hy
    rw [he, hy] at hx
    exact hn ((h3 j).1 hx).2
  · rw [List.mem_append, h3 k, List.mem_singleton]
    constructor
    · rintro (⟨a, b⟩ | rfl)
      · exact ⟨a, .inl b⟩
      · exact ⟨hj, .inr rfl⟩
    · rintro ⟨a, b | b⟩
      · exact .inl ⟨a, b⟩
      · exact .inr b
theorem PartC.other {T R P m} (h : PartC T R P m) {r : List Val} (hr : tagC r ≠ T.name) : PartC T (R ++ [r]) P m := by
  obtain ⟨ps, h1, h2⟩ := h
  refine ⟨ps, ?_, h2⟩
  rw [List.filter_append, h1]; simp [hr]
theorem PartC.congr {T R P P' m m'} (h : PartC T R P m) (hp : ∀ j, j < T.cols.length → (P j ↔ P' j)) (hm : m = m') : PartC T R P' m' := by
  obtain ⟨ps, h1, h2, h3, h4⟩ := h
  exact ⟨ps, h1, h2, fun j => by rw [h3 j]; exact ⟨fun ⟨a, b⟩ => ⟨a, (hp j a).1 b⟩, fun ⟨a, b⟩ => ⟨a, (hp j a).2 b⟩⟩, by omega⟩
theorem ColRows.snoc {R} (h : ColRows R) {T : Tbl} (hT : NamesT T) {j : Nat} (hj : j < T.cols.length) : ColRows (R ++ [colRow T.name j (colAt T.cols j)]) := fun r hr => by
  rcases List.mem_append.1 hr with hr | hr
  · exact h r hr
  · rw [List.mem_singleton] at hr
    have h1 := (nameB_no hT.nm).2
    have h2 := (nameB_no (hT.cn j hj)).2
    refine ⟨_, _, _, hr, by omega, ?_⟩
    rw [colAt_get _ _ hj]; omega

theorem colRows_get (tn : Bs) (cs : List Col) (n i : Nat) (h : i < n) : (rowsC (colRows tn cs n)).getD i [] = rowC (colRow tn i (colAt cs i)) := by
  rw [rowsC_get _ _ (by simpa using h)]; simp [colRows, colAt]

/-- The rows that the law holds. -/
def L3 (A B : Tbl) (u5 vx vy : AVal) (R : List (List Val)) (LX : List Ent) : List Ent :=
  (u5, 1, rowsC R) :: (vx, 1, rowsC (colRows A.name A.cols A.cols.length)) :: (vy, 1, rowsC (colRows B.name B.cols B.cols.length)) :: LX

theorem rowsC_snoc (R : List (List Val)) (r : List Val) : rowsC (R ++ [r]) = rowsC R ++ [rowC r] := by simp [rowsC]

set_option maxHeartbeats 4000000 in
theorem l3a {N : Nat} {S0 : Heap} {A B : Tbl} (hA : NamesT A) (hB : NamesT B) (hne : A.name ≠ B.name) {vx vy x2 x3 x6 : AVal} {LX : List Ent} {Q : AExit → Tmps → Heap → Prop} {a : Tmps} {S1 : Heap} {u0 : AVal}
    (a2 : get a 2 = x2) (a3 : get a 3 = x3) (a5 : get a 5 = u0) (a6 : get a 6 = x6) (a7 : get a 7 = vx) (a8 : get a 8 = vy) (a9 : get a 9 = .int ((A.cols.length : Int) - 1)) (ho : Own N S0 S1 (L3 A B u0 vx vy [] LX))
    (hQ : ∀ a' S' u5 R, get a' 2 = x2 → get a' 3 = x3 → get a' 5 = u5 → get a' 6 = x6 → get a' 7 = vx → get a' 8 = vy → Own N S0 S' (L3 A B u5 vx vy R LX) → ColRows R → R.length ≤ 32 → PartC A R (fun _ => True) A.cols.length → PartC B R (fun j => j < A.cols.length) (min A.cols.length B.cols.length) → Q (.exit 0) a' S') :
    mwp (ACalls Tryd.prog (B0 w0)) (.loop (f3b0 fun _ => .top)) Q a S1 := by
  have hA16 := hA.good.n16
  have hB16 := hB.good.n16
  refine mwp_loop (I := fun n a S' => ∃ (u5 : AVal) (R : List (List Val)), n ≤ A.cols.length ∧ get a 2 = x2 ∧ get a 3 = x3 ∧ get a 5 = u5 ∧ get a 6 = x6 ∧ get a 7 = vx ∧ get a 8 = vy ∧ get a 9 = .int ((n : Int) - 1) ∧
    Own N S0 S' (L3 A B u5 vx vy R LX) ∧ ColRows R ∧ R.length ≤ 2 * (A.cols.length - n) ∧ PartC A R (fun j => n ≤ j) (A.cols.length - n) ∧ PartC B R (fun j => n ≤ j ∧ j < A.cols.length) (min A.cols.length B.cols.length - n)) (n := A.cols.length)
    ⟨_, [], Nat.le_refl _, a2, a3, a5, a6, a7, a8, a9, ho, (by intro r h; cases h), by simp, (PartC.nil A).congr (P' := fun j => A.cols.length ≤ j) (fun j h => ⟨False.elim, fun h' => absurd h (Nat.not_lt.2 h')⟩) (by omega), (PartC.nil B).congr (P' := fun j => A.cols.length ≤ j ∧ j < A.cols.length) (fun j h => ⟨False.elim, fun h' => absurd h'.2 (Nat.not_lt.2 h'.1)⟩) (by omega)⟩ ?_
  clear a2 a3 a5 a6 a7 a8 a9 ho
  rintro n a S' ⟨u5, R, hn, a2, a3, a5, a6, a7, a8, a9, ho, hR, hRl, hPA, hPB⟩
  by_cases hz : n = 0
  · subst hz
    have hlt : ¬ (0 : Int) ≤ ((0 : Nat) : Int) - 1 := by omega
    simp at a9 hRl
    simp [f3b0, a2, a3, a5, a6, a7, a8, a9]
    exact hQ _ _ _ R (by simp [a2]) (by simp [a3]) (by simp [a5]) (by simp [a6]) (by simp [a7]) (by simp [a8]) ho hR (by omega) (hPA.congr (fun j h => by simp) (by omega)) (hPB.congr (fun j h => by simp) (by omega))
  obtain ⟨i, rfl⟩ : ∃ i, n = i + 1 := ⟨n - 1, by omega⟩
  have hi : i < A.cols.length := by omega
  have e9 : (((i + 1 : Nat) : Int) - 1) = (i : Int) := by omega
  rw [e9] at a9
  have h0 : (0 : Int) ≤ (i : Int) := by omega
  have hw : IntKind.i64.wrap ((i : Int) - 1) = (i : Int) - 1 := by rw [wrap64_in (by omega) (by omega)]
  have hgA := colRows_get A.name A.cols A.cols.length i hi
  obtain ⟨p, q1, q2, _⟩ := (ho.rk 1 rfl).elem (i := i) (by simpa using hi) (by rw [hgA]; rfl)
  have q3 := q2 false 1 (Nat.le_refl _)
  rw [hgA] at q3
  simp [rowC] at q3
  have hlY := (ho.rk 2 rfl).lenR
  simp only [rowsC_len, colRows_len] at hlY
  obtain ⟨S2, happ, ho2, _⟩ := ho.app 0 rfl (y := .list .full [rowC (colRow A.name i (colAt A.cols i))]) (ys := [rowC (colRow A.name i (colAt A.cols i))]) (bytes := 24) rfl (by simp [rowC]) (by decide) (by simp; omega) (by simp; omega)
  rw [← rowsC_snoc] at ho2
  obtain ⟨v2, hv2⟩ : ∃ v2, v2 = AVal.row S'.length 0 ((rowsC R).length + 1) := ⟨_, rfl⟩
  simp only [List.length_singleton, ← hv2, rowC] at happ ho2
  have ho3 : Own N S0 S2 (L3 A B v2 vx vy (R ++ [colRow A.name i (colAt A.cols i)]) LX) := ho2
  have hR3 := hR.snoc hA hi
  have hPA3 := (hPA.own hi (by omega)).congr (P' := fun j => i ≤ j) (m' := A.cols.length - i) (fun j h => by omega) (by omega)
  have hPB3 := hPB.other (r := colRow A.name i (colAt A.cols i)) (by rw [tagC_col]; exact hne)
  have hlY2 := (ho3.rk 2 rfl).lenR
  simp only [rowsC_len, colRows_len] at hlY2
  by_cases hB2 : i < B.cols.length
  rotate_left 1
  · have hge : ¬ (i : Int) < (B.cols.length : Int) := by omega
    simp [-appendR, f3b0, a2, a3, a5, a6, a7, a8, a9, h0, q1, q3, happ, hlY2, hge, hw]
    refine ⟨i, by omega, by omega, rfl, _, ho3, hR3, by simp; omega, hPA3, hPB3.congr (fun j h => by omega) (by omega)⟩
  have hlt : (i : Int) < (B.cols.length : Int) := by omega
  have hgB := colRows_get B.name B.cols B.cols.length i hB2
  obtain ⟨pb, t1, t2, _⟩ := (ho3.rk 2 rfl).elem (i := i) (by simpa using hB2) (by rw [hgB]; rfl)
  have t3 := t2 false 1 (Nat.le_refl _)
  rw [hgB] at t3
  simp [rowC] at t3
  obtain ⟨S3, happ3, ho4, _⟩ := ho3.app 0 rfl (y := .list .full [rowC (colRow B.name i (colAt B.cols i))]) (ys := [rowC (colRow B.name i (colAt B.cols i))]) (bytes := 24) rfl (by simp [rowC]) (by decide) (by simp; omega) (by simp; omega)
  rw [← rowsC_snoc] at ho4
  obtain ⟨v3, hv3⟩ : ∃ v3, v3 = AVal.row S2.length 0 ((rowsC (R ++ [colRow A.name i (colAt A.cols i)])).length + 1) := ⟨_, rfl⟩
  simp only [List.length_singleton, ← hv3, rowC] at happ3 ho4
  have ho5 : Own N S0 S3 (L3 A B v3 vx vy (R ++ [colRow A.name i (colAt A.cols i)] ++ [colRow B.name i (colAt B.cols i)]) LX) := ho4
  have hR5 := hR3.snoc hB hB2
  have hPA5 := hPA3.other (r := colRow B.name i (colAt B.cols i)) (by rw [tagC_col]; exact fun e => hne e.symm)
  have hPB5 := (hPB3.own hB2 (by omega)).congr (P' := fun j => i ≤ j ∧ j < A.cols.length) (m' := min A.cols.length B.cols.length - i) (fun j h => by omega) (by omega)
  simp [-appendR, f3b0, a2, a3, a5, a6, a7, a8, a9, h0, q1, q3, happ, hlY2, hlt, t1, t3, happ3, hw]
  refine ⟨i, by omega, by omega, rfl, _, ho5, hR5, by simp; omega, hPA5, hPB5⟩
end Go.Abs
set_option linter.unusedSimpArgs false
set_option linter.unusedVariables false
namespace Go.Abs
open Go Go.RowKit Go.Proofs Go.Lx
variable {w0 : World}

theorem NamesT.join {T : Tbl} (h : NamesT T) : ∀ x ∈ T.idxs, (Lib.join (pickN T.cols x.cols) [44]).length ≤ 200 := fun x hx => by
  obtain ⟨hr, hx4, hx1⟩ := h.good.ix x hx
  have hpk := pickN_all _ _ hr
  have hpl : (pickN T.cols x.cols).length = x.cols.length := by rw [hpk]; simp
  have := join_le (B := 32) (pickN T.cols x.cols) 44 fun k hk => by
    rw [hpk] at hk
    obtain ⟨cc, hcc, rfl⟩ := List.mem_map.1 hk
    have hcr := hr cc hcc
    have hj : cc.toNat < T.cols.length := by omega
    have := nameB_no (h.cn cc.toNat hj)
    rw [nameAt, getD_eq _ _ _ hj]; exact this.2
  rw [hpl] at this
  have h5 : x.cols.length * (32 + 1) ≤ 4 * (32 + 1) := Nat.mul_le_mul_right _ hx4
  omega
theorem NamesT.sz {T : Tbl} (h : NamesT T) : SzT T := by
  have h1 := h.good.n16
  have h2 := h.good.n8
  exact ⟨by omega, by omega, fun x hx => by have := (h.good.ix x hx).2.1; omega⟩
theorem NamesT.sz2 {T : Tbl} (h : NamesT T) : ∀ x ∈ T.idxs, x.cols.length * 16 ≤ 140737488351232 := fun x hx => by have := (h.good.ix x hx).2.1; omega
theorem IdxRows.snoc {X} (h : IdxRows X) {T : Tbl} (hT : NamesT T) {x : Idx} (hx : x ∈ T.idxs) : IdxRows (X ++ [idxVals T x]) := fun r hr => by
  rcases List.mem_append.1 hr with hr | hr
  · exact h r hr
  · rw [List.mem_singleton] at hr
    have h1 := (nameB_no hT.nm).2
    have h2 := (nameB_no (hT.xn x hx)).2
    exact ⟨_, _, hr, by omega, by omega, hT.join x hx⟩
theorem idxRow_at {T : Tbl} {i : Nat} (h : i < T.idxs.length) : idxRow T i = idxVals T T.idxs[i] := by
  rw [idxRow, if_pos (by omega), idxOf, Int.toNat_natCast, getD_eq _ _ _ h]

set_option maxHeartbeats 4000000 in
theorem l3b {N : Nat} {S0 : Heap} {A B : Tbl} (hA : NamesT A) (hB : NamesT B) (hne : A.name ≠ B.name) {vx vy x2 x3 x6 : AVal} {LX : List Ent} {Q : AExit → Tmps → Heap → Prop} {a : Tmps} {S1 : Heap} {u0 : AVal} {R0 : List (List Val)}
    (a2 : get a 2 = x2) (a3 : get a 3 = x3) (a5 : get a 5 = u0) (a6 : get a 6 = x6) (a8 : get a 8 = vy) (a10 : get a 10 = .int A.cols.length) (ho : Own N S0 S1 (L3 A B u0 vx vy R0 LX)) (hR0 : ColRows R0) (hRl0 : R0.length ≤ 32) (hPA0 : PartC A R0 (fun _ => True) A.cols.length) (hPB0 : PartC B R0 (fun j => j < A.cols.length) (min A.cols.length B.cols.length))
    (hQ : ∀ a' S' u5 R, get a' 2 = x2 → get a' 3 = x3 → get a' 5 = u5 → get a' 6 = x6 → Own N S0 S' (L3 A B u5 vx vy R LX) → ColRows R → R.length ≤ 100 → PartC A R (fun _ => True) A.cols.length → PartC B R (fun _ => True) B.cols.length → Q (.exit 2) a' S') :
    mwp (ACalls Tryd.prog (B0 w0)) (.loop (f3b1 fun _ => .top)) Q a S1 := by
  have hA16 := hA.good.n16
  have hB16 := hB.good.n16
  refine mwp_loop (I := fun n a S' => ∃ (i : Nat) (u5 : AVal) (R : List (List Val)), n = B.cols.length - i ∧ i ≤ 16 ∧ get a 2 = x2 ∧ get a 3 = x3 ∧ get a 5 = u5 ∧ get a 6 = x6 ∧ get a 8 = vy ∧ get a 10 = .int i ∧
    Own N S0 S' (L3 A B u5 vx vy R LX) ∧ ColRows R ∧ R.length ≤ 32 + i ∧ PartC A R (fun _ => True) A.cols.length ∧ PartC B R (fun j => j < i) (min i B.cols.length)) (n := B.cols.length - A.cols.length)
    ⟨A.cols.length, _, R0, rfl, hA16, a2, a3, a5, a6, a8, a10, ho, hR0, by omega, hPA0, hPB0⟩ ?_
  clear a2 a3 a5 a6 a8 a10 ho hR0 hPA0 hPB0
  rintro n a S' ⟨i, u5, R, rfl, hi, a2, a3, a5, a6, a8, a10, ho, hR, hRl, hPA, hPB⟩
  have hlY := (ho.rk 2 rfl).lenR
  simp only [rowsC_len, colRows_len] at hlY
  by_cases hB2 : i < B.cols.length
  · have hlt : (i : Int) < (B.cols.length : Int) := by omega
    have hgB := colRows_get B.name B.cols B.cols.length i hB2
    obtain ⟨pb, t1, t2, _⟩ := (ho.rk 2 rfl).elem (i := i) (by simpa using hB2) (by rw [hgB]; rfl)
    have t3 := t2 false 1 (Nat.le_refl _)
    rw [hgB] at t3
    simp [rowC] at t3
    obtain ⟨S3, happ3, ho4, _⟩ := ho.app 0 rfl (y := .list .full [rowC (colRow B.name i (colAt B.cols i))]) (ys := [rowC (colRow B.name i (colAt B.cols i))]) (bytes := 24) rfl (by simp [rowC]) (by decide) (by simp; omega) (by simp; omega)
    rw [← rowsC_snoc] at ho4
    obtain ⟨v3, hv3⟩ : ∃ v3, v3 = AVal.row S'.length 0 ((rowsC R).length + 1) := ⟨_, rfl⟩
    simp only [List.length_singleton, ← hv3, rowC] at happ3 ho4
    have ho5 : Own N S0 S3 (L3 A B v3 vx vy (R ++ [colRow B.name i (colAt B.cols i)]) LX) := ho4
    have hR5 := hR.snoc hB hB2
    have hPA5 := hPA.other (r := colRow B.name i (colAt B.cols i)) (by rw [tagC_col]; exact fun e => hne e.symm)
    have hPB5 := (hPB.own hB2 (by omega)).congr (P' := fun j => j < i + 1) (m' := min (i + 1) B.cols.length) (fun j h => by omega) (by omega)
    simp [-appendR, f3b1, a2, a3, a5, a6, a8, a10, hlY, hlt, t1, t3, happ3, wrapS i (by omega)]
    refine ⟨B.cols.length - (i + 1), by omega, i + 1, rfl, by omega, by simp, _, ho5, hR5, by simp; omega, hPA5, hPB5⟩
  · have hge : ¬ (i : Int) < (B.cols.length : Int) := by omega
    simp [f3b1, a2, a3, a5, a6, a8, a10, hlY, hge]
    exact hQ _ _ _ R (by simp [a2]) (by simp [a3]) (by simp [a5]) (by simp [a6]) ho hR (by omega) hPA (hPB.congr (fun j h => ⟨fun _ => trivial, fun _ => Nat.lt_of_lt_of_le h (Nat.le_of_not_lt hB2)⟩) (by omega))

set_option maxHeartbeats 4000000 in
theorem l3c {S0 : Heap} {T : Tbl} (hT : NamesT T) {O : Bs} (hne : T.name ≠ O) {FO : List (List Val)} {b : Nat} {cap : Option Nat} {av : List AVal} (hb : S0[b]? = some (.cells 3 [av] cap)) (hav : TblV S0 T av) {x3 x5 : AVal} {LX : List Ent} {Q : AExit → Tmps → Heap → Prop} {a : Tmps} {S1 : Heap} {u0 : AVal} {X0 : List (List Val)}
    (a3 : get a 3 = x3) (ab : get a 2 = .ptr b 0 0) (a5 : get a 5 = x5) (a6 : get a 6 = u0) (al : get a 82 = .int T.idxs.length) (ai : get a 83 = .int 0) (ho : Own S0.length S0 S1 ((u0, 1, rowsC X0) :: LX)) (hX0 : IdxRows X0) (hXl0 : X0.length ≤ 100) (hF0 : X0.filter (fun r => decide (tagI r = T.name)) = []) (hO0 : X0.filter (fun r => decide (tagI r = O)) = FO)
    (hQ : ∀ a' S' u6 X, get a' 3 = x3 → get a' 2 = .ptr b 0 0 → get a' 5 = x5 → get a' 6 = u6 → Own S0.length S0 S' ((u6, 1, rowsC X) :: LX) → IdxRows X → X.length ≤ X0.length + T.idxs.length → X.filter (fun r => decide (tagI r = T.name)) = T.idxs.map (idxVals T) → X.filter (fun r => decide (tagI r = O)) = FO → Q (.exit 4) a' S') :
    mwp (ACalls Tryd.prog (B0 w0)) (.loop (f3b2 fun _ => .top)) Q a S1 := by
  have h8 := hT.good.n8
  refine mwp_loop (I := fun n a S' => ∃ (i : Nat) (u6 : AVal) (X : List (List Val)), n = T.idxs.length - i ∧ i ≤ T.idxs.length ∧ get a 3 = x3 ∧ get a 2 = .ptr b 0 0 ∧ get a 5 = x5 ∧ get a 6 = u6 ∧ get a 82 = .int T.idxs.length ∧ get a 83 = .int i ∧
    Own S0.length S0 S' ((u6, 1, rowsC X) :: LX) ∧ IdxRows X ∧ X.length = X0.length + i ∧ X.filter (fun r => decide (tagI r = T.name)) = (T.idxs.take i).map (idxVals T) ∧ X.filter (fun r => decide (tagI r = O)) = FO) (n := T.idxs.length)
    ⟨0, _, X0, rfl, Nat.zero_le _, a3, ab, a5, a6, al, ai, ho, hX0, rfl, hF0, hO0⟩ ?_
  clear a3 ab a5 a6 al ai ho hX0 hF0 hO0
  rintro n a S' ⟨i, u6, X, rfl, hi, a3, ab, a5, a6, al, ai, ho, hX, hXl, hF, hO⟩
  by_cases hlt : i < T.idxs.length
  · have hltI : (i : Int) < (T.idxs.length : Int) := by omega
    have hbS := (ho.ab.get (lt_of_some hb)).trans hb
    have w8' := w8 (w0 := w0) (ho.ab.tbl hav) hT.sz hT.sz2 (fun x hx => by have := hT.join x hx; omega) i
    rw [if_pos (by omega), idxRow_at hlt] at w8'
    have hxm : T.idxs[i] ∈ T.idxs := List.getElem_mem hlt
    have htk : (T.idxs.take (i + 1)).map (idxVals T) = (T.idxs.take i).map (idxVals T) ++ [idxVals T T.idxs[i]] := by
      rw [List.take_add_one, List.getElem?_eq_getElem hlt, List.map_append]; rfl
    generalize T.idxs[i] = x at *
    obtain ⟨S3, happ3, ho4, _⟩ := ho.app 0 rfl (y := .list .full [rowC (idxVals T x)]) (ys := [rowC (idxVals T x)]) (bytes := 24) rfl (by simp [rowC]) (by decide) (by simp; omega) (by simp; omega)
    rw [← rowsC_snoc] at ho4
    obtain ⟨v3, hv3⟩ : ∃ v3, v3 = AVal.row S'.length 0 ((rowsC X).length + 1) := ⟨_, rfl⟩
    simp only [List.length_singleton, ← hv3, rowC] at happ3 ho4
    have ho5 : Own S0.length S0 S3 ((v3, 1, rowsC (X ++ [idxVals T x])) :: LX) := ho4
    have hX5 := hX.snoc hT hxm
    have hF5 : (X ++ [idxVals T x]).filter (fun r => decide (tagI r = T.name)) = (T.idxs.take (i + 1)).map (idxVals T) := by
      rw [List.filter_append, hF, htk]; simp [tagI_idx]
    have hO5 : (X ++ [idxVals T x]).filter (fun r => decide (tagI r = O)) = FO := by
      rw [List.filter_append, hO]; simp [tagI_idx, hne]
    obtain ⟨vc, vi, es, rfl, _⟩ := hav
    simp [-appendR, f3b2, a3, ab, a5, a6, al, ai, hltI, hbS]
    refine w8'.use ?_
    rintro e S4 ⟨rfl, rfl⟩
    simp [-appendR, a3, ab, a5, a6, al, ai, happ3, wrapS i (by omega)]
    refine ⟨T.idxs.length - (i + 1), by omega, i + 1, rfl, by omega, by simp, _, ho5, hX5, by simp; omega, by rw [hF5, List.map_take], hO5⟩
  · have hie : i = T.idxs.length := by omega
    subst hie
    have hge : ¬ (T.idxs.length : Int) < (T.idxs.length : Int) := by omega
    rw [List.take_length] at hF
    simp [f3b2, a3, ab, a5, a6, al, ai, hge]
    exact hQ _ _ _ X (by simp [a3]) (by simp [ab]) (by simp [a5]) (by simp [a6]) ho hX (by omega) hF hO

set_option maxHeartbeats 4000000 in
theorem l3d {S0 : Heap} {T : Tbl} (hT : NamesT T) {O : Bs} (hne : T.name ≠ O) {FO : List (List Val)} {b : Nat} {cap : Option Nat} {av : List AVal} (hb : S0[b]? = some (.cells 3 [av] cap)) (hav : TblV S0 T av) {x2 x5 : AVal} {LX : List Ent} {Q : AExit → Tmps → Heap → Prop} {a : Tmps} {S1 : Heap} {u0 : AVal} {X0 : List (List Val)}
    (a2 : get a 2 = x2) (ab : get a 3 = .ptr b 0 0) (a5 : get a 5 = x5) (a6 : get a 6 = u0) (al : get a 95 = .int T.idxs.length) (ai : get a 96 = .int 0) (ho : Own S0.length S0 S1 ((u0, 1, rowsC X0) :: LX)) (hX0 : IdxRows X0) (hXl0 : X0.length ≤ 100) (hF0 : X0.filter (fun r => decide (tagI r = T.name)) = []) (hO0 : X0.filter (fun r => decide (tagI r = O)) = FO)
    (hQ : ∀ a' S' u6 X, get a' 2 = x2 → get a' 3 = .ptr b 0 0 → get a' 5 = x5 → get a' 6 = u6 → Own S0.length S0 S' ((u6, 1, rowsC X) :: LX) → IdxRows X → X.length ≤ X0.length + T.idxs.length → X.filter (fun r => decide (tagI r = T.name)) = T.idxs.map (idxVals T) → X.filter (fun r => decide (tagI r = O)) = FO → Q (.exit 6) a' S') :
    mwp (ACalls Tryd.prog (B0 w0)) (.loop (f3b3 fun _ => .top)) Q a S1 := by
  have h8 := hT.good.n8
  refine mwp_loop (I := fun n a S' => ∃ (i : Nat) (u6 : AVal) (X : List (List Val)), n = T.idxs.length - i ∧ i ≤ T.idxs.length ∧ get a 2 = x2 ∧ get a 3 = .ptr b 0 0 ∧ get a 5 = x5 ∧ get a 6 = u6 ∧ get a 95 = .int T.idxs.length ∧ get a 96 = .int i ∧
    Own S0.length S0 S' ((u6, 1, rowsC X) :: LX) ∧ IdxRows X ∧ X.length = X0.length + i ∧ X.filter (fun r => decide (tagI r = T.name)) = (T.idxs.take i).map (idxVals T) ∧ X.filter (fun r => decide (tagI r = O)) = FO) (n := T.idxs.length)
    ⟨0, _, X0, rfl, Nat.zero_le _, a2, ab, a5, a6, al, ai, ho, hX0, rfl, hF0, hO0⟩ ?_
  clear a2 ab a5 a6 al ai ho hX0 hF0 hO0
  rintro n a S' ⟨i, u6, X, rfl, hi, a2, ab, a5, a6, al, ai, ho, hX, hXl, hF, hO⟩
  by_cases hlt : i < T.idxs.length
  · have hltI : (i : Int) < (T.idxs.length : Int) := by omega
    have hbS := (ho.ab.get (lt_of_some hb)).trans hb
    have w8' := w8 (w0 := w0) (ho.ab.tbl hav) hT.sz hT.sz2 (fun x hx => by have := hT.join x hx; omega) i
    rw [if_pos (by omega), idxRow_at hlt] at w8'
    have hxm : T.idxs[i] ∈ T.idxs := List.getElem_mem hlt
    have htk : (T.idxs.take (i + 1)).map (idxVals T) = (T.idxs.take i).map (idxVals T) ++ [idxVals T T.idxs[i]] := by
      rw [List.take_add_one, List.getElem?_eq_getElem hlt, List.map_append]; rfl
    generalize T.idxs[i] = x at *
    obtain ⟨S3, happ3, ho4, _⟩ := ho.app 0 rfl (y := .list .full [rowC (idxVals T x)]) (ys := [rowC (idxVals T x)]) (bytes := 24) rfl (by simp [rowC]) (by decide) (by simp; omega) (by simp; omega)
    rw [← rowsC_snoc] at ho4
    obtain ⟨v3, hv3⟩ : ∃ v3, v3 = AVal.row S'.length 0 ((rowsC X).length + 1) := ⟨_, rfl⟩
    simp only [List.length_singleton, ← hv3, rowC] at happ3 ho4
    have ho5 : Own S0.length S0 S3 ((v3, 1, rowsC (X ++ [idxVals T x])) :: LX) := ho4
    have hX5 := hX.snoc hT hxm
    have hF5 : (X ++ [idxVals T x]).filter (fun r => decide (tagI r = T.name)) = (T.idxs.take (i + 1)).map (idxVals T) := by
      rw [List.filter_append, hF, htk]; simp [tagI_idx]
    have hO5 : (X ++ [idxVals T x]).filter (fun r => decide (tagI r = O)) = FO := by
      rw [List.filter_append, hO]; simp [tagI_idx, hne]
    obtain ⟨vc, vi, es, rfl, _⟩ := hav
    simp [-appendR, f3b3, a2, ab, a5, a6, al, ai, hltI, hbS]
    refine w8'.use ?_
    rintro e S4 ⟨rfl, rfl⟩
    simp [-appendR, a2, ab, a5, a6, al, ai, happ3, wrapS i (by omega)]
    refine ⟨T.idxs.length - (i + 1), by omega, i + 1, rfl, by omega, by simp, _, ho5, hX5, by simp; omega, by rw [hF5, List.map_take], hO5⟩
  · have hie : i = T.idxs.length := by omega
    subst hie
    have hge : ¬ (T.idxs.length : Int) < (T.idxs.length : Int) := by omega
    rw [List.take_length] at hF
    simp [f3b3, a2, ab, a5, a6, al, ai, hge]
    exact hQ _ _ _ X (by simp [a2]) (by simp [ab]) (by simp [a5]) (by simp [a6]) ho hX (by omega) hF hO

set_option maxHeartbeats 4000000 in
theorem l4a {S0 : Heap} {T : Tbl} (hT : NamesT T) {O : Bs} (hne : T.name ≠ O) {FO : List (List Val)} {b : Nat} {cap : Option Nat} {av : List AVal} (hb : S0[b]? = some (.cells 3 [av] cap)) (hav : TblV S0 T av) {x1 x5 : AVal} {LX : List Ent} {Q : AExit → Tmps → Heap → Prop} {a : Tmps} {S1 : Heap} {u0 : AVal} {X0 : List (List Val)}
    (a1 : get a 1 = x1) (ab : get a 2 = .ptr b 0 0) (a5 : get a 5 = x5) (a6 : get a 6 = u0) (al : get a 25 = .int T.idxs.length) (ai : get a 26 = .int 0) (ho : Own S0.length S0 S1 ((u0, 1, rowsC X0) :: LX)) (hX0 : IdxRows X0) (hXl0 : X0.length ≤ 100) (hF0 : X0.filter (fun r => decide (tagI r = T.name)) = []) (hO0 : X0.filter (fun r => decide (tagI r = O)) = FO)
    (hQ : ∀ a' S' u6 X, get a' 1 = x1 → get a' 2 = .ptr b 0 0 → get a' 5 = x5 → get a' 6 = u6 → Own S0.length S0 S' ((u6, 1, rowsC X) :: LX) → IdxRows X → X.length ≤ X0.length + T.idxs.length → X.filter (fun r => decide (tagI r = T.name)) = T.idxs.map (idxVals T) → X.filter (fun r => decide (tagI r = O)) = FO → Q (.exit 0) a' S') :
    mwp (ACalls Tryd.prog (B0 w0)) (.loop (f4b0 fun _ => .top)) Q a S1 := by
  have h8 := hT.good.n8
  refine mwp_loop (I := fun n a S' => ∃ (i : Nat) (u6 : AVal) (X : List (List Val)), n = T.idxs.length - i ∧ i ≤ T.idxs.length ∧ get a 1 = x1 ∧ get a 2 = .ptr b 0 0 ∧ get a 5 = x5 ∧ get a 6 = u6 ∧ get a 25 = .int T.idxs.length ∧ get a 26 = .int i ∧
    Own S0.length S0 S' ((u6, 1, rowsC X) :: LX) ∧ IdxRows X ∧ X.length = X0.length + i ∧ X.filter (fun r => decide (tagI r = T.name)) = (T.idxs.take i).map (idxVals T) ∧ X.filter (fun r => decide (tagI r = O)) = FO) (n := T.idxs.length)
    ⟨0, _, X0, rfl, Nat.zero_le _, a1, ab, a5, a6, al, ai, ho, hX0, rfl, hF0, hO0⟩ ?_
  clear a1 ab a5 a6 al ai ho hX0 hF0 hO0
  rintro n a S' ⟨i, u6, X, rfl, hi, a1, ab, a5, a6, al, ai, ho, hX, hXl, hF, hO⟩
  by_cases hlt : i < T.idxs.length
  · have hltI : (i : Int) < (T.idxs.length : Int) := by omega
    have hbS := (ho.ab.get (lt_of_some hb)).trans hb
    have w8' := w8 (w0 := w0) (ho.ab.tbl hav) hT.sz hT.sz2 (fun x hx => by have := hT.join x hx; omega) i
    rw [if_pos (by omega), idxRow_at hlt] at w8'
    have hxm : T.idxs[i] ∈ T.idxs := List.getElem_mem hlt
    have htk : (T.idxs.take (i + 1)).map (idxVals T) = (T.idxs.take i).map (idxVals T) ++ [idxVals T T.idxs[i]] := by
      rw [List.take_add_one, List.getElem?_eq_getElem hlt, List.map_append]; rfl
    generalize T.idxs[i] = x at *
    obtain ⟨S3, happ3, ho4, _⟩ := ho.app 0 rfl (y := .list .full [rowC (idxVals T x)]) (ys := [rowC (idxVals T x)]) (bytes := 24) rfl (by simp [rowC]) (by decide) (by simp; omega) (by simp; omega)
    rw [← rowsC_snoc] at ho4
    obtain ⟨v3, hv3⟩ : ∃ v3, v3 = AVal.row S'.length 0 ((rowsC X).length + 1) := ⟨_, rfl⟩
    simp only [List.length_singleton, ← hv3, rowC] at happ3 ho4
    have ho5 : Own S0.length S0 S3 ((v3, 1, rowsC (X ++ [idxVals T x])) :: LX) := ho4
    have hX5 := hX.snoc hT hxm
    have hF5 : (X ++ [idxVals T x]).filter (fun r => decide (tagI r = T.name)) = (T.idxs.take (i + 1)).map (idxVals T) := by
      rw [List.filter_append, hF, htk]; simp [tagI_idx]
    have hO5 : (X ++ [idxVals T x]).filter (fun r => decide (tagI r = O)) = FO := by
      rw [List.filter_append, hO]; simp [tagI_idx, hne]
    obtain ⟨vc, vi, es, rfl, _⟩ := hav
    simp [-appendR, f4b0, a1, ab, a5, a6, al, ai, hltI, hbS]
    refine w8'.use ?_
    rintro e S4 ⟨rfl, rfl⟩
    simp [-appendR, a1, ab, a5, a6, al, ai, happ3, wrapS i (by omega)]
    refine ⟨T.idxs.length - (i + 1), by omega, i + 1, rfl, by omega, by simp, _, ho5, hX5, by simp; omega, by rw [hF5, List.map_take], hO5⟩
  · have hie : i = T.idxs.length := by omega
    subst hie
    have hge : ¬ (T.idxs.length : Int) < (T.idxs.length : Int) := by omega
    rw [List.take_length] at hF
    simp [f4b0, a1, ab, a5, a6, al, ai, hge]
    exact hQ _ _ _ X (by simp [a1]) (by simp [ab]) (by simp [a5]) (by simp [a6]) ho hX (by omega) hF hO
end Go.Abs
set_option linter.unusedSimpArgs false
set_option linter.unusedVariables false
namespace Go.Abs
open Go Go.RowKit Go.Proofs Go.Lx
variable {w0 : World}

theorem Ap.nn {N k S v es} (h : Ap N k S v es) (hne : es ≠ []) : isNil .slice v = some false := by
  cases h with
  | none fl hf => exact absurd rfl hne
  | row id off len es cap hN h hl =>
    cases len with
    | zero => simp at hne
    | succ n => rfl
theorem PartC.ne {T R P m} (h : PartC T R P m) (hm : 0 < m) : rowsC R ≠ [] := by
  obtain ⟨ps, h1, _, _, h4⟩ := h
  intro he
  have : R = [] := List.map_eq_nil_iff.1 he
  rw [this] at h1
  have := congrArg List.length h1
  simp at this
  omega

/-- Build gives the description whose rows are there. -/
theorem build {S : Heap} {T : Tbl} (hck : checkT T = 0) {u v : AVal} {R X : List (List Val)} (hu : Rk 1 S u (rowsC R)) (hun : isNil .slice u = some false) (hv : Rk 1 S v (rowsC X))
    (hR : ColRows R) (hX : IdxRows X) (hRl : R.length * 24 ≤ 140737488355328) (hXl : X.length * 24 ≤ 140737488355328) (hP : PartC T R (fun _ => True) T.cols.length) (hX2 : X.filter (fun r => decide (tagI r = T.name)) = T.idxs.map (idxVals T)) :
    ACalls Tryd.prog (B0 w0) 9 [.str T.name, u, v] S fun e S' => ∃ av, e = .ret (.tuple [.agg av, .int 0]) ∧ Ab S S' ∧ TblV S' T av := by
  obtain ⟨ps, h1, h2, h3, h4⟩ := hP
  exact w9b hck hu hun hv hR hX hRl hXl h1 h2 (fun p hp => ((h3 p).1 hp).1) (fun j hj => (h3 j).2 ⟨hj, trivial⟩) h4 hX2

theorem permA {α : Type} (a b c d : α) : [a, b, c, d].Perm [c, a, b, d] := (List.perm_append_comm (l₁ := [a, b]) (l₂ := [c])).append_right [d]
theorem permB {α : Type} (a b c d : α) : [a, b, c, d].Perm [d, a, b, c] := List.perm_append_comm (l₁ := [a, b, c]) (l₂ := [d])

set_option maxHeartbeats 8000000 in
/-- SchemaThere. -/
theorem w3 {S : Heap} {A B : Tbl} {avA avB : List AVal} (htA : TblV S A avA) (htB : TblV S B avB) : ACalls Tryd.prog (B0 w0) 3 [.agg avA, .agg avB] S fun e S' => e = .ret (.bool true) ∧ S' = S := by
  refine ACalls.close (R := fun e S' => e = .ret (.bool true) ∧ S'.take S.length = S) ?_ ?_
  rotate_left 1
  · rintro e S' ⟨rfl, ht⟩
    exact .flat ht rfl ⟨rfl, rfl⟩
  have htA0 := htA
  have htB0 := htB
  obtain ⟨vcA, viA, esA, rfl, hcA, hiA, hxA⟩ := htA
  obtain ⟨vcB, viB, esB, rfl, hcB, hiB, hxB⟩ := htB
  have o1 := hcA.rk.isOne
  have o2 := hiA.rk.isOne
  have o3 := hcB.rk.isOne
  have o4 := hiB.rk.isOne
  have hab1 : Ab S (S ++ [AObj.cells 3 [[.str A.name, vcA, viA]] (some 1), AObj.cells 3 [[.str B.name, vcB, viB]] (some 1)]) := Ab.start _ _
  have hb2 : (S ++ [AObj.cells 3 [[.str A.name, vcA, viA]] (some 1), AObj.cells 3 [[.str B.name, vcB, viB]] (some 1)])[S.length]? = some (.cells 3 [[.str A.name, vcA, viA]] (some 1)) := by simp
  have hb3 : (S ++ [AObj.cells 3 [[.str A.name, vcA, viA]] (some 1), AObj.cells 3 [[.str B.name, vcB, viB]] (some 1)])[S.length + 1]? = some (.cells 3 [[.str B.name, vcB, viB]] (some 1)) := by
    rw [List.getElem?_append_right (by omega)]; simp
  refine fn_sound tryOrd (f3_c _) (by simp [f3]) ?_
  simp [f3, f3m, o1, o2, o3, o4]
  generalize S ++ [AObj.cells 3 [[.str A.name, vcA, viA]] (some 1), AObj.cells 3 [[.str B.name, vcB, viB]] (some 1)] = S1 at *
  refine (speaks5 w0 S1).use ?_
  rintro e S2 ⟨rfl, rfl⟩
  have htk := hab1.2
  have hA2 := hab1.tbl htA0
  have hB2 := hab1.tbl htB0
  simp [hb2, hb3, o1, o2, o3, o4]
  refine (w6 hA2).use ?_
  rintro e S3 ⟨rfl, rfl⟩
  by_cases hckA : checkT A = 0
  rotate_left 1
  · have hg0 : (checkT A == 0) = false := beq_eq_false_iff_ne.2 hckA
    simp [bne, hg0, htk]
  simp [hckA, hb2, hb3, o1, o2, o3, o4]
  refine (w6 hB2).use ?_
  rintro e S4 ⟨rfl, rfl⟩
  by_cases hckB : checkT B = 0
  rotate_left 1
  · have hg0 : (checkT B == 0) = false := beq_eq_false_iff_ne.2 hckB
    simp [bne, hg0, htk]
  simp [hckB, hb2, hb3, o1, o2, o3, o4]
  by_cases hne : A.name = B.name
  · simp [hne, htk]
  have nA := namesT hckA
  have nB := namesT hckB
  have hA16 := nA.good.n16
  have hA1 := nA.good.n1
  have hB16 := nB.good.n16
  have hB1 := nB.good.n1
  have hA8 := nA.good.n8
  have hB8 := nB.good.n8
  simp [hne, hb2, hb3, o1, o2, o3, o4]
  refine (w7 hA2 nA.sz).use ?_
  rintro e S5 ⟨vx, rfl, ho5⟩
  have g2 := (ho5.ab.get (lt_of_some hb2)).trans hb2
  have g3 := (ho5.ab.get (lt_of_some hb3)).trans hb3
  simp [g2, g3, hb2, hb3, o1, o2, o3, o4]
  refine (w7 (ho5.ab.tbl hB2) nB.sz).use ?_
  rintro e S6 ⟨vy, rfl, ho6⟩
  have hj := ho5.join ho6
  have hlx := (hj.rk 0 rfl).lenR
  simp only [rowsC_len, colRows_len] at hlx
  have hw : IntKind.i64.wrap ((A.cols.length : Int) - 1) = (A.cols.length : Int) - 1 := by rw [wrap64_in (by omega) (by omega)]
  have hj2 : Own S4.length S4 S6 (L3 A B (.list .full []) vx vy [] [(.list .full [], 1, [])]) :=
    ((hj.add0 1 .full (.inr rfl)).add0 1 .full (.inr rfl)).perm (permA _ _ _ _)
  simp [hlx, hw]
  refine l3a (x2 := .ptr S.length 0 0) (x3 := .ptr (S.length + 1) 0 0) (x6 := .list .full []) nA nB hne rfl rfl rfl rfl rfl rfl rfl hj2 ?_
  intro a7 S7 u5 R b2 b3 b5 b6 b7 b8 ho7 hR hRl hPA hPB
  have hrk7 : Rk 1 S7 vx (rowsC (colRows A.name A.cols A.cols.length)) := ho7.rk 1 rfl
  have hlx7 := hrk7.lenR
  simp only [rowsC_len, colRows_len] at hlx7
  simp [b2, b3, b5, b6, b7, b8, hlx7]
  refine l3b (x2 := .ptr S.length 0 0) (x3 := .ptr (S.length + 1) 0 0) (x6 := .list .full []) nA nB hne (by simp [b2]) (by simp [b3]) (by simp [b5]) (by simp [b6]) (by simp [b8]) (by simp) ho7 hR hRl hPA hPB ?_
  clear b2 b3 b5 b6 b7 b8 ho7 hR hRl hPA hPB hlx7
  intro a8 S8 u5 R b2 b3 b5 b6 ho8 hR hRl hPA hPB
  have g2 := (ho8.ab.get (lt_of_some hb2)).trans hb2
  have hli := ((ho8.ab.trans (Ab.refl _)).rs (hab1.rs hiA)).rk.lenR
  rw [hxA.1] at hli
  have ho8' : Own S4.length S4 S8 ((.list .full [], 1, rowsC []) :: [(u5, 1, rowsC R), (vx, 1, rowsC (colRows A.name A.cols A.cols.length)), (vy, 1, rowsC (colRows B.name B.cols B.cols.length))]) := ho8.perm (permB _ _ _ _)
  simp [b2, b3, b5, b6, g2, hli]
  refine l3c (x3 := .ptr (S.length + 1) 0 0) (x5 := u5) (u0 := .list .full []) nA (O := B.name) hne (FO := []) hb2 hA2 (by simp [b3]) (by simp [b2]) (by simp [b5]) (by simp [b6]) (by simp) (by simp) ho8' (by intro r h; cases h) (by simp) rfl rfl ?_
  clear b2 b3 b5 b6 g2 hli ho8 ho8'
  intro a9 S9 u6 X b3 b2 b5 b6 ho9 hX hXl hFA hFB
  have g3 := (ho9.ab.get (lt_of_some hb3)).trans hb3
  have hli := (ho9.ab.rs (hab1.rs hiB)).rk.lenR
  rw [hxB.1] at hli
  simp at hXl
  simp [b2, b3, b5, b6, g3, hli]
  refine l3d (x2 := .ptr S.length 0 0) (x5 := u5) (u0 := u6) nB (O := A.name) (fun e => hne e.symm) (FO := A.idxs.map (idxVals A)) hb3 hB2 (by simp [b2]) (by simp [b3]) (by simp [b5]) (by simp [b6]) (by simp) (by simp) ho9 hX (by omega) hFB hFA ?_
  clear b2 b3 b5 b6 g3 hli ho9
  intro a10 S10 u7 X2 b2 b3 b5 b6 ho10 hX2 hXl2 hFB2 hFA2
  have g2 := (ho10.ab.get (lt_of_some hb2)).trans hb2
  have g3 := (ho10.ab.get (lt_of_some hb3)).trans hb3
  have hu5 : Rk 1 S10 u5 (rowsC R) := ho10.rk 1 rfl
  have hu7 : Rk 1 S10 u7 (rowsC X2) := ho10.rk 0 rfl
  have hnn : isNil .slice u5 = some false := Ap.nn (ho10.ap 1 u5 1 (rowsC R) rfl) (hPA.ne (by omega))
  have hab10 := ho10.ab
  clear ho10
  simp [b2, b3, b5, b6, g2, g3]
  refine (build hckA hu5 hnn hu7 hR hX2 (by omega) (by omega) hPA hFA2).use ?_
  rintro e S11 ⟨avS, rfl, hab11, htS⟩
  obtain ⟨vcS, viS, esS, rfl, hcS, hiS, hxS⟩ := id htS
  have o5 := hcS.rk.isOne
  have o6 := hiS.rk.isOne
  have hab12 : Ab S11 (S11 ++ [AObj.cells 3 [[.str A.name, vcS, viS]] (some 1)]) := Ab.start _ _
  have hbs : (S11 ++ [AObj.cells 3 [[.str A.name, vcS, viS]] (some 1)])[S11.length]? = some (.cells 3 [[.str A.name, vcS, viS]] (some 1)) := by simp
  have hl11 := hab11.1
  have g2' := (((hab10.trans hab11).trans hab12).get (lt_of_some hb2)).trans hb2
  have g3' := (((hab10.trans hab11).trans hab12).get (lt_of_some hb3)).trans hb3
  simp [b2, b3, b5, b6, o5, o6]
  generalize S11 ++ [AObj.cells 3 [[.str A.name, vcS, viS]] (some 1)] = S12 at *
  have hab13 := hab11.trans hab12
  simp [b2, b3, b5, b6, g2', g3']
  refine (build hckB (hab13.rk hu5) hnn (hab13.rk hu7) hR hX2 (by omega) (by omega) hPB hFB2).use ?_
  rintro e S13 ⟨avT, rfl, hab14, htT⟩
  obtain ⟨vcT, viT, esT, rfl, hcT, hiT, hxT⟩ := id htT
  have o7 := hcT.rk.isOne
  have o8 := hiT.rk.isOne
  have hab15 : Ab S13 (S13 ++ [AObj.cells 3 [[.str B.name, vcT, viT]] (some 1)]) := Ab.start _ _
  have hbt : (S13 ++ [AObj.cells 3 [[.str B.name, vcT, viT]] (some 1)])[S13.length]? = some (.cells 3 [[.str B.name, vcT, viT]] (some 1)) := by simp
  simp [b2, b3, b5, b6, o7, o8]
  have hbs' := ((hab14.trans hab15).get (lt_of_some hbs)).trans hbs
  have hall := hab10.trans (hab13.trans (hab14.trans hab15))
  have g2'' := (hall.get (lt_of_some hb2)).trans hb2
  have g3'' := (hall.get (lt_of_some hb3)).trans hb3
  have hS := (hab12.trans (hab14.trans hab15)).tbl htS
  have hT := hab15.tbl htT
  have hA9 := hall.tbl hA2
  have hB9 := hall.tbl hB2
  have htk2 := (hab1.trans hall).2
  generalize S13 ++ [AObj.cells 3 [[.str B.name, vcT, viT]] (some 1)] = S14 at *
  simp [b2, b3, b5, b6, hbs', hbt, g2'', g3'']
  refine (w10 hS hA9 nA.sz).use ?_
  rintro e S15 ⟨rfl, rfl⟩
  simp [b2, b3, b5, b6, hbs', hbt, g2'', g3'']
  refine (w10 hT hB9 nB.sz).use ?_
  rintro e S16 ⟨rfl, rfl⟩
  simp [htk2]
end Go.Abs
