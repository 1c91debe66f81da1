/- The document's parser: expressions. Conditions: none but the lengths; definitions and lemmas. -/
import Derived.Test.YtcogkenmdbaiiaaGreatDoorMT
import Derived.Test.YtcogkenmdbaiiaaGreatDoorMU
import Derived.Test.YtcogkenmdbaiiaaGreatDoorMH
set_option linter.unusedSimpArgs false
set_option linter.unusedVariables false
namespace Go.Abs
open Go Go.RowKit Go.Proofs Go.Lx Go.Pz
variable {w0 : World}

/-- Where the document's parser stands: what is left, or the first error. -/
abbrev Q := Except Int (List Tok)
def RO (ts : List Tok) (q : Q) (i : Nat) (e : Int) : Prop := i ≤ ts.length ∧ match q with
  | .ok l => e = 0 ∧ ts.drop i = l
  | .error c => c ≠ 0 ∧ e = c
def RAt (S : Heap) (pid : Nat) (ts : List Tok) (q : Q) (o m : Nat) : Prop :=
  ∃ (fl : Fl) (i : Nat) (e : Int), (ts ≠ [] → fl ≠ .nil) ∧ S[pid]? = some (.cells 5 [[.list fl (toksV ts), .int i, .int o, .int e, .int m]] (some 1)) ∧ RO ts q i e
theorem RAt.lt {S pid ts q o m} (h : RAt S pid ts q o m) : pid < S.length := by obtain ⟨_, _, _, _, h1, _⟩ := h; exact lt_of_some h1
theorem RAt.more {S pid ts q o m} (h : RAt S pid ts q o m) (g : Heap) : RAt (S ++ g) pid ts q o m := by
  have hl := h.lt
  obtain ⟨fl, i, e, h0, h1, h2⟩ := h
  exact ⟨fl, i, e, h0, by rw [List.getElem?_append_left hl]; exact h1, h2⟩
theorem RAt.less {S g : Heap} {pid ts q o m} (h : RAt (S ++ g) pid ts q o m) (hl : pid < S.length) : RAt S pid ts q o m := by
  obtain ⟨fl, i, e, h0, h1, h2⟩ := h
  exact ⟨fl, i, e, h0, by rwa [List.getElem?_append_left hl] at h1, h2⟩
theorem RAt.sc {S pid ts q o m} (h : RAt S pid ts q o m) (n : Nat) : ∃ ob, S[pid]? = some ob ∧ ob.sc n = true := by
  obtain ⟨fl, i, e, h0, h1, h2⟩ := h
  exact ⟨_, h1, by simp [AObj.sc, scLL, scL, AVal.sc, toksV_sc]⟩

/-- How a call of the document's parser ends: what is new may be forgotten. -/
def RFin (S : Heap) (pid : Nat) (R : AEnd → Heap → Prop) (e : AEnd) (S' : Heap) : Prop := ∃ T g, S' = T ++ g ∧ Step pid S T ∧ (∃ ts q o m, RAt T pid ts q o m) ∧ e.sc S.length = true ∧ R e T
theorem ACalls.rfin {P : Program} {β : Base} {f args S pid} {R : AEnd → Heap → Prop} (h : ACalls P β f args S (RFin S pid R)) : ACalls P β f args S R :=
  h.cut fun e S' ⟨T, g, e1, hst, ⟨ts, q, o, m, ha⟩, hsc, hR⟩ => ⟨T, g, e1, hst.1.symm, fun o' ho' => by
    obtain ⟨j, hj, rfl⟩ := List.getElem_of_mem ho'
    by_cases hjp : j = pid
    · subst hjp
      obtain ⟨ob, h1, h2⟩ := ha.sc S.length
      rw [List.getElem?_eq_getElem hj] at h1
      cases h1
      exact .inr h2
    · have := hst.2 j hjp
      rw [List.getElem?_eq_getElem hj] at this
      exact .inl (List.mem_of_getElem? this.symm), hsc, hR⟩

def failQ (c : Int) : Q → Q
  | .ok _ => .error c
  | .error d => .error d
def isQ (k : Int) (s : Bs) : Q → Bool
  | .ok l => isT k s l
  | .error _ => false
@[simp] theorem isQ_ok (k : Int) (s : Bs) (l : List Tok) : isQ k s (.ok l) = isT k s l := rfl
@[simp] theorem isQ_err (k : Int) (s : Bs) (d : Int) : isQ k s (.error d) = false := rfl
def gotQ (k : Int) (s : Bs) (q : Q) : Q := match q with
  | .ok l => if isT k s l then .ok l.tail else .ok l
  | .error d => .error d
def mustQ (k : Int) (s : Bs) (q : Q) : Q := match q with
  | .ok l => need k s l
  | .error d => .error d
def liftQ {α : Type} (F : List Tok → Res α) : Q → Res α
  | .ok l => F l
  | .error c => .error c
/-- What comes of a reading: the law's answer; or some answer, and the error. -/
def Rl {α : Type} (r : Res α) (x : α) (q : Q) : Prop := match r with
  | .ok (y, l) => x = y ∧ q = .ok l
  | .error c => q = .error c ∧ c ≠ 0
theorem RO.ne {ts c i e} (h : RO ts (.error c) i e) : c ≠ 0 := h.2.1

section
variable {S : Heap} {pid : Nat} {ts : List Tok} {q : Q} {o m : Nat}
theorem r24 (h : RAt S pid ts q o m) {c : Int} (hc : c ≠ 0) : ACalls Tryz.prog (B0 w0) 24 [.ptr pid 0 0, .int c] S fun e S' => Step pid S S' ∧ e = .ret .undef ∧ RAt S' pid ts (failQ c q) o m := by
  obtain ⟨fl, i, e, h0, h1, h2, h3⟩ := h
  have hl := lt_of_some h1
  refine fn_sound tryOrd (f24_c _) (by simp [f24]) ?_
  cases q with
  | ok l =>
    obtain ⟨rfl, h3⟩ := h3
    simp [f24, f24m, h1]
    exact ⟨Step.set _, fl, i, c, h0, by rw [List.getElem?_set_self hl], h2, hc, rfl⟩
  | error d =>
    obtain ⟨h3, rfl⟩ := h3
    have hb : (e == 0) = false := beq_eq_false_iff_ne.2 h3
    simp [f24, f24m, h1, hb]
    exact ⟨Step.refl _ _, fl, i, e, h0, h1, h2, h3, rfl⟩

set_option maxHeartbeats 1000000 in
theorem r90 (h : RAt S pid ts q o m) (k : Int) (s : Bs) : ACalls Tryz.prog (B0 w0) 90 [.ptr pid 0 0, .int k, .str s] S fun e S' => e = .ret (.bool (isQ k s q)) ∧ S' = S := by
  obtain ⟨fl, i, e, h0, h1, h2, h3⟩ := h
  refine fn_sound tryOrd (f90_c _) (by simp [f90]) ?_
  cases q with
  | error d =>
    obtain ⟨h3, rfl⟩ := h3
    have hb : (e == 0) = false := beq_eq_false_iff_ne.2 h3
    simp [f90, f90m, h1, hb, isQ]
  | ok l =>
    obtain ⟨rfl, rfl⟩ := h3
    by_cases hi : i < ts.length
    · have hiI : (i : Int) < (ts.length : Int) := by omega
      have hg : (toksV ts).getD i [] = tokC ts[i] := toksV_get ts i hi
      obtain ⟨p, q1, q2, q3⟩ := two_elem (H := S) (by simpa using hi) hg (k := 4) (by simp [tokC]) fl
      obtain ⟨pa, q4, q5⟩ := q3 0
      obtain ⟨pb, q6, q7⟩ := q3 1
      have q8 := q5 false 1 (by omega)
      have q9 := q7 false 1 (by omega)
      have hd : ts.drop i = ts[i] :: ts.drop (i + 1) := List.drop_eq_getElem_cons hi
      have t1 : takeAt false 1 (tokC ts[i]) 0 = .int ts[i].kind := by simp [tokC, takeAt]
      have t2 : takeAt false 1 (tokC ts[i]) 1 = .str ts[i].text := by simp [tokC, takeAt]
      rw [t1] at q8
      rw [t2] at q9
      have hT : isQ k s (.ok (ts.drop i)) = (decide (ts[i].kind = k) && decide (ts[i].text = s)) := by
        rw [isQ_ok, hd, isT_cons]
        try (rw [Bool.eq_iff_iff]; simp)
      rw [hT]
      generalize ts[i] = t at *
      by_cases hk : t.kind = k
      · simp [f90, f90m, h1, hiI, q1, q4, q6, q8, q9, hk]
      · have hkb : (t.kind == k) = false := beq_eq_false_iff_ne.2 hk
        simp [f90, f90m, h1, hiI, q1, q4, q6, q8, q9, hkb, hk]
    · have hiI : ¬ (i : Int) < (ts.length : Int) := by omega
      have hd : ts.drop i = [] := List.drop_eq_nil_of_le (by omega)
      rw [hd]
      simp [f90, f90m, h1, hiI, isQ, isT]

theorem r48 (hts : ts.length ≤ 4000) (h : RAt S pid ts q o m) (k : Int) (s : Bs) : ACalls Tryz.prog (B0 w0) 48 [.ptr pid 0 0, .int k, .str s] S fun e S' => Step pid S S' ∧ e = .ret (.bool (isQ k s q)) ∧ RAt S' pid ts (gotQ k s q) o m := by
  refine fn_sound tryOrd (f48_c _) (by simp [f48]) ?_
  simp [f48, f48m]
  refine (r90 h k s).use ?_
  rintro e S1 ⟨rfl, rfl⟩
  have hh := h
  obtain ⟨fl, i, e, h0, h1, h2, h3⟩ := h
  have hl := lt_of_some h1
  cases hq : isQ k s q with
  | false =>
    have hg : gotQ k s q = q := by
      cases q with
      | error d => rfl
      | ok l => rw [isQ_ok] at hq; simp [gotQ, hq]
    simp [hg]
    exact ⟨Step.refl _ _, hh⟩
  | true =>
    cases q with
    | error d => cases hq
    | ok l =>
      rw [isQ_ok] at hq
      obtain ⟨rfl, rfl⟩ := h3
      have hi : i < ts.length := by
        rcases Nat.lt_or_ge i ts.length with h | h
        · exact h
        · rw [List.drop_eq_nil_of_le h] at hq; cases hq
      have hw := wrapS i (by omega)
      simp [h1, hw]
      refine ⟨Step.set _, fl, i + 1, 0, h0, by rw [List.getElem?_set_self hl]; simp, by omega, ?_⟩
      have hgq : gotQ k s (.ok (ts.drop i)) = .ok (ts.drop i).tail := by simp only [gotQ]; rw [if_pos hq]
      rw [hgq, List.tail_drop]
      exact ⟨rfl, rfl⟩

theorem r51 (hts : ts.length ≤ 4000) (h : RAt S pid ts q o m) (k : Int) (s : Bs) : ACalls Tryz.prog (B0 w0) 51 [.ptr pid 0 0, .int k, .str s] S fun e S' => Step pid S S' ∧ e = .ret .undef ∧ RAt S' pid ts (mustQ k s q) o m := by
  refine fn_sound tryOrd (f51_c _) (by simp [f51]) ?_
  simp [f51, f51m]
  refine (r48 hts h k s).use ?_
  rintro e S1 ⟨hst, rfl, h1⟩
  cases hq : isQ k s q with
  | true =>
    have hg : gotQ k s q = mustQ k s q := by
      cases q with
      | error d => rfl
      | ok l => rw [isQ_ok] at hq; simp [gotQ, mustQ, need, hq]
    rw [hg] at h1
    simp
    exact ⟨hst, h1⟩
  | false =>
    simp
    refine (r24 h1 (c := 130) (by decide)).use ?_
    rintro e S2 ⟨hst2, rfl, h2⟩
    have hg : failQ 130 (gotQ k s q) = mustQ k s q := by
      cases q with
      | error d => rfl
      | ok l => rw [isQ_ok] at hq; simp [gotQ, mustQ, need, hq, failQ]
    rw [hg] at h2
    simp
    exact ⟨hst.trans hst2, h2⟩
end
end Go.Abs
set_option linter.unusedSimpArgs false
set_option linter.unusedVariables false
namespace Go.Abs
open Go Go.RowKit Go.Proofs Go.Lx Go.Pz
variable {w0 : World}

/-- What a reading of the document's parser answers. -/
def RR {α : Type} (V : α → AVal) (S : Heap) (pid : Nat) (ts : List Tok) (o m : Nat) (r : Res α) (e : AEnd) (S' : Heap) : Prop :=
  Step pid S S' ∧ ∃ x q', e = .ret (V x) ∧ RAt S' pid ts q' o m ∧ Rl r x q'
theorem RR.fin {α : Type} {V : α → AVal} {S T g : Heap} {pid : Nat} {ts : List Tok} {o m : Nat} {r : Res α} {x : α} {q' : Q} (hst : Step pid S T) (ha : RAt T pid ts q' o m) (hv : (V x).sc S.length = true) (hr : Rl r x q') : RFin S pid (RR V S pid ts o m r) (.ret (V x)) (T ++ g) :=
  ⟨T, g, rfl, hst, ⟨_, _, _, _, ha⟩, hv, hst, x, q', rfl, ha, hr⟩
section
variable {S : Heap} {pid : Nat} {ts : List Tok} {q : Q} {o m : Nat}
set_option maxHeartbeats 2000000 in
theorem r50 (hts : ts.length ≤ 4000) (h : RAt S pid ts q o m) : ACalls Tryz.prog (B0 w0) 50 [.ptr pid 0 0] S (RR (fun n : Bs => AVal.str n) S pid ts o m (liftQ (nameR resv) q)) := by
  refine ACalls.rfin (pid := pid) ?_
  have hh := h
  have hl := h.lt
  have hg := hmoreG hl
  have hs := hsetG hl
  obtain ⟨fl, i, e, h0, h1, h2, h3⟩ := h
  have dead : ∀ (g : Heap) (n : Bs), (∃ c, q = .error c ∧ c ≠ 0) ∨ (∃ l, q = .ok l ∧ nameR resv l = .error 130) → ∀ {S' : Heap} {e : AEnd}, Step pid (S ++ g) S' ∧ e = .ret .undef ∧ RAt S' pid ts (failQ 130 q) o m → RFin S pid (RR (fun n : Bs => AVal.str n) S pid ts o m (liftQ (nameR resv) q)) (.ret (.str n)) S' := fun g n hq S' e ⟨h4, h5, h6⟩ => by
    obtain ⟨T, rfl, hst⟩ := h4.split hl
    refine RR.fin (V := fun n : Bs => AVal.str n) hst (h6.less (hst.1 ▸ hl)) rfl ?_
    rcases hq with ⟨c, rfl, hc⟩ | ⟨l, rfl, hn⟩
    · exact ⟨rfl, hc⟩
    · show Rl (nameR resv l) _ _
      rw [hn]
      exact ⟨rfl, by decide⟩
  refine fn_sound tryOrd (f50_c _) (by simp [f50]) ?_
  cases q with
  | error d =>
    obtain ⟨h3, rfl⟩ := h3
    have hb : (e == 0) = false := beq_eq_false_iff_ne.2 h3
    simp [f50, f50m, h1, hb]
    refine (r24 hh (c := 130) (by decide)).use ?_
    rintro e' S1 h4
    have h5 := dead [] [] (.inl ⟨e, rfl, h3⟩) (S' := S1) (e := e') (by simpa using h4)
    obtain ⟨_, rfl, _⟩ := h4
    simp
    exact h5
  | ok l =>
    obtain ⟨rfl, rfl⟩ := h3
    by_cases hi : i < ts.length
    · have hiI : (i : Int) < (ts.length : Int) := by omega
      have hgt : (toksV ts).getD i [] = tokC ts[i] := toksV_get ts i hi
      have q1 := li_addr (k := 4) (by simpa using hi) hgt (by simp [tokC])
      have q4 := li_load (k := 4) (by simpa using hi) hgt (by simp [tokC]) true 4 0 (by omega)
      have hd : ts.drop i = ts[i] :: ts.drop (i + 1) := List.drop_eq_getElem_cons hi
      have t1 : takeAt true 4 (tokC ts[i]) 0 = .agg (tokC ts[i]) := by simp [tokC, takeAt]
      rw [t1] at q4
      have hn : nameR resv (ts.drop i) = if ts[i].kind = 1 ∧ ts[i].text ∉ resv then .ok (ts[i].text, ts.drop (i + 1)) else .error 130 := by rw [hd]; rfl
      have hw := wrapS i (by omega)
      generalize ts[i] = t at *
      by_cases hk : t.kind = 1
      · simp [f50, f50m, h1, hg, hiI, q1, q4, tokC, hk]
        refine (w63 t.text _).use ?_
        rintro e' S1 ⟨rfl, rfl⟩
        by_cases hr : t.text ∈ resv
        · simp [hr]
          rw [if_neg (by simp [hr])] at hn
          refine (r24 (hh.more _) (c := 130) (by decide)).use ?_
          rintro e' S1 h4
          have h5 := dead _ [] (.inr ⟨_, rfl, hn⟩) h4
          obtain ⟨_, rfl, _⟩ := h4
          simp
          exact h5
        · rw [if_pos ⟨hk, hr⟩] at hn
          simp [hr, hg, hs, h1, hw]
          refine RR.fin (V := fun n : Bs => AVal.str n) (x := t.text) (q' := .ok (ts.drop (i + 1))) (Step.set _) ⟨fl, i + 1, 0, h0, by rw [List.getElem?_set_self hl]; simp, by omega, rfl, rfl⟩ rfl ?_
          show Rl (nameR resv _) _ _
          rw [hn]
          exact ⟨rfl, rfl⟩
      · have hkb : (t.kind == 1) = false := beq_eq_false_iff_ne.2 hk
        rw [if_neg (by simp [hk])] at hn
        simp [f50, f50m, h1, hg, hiI, q1, q4, tokC, hkb]
        refine (r24 (hh.more _) (c := 130) (by decide)).use ?_
        rintro e' S1 h4
        have h5 := dead _ [] (.inr ⟨_, rfl, hn⟩) h4
        obtain ⟨_, rfl, _⟩ := h4
        simp
        exact h5
    · have hiI : ¬ (i : Int) < (ts.length : Int) := by omega
      have hd : ts.drop i = [] := List.drop_eq_nil_of_le (by omega)
      have hn : nameR resv (ts.drop i) = .error 130 := by rw [hd]; rfl
      simp [f50, f50m, h1, hiI]
      refine (r24 hh (c := 130) (by decide)).use ?_
      rintro e' S1 h4
      have h5 := dead [] [] (.inr ⟨_, rfl, hn⟩) (S' := S1) (e := e') (by simpa using h4)
      obtain ⟨_, rfl, _⟩ := h4
      simp
      exact h5
end
end Go.Abs
set_option linter.unusedSimpArgs false
set_option linter.unusedVariables false
namespace Go.Abs
open Go Go.RowKit Go.Proofs Go.Lx Go.Pz
variable {w0 : World}

def moreQ (n most : Nat) (q : Q) : Bool × Q := if isQ 5 [44] q = true then (if n = most then (false, failQ 151 q) else (true, gotQ 5 [44] q)) else (false, q)
def aliasR (l : List Tok) : Res Bs := if isT 1 [97, 115] l then nameR resv l.tail else .ok ([], l)
section
variable {S : Heap} {pid : Nat} {ts : List Tok} {q : Q} {o m : Nat}
theorem r55 (hts : ts.length ≤ 4000) (h : RAt S pid ts q o m) (n most : Nat) : ACalls Tryz.prog (B0 w0) 55 [.ptr pid 0 0, .int n, .int most] S fun e S' => Step pid S S' ∧ e = .ret (.bool (moreQ n most q).1) ∧ RAt S' pid ts (moreQ n most q).2 o m := by
  refine fn_sound tryOrd (f55_c _) (by simp [f55]) ?_
  simp [f55, f55m]
  refine (r90 h 5 [44]).use ?_
  rintro e S1 ⟨rfl, rfl⟩
  have hh := h
  have hl := h.lt
  obtain ⟨fl, i, e, h0, h1, h2, h3⟩ := h
  cases hq : isQ 5 [44] q with
  | false =>
    simp [moreQ, hq]
    exact ⟨Step.refl _ _, hh⟩
  | true =>
    by_cases hn : n = most
    · have hnI : (n : Int) = (most : Int) := by omega
      simp [hnI]
      refine (r24 hh (c := 151) (by decide)).use ?_
      rintro e S2 ⟨h4, rfl, h5⟩
      simp [moreQ, hq, hn]
      exact ⟨h4, h5⟩
    · have hnI : ((n : Int) == (most : Int)) = false := beq_eq_false_iff_ne.2 (by omega)
      cases q with
      | error d => cases hq
      | ok l =>
        rw [isQ_ok] at hq
        obtain ⟨rfl, rfl⟩ := h3
        have hi : i < ts.length := by
          rcases Nat.lt_or_ge i ts.length with h | h
          · exact h
          · rw [List.drop_eq_nil_of_le h] at hq; cases hq
        have hw := wrapS i (by omega)
        have hgq : gotQ 5 [44] (.ok (ts.drop i)) = .ok (ts.drop i).tail := by simp only [gotQ]; rw [if_pos hq]
        simp [hnI, h1, hw, moreQ, hq, hn, hgq]
        refine ⟨Step.set _, fl, i + 1, 0, h0, by rw [List.getElem?_set_self hl]; simp, by omega, rfl, ?_⟩
        simp
theorem r91 (hts : ts.length ≤ 4000) (h : RAt S pid ts q o m) : ACalls Tryz.prog (B0 w0) 91 [.ptr pid 0 0] S (RR (fun n : Bs => AVal.str n) S pid ts o m (liftQ aliasR q)) := by
  refine fn_sound tryOrd (f91_c _) (by simp [f91]) ?_
  simp [f91, f91m]
  refine (r48 hts h 1 [97, 115]).use ?_
  rintro e S1 ⟨hst, rfl, h1⟩
  cases hq : isQ 1 [97, 115] q with
  | false =>
    have hg : gotQ 1 [97, 115] q = q := by
      cases q with
      | error d => rfl
      | ok l => rw [isQ_ok] at hq; simp [gotQ, hq]
    rw [hg] at h1
    simp
    refine ⟨hst, [], q, rfl, h1, ?_⟩
    cases q with
    | error d => exact ⟨rfl, by obtain ⟨_, _, _, _, _, h2⟩ := h1; exact h2.ne⟩
    | ok l =>
      rw [isQ_ok] at hq
      show Rl (aliasR l) _ _
      rw [aliasR, if_neg (by simp [hq])]
      exact ⟨rfl, rfl⟩
  | true =>
    cases q with
    | error d => cases hq
    | ok l =>
      rw [isQ_ok] at hq
      have hg : gotQ 1 [97, 115] (.ok l) = .ok l.tail := by simp only [gotQ]; rw [if_pos hq]
      rw [hg] at h1
      simp
      refine (r50 hts h1).use ?_
      rintro e S2 ⟨hst2, n, q', rfl, h2, h3⟩
      simp
      refine ⟨hst.trans hst2, n, q', rfl, h2, ?_⟩
      show Rl (aliasR l) _ _
      rw [aliasR, if_pos hq]
      exact h3
end
end Go.Abs
set_option linter.unusedSimpArgs false
set_option linter.unusedVariables false
namespace Go.Abs
open Go Go.RowKit Go.Proofs Go.Lx Go.Pz
variable {w0 : World}

/-- An operator, if one stands there. -/
def opQ (O : List Tok → Option (Int × List Tok)) (q : Q) : Int × Q := match q with
  | .error d => (0, .error d)
  | .ok l => match O l with
    | none => (0, .ok l)
    | some (op, l') => (op, .ok l')
theorem gotQ_false {k : Int} {s : Bs} {q : Q} (h : isQ k s q = false) : gotQ k s q = q := by
  cases q with
  | error d => rfl
  | ok l => rw [isQ_ok] at h; simp [gotQ, h]
theorem gotQ_true {k : Int} {s : Bs} {q : Q} (h : isQ k s q = true) : ∃ l, q = .ok l ∧ isT k s l = true ∧ gotQ k s q = .ok l.tail := by
  cases q with
  | error d => cases h
  | ok l => rw [isQ_ok] at h; exact ⟨l, rfl, h, by simp only [gotQ]; rw [if_pos h]⟩

/-- What level answers. -/
def LvR (S : Heap) (pid : Nat) (ts : List Tok) (o m : Nat) (r : Int × Q) (e : AEnd) (S' : Heap) : Prop := Step pid S S' ∧ e = .ret (.int r.1) ∧ RAt S' pid ts r.2 o m
theorem LvR.fin {S T g : Heap} {pid : Nat} {ts : List Tok} {o m : Nat} {r : Int × Q} (hst : Step pid S T) (ha : RAt T pid ts r.2 o m) : RFin S pid (LvR S pid ts o m r) (.ret (.int r.1)) (T ++ g) :=
  ⟨T, g, rfl, hst, ⟨_, _, _, _, ha⟩, rfl, hst, rfl, ha⟩
section
variable {S : Heap} {pid : Nat} {ts : List Tok} {q : Q} {o m : Nat}
set_option maxHeartbeats 1000000 in
theorem r110w (hts : ts.length ≤ 4000) (h : RAt S pid ts q o m) {L : Int} {w : Bs} {op : Int} (hL : (L = 0 ∧ w = [111, 114] ∧ op = 18) ∨ (L = 1 ∧ w = [97, 110, 100] ∧ op = 17)) :
    ACalls Tryz.prog (B0 w0) 110 [.ptr pid 0 0, .int L] S (LvR S pid ts o m (opQ (fun l => if isT 1 w l then some (op, l.tail) else none) q)) := by
  refine ACalls.rfin (pid := pid) ?_
  have hl := h.lt
  have key : ∀ {T : Heap} {g : Heap}, Step pid S T → ∀ {b : Bool}, isQ 1 w q = b → RAt T pid ts (gotQ 1 w q) o m → RFin S pid (LvR S pid ts o m (opQ (fun l => if isT 1 w l then some (op, l.tail) else none) q)) (.ret (.int (if b = true then op else 0))) (T ++ g) := fun {T g} hst {b} hb ha => by
    cases b with
    | false =>
      rw [gotQ_false hb] at ha
      have e : opQ (fun l => if isT 1 w l then some (op, l.tail) else none) q = (0, q) := by
        cases q with
        | error d => rfl
        | ok l => rw [isQ_ok] at hb; simp [opQ, hb]
      rw [e]
      exact LvR.fin (r := (0, q)) hst ha
    | true =>
      obtain ⟨l, rfl, hT, hg⟩ := gotQ_true hb
      rw [hg] at ha
      have e : opQ (fun l => if isT 1 w l then some (op, l.tail) else none) (.ok l) = (op, .ok l.tail) := by simp [opQ, hT]
      rw [e]
      exact LvR.fin (r := (op, .ok l.tail)) hst ha
  refine fn_sound tryOrd (f110_c _) (by simp [f110]) ?_
  rcases hL with ⟨rfl, rfl, rfl⟩ | ⟨rfl, rfl, rfl⟩
  all_goals
    simp [f110, f110m]
    refine (r48 hts (h.more _) 1 _).use ?_
    rintro e S1 ⟨hsq, rfl, h1⟩
    obtain ⟨T, rfl, hst⟩ := hsq.split hl
    have e1 := hst.1
    have h1 := h1.less (hst.1 ▸ hl)
    generalize hb : isQ 1 _ q = b
    have hk := fun g => key (g := g) hst hb h1
    cases b with
    | true =>
      simp [e1]
      exact hk _
    | false =>
      simp [e1]
      exact hk _
end
end Go.Abs
set_option linter.unusedSimpArgs false
set_option linter.unusedVariables false
namespace Go.Abs
open Go Go.RowKit Go.Proofs Go.Lx Go.Pz
variable {w0 : World}

def op3 (s0 s1 s2 : Bs) (n0 n1 n2 : Int) (l : List Tok) : Option (Int × List Tok) :=
  if isT 5 s0 l then some (n0, l.tail) else if isT 5 s1 l then some (n1, l.tail) else if isT 5 s2 l then some (n2, l.tail) else none
theorem op3_mul : op3 [42] [47] [37] 9 10 11 = opMul := rfl
theorem op3_sum : op3 [43] [45] [124, 124] 7 8 12 = opSum := by
  funext l
  cases l with
  | nil => rfl
  | cons t r =>
    unfold op3 opSum
    simp only [operS, isT_cons]
    by_cases h5 : t.kind = 5
    · simp only [h5, true_and]
      by_cases h1 : t.text = [124, 124]
      · simp [h1]
      · simp [h1]
    · simp [h5]
def L3G (o1 o2 o3 o4 : List AVal) : Heap := [.cells 6 [o1] (some 1), .cells 6 [o2] (some 1), .cells 6 [o3] (some 1), .cells 6 [o4] (some 1)]
def LvI (S : Heap) (pid : Nat) (ts : List Tok) (q : Q) (o m : Nat) (L : Int) (s0 s1 s2 : Bs) (n0 n1 n2 : Int) (o1 o2 o3 o4 : List AVal) (k : Nat) (a : Tmps) (S' : Heap) : Prop :=
  ∃ (i : Nat) (T : Heap), k = 3 - i ∧ i ≤ 3 ∧ Step pid S T ∧ S' = T ++ L3G o1 o2 o3 o4 ∧ get a 0 = .ptr pid 0 0 ∧ get a 1 = .int L ∧ get a 7 = .ptr (T.length + 2) 0 0 ∧ get a 8 = .ptr (T.length + 3) 0 0 ∧ get a 9 = .int i ∧ RAt T pid ts q o m ∧
    (0 < i → isQ 5 s0 q = false) ∧ (1 < i → isQ 5 s1 q = false) ∧ (2 < i → isQ 5 s2 q = false)
theorem wr0 : IntKind.i64.wrap 0 = 0 := by decide
theorem wr1 : IntKind.i64.wrap 1 = 1 := by decide
theorem wr2 : IntKind.i64.wrap 2 = 2 := by decide
theorem wr3 : IntKind.i64.wrap 3 = 3 := by decide
theorem wr4 : IntKind.i64.wrap 4 = 4 := by decide
theorem wr5 : IntKind.i64.wrap 5 = 5 := by decide
section
variable {S : Heap} {pid : Nat} {ts : List Tok} {q : Q} {o m : Nat}
set_option maxHeartbeats 4000000 in
theorem r110s (hts : ts.length ≤ 4000) (h : RAt S pid ts q o m) {L : Int} {s0 s1 s2 : Bs} {n0 n1 n2 : Int} (hL : (L = 4 ∧ s0 = [43] ∧ s1 = [45] ∧ s2 = [124, 124] ∧ n0 = 7 ∧ n1 = 8 ∧ n2 = 12) ∨ (L = 5 ∧ s0 = [42] ∧ s1 = [47] ∧ s2 = [37] ∧ n0 = 9 ∧ n1 = 10 ∧ n2 = 11)) :
    ACalls Tryz.prog (B0 w0) 110 [.ptr pid 0 0, .int L] S (LvR S pid ts o m (opQ (op3 s0 s1 s2 n0 n1 n2) q)) := by
  refine ACalls.rfin (pid := pid) ?_
  have hl := h.lt
  have no : isQ 5 s0 q = false → isQ 5 s1 q = false → isQ 5 s2 q = false → opQ (op3 s0 s1 s2 n0 n1 n2) q = (0, q) := fun h0 h1 h2 => by
    cases q with
    | error d => rfl
    | ok l => rw [isQ_ok] at h0 h1 h2; simp [opQ, op3, h0, h1, h2]
  have y0 : ∀ l, q = .ok l → isT 5 s0 l = true → opQ (op3 s0 s1 s2 n0 n1 n2) q = (n0, .ok l.tail) := fun l e h0 => by subst e; simp [opQ, op3, h0]
  have y1 : ∀ l, q = .ok l → isQ 5 s0 q = false → isT 5 s1 l = true → opQ (op3 s0 s1 s2 n0 n1 n2) q = (n1, .ok l.tail) := fun l e h0 h1 => by subst e; rw [isQ_ok] at h0; simp [opQ, op3, h0, h1]
  have y2 : ∀ l, q = .ok l → isQ 5 s0 q = false → isQ 5 s1 q = false → isT 5 s2 l = true → opQ (op3 s0 s1 s2 n0 n1 n2) q = (n2, .ok l.tail) := fun l e h0 h1 h2 => by subst e; rw [isQ_ok] at h0 h1; simp [opQ, op3, h0, h1, h2]
  generalize hR : opQ (op3 s0 s1 s2 n0 n1 n2) q = R at *
  have fin : ∀ {T g : Heap} {r : Int × Q}, R = r → Step pid S T → RAt T pid ts r.2 o m → RFin S pid (LvR S pid ts o m R) (.ret (.int r.1)) (T ++ g) := fun e hst ha => by rw [e]; exact LvR.fin hst ha
  clear hR
  refine fn_sound tryOrd (f110_c _) (by simp [f110]) ?_
  obtain ⟨o1, o2, ho1, ho2⟩ : ∃ o1 o2 : List AVal, o1 = [.str [111, 114], .str [97, 110, 100], .str [], .str [], .str [], .str []] ∧ o2 = [.int 18, .int 17, .int 0, .int 0, .int 0, .int 0] := ⟨_, _, rfl, rfl⟩
  obtain ⟨o3, o4, ho3, ho4⟩ : ∃ o3 o4 : List AVal, o3 = [.str [43], .str [45], .str [124, 124], .str [42], .str [47], .str [37]] ∧ o4 = [.int 7, .int 8, .int 12, .int 9, .int 10, .int 11] := ⟨_, _, rfl, rfl⟩
  obtain ⟨I, hI⟩ : ∃ I, I = LvI S pid ts q o m L s0 s1 s2 n0 n1 n2 o1 o2 o3 o4 := ⟨_, rfl⟩
  rcases hL with ⟨rfl, rfl, rfl, rfl, rfl, rfl, rfl⟩ | ⟨rfl, rfl, rfl, rfl, rfl, rfl, rfl⟩
  all_goals
    simp [f110, f110m]
    refine mwp_loop (I := I) (n := 3) ?_ ?_ <;> subst hI
    · exact ⟨0, S, rfl, by omega, Step.refl _ _, by rw [L3G, ho1, ho2, ho3, ho4], rfl, rfl, rfl, rfl, rfl, h, fun h => by omega, fun h => by omega, fun h => by omega⟩
    rintro k a S' ⟨i, T, rfl, hi, hst, rfl, b0, b1, b7, b8, b9, ha, h0, h1, h2⟩
    have hTl := ha.lt
    have hc : i = 0 ∨ i = 1 ∨ i = 2 ∨ i = 3 := by omega
    rw [L3G, ho1, ho2, ho3, ho4]
    rcases hc with rfl | rfl | rfl | rfl
    rotate_left 3
    · simp [f110b0, b0, b1, b7, b8, b9]
      exact fin (r := (0, q)) (no (h0 (by omega)) (h1 (by omega)) (h2 (by omega))) hst ha
    all_goals
      simp [f110b0, b0, b1, b7, b8, b9, wr0, wr1, wr2, wr3, wr4, wr5]
      refine (r48 hts (ha.more _) 5 _).use ?_
      rintro e S1 ⟨hsq, rfl, h3⟩
      obtain ⟨T1, rfl, hst1⟩ := hsq.split hTl
      have e1 := hst1.1
      have h3 := h3.less (hst1.1 ▸ hTl)
      generalize hb : isQ 5 _ q = b
      cases b with
      | true =>
        obtain ⟨l, hq, hT, hg⟩ := gotQ_true hb
        rw [hg] at h3
        simp [b0, b1, b7, b8, b9, e1, wr0, wr1, wr2, wr3, wr4, wr5]
        first
          | exact fin (r := (_, .ok l.tail)) (y0 l hq hT) (hst.trans hst1) h3
          | exact fin (r := (_, .ok l.tail)) (y1 l hq (h0 (by omega)) hT) (hst.trans hst1) h3
          | exact fin (r := (_, .ok l.tail)) (y2 l hq (h0 (by omega)) (h1 (by omega)) hT) (hst.trans hst1) h3
      | false =>
        rw [gotQ_false hb] at h3
        simp [b0, b1, b7, b8, b9, e1, wr0, wr1, wr2, wr3, wr4, wr5]
        first
          | exact ⟨2, by omega, 1, T1, rfl, by omega, hst.trans hst1, rfl, by simp [b0], by simp [b1], by simp [b7, e1], by simp [b8, e1], by simp, h3, fun _ => hb, fun h => by omega, fun h => by omega⟩
          | exact ⟨1, by omega, 2, T1, rfl, by omega, hst.trans hst1, rfl, by simp [b0], by simp [b1], by simp [b7, e1], by simp [b8, e1], by simp, h3, fun _ => h0 (by omega), fun _ => hb, fun h => by omega⟩
          | exact ⟨3, T1, rfl, by omega, hst.trans hst1, rfl, by simp [b0], by simp [b1], by simp [b7, e1], by simp [b8, e1], by simp, h3, fun _ => h0 (by omega), fun _ => h1 (by omega), fun _ => hb⟩
end
end Go.Abs
set_option linter.unusedSimpArgs false
set_option linter.unusedVariables false
namespace Go.Abs
open Go Go.RowKit Go.Proofs Go.Lx Go.Pz
variable {w0 : World}

abbrev XQ (S : Heap) (pid : Nat) (ts : List Tok) (o m : Nat) (r : Res Ex) := RR (fun x => AVal.agg (exC x)) S pid ts o m r
/-- What expr answers at a level. -/
def XSpec (w0 : World) (pid : Nat) (ts : List Tok) (o m n : Nat) (L : Int) (F : List Tok → Res Ex) : Prop :=
  ∀ (S : Heap) (q : Q), RAt S pid ts q o m → (∀ l, q = .ok l → l.length ≤ n) → ACalls Tryz.prog (B0 w0) 92 [.ptr pid 0 0, .int L] S (XQ S pid ts o m (liftQ F q))
abbrev z7 : List AVal := [.int 0, .nilS, .int 0, .int 0, .int 0, .str [], .str []]

section
variable {pid : Nat} {ts : List Tok} {o m n : Nat}
/-- Behind an error nothing is read. -/
theorem x_dead {S : Heap} {c : Int} (h : RAt S pid ts (.error c) o m) (L : Int) (F : List Tok → Res Ex) : ACalls Tryz.prog (B0 w0) 92 [.ptr pid 0 0, .int L] S (XQ S pid ts o m (liftQ F (.error c))) := by
  refine ACalls.rfin (pid := pid) ?_
  have hh := h
  have hl := h.lt
  have hg := hmoreG hl
  obtain ⟨fl, i, e, h0, h1, h2, h3, rfl⟩ := h
  have hb : (e != 0) = true := by simp [h3]
  refine fn_sound tryOrd (f92_c _) (by simp [f92]) ?_
  simp [f92, f92m, hg, h1, hb]
  have hz : AVal.agg z7 = .agg (exC .zero) := by rw [exC_zero]
  rw [hz]
  exact RR.fin (V := fun x => AVal.agg (exC x)) (x := .zero) (Step.refl _ _) hh (by simp) ⟨rfl, h3⟩

/-- A chain's loop. -/
def CI2 (S : Heap) (pid : Nat) (ts : List Tok) (o m n : Nat) (L : Int) (G : List Tok → Res Ex) (O : List Tok → Option (Int × List Tok)) (r : Res Ex) (k : Nat) (a : Tmps) (S' : Heap) : Prop :=
  ∃ (x : Ex) (q : Q) (T g : Heap), Step pid S T ∧ S' = T ++ (.cells 7 [z7] (some 1) :: .cells 7 [exC x] (some 1) :: g) ∧ get a 0 = .ptr pid 0 0 ∧ get a 1 = .int L ∧ get a 4 = .ptr T.length 0 0 ∧ get a 9 = .ptr (T.length + 1) 0 0 ∧ RAt T pid ts q o m ∧
    match q with
    | .ok l => l.length ≤ n ∧ l.length < k ∧ r = chainF G O k x l
    | .error c => r = .error c
set_option maxHeartbeats 4000000 in
theorem x_chain {L : Int} (hL : L = 0 ∨ L = 1 ∨ L = 4 ∨ L = 5) {G : List Tok → Res Ex} {O : List Tok → Option (Int × List Tok)} (hG : Eats n G) (hO : EatsO O) (hO0 : ∀ l op l', O l = some (op, l') → op ≠ 0)
    (hx : XSpec w0 pid ts o m n (L + 1) G) (hlv : ∀ S q, RAt S pid ts q o m → ACalls Tryz.prog (B0 w0) 110 [.ptr pid 0 0, .int L] S (LvR S pid ts o m (opQ O q))) : XSpec w0 pid ts o m n L (chain G O) := fun S q h hn => by
  cases q with
  | error c => exact x_dead h L (chain G O)
  | ok l0 =>
  have hl0 := hn l0 rfl
  refine ACalls.rfin (pid := pid) ?_
  have hh := h
  have hl := h.lt
  have hg := hmoreG hl
  obtain ⟨fl, i, e, h0, h1, h2, rfl, rfl⟩ := h
  obtain ⟨r, hr⟩ : ∃ r, chain G O (ts.drop i) = r := ⟨_, rfl⟩
  have hlift : liftQ (chain G O) (.ok (ts.drop i)) = r := hr
  rw [hlift]
  rw [chain] at hr
  have hLw : IntKind.i64.wrap (L + 1) = L + 1 := by rcases hL with rfl | rfl | rfl | rfl <;> decide
  have l2 : (L == 2) = false := by rcases hL with rfl | rfl | rfl | rfl <;> rfl
  have l6 : (L == 6) = false := by rcases hL with rfl | rfl | rfl | rfl <;> rfl
  have l3 : (L == 3) = false := by rcases hL with rfl | rfl | rfl | rfl <;> rfl
  have l7 : (L == 7) = false := by rcases hL with rfl | rfl | rfl | rfl <;> rfl
  refine fn_sound tryOrd (f92_c _) (by simp [f92]) ?_
  simp [f92, f92m, hg, h1, l2, l6, l3, l7, hLw]
  refine (hx _ _ (hh.more _) hn).use ?_
  rintro e S1 ⟨hsq, x, q1, rfl, h3, h4⟩
  obtain ⟨T, rfl, hst⟩ := hsq.split hl
  have h3 := h3.less (hst.1 ▸ hl)
  have e1 := hst.1
  simp [e1]
  have hr1 : match q1 with
    | .ok l => l.length ≤ n ∧ r = chainF G O (l.length + 1) x l
    | .error c => r = .error c := by
    have h4 : Rl (G (ts.drop i)) x q1 := h4
    cases hGl : G (ts.drop i) with
    | error c =>
      rw [hGl] at h4 hr
      obtain ⟨rfl, _⟩ := h4
      exact hr.symm
    | ok y =>
      obtain ⟨y, l1⟩ := y
      rw [hGl] at h4 hr
      obtain ⟨rfl, rfl⟩ := h4
      have := hG _ _ _ hl0 hGl
      exact ⟨by omega, hr.symm⟩
  refine mwp_loop (I := CI2 S pid ts o m n L G O r) (n := match q1 with | .ok l => l.length + 1 | .error _ => 0) ⟨x, q1, T, [], hst, rfl, by simp, by simp, by simp [e1], by simp [e1], h3, ?_⟩ ?_
  · cases q1 with
    | ok l => exact ⟨hr1.1, by simp, hr1.2⟩
    | error c => exact hr1
  clear hr1 h3 h4 hsq hst e1 hr
  rintro k a S' ⟨x, q, T, g, hst, rfl, b0, b1, b4, b9, h3, hq⟩
  have e1 := hst.1
  have hTl := h3.lt
  simp [f92b2, b0, b1, b4, b9]
  refine (hlv _ _ (h3.more _)).use ?_
  rintro e S1 ⟨hsq, rfl, h5⟩
  obtain ⟨T1, rfl, hst1⟩ := hsq.split hTl
  have e2 := hst1.1
  have h5 := h5.less (hst1.1 ▸ hTl)
  have hst01 := hst.trans hst1
  cases q with
  | error c =>
    have hc : opQ O (.error c) = (0, .error c) := rfl
    rw [hc] at h5 ⊢
    simp only at hq h5
    simp [b0, b1, b4, b9, e2]
    rw [hq]
    exact RR.fin (V := fun x => AVal.agg (exC x)) hst01 h5 (by simp) ⟨rfl, by obtain ⟨_, _, _, _, _, h6⟩ := h5; exact h6.ne⟩
  | ok l =>
    simp only at hq
    obtain ⟨hln, hlk, hr⟩ := hq
    obtain ⟨k, rfl⟩ : ∃ k', k = k' + 1 := ⟨k - 1, by omega⟩
    rw [chainF] at hr
    cases hOl : O l with
    | none =>
      have hc : opQ O (.ok l) = (0, .ok l) := by simp [opQ, hOl]
      rw [hc] at h5 ⊢
      rw [hOl] at hr
      simp [b0, b1, b4, b9, e2]
      rw [hr]
      exact RR.fin (V := fun x => AVal.agg (exC x)) hst01 h5 (by simp) ⟨rfl, rfl⟩
    | some y =>
      obtain ⟨op, l3⟩ := y
      have hc : opQ O (.ok l) = (op, .ok l3) := by simp [opQ, hOl]
      have hop := hO0 _ _ _ hOl
      have hopb : (op == 0) = false := beq_eq_false_iff_ne.2 hop
      have hlt3 := hO _ _ _ hOl
      rw [hc] at h5 ⊢
      rw [hOl] at hr
      simp only at hr h5
      simp [b0, b1, b4, b9, e2, hopb, hLw]
      refine (hx _ _ (h5.more _) (fun l' e => by cases e; omega)).use ?_
      rintro e S2 ⟨hsq2, f, q2, rfl, h6, h7⟩
      obtain ⟨T2, rfl, hst2⟩ := hsq2.split h5.lt
      have h6 := h6.less (hst2.1 ▸ h5.lt)
      have e3 := hst2.1
      have hb : exC (.bin op x f) = [.int op, .list .full [exC x, exC f], .int 0, .int 0, .int 0, .str [], .str []] := by rw [Ex.bin, exC_eq, exsV_two]
      have g9 : ∀ (A B : AObj) (g' : Heap), (T2 ++ A :: B :: g')[T2.length + 1]? = some B := fun A B g' => by simp
      have s9 : ∀ (A B C : AObj) (g' : Heap), (T2 ++ A :: B :: g').set (T2.length + 1) C = T2 ++ A :: C :: g' := fun A B C g' => by
        rw [List.set_append_right _ _ (by omega)]; simp
      have g11 : ∀ (A B C : AObj), (T2 ++ A :: B :: (g ++ [C]))[T2.length + (g.length + 1 + 1)]? = some C := fun A B C => by
        rw [List.getElem?_append_right (by omega)]; simp
      simp [b0, b1, b4, b9, e2, e3, g9, s9, g11]
      refine ⟨k, by omega, .bin op x f, q2, T2, g ++ [.cells 7 [exC f] (some 1)], hst01.trans hst2, by rw [hb], by simp [b0], by simp [b1], by simp [b4, e2, e3], by simp [b9, e2, e3], h6, ?_⟩
      have h7 : Rl (G l3) f q2 := h7
      cases hGl : G l3 with
      | error c =>
        rw [hGl] at h7 hr
        obtain ⟨rfl, _⟩ := h7
        exact hr
      | ok y =>
        obtain ⟨y, l4⟩ := y
        rw [hGl] at h7 hr
        obtain ⟨rfl, rfl⟩ := h7
        have := hG _ _ _ (by omega) hGl
        exact ⟨by omega, by omega, hr⟩
end
end Go.Abs
set_option linter.unusedSimpArgs false
set_option linter.unusedVariables false
namespace Go.Abs
open Go Go.RowKit Go.Proofs Go.Lx Go.Pz
variable {w0 : World}

/-- How many stand ahead: the loop. -/
def AI2 (S : Heap) (pid : Nat) (ts : List Tok) (o m : Nat) (L : Int) (kd : Int) (s : Bs) (l : List Tok) (k : Nat) (a : Tmps) (S' : Heap) : Prop :=
  ∃ (c : Nat) (T : Heap) (l' : List Tok), k = l'.length ∧ Step pid S T ∧ S' = T ++ [.cells 7 [z7] (some 1)] ∧ get a 0 = .ptr pid 0 0 ∧ get a 1 = .int L ∧ get a 4 = .ptr T.length 0 0 ∧ get a 5 = .int c ∧ get a 6 = .int 16 ∧ RAt T pid ts (.ok l') o m ∧ l' = l.drop c ∧ c + stripN kd s l' = stripN kd s l ∧ c + l'.length = l.length
/-- They are put ahead: the loop. -/
def WI2 (T : Heap) (pid : Nat) (op : Int) (c : Nat) (x : Ex) (k : Nat) (a : Tmps) (S' : Heap) : Prop :=
  ∃ (i : Nat) (y : Ex), k = c - i ∧ i ≤ c ∧ S' = T ++ [.cells 7 [z7] (some 1), .cells 7 [exC y] (some 1)] ∧ get a 4 = .ptr T.length 0 0 ∧ get a 5 = .int c ∧ get a 6 = .int op ∧ get a 7 = .ptr (T.length + 1) 0 0 ∧ get a 8 = .int i ∧ wrap op (c - i) y = wrap op c x
theorem wr7 : IntKind.i64.wrap 7 = 7 := by decide
theorem wr6 : IntKind.i64.wrap 6 = 6 := by decide
section
variable {pid : Nat} {ts : List Tok} {o m n : Nat}
set_option maxHeartbeats 4000000 in
theorem x_ahead (hts : ts.length ≤ 4000) {L kd op : Int} {s : Bs} (hL : (L = 2 ∧ kd = 1 ∧ s = [110, 111, 116] ∧ op = 16) ∨ (L = 6 ∧ kd = 5 ∧ s = [45] ∧ op = 13)) {G : List Tok → Res Ex} 
    (hx : XSpec w0 pid ts o m n (L + 1) G) : XSpec w0 pid ts o m n L (aheadP op kd s G) := fun S q h hn => by
  cases q with
  | error c => exact x_dead h L (aheadP op kd s G)
  | ok l0 =>
  have hl0 := hn l0 rfl
  refine ACalls.rfin (pid := pid) ?_
  have hh := h
  have hl := h.lt
  have hg := hmoreG hl
  have hlt : l0.length ≤ 4000 := by
    obtain ⟨fl, i, e, h0, h1, h2, rfl, rfl⟩ := h
    simp; omega
  obtain ⟨r, hr⟩ : ∃ r, aheadP op kd s G l0 = r := ⟨_, rfl⟩
  have hlift : liftQ (aheadP op kd s G) (.ok l0) = r := hr
  rw [hlift]
  rw [aheadP] at hr
  have hLw : IntKind.i64.wrap (L + 1) = L + 1 := by rcases hL with ⟨rfl, _⟩ | ⟨rfl, _⟩ <;> decide
  -- what comes behind the first loop
  have rest : ∀ (a : Tmps) (T : Heap) (c : Nat) (l' : List Tok) (KK : Tmps → Heap → Prop), Step pid S T → RAt T pid ts (.ok l') o m → l' = l0.drop c → c = stripN kd s l0 → l'.length ≤ n → c ≤ 4000 → ∀ (x : Ex) (q2 : Q), Rl (G l') x q2 → Rl r (wrap op c x) q2 := fun a T c l' KK hst ha e1 e2 h3 h4 x q2 h5 => by
    rw [← e2, ← e1] at hr
    cases hGl : G l' with
    | error d =>
      rw [hGl] at h5 hr
      rw [← hr]
      exact h5
    | ok y =>
      obtain ⟨y, l2⟩ := y
      rw [hGl] at h5 hr
      obtain ⟨rfl, rfl⟩ := h5
      rw [← hr]
      exact ⟨rfl, rfl⟩
  obtain ⟨fl, i, e, h0, h1, h2, rfl, h3⟩ := h
  refine fn_sound tryOrd (f92_c _) (by simp [f92]) ?_
  have hxs := fun S q => hx S q
  obtain ⟨op', hop⟩ : ∃ op', op' = op := ⟨_, rfl⟩
  obtain ⟨I2, hI2⟩ : ∃ I2 : Heap → Nat → Ex → Nat → Tmps → Heap → Prop, I2 = fun T c x => WI2 T pid op c x := ⟨_, rfl⟩
  obtain ⟨I, hI⟩ : ∃ I, I = AI2 S pid ts o m L kd s l0 := ⟨_, rfl⟩
  rcases hL with ⟨rfl, rfl, rfl, rfl⟩ | ⟨rfl, rfl, rfl, rfl⟩
  all_goals
    simp [f92, f92m, hg, h1]
    refine mwp_loop (I := I) (n := l0.length) ?_ ?_ <;> subst hI
    · exact ⟨0, S, l0, rfl, Step.refl _ _, rfl, rfl, rfl, rfl, rfl, rfl, hh, rfl, by simp, by simp⟩
    rintro k a S' ⟨c, T, l', rfl, hst, rfl, b0, b1, b4, b5, b6, ha, e1, e2, e3⟩
    have hTl := ha.lt
    have e0 := hst.1
    have hw := wrapS c (by omega)
    simp [f92b0, b0, b1, b4, b5, b6]
    refine (r48 hts (ha.more _) _ _).use ?_
    rintro e S1 ⟨hsq, rfl, h4⟩
    obtain ⟨T1, rfl, hst1⟩ := hsq.split hTl
    have h4 := h4.less (hst1.1 ▸ hTl)
    have e4 := hst1.1
    generalize hb : isQ _ _ (.ok l') = b
    cases b with
    | true =>
      obtain ⟨l2, hq, hT, hgq⟩ := gotQ_true hb
      cases hq
      rw [hgq] at h4
      have hlen := isT_len hT
      have hs := stripN_cons hT
      simp [b0, b1, b4, b5, b6, hw, e4]
      exact ⟨l'.tail.length, by simp; omega, c + 1, T1, l'.tail, rfl, hst.trans hst1, rfl, by simp [b0], by simp [b1], by simp [b4, e4], by simp, by simp [b6], h4, by rw [e1, List.tail_drop], by omega, by omega⟩
    | false =>
      rw [gotQ_false hb] at h4
      rw [isQ_ok] at hb
      have hs := stripN_no hb
      rw [hs, Nat.add_zero] at e2
      have hc := e2
      have hln : l'.length ≤ n := by omega
      have hrest := rest a T1 c l' (fun _ _ => True) (hst.trans hst1) h4 e1 hc hln (by omega)
      simp [b0, b1, b4, b5, b6, wr3, wr7, e4]
      refine (hxs _ _ (h4.more _) (fun l2 e => by cases e; exact hln)).use ?_
      rintro e S2 ⟨hsq2, x, q2, rfl, h6, h7⟩
      obtain ⟨T2, rfl, hst2⟩ := hsq2.split h4.lt
      have h6 := h6.less (hst2.1 ▸ h4.lt)
      have e5 := hst2.1
      have hfin := hrest x q2 h7
      have hst02 := (hst.trans hst1).trans hst2
      simp [b0, b1, b4, b5, b6, e4, e5]
      clear hrest rest hsq hsq2
      refine mwp_loop (I := I2 T2 c x) (n := c) ?_ ?_ <;> subst hI2
      · exact ⟨0, x, rfl, Nat.zero_le _, rfl, by simp [b4, e4, e5], by simp [b5], by simp [b6], by simp, by simp, rfl⟩
      rintro k a S' ⟨i2, y, rfl, hi2, rfl, c4, c5, c6, c7, c8, hwr⟩
      by_cases hlt2 : i2 < c
      · have hltI : (i2 : Int) < (c : Int) := by omega
        have hw2 := wrapS i2 (by omega)
        have hun : exC (.un op' y) = [.int op', .list .full [exC y], .int 0, .int 0, .int 0, .str [], .str []] := by rw [Ex.un, exC_eq, exsV_one]
        rw [hop] at hun
        simp [f92b1, c4, c5, c6, c7, c8, hltI, hw2]
        refine ⟨c - (i2 + 1), by omega, i2 + 1, .un op' y, rfl, by omega, by rw [hop, hun], by simp [c4], by simp [c5], by simp [c6], by simp [c7], by simp, ?_⟩
        rw [← hwr, show c - i2 = (c - (i2 + 1)) + 1 by omega, hop]
        rfl
      · have hie : i2 = c := by omega
        subst hie
        rw [Nat.sub_self] at hwr
        rw [wrap] at hwr
        simp [f92b1, c4, c5, c6, c7, c8]
        rw [hwr]
        exact RR.fin (V := fun x => AVal.agg (exC x)) hst02 h6 (by simp) hfin
end
end Go.Abs
set_option linter.unusedSimpArgs false
set_option linter.unusedVariables false
namespace Go.Abs
open Go Go.RowKit Go.Proofs Go.Lx Go.Pz
variable {w0 : World}

/-- What comes behind the first operand of a test. -/
def testT (G : List Tok → Res Ex) (e : Ex) (l1 : List Tok) : Res Ex :=
  match opTest l1 with
    | some (op, l2) => match G l2 with
      | .error c => .error c
      | .ok (x, l3) => .ok (.bin op e x, l3)
    | none => if isT 1 [105, 115] l1 then
        if isT 1 [110, 111, 116] l1.tail then (if isT 1 [110, 117, 108, 108] l1.tail.tail then .ok (.un 20 e, l1.tail.tail.tail) else .error 130)
        else if isT 1 [110, 117, 108, 108] l1.tail then .ok (.un 19 e, l1.tail.tail) else .error 130
      else .ok (e, l1)
/-- A test, over what reads its operands. -/
def testG (G : List Tok → Res Ex) (l : List Tok) : Res Ex :=
  match G l with
  | .error c => .error c
  | .ok (e, l1) => testT G e l1
def TeQ (G : List Tok → Res Ex) (n : Nat) (x : Ex) (r : Res Ex) : Q → Prop
  | .ok l1 => l1.length ≤ n ∧ r = testT G x l1
  | .error c => r = .error c ∧ c ≠ 0
theorem testP_G (E : Nat → List Tok → Res Ex) (k : Nat) : testP resv E k = testG (sumP resv E k) := rfl
def SG (j : Nat) : Bs := [[61], [60, 62], [60], [60, 61], [62], [62, 61]].getD j []
theorem opTest_no {l : List Tok} (h : ∀ j, j < 6 → isT 5 (SG j) l = false) : opTest l = none := by
  have h0 := h 0 (by omega)
  have h1 := h 1 (by omega)
  have h2 := h 2 (by omega)
  have h3 := h 3 (by omega)
  have h4 := h 4 (by omega)
  have h5 := h 5 (by omega)
  simp [SG] at h0 h1 h2 h3 h4 h5
  simp [opTest, operS, h0, h1, h2, h3, h4, h5]
theorem opTest_yes {l : List Tok} {i : Nat} (hi : i < 6) (h : ∀ j, j < i → isT 5 (SG j) l = false) (hT : isT 5 (SG i) l = true) : opTest l = some ((i : Int) + 1, l.tail) := by
  have hc : i = 0 ∨ i = 1 ∨ i = 2 ∨ i = 3 ∨ i = 4 ∨ i = 5 := by omega
  rcases hc with rfl | rfl | rfl | rfl | rfl | rfl
  · simp [SG] at hT
    simp [opTest, operS, hT]
  · have h0 := h 0 (by omega)
    simp [SG] at hT h0
    simp [opTest, operS, hT, h0]
  · have h0 := h 0 (by omega)
    have h1 := h 1 (by omega)
    simp [SG] at hT h0 h1
    simp [opTest, operS, hT, h0, h1]
  · have h0 := h 0 (by omega)
    have h1 := h 1 (by omega)
    have h2 := h 2 (by omega)
    simp [SG] at hT h0 h1 h2
    simp [opTest, operS, hT, h0, h1, h2]
  · have h0 := h 0 (by omega)
    have h1 := h 1 (by omega)
    have h2 := h 2 (by omega)
    have h3 := h 3 (by omega)
    simp [SG] at hT h0 h1 h2 h3
    simp [opTest, operS, hT, h0, h1, h2, h3]
  · have h0 := h 0 (by omega)
    have h1 := h 1 (by omega)
    have h2 := h 2 (by omega)
    have h3 := h 3 (by omega)
    have h4 := h 4 (by omega)
    simp [SG] at hT h0 h1 h2 h3 h4
    simp [opTest, operS, hT, h0, h1, h2, h3, h4]

abbrev sg6 : List AVal := [.str [61], .str [60, 62], .str [60], .str [60, 61], .str [62], .str [62, 61]]
def TeI (S : Heap) (pid : Nat) (ts : List Tok) (o m : Nat) (x : Ex) (q : Q) (k : Nat) (a : Tmps) (S' : Heap) : Prop :=
  ∃ (i : Nat) (T : Heap), k = 6 - i ∧ i ≤ 6 ∧ Step pid S T ∧ S' = T ++ [.cells 7 [z7] (some 1), .cells 7 [exC x] (some 1), .cells 6 [sg6] (some 1)] ∧ get a 0 = .ptr pid 0 0 ∧ get a 2 = .ptr T.length 0 0 ∧ get a 3 = .ptr (T.length + 1) 0 0 ∧ get a 4 = .ptr (T.length + 2) 0 0 ∧ get a 5 = .int i ∧
    RAt T pid ts q o m ∧ ∀ j, j < i → isQ 5 (SG j) q = false
section
variable {pid : Nat} {ts : List Tok} {o m n : Nat}
set_option maxHeartbeats 8000000 in
theorem r108 (hts : ts.length ≤ 4000) {G : List Tok → Res Ex} (hG : Eats n G) (hx : XSpec w0 pid ts o m n 4 G) {S : Heap} {l0 : List Tok} (h : RAt S pid ts (.ok l0) o m) (hl0 : l0.length ≤ n) :
    ACalls Tryz.prog (B0 w0) 108 [.ptr pid 0 0] S (XQ S pid ts o m (testG G l0)) := by
  refine ACalls.rfin (pid := pid) ?_
  have hl := h.lt
  obtain ⟨r, hr⟩ : ∃ r, testG G l0 = r := ⟨_, rfl⟩
  rw [hr]
  rw [testG] at hr
  refine fn_sound tryOrd (f108_c _) (by simp [f108]) ?_
  simp [f108, f108m]
  refine (hx _ _ (h.more _) (fun l e => by cases e; exact hl0)).use ?_
  rintro e S1 ⟨hsq, x, q1, rfl, h3, h4⟩
  obtain ⟨T, rfl, hst⟩ := hsq.split hl
  have h3 := h3.less (hst.1 ▸ hl)
  have e1 := hst.1
  have h4 : Rl (G l0) x q1 := h4
  have hr1 : TeQ G n x r q1 := by
    cases hGl : G l0 with
    | error c =>
      rw [hGl] at h4 hr
      obtain ⟨rfl, hc0⟩ := h4
      exact ⟨hr.symm, hc0⟩
    | ok y =>
      obtain ⟨y, l1⟩ := y
      rw [hGl] at h4 hr
      obtain ⟨rfl, rfl⟩ := h4
      have := hG _ _ _ hl0 hGl
      exact ⟨by omega, hr.symm⟩
  simp [e1]
  refine mwp_loop (I := TeI S pid ts o m x q1) (n := 6) ⟨0, T, rfl, by omega, hst, rfl, by simp, by simp [e1], by simp [e1], by simp [e1], by simp, h3, fun j hj => by omega⟩ ?_
  clear hr h4 h3 hsq
  rintro k a S' ⟨i, T1, rfl, hi, hst1, rfl, b0, b2, b3, b4, b5, ha, hno⟩
  have hTl := ha.lt
  have hc : i = 0 ∨ i = 1 ∨ i = 2 ∨ i = 3 ∨ i = 4 ∨ i = 5 ∨ i = 6 := by omega
  rcases hc with rfl | rfl | rfl | rfl | rfl | rfl | rfl
  rotate_left 6
  · simp [f108b0, b0, b2, b3, b4, b5]
    refine (r48 hts (ha.more _) 1 _).use ?_
    rintro e S2 ⟨hsq2, rfl, h5⟩
    obtain ⟨T2, rfl, hst2⟩ := hsq2.split hTl
    have h5 := h5.less (hst2.1 ▸ hTl)
    have e2 := hst2.1
    have hst02 := hst1.trans hst2
    have hux : ∀ op, [.int op, .list .full [exC x], .int 0, .int 0, .int 0, .str [], .str []] = exC (.un op x) := fun op => by rw [Ex.un, exC_eq, exsV_one]
    generalize hb : isQ 1 [105, 115] q1 = b
    cases b with
    | false =>
      rw [gotQ_false hb] at h5
      simp [b0, b2, b3, b4, b5, e2]
      refine RR.fin (V := fun x => AVal.agg (exC x)) (x := x) (q' := q1) hst02 h5 (by simp) ?_
      cases q1 with
      | error c =>
        obtain ⟨rfl, hc0⟩ := hr1
        exact ⟨rfl, hc0⟩
      | ok l1 =>
        obtain ⟨hl1, hrT⟩ := hr1
        rw [isQ_ok] at hb
        rw [testT, opTest_no (fun j hj => hno j hj)] at hrT
        simp only at hrT
        rw [if_neg (by simp [hb])] at hrT
        rw [hrT]
        exact ⟨rfl, rfl⟩
    | true =>
      obtain ⟨l1, rfl, hT, hgq⟩ := gotQ_true hb
      rw [hgq] at h5
      obtain ⟨hl1, hrT⟩ := hr1
      rw [testT, opTest_no (fun j hj => hno j hj)] at hrT
      simp only at hrT
      rw [if_pos hT] at hrT
      simp [b0, b2, b3, b4, b5, e2]
      refine (r48 hts (h5.more _) 1 _).use ?_
      rintro e S3 ⟨hsq3, rfl, h6⟩
      obtain ⟨T3, rfl, hst3⟩ := hsq3.split h5.lt
      have h6 := h6.less (hst3.1 ▸ h5.lt)
      have e3 := hst3.1
      have hst03 := hst02.trans hst3
      generalize hb2 : isQ 1 [110, 111, 116] (.ok l1.tail) = b2
      cases b2 with
      | false =>
        rw [gotQ_false hb2] at h6
        rw [isQ_ok] at hb2
        rw [if_neg (by simp [hb2])] at hrT
        simp [b0, b2, b3, b4, b5, e2, e3]
        refine (r51 hts (h6.more _) 1 _).use ?_
        rintro e S4 ⟨hsq4, rfl, h7⟩
        obtain ⟨T4, rfl, hst4⟩ := hsq4.split h6.lt
        have h7 := h7.less (hst4.1 ▸ h6.lt)
        have e4 := hst4.1
        simp [b0, b2, b3, b4, b5, e2, e3, e4, hux]
        refine RR.fin (V := fun x => AVal.agg (exC x)) (x := .un 19 x) (hst03.trans hst4) h7 (by simp) ?_
        rw [hrT]
        by_cases hn : isT 1 [110, 117, 108, 108] l1.tail = true
        · simp [mustQ, need, hn, Rl]
        · have hn : isT 1 [110, 117, 108, 108] l1.tail = false := by simpa using hn
          simp [mustQ, need, hn, Rl]
      | true =>
        obtain ⟨l2, hq2, hT2, hgq2⟩ := gotQ_true hb2
        cases hq2
        rw [hgq2] at h6
        rw [if_pos hT2] at hrT
        simp [b0, b2, b3, b4, b5, e2, e3]
        refine (r51 hts (h6.more _) 1 _).use ?_
        rintro e S4 ⟨hsq4, rfl, h7⟩
        obtain ⟨T4, rfl, hst4⟩ := hsq4.split h6.lt
        have h7 := h7.less (hst4.1 ▸ h6.lt)
        have e4 := hst4.1
        simp [b0, b2, b3, b4, b5, e2, e3, e4, hux]
        refine RR.fin (V := fun x => AVal.agg (exC x)) (x := .un 20 x) (hst03.trans hst4) h7 (by simp) ?_
        rw [hrT]
        by_cases hn : isT 1 [110, 117, 108, 108] l1.tail.tail = true
        · simp [mustQ, need, hn, Rl]
        · have hn : isT 1 [110, 117, 108, 108] l1.tail.tail = false := by simpa using hn
          simp [mustQ, need, hn, Rl]
  all_goals
    simp [f108b0, b0, b2, b3, b4, b5, wr0, wr1, wr2, wr3, wr4, wr5, wr6]
    refine (r48 hts (ha.more _) 5 _).use ?_
    rintro e S2 ⟨hsq2, rfl, h5⟩
    obtain ⟨T2, rfl, hst2⟩ := hsq2.split hTl
    have h5 := h5.less (hst2.1 ▸ hTl)
    have e2 := hst2.1
    have hst02 := hst1.trans hst2
    generalize hb : isQ 5 _ q1 = b
    cases b with
    | false =>
      rw [gotQ_false hb] at h5
      simp [b0, b2, b3, b4, b5, e2, wr0, wr1, wr2, wr3, wr4, wr5, wr6]
      have nxt : ∀ i, (∀ j, j < i → isQ 5 (SG j) q1 = false) → isQ 5 (SG i) q1 = false → ∀ j, j < i + 1 → isQ 5 (SG j) q1 = false := fun i h h' j hj => by
        by_cases hji : j = i
        · rw [hji]; exact h'
        · exact h j (by omega)
      first
        | exact ⟨5, by omega, 1, T2, rfl, by omega, hst02, rfl, by simp [b0], by simp [b2, e2], by simp [b3, e2], by simp [b4, e2], by simp, h5, nxt 0 hno hb⟩
        | exact ⟨4, by omega, 2, T2, rfl, by omega, hst02, rfl, by simp [b0], by simp [b2, e2], by simp [b3, e2], by simp [b4, e2], by simp, h5, nxt 1 hno hb⟩
        | exact ⟨3, by omega, 3, T2, rfl, by omega, hst02, rfl, by simp [b0], by simp [b2, e2], by simp [b3, e2], by simp [b4, e2], by simp, h5, nxt 2 hno hb⟩
        | exact ⟨2, by omega, 4, T2, rfl, by omega, hst02, rfl, by simp [b0], by simp [b2, e2], by simp [b3, e2], by simp [b4, e2], by simp, h5, nxt 3 hno hb⟩
        | exact ⟨1, by omega, 5, T2, rfl, by omega, hst02, rfl, by simp [b0], by simp [b2, e2], by simp [b3, e2], by simp [b4, e2], by simp, h5, nxt 4 hno hb⟩
        | exact ⟨6, T2, rfl, by omega, hst02, rfl, by simp [b0], by simp [b2, e2], by simp [b3, e2], by simp [b4, e2], by simp, h5, nxt 5 hno hb⟩
    | true =>
      obtain ⟨l1, rfl, hT, hgq⟩ := gotQ_true hb
      rw [hgq] at h5
      obtain ⟨hl1, hrT⟩ := hr1
      have hlen := isT_len hT
      have hno' : ∀ i, (∀ j, j < i → isQ 5 (SG j) (.ok l1) = false) → ∀ j, j < i → isT 5 (SG j) l1 = false := fun i h j hj => h j hj
      simp [b0, b2, b3, b4, b5, e2, wr0, wr1, wr2, wr3, wr4, wr5, wr6]
      refine (hx _ _ (h5.more _) (fun l e => by cases e; simp; omega)).use ?_
      rintro e S3 ⟨hsq3, f, q2, rfl, h6, h7⟩
      obtain ⟨T3, rfl, hst3⟩ := hsq3.split h5.lt
      have h6 := h6.less (hst3.1 ▸ h5.lt)
      have e3 := hst3.1
      have hst03 := hst02.trans hst3
      have hrl : ∀ i : Nat, i < 6 → (∀ j, j < i → isQ 5 (SG j) (.ok l1) = false) → isT 5 (SG i) l1 = true → Rl r (.bin ((i : Int) + 1) x f) q2 := fun i hi h h' => by
        rw [testT, opTest_yes hi (fun j hj => h j hj) h'] at hrT
        simp only at hrT
        have h7 : Rl (G l1.tail) f q2 := h7
        cases hGl : G l1.tail with
        | error c =>
          rw [hGl] at h7 hrT
          rw [hrT]
          exact h7
        | ok y =>
          obtain ⟨y, l3⟩ := y
          rw [hGl] at h7 hrT
          obtain ⟨rfl, rfl⟩ := h7
          rw [hrT]
          exact ⟨rfl, rfl⟩
      have hbx : ∀ op, [.int op, .list .full [exC x, exC f], .int 0, .int 0, .int 0, .str [], .str []] = exC (.bin op x f) := fun op => by rw [Ex.bin, exC_eq, exsV_two]
      simp [b0, b2, b3, b4, b5, e2, e3, wr0, wr1, wr2, wr3, wr4, wr5, wr6, hbx]
      first
        | exact RR.fin (V := fun x => AVal.agg (exC x)) hst03 h6 (by simp) (hrl 0 (by omega) hno hT)
        | exact RR.fin (V := fun x => AVal.agg (exC x)) hst03 h6 (by simp) (hrl 1 (by omega) hno hT)
        | exact RR.fin (V := fun x => AVal.agg (exC x)) hst03 h6 (by simp) (hrl 2 (by omega) hno hT)
        | exact RR.fin (V := fun x => AVal.agg (exC x)) hst03 h6 (by simp) (hrl 3 (by omega) hno hT)
        | exact RR.fin (V := fun x => AVal.agg (exC x)) hst03 h6 (by simp) (hrl 4 (by omega) hno hT)
        | exact RR.fin (V := fun x => AVal.agg (exC x)) hst03 h6 (by simp) (hrl 5 (by omega) hno hT)
end
end Go.Abs
set_option linter.unusedSimpArgs false
set_option linter.unusedVariables false
namespace Go.Abs
open Go Go.RowKit Go.Proofs Go.Lx Go.Pz
variable {w0 : World}

section
variable {pid : Nat} {ts : List Tok} {o m n : Nat}
/-- A level that another function reads. -/
theorem x_call {L : Int} {f : FuncId} (hL : (L = 3 ∧ f = 108) ∨ (L = 7 ∧ f = 109)) {F : List Tok → Res Ex}
    (hf : ∀ (S : Heap) (l : List Tok), RAt S pid ts (.ok l) o m → l.length ≤ n → ACalls Tryz.prog (B0 w0) f [.ptr pid 0 0] S (XQ S pid ts o m (F l))) : XSpec w0 pid ts o m n L F := fun S q h hn => by
  cases q with
  | error c => exact x_dead h L F
  | ok l0 =>
  have hl0 := hn l0 rfl
  refine ACalls.rfin (pid := pid) ?_
  have hh := h
  have hl := h.lt
  have hg := hmoreG hl
  obtain ⟨fl, i, e, h0, h1, h2, rfl, h3⟩ := h
  refine fn_sound tryOrd (f92_c _) (by simp [f92]) ?_
  rcases hL with ⟨rfl, rfl⟩ | ⟨rfl, rfl⟩
  all_goals
    simp [f92, f92m, hg, h1]
    refine (hf _ _ (hh.more _) hl0).use ?_
    rintro e S1 ⟨hsq, x, q1, rfl, h4, h5⟩
    obtain ⟨T, rfl, hst⟩ := hsq.split hl
    have h4 := h4.less (hst.1 ▸ hl)
    have e1 := hst.1
    simp [e1]
    exact RR.fin (V := fun x => AVal.agg (exC x)) hst h4 (by simp) h5

/-- The object, with more or fewer open. -/
theorem RAt.open {S : Heap} {q : Q} (h : RAt S pid ts q o m) : ∃ (fl : Fl) (i : Nat) (e : Int), S[pid]? = some (.cells 5 [[.list fl (toksV ts), .int i, .int o, .int e, .int m]] (some 1)) ∧ ∀ o' : Nat, RAt (S.set pid (.cells 5 [[.list fl (toksV ts), .int i, .int o', .int e, .int m]] (some 1))) pid ts q o' m := by
  have hl := h.lt
  obtain ⟨fl, i, e, h0, h1, h2⟩ := h
  exact ⟨fl, i, e, h1, fun o' => ⟨fl, i, e, h0, by rw [List.getElem?_set_self hl], h2⟩⟩

set_option maxHeartbeats 4000000 in
/-- An expression in parentheses. -/
theorem r123 (hts : ts.length ≤ 4000) (ho : o ≤ 1000000) {E : Nat → List Tok → Res Ex} (hx : XSpec w0 pid ts (o + 1) m n 0 (E (o + 1))) {S : Heap} {l0 : List Tok} (h : RAt S pid ts (.ok l0) o m) (hl0 : l0.length ≤ n + 1) :
    ACalls Tryz.prog (B0 w0) 123 [.ptr pid 0 0] S (XQ S pid ts o m (inner E o l0)) := by
  refine ACalls.rfin (pid := pid) ?_
  have hl := h.lt
  obtain ⟨r, hr⟩ : ∃ r, inner E o l0 = r := ⟨_, rfl⟩
  rw [hr]
  rw [inner] at hr
  have hg := hmoreG hl
  refine fn_sound tryOrd (f123_c _) (by simp [f123]) ?_
  -- from the sign on
  have tail : ∀ (T : Heap) (q0 : Q), Step pid S T → RAt T pid ts q0 o m → (q0 = .ok l0 ∧ ¬ (isT 5 [40] l0 = true ∧ o = 40) ∨ ∃ c, q0 = .error c ∧ c ≠ 0 ∧ r = .error c) → ∀ (a : Tmps), get a 0 = .ptr pid 0 0 → get a 2 = .ptr T.length 0 0 →
      mwp (ACalls Tryz.prog (B0 w0)) (match f123m (B0 w0).G with | .seq _ (.seq _ y) => y | x => x) (resPost [.cell 2 true 7] (RFin S pid (XQ S pid ts o m r))) a (T ++ [.cells 7 [z7] (some 1)]) := fun T q0 hst ha hq a b0 b2 => by
    have hTl := ha.lt
    have e0 := hst.1
    simp [f123m, b0, b2]
    refine (r51 hts (ha.more _) 5 _).use ?_
    rintro e S1 ⟨hsq, rfl, h3⟩
    obtain ⟨T1, rfl, hst1⟩ := hsq.split hTl
    have h3 := h3.less (hst1.1 ▸ hTl)
    have e1 := hst1.1
    have hst01 := hst.trans hst1
    obtain ⟨fl, i, e, g1, g2⟩ := h3.open
    have hg1 := hmoreG h3.lt
    have hs1 := hsetG h3.lt
    have hw := wrapS o (by omega)
    have g3 := g2 (o + 1)
    rw [show ((o + 1 : Nat) : Int) = (o : Int) + 1 by omega] at g3
    simp [b0, b2, e1, hg1, hs1, g1, hw]
    generalize hT2 : T1.set pid (.cells 5 [[.list fl (toksV ts), .int i, .int ((o : Int) + 1), .int e, .int m]] (some 1)) = T2 at *
    have st2 : Step pid T1 T2 := by rw [← hT2]; exact Step.set _
    have hm : ∀ l, mustQ 5 [40] q0 = .ok l → isT 5 [40] l0 = true ∧ o ≠ 40 ∧ l = l0.tail := fun l hl => by
      rcases hq with ⟨rfl, hq⟩ | ⟨c, rfl, _⟩
      · by_cases hT : isT 5 [40] l0 = true
        · simp [mustQ, need, hT] at hl
          exact ⟨hT, fun h => hq ⟨hT, h⟩, hl.symm⟩
        · simp [mustQ, need, hT] at hl
      · simp [mustQ] at hl
    refine (hx _ _ (g3.more _) (fun l hl => by
      obtain ⟨h1, _, rfl⟩ := hm l hl
      have := isT_len h1
      omega)).use ?_
    rintro e2 S2 ⟨hsq2, x, q2, rfl, h4, h5⟩
    obtain ⟨T3, rfl, hst3⟩ := hsq2.split g3.lt
    have h4 := h4.less (hst3.1 ▸ g3.lt)
    have e3 := hst3.1
    have e2' := st2.1
    obtain ⟨fl', i', e', k1, k2⟩ := h4.open
    have hg3 := hmoreG h4.lt
    have hs3 := hsetG h4.lt
    have k3 := k2 o
    have hw2 : IntKind.i64.wrap (o : Int) = (o : Int) := wrap64_in (by omega) (by omega)
    simp [b0, b2, e1, e2', e3, hg3, hs3, k1, hw2]
    generalize hT4 : T3.set pid (.cells 5 [[.list fl' (toksV ts), .int i', .int (o : Int), .int e', .int m]] (some 1)) = T4 at *
    have st4 : Step pid T3 T4 := by rw [← hT4]; exact Step.set _
    have e4 := st4.1
    refine (r51 hts (k3.more _) 5 _).use ?_
    rintro e5 S5 ⟨hsq5, rfl, h6⟩
    obtain ⟨T5, rfl, hst5⟩ := hsq5.split k3.lt
    have h6 := h6.less (hst5.1 ▸ k3.lt)
    have e6 := hst5.1
    simp [b0, b2, e1, e2', e3, e4, e6]
    refine RR.fin (V := fun x => AVal.agg (exC x)) (x := x) ((((hst01.trans st2).trans hst3).trans st4).trans hst5) h6 (by simp) ?_
    rcases hq with ⟨rfl, hq⟩ | ⟨c, rfl, hc0, hrc⟩
    · rw [if_neg hq] at hr
      by_cases hT : isT 5 [40] l0 = true
      · rw [if_pos hT] at hr
        have e7 : mustQ 5 [40] (.ok l0) = .ok l0.tail := by simp [mustQ, need, hT]
        rw [e7] at h5
        have h5 : Rl (E (o + 1) l0.tail) x q2 := h5
        cases hE : E (o + 1) l0.tail with
        | error c =>
          rw [hE] at h5 hr
          obtain ⟨rfl, hc0⟩ := h5
          rw [← hr]
          exact ⟨rfl, hc0⟩
        | ok y =>
          obtain ⟨y, l2⟩ := y
          rw [hE] at h5 hr
          obtain ⟨rfl, rfl⟩ := h5
          simp only at hr
          by_cases hT2 : isT 5 [41] l2 = true
          · rw [if_pos hT2] at hr
            rw [← hr]
            simp [mustQ, need, hT2, Rl]
          · rw [if_neg hT2] at hr
            rw [← hr]
            simp [mustQ, need, hT2, Rl]
      · rw [if_neg hT] at hr
        have e7 : mustQ 5 [40] (.ok l0) = .error 130 := by simp [mustQ, need, hT]
        rw [e7] at h5
        obtain ⟨rfl, hc0⟩ := h5
        rw [← hr]
        exact ⟨rfl, hc0⟩
    · have h5 : Rl (.error c) x q2 := h5
      obtain ⟨rfl, _⟩ := h5
      rw [hrc]
      exact ⟨rfl, hc0⟩
  have hh := h
  obtain ⟨fl, i, e, h0, h1, h2, h3⟩ := h
  rw [f123, f123m, mwp_seq]
  simp [-mwp_seq]
  rw [mwp_seq, mwp_seq]
  simp [-mwp_seq]
  refine (r90 (hh.more _) 5 [40]).use ?_
  rintro e' S1 ⟨rfl, rfl⟩
  rw [isQ_ok]
  have hoI : ((o : Int) == 40) = decide (o = 40) := by rw [Bool.eq_iff_iff]; simp; omega
  cases hT : isT 5 [40] l0 with
  | false =>
    simp [-mwp_seq]
    exact tail S (.ok l0) (Step.refl _ _) hh (.inl ⟨rfl, by simp [hT]⟩) _ (by simp) (by simp)
  | true =>
    by_cases ho4 : o = 40
    · simp [-mwp_seq, hg, h1, hoI, ho4]
      refine (r24 (hh.more _) (c := 5) (by decide)).use ?_
      rintro e' S2 ⟨hsq2, rfl, h4⟩
      obtain ⟨T, rfl, hst⟩ := hsq2.split hl
      have h4 := h4.less (hst.1 ▸ hl)
      rw [if_pos ⟨hT, ho4⟩] at hr
      simp [-mwp_seq]
      exact tail T _ hst h4 (.inr ⟨5, rfl, by decide, hr.symm⟩) _ (by simp) (by simp [hst.1])
    · simp [-mwp_seq, hg, h1, hoI, ho4]
      exact tail S (.ok l0) (Step.refl _ _) hh (.inl ⟨rfl, by simp [ho4]⟩) _ (by simp) (by simp)
end
end Go.Abs
set_option linter.unusedSimpArgs false
set_option linter.unusedVariables false
namespace Go.Abs
open Go Go.RowKit Go.Proofs Go.Lx Go.Pz
variable {w0 : World}

section
variable {pid : Nat} {ts : List Tok} {o m n : Nat}
/-- What isn't there isn't taken. -/
theorem r48f {S : Heap} {q : Q} (h : RAt S pid ts q o m) {k : Int} {s : Bs} (hq : isQ k s q = false) : ACalls Tryz.prog (B0 w0) 48 [.ptr pid 0 0, .int k, .str s] S fun e S' => e = .ret (.bool false) ∧ S' = S := by
  refine fn_sound tryOrd (f48_c _) (by simp [f48]) ?_
  simp [f48, f48m]
  refine (r90 h k s).use ?_
  rintro e S1 ⟨rfl, rfl⟩
  simp [hq]
theorem okT_plain {t : Tok} (h : OkT t) (hk : t.kind = 2 ∨ t.kind = 3) : t.text = [] := by
  cases h <;> simp_all
theorem okT_kind {t : Tok} (h : OkT t) : t.kind = 1 ∨ t.kind = 2 ∨ t.kind = 3 ∨ t.kind = 4 ∨ t.kind = 5 := by
  cases h <;> simp
set_option maxHeartbeats 4000000 in
/-- One operand that is no word. -/
theorem r109a (hts : ts.length ≤ 4000) (hok : ∀ t ∈ ts, OkT t) (ho : o ≤ 1000000) {E : Nat → List Tok → Res Ex} (hx : XSpec w0 pid ts (o + 1) m n 0 (E (o + 1))) {S : Heap} {l0 : List Tok} (h : RAt S pid ts (.ok l0) o m) (hl0 : l0.length ≤ n + 1)
    (hw1 : ∀ t r, l0 = t :: r → t.kind ≠ 1) : ACalls Tryz.prog (B0 w0) 109 [.ptr pid 0 0] S (XQ S pid ts o m (oneP resv E o l0)) := by
  refine ACalls.rfin (pid := pid) ?_
  have hl := h.lt
  have hh := h
  have hg := hmoreG hl
  have hs := hsetG hl
  obtain ⟨r, hr⟩ : ∃ r, oneP resv E o l0 = r := ⟨_, rfl⟩
  rw [hr]
  obtain ⟨fl, i, e, h0, h1, h2, rfl, rfl⟩ := h
  refine fn_sound tryOrd (f109_c _) (by simp [f109]) ?_
  by_cases hi : i < ts.length
  rotate_left 1
  · have hie : i = ts.length := by omega
    subst hie
    rw [List.drop_length] at hr hh
    simp [f109, f109m, hg, h1]
    refine (r24 (hh.more _) (c := 130) (by decide)).use ?_
    rintro e' S1 ⟨hsq, rfl, h3⟩
    obtain ⟨T, rfl, hst⟩ := hsq.split hl
    have h3 := h3.less (hst.1 ▸ hl)
    have hz : AVal.agg z7 = .agg (exC .zero) := by rw [exC_zero]
    simp [hst.1]
    rw [hz, ← hr]
    exact RR.fin (V := fun x => AVal.agg (exC x)) (x := .zero) hst h3 (by simp) ⟨rfl, by decide⟩
  have hne : ((i : Int) == (ts.length : Int)) = false := beq_eq_false_iff_ne.2 (by omega)
  have hgt : (toksV ts).getD i [] = tokC ts[i] := toksV_get ts i hi
  have q1 := li_addr (k := 4) (by simpa using hi) hgt (by simp [tokC])
  have q4 := li_load (k := 4) (by simpa using hi) hgt (by simp [tokC]) true 4 0 (by omega)
  have hd : ts.drop i = ts[i] :: ts.drop (i + 1) := List.drop_eq_getElem_cons hi
  have t1 : takeAt true 4 (tokC ts[i]) 0 = .agg (tokC ts[i]) := by simp [tokC, takeAt]
  rw [t1] at q4
  have hotk := hok ts[i] (List.getElem_mem hi)
  have hw := wrapS i (by omega)
  have hk1 := hw1 _ _ hd
  rw [hd] at hr
  have hset : ∀ S' : Heap, S' = S.set pid (.cells 5 [[.list fl (toksV ts), .int (i + 1 : Nat), .int o, .int 0, .int m]] (some 1)) → RAt S' pid ts (.ok (ts.drop (i + 1))) o m := fun S' e => by
    rw [e]
    exact ⟨fl, i + 1, 0, h0, by rw [List.getElem?_set_self hl], by omega, rfl, rfl⟩
  have hisq : ∀ w, isQ 1 w (.ok (ts.drop i)) = false := fun w => by rw [isQ_ok, hd, isT_cons]; simp [hk1]
  generalize ts[i] = t at *
  rcases okT_kind hotk with hk | hk | hk | hk | hk
  · exact absurd hk hk1
  · have htx := okT_plain hotk (.inl hk)
    rw [oneP, if_pos (.inl hk)] at hr
    simp [f109, f109m, hg, hs, h1, hne, q1, q4, tokC, hk, htx, hw]
    rw [← hr, hk]
    have he : [AVal.int 21, .nilS, .int 2, .int t.num, .int t.scale, .str [], .str []] = exC (.const 2 t.num t.scale []) := by rw [Ex.const, exC_eq, exsV_nil]
    rw [he]
    exact RR.fin (V := fun x => AVal.agg (exC x)) (Step.set _) (hset _ (by simp)) (by simp) ⟨rfl, rfl⟩
  · have htx := okT_plain hotk (.inr hk)
    rw [oneP, if_pos (.inr hk)] at hr
    simp [f109, f109m, hg, hs, h1, hne, q1, q4, tokC, hk, htx, hw]
    rw [← hr, hk]
    have he : [AVal.int 21, .nilS, .int 3, .int t.num, .int t.scale, .str [], .str []] = exC (.const 3 t.num t.scale []) := by rw [Ex.const, exC_eq, exsV_nil]
    rw [he]
    exact RR.fin (V := fun x => AVal.agg (exC x)) (Step.set _) (hset _ (by simp)) (by simp) ⟨rfl, rfl⟩
  · rw [oneP, if_neg (by omega), if_pos hk] at hr
    simp [f109, f109m, hg, hs, h1, hne, q1, q4, tokC, hk, hw]
    rw [← hr]
    have he : [AVal.int 21, .nilS, .int 4, .int t.num, .int t.scale, .str t.text, .str []] = exC (.const 4 t.num t.scale t.text) := by rw [Ex.const, exC_eq, exsV_nil]
    rw [he]
    exact RR.fin (V := fun x => AVal.agg (exC x)) (Step.set _) (hset _ (by simp)) (by simp) ⟨rfl, rfl⟩
  · rw [oneP, if_neg (by omega), if_neg (by omega), if_neg (by omega), ← hd] at hr
    simp [f109, f109m, hg, hs, h1, hne, q1, q4, tokC, hk]
    iterate 7
      refine (r48f (hh.more _) (hisq _)).use ?_
      rintro e' S1 ⟨rfl, rfl⟩
      simp [hk]
    refine (r123 hts ho hx (hh.more _) hl0).use ?_
    rintro e' S1 ⟨hsq, x, q2, rfl, h4, h5⟩
    obtain ⟨T, rfl, hst⟩ := hsq.split hl
    have h4 := h4.less (hst.1 ▸ hl)
    simp [hst.1]
    rw [hr] at h5
    exact RR.fin (V := fun x => AVal.agg (exC x)) hst h4 (by simp) h5
end
end Go.Abs
set_option linter.unusedSimpArgs false
set_option linter.unusedVariables false
namespace Go.Abs
open Go Go.RowKit Go.Proofs Go.Lx Go.Pz
variable {w0 : World}

section
variable {pid : Nat} {ts : List Tok} {o m n : Nat}
set_option maxHeartbeats 8000000 in
theorem r109b (hts : ts.length ≤ 4000) (ho : o ≤ 1000000) {E : Nat → List Tok → Res Ex} (hx : XSpec w0 pid ts (o + 1) m n 0 (E (o + 1))) {S : Heap} {l0 : List Tok} (h : RAt S pid ts (.ok l0) o m) (hl0 : l0.length ≤ n + 1)
    {t : Tok} {r0 : List Tok} (hc : l0 = t :: r0) (hk : t.kind = 1) : ACalls Tryz.prog (B0 w0) 109 [.ptr pid 0 0] S (XQ S pid ts o m (oneP resv E o l0)) := by
  refine ACalls.rfin (pid := pid) ?_
  have hl := h.lt
  have hh := h
  have hg := hmoreG hl
  have hs := hsetG hl
  obtain ⟨r, hr⟩ : ∃ r, oneP resv E o l0 = r := ⟨_, rfl⟩
  rw [hr]
  rw [hc, oneP, if_neg (by omega), if_neg (by omega), if_pos hk, ← hc, named] at hr
  have hisq : ∀ w, isQ 1 w (.ok l0) = decide (t.text = w) := fun w => by rw [isQ_ok, hc, isT_cons]; simp [hk]
  have htl : l0.tail.length ≤ n + 1 := by simp; omega
  obtain ⟨fl, i, e, h0, h1, h2, rfl, h3⟩ := h
  have hi : i < ts.length := by
    rcases Nat.lt_or_ge i ts.length with h | h
    · exact h
    · rw [List.drop_eq_nil_of_le h] at h3; rw [← h3] at hc; cases hc
  have hne : ((i : Int) == (ts.length : Int)) = false := beq_eq_false_iff_ne.2 (by omega)
  have hd : ts.drop i = ts[i] :: ts.drop (i + 1) := List.drop_eq_getElem_cons hi
  have hti : ts[i] = t := by rw [hd, hc] at h3; exact (List.cons.inj h3).1
  have hgt : (toksV ts).getD i [] = tokC t := by rw [← hti]; exact toksV_get ts i hi
  have q1 := li_addr (k := 4) (by simpa using hi) hgt (by simp [tokC])
  have q4 := li_load (k := 4) (by simpa using hi) hgt (by simp [tokC]) true 4 0 (by omega)
  have t1 : takeAt true 4 (tokC t) 0 = .agg (tokC t) := by simp [tokC, takeAt]
  rw [t1] at q4
  have got : ∀ {S1 : Heap} {q : Q} (w : Bs), RAt S1 pid ts q o m → isQ 1 w q = true → ACalls Tryz.prog (B0 w0) 48 [.ptr pid 0 0, .int 1, .str w] S1 fun e S' => Step pid S1 S' ∧ e = .ret (.bool true) ∧ RAt S' pid ts (gotQ 1 w q) o m := fun w ha hq => by
    have := r48 (w0 := w0) hts ha 1 w
    rwa [hq] at this
  have hgot : ∀ w, t.text = w → gotQ 1 w (.ok l0) = .ok l0.tail := fun w e => by
    have := hisq w
    rw [isQ_ok] at this
    simp only [gotQ]
    rw [if_pos (by rw [this]; simp [e])]
  refine fn_sound tryOrd (f109_c _) (by simp [f109]) ?_
  by_cases wd0 : t.text = [110, 117, 108, 108]
  · rw [if_pos wd0] at hr
    simp [f109, f109m, hg, h1, hne, q1, q4, tokC, hk]
    refine (got _ (hh.more _) (by rw [hisq]; simp [wd0])).use ?_
    rintro e' S1 ⟨hsq, rfl, h4⟩
    obtain ⟨T, rfl, hst⟩ := hsq.split hl
    rw [hgot _ wd0] at h4
    have h4 := h4.less (hst.1 ▸ hl)
    simp [hst.1]
    rw [← hr]
    have he : [AVal.int 21, .nilS, .int 0, .int 0, .int 0, .str [], .str []] = exC (.const 0 0 0 []) := by rw [Ex.const, exC_eq, exsV_nil]
    rw [he]
    exact RR.fin (V := fun x => AVal.agg (exC x)) hst h4 (by simp) ⟨rfl, rfl⟩
  rw [if_neg wd0] at hr
  by_cases wd1 : t.text = [116, 114, 117, 101]
  · rw [if_pos wd1] at hr
    simp [f109, f109m, hg, h1, hne, q1, q4, tokC, hk]
    refine (r48f (hh.more _) (by rw [hisq]; simp [wd1])).use ?_
    rintro e' S1 ⟨rfl, rfl⟩
    simp [hk]
    refine (got _ (hh.more _) (by rw [hisq]; simp [wd1])).use ?_
    rintro e' S1 ⟨hsq, rfl, h4⟩
    obtain ⟨T, rfl, hst⟩ := hsq.split hl
    rw [hgot _ wd1] at h4
    have h4 := h4.less (hst.1 ▸ hl)
    simp [hst.1]
    rw [← hr]
    have he : [AVal.int 21, .nilS, .int 1, .int 1, .int 0, .str [], .str []] = exC (.const 1 1 0 []) := by rw [Ex.const, exC_eq, exsV_nil]
    rw [he]
    exact RR.fin (V := fun x => AVal.agg (exC x)) hst h4 (by simp) ⟨rfl, rfl⟩
  rw [if_neg wd1] at hr
  by_cases wd2 : t.text = [102, 97, 108, 115, 101]
  · rw [if_pos wd2] at hr
    simp [f109, f109m, hg, h1, hne, q1, q4, tokC, hk]
    refine (r48f (hh.more _) (by rw [hisq]; simp [wd2])).use ?_
    rintro e' S1 ⟨rfl, rfl⟩
    simp [hk]
    refine (r48f (hh.more _) (by rw [hisq]; simp [wd2])).use ?_
    rintro e' S1 ⟨rfl, rfl⟩
    simp [hk]
    refine (got _ (hh.more _) (by rw [hisq]; simp [wd2])).use ?_
    rintro e' S1 ⟨hsq, rfl, h4⟩
    obtain ⟨T, rfl, hst⟩ := hsq.split hl
    rw [hgot _ wd2] at h4
    have h4 := h4.less (hst.1 ▸ hl)
    simp [hst.1]
    rw [← hr]
    have he : [AVal.int 21, .nilS, .int 1, .int 0, .int 0, .str [], .str []] = exC (.const 1 0 0 []) := by rw [Ex.const, exC_eq, exsV_nil]
    rw [he]
    exact RR.fin (V := fun x => AVal.agg (exC x)) hst h4 (by simp) ⟨rfl, rfl⟩
  rw [if_neg wd2] at hr
  by_cases wd3 : t.text = [110, 97, 110]
  · rw [if_pos wd3] at hr
    simp [f109, f109m, hg, h1, hne, q1, q4, tokC, hk]
    refine (r48f (hh.more _) (by rw [hisq]; simp [wd3])).use ?_
    rintro e' S1 ⟨rfl, rfl⟩
    simp [hk]
    refine (r48f (hh.more _) (by rw [hisq]; simp [wd3])).use ?_
    rintro e' S1 ⟨rfl, rfl⟩
    simp [hk]
    refine (r48f (hh.more _) (by rw [hisq]; simp [wd3])).use ?_
    rintro e' S1 ⟨rfl, rfl⟩
    simp [hk]
    refine (got _ (hh.more _) (by rw [hisq]; simp [wd3])).use ?_
    rintro e' S1 ⟨hsq, rfl, h4⟩
    obtain ⟨T, rfl, hst⟩ := hsq.split hl
    rw [hgot _ wd3] at h4
    have h4 := h4.less (hst.1 ▸ hl)
    simp [hst.1]
    rw [← hr]
    have he : [AVal.int 21, .nilS, .int 3, .int 0, .int (-1), .str [], .str []] = exC (.const 3 0 (-1) []) := by rw [Ex.const, exC_eq, exsV_nil]
    rw [he]
    exact RR.fin (V := fun x => AVal.agg (exC x)) hst h4 (by simp) ⟨rfl, rfl⟩
  rw [if_neg wd3] at hr
  by_cases wd4 : t.text = [105, 110, 102, 105, 110, 105, 116, 121]
  · rw [if_pos wd4] at hr
    simp [f109, f109m, hg, h1, hne, q1, q4, tokC, hk]
    refine (r48f (hh.more _) (by rw [hisq]; simp [wd4])).use ?_
    rintro e' S1 ⟨rfl, rfl⟩
    simp [hk]
    refine (r48f (hh.more _) (by rw [hisq]; simp [wd4])).use ?_
    rintro e' S1 ⟨rfl, rfl⟩
    simp [hk]
    refine (r48f (hh.more _) (by rw [hisq]; simp [wd4])).use ?_
    rintro e' S1 ⟨rfl, rfl⟩
    simp [hk]
    refine (r48f (hh.more _) (by rw [hisq]; simp [wd4])).use ?_
    rintro e' S1 ⟨rfl, rfl⟩
    simp [hk]
    refine (got _ (hh.more _) (by rw [hisq]; simp [wd4])).use ?_
    rintro e' S1 ⟨hsq, rfl, h4⟩
    obtain ⟨T, rfl, hst⟩ := hsq.split hl
    rw [hgot _ wd4] at h4
    have h4 := h4.less (hst.1 ▸ hl)
    simp [hst.1]
    rw [← hr]
    have he : [AVal.int 21, .nilS, .int 3, .int 0, .int (-2), .str [], .str []] = exC (.const 3 0 (-2) []) := by rw [Ex.const, exC_eq, exsV_nil]
    rw [he]
    exact RR.fin (V := fun x => AVal.agg (exC x)) hst h4 (by simp) ⟨rfl, rfl⟩
  rw [if_neg wd4] at hr
  by_cases wd5 : t.text = [105, 110, 116]
  · rw [if_pos (.inl wd5)] at hr
    simp [f109, f109m, hg, h1, hne, q1, q4, tokC, hk]
    refine (r48f (hh.more _) (by rw [hisq]; simp [wd5])).use ?_
    rintro e' S1 ⟨rfl, rfl⟩
    simp [hk]
    refine (r48f (hh.more _) (by rw [hisq]; simp [wd5])).use ?_
    rintro e' S1 ⟨rfl, rfl⟩
    simp [hk]
    refine (r48f (hh.more _) (by rw [hisq]; simp [wd5])).use ?_
    rintro e' S1 ⟨rfl, rfl⟩
    simp [hk]
    refine (r48f (hh.more _) (by rw [hisq]; simp [wd5])).use ?_
    rintro e' S1 ⟨rfl, rfl⟩
    simp [hk]
    refine (r48f (hh.more _) (by rw [hisq]; simp [wd5])).use ?_
    rintro e' S1 ⟨rfl, rfl⟩
    simp [hk]
    refine (got _ (hh.more _) (by rw [hisq]; simp [wd5])).use ?_
    rintro e' S1 ⟨hsq, rfl, h4⟩
    obtain ⟨T, rfl, hst⟩ := hsq.split hl
    rw [hgot _ wd5] at h4
    have h4 := h4.less (hst.1 ▸ hl)
    simp [hst.1]
    refine (r123 hts ho hx (h4.more _) htl).use ?_
    rintro e' S2 ⟨hsq2, x, q2, rfl, h5, h6⟩
    obtain ⟨T2, rfl, hst2⟩ := hsq2.split h4.lt
    have h5 := h5.less (hst2.1 ▸ h4.lt)
    have e2 := hst2.1
    have hux : [AVal.int 14, .list .full [exC x], .int 0, .int 0, .int 0, .str [], .str []] = exC (.un 14 x) := by rw [Ex.un, exC_eq, exsV_one]
    simp [hst.1, e2, hux]
    refine RR.fin (V := fun x => AVal.agg (exC x)) (x := .un 14 x) (hst.trans hst2) h5 (by simp) ?_
    cases hin : inner E o l0.tail with
    | error c =>
      rw [hin] at h6 hr
      rw [← hr]
      exact h6
    | ok y =>
      obtain ⟨y, l2⟩ := y
      rw [hin] at h6 hr
      obtain ⟨rfl, rfl⟩ := h6
      rw [← hr]
      simp [Rl, wd5]
  by_cases wd6 : t.text = [114, 101, 97, 108]
  · rw [if_pos (.inr wd6)] at hr
    simp [f109, f109m, hg, h1, hne, q1, q4, tokC, hk]
    refine (r48f (hh.more _) (by rw [hisq]; simp [wd6])).use ?_
    rintro e' S1 ⟨rfl, rfl⟩
    simp [hk]
    refine (r48f (hh.more _) (by rw [hisq]; simp [wd6])).use ?_
    rintro e' S1 ⟨rfl, rfl⟩
    simp [hk]
    refine (r48f (hh.more _) (by rw [hisq]; simp [wd6])).use ?_
    rintro e' S1 ⟨rfl, rfl⟩
    simp [hk]
    refine (r48f (hh.more _) (by rw [hisq]; simp [wd6])).use ?_
    rintro e' S1 ⟨rfl, rfl⟩
    simp [hk]
    refine (r48f (hh.more _) (by rw [hisq]; simp [wd6])).use ?_
    rintro e' S1 ⟨rfl, rfl⟩
    simp [hk]
    refine (r48f (hh.more _) (by rw [hisq]; simp [wd6])).use ?_
    rintro e' S1 ⟨rfl, rfl⟩
    simp [hk]
    refine (got _ (hh.more _) (by rw [hisq]; simp [wd6])).use ?_
    rintro e' S1 ⟨hsq, rfl, h4⟩
    obtain ⟨T, rfl, hst⟩ := hsq.split hl
    rw [hgot _ wd6] at h4
    have h4 := h4.less (hst.1 ▸ hl)
    simp [hst.1]
    refine (r123 hts ho hx (h4.more _) htl).use ?_
    rintro e' S2 ⟨hsq2, x, q2, rfl, h5, h6⟩
    obtain ⟨T2, rfl, hst2⟩ := hsq2.split h4.lt
    have h5 := h5.less (hst2.1 ▸ h4.lt)
    have e2 := hst2.1
    have hux : [AVal.int 15, .list .full [exC x], .int 0, .int 0, .int 0, .str [], .str []] = exC (.un 15 x) := by rw [Ex.un, exC_eq, exsV_one]
    simp [hst.1, e2, hux]
    refine RR.fin (V := fun x => AVal.agg (exC x)) (x := .un 15 x) (hst.trans hst2) h5 (by simp) ?_
    cases hin : inner E o l0.tail with
    | error c =>
      rw [hin] at h6 hr
      rw [← hr]
      exact h6
    | ok y =>
      obtain ⟨y, l2⟩ := y
      rw [hin] at h6 hr
      obtain ⟨rfl, rfl⟩ := h6
      rw [← hr]
      simp [Rl, wd6]
  rw [if_neg (by simp [wd5, wd6])] at hr
  simp [f109, f109m, hg, h1, hne, q1, q4, tokC, hk]
  refine (r48f (hh.more _) (by rw [hisq]; simp [wd0])).use ?_
  rintro e' S1 ⟨rfl, rfl⟩
  simp [hk]
  refine (r48f (hh.more _) (by rw [hisq]; simp [wd1])).use ?_
  rintro e' S1 ⟨rfl, rfl⟩
  simp [hk]
  refine (r48f (hh.more _) (by rw [hisq]; simp [wd2])).use ?_
  rintro e' S1 ⟨rfl, rfl⟩
  simp [hk]
  refine (r48f (hh.more _) (by rw [hisq]; simp [wd3])).use ?_
  rintro e' S1 ⟨rfl, rfl⟩
  simp [hk]
  refine (r48f (hh.more _) (by rw [hisq]; simp [wd4])).use ?_
  rintro e' S1 ⟨rfl, rfl⟩
  simp [hk]
  refine (r48f (hh.more _) (by rw [hisq]; simp [wd5])).use ?_
  rintro e' S1 ⟨rfl, rfl⟩
  simp [hk]
  refine (r48f (hh.more _) (by rw [hisq]; simp [wd6])).use ?_
  rintro e' S1 ⟨rfl, rfl⟩
  simp [hk]
  refine (r50 hts (hh.more _)).use ?_
  rintro e' S1 ⟨hsq, nm, q1, rfl, h4, h5⟩
  obtain ⟨T, rfl, hst⟩ := hsq.split hl
  have h4 := h4.less (hst.1 ▸ hl)
  have e1 := hst.1
  have h5 : Rl (nameR resv l0) nm q1 := h5
  simp [e1]
  refine (r48 hts (h4.more _) 5 _).use ?_
  rintro e' S2 ⟨hsq2, rfl, h6⟩
  obtain ⟨T2, rfl, hst2⟩ := hsq2.split h4.lt
  have h6 := h6.less (hst2.1 ▸ h4.lt)
  have e2 := hst2.1
  have hst02 := hst.trans hst2
  have hcol : ∀ a b : Bs, [AVal.int 22, .nilS, .int 0, .int 0, .int 0, .str a, .str b] = exC (.col a b) := fun a b => by rw [Ex.col, exC_eq, exsV_nil]
  generalize hb : isQ 5 [46] q1 = b
  cases b with
  | false =>
    rw [gotQ_false hb] at h6
    simp [e1, e2, hcol]
    refine RR.fin (V := fun x => AVal.agg (exC x)) (x := .col nm []) (q' := q1) hst02 h6 (by simp) ?_
    cases hn : nameR resv l0 with
    | error c =>
      rw [hn] at h5 hr
      rw [← hr]
      exact h5
    | ok y =>
      obtain ⟨y, l1⟩ := y
      rw [hn] at h5 hr
      obtain ⟨rfl, rfl⟩ := h5
      rw [isQ_ok] at hb
      simp only [hb, Bool.false_eq_true, if_false] at hr
      rw [← hr]
      exact ⟨rfl, rfl⟩
  | true =>
    obtain ⟨l1, rfl, hT, hgq⟩ := gotQ_true hb
    rw [hgq] at h6
    simp [e1, e2]
    refine (r50 hts (h6.more _)).use ?_
    rintro e' S3 ⟨hsq3, n2, q3, rfl, h7, h8⟩
    obtain ⟨T3, rfl, hst3⟩ := hsq3.split h6.lt
    have h7 := h7.less (hst3.1 ▸ h6.lt)
    have e3 := hst3.1
    have h8 : Rl (nameR resv l1.tail) n2 q3 := h8
    simp [e1, e2, e3]
    rw [hcol]
    refine RR.fin (V := fun x => AVal.agg (exC x)) (x := .col n2 nm) (q' := q3) (hst02.trans hst3) h7 (by simp) ?_
    cases hn : nameR resv l0 with
    | error c =>
      rw [hn] at h5
      obtain ⟨h5, _⟩ := h5
      cases h5
    | ok y =>
      obtain ⟨y, l2⟩ := y
      rw [hn] at h5 hr
      obtain ⟨rfl, hq⟩ := h5
      cases hq
      simp only [hT, if_true] at hr
      cases hn2 : nameR resv l1.tail with
      | error c =>
        rw [hn2] at h8 hr
        rw [← hr]
        exact h8
      | ok z =>
        obtain ⟨z, l3⟩ := z
        rw [hn2] at h8 hr
        obtain ⟨rfl, rfl⟩ := h8
        rw [← hr]
        exact ⟨rfl, rfl⟩
end
end Go.Abs
set_option linter.unusedSimpArgs false
set_option linter.unusedVariables false
namespace Go.Abs
open Go Go.RowKit Go.Proofs Go.Lx Go.Pz
variable {w0 : World}

section
variable {pid : Nat} {ts : List Tok} {o m n : Nat}
theorem r109n {F : List Tok → Res Ex} (hF : F [] = .error 130) {S : Heap} (h : RAt S pid ts (.ok []) o m) : ACalls Tryz.prog (B0 w0) 109 [.ptr pid 0 0] S (XQ S pid ts o m (F [])) := by
  refine ACalls.rfin (pid := pid) ?_
  have hl := h.lt
  have hh := h
  have hg := hmoreG hl
  rw [hF]
  obtain ⟨fl, i, e, h0, h1, h2, rfl, h3⟩ := h
  have hie : i = ts.length := by
    have := congrArg List.length h3
    simp at this
    omega
  subst hie
  refine fn_sound tryOrd (f109_c _) (by simp [f109]) ?_
  simp [f109, f109m, hg, h1]
  refine (r24 (hh.more _) (c := 130) (by decide)).use ?_
  rintro e' S1 ⟨hsq, rfl, h3⟩
  obtain ⟨T, rfl, hst⟩ := hsq.split hl
  have h3 := h3.less (hst.1 ▸ hl)
  have hz : AVal.agg z7 = .agg (exC .zero) := by rw [exC_zero]
  simp [hst.1]
  rw [hz]
  exact RR.fin (V := fun x => AVal.agg (exC x)) (x := .zero) hst h3 (by simp) ⟨rfl, by decide⟩
theorem x_one (hts : ts.length ≤ 4000) (hok : ∀ t ∈ ts, OkT t) (ho : o ≤ 1000000) {E : Nat → List Tok → Res Ex} (hx : ∀ n', n = n' + 1 → XSpec w0 pid ts (o + 1) m n' 0 (E (o + 1))) : XSpec w0 pid ts o m n 7 (oneP resv E o) :=
  x_call (.inr ⟨rfl, rfl⟩) fun S l ha hl => by
    cases l with
    | nil => exact r109n rfl ha
    | cons t r0 =>
      obtain ⟨n', rfl⟩ : ∃ n', n = n' + 1 := ⟨n - 1, by simp at hl; omega⟩
      by_cases hk : t.kind = 1
      · exact r109b hts ho (hx n' rfl) ha hl rfl hk
      · exact r109a hts hok ho (hx n' rfl) ha hl fun t' r' e => by cases e; exact hk
/-- All levels, over one operand. -/
theorem x_levels (hts : ts.length ≤ 4000) {E : Nat → List Tok → Res Ex} (hE : ∀ k, Eats n (E k)) (h1 : XSpec w0 pid ts o m n 7 (oneP resv E o)) : XSpec w0 pid ts o m n 0 (eitherP resv E o) := by
  have h2 : XSpec w0 pid ts o m n 6 (minusP resv E o) := x_ahead hts (.inr ⟨rfl, rfl, rfl, rfl⟩) h1
  have h3 : XSpec w0 pid ts o m n 5 (termP resv E o) := x_chain (.inr (.inr (.inr rfl))) ((minusP_good hE o).le (by omega)) opMul_good opMul_ne h2 (fun S q ha => by
    have := r110s (w0 := w0) hts ha (.inr ⟨rfl, rfl, rfl, rfl, rfl, rfl, rfl⟩)
    rwa [op3_mul] at this)
  have h4 : XSpec w0 pid ts o m n 4 (sumP resv E o) := x_chain (.inr (.inr (.inl rfl))) ((termP_good hE o).le (by omega)) opSum_good opSum_ne h3 (fun S q ha => by
    have := r110s (w0 := w0) hts ha (.inl ⟨rfl, rfl, rfl, rfl, rfl, rfl, rfl⟩)
    rwa [op3_sum] at this)
  have h5 : XSpec w0 pid ts o m n 3 (testP resv E o) := by
    rw [testP_G]
    exact x_call (.inl ⟨rfl, rfl⟩) fun S l ha hl => r108 hts ((sumP_good hE o).le (by omega)) h4 ha hl
  have h6 : XSpec w0 pid ts o m n 2 (notP resv E o) := x_ahead hts (.inl ⟨rfl, rfl, rfl, rfl⟩) h5
  have h7 : XSpec w0 pid ts o m n 1 (bothP resv E o) := x_chain (.inr (.inl rfl)) ((notP_good hE o).le (by omega)) opAnd_good opAnd_ne h6 (fun S q ha => r110w hts ha (.inr ⟨rfl, rfl, rfl⟩))
  exact x_chain (.inl rfl) ((bothP_good hE o).le (by omega)) opOr_good opOr_ne h7 (fun S q ha => r110w hts ha (.inl ⟨rfl, rfl, rfl⟩))
/-- Expressions. -/
theorem x_all (w0 : World) (pid : Nat) (ts : List Tok) (m : Nat) (hts : ts.length ≤ 4000) (hok : ∀ t ∈ ts, OkT t) : ∀ (n o : Nat), o + n ≤ 1000000 → XSpec w0 pid ts o m n 0 (Pz.either resv (n + 1) o)
  | 0, o, h => x_levels hts (fun k => either_good resv 0 k) (x_one hts hok (by omega) (fun n' e => by omega))
  | n + 1, o, h => x_levels hts (fun k => either_good resv (n + 1) k) (x_one hts hok (by omega) (fun n' e => by
      obtain rfl : n = n' := by omega
      exact x_all w0 pid ts m hts hok n (o + 1) (by omega)))
end
end Go.Abs
set_option linter.unusedSimpArgs false
set_option linter.unusedVariables false
namespace Go.Abs
open Go Go.RowKit Go.Proofs Go.Lx Go.Pz
variable {w0 : World}

def DI (H : Heap) (b : Nat) (args : List Ex) (m : Nat) (a : Tmps) (S' : Heap) : Prop := ∃ (i : Nat), m = args.length - i ∧ i ≤ args.length ∧ S' = H ∧ get a 1 = .ptr b 0 0 ∧ get a 4 = .int i ∧ get a 3 = .int (depthL (args.take i))
theorem r15 : ∀ (n : Nat), n < 4000000000000000000 → ∀ (x : Ex), x.w ≤ n → ∀ (S : Heap), ACalls Tryz.prog (B0 w0) 15 [.agg (exC x)] S fun e S' => e = .ret (.int x.depth) ∧ S' = S := by
  intro n
  induction n using Nat.strongRecOn with
  | _ n ih =>
    intro hn x hx S
    obtain ⟨op, args, kind, num, scale, text, qual⟩ := x
    rw [depth_mk]
    rw [w_mk] at hx
    have hal := wL_len args
    have hdl := depthL_le args
    refine ACalls.close (R := fun e S' => e = .ret (.int (depthL args)) ∧ S'.take S.length = S) ?_ ?_
    rotate_left 1
    · rintro e S' ⟨rfl, ht⟩
      exact .flat ht rfl ⟨rfl, rfl⟩
    obtain ⟨fl, hfl⟩ := exsV_list args
    rw [exC_eq, hfl]
    refine fn_sound tryOrd (f15_c _) (by simp [f15]) ?_
    simp [f15, f15m]
    obtain ⟨H, hH⟩ : ∃ H, H = S ++ [AObj.cells 7 [[.int op, .list fl (exlC args), .int kind, .int num, .int scale, .str text, .str qual]] (some 1)] := ⟨_, rfl⟩
    have hg : H[S.length]? = some (.cells 7 [[.int op, .list fl (exlC args), .int kind, .int num, .int scale, .str text, .str qual]] (some 1)) := by rw [hH]; simp
    have ht : H.take S.length = S := by rw [hH]; simp
    rw [← hH]
    refine mwp_loop (I := DI H S.length args) (n := args.length)
      ⟨0, rfl, Nat.zero_le _, rfl, rfl, rfl, by simp [depthL_nil]⟩ ?_
    rintro m a S' ⟨i, rfl, hi, rfl, a1, a4, a3⟩
    by_cases hlt : i < args.length
    · have hltI : (i : Int) < (args.length : Int) := by omega
      have hgt : (exlC args).getD i [] = exC args[i] := by rw [getD_eq _ _ _ (by simpa using hlt)]; simp [exlC]
      have q1 := li_addr (k := 7) (es := exlC args) (by simpa using hlt) hgt (by simp)
      have q2 := li_load (k := 7) (es := exlC args) (by simpa using hlt) hgt (by simp) true 7 0 (by omega)
      have htk2 : takeAt true 7 (exC args[i]) 0 = .agg (exC args[i]) := by simp [takeAt, List.take_of_length_le]
      rw [htk2] at q2
      have hmem := w_mem (List.getElem_mem hlt)
      have hd := ih (args[i].w) (by omega) (by omega) args[i] (Nat.le_refl _)
      have hdw := depth_le args[i]
      have htk : depthL (args.take (i + 1)) = max (depthL (args.take i)) (args[i].depth + 1) := by
        rw [List.take_add_one, List.getElem?_eq_getElem hlt, depthL_append, Option.toList_some, depthL_cons, depthL_nil]; omega
      have hw : IntKind.i64.wrap ((args[i].depth : Int) + 1) = ((args[i].depth + 1 : Nat) : Int) := wrapS _ (by omega)
      have hw2 := wrapS i (by omega)
      generalize args[i] = y at *
      simp [f15b0, a1, a4, a3, hg, hltI, q1, q2]
      refine (hd _).use ?_
      rintro e S1 ⟨rfl, rfl⟩
      by_cases hgt2 : depthL (args.take i) < y.depth + 1
      · have hgtI : (depthL (args.take i) : Int) < (y.depth : Int) + 1 := by omega
        simp [a1, a4, a3, hw, hw2, hgtI]
        refine ⟨args.length - (i + 1), by omega, i + 1, rfl, by omega, rfl, by simp [a1], by simp, ?_⟩
        rw [htk, Nat.max_eq_right (by omega)]
        simp
      · have hgtI : ¬ (depthL (args.take i) : Int) < (y.depth : Int) + 1 := by omega
        simp [a1, a4, a3, hw, hw2, hgtI]
        refine ⟨args.length - (i + 1), by omega, i + 1, rfl, by omega, rfl, by simp [a1], by simp, ?_⟩
        rw [htk, Nat.max_eq_left (by omega)]
        simp [a3]
    · have hie : i = args.length := by omega
      subst hie
      rw [List.take_length] at a3
      simp [f15b0, a1, a4, a3, hg, ht]
end Go.Abs
set_option linter.unusedSimpArgs false
set_option linter.unusedVariables false
namespace Go.Abs
open Go Go.RowKit Go.Proofs Go.Lx Go.Pz
variable {w0 : World}

/-- What whole answers: the expression, what is left, the greatest depth; in error some expression, and some depth. -/
def WhQ (ts : List Tok) (S : Heap) (pid : Nat) (m : Nat) (r : Res Ex) (e : AEnd) (S' : Heap) : Prop :=
  Step pid S S' ∧ ∃ (x : Ex) (q' : Q) (m' : Nat), e = .ret (.agg (exC x)) ∧ RAt S' pid ts q' 0 m' ∧ Rl r x q' ∧ (∀ l, q' = .ok l → m' = max m x.depth)
theorem WhQ.fin {ts : List Tok} {S T g : Heap} {pid m : Nat} {r : Res Ex} {x : Ex} {q' : Q} {m' : Nat} (hst : Step pid S T) (ha : RAt T pid ts q' 0 m') (hr : Rl r x q') (hm : ∀ l, q' = .ok l → m' = max m x.depth) : RFin S pid (WhQ ts S pid m r) (.ret (.agg (exC x))) (T ++ g) :=
  ⟨T, g, rfl, hst, ⟨_, _, _, _, ha⟩, by simp [AEnd.sc], hst, x, q', m', rfl, ha, hr, hm⟩
section
variable {pid : Nat} {ts : List Tok} {m N : Nat}
set_option maxHeartbeats 2000000 in
theorem r54 (hts : ts.length ≤ 4000) (hok : ∀ t ∈ ts, OkT t) {S : Heap} {q : Q} (h : RAt S pid ts q 0 m) (hn : ∀ l, q = .ok l → l.length < N) (hN : N ≤ 100000) : ACalls Tryz.prog (B0 w0) 54 [.ptr pid 0 0] S (WhQ ts S pid m (liftQ (Pz.either resv N 0) q)) := by
  refine ACalls.rfin (pid := pid) ?_
  have hl := h.lt
  obtain ⟨r, hr⟩ : ∃ r, liftQ (Pz.either resv N 0) q = r := ⟨_, rfl⟩
  rw [hr]
  have hx : ACalls Tryz.prog (B0 w0) 92 [.ptr pid 0 0, .int 0] (S ++ [.cells 7 [z7] (some 1)]) (XQ (S ++ [.cells 7 [z7] (some 1)]) pid ts 0 m r) := by
    rw [← hr]
    cases q with
    | error c => exact x_dead (h.more _) 0 (Pz.either resv N 0)
    | ok l =>
      have := hn l rfl
      obtain ⟨n, rfl⟩ : ∃ n, N = n + 1 := ⟨N - 1, by omega⟩
      exact x_all w0 pid ts m hts hok n 0 (by omega) _ _ (h.more _) (fun l' e => by cases e; omega)
  refine fn_sound tryOrd (f54_c _) (by simp [f54]) ?_
  simp [f54, f54m]
  refine hx.use ?_
  rintro e S1 ⟨hsq, x, q1, rfl, h3, h4⟩
  obtain ⟨T, rfl, hst⟩ := hsq.split hl
  have h3 := h3.less (hst.1 ▸ hl)
  have e1 := hst.1
  have hg := hmoreG h3.lt
  have hs := hsetG h3.lt
  have hh := h3
  obtain ⟨fl, i, e, g0, g1, g2⟩ := h3
  cases q1 with
  | error c =>
    obtain ⟨g2, g3, rfl⟩ := g2
    have hb : (e == 0) = false := beq_eq_false_iff_ne.2 g3
    simp [e1, hg, g1, hb]
    exact WhQ.fin hst hh h4 (fun l e => by cases e)
  | ok l =>
    obtain ⟨g2, rfl, g3⟩ := g2
    have hxw : x.w ≤ 4000 := by
      cases q with
      | error d =>
        rw [← hr] at h4
        obtain ⟨h4, _⟩ := h4
        cases h4
      | ok l0 =>
        have hr' : Pz.either resv N 0 l0 = r := hr
        cases hE : Pz.either resv N 0 l0 with
        | error d =>
          rw [hE] at hr'
          rw [← hr'] at h4
          obtain ⟨h4, _⟩ := h4
          cases h4
        | ok y =>
          obtain ⟨y, l1⟩ := y
          have hgd := either_good resv N 0 _ _ _ (Nat.le_of_lt (hn l0 rfl)) hE
          rw [hE] at hr'
          rw [← hr'] at h4
          obtain ⟨rfl, _⟩ := h4
          obtain ⟨_, i0, _, _, _, _, _, h9⟩ := h
          have : l0.length ≤ 4000 := by rw [← h9]; simp; omega
          omega
    have hd := fun S => r15 (w0 := w0) 4000 (by decide) x hxw S
    simp [e1, hg, g1]
    refine (hd _).use ?_
    rintro e S2 ⟨rfl, rfl⟩
    have hlT := lt_of_some g1
    by_cases hgt : m < x.depth
    · have hgtI : (m : Int) < (x.depth : Int) := by omega
      simp [hg, g1, hgtI, e1]
      refine (hd _).use ?_
      rintro e S2 ⟨rfl, rfl⟩
      simp [hg, hs, g1, e1]
      refine WhQ.fin (q' := .ok l) (m' := x.depth) (hst.trans (Step.set _)) ⟨fl, i, 0, g0, by rw [List.getElem?_set_self hlT]; rfl, g2, rfl, g3⟩ h4 (fun l e => by omega)
    · have hgtI : ¬ (m : Int) < (x.depth : Int) := by omega
      simp [hg, g1, hgtI, e1]
      exact WhQ.fin hst hh h4 (fun l e => by omega)
end
end Go.Abs
set_option linter.unusedSimpArgs false
set_option linter.unusedVariables false
namespace Go.Abs
open Go Go.RowKit Go.Proofs Go.Lx Go.Pz
variable {w0 : World}

def whereF (N : Nat) (l : List Tok) : Res Ex := if isT 1 [119, 104, 101, 114, 101] l then Pz.either resv N 0 l.tail else .ok (.zero, l)
section
variable {pid : Nat} {ts : List Tok} {m N : Nat}
set_option maxHeartbeats 2000000 in
theorem r56 (hts : ts.length ≤ 4000) (hok : ∀ t ∈ ts, OkT t) {S : Heap} {q : Q} (h : RAt S pid ts q 0 m) (hn : ∀ l, q = .ok l → l.length < N) (hN : N ≤ 100000) : ACalls Tryz.prog (B0 w0) 56 [.ptr pid 0 0] S (WhQ ts S pid m (liftQ (whereF N) q)) := by
  refine ACalls.rfin (pid := pid) ?_
  have hl := h.lt
  have hz : AVal.agg z7 = .agg (exC .zero) := by rw [exC_zero]
  refine fn_sound tryOrd (f56_c _) (by simp [f56]) ?_
  simp [f56, f56m]
  refine (r48 hts (h.more _) 1 _).use ?_
  rintro e S1 ⟨hsq, rfl, h1⟩
  obtain ⟨T, rfl, hst⟩ := hsq.split hl
  have h1 := h1.less (hst.1 ▸ hl)
  have e1 := hst.1
  generalize hb : isQ 1 [119, 104, 101, 114, 101] q = b
  cases b with
  | false =>
    rw [gotQ_false hb] at h1
    simp [e1]
    rw [hz]
    refine WhQ.fin (x := .zero) (q' := q) (m' := m) hst h1 ?_ (fun l e => by simp [Ex.zero, depth_mk, depthL_nil])
    cases q with
    | error c => exact ⟨rfl, by obtain ⟨_, _, _, _, _, h6⟩ := h1; exact h6.ne⟩
    | ok l =>
      rw [isQ_ok] at hb
      show Rl (whereF N l) _ _
      rw [whereF, if_neg (by simp [hb])]
      exact ⟨rfl, rfl⟩
  | true =>
    obtain ⟨l, rfl, hT, hgq⟩ := gotQ_true hb
    rw [hgq] at h1
    have := hn l rfl
    simp [e1]
    refine (r54 (N := N) hts hok (h1.more _) (fun l' e => by cases e; simp; omega) hN).use ?_
    rintro e S2 ⟨hsq2, x, q', m', rfl, h2, h3, h4⟩
    obtain ⟨T2, rfl, hst2⟩ := hsq2.split h1.lt
    have h2 := h2.less (hst2.1 ▸ h1.lt)
    have e2 := hst2.1
    simp [e1, e2]
    refine WhQ.fin (hst.trans hst2) h2 ?_ h4
    show Rl (whereF N l) _ _
    rw [whereF, if_pos hT]
    exact h3
end
end Go.Abs
