/- The document's parser: lists, CREATE, INSERT. Conditions: none but the lengths; definitions and lemmas. -/
import Derived.Test.YtcogkenmdbaiiaaGreatDoorMQ
set_option linter.unusedSimpArgs false
set_option linter.unusedVariables false
namespace Go.Abs
open Go Go.RowKit Go.Proofs Go.Lx Go.Pz
variable {w0 : World}

abbrev QS := Except Int Sta
def qq : QS → Q
  | .ok s => .ok s.l
  | .error c => .error c
@[simp] theorem qq_ok (s : Sta) : qq (.ok s) = .ok s.l := rfl
@[simp] theorem qq_err (c : Int) : qq (.error c) = .error c := rfl
/-- Where the document's parser stands. -/
def SAt (S : Heap) (pid : Nat) (ts : List Tok) (q : QS) : Prop := ∃ m, RAt S pid ts (qq q) 0 m ∧ ∀ s, q = .ok s → m = s.d
section
variable {S : Heap} {pid : Nat} {ts : List Tok} {q : QS}
theorem SAt.lt (h : SAt S pid ts q) : pid < S.length := by obtain ⟨_, h, _⟩ := h; exact h.lt
theorem SAt.more (h : SAt S pid ts q) (g : Heap) : SAt (S ++ g) pid ts q := by obtain ⟨m, h, h'⟩ := h; exact ⟨m, h.more g, h'⟩
theorem SAt.less {g : Heap} (h : SAt (S ++ g) pid ts q) (hl : pid < S.length) : SAt S pid ts q := by obtain ⟨m, h, h'⟩ := h; exact ⟨m, h.less hl, h'⟩
theorem SAt.get (h : SAt S pid ts q) : ∃ o, S[pid]? = some o ∧ ∀ n, o.sc n = true := by
  obtain ⟨m, ⟨fl, i, e, h0, h1, h2⟩, h'⟩ := h
  exact ⟨_, h1, fun n => by simp [AObj.sc, scLL, scL, AVal.sc, toksV_sc]⟩
theorem SAt.same (h : SAt S pid ts q) {S' : Heap} (he : S'[pid]? = S[pid]?) : SAt S' pid ts q := by
  obtain ⟨m, ⟨fl, i, e, h0, h1, h2⟩, h'⟩ := h
  exact ⟨m, ⟨fl, i, e, h0, he.trans h1, h2⟩, h'⟩
theorem SAt.size (h : SAt S pid ts q) {s : Sta} (e : q = .ok s) : s.l.length ≤ ts.length := by
  obtain ⟨m, ⟨fl, i, e0, h0, h1, h2, h3⟩, h'⟩ := h
  subst e
  obtain ⟨_, h3⟩ := h3
  rw [← h3]
  simp
theorem SAt.ne (h : SAt S pid ts q) {c : Int} (e : q = .error c) : c ≠ 0 := by
  obtain ⟨m, ⟨fl, i, e0, h0, h1, h2⟩, h'⟩ := h
  subst e
  exact h2.ne
end
def stq {α : Type} : ResS α → QS
  | .ok (_, s) => .ok s
  | .error c => .error c
@[simp] theorem stq_ok {α : Type} (a : α) (s : Sta) : stq (.ok (a, s)) = .ok s := rfl
@[simp] theorem stq_err {α : Type} (c : Int) : stq (.error c : ResS α) = .error c := rfl
def liftS {α : Type} (F : Sta → ResS α) : QS → ResS α
  | .ok s => F s
  | .error c => .error c
@[simp] theorem liftS_ok {α : Type} (F : Sta → ResS α) (s : Sta) : liftS F (.ok s) = F s := rfl
@[simp] theorem liftS_err {α : Type} (F : Sta → ResS α) (c : Int) : liftS F (.error c) = .error c := rfl
def isS (k : Int) (w : Bs) : QS → Bool
  | .ok s => isT k w s.l
  | .error _ => false
@[simp] theorem isS_ok (k : Int) (w : Bs) (s : Sta) : isS k w (.ok s) = isT k w s.l := rfl
@[simp] theorem isS_err (k : Int) (w : Bs) (c : Int) : isS k w (.error c) = false := rfl
def gotS (k : Int) (w : Bs) : QS → QS
  | .ok s => .ok (if isT k w s.l = true then ⟨s.l.tail, s.d⟩ else s)
  | .error c => .error c
@[simp] theorem gotS_ok (k : Int) (w : Bs) (s : Sta) : gotS k w (.ok s) = .ok (if isT k w s.l = true then ⟨s.l.tail, s.d⟩ else s) := rfl
@[simp] theorem gotS_err (k : Int) (w : Bs) (c : Int) : gotS k w (.error c) = .error c := rfl
def mustS (k : Int) (w : Bs) : QS → QS
  | .ok s => needS k w s
  | .error c => .error c
@[simp] theorem mustS_ok (k : Int) (w : Bs) (s : Sta) : mustS k w (.ok s) = needS k w s := rfl
@[simp] theorem mustS_err (k : Int) (w : Bs) (c : Int) : mustS k w (.error c) = .error c := rfl
def failS (c : Int) : QS → QS
  | .ok _ => .error c
  | .error d => .error d
@[simp] theorem failS_ok (c : Int) (s : Sta) : failS c (.ok s) = .error c := rfl
@[simp] theorem failS_err (c d : Int) : failS c (.error d) = .error d := rfl
def moreS (n most : Nat) (q : QS) : Bool × QS := if isS 5 [44] q = true then (if n = most then (false, failS 151 q) else (true, gotS 5 [44] q)) else (false, q)
/-- A thing that was read: the law's where there was no error. -/
def Gd {α : Type} (r : ResS α) (x : α) : Prop := ∀ y s, r = .ok (y, s) → x = y
theorem Gd.ok {α : Type} {x y : α} {s : Sta} (h : Gd (.ok (y, s)) x) : x = y := h y s rfl
theorem Gd.self {α : Type} {x : α} {s : Sta} : Gd (.ok (x, s)) x := fun y s e => by cases e; rfl
theorem Gd.er {α : Type} {x : α} {c : Int} : Gd (.error c : ResS α) x := fun y s e => by cases e
/-- What a reading answers. -/
def RdS {α : Type} (V : α → AVal) (S : Heap) (pid : Nat) (ts : List Tok) (r : ResS α) (e : AEnd) (S' : Heap) : Prop :=
  Step pid S S' ∧ ∃ x, e = .ret (V x) ∧ SAt S' pid ts (stq r) ∧ Gd r x

section
variable {S : Heap} {pid : Nat} {ts : List Tok} {q : QS}
theorem q24 (h : SAt S pid ts q) {c : Int} (hc : c ≠ 0) : ACalls Tryz.prog (B0 w0) 24 [.ptr pid 0 0, .int c] S fun e S' => Step pid S S' ∧ e = .ret .undef ∧ SAt S' pid ts (failS c q) := by
  obtain ⟨m, h, h'⟩ := h
  refine (r24 h hc).mono ?_
  rintro e S' ⟨h1, h2, h3⟩
  refine ⟨h1, h2, m, ?_, ?_⟩
  · cases q <;> exact h3
  · cases q <;> (intro s e; cases e)
theorem q90 (h : SAt S pid ts q) (k : Int) (w : Bs) : ACalls Tryz.prog (B0 w0) 90 [.ptr pid 0 0, .int k, .str w] S fun e S' => e = .ret (.bool (isS k w q)) ∧ S' = S := by
  obtain ⟨m, h, h'⟩ := h
  refine (r90 h k w).mono ?_
  rintro e S' ⟨h1, h2⟩
  refine ⟨?_, h2⟩
  cases q <;> exact h1
theorem qq_got (k : Int) (w : Bs) (q : QS) : qq (gotS k w q) = gotQ k w (qq q) := by
  cases q with
  | error c => rfl
  | ok s => simp only [gotS_ok, qq_ok, gotQ]; split <;> rfl
theorem got_d {k : Int} {w : Bs} {q : QS} {s : Sta} (h : gotS k w q = .ok s) : ∃ s0, q = .ok s0 ∧ s.d = s0.d := by
  cases q with
  | error c => cases h
  | ok s0 =>
    simp only [gotS_ok, Except.ok.injEq] at h
    exact ⟨s0, rfl, by subst h; split <;> rfl⟩
theorem q48 (hts : ts.length ≤ 4000) (h : SAt S pid ts q) (k : Int) (w : Bs) : ACalls Tryz.prog (B0 w0) 48 [.ptr pid 0 0, .int k, .str w] S fun e S' => Step pid S S' ∧ e = .ret (.bool (isS k w q)) ∧ SAt S' pid ts (gotS k w q) := by
  obtain ⟨m, h, h'⟩ := h
  refine (r48 hts h k w).mono ?_
  rintro e S' ⟨h1, h2, h3⟩
  refine ⟨h1, ?_, m, ?_, ?_⟩
  · cases q <;> exact h2
  · rw [qq_got]; exact h3
  · intro s e
    obtain ⟨s0, rfl, e2⟩ := got_d e
    rw [e2]; exact h' _ rfl
theorem q51 (hts : ts.length ≤ 4000) (h : SAt S pid ts q) (k : Int) (w : Bs) : ACalls Tryz.prog (B0 w0) 51 [.ptr pid 0 0, .int k, .str w] S fun e S' => Step pid S S' ∧ e = .ret .undef ∧ SAt S' pid ts (mustS k w q) := by
  obtain ⟨m, h, h'⟩ := h
  refine (r51 hts h k w).mono ?_
  rintro e S' ⟨h1, h2, h3⟩
  refine ⟨h1, h2, m, ?_, ?_⟩
  · cases q with
    | error c => exact h3
    | ok s =>
      simp only [mustS_ok, needS, qq_ok, mustQ, need] at h3 ⊢
      split at h3 <;> simp_all
  · cases q with
    | error c => intro s e; cases e
    | ok s0 =>
      intro s e
      simp only [mustS_ok, needS] at e
      split at e
      · cases e; exact h' s0 rfl
      · cases e
theorem q50 (hts : ts.length ≤ 4000) (h : SAt S pid ts q) : ACalls Tryz.prog (B0 w0) 50 [.ptr pid 0 0] S (RdS AVal.str S pid ts (liftS (nameS resv) q)) := by
  obtain ⟨m, h, h'⟩ := h
  refine (r50 hts h).mono ?_
  rintro e S' ⟨h1, x, q', rfl, h2, h3⟩
  refine ⟨h1, x, rfl, ?_⟩
  cases q with
  | error c =>
    obtain ⟨rfl, _⟩ := h3
    exact ⟨⟨m, h2, fun s e => by cases e⟩, fun y s e => by cases e⟩
  | ok s =>
    have h3 : Rl (nameR resv s.l) x q' := h3
    rw [liftS_ok, nameS]
    cases hN : nameR resv s.l with
    | error c =>
      rw [hN] at h3
      obtain ⟨rfl, _⟩ := h3
      exact ⟨⟨m, h2, fun s e => by cases e⟩, fun y s e => by cases e⟩
    | ok y =>
      obtain ⟨y, l⟩ := y
      rw [hN] at h3
      obtain ⟨rfl, rfl⟩ := h3
      exact ⟨⟨m, h2, fun s' e => by cases e; exact h' s rfl⟩, Gd.self⟩
theorem q91 (hts : ts.length ≤ 4000) (h : SAt S pid ts q) : ACalls Tryz.prog (B0 w0) 91 [.ptr pid 0 0] S (RdS AVal.str S pid ts (liftS (aliasS resv) q)) := by
  obtain ⟨m, h, h'⟩ := h
  refine (r91 hts h).mono ?_
  rintro e S' ⟨h1, x, q', rfl, h2, h3⟩
  refine ⟨h1, x, rfl, ?_⟩
  cases q with
  | error c =>
    obtain ⟨rfl, _⟩ := h3
    exact ⟨⟨m, h2, fun s e => by cases e⟩, fun y s e => by cases e⟩
  | ok s =>
    have h3 : Rl (aliasR s.l) x q' := h3
    rw [liftS_ok, aliasS]
    rw [aliasR] at h3
    split
    · rename_i hT
      rw [if_pos hT] at h3
      rw [nameS]
      simp only
      cases hN : nameR resv s.l.tail with
      | error c =>
        rw [hN] at h3
        obtain ⟨rfl, _⟩ := h3
        exact ⟨⟨m, h2, fun s e => by cases e⟩, fun y s e => by cases e⟩
      | ok y =>
        obtain ⟨y, l⟩ := y
        rw [hN] at h3
        obtain ⟨rfl, rfl⟩ := h3
        exact ⟨⟨m, h2, fun s' e => by cases e; exact h' s rfl⟩, Gd.self⟩
    · rename_i hT
      rw [if_neg hT] at h3
      obtain ⟨rfl, rfl⟩ := h3
      exact ⟨⟨m, h2, fun s' e => by cases e; exact h' s rfl⟩, Gd.self⟩
theorem q55 (hts : ts.length ≤ 4000) (h : SAt S pid ts q) (n most : Nat) : ACalls Tryz.prog (B0 w0) 55 [.ptr pid 0 0, .int n, .int most] S fun e S' => Step pid S S' ∧ e = .ret (.bool (moreS n most q).1) ∧ SAt S' pid ts (moreS n most q).2 := by
  obtain ⟨m, h, h'⟩ := h
  have hi : isQ 5 [44] (qq q) = isS 5 [44] q := by cases q <;> rfl
  refine (r55 hts h n most).mono ?_
  rintro e S' ⟨h1, h2, h3⟩
  rw [moreQ, hi] at h2 h3
  rw [moreS]
  split at h2
  · rename_i hs
    rw [if_pos hs] at h3 ⊢
    split at h2
    · rename_i hn
      rw [if_pos hn] at h3 ⊢
      refine ⟨h1, h2, m, ?_, ?_⟩
      · cases q <;> exact h3
      · cases q <;> (intro s e; cases e)
    · rename_i hn
      rw [if_neg hn] at h3 ⊢
      refine ⟨h1, h2, m, ?_, ?_⟩
      · rw [qq_got]; exact h3
      · intro s e
        obtain ⟨s0, rfl, e2⟩ := got_d e
        rw [e2]; exact h' _ rfl
  · rename_i hs
    rw [if_neg hs] at h3 ⊢
    exact ⟨h1, h2, m, h3, h'⟩
theorem q54 (hts : ts.length ≤ 4000) (hok : ∀ t ∈ ts, OkT t) (h : SAt S pid ts q) : ACalls Tryz.prog (B0 w0) 54 [.ptr pid 0 0] S (RdS (fun x => AVal.agg (exC x)) S pid ts (liftS (whole resv (ts.length + 1)) q)) := by
  have hz := h
  obtain ⟨m, h, h'⟩ := h
  refine (r54 (N := ts.length + 1) hts hok h (fun l e => ?_) (by omega)).mono ?_
  · cases q with
    | error c => cases e
    | ok s => cases e; have := hz.size rfl; omega
  rintro e S' ⟨h1, x, q', m', rfl, h2, h3, h4⟩
  refine ⟨h1, x, rfl, ?_⟩
  cases q with
  | error c =>
    obtain ⟨rfl, _⟩ := h3
    exact ⟨⟨m', h2, fun s e => by cases e⟩, fun y s e => by cases e⟩
  | ok s =>
    have h3 : Rl (Pz.either resv (ts.length + 1) 0 s.l) x q' := h3
    rw [liftS_ok, whole]
    cases hN : Pz.either resv (ts.length + 1) 0 s.l with
    | error c =>
      rw [hN] at h3
      obtain ⟨rfl, _⟩ := h3
      exact ⟨⟨m', h2, fun s e => by cases e⟩, fun y s e => by cases e⟩
    | ok y =>
      obtain ⟨y, l⟩ := y
      rw [hN] at h3
      obtain ⟨rfl, rfl⟩ := h3
      exact ⟨⟨m', h2, fun s' e => by cases e; rw [h4 _ rfl, h' s rfl]⟩, Gd.self⟩
theorem q56 (hts : ts.length ≤ 4000) (hok : ∀ t ∈ ts, OkT t) (h : SAt S pid ts q) : ACalls Tryz.prog (B0 w0) 56 [.ptr pid 0 0] S (RdS (fun x => AVal.agg (exC x)) S pid ts (liftS (whereS resv (ts.length + 1)) q)) := by
  have hz := h
  obtain ⟨m, h, h'⟩ := h
  refine (r56 (N := ts.length + 1) hts hok h (fun l e => ?_) (by omega)).mono ?_
  · cases q with
    | error c => cases e
    | ok s => cases e; have := hz.size rfl; omega
  rintro e S' ⟨h1, x, q', m', rfl, h2, h3, h4⟩
  refine ⟨h1, x, rfl, ?_⟩
  cases q with
  | error c =>
    obtain ⟨rfl, _⟩ := h3
    exact ⟨⟨m', h2, fun s e => by cases e⟩, fun y s e => by cases e⟩
  | ok s =>
    have h3 : Rl (whereF (ts.length + 1) s.l) x q' := h3
    rw [liftS_ok, whereS]
    rw [whereF] at h3
    split
    · rename_i hT
      rw [if_pos hT] at h3
      rw [whole]
      simp only
      cases hN : Pz.either resv (ts.length + 1) 0 s.l.tail with
      | error c =>
        rw [hN] at h3
        obtain ⟨rfl, _⟩ := h3
        exact ⟨⟨m', h2, fun s e => by cases e⟩, fun y s e => by cases e⟩
      | ok y =>
        obtain ⟨y, l⟩ := y
        rw [hN] at h3
        obtain ⟨rfl, rfl⟩ := h3
        exact ⟨⟨m', h2, fun s' e => by cases e; rw [h4 _ rfl, h' s rfl]⟩, Gd.self⟩
    · rename_i hT
      rw [if_neg hT] at h3
      obtain ⟨rfl, rfl⟩ := h3
      refine ⟨⟨m', h2, fun s' e => by cases e; rw [h4 _ rfl, h' s rfl, Ex.zero, depth_mk, depthL_nil]; omega⟩, Gd.self⟩
end
end Go.Abs
set_option linter.unusedSimpArgs false
set_option linter.unusedVariables false
namespace Go.Abs
open Go Go.RowKit Go.Proofs Go.Lx Go.Pz
variable {w0 : World}

/-- A statement's cells under way. -/
structure CJ (S1 : Heap) (pid sid : Nat) (c : List AVal) (ts : List Tok) (q : QS) (S : Heap) : Prop where
  at_ : SAt S pid ts q
  st : S[sid]? = some (.cells 18 [c] (some 1))
  k2 : Kst pid sid S1 S
section
variable {S1 : Heap} {pid sid : Nat} {c : List AVal} {ts : List Tok} {q : QS} {S : Heap}
theorem CJ.more (h : CJ S1 pid sid c ts q S) (g : Heap) : CJ S1 pid sid c ts q (S ++ g) := ⟨h.at_.more g, by rw [List.getElem?_append_left (lt_of_some h.st)]; exact h.st, h.k2.more g⟩
theorem CJ.step (h : CJ S1 pid sid c ts q S) (hps : pid ≠ sid) {S' : Heap} (hst : Step pid S S') {q' : QS} (ha : SAt S' pid ts q') : CJ S1 pid sid c ts q' S' :=
  ⟨ha, (hst.2 sid (Ne.symm hps)).trans h.st, h.k2.trans hst.k2⟩
theorem CJ.set (h : CJ S1 pid sid c ts q S) (hps : pid ≠ sid) (c' : List AVal) : CJ S1 pid sid c' ts q (S.set sid (.cells 18 [c'] (some 1))) := by
  obtain ⟨h1, h2, h3⟩ := h
  exact ⟨h1.same (List.getElem?_set_ne (Ne.symm hps)), List.getElem?_set_self (lt_of_some h2), ⟨by simpa using h3.1, fun j hj j1 j2 => by rw [List.getElem?_set_ne (Ne.symm j2)]; exact h3.2 j hj j1 j2⟩⟩
end

/-- A list of it under way. -/
structure LJ (S0 : Heap) (pid sid : Nat) (c0 : List AVal) (f k : Nat) (es : List (List AVal)) (ts : List Tok) (q : QS) (S : Heap) : Prop where
  at_ : SAt S pid ts q
  st : ∃ v, S[sid]? = some (.cells c0.length [c0.set f v] (some 1)) ∧ Own S0.length S S [(v, k, es)]
  k2 : Kst pid sid S0 S
section
variable {S0 S1 : Heap} {pid sid : Nat} {c0 c : List AVal} {f k : Nat} {es : List (List AVal)} {ts : List Tok} {q : QS} {S : Heap}
theorem LJ.more (h : LJ S0 pid sid c0 f k es ts q S) (g : Heap) : LJ S0 pid sid c0 f k es ts q (S ++ g) := by
  obtain ⟨h1, ⟨v, h2, h3⟩, h4⟩ := h
  exact ⟨h1.more g, ⟨v, by rw [List.getElem?_append_left (lt_of_some h2)]; exact h2, h3.more' g⟩, h4.more g⟩
theorem LJ.step (h : LJ S0 pid sid c0 f k es ts q S) {S' : Heap} (hst : Step pid S S') (hp : pid < S0.length) (hps : pid ≠ sid) {q' : QS} (ha : SAt S' pid ts q') : LJ S0 pid sid c0 f k es ts q' S' := by
  obtain ⟨h1, ⟨v, h2, h3⟩, h4⟩ := h
  exact ⟨ha, ⟨v, by rw [hst.2 sid (Ne.symm hps)]; exact h2, h3.step hst hp⟩, h4.trans hst.k2⟩
theorem CJ.lj (h : CJ S1 pid sid c ts q S) (f k : Nat) (hc : c.length = 18) (hf : c.set f .nilS = c) : LJ S pid sid c f k [] ts q S :=
  ⟨h.at_, ⟨.nilS, by rw [hf, hc]; exact h.st, by
    have := (Own.start S).add0 k .nil (.inl rfl)
    exact this⟩, Kst.refl _ _ _⟩
theorem LJ.cj (hc : c0.length = 18) (h1 : Kst pid sid S1 S0) (h : LJ S0 pid sid c0 f k es ts q S) : ∃ v, CJ S1 pid sid (c0.set f v) ts q S ∧ Ap S0.length k S v es := by
  obtain ⟨a, ⟨v, b, o⟩, k⟩ := h
  rw [hc] at b
  exact ⟨v, ⟨a, b, h1.trans k⟩, o.ap 0 _ _ _ rfl⟩
end

theorem LJ.app2 {S0 : Heap} {pid sid : Nat} {c0 : List AVal} {f k bytes : Nat} {es : List (List AVal)} {ts : List Tok} {q : QS} {S : Heap} (hp : pid < S0.length) (hs : sid < S0.length) (hps : pid ≠ sid) (h1 : SAt S pid ts q) {v : AVal} (h2 : S[sid]? = some (.cells c0.length [c0.set f v] (some 1))) (h3 : Own S0.length S S [(v, k, es)]) (h4 : Kst pid sid S0 S)
    {x : List AVal} (hx : x.length = k) (hk : 0 < k) (hb : bytes ≤ 1000) (hes : es.length ≤ 100) {y : AVal} (hy : srcOf S y = some (true, [x])) :
    ∃ S3, appendR k bytes S v y = .ok true (.row S.length 0 (es.length + 1)) S3 ∧ (∀ j, j < S0.length → S3[j]? = S[j]?) ∧ S3[sid]? = some (.cells c0.length [c0.set f v] (some 1)) ∧ S.length < S3.length ∧
      LJ S0 pid sid c0 f k (es ++ [x]) ts q (S3.set sid (.cells c0.length [c0.set f (.row S.length 0 (es.length + 1))] (some 1))) ∧ (∀ j, j < S.length → (∀ o l, v ≠ .row j o l) → S3[j]? = S[j]?) := by
  have hbb : (es.length + 1) * bytes ≤ 101 * 1000 := Nat.mul_le_mul (by omega) hb
  obtain ⟨S3, a1, a2, a3, a4⟩ := h3.app2 0 rfl (y := y) (ys := [x]) (bytes := bytes) hy (by simpa using hx) hk (by simp; omega) (by simp; omega)
  have hlow : ∀ j, j < S0.length → S3[j]? = S[j]? := fun j hj => a4 j (by have := h4.1; omega) fun o l e => by
    subst e
    have := (h3.idlt (i := 0) rfl).1
    omega
  have hsid := (hlow sid hs).trans h2
  have hS3 : S3.length = (S3.set sid (.cells c0.length [c0.set f (.row S.length 0 (es.length + 1))] (some 1))).length := by simp
  refine ⟨S3, by simpa using a1, hlow, hsid, a3, ⟨?_, ⟨.row S.length 0 (es.length + 1), List.getElem?_set_self (lt_of_some hsid), ?_⟩, ?_⟩, a4⟩
  · exact h1.same (by rw [List.getElem?_set_ne (Ne.symm hps), hlow pid hp])
  · have := a2.keep (S' := S3.set sid (.cells c0.length [c0.set f (.row S.length 0 (es.length + 1))] (some 1))) (Nat.le_of_eq hS3) fun j hj _ => List.getElem?_set_ne (by omega)
    simpa using this
  · refine ⟨by have := h4.1; rw [← hS3]; omega, fun j hj j1 j2 => ?_⟩
    rw [List.getElem?_set_ne (Ne.symm j2), hlow j hj, h4.2 j hj j1 j2]

/-- What a reading of a statement answers. -/
def SQ (S : Heap) (pid : Nat) (ts : List Tok) (r : ResS Stm) (e : AEnd) (S' : Heap) : Prop :=
  ∃ (c : List AVal) (st : Stm), e = .ret (.agg c) ∧ Kpt pid S S' ∧ SC S.length S' st c ∧ SAt S' pid ts (stq r) ∧ Gd r st

/-- A list is read: how the loop's head stands. -/
def LoI {α : Type} (S0 : Heap) (pid sid : Nat) (c0 : List AVal) (f k : Nat) (V : α → List (List AVal)) (ts : List Tok) (step : α → Sta → ResS α) (most : Nat) (r : ResS α) (m : Nat) (S' : Heap) : Prop :=
  ∃ (x : α) (q : QS), LJ S0 pid sid c0 f k (V x) ts q S' ∧ ((∃ s, q = .ok s ∧ (V x).length + m = most ∧ 1 ≤ m ∧ r = listF step m x s) ∨ (m = 0 ∧ (∃ c, q = .error c) ∧ q = stq r ∧ Gd r x))
/-- How it ends. -/
def LoQ {α : Type} (S0 : Heap) (pid sid : Nat) (c0 : List AVal) (f k : Nat) (V : α → List (List AVal)) (ts : List Tok) (r : ResS α) (S' : Heap) : Prop :=
  ∃ (x : α), LJ S0 pid sid c0 f k (V x) ts (stq r) S' ∧ Gd r x

/-- Behind an element: the list goes on, or ends. -/
theorem listF_more {α : Type} {step : α → Sta → ResS α} {most n m : Nat} {x x1 : α} {s : Sta} {r : ResS α} (hm : n + m = most + 1) (h1 : 1 ≤ m) (hr : r = listF step m x s) (hg : Gd (step x s) x1) :
    match moreS n most (stq (step x s)) with
    | (true, q) => ∃ s', q = .ok s' ∧ 2 ≤ m ∧ r = listF step (m - 1) x1 s'
    | (false, q) => q = stq r ∧ Gd r x1 := by
  obtain ⟨m, rfl⟩ : ∃ m', m = m' + 1 := ⟨m - 1, by omega⟩
  rw [listF] at hr
  subst hr
  cases hF : step x s with
  | error c => simp [moreS, Gd.er]
  | ok y =>
    obtain ⟨y, s'⟩ := y
    rw [hF] at hg
    have := hg.ok
    subst this
    by_cases hT : isT 5 [44] s'.l = true
    · by_cases hm0 : m = 0
      · have : n = most := by omega
        simp [moreS, hT, this, hm0, Gd.er]
      · have : ¬ n = most := by omega
        simp [moreS, hT, this, hm0]
        omega
    · have hT : isT 5 [44] s'.l = false := by simpa using hT
      simp [moreS, hT, Gd.self]
section
variable {S : Heap} {pid : Nat} {ts : List Tok}
theorem SAt.okE {s : Sta} (h : SAt S pid ts (.ok s)) : ∃ v i m, S[pid]? = some (.cells 5 [[v, .int i, .int 0, .int 0, .int m]] (some 1)) := by
  obtain ⟨m, ⟨fl, i, e, h0, h1, h2, h3⟩, h'⟩ := h
  obtain ⟨rfl, _⟩ := h3
  exact ⟨_, _, _, h1⟩
theorem SAt.erE {c : Int} (h : SAt S pid ts (.error c)) : ∃ v i m, S[pid]? = some (.cells 5 [[v, .int i, .int 0, .int c, .int m]] (some 1)) ∧ (c == 0) = false := by
  obtain ⟨m, ⟨fl, i, e, h0, h1, h2, h3⟩, h'⟩ := h
  obtain ⟨h3, rfl⟩ := h3
  exact ⟨_, _, _, h1, beq_eq_false_iff_ne.2 h3⟩
end

/-- A list's loop: its head. -/
def LoH {α : Type} (S0 : Heap) (pid rid sid : Nat) (c0 : List AVal) (f k : Nat) (V : α → List (List AVal)) (ts : List Tok) (step : α → Sta → ResS α) (most : Nat) (r : ResS α) (m : Nat) (a : Tmps) (S' : Heap) : Prop :=
  get a 0 = .ptr pid 0 0 ∧ get a 2 = .ptr rid 0 0 ∧ get a 3 = .ptr sid 0 0 ∧ LoI S0 pid sid c0 f k V ts step most r m S'
/-- A list's loop: its end. -/
def LoP {α : Type} (S0 : Heap) (pid rid sid : Nat) (c0 : List AVal) (f k : Nat) (V : α → List (List AVal)) (ts : List Tok) (r : ResS α) : AExit → Tmps → Heap → Prop
  | .normal, a, S' => get a 0 = .ptr pid 0 0 ∧ get a 2 = .ptr rid 0 0 ∧ get a 3 = .ptr sid 0 0 ∧ LoQ S0 pid sid c0 f k V ts r S'
  | _, _, _ => False

section
variable {α : Type} {S0 : Heap} {pid sid : Nat} {c0 : List AVal} {f k : Nat} {V : α → List (List AVal)} {ts : List Tok} {step : α → Sta → ResS α} {most : Nat} {r : ResS α}
theorem LoI.start {x : α} {q : QS} (h : LJ S0 pid sid c0 f k (V x) ts q S0) (h0 : V x = []) (hm : 1 ≤ most) : ∃ m, LoI S0 pid sid c0 f k V ts step most (liftS (listF step most x) q) m S0 := by
  cases q with
  | ok s => exact ⟨most, x, .ok s, h, .inl ⟨s, rfl, by simp [h0], hm, rfl⟩⟩
  | error c => exact ⟨0, x, .error c, h, .inr ⟨rfl, ⟨c, rfl⟩, rfl, Gd.er⟩⟩
theorem LoI.dead {m : Nat} {S' : Heap} {x : α} {c : Int} (h : LJ S0 pid sid c0 f k (V x) ts (.error c) S') (hq : (.error c : QS) = stq r) (hg : Gd r x) : LoQ S0 pid sid c0 f k V ts r S' :=
  ⟨x, by rw [← hq]; exact h, hg⟩
/-- Behind an element. -/
theorem LoI.next {m n : Nat} {x x1 : α} {s : Sta} {H S' : Heap} (hp : pid < S0.length) (hps : pid ≠ sid) (h : LJ S0 pid sid c0 f k (V x1) ts (stq (step x s)) H) (hm : (V x).length + m = most) (h1 : 1 ≤ m) (hr : r = listF step m x s) (hg : Gd (step x s) x1) (hV : (V x1).length = (V x).length + 1)
    (hst : Step pid H S') (hn : n = (V x).length + 1) (ha : SAt S' pid ts (moreS n most (stq (step x s))).2) :
    ((moreS n most (stq (step x s))).1 = true → ∃ m', m' < m ∧ LoI S0 pid sid c0 f k V ts step most r m' S') ∧ ((moreS n most (stq (step x s))).1 = false → LoQ S0 pid sid c0 f k V ts r S') := by
  have key := listF_more (most := most) (n := n) (m := m) (x := x) (x1 := x1) (s := s) (r := r) (by omega) h1 hr hg
  have h2 := h.step hst hp hps ha
  constructor
  · intro hb
    generalize hM : moreS n most (stq (step x s)) = M at key hb h2
    obtain ⟨b, q⟩ := M
    simp only at hb
    subst hb
    obtain ⟨s', rfl, hm2, hr2⟩ := key
    exact ⟨m - 1, by omega, x1, .ok s', h2, .inl ⟨s', rfl, by omega, by omega, hr2⟩⟩
  · intro hb
    generalize hM : moreS n most (stq (step x s)) = M at key hb h2
    obtain ⟨b, q⟩ := M
    simp only at hb
    subst hb
    obtain ⟨hq, hg2⟩ := key
    exact ⟨x1, by rw [← hq]; exact h2, hg2⟩
end
end Go.Abs
set_option linter.unusedSimpArgs false
set_option linter.unusedVariables false
namespace Go.Abs
open Go Go.RowKit Go.Proofs Go.Lx Go.Pz
variable {w0 : World}

section
variable {S0 : Heap} {pid rid sid : Nat} {c0 : List AVal} (hc0 : c0.length = 18) {ts : List Tok} (hts : ts.length ≤ 4000) (hp : pid < S0.length) (hs : sid < S0.length) (hps : pid ≠ sid)
include hc0 hts hp hs hps
def stepN (ns : List Bs) (s : Sta) : ResS (List Bs) := bindS (nameS resv s) fun c s => .ok (ns ++ [c], s)
set_option maxHeartbeats 2000000 in
/-- An index's columns. -/
theorem q49n {G : Nat → AVal} {m : Nat} {a : Tmps} {S' : Heap} {r : ResS (List Bs)} (h : LoH S0 pid rid sid c0 4 1 namesC ts stepN 4 r m a S') :
    mwp (ACalls Tryz.prog (B0 w0)) (.block 4 (.loop (f49b2 G))) (LoP S0 pid rid sid c0 4 1 namesC ts r) a S' := by
  simp only [mwp_block]
  refine mwp_loop (I := LoH S0 pid rid sid c0 4 1 namesC ts stepN 4 r) h ?_
  clear h
  rintro m a S' ⟨b0, b2, b3, x, q, hlj, hx⟩
  rcases hx with ⟨s, rfl, hm, hm1, hr⟩ | ⟨hm0, ⟨c, rfl⟩, hq, hg⟩
  rotate_left 1
  · obtain ⟨v, i, mm, h1, hb⟩ := hlj.at_.erE
    simp [f49b2, b0, b2, b3, h1, hb]
    exact ⟨by simp [b0], by simp [b2], by simp [b3], LoI.dead (m := m) hlj hq hg⟩
  have hxl : x.length + m = 4 := by simpa using hm
  obtain ⟨v, i, mm, h1⟩ := hlj.at_.okE
  obtain ⟨ha, ⟨u, h2, h3⟩, h4⟩ := hlj
  rw [hc0] at h2
  simp [-appendR, f49b2, b0, b2, b3, h1, h2, hc0]
  refine (q50 hts ha).use ?_
  rintro e S1 ⟨hst, n, rfl, h5, h6⟩
  have h7 := (hst.2 sid (Ne.symm hps)).trans h2
  obtain ⟨S3, a1, a2, a3, a4, a5, _⟩ := LJ.app2 (bytes := 16) hp hs hps h5 (by rw [hc0]; exact h7) (h3.step hst hp) (h4.trans hst.k2) (x := [.str n]) rfl (by decide) (by decide) (by simp; omega) (y := .list .full [[.str n]]) rfl
  rw [hc0] at a3 a5
  rw [namesC_len] at a1 a5
  rw [← namesC_snoc] at a5
  have g3 := a5.st
  have hq : stq (liftS (nameS resv) (.ok s)) = stq (stepN x s) := by
    rw [liftS_ok, stepN]
    cases nameS resv s with
    | error c => rfl
    | ok y => rfl
  rw [hq] at a5
  have hgd : Gd (stepN x s) (x ++ [n]) := by
    rw [liftS_ok] at h6
    rw [stepN]
    cases hN : nameS resv s with
    | error c => exact Gd.er
    | ok y =>
      obtain ⟨y, s'⟩ := y
      rw [hN] at h6
      have := h6.ok
      subst this
      exact Gd.self
  have hl3 := lt_of_some a3
  generalize hH : S3.set sid (.cells 18 [c0.set 4 (.row S1.length 0 (x.length + 1))] (some 1)) = H at *
  have g4 : H[sid]? = some (.cells 18 [c0.set 4 (.row S1.length 0 (x.length + 1))] (some 1)) := by rw [← hH, List.getElem?_set_self hl3]
  simp [-appendR, b0, b2, b3, h7, hc0, a1, a3, hH, g4]
  refine (q55 hts a5.at_ (x.length + 1) 4).use ?_
  rintro e S5 ⟨hst5, rfl, h8⟩
  obtain ⟨nx1, nx2⟩ := LoI.next (r := r) hp hps a5 hm hm1 hr hgd (by simp) hst5 (n := x.length + 1) (by simp) h8
  generalize moreS (x.length + 1) 4 (stq (stepN x s)) = M at *
  obtain ⟨b, q'⟩ := M
  cases b with
  | true =>
    obtain ⟨m', hm', nx⟩ := nx1 rfl
    simp [b0, b2, b3]
    exact ⟨m', hm', by simp [b0], by simp [b2], by simp [b3], nx⟩
  | false =>
    have nx := nx2 rfl
    simp [b0, b2, b3]
    exact ⟨by simp [b0], by simp [b2], by simp [b3], nx⟩
end
end Go.Abs
set_option linter.unusedSimpArgs false
set_option linter.unusedVariables false
namespace Go.Abs
open Go Go.RowKit Go.Proofs Go.Lx Go.Pz
variable {w0 : World}

abbrev ty5 : List AVal := [.str [], .str [98, 111, 111, 108], .str [105, 110, 116], .str [114, 101, 97, 108], .str [116, 101, 120, 116]]
def TW (j : Nat) : Bs := [[], [98, 111, 111, 108], [105, 110, 116], [114, 101, 97, 108], [116, 101, 120, 116]].getD j []
/-- The type that stands there; 0: none. -/
def typQ : QS → Int × QS
  | .ok s => match typeS s with
    | .ok (t, s') => (t, .ok s')
    | .error _ => (0, .ok s)
  | .error c => (0, .error c)
theorem isT_other {k : Int} {w w' : Bs} {l : List Tok} (h : isT k w l = true) (hw : w ≠ w') : isT k w' l = false := by
  cases l with
  | nil => cases h
  | cons t r =>
    rw [isT_cons] at h ⊢
    simp at h ⊢
    intro _
    rw [h.2]; exact hw
theorem typ_no {q : QS} (h : ∀ j, 1 ≤ j → j < 5 → isS 1 (TW j) q = false) : typQ q = (0, q) := by
  cases q with
  | error c => rfl
  | ok s =>
    have h1 := h 1 (by omega) (by omega)
    have h2 := h 2 (by omega) (by omega)
    have h3 := h 3 (by omega) (by omega)
    have h4 := h 4 (by omega) (by omega)
    simp [TW] at h1 h2 h3 h4
    simp [typQ, typeS, h1, h2, h3, h4]
theorem typ_yes {q : QS} {i : Nat} (hi : 1 ≤ i) (hi5 : i < 5) (h : isS 1 (TW i) q = true) : typQ q = ((i : Int), gotS 1 (TW i) q) := by
  cases q with
  | error c => cases h
  | ok s =>
    rw [isS_ok] at h
    rw [gotS_ok, if_pos h]
    have hc : i = 1 ∨ i = 2 ∨ i = 3 ∨ i = 4 := by omega
    rcases hc with rfl | rfl | rfl | rfl
    · have h2 := isT_other h (w' := TW 2) (by decide)
      have h3 := isT_other h (w' := TW 3) (by decide)
      simp [TW] at h h2 h3
      simp [typQ, typeS, h, h2, h3]
    · simp [TW] at h
      simp [typQ, typeS, h]
    · have h2 := isT_other h (w' := TW 2) (by decide)
      simp [TW] at h h2
      simp [typQ, typeS, h, h2]
    · have h1 := isT_other h (w' := TW 1) (by decide)
      have h2 := isT_other h (w' := TW 2) (by decide)
      have h3 := isT_other h (w' := TW 3) (by decide)
      simp [TW] at h h1 h2 h3
      simp [typQ, typeS, h, h1, h2, h3]
theorem gotS_false {k : Int} {w : Bs} {q : QS} (h : isS k w q = false) : gotS k w q = q := by
  cases q with
  | error d => rfl
  | ok s => rw [isS_ok] at h; simp [h]

def TpI (T0 : Heap) (pid rid sid : Nat) (n : Bs) (q1 : QS) (ts : List Tok) (k : Nat) (a : Tmps) (S' : Heap) : Prop :=
  ∃ (i : Nat) (T : Heap) (t : Int) (q : QS), k = 5 - i ∧ 1 ≤ i ∧ i ≤ 5 ∧ Step pid T0 T ∧ S' = T ++ [.cells 3 [[.str n, .int t, .bool false]] (some 1), .cells 5 [ty5] (some 1)] ∧
    get a 0 = .ptr pid 0 0 ∧ get a 2 = .ptr rid 0 0 ∧ get a 3 = .ptr sid 0 0 ∧ get a 4 = .ptr T.length 0 0 ∧ get a 5 = .ptr (T.length + 1) 0 0 ∧ get a 6 = .int i ∧ SAt T pid ts q ∧
    ((t = 0 ∧ q = q1 ∧ ∀ j, 1 ≤ j → j < i → isS 1 (TW j) q1 = false) ∨ (t ≠ 0 ∧ (t, q) = typQ q1))
def TpP (T0 : Heap) (pid rid sid : Nat) (n : Bs) (q1 : QS) (ts : List Tok) : AExit → Tmps → Heap → Prop
  | .normal, a, S' => ∃ (T : Heap), Step pid T0 T ∧ S' = T ++ [.cells 3 [[.str n, .int (typQ q1).1, .bool false]] (some 1), .cells 5 [ty5] (some 1)] ∧
    get a 0 = .ptr pid 0 0 ∧ get a 2 = .ptr rid 0 0 ∧ get a 3 = .ptr sid 0 0 ∧ get a 4 = .ptr T.length 0 0 ∧ SAt T pid ts (typQ q1).2
  | _, _, _ => False
section
variable {pid rid sid : Nat} {ts : List Tok} (hts : ts.length ≤ 4000)
include hts
set_option maxHeartbeats 4000000 in
theorem q49ty {T0 : Heap} {n : Bs} {q1 : QS} {G : Nat → AVal} {a : Tmps} {S' : Heap} {k : Nat} (h : TpI T0 pid rid sid n q1 ts k a S') :
    mwp (ACalls Tryz.prog (B0 w0)) (.block 2 (.loop (f49b0 G))) (TpP T0 pid rid sid n q1 ts) a S' := by
  simp only [mwp_block]
  refine mwp_loop (I := TpI T0 pid rid sid n q1 ts) h ?_
  clear h
  rintro k a S' ⟨i, T, t, q, rfl, hi1, hi5, hst, rfl, b0, b2, b3, b4, b5, b6, ha, hty⟩
  have hTl := ha.lt
  by_cases hie : i = 5
  · subst hie
    have : (t, q) = typQ q1 := by
      rcases hty with ⟨rfl, rfl, hno⟩ | ⟨_, h⟩
      · exact (typ_no hno).symm
      · exact h
    simp [f49b0, b0, b2, b3, b4, b5, b6]
    refine ⟨T, hst, ?_, by simp [b0], by simp [b2], by simp [b3], by simp [b4], ?_⟩
    · rw [← this]
    · rw [← this]; exact ha
  rcases hty with ⟨rfl, rfl, hno⟩ | ⟨ht, htq⟩
  · have hgo : ∀ w, ty5[i]? = some (.str w) → w = TW i → ∀ (e : AEnd) (S2 : Heap), (Step pid (T ++ [AObj.cells 3 [[.str n, .int 0, .bool false]] (some 1), .cells 5 [ty5] (some 1)]) S2 ∧ e = .ret (.bool (isS 1 w q)) ∧ SAt S2 pid ts (gotS 1 w q)) →
        ∃ T2, S2 = T2 ++ [AObj.cells 3 [[.str n, .int 0, .bool false]] (some 1), .cells 5 [ty5] (some 1)] ∧ T2.length = T.length ∧ Step pid T0 T2 ∧ SAt T2 pid ts (gotS 1 w q) := by
      rintro w _ _ e S2 ⟨hsq, _, h2⟩
      obtain ⟨T2, rfl, hst2⟩ := hsq.split hTl
      exact ⟨T2, rfl, hst2.1.symm, hst.trans hst2, h2.less (hst2.1 ▸ hTl)⟩
    have hc : i = 1 ∨ i = 2 ∨ i = 3 ∨ i = 4 := by omega
    have hyes : ∀ (w : Bs), w = TW i → isS 1 w q = true → typQ q = ((i : Int), gotS 1 w q) := fun w hw h => by subst hw; exact typ_yes hi1 (by omega) h
    have hadv : ∀ (w : Bs), w = TW i → isS 1 w q = false → ∀ j, 1 ≤ j → j < i + 1 → isS 1 (TW j) q = false := fun w hw hb j h1 h2 => by
      by_cases hj : j = i
      · subst hj; rw [← hw]; exact hb
      · exact hno j h1 (by omega)
    rcases hc with rfl | rfl | rfl | rfl
    all_goals
      simp [f49b0, b0, b2, b3, b4, b5, b6, wr0, wr1, wr2, wr3, wr4, wr5, wr6]
      refine (q48 hts (ha.more _) 1 _).use ?_
      rintro e S2 hh
      obtain ⟨T2, rfl, e2, hst2, h2⟩ := hgo _ rfl rfl _ _ hh
      obtain ⟨_, rfl, _⟩ := hh
      generalize hb : isS 1 _ q = b
      cases b with
      | true =>
        have hy := hyes _ rfl hb
        simp [b0, b2, b3, b4, b5, b6, e2, wr0, wr1, wr2, wr3, wr4, wr5, wr6]
        first
          | exact ⟨3, by omega, 2, T2, _, _, by omega, by omega, by omega, hst2, rfl, by simp [b0], by simp [b2], by simp [b3], by simp [b4, e2], by simp [b5, e2], by simp, h2, .inr ⟨by decide, hy.symm⟩⟩
          | exact ⟨2, by omega, 3, T2, _, _, by omega, by omega, by omega, hst2, rfl, by simp [b0], by simp [b2], by simp [b3], by simp [b4, e2], by simp [b5, e2], by simp, h2, .inr ⟨by decide, hy.symm⟩⟩
          | exact ⟨1, by omega, 4, T2, _, _, by omega, by omega, by omega, hst2, rfl, by simp [b0], by simp [b2], by simp [b3], by simp [b4, e2], by simp [b5, e2], by simp, h2, .inr ⟨by decide, hy.symm⟩⟩
          | exact ⟨5, T2, _, _, by omega, by omega, by omega, hst2, rfl, by simp [b0], by simp [b2], by simp [b3], by simp [b4, e2], by simp [b5, e2], by simp, h2, .inr ⟨by decide, hy.symm⟩⟩
      | false =>
        have hn2 := hadv _ rfl hb
        rw [gotS_false hb] at h2
        simp [b0, b2, b3, b4, b5, b6, e2, wr0, wr1, wr2, wr3, wr4, wr5, wr6]
        first
          | exact ⟨3, by omega, 2, T2, 0, _, by omega, by omega, by omega, hst2, rfl, by simp [b0], by simp [b2], by simp [b3], by simp [b4, e2], by simp [b5, e2], by simp, h2, .inl ⟨rfl, rfl, hn2⟩⟩
          | exact ⟨2, by omega, 3, T2, 0, _, by omega, by omega, by omega, hst2, rfl, by simp [b0], by simp [b2], by simp [b3], by simp [b4, e2], by simp [b5, e2], by simp, h2, .inl ⟨rfl, rfl, hn2⟩⟩
          | exact ⟨1, by omega, 4, T2, 0, _, by omega, by omega, by omega, hst2, rfl, by simp [b0], by simp [b2], by simp [b3], by simp [b4, e2], by simp [b5, e2], by simp, h2, .inl ⟨rfl, rfl, hn2⟩⟩
          | exact ⟨5, T2, 0, _, by omega, by omega, by omega, hst2, rfl, by simp [b0], by simp [b2], by simp [b3], by simp [b4, e2], by simp [b5, e2], by simp, h2, .inl ⟨rfl, rfl, hn2⟩⟩
  · have hb : (t == 0) = false := beq_eq_false_iff_ne.2 ht
    have hc : i = 1 ∨ i = 2 ∨ i = 3 ∨ i = 4 := by omega
    rcases hc with rfl | rfl | rfl | rfl
    all_goals
      simp [f49b0, b0, b2, b3, b4, b5, b6, hb, wr0, wr1, wr2, wr3, wr4, wr5, wr6]
      first
        | exact ⟨3, by omega, 2, T, t, q, by omega, by omega, by omega, hst, rfl, by simp [b0], by simp [b2], by simp [b3], by simp [b4], by simp [b5], by simp, ha, .inr ⟨ht, htq⟩⟩
        | exact ⟨2, by omega, 3, T, t, q, by omega, by omega, by omega, hst, rfl, by simp [b0], by simp [b2], by simp [b3], by simp [b4], by simp [b5], by simp, ha, .inr ⟨ht, htq⟩⟩
        | exact ⟨1, by omega, 4, T, t, q, by omega, by omega, by omega, hst, rfl, by simp [b0], by simp [b2], by simp [b3], by simp [b4], by simp [b5], by simp, ha, .inr ⟨ht, htq⟩⟩
        | exact ⟨5, T, t, q, by omega, by omega, by omega, hst, rfl, by simp [b0], by simp [b2], by simp [b3], by simp [b4], by simp [b5], by simp, ha, .inr ⟨ht, htq⟩⟩
end
end Go.Abs
set_option linter.unusedSimpArgs false
set_option linter.unusedVariables false
namespace Go.Abs
open Go Go.RowKit Go.Proofs Go.Lx Go.Pz
variable {w0 : World}

def stepC (cs : List Pz.Col) (s : Sta) : ResS (List Pz.Col) := bindS (columnS resv s) fun c s => .ok (cs ++ [c], s)
/-- Where the document's parser stands behind a column's name, type, and NOT NULL. -/
def colQ1 (q1 : QS) : QS := if (typQ q1).1 = 0 then failS 130 (typQ q1).2 else (typQ q1).2
def colQ2 (q : QS) : QS := if isS 1 [110, 111, 116] q = true then mustS 1 [110, 117, 108, 108] (gotS 1 [110, 111, 116] q) else q
theorem typeS_ne {s s' : Sta} {t : Int} (h : typeS s = .ok (t, s')) : t ≠ 0 := by
  rw [typeS] at h
  repeat' split at h
  all_goals first | (simp only [Except.ok.injEq, Prod.mk.injEq] at h; obtain ⟨rfl, _⟩ := h; decide) | cases h
theorem typeS_er {s : Sta} {c : Int} (h : typeS s = .error c) : c = 130 := by
  rw [typeS] at h
  repeat' split at h
  all_goals first | (cases h; rfl) | cases h
theorem col_law (s : Sta) (x : List Pz.Col) (n : Bs) (hn : Gd (nameS resv s) n) :
    let q1 := stq (nameS resv s)
    stq (stepC x s) = colQ2 (colQ1 q1) ∧ Gd (stepC x s) (x ++ [⟨n, (typQ q1).1, isS 1 [110, 111, 116] (colQ1 q1)⟩]) := by
  intro q1
  have key : stq (columnS resv s) = colQ2 (colQ1 q1) ∧ Gd (columnS resv s) ⟨n, (typQ q1).1, isS 1 [110, 111, 116] (colQ1 q1)⟩ := by
    rw [columnS]
    cases hN : nameS resv s with
    | error c => simp [q1, hN, colQ1, colQ2, typQ, Gd.er]
    | ok y =>
      obtain ⟨y, s1⟩ := y
      rw [hN] at hn
      have := hn.ok
      subst this
      have hq1 : q1 = .ok s1 := by simp [q1, hN]
      rw [hq1, bindS_ok]
      cases hT : typeS s1 with
      | error c =>
        have := typeS_er hT
        subst this
        simp [colQ1, colQ2, typQ, hT, Gd.er]
      | ok z =>
        obtain ⟨t, s2⟩ := z
        have ht := typeS_ne hT
        have hc1 : colQ1 (.ok s1) = .ok s2 := by simp [colQ1, typQ, hT, ht]
        have ht1 : (typQ (.ok s1)).1 = t := by simp [typQ, hT]
        rw [hc1, ht1, bindS_ok, colQ2, isS_ok]
        by_cases hO : isT 1 [110, 111, 116] s2.l = true
        · rw [if_pos hO, if_pos hO, gotS_ok, if_pos hO, mustS_ok]
          cases hM : needS 1 [110, 117, 108, 108] ⟨s2.l.tail, s2.d⟩ with
          | error c => simp [Gd.er]
          | ok s3 => simp [hO, Gd.self]
        · rw [if_neg hO, if_neg hO]
          simp [Gd.self, hO]
  obtain ⟨k1, k2⟩ := key
  rw [← k1, stepC]
  cases hC : columnS resv s with
  | error c => exact ⟨rfl, Gd.er⟩
  | ok y =>
    obtain ⟨y, s'⟩ := y
    rw [hC] at k2
    have := k2.ok
    exact ⟨rfl, by rw [this]; exact Gd.self⟩

/-- Behind a round: the loop's head again, or its end. -/
def NxP (i : Nat) (H : Nat → Tmps → Heap → Prop) (m : Nat) (P : AExit → Tmps → Heap → Prop) : AExit → Tmps → Heap → Prop
  | .normal, a, S' => ∃ m', m' < m ∧ H m' a S'
  | .exit j, a, S' => j = i ∧ P .normal a S'
  | _, _, _ => False
def f49b1t (G : Nat → AVal) : MC := match f49b1 G with
  | .seq _ (.block _ (.seq _ (.seq _ (.seq _ (.seq _ y))))) => y
  | x => x
section
variable {S0 : Heap} {pid rid sid : Nat} {c0 : List AVal} (hc0 : c0.length = 18) {ts : List Tok} (hts : ts.length ≤ 4000) (hp : pid < S0.length) (hs : sid < S0.length) (hps : pid ≠ sid)
include hc0 hts hp hs hps
set_option maxHeartbeats 4000000 in
/-- Behind a column's type. -/
theorem q49tt {G : Nat → AVal} {m : Nat} {a : Tmps} {T : Heap} {n : Bs} {t : Int} {q3 : QS} {x : List Pz.Col} {s : Sta} {r : ResS (List Pz.Col)} (b0 : get a 0 = .ptr pid 0 0) (b2 : get a 2 = .ptr rid 0 0) (b3 : get a 3 = .ptr sid 0 0) (b4 : get a 4 = .ptr T.length 0 0)
    (hlj : LJ S0 pid sid c0 3 3 (pcolsC x) ts q3 T) (hm : x.length + m = 16) (hm1 : 1 ≤ m) (hr : r = listF stepC m x s) (hq : stq (stepC x s) = colQ2 q3) (hg : Gd (stepC x s) (x ++ [⟨n, t, isS 1 [110, 111, 116] q3⟩])) :
    mwp (ACalls Tryz.prog (B0 w0)) (f49b1t G) (NxP 0 (LoH S0 pid rid sid c0 3 3 pcolsC ts stepC 16 r) m (LoP S0 pid rid sid c0 3 3 pcolsC ts r)) a (T ++ [.cells 3 [[.str n, .int t, .bool false]] (some 1), .cells 5 [ty5] (some 1)]) := by
  have hTl := hlj.at_.lt
  -- the append, and whether the list goes on
  have fin : ∀ (T2 : Heap) (a : Tmps) (bq : Bool) (q4 : QS), get a 0 = .ptr pid 0 0 → get a 2 = .ptr rid 0 0 → get a 3 = .ptr sid 0 0 → get a 4 = .ptr T2.length 0 0 → LJ S0 pid sid c0 3 3 (pcolsC x) ts q4 T2 → q4 = stq (stepC x s) → Gd (stepC x s) (x ++ [⟨n, t, bq⟩]) →
      mwp (ACalls Tryz.prog (B0 w0)) (match f49b1t G with | .seq _ y => y | y => y) (NxP 0 (LoH S0 pid rid sid c0 3 3 pcolsC ts stepC 16 r) m (LoP S0 pid rid sid c0 3 3 pcolsC ts r)) a (T2 ++ [.cells 3 [[.str n, .int t, .bool bq]] (some 1), .cells 5 [ty5] (some 1)]) := fun T2 a bq q4 b0 b2 b3 b4 hlj2 hq4 hg2 => by
    obtain ⟨g, hgd⟩ : ∃ g, g = [AObj.cells 3 [[AVal.str n, .int t, .bool bq]] (some 1), .cells 5 [ty5] (some 1)] := ⟨_, rfl⟩
    have hlj3 := hlj2.more g
    obtain ⟨ha, ⟨u, h2, h3⟩, h4⟩ := hlj3
    rw [hc0] at h2
    obtain ⟨S3, a1, a2, a3, a4, a5, _⟩ := LJ.app2 (bytes := 32) hp hs hps ha (by rw [hc0]; exact h2) h3 h4 (x := pcolC ⟨n, t, bq⟩) rfl (by decide) (by decide) (by simp; omega) (y := .list .full [pcolC ⟨n, t, bq⟩]) rfl
    rw [hc0] at a3 a5
    rw [pcolsC_len] at a1 a5
    rw [← pcolsC_snoc, hq4] at a5
    simp only [pcolC] at a1
    have hl3 := lt_of_some a3
    generalize hR : (T2 ++ g).length = R at *
    generalize hH : S3.set sid (.cells 18 [c0.set 3 (.row R 0 (x.length + 1))] (some 1)) = H at *
    have g4 : H[sid]? = some (.cells 18 [c0.set 3 (.row R 0 (x.length + 1))] (some 1)) := by rw [← hH, List.getElem?_set_self hl3]
    subst hgd
    simp only [f49b1t, f49b1]
    simp [-appendR, b0, b2, b3, b4, h2, hc0, a1, a3, hH, g4]
    refine (q55 hts a5.at_ (x.length + 1) 16).use ?_
    rintro e S5 ⟨hst5, rfl, h8⟩
    obtain ⟨nx1, nx2⟩ := LoI.next (r := r) hp hps a5 (by simpa using hm) hm1 hr hg2 (by simp) hst5 (n := x.length + 1) (by simp) h8
    generalize moreS (x.length + 1) 16 (stq (stepC x s)) = M at *
    obtain ⟨b, q'⟩ := M
    cases b with
    | true =>
      obtain ⟨m', hm', nx⟩ := nx1 rfl
      simp [b0, b2, b3]
      exact ⟨m', hm', by simp [b0], by simp [b2], by simp [b3], nx⟩
    | false =>
      have nx := nx2 rfl
      simp [b0, b2, b3]
      exact ⟨rfl, by simp [b0], by simp [b2], by simp [b3], nx⟩
  unfold f49b1t f49b1
  rw [mwp_seq, mwp_seq]
  simp [-mwp_block, -mwp_seq, -appendR, b0, b2, b3, b4]
  refine (q48 hts (hlj.at_.more _) 1 _).use ?_
  rintro e S2 ⟨hsq, rfl, h2⟩
  obtain ⟨T2, rfl, hst2⟩ := hsq.split hTl
  have e2 := hst2.1
  have h2 := h2.less (hst2.1 ▸ hTl)
  have hlj2 := hlj.step hst2 hp hps h2
  rw [colQ2] at hq
  generalize hb : isS 1 [110, 111, 116] q3 = b at *
  cases b with
  | false =>
    rw [gotS_false hb] at hlj2
    simp only [Bool.false_eq_true, if_false] at hq
    simp [-mwp_block, -mwp_seq, -appendR, b0, b2, b3, b4, e2]
    exact fin T2 _ false q3 (by simp [b0]) (by simp [b2]) (by simp [b3]) (by simp [b4, e2]) hlj2 hq.symm hg
  | true =>
    simp only [if_true] at hq
    simp [-mwp_block, -mwp_seq, -appendR, b0, b2, b3, b4, e2]
    rw [mwp_seq]
    simp [-mwp_block, -mwp_seq, -appendR, b0, b2, b3, b4, e2]
    refine (q51 hts (h2.more _) 1 _).use ?_
    rintro e S3 ⟨hsq3, rfl, h3⟩
    obtain ⟨T3, rfl, hst3⟩ := hsq3.split h2.lt
    have e3 := hst3.1
    have h3 := h3.less (hst3.1 ▸ h2.lt)
    have hlj3 := hlj2.step hst3 hp hps h3
    simp [-mwp_block, -mwp_seq, -appendR, b0, b2, b3, b4, e2, e3]
    exact fin T3 _ true _ (by simp [b0]) (by simp [b2]) (by simp [b3]) (by simp [b4, e2, e3]) hlj3 hq.symm hg
set_option maxHeartbeats 4000000 in
/-- A table's columns. -/
theorem q49t {G : Nat → AVal} {m : Nat} {a : Tmps} {S' : Heap} {r : ResS (List Pz.Col)} (h : LoH S0 pid rid sid c0 3 3 pcolsC ts stepC 16 r m a S') :
    mwp (ACalls Tryz.prog (B0 w0)) (.block 0 (.loop (f49b1 G))) (LoP S0 pid rid sid c0 3 3 pcolsC ts r) a S' := by
  rw [mwp_block]
  refine mwp_loop (I := LoH S0 pid rid sid c0 3 3 pcolsC ts stepC 16 r) h ?_
  clear h
  rintro m a S' ⟨b0, b2, b3, x, q, hlj, hx⟩
  rcases hx with ⟨s, rfl, hm, hm1, hr⟩ | ⟨hm0, ⟨c, rfl⟩, hq, hg⟩
  rotate_left 1
  · obtain ⟨v, i, mm, h1, hb⟩ := hlj.at_.erE
    rw [f49b1, mwp_seq]
    simp [-mwp_block, -appendR, b0, b2, b3, h1, hb]
    exact ⟨by simp [b0], by simp [b2], by simp [b3], LoI.dead (m := m) hlj hq hg⟩
  have hxl : x.length + m = 16 := by simpa using hm
  obtain ⟨v, i, mm, h1⟩ := hlj.at_.okE
  have hps' := hps
  rw [f49b1, mwp_seq]
  simp [-mwp_block, -appendR, b0, b2, b3, h1]
  rw [mwp_block, mwp_seq]
  simp [-mwp_block, -mwp_seq, -appendR, b0, b2, b3]
  refine (q50 hts hlj.at_).use ?_
  rintro e S1 ⟨hst, n, rfl, h5, h6⟩
  have hlj1 := hlj.step hst hp hps h5
  rw [liftS_ok] at h5 h6 hlj1
  simp [-mwp_block, -mwp_seq, -appendR, b0, b2, b3]
  rw [mwp_seq]
  simp [-mwp_block, -mwp_seq, -appendR, b0, b2, b3]
  rw [mwp_seq, mwp_seq]
  simp [-mwp_block, -mwp_seq, -appendR, b0, b2, b3]
  refine mwp_mono _ _ (fun _ _ _ _ _ hr h => h.mono hr) ?_ (q49ty (w0 := w0) (T0 := S1) (rid := rid) (sid := sid) (n := n) (q1 := stq (nameS resv s)) hts (k := 4) ⟨1, S1, 0, _, rfl, by omega, by omega, Step.refl _ _, rfl, by simp [b0], by simp [b2], by simp [b3], by simp, by simp, by simp, h5, .inl ⟨rfl, rfl, fun j h1 h2 => by omega⟩⟩)
  intro e a2 S2 hJ
  cases e <;> first | exact hJ.elim | skip
  obtain ⟨T, hstT, rfl, c0', c2, c3, c4, hT⟩ := hJ
  have hljT := hlj1.step hstT hp hps hT
  obtain ⟨lw1, lw2⟩ := col_law s x n h6
  generalize stq (nameS resv s) = q1 at *
  have hc1 : colQ1 q1 = if (typQ q1).1 = 0 then failS 130 (typQ q1).2 else (typQ q1).2 := rfl
  generalize hTQ : typQ q1 = tq at *
  obtain ⟨t, q2⟩ := tq
  simp only at hc1 hT hljT lw2 ⊢
  have hTl := hT.lt
  simp [-mwp_block, -mwp_seq, -appendR, c0', c2, c3, c4]
  rw [mwp_seq, mwp_seq]
  have hnx : ∀ (e : AExit) (a3 : Tmps) (S3 : Heap), NxP 0 (LoH S0 pid rid sid c0 3 3 pcolsC ts stepC 16 r) m (LoP S0 pid rid sid c0 3 3 pcolsC ts r) e a3 S3 → afterK 1 e a3 S3 (q := ⟨fun e a' S' => match e with | .normal => ∃ n', n' < m ∧ LoH S0 pid rid sid c0 3 3 pcolsC ts stepC 16 r n' a' S' | e => afterK 0 e a' S' (q := ⟨LoP S0 pid rid sid c0 3 3 pcolsC ts r⟩)⟩) := fun e a3 S3 h => by
    cases e <;> first | exact h.elim | skip
    · exact h
    · obtain ⟨rfl, h⟩ := h
      exact h
  by_cases ht : t = 0
  · subst ht
    rw [if_pos rfl] at hc1
    rw [hc1] at lw1 lw2
    simp [-mwp_block, -mwp_seq, -appendR, c0', c2, c3, c4]
    refine (q24 (hT.more _) (c := 130) (by decide)).use ?_
    rintro e S3 ⟨hsq3, rfl, h3⟩
    obtain ⟨T3, rfl, hst3⟩ := hsq3.split hTl
    have e3 := hst3.1
    have h3 := h3.less (hst3.1 ▸ hTl)
    simp [-mwp_block, -mwp_seq, -appendR, c0', c2, c3, c4, e3]
    exact mwp_mono _ _ (fun _ _ _ _ _ hr h => h.mono hr) (fun e a3 S3 h => hnx e a3 S3 h) (q49tt hc0 hts hp hs hps (G := G) (by simp [c0']) (by simp [c2]) (by simp [c3]) (by simp [c4, e3]) (hljT.step hst3 hp hps h3) hxl hm1 hr lw1 lw2)
  · rw [if_neg ht] at hc1
    rw [hc1] at lw1 lw2
    have hb : (t == 0) = false := beq_eq_false_iff_ne.2 ht
    simp [-mwp_block, -mwp_seq, -appendR, c0', c2, c3, c4, hb]
    exact mwp_mono _ _ (fun _ _ _ _ _ hr h => h.mono hr) (fun e a3 S3 h => hnx e a3 S3 h) (q49tt hc0 hts hp hs hps (G := G) (by simp [c0']) (by simp [c2]) (by simp [c3]) (by simp [c4]) hljT hxl hm1 hr lw1 lw2)
end
end Go.Abs
set_option linter.unusedSimpArgs false
set_option linter.unusedVariables false
namespace Go.Abs
open Go Go.RowKit Go.Proofs Go.Lx Go.Pz
variable {w0 : World}

theorem SC.shape {N : Nat} {S : Heap} {st : Stm} {c : List AVal} (h : SC N S st c) : c.length = 18 ∧ c.all AVal.one = true := by
  obtain ⟨vC, vN, vR, vI, vF, vO, vS, rfl, g1, g2, g3, g4, g5, g6, g7⟩ := h
  obtain ⟨op, vv, kind, num, scale, text, qual, hx, o1, o2⟩ := exC_shape st.wher
  rw [hx]
  exact ⟨rfl, by simp [g1.one.1, g2.one.1, g3.one.1, g4.one.1, g5.one.1, g6.one.1, g7.one.1, o1]⟩
def RtP (R : AEnd → Heap → Prop) : AExit → Tmps → Heap → Prop
  | .ret, a, S' => resPost [.cell 2 true 18] R .ret a S'
  | _, _, _ => False
theorem q_kpt {S T H : Heap} {pid : Nat} {o1 o2 : AObj} (hst : Step pid S T) (hk : Kst pid (T.length + 1) (T ++ [o1, o2]) H) : Kpt pid S H := by
  have e := hst.1
  have hl := hk.1
  simp at hl
  refine ⟨by omega, fun j hj h1 => ?_⟩
  rw [hk.2 j (by simp; omega) h1 (by omega), List.getElem?_append_left (by omega)]
  exact hst.2 j h1
set_option maxHeartbeats 1000000 in
/-- A statement is answered. -/
theorem q_fin {S T H : Heap} {pid k : Nat} {c1 c : List AVal} {ts : List Tok} {q : QS} {r : ResS Stm} {st : Stm} {a : Tmps} (hl : pid < S.length) (hst : Step pid S T) (hk : Kst pid (T.length + 1) (T ++ [.cells 18 [z18] (some 1), .cells 18 [c1] (some 1)]) H)
    (ha : SAt H pid ts q) (hc : H[T.length + 1]? = some (.cells 18 [c] (some 1))) (hsc : SC (T.length + 2) H st c) (hq : q = stq r) (hg : Gd r st) (b2 : get a 2 = .ptr T.length 0 0) (b3 : get a 3 = .ptr (T.length + 1) 0 0) (hk2 : k ≠ 2) :
    mwp (ACalls Tryz.prog (B0 w0)) (.seq (.ops [⟨some k, none, .op (.load true 18 3)⟩, ⟨none, none, .op (.store true 18 2 (.slot k))⟩]) .ret) (RtP (SQ S pid ts r)) a H := by
  obtain ⟨hcl, hco⟩ := hsc.shape
  have e := hst.1
  have hz : H[T.length]? = some (.cells 18 [z18] (some 1)) := by
    rw [hk.2 T.length (by simp) (by omega) (by omega)]
    simp
  have hkp := q_kpt hst hk
  have hzl := lt_of_some hz
  have k2 : Kst pid T.length H (H.set T.length (.cells 18 [c] (some 1))) := ⟨by simp, fun j hj j1 j2 => List.getElem?_set_ne (Ne.symm j2)⟩
  have hkp2 : Kpt pid S (H.set T.length (.cells 18 [c] (some 1))) := ⟨by have := hkp.1; simpa using this, fun j hj j1 => by rw [List.getElem?_set_ne (by omega)]; exact hkp.2 j hj j1⟩
  have ha2 : SAt (H.set T.length (.cells 18 [c] (some 1))) pid ts q := ha.same (List.getElem?_set_ne (by omega))
  have hsc2 := hsc.k2 k2 (by omega) (by omega) (M' := S.length) (by omega)
  have hself := setSelf hzl (.cells 18 [c] (some 1))
  have hk2' : (2 : Nat) ≠ k := Ne.symm hk2
  simp [-appendR, RtP, b2, b3, hc, hz, hcl, hco, hk2, hk2', hself]
  rw [hq] at ha2
  exact ⟨c, st, rfl, hkp2, hsc2, ha2, hg⟩
end Go.Abs
set_option linter.unusedSimpArgs false
set_option linter.unusedVariables false
namespace Go.Abs
open Go Go.RowKit Go.Proofs Go.Lx Go.Pz
variable {w0 : World}

/-- One thing is read, then another. -/
theorem bindS_law {α β : Type} {R : ResS α} {F : α → Sta → ResS β} {x : α} (hx : Gd R x) : bindS R F = liftS (F x) (stq R) := by
  cases R with
  | error c => rfl
  | ok y =>
    obtain ⟨y, s⟩ := y
    rw [hx.ok]
    rfl
theorem thenS_law {β : Type} {q : QS} {F : Sta → ResS β} : thenS q F = liftS F q := by
  cases q <;> rfl
theorem liftS_bind {α β : Type} {q : QS} {R : Sta → ResS α} {F : α → Sta → ResS β} {x : α} (hx : Gd (liftS R q) x) : liftS (fun s => bindS (R s) F) q = liftS (F x) (stq (liftS R q)) := by
  cases q with
  | error c => rfl
  | ok s => exact bindS_law hx
theorem liftS_need {β : Type} {q : QS} {k : Int} {w : Bs} {F : Sta → ResS β} : liftS (fun s => thenS (needS k w s) F) q = liftS F (mustS k w q) := by
  cases q with
  | error c => rfl
  | ok s => exact thenS_law
theorem liftS_ret {α : Type} {q : QS} {x : α} : stq (liftS (fun s => .ok (x, s)) q) = q ∧ Gd (liftS (fun s => .ok (x, s)) q) x := by
  cases q with
  | error c => exact ⟨rfl, Gd.er⟩
  | ok s => exact ⟨rfl, Gd.self⟩

theorem create_t {s : Sta} {n : Bs} {cs : List Pz.Col} {q0 q1 q2 q3 q4 : QS} (hT : isT 1 [116, 97, 98, 108, 101] s.l = true) (h0 : q0 = gotS 1 [116, 97, 98, 108, 101] (.ok s)) (hn : Gd (liftS (nameS resv) q0) n) (h1 : q1 = stq (liftS (nameS resv) q0)) (h2 : q2 = mustS 5 [40] q1)
    (hc : Gd (liftS (listF stepC 16 []) q2) cs) (h3 : q3 = stq (liftS (listF stepC 16 []) q2)) (h4 : q4 = mustS 5 [41] q3) : q4 = stq (createS resv s) ∧ Gd (createS resv s) { kind := 1, table := n, cols := cs } := by
  have e : createS resv s = liftS (fun s => .ok ({ kind := 1, table := n, cols := cs }, s)) q4 := by
    rw [createS, if_pos hT]
    have e0 : q0 = .ok ⟨s.l.tail, s.d⟩ := by rw [h0, gotS_ok, if_pos hT]
    rw [show (bindS (nameS resv ⟨s.l.tail, s.d⟩) fun n s => thenS (needS 5 [40] s) fun s =>
      bindS (listF (fun cs s => bindS (columnS resv s) fun c s => .ok (cs ++ [c], s)) 16 [] s) fun cs s =>
      thenS (needS 5 [41] s) fun s =>
      .ok ({ kind := 1, table := n, cols := cs }, s)) = liftS (fun s => bindS (nameS resv s) fun n s => thenS (needS 5 [40] s) fun s =>
      bindS (listF stepC 16 [] s) fun cs s =>
      thenS (needS 5 [41] s) fun s =>
      .ok (({ kind := 1, table := n, cols := cs } : Stm), s)) q0 from by rw [e0]; rfl]
    rw [liftS_bind hn, ← h1, liftS_need, ← h2, liftS_bind hc, ← h3, liftS_need, ← h4]
  rw [e]
  exact ⟨liftS_ret.1.symm, liftS_ret.2⟩
theorem create_i {s : Sta} {i n : Bs} {ns : List Bs} {q0 q1 q2 q3 q4 q5 q6 q7 : QS} (hT : isT 1 [116, 97, 98, 108, 101] s.l = false) (h0 : q0 = gotS 1 [117, 110, 105, 113, 117, 101] (.ok s)) (h1 : q1 = mustS 1 [105, 110, 100, 101, 120] q0) (hi : Gd (liftS (nameS resv) q1) i) (h2 : q2 = stq (liftS (nameS resv) q1)) (h3 : q3 = mustS 1 [111, 110] q2)
    (hn : Gd (liftS (nameS resv) q3) n) (h4 : q4 = stq (liftS (nameS resv) q3)) (h5 : q5 = mustS 5 [40] q4) (hc : Gd (liftS (listF stepN 4 []) q5) ns) (h6 : q6 = stq (liftS (listF stepN 4 []) q5)) (h7 : q7 = mustS 5 [41] q6) :
    q7 = stq (createS resv s) ∧ Gd (createS resv s) { kind := 3, uniq := isT 1 [117, 110, 105, 113, 117, 101] s.l, index := i, table := n, names := ns } := by
  have e : createS resv s = liftS (fun s' => .ok ({ kind := 3, uniq := isT 1 [117, 110, 105, 113, 117, 101] s.l, index := i, table := n, names := ns }, s')) q7 := by
    rw [createS, if_neg (by simp [hT])]
    have e0 : q0 = .ok (if isT 1 [117, 110, 105, 113, 117, 101] s.l = true then ⟨s.l.tail, s.d⟩ else s) := h0
    generalize isT 1 [117, 110, 105, 113, 117, 101] s.l = u at *
    show (thenS (needS 1 [105, 110, 100, 101, 120] (if u = true then ⟨s.l.tail, s.d⟩ else s)) fun s =>
      bindS (nameS resv s) fun i s =>
      thenS (needS 1 [111, 110] s) fun s =>
      bindS (nameS resv s) fun n s =>
      thenS (needS 5 [40] s) fun s =>
      bindS (listF stepN 4 [] s) fun ns s =>
      thenS (needS 5 [41] s) fun s =>
      .ok (({ kind := 3, uniq := u, index := i, table := n, names := ns } : Stm), s)) = _
    have e1 : needS 1 [105, 110, 100, 101, 120] (if u = true then ⟨s.l.tail, s.d⟩ else s) = q1 := by rw [h1, e0]; rfl
    rw [e1, thenS_law, liftS_bind hi, ← h2, liftS_need, ← h3, liftS_bind hn, ← h4, liftS_need, ← h5, liftS_bind hc, ← h6, liftS_need, ← h7]
  rw [e]
  exact ⟨liftS_ret.1.symm, liftS_ret.2⟩

section
variable {pid : Nat} {ts : List Tok} (hts : ts.length ≤ 4000)
include hts
set_option maxHeartbeats 4000000 in
theorem q49 {S : Heap} {s : Sta} (h : SAt S pid ts (.ok s)) : ACalls Tryz.prog (B0 w0) 49 [.ptr pid 0 0] S (SQ S pid ts (createS resv s)) := by
  have hl := h.lt
  refine fn_sound tryOrd (f49_c _) (by simp [f49]) ?_
  rw [f49, f49m, mwp_seq]
  simp [-mwp_block, -mwp_seq, -appendR]
  rw [mwp_seq]
  simp [-mwp_block, -mwp_seq, -appendR]
  obtain ⟨H0, hH0⟩ : ∃ H0, H0 = S ++ [AObj.cells 18 [z18] (some 1), .cells 18 [[.int 1, .str [], .str [], .nilS, .nilS, .bool false, .nilS, .nilS, .nilS, .int 0, .nilS, .int 0, .int 0, .int 0, .str [], .str [], .nilS, .nilS]] (some 1)] := ⟨_, rfl⟩
  have hps : pid ≠ S.length + 1 := by omega
  have c0 : CJ H0 pid (S.length + 1) [.int 1, .str [], .str [], .nilS, .nilS, .bool false, .nilS, .nilS, .nilS, .int 0, .nilS, .int 0, .int 0, .int 0, .str [], .str [], .nilS, .nilS] ts (.ok s) H0 := ⟨by rw [hH0]; exact h.more _, by rw [hH0]; simp, Kst.refl _ _ _⟩
  rw [← hH0]
  rw [mwp_seq, mwp_seq]
  simp [-mwp_block, -mwp_seq, -appendR]
  refine (q48 hts c0.at_ 1 _).use ?_
  rintro e S1 ⟨hst1, rfl, h1⟩
  have c1 := c0.step hps hst1 h1
  have hbT : isS 1 [116, 97, 98, 108, 101] (.ok s) = isT 1 [116, 97, 98, 108, 101] s.l := rfl
  generalize hb : isT 1 [116, 97, 98, 108, 101] s.l = b at hbT
  rw [hbT]
  cases b with
  | true =>
    simp [-mwp_block, -mwp_seq, -appendR]
    rw [mwp_seq]
    simp [-mwp_block, -mwp_seq, -appendR]
    refine (q50 hts c1.at_).use ?_
    rintro e S2 ⟨hst2, n, rfl, h2, hn⟩
    have c2 := c1.step hps hst2 h2
    have st2 := c2.st
    simp [-mwp_block, -mwp_seq, -appendR, st2]
    have c3 := c2.set hps [.int 1, .str n, .str [], .nilS, .nilS, .bool false, .nilS, .nilS, .nilS, .int 0, .nilS, .int 0, .int 0, .int 0, .str [], .str [], .nilS, .nilS]
    generalize S2.set (S.length + 1) (.cells 18 [[.int 1, .str n, .str [], .nilS, .nilS, .bool false, .nilS, .nilS, .nilS, .int 0, .nilS, .int 0, .int 0, .int 0, .str [], .str [], .nilS, .nilS]] (some 1)) = S3 at *
    rw [mwp_seq]
    simp [-mwp_block, -mwp_seq, -appendR]
    refine (q51 hts c3.at_ 5 _).use ?_
    rintro e S4 ⟨hst4, rfl, h4⟩
    have c4 := c3.step hps hst4 h4
    simp [-mwp_block, -mwp_seq, -appendR]
    rw [mwp_seq]
    obtain ⟨m0, hlo⟩ := LoI.start (step := stepC) (V := pcolsC) (most := 16) (x := []) (c4.lj 3 3 rfl rfl) rfl (by decide)
    refine mwp_mono _ _ (fun _ _ _ _ _ hr h => h.mono hr) ?_ (q49t (w0 := w0) (rid := S.length) rfl hts c4.at_.lt (lt_of_some c4.st) hps ⟨by simp, by simp, by simp, hlo⟩)
    intro e a5 S5 hJ
    cases e <;> first | exact hJ.elim | skip
    obtain ⟨b0, b2, b3, cs, hlj, hcs⟩ := hJ
    obtain ⟨v, c5, ap⟩ := hlj.cj rfl c4.k2
    simp [-mwp_block, -mwp_seq, -appendR]
    rw [mwp_seq]
    simp [-mwp_block, -mwp_seq, -appendR, b0, b2, b3]
    refine (q51 hts c5.at_ 5 _).use ?_
    rintro e S6 ⟨hst6, rfl, h6⟩
    have c6 := c5.step hps hst6 h6
    have ap6 := (ap.step hst6 c4.at_.lt).le (N' := S.length + 2) (by have := c4.k2.1; rw [hH0] at this; simpa using this)
    obtain ⟨lw1, lw2⟩ := create_t hb rfl hn rfl rfl hcs rfl rfl
    simp [-mwp_block, -mwp_seq, -appendR, b0, b2, b3]
    have k6 := c6.k2
    rw [hH0] at k6
    refine mwp_mono _ _ (fun _ _ _ _ _ hr h => h.mono hr) ?_ (q_fin (w0 := w0) (k := 64) hl (Step.refl pid S) k6 c6.at_ c6.st ⟨v, .nilS, .nilS, .nilS, .nilS, .nilS, .nilS, ?_, .inl ap6, .nil _ _ _, .nil _ _ _, .nil _ _ _, .nil _ _ _, .nil _ _ _, .nil _ _ _⟩ lw1 lw2 (by simp [b2]) (by simp [b3]) (by decide))
    · intro e a7 S7 hR
      cases e <;> first | exact hR.elim | skip
      exact hR
    · rw [exC_zero]; rfl
  | false =>
    simp [-mwp_block, -mwp_seq, -appendR]
    rw [gotS_false hbT] at c1
    rw [mwp_seq]
    have st1 := c1.st
    simp [-mwp_block, -mwp_seq, -appendR, st1]
    have c2 := c1.set hps [.int 3, .str [], .str [], .nilS, .nilS, .bool false, .nilS, .nilS, .nilS, .int 0, .nilS, .int 0, .int 0, .int 0, .str [], .str [], .nilS, .nilS]
    generalize S1.set (S.length + 1) (.cells 18 [[.int 3, .str [], .str [], .nilS, .nilS, .bool false, .nilS, .nilS, .nilS, .int 0, .nilS, .int 0, .int 0, .int 0, .str [], .str [], .nilS, .nilS]] (some 1)) = S2 at *
    rw [mwp_seq]
    simp [-mwp_block, -mwp_seq, -appendR]
    refine (q48 hts c2.at_ 1 _).use ?_
    rintro e S3 ⟨hst3, rfl, h3⟩
    have c3 := c2.step hps hst3 h3
    have st3 := c3.st
    simp [-mwp_block, -mwp_seq, -appendR, st3]
    have c4 := c3.set hps [.int 3, .str [], .str [], .nilS, .nilS, .bool (isT 1 [117, 110, 105, 113, 117, 101] s.l), .nilS, .nilS, .nilS, .int 0, .nilS, .int 0, .int 0, .int 0, .str [], .str [], .nilS, .nilS]
    generalize S3.set (S.length + 1) (.cells 18 [[.int 3, .str [], .str [], .nilS, .nilS, .bool (isT 1 [117, 110, 105, 113, 117, 101] s.l), .nilS, .nilS, .nilS, .int 0, .nilS, .int 0, .int 0, .int 0, .str [], .str [], .nilS, .nilS]] (some 1)) = S4 at *
    rw [mwp_seq]
    simp [-mwp_block, -mwp_seq, -appendR]
    refine (q51 hts c4.at_ 1 _).use ?_
    rintro e S5 ⟨hst5, rfl, h5⟩
    have c5 := c4.step hps hst5 h5
    simp [-mwp_block, -mwp_seq, -appendR]
    rw [mwp_seq]
    simp [-mwp_block, -mwp_seq, -appendR]
    refine (q50 hts c5.at_).use ?_
    rintro e S6 ⟨hst6, ix, rfl, h6, hi⟩
    have c6 := c5.step hps hst6 h6
    have st6 := c6.st
    simp [-mwp_block, -mwp_seq, -appendR, st6]
    have c7 := c6.set hps [.int 3, .str [], .str ix, .nilS, .nilS, .bool (isT 1 [117, 110, 105, 113, 117, 101] s.l), .nilS, .nilS, .nilS, .int 0, .nilS, .int 0, .int 0, .int 0, .str [], .str [], .nilS, .nilS]
    generalize S6.set (S.length + 1) (.cells 18 [[.int 3, .str [], .str ix, .nilS, .nilS, .bool (isT 1 [117, 110, 105, 113, 117, 101] s.l), .nilS, .nilS, .nilS, .int 0, .nilS, .int 0, .int 0, .int 0, .str [], .str [], .nilS, .nilS]] (some 1)) = S7 at *
    rw [mwp_seq]
    simp [-mwp_block, -mwp_seq, -appendR]
    refine (q51 hts c7.at_ 1 _).use ?_
    rintro e S8 ⟨hst8, rfl, h8⟩
    have c8 := c7.step hps hst8 h8
    simp [-mwp_block, -mwp_seq, -appendR]
    rw [mwp_seq]
    simp [-mwp_block, -mwp_seq, -appendR]
    refine (q50 hts c8.at_).use ?_
    rintro e S9 ⟨hst9, n, rfl, h9, hn⟩
    have c9 := c8.step hps hst9 h9
    have st9 := c9.st
    simp [-mwp_block, -mwp_seq, -appendR, st9]
    have c10 := c9.set hps [.int 3, .str n, .str ix, .nilS, .nilS, .bool (isT 1 [117, 110, 105, 113, 117, 101] s.l), .nilS, .nilS, .nilS, .int 0, .nilS, .int 0, .int 0, .int 0, .str [], .str [], .nilS, .nilS]
    generalize S9.set (S.length + 1) (.cells 18 [[.int 3, .str n, .str ix, .nilS, .nilS, .bool (isT 1 [117, 110, 105, 113, 117, 101] s.l), .nilS, .nilS, .nilS, .int 0, .nilS, .int 0, .int 0, .int 0, .str [], .str [], .nilS, .nilS]] (some 1)) = S10 at *
    rw [mwp_seq]
    simp [-mwp_block, -mwp_seq, -appendR]
    refine (q51 hts c10.at_ 5 _).use ?_
    rintro e S11 ⟨hst11, rfl, h11⟩
    have c11 := c10.step hps hst11 h11
    simp [-mwp_block, -mwp_seq, -appendR]
    rw [mwp_seq]
    obtain ⟨m0, hlo⟩ := LoI.start (step := stepN) (V := namesC) (most := 4) (x := []) (c11.lj 4 1 rfl rfl) rfl (by decide)
    refine mwp_mono _ _ (fun _ _ _ _ _ hr h => h.mono hr) ?_ (q49n (w0 := w0) (rid := S.length) rfl hts c11.at_.lt (lt_of_some c11.st) hps ⟨by simp, by simp, by simp, hlo⟩)
    intro e a12 S12 hJ
    cases e <;> first | exact hJ.elim | skip
    obtain ⟨b0, b2, b3, ns, hlj, hns⟩ := hJ
    obtain ⟨v, c12, ap⟩ := hlj.cj rfl c11.k2
    simp [-mwp_block, -mwp_seq, -appendR]
    rw [mwp_seq]
    simp [-mwp_block, -mwp_seq, -appendR, b0, b2, b3]
    refine (q51 hts c12.at_ 5 _).use ?_
    rintro e S13 ⟨hst13, rfl, h13⟩
    have c13 := c12.step hps hst13 h13
    have ap13 := (ap.step hst13 c11.at_.lt).le (N' := S.length + 2) (by have := c11.k2.1; rw [hH0] at this; simpa using this)
    obtain ⟨lw1, lw2⟩ := create_i hb rfl rfl hi rfl rfl hn rfl rfl hns rfl rfl
    simp [-mwp_block, -mwp_seq, -appendR, b0, b2, b3]
    have k13 := c13.k2
    rw [hH0] at k13
    refine mwp_mono _ _ (fun _ _ _ _ _ hr h => h.mono hr) ?_ (q_fin (w0 := w0) (k := 101) hl (Step.refl pid S) k13 c13.at_ c13.st ⟨.nilS, v, .nilS, .nilS, .nilS, .nilS, .nilS, ?_, .nil _ _ _, .inl ap13, .nil _ _ _, .nil _ _ _, .nil _ _ _, .nil _ _ _, .nil _ _ _⟩ lw1 lw2 (by simp [b2]) (by simp [b3]) (by decide))
    · intro e a7 S7 hR
      cases e <;> first | exact hR.elim | skip
      exact hR
    · rw [exC_zero]; rfl
end
end Go.Abs
set_option linter.unusedSimpArgs false
set_option linter.unusedVariables false
namespace Go.Abs
open Go Go.RowKit Go.Proofs Go.Lx Go.Pz
variable {w0 : World}

/-- A row under way. -/
structure MJ (T0 : Heap) (pid : Nat) (v : AVal) (xs : List Ex) (ts : List Tok) (q : QS) (S : Heap) : Prop where
  at_ : SAt S pid ts q
  own : Own T0.length S S [(v, 7, exlC xs)]
  kp : Kpt pid T0 S
theorem MJ.step {T0 : Heap} {pid : Nat} {v : AVal} {xs : List Ex} {ts : List Tok} {q q' : QS} {S S' : Heap} (h : MJ T0 pid v xs ts q S) (hp : pid < T0.length) (hst : Step pid S S') (ha : SAt S' pid ts q') : MJ T0 pid v xs ts q' S' :=
  ⟨ha, h.own.step hst hp, ⟨by have := h.kp.1; have := hst.1; omega, fun j hj h1 => (hst.2 j h1).trans (h.kp.2 j hj h1)⟩⟩
theorem MJ.app {T0 : Heap} {pid : Nat} {v : AVal} {xs : List Ex} {ts : List Tok} {q : QS} {S : Heap} (h : MJ T0 pid v xs ts q S) (hp : pid < T0.length) (x : Ex) (hx : xs.length ≤ 60) :
    ∃ S3, appendR 7 88 S v (.list .full [exC x]) = .ok true (.row S.length 0 (xs.length + 1)) S3 ∧ MJ T0 pid (.row S.length 0 (xs.length + 1)) (xs ++ [x]) ts q S3 := by
  obtain ⟨ha, ho, hk⟩ := h
  obtain ⟨S3, a1, a2, a3, a4⟩ := ho.app2 0 rfl (y := .list .full [exC x]) (ys := [exC x]) (bytes := 88) rfl (by simp) (by decide) (by simp; omega) (by simp; omega)
  have hlow : ∀ j, j < T0.length → S3[j]? = S[j]? := fun j hj => a4 j (by have := hk.1; omega) fun o l e => by
    subst e
    have := (ho.idlt (i := 0) rfl).1
    omega
  refine ⟨S3, by simpa using a1, ha.same (hlow pid hp), ?_, ⟨by have := hk.1; omega, fun j hj h1 => (hlow j hj).trans (hk.2 j hj h1)⟩⟩
  have := a2.rebase
  rw [exlC_snoc]
  simpa using this

/-- A row's loop: its head. -/
def InI (T0 : Heap) (pid rid sid : Nat) (ts : List Tok) (r : ResS (List Ex)) (m : Nat) (a : Tmps) (S' : Heap) : Prop :=
  get a 0 = .ptr pid 0 0 ∧ get a 2 = .ptr rid 0 0 ∧ get a 3 = .ptr sid 0 0 ∧ ∃ (xs : List Ex) (v : AVal) (q : QS), get a 4 = v ∧ MJ T0 pid v xs ts q S' ∧
    ((∃ s, q = .ok s ∧ xs.length + m = 50 ∧ 1 ≤ m ∧ r = listF (exprsS resv (ts.length + 1)) m xs s) ∨ (m = 0 ∧ (∃ c, q = .error c) ∧ q = stq r ∧ Gd r xs))
def InP (T0 : Heap) (pid rid sid : Nat) (ts : List Tok) (r : ResS (List Ex)) : AExit → Tmps → Heap → Prop
  | .normal, a, S' => get a 0 = .ptr pid 0 0 ∧ get a 2 = .ptr rid 0 0 ∧ get a 3 = .ptr sid 0 0 ∧ ∃ (xs : List Ex) (v : AVal), get a 4 = v ∧ MJ T0 pid v xs ts (stq r) S' ∧ Gd r xs
  | _, _, _ => False

section
variable {T0 : Heap} {pid rid sid : Nat} {ts : List Tok} (hts : ts.length ≤ 4000) (hok : ∀ t ∈ ts, OkT t) (hp : pid < T0.length)
include hts hok hp
set_option maxHeartbeats 2000000 in
theorem q52i {G : Nat → AVal} {m : Nat} {a : Tmps} {S' : Heap} {r : ResS (List Ex)} (h : InI T0 pid rid sid ts r m a S') :
    mwp (ACalls Tryz.prog (B0 w0)) (.block 2 (.loop (f52b0 G))) (InP T0 pid rid sid ts r) a S' := by
  simp only [mwp_block]
  refine mwp_loop (I := InI T0 pid rid sid ts r) h ?_
  clear h
  rintro m a S' ⟨b0, b2, b3, xs, v, q, b4, hmj, hx⟩
  rcases hx with ⟨s, rfl, hm, hm1, hr⟩ | ⟨hm0, ⟨c, rfl⟩, hq, hg⟩
  rotate_left 1
  · obtain ⟨vv, i, mm, h1, hb⟩ := hmj.at_.erE
    simp [f52b0, b0, b2, b3, b4, h1, hb]
    exact ⟨by simp [b0], by simp [b2], by simp [b3], xs, v, by simp [b4], by rw [← hq]; exact hmj, hg⟩
  obtain ⟨vv, i, mm, h1⟩ := hmj.at_.okE
  simp [-appendR, f52b0, b0, b2, b3, b4, h1]
  refine (q54 hts hok hmj.at_).use ?_
  rintro e S1 ⟨hst, x, rfl, h5, h6⟩
  have hmj1 := hmj.step hp hst h5
  obtain ⟨S3, a1, hmj3⟩ := hmj1.app hp x (by omega)
  have hq : stq (liftS (whole resv (ts.length + 1)) (.ok s)) = stq (exprsS resv (ts.length + 1) xs s) := by
    rw [liftS_ok, exprsS]
    cases whole resv (ts.length + 1) s with
    | error c => rfl
    | ok y => rfl
  have hgd : Gd (exprsS resv (ts.length + 1) xs s) (xs ++ [x]) := by
    rw [liftS_ok] at h6
    rw [exprsS]
    cases hN : whole resv (ts.length + 1) s with
    | error c => exact Gd.er
    | ok y =>
      obtain ⟨y, s'⟩ := y
      rw [hN] at h6
      have := h6.ok
      subst this
      exact Gd.self
  rw [hq] at hmj3
  obtain ⟨op, vx, kind, num, scale, text, qual, hxx, o1, o2⟩ := exC_shape x
  rw [hxx] at a1
  simp [-appendR, b0, b2, b3, b4, hxx, o1, putAt, splice, a1]
  refine (q55 hts hmj3.at_ (xs.length + 1) 50).use ?_
  rintro e S5 ⟨hst5, rfl, h8⟩
  have key := listF_more (most := 50) (n := xs.length + 1) (m := m) (x := xs) (x1 := xs ++ [x]) (s := s) (r := r) (by omega) hm1 hr hgd
  have hmj5 := hmj3.step hp hst5 h8
  generalize moreS (xs.length + 1) 50 (stq (exprsS resv (ts.length + 1) xs s)) = M at *
  obtain ⟨b, q'⟩ := M
  cases b with
  | true =>
    obtain ⟨s', hs', hm2, hr2⟩ := key
    subst hs'
    simp [b0, b2, b3]
    exact ⟨m - 1, by omega, by simp [b0], by simp [b2], by simp [b3], xs ++ [x], _, _, rfl, hmj5, .inl ⟨s', rfl, by simp; omega, by omega, hr2⟩⟩
  | false =>
    obtain ⟨hq2, hg2⟩ := key
    rw [hq2] at hmj5
    simp [b0, b2, b3]
    exact ⟨by simp [b0], by simp [b2], by simp [b3], xs ++ [x], _, rfl, hmj5, hg2⟩
end
end Go.Abs
set_option linter.unusedSimpArgs false
set_option linter.unusedVariables false
namespace Go.Abs
open Go Go.RowKit Go.Proofs Go.Lx Go.Pz
variable {w0 : World}

/-- A row in a list of rows: frozen, or its own object still. -/
def Ent (N : Nat) (S : Heap) (cell : List AVal) (xs : List Ex) : Prop :=
  cell = [.list .unk (exlC xs)] ∨ ∃ (id off n : Nat) (es0 : List (List AVal)) (cap : Option Nat), cell = [.row id off n] ∧ N ≤ id ∧ S[id]? = some (.cells 7 es0 cap) ∧ off + n ≤ es0.length ∧ (es0.drop off).take n = exlC xs
def Ents (N : Nat) (S : Heap) (L : List (List AVal)) (rows : List (List Ex)) : Prop := L.length = rows.length ∧ ∀ (i : Nat) (cell : List AVal) (xs : List Ex), L[i]? = some cell → rows[i]? = some xs → Ent N S cell xs
theorem Ent.keep {N : Nat} {S S' : Heap} {cell : List AVal} {xs : List Ex} (h : Ent N S cell xs) (hk : ∀ j es cap, N ≤ j → S[j]? = some (.cells 7 es cap) → S'[j]? = S[j]?) : Ent N S' cell xs := by
  rcases h with h | ⟨id, off, n, es0, cap, h1, h2, h3, h4, h5⟩
  · exact .inl h
  · exact .inr ⟨id, off, n, es0, cap, h1, h2, (hk id es0 cap h2 h3).trans h3, h4, h5⟩
theorem Ents.keep {N : Nat} {S S' : Heap} {L : List (List AVal)} {rows : List (List Ex)} (h : Ents N S L rows) (hk : ∀ j es cap, N ≤ j → S[j]? = some (.cells 7 es cap) → S'[j]? = S[j]?) : Ents N S' L rows :=
  ⟨h.1, fun i cell xs h1 h2 => (h.2 i cell xs h1 h2).keep hk⟩
theorem Ents.snoc {N : Nat} {S : Heap} {L : List (List AVal)} {rows : List (List Ex)} {cell : List AVal} {xs : List Ex} (h : Ents N S L rows) (he : Ent N S cell xs) : Ents N S (L ++ [cell]) (rows ++ [xs]) := by
  obtain ⟨h1, h2⟩ := h
  refine ⟨by simp [h1], fun i c x hc hx => ?_⟩
  rcases Nat.lt_or_ge i L.length with hi | hi
  · rw [List.getElem?_append_left hi] at hc
    rw [List.getElem?_append_left (by omega)] at hx
    exact h2 i c x hc hx
  · rw [List.getElem?_append_right hi] at hc
    rw [List.getElem?_append_right (by omega), ← h1] at hx
    cases hd : i - L.length with
    | zero =>
      rw [hd] at hc hx
      simp at hc hx
      subst hc hx
      exact he
    | succ k => rw [hd] at hc; simp at hc
theorem Ents.nil (N : Nat) (S : Heap) : Ents N S [] [] := ⟨rfl, fun i c x h => by simp at h⟩

theorem row_law {N : Nat} {s : Sta} {rows : List (List Ex)} {xs : List Ex} {q1 q2 q3 : QS} (h1 : q1 = mustS 5 [40] (.ok s)) (hx : Gd (liftS (listF (exprsS resv N) 50 []) q1) xs) (h2 : q2 = stq (liftS (listF (exprsS resv N) 50 []) q1)) (h3 : q3 = mustS 5 [41] q2) :
    q3 = stq (rowS resv N rows s) ∧ Gd (rowS resv N rows s) (rows ++ [xs]) := by
  have e : rowS resv N rows s = liftS (fun s => .ok (rows ++ [xs], s)) q3 := by
    rw [rowS, thenS_law]
    rw [show needS 5 [40] s = q1 from h1.symm ▸ rfl, liftS_bind hx, ← h2, liftS_need, ← h3]
  rw [e]
  exact ⟨liftS_ret.1.symm, liftS_ret.2⟩
theorem row_ne {N : Nat} {q1 : QS} {xs : List Ex} {s3 : Sta} (hl : ∀ s, q1 = .ok s → s.l.length ≤ N) (hx : Gd (liftS (listF (exprsS resv N) 50 []) q1) xs) (h : mustS 5 [41] (stq (liftS (listF (exprsS resv N) 50 []) q1)) = .ok s3) : xs ≠ [] := by
  cases q1 with
  | error c => cases h
  | ok s =>
    rw [liftS_ok] at h hx
    cases hF : listF (exprsS resv N) 50 [] s with
    | error c => rw [hF] at h; cases h
    | ok y =>
      obtain ⟨y, s2⟩ := y
      have hst := listF_step (V := List.length) (N := N) (fun x s x' s' h h' => exprsS_step h h') 50 [] s y s2 (hl s rfl) hF
      rw [hF] at hx
      have := hx.ok
      subst this
      intro e
      rw [e] at hst
      simp at hst

def OuI (S0 : Heap) (pid rid sid : Nat) (c0 : List AVal) (ts : List Tok) (r : ResS (List (List Ex))) (m : Nat) (a : Tmps) (S' : Heap) : Prop :=
  get a 0 = .ptr pid 0 0 ∧ get a 2 = .ptr rid 0 0 ∧ get a 3 = .ptr sid 0 0 ∧ ∃ (rows : List (List Ex)) (L : List (List AVal)) (q : QS), LJ S0 pid sid c0 6 1 L ts q S' ∧
    ((∃ s, q = .ok s ∧ Ents S0.length S' L rows ∧ rows.length + m = 50 ∧ 1 ≤ m ∧ r = listF (rowS resv (ts.length + 1)) m rows s) ∨ (m = 0 ∧ (∃ c, q = .error c) ∧ q = stq r))
def OuP (S0 : Heap) (pid rid sid : Nat) (c0 : List AVal) (ts : List Tok) (r : ResS (List (List Ex))) : AExit → Tmps → Heap → Prop
  | .normal, a, S' => get a 0 = .ptr pid 0 0 ∧ get a 2 = .ptr rid 0 0 ∧ get a 3 = .ptr sid 0 0 ∧ ∃ (L : List (List AVal)), LJ S0 pid sid c0 6 1 L ts (stq r) S' ∧ ∀ rows s, r = .ok (rows, s) → Ents S0.length S' L rows
  | _, _, _ => False

section
variable {S0 : Heap} {pid rid sid : Nat} {c0 : List AVal} (hc0 : c0.length = 18) {ts : List Tok} (hts : ts.length ≤ 4000) (hok : ∀ t ∈ ts, OkT t) (hp : pid < S0.length) (hs : sid < S0.length) (hps : pid ≠ sid)
include hc0 hts hok hp hs hps
set_option maxHeartbeats 4000000 in
theorem q52o {G : Nat → AVal} {m : Nat} {a : Tmps} {S' : Heap} {r : ResS (List (List Ex))} (h : OuI S0 pid rid sid c0 ts r m a S') :
    mwp (ACalls Tryz.prog (B0 w0)) (.block 0 (.loop (f52b1 G))) (OuP S0 pid rid sid c0 ts r) a S' := by
  rw [mwp_block]
  refine mwp_loop (I := OuI S0 pid rid sid c0 ts r) h ?_
  clear h
  rintro m a S' ⟨b0, b2, b3, rows, L, q, hlj, hx⟩
  rcases hx with ⟨s, rfl, hen, hm, hm1, hr⟩ | ⟨hm0, ⟨c, rfl⟩, hq⟩
  rotate_left 1
  · obtain ⟨v, i, mm, h1, hb⟩ := hlj.at_.erE
    rw [f52b1, mwp_seq]
    simp [-mwp_block, -appendR, b0, b2, b3, h1, hb]
    exact ⟨by simp [b0], by simp [b2], by simp [b3], L, by rw [← hq]; exact hlj, fun rows s e => by rw [e] at hq; cases hq⟩
  obtain ⟨v, i, mm, h1⟩ := hlj.at_.okE
  rw [f52b1, mwp_seq]
  simp [-mwp_block, -appendR, b0, b2, b3, h1]
  rw [mwp_block, mwp_seq]
  simp [-mwp_block, -mwp_seq, -appendR, b0, b2, b3]
  rw [mwp_seq]
  simp [-mwp_block, -mwp_seq, -appendR, b0, b2, b3]
  refine (q51 hts hlj.at_ 5 _).use ?_
  rintro e S1 ⟨hst1, rfl, ha1⟩
  have hlj1 := hlj.step hst1 hp hps ha1
  have hp1 : pid < S1.length := ha1.lt
  simp [-mwp_block, -mwp_seq, -appendR, b0, b2, b3]
  rw [mwp_seq]
  have hmj1 : MJ S1 pid (.list .full []) [] ts (mustS 5 [40] (.ok s)) S1 := ⟨ha1, by
    have := (Own.start S1).add0 7 .full (.inr rfl)
    exact this, ⟨Nat.le_refl _, fun _ _ _ => rfl⟩⟩
  have hin : ∀ a' : Tmps, get a' 0 = .ptr pid 0 0 → get a' 2 = .ptr rid 0 0 → get a' 3 = .ptr sid 0 0 → get a' 4 = .list .full [] → ∃ m0, InI S1 pid rid sid ts (liftS (listF (exprsS resv (ts.length + 1)) 50 []) (mustS 5 [40] (.ok s))) m0 a' S1 := fun a' d0 d2 d3 d4 => by
    generalize mustS 5 [40] (.ok s) = q1 at *
    cases q1 with
    | ok s1 => exact ⟨50, d0, d2, d3, [], _, _, d4, hmj1, .inl ⟨s1, rfl, rfl, by decide, rfl⟩⟩
    | error c => exact ⟨0, d0, d2, d3, [], _, _, d4, hmj1, .inr ⟨rfl, ⟨c, rfl⟩, rfl, Gd.er⟩⟩
  have hsz : ∀ s', mustS 5 [40] (.ok s) = .ok s' → s'.l.length ≤ ts.length + 1 := fun s' e => by have := ha1.size e; omega
  generalize hq1 : mustS 5 [40] (.ok s) = q1 at *
  have hin2 : ∀ a' : Tmps, get a' 0 = .ptr pid 0 0 → get a' 2 = .ptr rid 0 0 → get a' 3 = .ptr sid 0 0 → get a' 4 = .list .full [] → mwp (ACalls Tryz.prog (B0 w0)) (.block 2 (.loop (f52b0 G))) (InP S1 pid rid sid ts (liftS (listF (exprsS resv (ts.length + 1)) 50 []) q1)) a' S1 := fun a' d0 d2 d3 d4 => by
    obtain ⟨m0, h⟩ := hin a' d0 d2 d3 d4
    exact q52i hts hok hp1 h
  refine mwp_mono _ _ (fun _ _ _ _ _ hr h => h.mono hr) ?_ (hin2 _ (by simp [b0]) (by simp [b2]) (by simp [b3]) (by simp))
  intro e a2 S2 hJ
  cases e <;> first | exact hJ.elim | skip
  obtain ⟨d0, d2, d3, xs, v, d4, hmj2, hxs⟩ := hJ
  generalize hq2 : stq (liftS (listF (exprsS resv (ts.length + 1)) 50 []) q1) = q2 at *
  simp [-mwp_block, -mwp_seq, -appendR]
  rw [mwp_seq]
  simp [-mwp_block, -mwp_seq, -appendR, d0, d2, d3, d4]
  refine (q51 hts hmj2.at_ 5 _).use ?_
  rintro e S3 ⟨hst3, rfl, h3⟩
  have hmj3 := hmj2.step hp1 hst3 h3
  obtain ⟨lw1, lw2⟩ := row_law (rows := rows) hq1.symm hxs hq2.symm rfl
  have hne : ∀ s3, mustS 5 [41] q2 = .ok s3 → xs ≠ [] := fun s3 e => row_ne hsz hxs (hq2 ▸ e)
  generalize hq3 : mustS 5 [41] q2 = q3 at *
  obtain ⟨ha1', ⟨u, g1, g2⟩, g3⟩ := hlj1
  rw [hc0] at g1
  have hl13 : S1.length ≤ S3.length := hmj3.kp.1
  have hs1 : S0.length ≤ S1.length := g3.1
  have hk13 : ∀ j, j < S1.length → j ≠ pid → S3[j]? = S1[j]? := hmj3.kp.2
  have g4 : S3[sid]? = some (.cells 18 [c0.set 6 u] (some 1)) := by rw [hk13 sid (by omega) (Ne.symm hps)]; exact g1
  have g5 : Own S0.length S3 S3 [(u, 1, L)] := g2.keep hl13 fun j j1 j2 => hk13 j j2 (by omega)
  have g6 : Kst pid sid S0 S3 := ⟨by omega, fun j hj j1 j2 => by rw [hk13 j (by omega) j1]; exact g3.2 j hj j1 j2⟩
  have hLl : L.length = rows.length := hen.1
  obtain ⟨S4, a1, a3, a4, a5, a6, a7⟩ := LJ.app2 (bytes := 24) hp hs hps h3 (by rw [hc0]; exact g4) g5 g6 (x := [v]) rfl (by decide) (by decide) (by omega) (y := .list .full [[v]]) rfl
  rw [hc0] at a4 a6
  have hv1 : v.one = true ∧ cellsOf false v = some [v] := by
    have := hmj3.own.ap 0 _ _ _ rfl
    generalize exlC xs = Z at this
    cases this with
    | none fl hf => exact ⟨rfl, rfl⟩
    | row id off len es0 cap hN hS hle => exact ⟨rfl, rfl⟩
  have hl4 := lt_of_some a4
  -- the rows, in the heap that comes of it
  have hen4 : ∀ s3, q3 = .ok s3 → Ents S0.length (S4.set sid (.cells 18 [c0.set 6 (.row S3.length 0 (L.length + 1))] (some 1))) (L ++ [[v]]) (rows ++ [xs]) := fun s3 e3 => by
    have hu : ∀ j es cap, S3[j]? = some (.cells 7 es cap) → ∀ o l, u ≠ .row j o l := fun j es cap hj o l e => by
      subst e
      have := g5.ap 0 _ _ _ rfl
      generalize L = Z at this
      cases this with
      | row _ _ _ es0 cap hN hS hle => rw [hS] at hj; cases hj
    refine Ents.snoc ?_ ?_
    · refine hen.keep fun j es cap j1 j2 => ?_
      have hjl := lt_of_some j2
      have e1 : S1[j]? = S'[j]? := hst1.2 j (by omega)
      have e2 : S3[j]? = S1[j]? := hk13 j (by have := hst1.1; omega) (by omega)
      have e12 := e2.trans e1
      rw [List.getElem?_set_ne (by omega), a7 j (lt_of_some (e12.trans j2)) (hu j es cap (e12.trans j2)), e12]
    · right
      have hap := hmj3.own.ap 0 _ _ _ rfl
      have hxn := hne s3 e3
      generalize hZ : exlC xs = Z at hap
      cases hap with
      | none fl hf =>
        have : xs.length = 0 := by rw [← exlC_len xs, hZ]; rfl
        exact absurd (List.eq_nil_of_length_eq_zero this) hxn
      | row id off len es0 cap hN hS hle =>
        refine ⟨id, off, len, es0, cap, rfl, by omega, ?_, hle, rfl⟩
        rw [List.getElem?_set_ne (by omega), a7 id (lt_of_some hS) (hu id es0 cap hS)]
        exact hS
  generalize hH : S4.set sid (.cells 18 [c0.set 6 (.row S3.length 0 (L.length + 1))] (some 1)) = H at *
  have g8 : H[sid]? = some (.cells 18 [c0.set 6 (.row S3.length 0 (L.length + 1))] (some 1)) := by rw [← hH, List.getElem?_set_self hl4]
  simp [-appendR, d0, d2, d3, d4, g4, hc0, hv1.1, hv1.2, a1, a4, hH, g8]
  refine (q55 hts a6.at_ (L.length + 1) 50).use ?_
  rintro e S5 ⟨hst5, rfl, h8⟩
  have key := listF_more (most := 50) (n := L.length + 1) (m := m) (x := rows) (x1 := rows ++ [xs]) (s := s) (r := r) (by omega) hm1 hr lw2
  rw [← lw1] at key
  have hlj5 := a6.step hst5 hp hps h8
  have hen5 : ∀ s3, q3 = .ok s3 → Ents S0.length S5 (L ++ [[v]]) (rows ++ [xs]) := fun s3 e => (hen4 s3 e).keep fun j es cap j1 j2 => hst5.2 j (by omega)
  have hmq : ∀ b q', moreS (L.length + 1) 50 q3 = (b, q') → (∃ s, q' = .ok s) → ∃ s3, q3 = .ok s3 := fun b q' hM ⟨s', e⟩ => by
    cases q3 with
    | ok s3 => exact ⟨s3, rfl⟩
    | error c =>
      subst e
      simp [moreS] at hM
  generalize hM : moreS (L.length + 1) 50 q3 = M at *
  obtain ⟨b, q'⟩ := M
  cases b with
  | true =>
    obtain ⟨s', hs', hm2, hr2⟩ := key
    subst hs'
    obtain ⟨s3, e3⟩ := hmq _ _ rfl ⟨_, rfl⟩
    simp [d0, d2, d3]
    exact ⟨m - 1, by omega, by simp [d0], by simp [d2], by simp [d3], rows ++ [xs], L ++ [[v]], _, hlj5, .inl ⟨s', rfl, hen5 s3 e3, by simp; omega, by omega, hr2⟩⟩
  | false =>
    obtain ⟨hq2, hg2⟩ := key
    subst hq2
    simp [d0, d2, d3]
    refine ⟨by simp [d0], by simp [d2], by simp [d3], L ++ [[v]], hlj5, fun rows' s' e => ?_⟩
    subst e
    have := hg2.ok
    subst this
    obtain ⟨s3, e3⟩ := hmq _ _ rfl ⟨s', rfl⟩
    exact hen5 s3 e3
end
end Go.Abs
set_option linter.unusedSimpArgs false
set_option linter.unusedVariables false
namespace Go.Abs
open Go Go.RowKit Go.Proofs Go.Lx Go.Pz
variable {w0 : World}

/-- What a reading of a statement answers; in error just some cells. -/
def SQw (S : Heap) (pid : Nat) (ts : List Tok) (r : ResS Stm) (e : AEnd) (S' : Heap) : Prop :=
  ∃ (c : List AVal), e = .ret (.agg c) ∧ c.length = 18 ∧ c.all AVal.one = true ∧ Kpt pid S S' ∧ SAt S' pid ts (stq r) ∧ ∀ st s, r = .ok (st, s) → SC S.length S' st c
theorem SQ.w {S : Heap} {pid : Nat} {ts : List Tok} {r : ResS Stm} {e : AEnd} {S' : Heap} (h : SQ S pid ts r e S') : SQw S pid ts r e S' := by
  obtain ⟨c, st, rfl, h1, h2, h3, h4⟩ := h
  obtain ⟨h5, h6⟩ := h2.shape
  exact ⟨c, rfl, h5, h6, h1, h3, fun st' s e => by have := h4 _ _ e; subst this; exact h2⟩

def isLv : List AVal → Bool
  | [.row _ _ _] => true
  | _ => false
def lives (L : List (List AVal)) : Nat := (L.filter isLv).length
theorem lives_le (L : List (List AVal)) : lives L ≤ L.length := List.length_filter_le _ _
theorem lives_map {f : List AVal → List AVal} : ∀ (L : List (List AVal)), (∀ c ∈ L, isLv (f c) = true → isLv c = true) → lives (L.map f) ≤ lives L
  | [], _ => Nat.le_refl _
  | c :: L, h => by
    have h1 := lives_map L (fun c hc => h c (List.mem_cons_of_mem _ hc))
    have h2 := h c (by simp)
    simp only [lives, List.map_cons, List.filter_cons] at h1 ⊢
    by_cases hf : isLv (f c) = true
    · rw [if_pos hf, if_pos (h2 hf)]; simp; omega
    · rw [if_neg hf]
      split <;> simp <;> omega
theorem lives_lt {f : List AVal → List AVal} : ∀ (L : List (List AVal)), (∀ c ∈ L, isLv (f c) = true → isLv c = true) → (∃ c ∈ L, isLv c = true ∧ isLv (f c) = false) → lives (L.map f) < lives L
  | [], _, ⟨c, hc, _⟩ => by simp at hc
  | c :: L, h, ⟨d, hd, hd1, hd2⟩ => by
    have h2 := h c (by simp)
    have h0 := lives_map L (fun c hc => h c (List.mem_cons_of_mem _ hc))
    by_cases hdc : d = c
    · subst hdc
      simp only [lives, List.map_cons, List.filter_cons] at h0 ⊢
      rw [if_neg (by simp [hd2]), if_pos hd1]; simp; omega
    · have h1 := lives_lt L (fun c hc => h c (List.mem_cons_of_mem _ hc)) ⟨d, by simpa [hdc] using hd, hd1, hd2⟩
      simp only [lives, List.map_cons, List.filter_cons] at h1 ⊢
      by_cases hf : isLv (f c) = true
      · rw [if_pos hf, if_pos (h2 hf)]; simp; omega
      · rw [if_neg hf]
        split <;> simp <;> omega
theorem lives_some : ∀ {L : List (List AVal)}, 0 < lives L → ∃ (i : Nat) (c : List AVal), L[i]? = some c ∧ isLv c = true
  | [], h => by simp [lives] at h
  | c :: L, h => by
    by_cases hc : isLv c = true
    · exact ⟨0, c, rfl, hc⟩
    · have : lives (c :: L) = lives L := by simp only [lives, List.filter_cons]; rw [if_neg hc]
      rw [this] at h
      obtain ⟨i, d, h1, h2⟩ := lives_some h
      exact ⟨i + 1, d, h1, h2⟩
theorem Ents.dead {N : Nat} {S : Heap} {L : List (List AVal)} {rows : List (List Ex)} (h : Ents N S L rows) (hl : lives L = 0) : L = rwsC rows := by
  refine List.ext_getElem? fun i => ?_
  rw [rwsC, List.getElem?_map]
  rcases Nat.lt_or_ge i L.length with hi | hi
  · have hi2 : i < rows.length := by rw [← h.1]; exact hi
    rw [List.getElem?_eq_getElem hi, List.getElem?_eq_getElem hi2]
    rcases h.2 i _ _ (List.getElem?_eq_getElem hi) (List.getElem?_eq_getElem hi2) with h1 | ⟨id, off, n, es0, cap, h1, _⟩
    · rw [h1]; rfl
    · exfalso
      have hm : L[i] ∈ L.filter isLv := List.mem_filter.2 ⟨List.getElem_mem hi, by rw [h1]; rfl⟩
      have : L.filter isLv = [] := List.eq_nil_of_length_eq_zero hl
      rw [this] at hm
      cases hm
  · rw [List.getElem?_eq_none hi, List.getElem?_eq_none (by rw [← h.1]; exact hi)]; rfl

/-- INSERT's answer, at most k of its rows not frozen yet. -/
def R52 (S : Heap) (pid : Nat) (ts : List Tok) (r : ResS Stm) (k : Nat) (e : AEnd) (S' : Heap) : Prop :=
  ∃ (c : List AVal), e = .ret (.agg c) ∧ c.length = 18 ∧ c.all AVal.one = true ∧ Kpt pid S S' ∧ SAt S' pid ts (stq r) ∧ ∀ st s, r = .ok (st, s) → ∃ (v : AVal) (L : List (List AVal)),
    st = { kind := 5, table := st.table, rows := st.rows } ∧ c = [.int 5, .str st.table, .str [], .nilS, .nilS, .bool false, v, .nilS, .nilS, .int 0, .nilS, .int 0, .int 0, .int 0, .str [], .str [], .nilS, .nilS] ∧ Ap S.length 1 S' v L ∧ Ents S.length S' L st.rows ∧ lives L ≤ k
theorem R52.w {S : Heap} {pid : Nat} {ts : List Tok} {r : ResS Stm} {e : AEnd} {S' : Heap} (h : R52 S pid ts r 0 e S') : SQw S pid ts r e S' := by
  obtain ⟨c, h1, h2, h3, h4, h5, h6⟩ := h
  refine ⟨c, h1, h2, h3, h4, h5, fun st s e => ?_⟩
  obtain ⟨v, L, g1, g2, g3, g4, g5⟩ := h6 st s e
  have g6 := g4.dead (by omega)
  rw [g6] at g3
  rw [g2]
  refine ⟨.nilS, .nilS, v, .nilS, .nilS, .nilS, .nilS, ?_, ?_, ?_, .inl g3, ?_, ?_, ?_, ?_⟩
  · rw [g1, exC_zero]; rfl
  all_goals (rw [g1]; exact .nil _ _ _)
theorem scLL_map_exC (n : Nat) : ∀ xs : List Ex, scLL n (xs.map exC) = true
  | [] => rfl
  | x :: r => by simp only [List.map_cons, scLL, Bool.and_eq_true]; exact ⟨exC_sc n x, scLL_map_exC n r⟩
set_option maxHeartbeats 2000000 in
theorem R52.step {P : Program} {β : Base} {f : FuncId} {args : List AVal} {S : Heap} {pid : Nat} {ts : List Tok} {r : ResS Stm} {k : Nat} (hl : pid < S.length) (h : ACalls P β f args S (R52 S pid ts r (k + 1))) : ACalls P β f args S (R52 S pid ts r k) := by
  refine h.frzH ?_
  intro hscs e S' hR
  obtain ⟨c, rfl, h2, h3, h4, h5, h6⟩ := hR
  cases hr : r with
  | error cd => exact .inl ⟨c, rfl, h2, h3, h4, hr ▸ h5, fun st s e => by cases e⟩
  | ok y =>
    obtain ⟨st, s⟩ := y
    obtain ⟨v, L, g1, g2, g3, g4, g5⟩ := h6 st s hr
    by_cases hk : lives L ≤ k
    · exact .inl ⟨c, rfl, h2, h3, h4, hr ▸ h5, fun st' s' e => by cases e; exact ⟨v, L, g1, g2, g3, g4, hk⟩⟩
    · obtain ⟨i, cell, hi, hlv⟩ := lives_some (L := L) (by omega)
      have hi2 : i < st.rows.length := by rw [← g4.1]; exact (List.getElem?_eq_some_iff.1 hi).1
      obtain ⟨id, off, n, es0, cap, e1, e2, e3, e4, e5⟩ : ∃ (id off n : Nat) (es0 : List (List AVal)) (cap : Option Nat), cell = [.row id off n] ∧ S.length ≤ id ∧ S'[id]? = some (.cells 7 es0 cap) ∧ off + n ≤ es0.length ∧ (es0.drop off).take n = exlC st.rows[i] := by
        rcases g4.2 i cell _ hi (List.getElem?_eq_getElem hi2) with hd | hd
        · rw [hd] at hlv; cases hlv
        · exact hd
      refine .inr ⟨id, 7, es0, cap, e3, ?_⟩
      have hmap : ∀ j o, j ≠ id → S'[j]? = some o → ((S'.set id .dead).map (AObj.fz id es0))[j]? = some (o.fz id es0) := fun j o hj ho => by
        rw [List.getElem?_map, List.getElem?_set_ne (Ne.symm hj), ho]; rfl
      have hexl : ∀ xs : List Ex, (exlC xs).map (fzL id es0) = exlC xs := fun xs => by
        rw [exlC, List.map_map]
        refine List.map_congr_left fun x _ => ?_
        exact fzL_sc (n := id) (Nat.le_refl _) _ (exC_sc id x)
      obtain ⟨H, hH⟩ : ∃ H, H = (S'.set id .dead).map (AObj.fz id es0) := ⟨_, rfl⟩
      rw [← hH] at hmap ⊢
      have hHl : H.length = S'.length := by rw [hH]; simp
      have hpid : H[pid]? = S'[pid]? := by
        obtain ⟨o, ho, hsc⟩ := h5.get
        rw [hmap pid o (by omega) ho, AObj.fz_sc (n := id) (Nat.le_refl _) (hsc id), ho]
      obtain ⟨oid, o1, l1, es1, cap1, rfl, d1, d2, d3, d4⟩ : ∃ (oid o1 l1 : Nat) (es1 : List (List AVal)) (cap1 : Option Nat), v = .row oid o1 l1 ∧ S.length ≤ oid ∧ S'[oid]? = some (.cells 1 es1 cap1) ∧ o1 + l1 ≤ es1.length ∧ (es1.drop o1).take l1 = L := by
        generalize hL : L = Z at g3
        cases g3 with
        | none fl hf => rw [hL] at hi; simp at hi
        | row id off len es0 cap hN hS hle => exact ⟨_, _, _, _, _, rfl, hN, hS, hle, rfl⟩
      have hne : oid ≠ id := fun e => by rw [e, e3] at d2; cases d2
      have hc : fzL id es0 c = c := by
        rw [g2]
        simp only [fzL, AVal.fz]
        rw [if_neg (fun h => hne h.1)]
      refine ⟨c, by simp only [AEnd.fz, AVal.fz]; rw [hc], h2, h3, ⟨by have := h4.1; omega, fun j hj j1 => ?_⟩, h5.same hpid |> fun h => hr ▸ h, fun st' s' e => ?_⟩
      · have e8 := h4.2 j hj j1
        have hget : S[j]? = some S[j] := List.getElem?_eq_getElem hj
        rw [hmap j S[j] (by omega) (e8.trans hget), AObj.fz_sc (n := S.length) e2 (hscs _ (List.getElem_mem hj)), hget]
      · cases e
        refine ⟨.row oid o1 l1, L.map (fzL id es0), g1, g2, ?_, ⟨by simp [g4.1], fun i' cell' xs hc' hx' => ?_⟩, ?_⟩
        · have := Ap.row (N := S.length) (k := 1) (S := H) oid o1 l1 (es1.map (fzL id es0)) cap1 d1 (hmap oid _ hne d2) (by simpa using d3)
          rw [← List.map_drop, ← List.map_take, d4] at this
          exact this
        · rw [List.getElem?_map] at hc'
          cases hL : L[i']? with
          | none => rw [hL] at hc'; cases hc'
          | some cell0 =>
            rw [hL] at hc'
            simp only [Option.map_some, Option.some.injEq] at hc'
            subst hc'
            rcases g4.2 i' cell0 xs hL hx' with hd | ⟨id', off', n', es', cap', f1, f2, f3, f4, f5⟩
            · left
              rw [hd]
              exact fzL_sc (n := id) (Nat.le_refl _) _ (by simp only [scL, AVal.sc, Bool.and_true]; rw [exlC]; exact scLL_map_exC id xs)
            · rw [f1]
              by_cases hid : id' = id
              · subst hid
                rw [e3] at f3
                simp only [Option.some.injEq, AObj.cells.injEq] at f3
                obtain ⟨_, rfl, _⟩ := f3
                left
                simp only [fzL, AVal.fz]
                rw [if_pos ⟨trivial, f4⟩, f5]
              · right
                refine ⟨id', off', n', es'.map (fzL id es0), cap', ?_, f2, hmap id' _ hid f3, by simpa using f4, ?_⟩
                · simp only [fzL, AVal.fz]
                  rw [if_neg (fun h => hid h.1)]
                · rw [← List.map_drop, ← List.map_take, f5, hexl]
        · have hno : ∀ c ∈ L, isLv (fzL id es0 c) = true → isLv c = true := fun c0 hc0 hlv0 => by
            obtain ⟨i', hi', rfl⟩ := List.getElem_of_mem hc0
            have hi2' : i' < st.rows.length := by rw [← g4.1]; exact hi'
            rcases g4.2 i' _ _ (List.getElem?_eq_getElem hi') (List.getElem?_eq_getElem hi2') with hd | ⟨id', off', n', es', cap', f1, _⟩
            · rw [hd] at hlv0; simp [fzL, AVal.fz, isLv] at hlv0
            · rw [f1]; rfl
          have := lives_lt L hno ⟨cell, List.mem_of_getElem? hi, hlv, by rw [e1]; simp only [fzL, AVal.fz]; rw [if_pos ⟨trivial, e4⟩]; rfl⟩
          omega
theorem R52.all {P : Program} {β : Base} {f : FuncId} {args : List AVal} {S : Heap} {pid : Nat} {ts : List Tok} {r : ResS Stm} (hl : pid < S.length) : ∀ k, ACalls P β f args S (R52 S pid ts r k) → ACalls P β f args S (SQw S pid ts r)
  | 0, h => h.mono fun _ _ h => h.w
  | k + 1, h => R52.all hl k (R52.step hl h)
end Go.Abs
set_option linter.unusedSimpArgs false
set_option linter.unusedVariables false
namespace Go.Abs
open Go Go.RowKit Go.Proofs Go.Lx Go.Pz
variable {w0 : World}

theorem RtP.mono {R R' : AEnd → Heap → Prop} (h : ∀ e S', R e S' → R' e S') {e : AExit} {a : Tmps} {S' : Heap} (hr : RtP R e a S') : RtP R' e a S' := by
  cases e <;> first | exact hr.elim | skip
  simp only [RtP, resPost] at hr ⊢
  split at hr
  · exact ⟨hr.1, h _ _ hr.2⟩
  · exact hr.elim
/-- A statement's cells are answered. -/
theorem q_fin0 {H : Heap} {k rid sid : Nat} {z c : List AVal} {a : Tmps} (hz : H[rid]? = some (.cells 18 [z] (some 1))) (hc : H[sid]? = some (.cells 18 [c] (some 1))) (hne : rid ≠ sid) (hzl : z.length = 18) (hcl : c.length = 18) (hco : c.all AVal.one = true) (b2 : get a 2 = .ptr rid 0 0) (b3 : get a 3 = .ptr sid 0 0) (hk2 : k ≠ 2) :
    mwp (ACalls Tryz.prog (B0 w0)) (.seq (.ops [⟨some k, none, .op (.load true 18 3)⟩, ⟨none, none, .op (.store true 18 2 (.slot k))⟩]) .ret) (RtP fun e S' => e = .ret (.agg c) ∧ S' = H.set rid (.cells 18 [c] (some 1))) a H := by
  have hself := setSelf (lt_of_some hz) (.cells 18 [c] (some 1))
  have hk2' : (2 : Nat) ≠ k := Ne.symm hk2
  simp [-appendR, RtP, b2, b3, hc, hz, hzl, hcl, hco, hk2, hk2', hself]
theorem insert_law {N : Nat} {s : Sta} {n : Bs} {q1 q2 q3 : QS} (h1 : q1 = mustS 1 [105, 110, 116, 111] (.ok s)) (hn : Gd (liftS (nameS resv) q1) n) (h2 : q2 = stq (liftS (nameS resv) q1)) (h3 : q3 = mustS 1 [118, 97, 108, 117, 101, 115] q2) :
    insertS resv N s = bindS (liftS (listF (rowS resv N) 50 []) q3) fun rs s => .ok ({ kind := 5, table := n, rows := rs }, s) := by
  rw [insertS, thenS_law, show needS 1 [105, 110, 116, 111] s = q1 from h1.symm ▸ rfl, liftS_bind hn, ← h2, liftS_need, ← h3]
  cases q3 <;> rfl
theorem stq_bind {α β : Type} {R : ResS α} {f : α → β} : stq (bindS R fun a s => .ok (f a, s)) = stq R := by
  cases R <;> rfl

section
variable {pid : Nat} {ts : List Tok} (hts : ts.length ≤ 4000) (hok : ∀ t ∈ ts, OkT t)
include hts hok
set_option maxHeartbeats 4000000 in
theorem q52a {S : Heap} {s : Sta} (h : SAt S pid ts (.ok s)) : ∃ k, ACalls Tryz.prog (B0 w0) 52 [.ptr pid 0 0] S (R52 S pid ts (insertS resv (ts.length + 1) s) k) := by
  refine ⟨match insertS resv (ts.length + 1) s with | .ok (st, _) => st.rows.length | .error _ => 0, ?_⟩
  have hl := h.lt
  refine fn_sound tryOrd (f52_c _) (by simp [f52]) ?_
  rw [f52, f52m, mwp_seq]
  simp [-mwp_block, -mwp_seq, -appendR]
  rw [mwp_seq]
  simp [-mwp_block, -mwp_seq, -appendR]
  refine (q51 hts (h.more _) 1 _).use ?_
  rintro e S1 ⟨hsq1, rfl, h1⟩
  obtain ⟨T1, rfl, hst1⟩ := hsq1.split hl
  have e1 := hst1.1
  have h1 := h1.less (hst1.1 ▸ hl)
  simp [-mwp_block, -mwp_seq, -appendR, e1]
  rw [mwp_seq]
  simp [-mwp_block, -mwp_seq, -appendR, e1]
  refine (q50 hts (h1.more _)).use ?_
  rintro e S2 ⟨hsq2, n, rfl, h2, hn⟩
  obtain ⟨T2, rfl, hst2⟩ := hsq2.split h1.lt
  have e2 := hst2.1
  have h2 := h2.less (hst2.1 ▸ h1.lt)
  have hst02 := hst1.trans hst2
  simp [-mwp_block, -mwp_seq, -appendR, e1, e2]
  obtain ⟨H0, hH0⟩ : ∃ H0, H0 = T2 ++ [AObj.cells 18 [z18] (some 1), .cells 18 [[.int 5, .str n, .str [], .nilS, .nilS, .bool false, .nilS, .nilS, .nilS, .int 0, .nilS, .int 0, .int 0, .int 0, .str [], .str [], .nilS, .nilS]] (some 1)] := ⟨_, rfl⟩
  rw [← hH0]
  have hps : pid ≠ T2.length + 1 := by have := h2.lt; omega
  have c0 : CJ H0 pid (T2.length + 1) [.int 5, .str n, .str [], .nilS, .nilS, .bool false, .nilS, .nilS, .nilS, .int 0, .nilS, .int 0, .int 0, .int 0, .str [], .str [], .nilS, .nilS] ts _ H0 := ⟨by rw [hH0]; exact h2.more _, by rw [hH0]; simp, Kst.refl _ _ _⟩
  rw [mwp_seq]
  simp [-mwp_block, -mwp_seq, -appendR, e1, e2]
  refine (q51 hts c0.at_ 1 _).use ?_
  rintro e S3 ⟨hst3, rfl, h3⟩
  have c3 := c0.step hps hst3 h3
  simp [-mwp_block, -mwp_seq, -appendR, e1, e2]
  rw [mwp_seq]
  have law := insert_law (N := ts.length + 1) (s := s) rfl hn rfl rfl
  generalize mustS 1 [118, 97, 108, 117, 101, 115] (stq (liftS (nameS resv) (mustS 1 [105, 110, 116, 111] (.ok s)))) = q3 at *
  have hin : ∃ m0, ∀ a' : Tmps, get a' 0 = .ptr pid 0 0 → get a' 2 = .ptr T2.length 0 0 → get a' 3 = .ptr (T2.length + 1) 0 0 → OuI S3 pid T2.length (T2.length + 1) [.int 5, .str n, .str [], .nilS, .nilS, .bool false, .nilS, .nilS, .nilS, .int 0, .nilS, .int 0, .int 0, .int 0, .str [], .str [], .nilS, .nilS] ts (liftS (listF (rowS resv (ts.length + 1)) 50 []) q3) m0 a' S3 := by
    have hlj := c3.lj 6 1 rfl rfl
    cases q3 with
    | ok s1 => exact ⟨50, fun a' d0 d2 d3 => ⟨d0, d2, d3, [], [], _, hlj, .inl ⟨s1, rfl, Ents.nil _ _, rfl, by decide, rfl⟩⟩⟩
    | error c => exact ⟨0, fun a' d0 d2 d3 => ⟨d0, d2, d3, [], [], _, hlj, .inr ⟨rfl, ⟨c, rfl⟩, rfl⟩⟩⟩
  obtain ⟨m0, hin⟩ := hin
  refine mwp_mono _ _ (fun _ _ _ _ _ hr h => h.mono hr) ?_ (q52o (w0 := w0) rfl hts hok c3.at_.lt (lt_of_some c3.st) hps (hin _ (by simp [e1, e2]) (by simp [e1, e2]) (by simp [e1, e2])))
  intro e a4 S4 hJ
  cases e <;> first | exact hJ.elim | skip
  obtain ⟨b0, b2, b3, L, hlj, hen⟩ := hJ
  obtain ⟨v, c4, ap⟩ := hlj.cj rfl c3.k2
  have st4 := c4.st
  have k4 := c4.k2
  rw [hH0] at k4
  have hz4 : S4[T2.length]? = some (.cells 18 [z18] (some 1)) := by
    rw [k4.2 T2.length (by simp) (by have := h2.lt; omega) (by omega)]
    simp
  have hS3 : T2.length + 2 ≤ S3.length := by have := c3.k2.1; rw [hH0] at this; simpa using this
  have hv1 : v.one = true := by
    generalize L = Z at ap
    cases ap with
    | none fl hf => rfl
    | row id off len es0 cap hN hS hle => rfl
  simp [-mwp_block, -mwp_seq, -appendR]
  refine mwp_mono _ _ (fun _ _ _ _ _ hr h => h.mono hr) ?_ (q_fin0 (w0 := w0) (k := 49) hz4 st4 (by omega) rfl (by simp) (by simp [hv1]) (by simp [b2]) (by simp [b3]) (by decide))
  intro e a5 S5 hR
  have hR := RtP.mono (R' := R52 S pid ts (insertS resv (ts.length + 1) s) (match insertS resv (ts.length + 1) s with | .ok (st, _) => st.rows.length | .error _ => 0)) ?_ hR
  · cases e <;> first | exact hR.elim | skip
    exact hR
  rintro e S' ⟨rfl, rfl⟩
  have hkp := q_kpt hst02 k4
  have k2 : Kst pid T2.length S4 (S4.set T2.length (.cells 18 [[.int 5, .str n, .str [], .nilS, .nilS, .bool false, v, .nilS, .nilS, .int 0, .nilS, .int 0, .int 0, .int 0, .str [], .str [], .nilS, .nilS]] (some 1))) := ⟨by simp, fun j hj j1 j2 => List.getElem?_set_ne (Ne.symm j2)⟩
  have hTS : S.length = T2.length := hst02.1
  refine ⟨_, rfl, rfl, by simp [hv1], ⟨by have := hkp.1; simpa using this, fun j hj j1 => by rw [List.getElem?_set_ne (by omega)]; exact hkp.2 j hj j1⟩, ?_, fun st s' e => ?_⟩
  · rw [law, stq_bind]
    exact c4.at_.same (List.getElem?_set_ne (by have := h2.lt; omega))
  · rw [e]
    rw [law] at e
    generalize liftS (listF (rowS resv (ts.length + 1)) 50 []) q3 = R at *
    cases R with
    | error c => cases e
    | ok y =>
      obtain ⟨rows, s2⟩ := y
      rw [bindS_ok] at e
      simp only [Except.ok.injEq, Prod.mk.injEq] at e
      obtain ⟨rfl, rfl⟩ := e
      have h8 := hen _ _ rfl
      refine ⟨v, L, rfl, rfl, (ap.kst k2 (by have := c3.at_.lt; omega) (by omega)).le (by omega), ⟨h8.1, fun i cell xs j1 j2 => ?_⟩, by have := lives_le L; rw [h8.1] at this; exact this⟩
      rcases h8.2 i cell xs j1 j2 with hd | ⟨id, off, n', es0, cap, f1, f2, f3, f4, f5⟩
      · exact .inl hd
      · exact .inr ⟨id, off, n', es0, cap, f1, by omega, by rw [List.getElem?_set_ne (by omega)]; exact f3, f4, f5⟩
theorem q52 {S : Heap} {s : Sta} (h : SAt S pid ts (.ok s)) : ACalls Tryz.prog (B0 w0) 52 [.ptr pid 0 0] S (SQw S pid ts (insertS resv (ts.length + 1) s)) := by
  obtain ⟨k, hk⟩ := q52a (w0 := w0) hts hok h
  exact R52.all h.lt k hk
end
end Go.Abs
