/- Walks of the parser: statements, Parse. Conditions: none but the lengths; definitions and lemmas. -/
import Derived.Test.YtcogkenmdbaiiaaGreatDoorMV
import Derived.Test.YtcogkenmdbaiiaaGreatDoorMF
import Derived.Test.YtcogkenmdbaiiaaGreatDoorMH
set_option linter.unusedSimpArgs false
set_option linter.unusedVariables false
namespace Go.Abs
open Go Go.RowKit Go.Proofs Go.Lx Go.Pz
variable {w0 : World}

def rwsC (rows : List (List Ex)) : List (List AVal) := rows.map fun xs => [.list .unk (exlC xs)]
@[simp] theorem rwsC_len (xs : List (List Ex)) : (rwsC xs).length = xs.length := by simp [rwsC]
theorem rwsC_snoc (xs : List (List Ex)) (x : List Ex) : rwsC (xs ++ [x]) = rwsC xs ++ [[.list .unk (exlC x)]] := by simp [rwsC]
theorem exprsS_step {N : Nat} {x : List Ex} {s : Sta} {x' : List Ex} {s' : Sta} (hl : s.l.length ≤ N) (h : exprsS resv N x s = .ok (x', s')) : x'.length = x.length + 1 ∧ s'.l.length ≤ s.l.length := by
  rw [exprsS] at h
  cases hF : whole resv N s with
  | error c => rw [hF] at h; cases h
  | ok y =>
    obtain ⟨y, s1⟩ := y
    have := whole_len hF hl
    rw [hF, bindS_ok] at h
    simp only [Except.ok.injEq, Prod.mk.injEq] at h
    obtain ⟨rfl, rfl⟩ := h
    exact ⟨by simp, by omega⟩
theorem listF_step {α : Type} {V : α → Nat} {step : α → Sta → ResS α} {N : Nat} (hs : ∀ x s x' s', s.l.length ≤ N → step x s = .ok (x', s') → V x' = V x + 1 ∧ s'.l.length ≤ s.l.length) : ∀ (f : Nat) (x : α) (s : Sta) (x' : α) (s' : Sta), s.l.length ≤ N → listF step f x s = .ok (x', s') → V x + 1 ≤ V x' ∧ s'.l.length ≤ s.l.length
  | 0, x, s, x', s', hl, h => by
    have := hs x s x' s' hl h
    omega
  | f + 1, x, s, x', s', hl, h => by
    rw [listF] at h
    cases hF : step x s with
    | error c => rw [hF] at h; cases h
    | ok y =>
      obtain ⟨y, s1⟩ := y
      have h1 := hs _ _ _ _ hl hF
      rw [hF] at h
      simp only at h
      split at h
      · split at h
        · cases h
        · have h2 := listF_step hs f y ⟨s1.l.tail, s1.d⟩ x' s' (by simp; omega) h
          simp only [List.length_tail] at h2
          omega
      · simp only [Except.ok.injEq, Prod.mk.injEq] at h
        obtain ⟨rfl, rfl⟩ := h
        omega

/-- What a row's reading comes to, the row not frozen yet. -/
def R82 (S0 : Heap) (pid sid : Nat) (c0 : List AVal) (n0 : Nat) (rows : List (List Ex)) (r : ResS (List (List Ex))) (e : AEnd) (S' : Heap) : Prop :=
  match r with
  | .ok (rows', s) => e = .ret .undef ∧ ∃ (xs : List Ex) (rid off len : Nat) (es0 : List (List AVal)) (cap : Option Nat), rows' = rows ++ [xs] ∧ n0 ≤ rid ∧ S'[rid]? = some (.cells 7 es0 cap) ∧ off + len ≤ es0.length ∧ (es0.drop off).take len = exlC xs ∧
      LI S0 pid sid c0 6 1 (rwsC rows ++ [[.row rid off len]]) s S'
  | .error c => e = .panic (trb c) ∧ Kst pid sid S0 S'

section
variable {S0 : Heap} {pid sid bp bs : Nat} (hB : Bx S0 pid sid bp bs) {c0 : List AVal} (hc0 : c0.length = 18) {s : Sta} {S : Heap}
include hB hc0
set_option maxHeartbeats 2000000 in
theorem w82a {N : Nat} {rows : List (List Ex)} (hli : LI S0 pid sid c0 6 1 (rwsC rows) s S) (hlen : rows.length ≤ 60) (hl : s.l.length < N) (hN : N ≤ 1000000) :
    ACalls Tryz.prog (B0 w0) 82 [.ptr bp 0 0, .ptr bs 0 0] S (R82 S0 pid sid c0 S.length rows (rowS resv N rows s)) := by
  obtain ⟨r, hr⟩ : ∃ r, rowS resv N rows s = r := ⟨_, rfl⟩
  rw [hr]
  rw [rowS, needS] at hr
  obtain ⟨h1, ⟨v, h2, h3⟩, h4⟩ := hli
  have g1 := hB.gp h4
  have hg1 := hmoreG (lt_of_some g1)
  refine fn_sound tryOrd (f82_c _) (by simp [f82]) ?_
  simp [-appendR, f82, f82m, hg1, g1]
  refine (w75 (h1.more _) _).use ?_
  rintro e S1 ⟨hsq1, h5⟩
  obtain ⟨T1, rfl, hst1⟩ := hsq1.split h1.lt
  have e1 := hst1.1
  have k1 := h4.trans (hst1.k2 (sid := sid))
  by_cases hT : isT 5 [40] s.l = true
  rotate_left 1
  · have hT : isT 5 [40] s.l = false := by simpa using hT
    rw [need_er hT] at h5
    rw [if_neg (by simp [hT]), thenS_error] at hr
    obtain ⟨rfl, _⟩ := h5
    simp
    subst hr
    exact And.intro rfl (k1.more _)
  rw [need_ok hT] at h5
  rw [if_pos hT, thenS_ok] at hr
  obtain ⟨rfl, h5⟩ := h5
  have h5 := h5.less (hst1.1 ▸ h1.lt)
  have hlt1 := isT_len hT
  have g3 := hB.gp k1
  have hg3 := hmoreG (lt_of_some g3)
  obtain ⟨T, hTe⟩ : ∃ T, T = T1 ++ [AObj.cells 1 [[AVal.nilS]] (some 1)] := ⟨_, rfl⟩
  have hTl : T.length = T1.length + 1 := by rw [hTe]; simp
  have hpT : pid < T.length := by have := h5.lt; omega
  have hb2 : T[T1.length]? = some (.cells 1 [[.nilS]] (some 1)) := by rw [hTe]; simp
  have hpb : pid ≠ T1.length := by have := h5.lt; omega
  have gT : T[bp]? = some (.cells 1 [[.ptr pid 0 0]] (some 1)) := by rw [hTe, hg3]; exact g3
  have hbpb : bp ≠ T1.length := by have := lt_of_some g3; omega
  have li0 : LI T pid T1.length [.nilS] 0 7 (exlC []) ⟨s.l.tail, s.d⟩ T :=
    ⟨by rw [hTe]; exact h5.more _, ⟨.nilS, hb2, by
      have := (Own.start T).add0 7 .nil (.inl rfl)
      exact this⟩, Kst.refl _ _ _⟩
  simp [-appendR, hg3, g3, e1]
  rw [← hTe]
  refine (w76 (step := exprsS resv N) (V := exlC) (n := s.l.length - 1) (most := 50) (o1 := []) hpT hpb (by decide) (fun x s2 S2 hli hlen hl2 => w83 (N := N) hpT (by omega) hpb gT hB.b1 hbpb hli (by simp at hlen; omega) (by omega) hN)
    (fun x s2 x' s2' hl3 h => ?_) (x := []) (s := ⟨s.l.tail, s.d⟩) li0 rfl (by simp) (by decide)).use ?_
  · have := exprsS_step (N := N) (by omega) h
    simpa using this
  rintro e S3 h6
  have kT : Kst pid sid S0 T := by rw [hTe]; exact k1.more _
  have hS0T1 : S0.length ≤ T1.length := k1.1
  cases hF : listF (exprsS resv N) 50 [] ⟨s.l.tail, s.d⟩ with
  | error c =>
    rw [hF] at h6 hr
    obtain ⟨rfl, k⟩ := h6
    simp
    subst hr
    exact And.intro rfl (kT.inner k hS0T1)
  | ok y =>
    obtain ⟨xs, s2⟩ := y
    have hst := listF_step (V := List.length) (N := N) (fun x s x' s' h h' => exprsS_step h h') 50 [] ⟨s.l.tail, s.d⟩ xs s2 (by simp only; omega) hF
    rw [hF] at h6 hr
    rw [bindS_ok, needS] at hr
    obtain ⟨rfl, b1, ⟨v1, b2, b3⟩, b4⟩ := h6
    have b2 : S3[T1.length]? = some (.cells 1 [[v1]] (some 1)) := b2
    have k3 := kT.inner b4 hS0T1
    have g5 := hB.gp k3
    simp [-appendR, g5]
    refine (w75 b1 _).use ?_
    rintro e S4 ⟨hst4, h7⟩
    have k4 := k3.trans (hst4.k2 (sid := sid))
    by_cases hC : isT 5 [41] s2.l = true
    rotate_left 1
    · have hC : isT 5 [41] s2.l = false := by simpa using hC
      rw [need_er hC] at h7
      rw [if_neg (by simp [hC]), thenS_error] at hr
      obtain ⟨rfl, _⟩ := h7
      simp
      subst hr
      exact And.intro rfl k4
    rw [need_ok hC] at h7
    rw [if_pos hC, thenS_ok] at hr
    obtain ⟨rfl, h7⟩ := h7
    have g6 := hB.gs k4
    have c2 := (hst4.2 T1.length (Ne.symm hpb)).trans b2
    have hsT1 : sid < T1.length := by have := hB.hs; omega
    have c3 : S4[sid]? = some (.cells c0.length [c0.set 6 v] (some 1)) := by
      rw [hst4.2 sid (Ne.symm hB.ps), b4.2 sid (by omega) (Ne.symm hB.ps) (by omega), hTe, List.getElem?_append_left hsT1, hst1.2 sid (Ne.symm hB.ps)]
      exact h2
    have hkeep : ∀ j, S0.length ≤ j → j < S.length → S4[j]? = S[j]? := fun j hj hj2 => by
      have hp0 := hB.hp
      rw [hst4.2 j (by omega), b4.2 j (by omega) (by omega) (by omega), hTe, List.getElem?_append_left (by omega), hst1.2 j (by omega)]
    have ho4 := h3.keep (S' := S4) (by have := b4.1; have := hst4.1; omega) hkeep
    obtain ⟨rid, off, len, rfl⟩ : ∃ rid off len, v1 = .row rid off len := by
      have hap := b3.ap 0 _ _ _ rfl
      generalize hZ : exlC xs = Z at hap
      cases hap with
      | none fl hf =>
        have : xs.length = 0 := by rw [← exlC_len xs, hZ]; rfl
        simp at hst
        omega
      | row id off len es0 cap hN hS hle => exact ⟨id, off, len, rfl⟩
    have hap := (b3.step hst4 hpT).ap 0 _ _ _ rfl
    obtain ⟨es0, cap, d1, d2, d3, d4⟩ : ∃ es0 cap, T.length ≤ rid ∧ S4[rid]? = some (.cells 7 es0 cap) ∧ off + len ≤ es0.length ∧ (es0.drop off).take len = exlC xs := by
      generalize hZ : exlC xs = Z at hap
      cases hap with
      | row _ _ _ es0 cap hN hS hle => exact ⟨es0, cap, hN, hS, hle, rfl⟩
    obtain ⟨S5, a1, a2, a3, a4, a5, a6⟩ := LI.app2 (bytes := 24) (s := ⟨s2.l.tail, s2.d⟩) hB.hp hB.hs hB.ps h7 c3 ho4 k4 (x := [.row rid off len]) rfl (by decide) (by decide) (by simp; omega) (y := .list .full [[.row rid off len]]) rfl
    rw [hc0] at a3 a5
    have g7 := (a2 bs (lt_of_some hB.xs)).trans g6
    have d5 : S5[rid]? = some (.cells 7 es0 cap) := (a6 rid (lt_of_some d2) fun o l e => by
      subst e
      have := (h3.idlt (i := 0) rfl).2
      omega).trans d2
    rw [rwsC_len] at a1 a5
    simp [-appendR, g6, c3, c2, hc0, a1, g7, a3]
    subst hr
    refine And.intro rfl ⟨xs, rid, off, len, es0, cap, rfl, by omega, ?_, d3, d4, a5⟩
    rw [List.getElem?_set_ne (by omega)]
    exact d5

/-- INSERT's row. -/
theorem w82 {N : Nat} {rows : List (List Ex)} (hli : LI S0 pid sid c0 6 1 (rwsC rows) s S) (hlen : rows.length ≤ 60) (hl : s.l.length < N) (hN : N ≤ 1000000) :
    ACalls Tryz.prog (B0 w0) 82 [.ptr bp 0 0, .ptr bs 0 0] S (LR S0 pid sid c0 6 1 rwsC (rowS resv N rows s)) := by
  refine (w82a hB hc0 hli hlen hl hN).frzH ?_
  intro hscs e S' hR
  cases hres : rowS resv N rows s with
  | error c => rw [hres] at hR; exact .inl hR
  | ok y =>
    obtain ⟨rows', s'⟩ := y
    rw [hres] at hR
    obtain ⟨rfl, xs, rid, off, len, es0, cap, rfl, hn0, hrid, hle, hes, h1, ⟨v', h2, h3⟩, h4⟩ := hR
    refine .inr ⟨rid, 7, es0, cap, hrid, rfl, ?_⟩
    obtain ⟨q1, ⟨v, q2, q3⟩, q4⟩ := hli
    have hp0 := hB.hp
    have hs0 := hB.hs
    have hle0 := q4.1
    have hmap : ∀ j o, j ≠ rid → S'[j]? = some o → ((S'.set rid .dead).map (AObj.fz rid es0))[j]? = some (o.fz rid es0) := fun j o hj ho => by
      rw [List.getElem?_map, List.getElem?_set_ne (Ne.symm hj), ho]; rfl
    have hlow : ∀ j o, j < S.length → S'[j]? = some o → o.sc S.length = true → ((S'.set rid .dead).map (AObj.fz rid es0))[j]? = some o := fun j o hj ho hsc => by
      rw [hmap j o (by omega) ho, AObj.fz_sc (n := S.length) hn0 hsc]
    have hap := h3.ap 0 _ _ _ rfl
    obtain ⟨id', off', len', rfl⟩ : ∃ id' off' len', v' = .row id' off' len' := by
      generalize hZ : rwsC rows ++ [[AVal.row rid off len]] = Z at hap
      cases hap with
      | none fl hf => exact absurd hZ (by simp)
      | row id off len es0 cap hN hS hle => exact ⟨id, off, len, rfl⟩
    obtain ⟨es1, cap1, d1, d2, d3, d4⟩ : ∃ es1 cap1, S0.length ≤ id' ∧ S'[id']? = some (.cells 1 es1 cap1) ∧ off' + len' ≤ es1.length ∧ (es1.drop off').take len' = rwsC rows ++ [[.row rid off len]] := by
      generalize hZ : rwsC rows ++ [[AVal.row rid off len]] = Z at hap
      cases hap with
      | row _ _ _ es0 cap hN hS hle => exact ⟨es0, cap, hN, hS, hle, rfl⟩
    have hne : id' ≠ rid := fun e => by rw [e, hrid] at d2; cases d2
    refine ⟨?_, ⟨.row id' off' len', ?_, ?_⟩, ?_⟩
    · obtain ⟨o, ho, hpo⟩ := h1
      exact ⟨o, hlow pid o (by omega) ho (hpo.sc _), hpo⟩
    · rw [hmap sid _ (by omega) h2]
      congr 1
      simp only [AObj.fz, List.map_cons, List.map_nil]
      congr 2
      have hsc := hscs _ (List.mem_of_getElem? q2)
      simp only [AObj.sc, scLL, Bool.and_true] at hsc
      have hfz := fzL_sc (id := rid) (es := es0) hn0 _ hsc
      have e6 : c0.set 6 (AVal.row id' off' len') = (c0.set 6 v).set 6 (.row id' off' len') := by rw [List.set_set]
      rw [e6, fzL_eq, List.map_set, ← fzL_eq, hfz]
      congr 1
      simp only [AVal.fz]
      rw [if_neg (fun h => hne h.1)]
    · refine ⟨by simp; have := h4.1; omega, fun _ _ => rfl, fun i u k es hi => ?_, fun i j id o l o' l' k es k' es' hi hj => ?_⟩
      · cases i with
        | zero =>
          simp only [List.getElem?_cons_zero, Option.some.injEq, Prod.mk.injEq] at hi
          obtain ⟨rfl, rfl, rfl⟩ := hi
          have := Ap.row (N := S0.length) (k := 1) (S := (S'.set rid .dead).map (AObj.fz rid es0)) id' off' len' (es1.map (fzL rid es0)) cap1 d1 (hmap id' _ hne d2) (by simpa using d3)
          rw [← List.map_drop, ← List.map_take, d4] at this
          have e7 : (rwsC rows ++ [[AVal.row rid off len]]).map (fzL rid es0) = rwsC (rows ++ [xs]) := by
            rw [rwsC_snoc, List.map_append]
            congr 1
            · simp [rwsC]
            · simp [hle, hes]
          rwa [e7] at this
        | succ i => simp at hi
      · cases i <;> cases j <;> first | rfl | (simp at hi; done) | (simp at hj; done)
    · refine ⟨by simp; have := h4.1; omega, fun j hj j1 j2 => ?_⟩
      have e8 := h4.2 j hj j1 j2
      have e9 := q4.2 j hj j1 j2
      have hjS : j < S.length := by omega
      have hget : S[j]? = some S[j] := List.getElem?_eq_getElem hjS
      have hS' : S'[j]? = some S[j] := by rw [e8, ← e9, hget]
      rw [hlow j _ hjS hS' (hscs _ (List.getElem_mem hjS)), ← e9, hget]
end
end Go.Abs
set_option linter.unusedSimpArgs false
set_option linter.unusedVariables false
namespace Go.Abs
open Go Go.RowKit Go.Proofs Go.Lx Go.Pz
variable {w0 : World}

structure CI (S1 : Heap) (pid sid : Nat) (c : List AVal) (s : Sta) (S : Heap) : Prop where
  at_ : At S pid s.l 0 s.d
  st : S[sid]? = some (.cells 18 [c] (some 1))
  k2 : Kst pid sid S1 S
theorem setNe {S : Heap} {i j : Nat} (h : i ≠ j) (o : AObj) : (S.set i o)[j]? = S[j]? := List.getElem?_set_ne h
theorem setSelf {S : Heap} {i : Nat} (h : i < S.length) (o : AObj) : (S.set i o)[i]? = some o := List.getElem?_set_self h
section
variable {S1 : Heap} {pid sid : Nat} {c : List AVal} {s : Sta} {S : Heap}
theorem CI.step (h : CI S1 pid sid c s S) (hps : pid ≠ sid) {S' : Heap} (hst : Step pid S S') {s' : Sta} (ha : At S' pid s'.l 0 s'.d) : CI S1 pid sid c s' S' :=
  ⟨ha, (hst.2 sid (Ne.symm hps)).trans h.st, h.k2.trans hst.k2⟩
theorem CI.set (h : CI S1 pid sid c s S) (hps : pid ≠ sid) (c' : List AVal) : CI S1 pid sid c' s (S.set sid (.cells 18 [c'] (some 1))) := by
  obtain ⟨⟨o, ho, hpo⟩, h2, h3⟩ := h
  exact ⟨⟨o, by rw [List.getElem?_set_ne (Ne.symm hps)]; exact ho, hpo⟩, List.getElem?_set_self (lt_of_some h2), ⟨by simpa using h3.1, fun j hj j1 j2 => by rw [List.getElem?_set_ne (Ne.symm j2)]; exact h3.2 j hj j1 j2⟩⟩
theorem CI.li (h : CI S1 pid sid c s S) (f k : Nat) (hc : c.length = 18) (hf : c.set f .nilS = c) : LI S pid sid c f k [] s S :=
  ⟨h.at_, ⟨.nilS, by rw [hf, hc]; exact h.st, by
    have := (Own.start S).add0 k .nil (.inl rfl)
    exact this⟩, Kst.refl _ _ _⟩
theorem LI.ci {S0 : Heap} {f k : Nat} {es : List (List AVal)} (hc : c.length = 18) (h1 : Kst pid sid S1 S0) (h : LI S0 pid sid c f k es s S) : ∃ v, CI S1 pid sid (c.set f v) s S ∧ Ap S0.length k S v es := by
  obtain ⟨a, ⟨v, b, o⟩, k⟩ := h
  rw [hc] at b
  exact ⟨v, ⟨a, b, h1.trans k⟩, o.ap 0 _ _ _ rfl⟩
end

abbrev z18 : List AVal := [.int 0, .str [], .str [], .nilS, .nilS, .bool false, .nilS, .nilS, .nilS, .int 0, .nilS, .int 0, .int 0, .int 0, .str [], .str [], .nilS, .nilS]

/-- A slice of a statement: frozen, or a row of one's own. -/
def Vk (N k : Nat) (S : Heap) (v : AVal) (es : List (List AVal)) : Prop := Ap N k S v es ∨ ∃ fl, v = .list fl es
theorem Vk.nil (N k : Nat) (S : Heap) : Vk N k S .nilS [] := .inr ⟨.nil, rfl⟩
theorem Ap.le {N N' k S v es} (h : Ap N k S v es) (hn : N' ≤ N) : Ap N' k S v es := by
  cases h with
  | none fl hf => exact .none fl hf
  | row id off len es cap hN hS hl => exact .row id off len es cap (Nat.le_trans hn hN) hS hl
theorem Ap.step {N k S v es pid} {S' : Heap} (h : Ap N k S v es) (hst : Step pid S S') (hp : pid < N) : Ap N k S' v es := by
  cases h with
  | none fl hf => exact .none fl hf
  | row id off len es cap hN hS hl => exact .row id off len es cap hN (by rw [hst.2 id (by omega)]; exact hS) hl
/-- The cells of a statement. -/
def SC (N : Nat) (S : Heap) (st : Stm) (c : List AVal) : Prop := ∃ vC vN vR vI vF vO vS, c = [.int st.kind, .str st.table, .str st.index, vC, vN, .bool st.uniq, vR, vI, vF] ++ exC st.wher ++ [vO, vS] ∧
  Vk N 3 S vC (pcolsC st.cols) ∧ Vk N 1 S vN (namesC st.names) ∧ Vk N 1 S vR (rwsC st.rows) ∧ Vk N 8 S vI (itmsC st.items) ∧ Vk N 9 S vF (srcsC st.src) ∧ Vk N 8 S vO (srtsC st.order) ∧ Vk N 8 S vS (asnsC st.sets)

/-- What a statement's reading comes to. -/
def CrR (S : Heap) (pid sid : Nat) (r : ResS Stm) (e : AEnd) (S' : Heap) : Prop :=
  match r with
  | .ok (st, s) => e = .ret .undef ∧ ∃ c, CI S pid sid c s S' ∧ SC S.length S' st c
  | .error c => e = .panic (trb c) ∧ Kst pid sid S S'

theorem exC_zero : exC .zero = [.int 0, .nilS, .int 0, .int 0, .int 0, .str [], .str []] := by rw [Ex.zero, exC_eq, exsV_nil]
theorem nameS_len {s s' : Sta} {n : Bs} (h : nameS resv s = .ok (n, s')) : s'.l.length < s.l.length := by
  rw [nameS] at h
  cases hF : nameR resv s.l with
  | error c => rw [hF] at h; cases h
  | ok y =>
    obtain ⟨y, l⟩ := y
    have := nameR_len hF
    rw [hF] at h
    simp only [Except.ok.injEq, Prod.mk.injEq] at h
    obtain ⟨-, rfl⟩ := h
    simp only; omega
theorem colS_step {x : List Pz.Col} {s : Sta} {x' : List Pz.Col} {s' : Sta} (h : (bindS (columnS resv s) fun c s => .ok (x ++ [c], s)) = .ok (x', s')) : (pcolsC x').length = (pcolsC x).length + 1 ∧ s'.l.length ≤ s.l.length := by
  cases hF : columnS resv s with
  | error c => rw [hF] at h; cases h
  | ok y =>
    obtain ⟨y, s1⟩ := y
    rw [hF, bindS_ok] at h
    simp only [Except.ok.injEq, Prod.mk.injEq] at h
    obtain ⟨rfl, rfl⟩ := h
    refine ⟨by simp, ?_⟩
    rw [columnS] at hF
    cases hN : nameS resv s with
    | error c => rw [hN] at hF; cases hF
    | ok z =>
      obtain ⟨n, s2⟩ := z
      have h1 := nameS_len hN
      rw [hN, bindS_ok] at hF
      have ht : ∀ t s3, typeS s2 = .ok (t, s3) → s3.l.length < s2.l.length := fun t s3 h => by
        rw [typeS] at h
        split at h
        · rename_i hh; simp only [Except.ok.injEq, Prod.mk.injEq] at h; obtain ⟨-, rfl⟩ := h; have := isT_len hh; simp only; omega
        split at h
        · rename_i hh; simp only [Except.ok.injEq, Prod.mk.injEq] at h; obtain ⟨-, rfl⟩ := h; have := isT_len hh; simp only; omega
        split at h
        · rename_i hh; simp only [Except.ok.injEq, Prod.mk.injEq] at h; obtain ⟨-, rfl⟩ := h; have := isT_len hh; simp only; omega
        split at h
        · rename_i hh; simp only [Except.ok.injEq, Prod.mk.injEq] at h; obtain ⟨-, rfl⟩ := h; have := isT_len hh; simp only; omega
        · cases h
      cases hT : typeS s2 with
      | error c => rw [hT] at hF; cases hF
      | ok z2 =>
        obtain ⟨t, s3⟩ := z2
        have h2 := ht t s3 hT
        rw [hT, bindS_ok] at hF
        split at hF
        · rw [needS] at hF
          split at hF
          · simp only [thenS_ok, Except.ok.injEq, Prod.mk.injEq] at hF
            obtain ⟨-, rfl⟩ := hF
            simp; omega
          · cases hF
        · simp only [Except.ok.injEq, Prod.mk.injEq] at hF
          obtain ⟨-, rfl⟩ := hF
          omega
theorem nmS_step {x : List Bs} {s : Sta} {x' : List Bs} {s' : Sta} (h : (bindS (nameS resv s) fun c s => .ok (x ++ [c], s)) = .ok (x', s')) : (namesC x').length = (namesC x).length + 1 ∧ s'.l.length ≤ s.l.length := by
  cases hF : nameS resv s with
  | error c => rw [hF] at h; cases h
  | ok y =>
    obtain ⟨y, s1⟩ := y
    have h1 := nameS_len hF
    rw [hF, bindS_ok] at h
    simp only [Except.ok.injEq, Prod.mk.injEq] at h
    obtain ⟨rfl, rfl⟩ := h
    exact ⟨by simp, by omega⟩

set_option maxHeartbeats 4000000 in
/-- CREATE. -/
theorem w41 {S : Heap} {pid sid : Nat} {s : Sta} (hps : pid ≠ sid) (h0 : CI S pid sid z18 s S) : ACalls Tryz.prog (B0 w0) 41 [.ptr pid 0 0, .ptr sid 0 0] S (CrR S pid sid (createS resv s)) := by
  obtain ⟨r, hr⟩ : ∃ r, createS resv s = r := ⟨_, rfl⟩
  rw [hr]
  rw [createS] at hr
  have hpl := h0.at_.lt
  have hsl := lt_of_some h0.st
  obtain ⟨S1, hS1⟩ : ∃ S1, S1 = S ++ [AObj.cells 1 [[.ptr pid 0 0]] (some 1), .cells 1 [[.ptr sid 0 0]] (some 1)] := ⟨_, rfl⟩
  have hl1 : S1.length = S.length + 2 := by rw [hS1]; simp
  have hB : Bx S1 pid sid S.length (S.length + 1) := ⟨by omega, by omega, hps, by rw [hS1]; simp, by rw [hS1, List.getElem?_append_right (by omega)]; simp, by omega, by omega, by omega, by omega⟩
  have hk1 : Kst pid sid S S1 := by rw [hS1]; exact (Kst.refl _ _ _).more _
  have h1 : CI S pid sid z18 s S1 := ⟨by rw [hS1]; exact h0.at_.more _, by rw [hS1, List.getElem?_append_left hsl]; exact h0.st, hk1⟩
  have hc1 : CI S1 pid sid z18 s S1 := ⟨h1.at_, h1.st, Kst.refl _ _ _⟩
  refine fn_sound tryOrd (f41_c _) (by simp [f41]) ?_
  have gp0 := hB.xp
  have gs0 := hB.xs
  rw [hS1] at gp0 gs0
  simp [-appendR, f41, f41m]
  rw [← hS1] at gp0 gs0 ⊢
  refine (w42 hc1.at_ _).use ?_
  rintro e S2 ⟨hst2, rfl, h2⟩
  by_cases hT : isT 1 [116, 97, 98, 108, 101] s.l = true
  · rw [if_pos hT, nameS] at hr
    rw [hT] at h2
    simp only [if_true] at h2
    have c2 := hc1.step hps hst2 (s' := ⟨s.l.tail, s.d⟩) h2
    have gp2 := hB.gp c2.k2
    have gs2 := hB.gs c2.k2
    simp [-appendR, hT, gp2, gs2]
    refine (w43 c2.at_).use ?_
    rintro e S3 ⟨hst3, h3⟩
    simp only at hr h3
    cases hN : nameR resv s.l.tail with
    | error c =>
      rw [hN] at hr h3
      obtain ⟨rfl, _⟩ := h3
      simp
      subst hr
      exact And.intro rfl (hk1.trans (c2.k2.trans hst3.k2))
    | ok y =>
      obtain ⟨n, l3⟩ := y
      rw [hN] at hr h3
      simp only [bindS_ok] at hr
      obtain ⟨rfl, h3⟩ := h3
      have c3 := c2.step hps hst3 (s' := ⟨l3, s.d⟩) h3
      have gp3 := hB.gp c3.k2
      have gs3 := hB.gs c3.k2
      have st3 := c3.st
      have n1 := fun o => setNe (S := S3) hB.b4.symm o
      have n2 := fun o => setNe (S := S3) hB.b2.symm o
      have n3 := fun o => setSelf (lt_of_some c3.st) o
      simp [-appendR, gp3, gs3, st3, n1, n2, n3]
      have c4 := c3.set hps [.int 1, .str n, .str [], .nilS, .nilS, .bool false, .nilS, .nilS, .nilS, .int 0, .nilS, .int 0, .int 0, .int 0, .str [], .str [], .nilS, .nilS]
      generalize S3.set sid (.cells 18 [[.int 1, .str n, .str [], .nilS, .nilS, .bool false, .nilS, .nilS, .nilS, .int 0, .nilS, .int 0, .int 0, .int 0, .str [], .str [], .nilS, .nilS]] (some 1)) = S4 at *
      refine (w75 c4.at_ _).use ?_
      rintro e S5 ⟨hst5, h5⟩
      rw [needS] at hr
      simp only at hr h5
      by_cases hP : isT 5 [40] l3 = true
      rotate_left 1
      · have hP : isT 5 [40] l3 = false := by simpa using hP
        rw [need_er hP] at h5
        rw [if_neg (by simp [hP]), thenS_error] at hr
        obtain ⟨rfl, _⟩ := h5
        simp
        subst hr
        exact And.intro rfl (hk1.trans (c4.k2.trans hst5.k2))
      rw [need_ok hP] at h5
      rw [if_pos hP, thenS_ok] at hr
      obtain ⟨rfl, h5⟩ := h5
      have c5 := c4.step hps hst5 (s' := ⟨l3.tail, s.d⟩) h5
      have gp5 := hB.gp c5.k2
      have gs5 := hB.gs c5.k2
      have hB5 : Bx S5 pid sid S.length (S.length + 1) := ⟨c5.at_.lt, lt_of_some c5.st, hps, gp5, gs5, hB.b1, hB.b2, hB.b3, hB.b4⟩
      simp [-appendR, gp5, gs5]
      refine (w76 (V := pcolsC) (step := fun cs s => bindS (columnS resv s) fun c s => .ok (cs ++ [c], s)) (n := l3.tail.length) (most := 16) (o1 := []) hB5.hp hps (by decide) (fun x s2 S2 hli hlen hl2 => w77 hB5 rfl hli (by simp at hlen; omega)) (fun x s2 x' s2' _ h => colS_step h)
        (x := []) (s := ⟨l3.tail, s.d⟩) (c5.li 3 3 rfl rfl) rfl (Nat.le_refl _) (by decide)).use ?_
      rintro e S6 h6
      cases hF : listF (fun cs s => bindS (columnS resv s) fun c s => .ok (cs ++ [c], s)) 16 [] ⟨l3.tail, s.d⟩ with
      | error c =>
        rw [hF] at hr h6
        obtain ⟨rfl, h6⟩ := h6
        simp
        subst hr
        exact And.intro rfl (hk1.trans (c5.k2.trans h6))
      | ok y2 =>
        obtain ⟨cs, s6⟩ := y2
        rw [hF] at hr h6
        rw [bindS_ok, needS] at hr
        obtain ⟨rfl, h6⟩ := h6
        obtain ⟨v, c6, ap6⟩ := h6.ci rfl c5.k2
        have gp6 := hB.gp c6.k2
        simp [-appendR, gp6]
        refine (w75 c6.at_ _).use ?_
        rintro e S7 ⟨hst7, h7⟩
        by_cases hQ : isT 5 [41] s6.l = true
        · rw [need_ok hQ] at h7
          rw [if_pos hQ, thenS_ok] at hr
          obtain ⟨rfl, h7⟩ := h7
          have c7 := c6.step hps hst7 (s' := ⟨s6.l.tail, s6.d⟩) h7
          have ap7 := (ap6.step hst7 c5.at_.lt).le (N' := S.length) (by have := hk1.1; have := c5.k2.1; omega)
          simp
          subst hr
          refine And.intro rfl ⟨_, ⟨c7.at_, c7.st, hk1.trans c7.k2⟩, v, .nilS, .nilS, .nilS, .nilS, .nilS, .nilS, ?_, .inl ap7, .nil _ _ _, .nil _ _ _, .nil _ _ _, .nil _ _ _, .nil _ _ _, .nil _ _ _⟩
          rw [exC_zero]; rfl
        · have hQ : isT 5 [41] s6.l = false := by simpa using hQ
          rw [need_er hQ] at h7
          rw [if_neg (by simp [hQ]), thenS_error] at hr
          obtain ⟨rfl, _⟩ := h7
          simp
          subst hr
          exact And.intro rfl (hk1.trans (c6.k2.trans hst7.k2))
  · have hT : isT 1 [116, 97, 98, 108, 101] s.l = false := by simpa using hT
    rw [if_neg (by simp [hT])] at hr
    rw [hT] at h2
    simp only [Bool.false_eq_true, if_false] at h2
    simp only at hr
    have c2 := hc1.step hps hst2 (s' := s) h2
    have gp2 := hB.gp c2.k2
    have gs2 := hB.gs c2.k2
    simp [-appendR, hT, gp2, gs2]
    refine (w42 c2.at_ _).use ?_
    rintro e S3 ⟨hst3, rfl, h3⟩
    have c3 := c2.step hps hst3 (s' := if isT 1 [117, 110, 105, 113, 117, 101] s.l then ⟨s.l.tail, s.d⟩ else s) (by split at h3 <;> simp_all)
    generalize hu : isT 1 [117, 110, 105, 113, 117, 101] s.l = u at *
    generalize hs3 : (if u = true then (⟨s.l.tail, s.d⟩ : Sta) else s) = s3 at *
    have gp3 := hB.gp c3.k2
    have gs3 := hB.gs c3.k2
    have st3 := c3.st
    have n1 := fun o => setNe (S := S3) hB.b4.symm o
    have n2 := fun o => setNe (S := S3) hB.b2.symm o
    have n3 := fun o => setSelf (lt_of_some c3.st) o
    simp [-appendR, gp3, gs3, st3, n1, n2, n3]
    have c4 := c3.set hps [.int 3, .str [], .str [], .nilS, .nilS, .bool u, .nilS, .nilS, .nilS, .int 0, .nilS, .int 0, .int 0, .int 0, .str [], .str [], .nilS, .nilS]
    generalize S3.set sid (.cells 18 [[.int 3, .str [], .str [], .nilS, .nilS, .bool u, .nilS, .nilS, .nilS, .int 0, .nilS, .int 0, .int 0, .int 0, .str [], .str [], .nilS, .nilS]] (some 1)) = S4 at *
    have gp4 := hB.gp c4.k2
    try simp [-appendR, gp4]
    refine (w40 c4.at_ _).use ?_
    rintro e S5 ⟨hst5, h5⟩
    rw [needS] at hr
    by_cases hI : isT 1 [105, 110, 100, 101, 120] s3.l = true
    rotate_left 1
    · have hI : isT 1 [105, 110, 100, 101, 120] s3.l = false := by simpa using hI
      rw [need_er hI] at h5
      rw [if_neg (by simp [hI]), thenS_error] at hr
      obtain ⟨rfl, _⟩ := h5
      simp
      subst hr
      exact And.intro rfl (hk1.trans (c4.k2.trans hst5.k2))
    rw [need_ok hI] at h5
    rw [if_pos hI, thenS_ok, nameS] at hr
    obtain ⟨rfl, h5⟩ := h5
    have c5 := c4.step hps hst5 (s' := ⟨s3.l.tail, s3.d⟩) h5
    have gp5 := hB.gp c5.k2
    have gs5 := hB.gs c5.k2
    simp [-appendR, gp5, gs5]
    refine (w43 c5.at_).use ?_
    rintro e S6 ⟨hst6, h6⟩
    simp only at hr h6
    cases hN : nameR resv s3.l.tail with
    | error c =>
      rw [hN] at hr h6
      obtain ⟨rfl, _⟩ := h6
      simp
      subst hr
      exact And.intro rfl (hk1.trans (c5.k2.trans hst6.k2))
    | ok y =>
      obtain ⟨ix, l6⟩ := y
      rw [hN] at hr h6
      simp only [bindS_ok] at hr
      obtain ⟨rfl, h6⟩ := h6
      have c6 := c5.step hps hst6 (s' := ⟨l6, s3.d⟩) h6
      have gp6 := hB.gp c6.k2
      have gs6 := hB.gs c6.k2
      have st6 := c6.st
      simp [-appendR, gp6, gs6, st6]
      have c7 := c6.set hps [.int 3, .str [], .str ix, .nilS, .nilS, .bool u, .nilS, .nilS, .nilS, .int 0, .nilS, .int 0, .int 0, .int 0, .str [], .str [], .nilS, .nilS]
      generalize S6.set sid (.cells 18 [[.int 3, .str [], .str ix, .nilS, .nilS, .bool u, .nilS, .nilS, .nilS, .int 0, .nilS, .int 0, .int 0, .int 0, .str [], .str [], .nilS, .nilS]] (some 1)) = S7 at *
      have gp7 := hB.gp c7.k2
      try simp [-appendR, gp7]
      refine (w40 c7.at_ _).use ?_
      rintro e S8 ⟨hst8, h8⟩
      rw [needS] at hr
      simp only at hr h8
      by_cases hO : isT 1 [111, 110] l6 = true
      rotate_left 1
      · have hO : isT 1 [111, 110] l6 = false := by simpa using hO
        rw [need_er hO] at h8
        rw [if_neg (by simp [hO]), thenS_error] at hr
        obtain ⟨rfl, _⟩ := h8
        simp
        subst hr
        exact And.intro rfl (hk1.trans (c7.k2.trans hst8.k2))
      rw [need_ok hO] at h8
      rw [if_pos hO, thenS_ok, nameS] at hr
      obtain ⟨rfl, h8⟩ := h8
      have c8 := c7.step hps hst8 (s' := ⟨l6.tail, s3.d⟩) h8
      have gp8 := hB.gp c8.k2
      have gs8 := hB.gs c8.k2
      simp [-appendR, gp8, gs8]
      refine (w43 c8.at_).use ?_
      rintro e S9 ⟨hst9, h9⟩
      simp only at hr h9
      cases hN2 : nameR resv l6.tail with
      | error c =>
        rw [hN2] at hr h9
        obtain ⟨rfl, _⟩ := h9
        simp
        subst hr
        exact And.intro rfl (hk1.trans (c8.k2.trans hst9.k2))
      | ok y2 =>
        obtain ⟨tn, l9⟩ := y2
        rw [hN2] at hr h9
        simp only [bindS_ok] at hr
        obtain ⟨rfl, h9⟩ := h9
        have c9 := c8.step hps hst9 (s' := ⟨l9, s3.d⟩) h9
        have gp9 := hB.gp c9.k2
        have gs9 := hB.gs c9.k2
        have st9 := c9.st
        simp [-appendR, gp9, gs9, st9]
        have c10 := c9.set hps [.int 3, .str tn, .str ix, .nilS, .nilS, .bool u, .nilS, .nilS, .nilS, .int 0, .nilS, .int 0, .int 0, .int 0, .str [], .str [], .nilS, .nilS]
        generalize S9.set sid (.cells 18 [[.int 3, .str tn, .str ix, .nilS, .nilS, .bool u, .nilS, .nilS, .nilS, .int 0, .nilS, .int 0, .int 0, .int 0, .str [], .str [], .nilS, .nilS]] (some 1)) = T0 at *
        have gp10 := hB.gp c10.k2
        try simp [-appendR, gp10]
        refine (w75 c10.at_ _).use ?_
        rintro e T1 ⟨tst1, t1⟩
        rw [needS] at hr
        simp only at hr t1
        by_cases hP : isT 5 [40] l9 = true
        rotate_left 1
        · have hP : isT 5 [40] l9 = false := by simpa using hP
          rw [need_er hP] at t1
          rw [if_neg (by simp [hP]), thenS_error] at hr
          obtain ⟨rfl, _⟩ := t1
          simp
          subst hr
          exact And.intro rfl (hk1.trans (c10.k2.trans tst1.k2))
        rw [need_ok hP] at t1
        rw [if_pos hP, thenS_ok] at hr
        obtain ⟨rfl, t1⟩ := t1
        have c11 := c10.step hps tst1 (s' := ⟨l9.tail, s3.d⟩) t1
        have gp11 := hB.gp c11.k2
        have gs11 := hB.gs c11.k2
        have hB11 : Bx T1 pid sid S.length (S.length + 1) := ⟨c11.at_.lt, lt_of_some c11.st, hps, gp11, gs11, hB.b1, hB.b2, hB.b3, hB.b4⟩
        simp [-appendR, gp11, gs11]
        refine (w76 (V := namesC) (step := fun cs s => bindS (nameS resv s) fun c s => .ok (cs ++ [c], s)) (n := l9.tail.length) (most := 4) (o1 := []) hB11.hp hps (by decide) (fun x s2 S2 hli hlen hl2 => w79 hB11 rfl hli (by simp at hlen; omega)) (fun x s2 x' s2' _ h => nmS_step h)
          (x := []) (s := ⟨l9.tail, s3.d⟩) (c11.li 4 1 rfl rfl) rfl (Nat.le_refl _) (by decide)).use ?_
        rintro e T2 t2
        cases hF : listF (fun cs s => bindS (nameS resv s) fun c s => .ok (cs ++ [c], s)) 4 [] ⟨l9.tail, s3.d⟩ with
        | error c =>
          rw [hF] at hr t2
          obtain ⟨rfl, t2⟩ := t2
          simp
          subst hr
          exact And.intro rfl (hk1.trans (c11.k2.trans t2))
        | ok y2 =>
          obtain ⟨cs, s6⟩ := y2
          rw [hF] at hr t2
          rw [bindS_ok, needS] at hr
          obtain ⟨rfl, t2⟩ := t2
          obtain ⟨v, c12, ap12⟩ := t2.ci rfl c11.k2
          have gp12 := hB.gp c12.k2
          simp [-appendR, gp12]
          refine (w75 c12.at_ _).use ?_
          rintro e T3 ⟨tst3, t3⟩
          by_cases hQ : isT 5 [41] s6.l = true
          · rw [need_ok hQ] at t3
            rw [if_pos hQ, thenS_ok] at hr
            obtain ⟨rfl, t3⟩ := t3
            have c13 := c12.step hps tst3 (s' := ⟨s6.l.tail, s6.d⟩) t3
            have ap13 := (ap12.step tst3 c11.at_.lt).le (N' := S.length) (by have := hk1.1; have := c11.k2.1; omega)
            simp
            subst hr
            refine And.intro rfl ⟨_, ⟨c13.at_, c13.st, hk1.trans c13.k2⟩, .nilS, v, .nilS, .nilS, .nilS, .nilS, .nilS, ?_, .nil _ _ _, .inl ap13, .nil _ _ _, .nil _ _ _, .nil _ _ _, .nil _ _ _, .nil _ _ _⟩
            rw [exC_zero]; rfl
          · have hQ : isT 5 [41] s6.l = false := by simpa using hQ
            rw [need_er hQ] at t3
            rw [if_neg (by simp [hQ]), thenS_error] at hr
            obtain ⟨rfl, _⟩ := t3
            simp
            subst hr
            exact And.intro rfl (hk1.trans (c12.k2.trans tst3.k2))
end Go.Abs
set_option linter.unusedSimpArgs false
set_option linter.unusedVariables false
namespace Go.Abs
open Go Go.RowKit Go.Proofs Go.Lx Go.Pz
variable {w0 : World}

theorem rowS_step {N : Nat} {x : List (List Ex)} {s : Sta} {x' : List (List Ex)} {s' : Sta} (hl : s.l.length ≤ N) (h : rowS resv N x s = .ok (x', s')) : (rwsC x').length = (rwsC x).length + 1 ∧ s'.l.length ≤ s.l.length := by
  rw [rowS, needS] at h
  split at h
  · rename_i hh
    have h1 := isT_len hh
    rw [thenS_ok] at h
    cases hF : listF (exprsS resv N) 50 [] ⟨s.l.tail, s.d⟩ with
    | error c => rw [hF] at h; cases h
    | ok y =>
      obtain ⟨xs, s1⟩ := y
      have hst := listF_step (V := List.length) (N := N) (fun x s x' s' h h' => exprsS_step h h') 50 [] ⟨s.l.tail, s.d⟩ xs s1 (by simp only; omega) hF
      rw [hF, bindS_ok, needS] at h
      split at h
      · rename_i hh2
        have h2 := isT_len hh2
        rw [thenS_ok] at h
        simp only [Except.ok.injEq, Prod.mk.injEq] at h
        obtain ⟨rfl, rfl⟩ := h
        simp only at hst ⊢
        exact ⟨by simp, by omega⟩
      · cases h
  · cases h
theorem itemS_step {N : Nat} {x : List Itm} {s : Sta} {x' : List Itm} {s' : Sta} (hl : s.l.length ≤ N) (h : itemS resv N x s = .ok (x', s')) : (itmsC x').length = (itmsC x).length + 1 ∧ s'.l.length ≤ s.l.length := by
  rw [itemS] at h
  cases hF : whole resv N s with
  | error c => rw [hF] at h; cases h
  | ok y =>
    obtain ⟨y, s1⟩ := y
    have h1 := whole_len hF hl
    rw [hF, bindS_ok, aliasS] at h
    split at h
    · rename_i hh
      have h2 := isT_len hh
      cases hN : nameS resv ⟨s1.l.tail, s1.d⟩ with
      | error c => rw [hN] at h; cases h
      | ok z =>
        obtain ⟨n, s2⟩ := z
        have h3 := nameS_len hN
        rw [hN, bindS_ok] at h
        simp only [Except.ok.injEq, Prod.mk.injEq] at h
        obtain ⟨rfl, rfl⟩ := h
        simp only at h3
        exact ⟨by simp, by omega⟩
    · rw [bindS_ok] at h
      simp only [Except.ok.injEq, Prod.mk.injEq] at h
      obtain ⟨rfl, rfl⟩ := h
      exact ⟨by simp, by omega⟩
theorem setS_step {N : Nat} {x : List Asn} {s : Sta} {x' : List Asn} {s' : Sta} (hl : s.l.length ≤ N) (h : setS resv N x s = .ok (x', s')) : (asnsC x').length = (asnsC x).length + 1 ∧ s'.l.length ≤ s.l.length := by
  rw [setS] at h
  cases hN : nameS resv s with
  | error c => rw [hN] at h; cases h
  | ok y =>
    obtain ⟨n, s1⟩ := y
    have h1 := nameS_len hN
    rw [hN, bindS_ok, needS] at h
    split at h
    · rename_i hh
      have h2 := isT_len hh
      rw [thenS_ok] at h
      cases hF : whole resv N ⟨s1.l.tail, s1.d⟩ with
      | error c => rw [hF] at h; cases h
      | ok z =>
        obtain ⟨z, s2⟩ := z
        have h3 := whole_len hF (by simp only; omega)
        rw [hF, bindS_ok] at h
        simp only [Except.ok.injEq, Prod.mk.injEq] at h
        obtain ⟨rfl, rfl⟩ := h
        simp only at h3
        exact ⟨by simp, by omega⟩
    · cases h
theorem sortS_step {N : Nat} {x : List Srt} {s : Sta} {x' : List Srt} {s' : Sta} (hl : s.l.length ≤ N) (h : sortS resv N x s = .ok (x', s')) : (srtsC x').length = (srtsC x).length + 1 ∧ s'.l.length ≤ s.l.length := by
  rw [sortS] at h
  cases hF : whole resv N s with
  | error c => rw [hF] at h; cases h
  | ok y =>
    obtain ⟨y, s1⟩ := y
    have h1 := whole_len hF hl
    rw [hF, bindS_ok] at h
    simp only [Except.ok.injEq, Prod.mk.injEq] at h
    obtain ⟨rfl, rfl⟩ := h
    refine ⟨by simp, ?_⟩
    split
    · simp only [List.length_tail]; omega
    · omega

/-- The statement and two boxes, as a reading begins. -/
theorem CI.boxes {S : Heap} {pid sid : Nat} {s : Sta} {c : List AVal} (hps : pid ≠ sid) (h0 : CI S pid sid c s S) (S1 : Heap) (hS1 : S1 = S ++ [AObj.cells 1 [[.ptr pid 0 0]] (some 1), .cells 1 [[.ptr sid 0 0]] (some 1)]) :
    S1.length = S.length + 2 ∧ Bx S1 pid sid S.length (S.length + 1) ∧ Kst pid sid S S1 ∧ CI S1 pid sid c s S1 := by
  have hpl := h0.at_.lt
  have hsl := lt_of_some h0.st
  have hl1 : S1.length = S.length + 2 := by rw [hS1]; simp
  have hB : Bx S1 pid sid S.length (S.length + 1) := ⟨by omega, by omega, hps, by rw [hS1]; simp, by rw [hS1, List.getElem?_append_right (by omega)]; simp, by omega, by omega, by omega, by omega⟩
  exact ⟨hl1, hB, by rw [hS1]; exact (Kst.refl _ _ _).more _, by rw [hS1]; exact h0.at_.more _, by rw [hS1, List.getElem?_append_left hsl]; exact h0.st, Kst.refl _ _ _⟩
theorem Bx.re {S0 S : Heap} {pid sid bp bs : Nat} (hB : Bx S0 pid sid bp bs) (h : Kst pid sid S0 S) : Bx S pid sid bp bs :=
  ⟨Nat.lt_of_lt_of_le hB.hp h.1, Nat.lt_of_lt_of_le hB.hs h.1, hB.ps, hB.gp h, hB.gs h, hB.b1, hB.b2, hB.b3, hB.b4⟩

set_option maxHeartbeats 4000000 in
/-- INSERT. -/
theorem w44 {S : Heap} {pid sid N : Nat} {s : Sta} (hps : pid ≠ sid) (h0 : CI S pid sid z18 s S) (hl : s.l.length < N) (hN : N ≤ 1000000) : ACalls Tryz.prog (B0 w0) 44 [.ptr pid 0 0, .ptr sid 0 0] S (CrR S pid sid (insertS resv N s)) := by
  obtain ⟨r, hr⟩ : ∃ r, insertS resv N s = r := ⟨_, rfl⟩
  rw [hr]
  rw [insertS, needS] at hr
  obtain ⟨S1, hS1⟩ : ∃ S1, S1 = S ++ [AObj.cells 1 [[.ptr pid 0 0]] (some 1), .cells 1 [[.ptr sid 0 0]] (some 1)] := ⟨_, rfl⟩
  obtain ⟨hl1, hB, hk1, hc1⟩ := h0.boxes hps S1 hS1
  refine fn_sound tryOrd (f44_c _) (by simp [f44]) ?_
  have gp0 := hB.xp
  have gs0 := hB.xs
  rw [hS1] at gp0 gs0
  simp [-appendR, f44, f44m, gp0]
  rw [← hS1] at gp0 gs0 ⊢
  refine (w40 hc1.at_ _).use ?_
  rintro e S2 ⟨hst2, h2⟩
  by_cases hT : isT 1 [105, 110, 116, 111] s.l = true
  rotate_left 1
  · have hT : isT 1 [105, 110, 116, 111] s.l = false := by simpa using hT
    rw [need_er hT] at h2
    rw [if_neg (by simp [hT]), thenS_error] at hr
    obtain ⟨rfl, _⟩ := h2
    simp
    subst hr
    exact And.intro rfl (hk1.trans hst2.k2)
  have hlt := isT_len hT
  rw [need_ok hT] at h2
  rw [if_pos hT, thenS_ok, nameS] at hr
  obtain ⟨rfl, h2⟩ := h2
  have c2 := hc1.step hps hst2 (s' := ⟨s.l.tail, s.d⟩) h2
  have gp2 := hB.gp c2.k2
  have gs2 := hB.gs c2.k2
  simp [-appendR, gp2, gs2]
  refine (w43 c2.at_).use ?_
  rintro e S3 ⟨hst3, h3⟩
  simp only at hr h3
  cases hN1 : nameR resv s.l.tail with
  | error c =>
    rw [hN1] at hr h3
    obtain ⟨rfl, _⟩ := h3
    simp
    subst hr
    exact And.intro rfl (hk1.trans (c2.k2.trans hst3.k2))
  | ok y =>
    obtain ⟨n, l3⟩ := y
    have hlt3 := nameR_len hN1
    rw [hN1] at hr h3
    simp only [bindS_ok] at hr
    obtain ⟨rfl, h3⟩ := h3
    have c3 := c2.step hps hst3 (s' := ⟨l3, s.d⟩) h3
    have gp3 := hB.gp c3.k2
    have gs3 := hB.gs c3.k2
    have st3 := c3.st
    have n1 := fun o => setNe (S := S3) hB.b4.symm o
    have n2 := fun o => setNe (S := S3) hB.b2.symm o
    have n3 := fun o => setSelf (lt_of_some c3.st) o
    simp [-appendR, gp3, gs3, st3, n1, n2, n3]
    have c4 := c3.set hps [.int 5, .str n, .str [], .nilS, .nilS, .bool false, .nilS, .nilS, .nilS, .int 0, .nilS, .int 0, .int 0, .int 0, .str [], .str [], .nilS, .nilS]
    generalize S3.set sid (.cells 18 [[.int 5, .str n, .str [], .nilS, .nilS, .bool false, .nilS, .nilS, .nilS, .int 0, .nilS, .int 0, .int 0, .int 0, .str [], .str [], .nilS, .nilS]] (some 1)) = S4 at *
    have gp4 := hB.gp c4.k2
    try simp [-appendR, gp4]
    refine (w40 c4.at_ _).use ?_
    rintro e S5 ⟨hst5, h5⟩
    rw [needS] at hr
    simp only at hr h5
    by_cases hP : isT 1 [118, 97, 108, 117, 101, 115] l3 = true
    rotate_left 1
    · have hP : isT 1 [118, 97, 108, 117, 101, 115] l3 = false := by simpa using hP
      rw [need_er hP] at h5
      rw [if_neg (by simp [hP]), thenS_error] at hr
      obtain ⟨rfl, _⟩ := h5
      simp
      subst hr
      exact And.intro rfl (hk1.trans (c4.k2.trans hst5.k2))
    rw [need_ok hP] at h5
    rw [if_pos hP, thenS_ok] at hr
    obtain ⟨rfl, h5⟩ := h5
    have c5 := c4.step hps hst5 (s' := ⟨l3.tail, s.d⟩) h5
    have gp5 := hB.gp c5.k2
    have gs5 := hB.gs c5.k2
    have hB5 := hB.re c5.k2
    have hlt5 := isT_len hP
    simp [-appendR, gp5, gs5]
    refine (w76 (V := rwsC) (step := rowS resv N) (n := l3.tail.length) (most := 50) (o1 := []) hB5.hp hps (by decide) (fun x s2 S2 hli hlen hl2 => w82 hB5 rfl hli (by simp at hlen; omega) (by simp at hl2 hlt3; omega) hN) (fun x s2 x' s2' hl2 h => rowS_step (N := N) (by simp at hl2 hlt3; omega) h)
      (x := []) (s := ⟨l3.tail, s.d⟩) (c5.li 6 1 rfl rfl) rfl (Nat.le_refl _) (by decide)).use ?_
    rintro e S6 h6
    cases hF : listF (rowS resv N) 50 [] ⟨l3.tail, s.d⟩ with
    | error c =>
      rw [hF] at hr h6
      obtain ⟨rfl, h6⟩ := h6
      simp
      subst hr
      exact And.intro rfl (hk1.trans (c5.k2.trans h6))
    | ok y2 =>
      obtain ⟨cs, s6⟩ := y2
      rw [hF] at hr h6
      rw [bindS_ok] at hr
      obtain ⟨rfl, h6⟩ := h6
      obtain ⟨v, c6, ap6⟩ := h6.ci rfl c5.k2
      have ap7 := ap6.le (N' := S.length) (by have := hk1.1; have := c5.k2.1; omega)
      simp
      subst hr
      refine And.intro rfl ⟨_, ⟨c6.at_, c6.st, hk1.trans c6.k2⟩, .nilS, .nilS, v, .nilS, .nilS, .nilS, .nilS, ?_, .nil _ _ _, .nil _ _ _, .inl ap7, .nil _ _ _, .nil _ _ _, .nil _ _ _, .nil _ _ _⟩
      rw [exC_zero]; rfl

/-- WHERE, at the state of a statement. -/
def WhC (S1 : Heap) (pid sid : Nat) (c0 : List AVal) (r : ResS Ex) (e : AEnd) (S' : Heap) : Prop :=
    match r with
    | .ok (x, s) => e = .ret .undef ∧ CI S1 pid sid (c0.take 9 ++ exC x ++ c0.drop 16) s S'
    | .error c => e = .panic (trb c) ∧ Kst pid sid S1 S'
theorem WhR.ci {S1 S : Heap} {pid sid : Nat} {s : Sta} {c0 : List AVal} {r : ResS Ex} {e : AEnd} {S' : Heap} (h0 : CI S1 pid sid c0 s S) (h : WhR S pid sid c0 r e S') : WhC S1 pid sid c0 r e S' := by
  obtain ⟨h1, h2, h3⟩ := h
  have k : Kst pid sid S1 S' := h0.k2.trans ⟨Nat.le_of_eq h1, fun j _ j1 j2 => h2 j j1 j2⟩
  cases r with
  | error c => exact ⟨h3, k⟩
  | ok y =>
    obtain ⟨x, s'⟩ := y
    exact ⟨h3.1, h3.2.1, h3.2.2, k⟩
theorem WhR.ap {S : Heap} {pid sid : Nat} {c0 : List AVal} {r : ResS Ex} {e : AEnd} {S' : Heap} (h : WhR S pid sid c0 r e S') {M k : Nat} {v : AVal} {es} (ha : Ap M k S v es) (hp : pid < M) (hs : sid < M) : Ap M k S' v es := by
  cases ha with
  | none fl hf => exact .none fl hf
  | row id off len es cap hN hS hl => exact .row id off len es cap hN (by rw [h.2.1 id (by omega) (by omega)]; exact hS) hl

set_option maxHeartbeats 4000000 in
/-- UPDATE. -/
theorem w46 {S : Heap} {pid sid N : Nat} {s : Sta} (hps : pid ≠ sid) (h0 : CI S pid sid z18 s S) (hl : s.l.length < N) (hN : N ≤ 1000000) : ACalls Tryz.prog (B0 w0) 46 [.ptr pid 0 0, .ptr sid 0 0] S (CrR S pid sid (updateS resv N s)) := by
  obtain ⟨r, hr⟩ : ∃ r, updateS resv N s = r := ⟨_, rfl⟩
  rw [hr]
  rw [updateS, nameS] at hr
  obtain ⟨S1, hS1⟩ : ∃ S1, S1 = S ++ [AObj.cells 1 [[.ptr pid 0 0]] (some 1), .cells 1 [[.ptr sid 0 0]] (some 1)] := ⟨_, rfl⟩
  obtain ⟨hl1, hB, hk1, hc1⟩ := h0.boxes hps S1 hS1
  refine fn_sound tryOrd (f46_c _) (by simp [f46]) ?_
  have gp0 := hB.xp
  have gs0 := hB.xs
  rw [hS1] at gp0 gs0
  simp [-appendR, f46, f46m, gp0, gs0]
  rw [← hS1] at gp0 gs0 ⊢
  refine (w43 hc1.at_).use ?_
  rintro e S3 ⟨hst3, h3⟩
  cases hN1 : nameR resv s.l with
  | error c =>
    rw [hN1] at hr h3
    obtain ⟨rfl, _⟩ := h3
    simp
    subst hr
    exact And.intro rfl (hk1.trans hst3.k2)
  | ok y =>
    obtain ⟨n, l3⟩ := y
    have hlt3 := nameR_len hN1
    rw [hN1] at hr h3
    simp only [bindS_ok] at hr
    obtain ⟨rfl, h3⟩ := h3
    have c3 := hc1.step hps hst3 (s' := ⟨l3, s.d⟩) h3
    have gp3 := hB.gp c3.k2
    have gs3 := hB.gs c3.k2
    have st3 := c3.st
    have n1 := fun o => setNe (S := S3) hB.b4.symm o
    have n2 := fun o => setNe (S := S3) hB.b2.symm o
    have n3 := fun o => setSelf (lt_of_some c3.st) o
    simp [-appendR, gp3, gs3, st3, n1, n2, n3]
    have c4 := c3.set hps [.int 7, .str n, .str [], .nilS, .nilS, .bool false, .nilS, .nilS, .nilS, .int 0, .nilS, .int 0, .int 0, .int 0, .str [], .str [], .nilS, .nilS]
    generalize S3.set sid (.cells 18 [[.int 7, .str n, .str [], .nilS, .nilS, .bool false, .nilS, .nilS, .nilS, .int 0, .nilS, .int 0, .int 0, .int 0, .str [], .str [], .nilS, .nilS]] (some 1)) = S4 at *
    have gp4 := hB.gp c4.k2
    try simp [-appendR, gp4]
    refine (w40 c4.at_ _).use ?_
    rintro e S5 ⟨hst5, h5⟩
    rw [needS] at hr
    simp only at hr h5
    by_cases hP : isT 1 [115, 101, 116] l3 = true
    rotate_left 1
    · have hP : isT 1 [115, 101, 116] l3 = false := by simpa using hP
      rw [need_er hP] at h5
      rw [if_neg (by simp [hP]), thenS_error] at hr
      obtain ⟨rfl, _⟩ := h5
      simp
      subst hr
      exact And.intro rfl (hk1.trans (c4.k2.trans hst5.k2))
    rw [need_ok hP] at h5
    rw [if_pos hP, thenS_ok] at hr
    obtain ⟨rfl, h5⟩ := h5
    have c5 := c4.step hps hst5 (s' := ⟨l3.tail, s.d⟩) h5
    have gp5 := hB.gp c5.k2
    have gs5 := hB.gs c5.k2
    have hB5 := hB.re c5.k2
    have hlt5 := isT_len hP
    simp [-appendR, gp5, gs5]
    refine (w76 (V := asnsC) (step := setS resv N) (n := l3.tail.length) (most := 50) (o1 := []) hB5.hp hps (by decide) (fun x s2 S2 hli hlen hl2 => w89 hB5 rfl hli (by simp at hlen; omega) (by simp at hl2 hlt5; omega) hN) (fun x s2 x' s2' hl2 h => setS_step (N := N) (by simp at hl2 hlt5; omega) h)
      (x := []) (s := ⟨l3.tail, s.d⟩) (c5.li 17 8 rfl rfl) rfl (Nat.le_refl _) (by decide)).use ?_
    rintro e S6 h6
    cases hF : listF (setS resv N) 50 [] ⟨l3.tail, s.d⟩ with
    | error c =>
      rw [hF] at hr h6
      obtain ⟨rfl, h6⟩ := h6
      simp
      subst hr
      exact And.intro rfl (hk1.trans (c5.k2.trans h6))
    | ok y2 =>
      obtain ⟨cs, s6⟩ := y2
      have hl6 := (listF_step (V := fun xs => (asnsC xs).length) (N := N) (fun x s x' s' h h' => setS_step h h') 50 [] ⟨l3.tail, s.d⟩ cs s6 (by simp only [List.length_tail]; omega) hF).2
      simp only [List.length_tail] at hl6
      rw [hF] at hr h6
      rw [bindS_ok] at hr
      obtain ⟨rfl, h6⟩ := h6
      obtain ⟨v, c6, ap6⟩ := h6.ci rfl c5.k2
      have gp6 := hB.gp c6.k2
      have gs6 := hB.gs c6.k2
      simp [-appendR, gp6, gs6]
      refine (w47 (N := N) rfl (by rw [exC_zero]; rfl) hps c6.at_ c6.st (by omega) hN).use ?_
      rintro e S7 h7
      have h8 := h7.ci c6
      cases hW : whereS resv N s6 with
      | error c =>
        rw [hW] at h8 hr
        obtain ⟨rfl, h8⟩ := h8
        simp
        subst hr
        exact And.intro rfl (hk1.trans h8)
      | ok y3 =>
        obtain ⟨w, s7⟩ := y3
        rw [hW] at h8 hr
        rw [bindS_ok] at hr
        obtain ⟨rfl, c7⟩ := h8
        have ap7 := (h7.ap ap6 c5.at_.lt (lt_of_some c5.st)).le (N' := S.length) (by have := hk1.1; have := c5.k2.1; omega)
        simp
        subst hr
        refine And.intro rfl ⟨_, ⟨c7.at_, c7.st, hk1.trans c7.k2⟩, .nilS, .nilS, .nilS, .nilS, .nilS, .nilS, v, ?_, .nil _ _ _, .nil _ _ _, .nil _ _ _, .nil _ _ _, .nil _ _ _, .nil _ _ _, .inl ap7⟩
        rfl
end Go.Abs
set_option linter.unusedSimpArgs false
set_option linter.unusedVariables false
namespace Go.Abs
open Go Go.RowKit Go.Proofs Go.Lx Go.Pz
variable {w0 : World}

theorem sourceS_on {s s' : Sta} {x : Src} (h : sourceS resv s = .ok (x, s')) : x.on = .zero ∧ s'.l.length < s.l.length := by
  rw [sourceS] at h
  cases hN : nameS resv s with
  | error c => rw [hN] at h; cases h
  | ok y =>
    obtain ⟨n, s1⟩ := y
    have h1 := nameS_len hN
    rw [hN, bindS_ok, aliasS] at h
    split at h
    · rename_i hh
      have h2 := isT_len hh
      cases hN2 : nameS resv ⟨s1.l.tail, s1.d⟩ with
      | error c => rw [hN2] at h; cases h
      | ok z =>
        obtain ⟨n2, s2⟩ := z
        have h3 := nameS_len hN2
        rw [hN2, bindS_ok] at h
        simp only [Except.ok.injEq, Prod.mk.injEq] at h
        obtain ⟨rfl, rfl⟩ := h
        simp only at h3
        exact ⟨rfl, by omega⟩
    · rw [bindS_ok] at h
      simp only [Except.ok.injEq, Prod.mk.injEq] at h
      obtain ⟨rfl, rfl⟩ := h
      exact ⟨rfl, by omega⟩

def f45b1 (G : Nat → AVal) : MC := match f45b0 G with | .seq _ y => y | x => x
/-- The joins' loop. -/
def EJ (T0 : Heap) (pid sid bp bs : Nat) (c : List AVal) (N n : Nat) (r : ResS (List Src)) (m : Nat) (a : Tmps) (S' : Heap) : Prop :=
  ∃ (xs : List Src) (s : Sta) (tid : Nat), LI T0 pid sid c 8 9 (srcsC xs) s S' ∧ get a 2 = .ptr bp 0 0 ∧ get a 3 = .ptr bs 0 0 ∧ get a 4 = .ptr tid 0 0 ∧ S'[tid]? = some (.cells 4 [tokC (s.l.headD zTok)] (some 1)) ∧
    xs.length + m = 4 ∧ s.l.length ≤ n ∧ joinsS resv N m xs s = r
def JQ (T0 : Heap) (pid sid bp bs : Nat) (c : List AVal) (n : Nat) (r : ResS (List Src)) : AExit → Tmps → Heap → Prop
  | .normal, a, S' => ∃ xs s, r = .ok (xs, s) ∧ LI T0 pid sid c 8 9 (srcsC xs) s S' ∧ get a 2 = .ptr bp 0 0 ∧ get a 3 = .ptr bs 0 0 ∧ s.l.length ≤ n
  | .panic v, a, S' => ∃ cde, r = .error cde ∧ v = trb cde ∧ Kst pid sid T0 S'
  | _, _, _ => False

section
variable {T0 : Heap} {pid sid bp bs : Nat} (hB : Bx T0 pid sid bp bs) {c : List AVal} (hc : c.length = 18) {N n : Nat} (hnN : n < N) (hN : N ≤ 1000000)
include hB hc hnN hN
set_option maxHeartbeats 4000000 in
theorem w45b {G : Nat → AVal} {m : Nat} {a : Tmps} {S' : Heap} {xs : List Src} {s : Sta} {tid : Nat} {t : Tok} {r0 : List Tok} {r : ResS (List Src)} (hli : LI T0 pid sid c 8 9 (srcsC xs) s S') (b2 : get a 2 = .ptr bp 0 0) (b3 : get a 3 = .ptr bs 0 0) (b4 : get a 4 = .ptr tid 0 0)
    (b5 : S'[tid]? = some (.cells 4 [tokC t] (some 1))) (hst : s.l = t :: r0) (hm : xs.length + m = 4) (hl : s.l.length ≤ n) (hr : joinsS resv N m xs s = r) (hij : (isT 1 [105, 110, 110, 101, 114] s.l || isT 1 [106, 111, 105, 110] s.l) = true) :
    mwp (ACalls Tryz.prog (B0 w0)) (f45b1 G) (fun e a' S' => match e with | .normal => ∃ n', n' < m ∧ EJ T0 pid sid bp bs c N n r n' a' S' | e => afterK 0 e a' S' (q := ⟨JQ T0 pid sid bp bs c n r⟩)) a S' := by
  obtain ⟨h1, ⟨v, h2, h3⟩, h4⟩ := hli
  have gp := hB.gp h4
  have gs := hB.gs h4
  rw [hc] at h2
  have hv := (h3.rk 0 rfl).lenR
  rw [srcsC_len] at hv
  have htid : tid ≠ pid ∧ tid ≠ sid := by
    constructor
    · rintro rfl
      obtain ⟨o, ho, vv, _, rfl⟩ := h1
      rw [ho] at b5; cases b5
    · rintro rfl
      rw [h2] at b5; cases b5
  have htv : ∀ o l, v ≠ .row tid o l := fun o l e => by
    subst e
    have := h3.ap 0 _ _ _ rfl
    generalize hZ : srcsC xs = Z at this
    cases this with
    | row _ _ _ es0 cap hN hS hle => rw [hS] at b5; cases b5
  have htl := lt_of_some b5
  cases m with
  | zero =>
    have h4e : ((xs.length : Int) == 4) = true := beq_iff_eq.2 (by omega)
    rw [joinsS, if_pos hij] at hr
    try simp only at hr
    simp [-appendR, f45b1, f45b0, b2, b3, gs, h2, hc, hv, h4e]
    refine (w22 151 _).use ?_
    rintro e S3 ⟨rfl, rfl⟩
    simp
    exact ⟨151, hr.symm, rfl, h4⟩
  | succ m =>
    have h4e : ((xs.length : Int) == 4) = false := beq_eq_false_iff_ne.2 (by omega)
    rw [joinsS, if_pos hij] at hr
    try simp only at hr
    simp [-appendR, f45b1, f45b0, b2, b3, gs, gp, h2, hc, hv, h4e]
    refine (w42 h1 _).use ?_
    rintro e S1 ⟨hst1, rfl, h5⟩
    have k1 := h4.trans (hst1.k2 (sid := sid))
    have gp1 := hB.gp k1
    generalize hs1 : (if isT 1 [105, 110, 110, 101, 114] s.l = true then (⟨s.l.tail, s.d⟩ : Sta) else s) = s1 at *
    have hl1 : s1.l.length ≤ n := by rw [← hs1]; split <;> (try simp only [List.length_tail]) <;> omega
    have c1 : At S1 pid s1.l 0 s1.d := by
      rw [← hs1]
      by_cases hh : isT 1 [105, 110, 110, 101, 114] s.l = true
      · rw [if_pos hh] at h5 ⊢; exact h5
      · rw [if_neg hh] at h5 ⊢; exact h5
    simp [-appendR, b2, b3, gp1]
    refine (w40 c1 _).use ?_
    rintro e S2 ⟨hst2, h6⟩
    have k2 := k1.trans (hst2.k2 (sid := sid))
    have gp2 := hB.gp k2
    rw [needS] at hr
    by_cases hJ : isT 1 [106, 111, 105, 110] s1.l = true
    rotate_left 1
    · have hJ : isT 1 [106, 111, 105, 110] s1.l = false := by simpa using hJ
      rw [need_er hJ] at h6
      rw [if_neg (by simp [hJ]), thenS_error] at hr
      obtain ⟨rfl, _⟩ := h6
      simp
      exact ⟨130, hr.symm, rfl, k2⟩
    have hlt1 := isT_len hJ
    rw [need_ok hJ] at h6
    rw [if_pos hJ, thenS_ok] at hr
    obtain ⟨rfl, h6⟩ := h6
    simp [-appendR, b2, b3, gp2]
    refine (w87 (s := ⟨s1.l.tail, s1.d⟩) h6).use ?_
    rintro e S3 ⟨hst3, h7⟩
    have k3 := k2.trans (hst3.k2 (sid := sid))
    have gp3 := hB.gp k3
    cases hS : sourceS resv ⟨s1.l.tail, s1.d⟩ with
    | error cd =>
      rw [hS] at h7 hr
      obtain ⟨rfl, _⟩ := h7
      simp
      exact ⟨cd, hr.symm, rfl, k3⟩
    | ok y =>
      obtain ⟨⟨tb, al, on⟩, s3⟩ := y
      obtain ⟨hon, hl3⟩ := sourceS_on hS
      simp only [List.length_tail] at hl3 hon
      subst hon
      rw [hS] at h7 hr
      rw [bindS_ok] at hr
      obtain ⟨rfl, h7⟩ := h7
      have hb : srcC ⟨tb, al, .zero⟩ = [.str tb, .str al, .int 0, .nilS, .int 0, .int 0, .int 0, .str [], .str []] := by rw [srcC, Ex.zero, exC_eq, exsV_nil]
      have hg3 := hmoreG (lt_of_some gp3)
      simp [-appendR, b2, b3, hb, hg3, gp3]
      refine (w40 (h7.more _) _).use ?_
      rintro e S4' ⟨hsq4, h8⟩
      obtain ⟨S4, rfl, hst4⟩ := hsq4.split h7.lt
      have e4 := hst4.1
      have k4 := k3.trans (hst4.k2 (sid := sid))
      have gp4 := hB.gp k4
      have hg4 := hmoreG (lt_of_some gp4)
      rw [needS] at hr
      by_cases hO : isT 1 [111, 110] s3.l = true
      rotate_left 1
      · have hO : isT 1 [111, 110] s3.l = false := by simpa using hO
        rw [need_er hO] at h8
        rw [if_neg (by simp [hO]), thenS_error] at hr
        obtain ⟨rfl, _⟩ := h8
        simp
        exact ⟨130, hr.symm, rfl, k4.more _⟩
      have hlt3 := isT_len hO
      rw [need_ok hO] at h8
      rw [if_pos hO, thenS_ok] at hr
      obtain ⟨rfl, h8⟩ := h8
      have h8 := h8.less (hst4.1 ▸ h7.lt)
      simp [-appendR, b2, b3, hg4, gp4]
      refine (w84 (N := N) (s := ⟨s3.l.tail, s3.d⟩) (h8.more _) (by simp only [List.length_tail]; omega) hN).use ?_
      rintro e S5' ⟨hsq5, h9⟩
      obtain ⟨S5, rfl, hst5⟩ := hsq5.split h8.lt
      have e5 := hst5.1
      have k5 := k4.trans (hst5.k2 (sid := sid))
      have gp5 := hB.gp k5
      have gs5 := hB.gs k5
      have hg5 := hmoreG (lt_of_some gp5)
      have hgs5 := hmoreG (lt_of_some gs5)
      cases hW : whole resv N ⟨s3.l.tail, s3.d⟩ with
      | error cd =>
        rw [hW] at h9 hr
        obtain ⟨rfl, _⟩ := h9
        simp
        exact ⟨cd, hr.symm, rfl, k5.more _⟩
      | ok y2 =>
        obtain ⟨o, s5⟩ := y2
        have hl5 := whole_len hW (by simp only [List.length_tail]; omega)
        simp only [List.length_tail] at hl5
        rw [hW] at h9 hr
        rw [bindS_ok] at hr
        obtain ⟨rfl, h9⟩ := h9
        have h9 := h9.less (hst5.1 ▸ h8.lt)
        obtain ⟨op, vv, kind, num, scale, text, qual, hx, o1, o2⟩ := exC_shape o
        obtain ⟨g, hg⟩ : ∃ g, g = [AObj.cells 9 [[.str tb, .str al, .int op, vv, .int kind, .int num, .int scale, .str text, .str qual]] (some 1)] := ⟨_, rfl⟩
        have h25 := (hst5.2 sid (Ne.symm hB.ps)).trans ((hst4.2 sid (Ne.symm hB.ps)).trans ((hst3.2 sid (Ne.symm hB.ps)).trans ((hst2.2 sid (Ne.symm hB.ps)).trans ((hst1.2 sid (Ne.symm hB.ps)).trans h2))))
        have ht5 := (hst5.2 tid htid.1).trans ((hst4.2 tid htid.1).trans ((hst3.2 tid htid.1).trans ((hst2.2 tid htid.1).trans ((hst1.2 tid htid.1).trans b5))))
        have o5 := ((((h3.step hst1 hB.hp).step hst2 hB.hp).step hst3 hB.hp).step hst4 hB.hp).step hst5 hB.hp
        have hgi5 := hmoreG (lt_of_some h25)
        have hgt5 := hmoreG (lt_of_some ht5)
        obtain ⟨S6, a1, a2, a3, a4, a5, a6⟩ := LI.app2 (S := S5 ++ g) (bytes := 120) (s := s5) hB.hp hB.hs hB.ps (h9.more _) (by rw [hc, hgi5]; exact h25) (o5.more' _) (k5.more _) (x := srcC ⟨tb, al, o⟩) (by simp [srcC]) (by decide) (by decide) (by simp; omega) (y := .list .full [srcC ⟨tb, al, o⟩]) rfl
        rw [hc] at a3 a5
        have g8 := (a2 bs (lt_of_some hB.xs)).trans ((hgs5 g).trans gs5)
        have g9 := (a2 bp (lt_of_some hB.xp)).trans ((hg5 g).trans gp5)
        have ht6 := (a6 tid (by have := lt_of_some ht5; simp; omega) htv).trans ((hgt5 g).trans ht5)
        rw [srcsC_len] at a1 a5
        simp only [srcC, hx] at a1
        generalize hR : (S5 ++ g).length = R at *
        have hs8 : (S6.set sid (.cells 18 [c.set 8 (.row R 0 (xs.length + 1))] (some 1)))[tid]? = some (.cells 4 [tokC t] (some 1)) := by rw [List.getElem?_set_ne (Ne.symm htid.2)]; exact ht6
        have hs9 : (S6.set sid (.cells 18 [c.set 8 (.row R 0 (xs.length + 1))] (some 1)))[bp]? = some (.cells 1 [[.ptr pid 0 0]] (some 1)) := by rw [List.getElem?_set_ne hB.b2.symm]; exact g9
        subst hg
        have hg8 := hmoreG (lt_of_some hs8)
        have hg9 := hmoreG (lt_of_some hs9)
        have hgl : ∀ o, (S6.set sid (.cells 18 [c.set 8 (.row R 0 (xs.length + 1))] (some 1)) ++ [o])[S6.length]? = some o := fun o => by rw [List.getElem?_append_right (by simp)]; simp
        have hsl : ∀ o o', (S6.set sid (.cells 18 [c.set 8 (.row R 0 (xs.length + 1))] (some 1)) ++ [o]).set S6.length o' = S6.set sid (.cells 18 [c.set 8 (.row R 0 (xs.length + 1))] (some 1)) ++ [o'] := fun o o' => by rw [List.set_append_right _ _ (by simp)]; simp
        simp [-appendR, -List.length_append, tokC, hgl, hsl, hg9, hs9, hx, o1, putAt, splice, e4, e5, b2, b3, b4, hgs5, gs5, hgi5, h25, hc, a1, g8, a3, hs8]
        refine (w39 (a5.at_.more _)).use ?_
        rintro e S9 ⟨rfl, rfl⟩
        simp [-appendR, -List.length_append, tokC, hgl, hsl]
        exact ⟨m, by omega, xs ++ [⟨tb, al, o⟩], s5, S6.length, by rw [srcsC_snoc]; exact a5.more _, by simp [b2], by simp [b3], by simp, by simp [hgl, tokC], by simp; omega, by omega, hr⟩
set_option maxHeartbeats 4000000 in
theorem w45l {G : Nat → AVal} {m : Nat} {a : Tmps} {S' : Heap} {r : ResS (List Src)} (h : EJ T0 pid sid bp bs c N n r m a S') :
    mwp (ACalls Tryz.prog (B0 w0)) (.block 0 (.loop (f45b0 G))) (JQ T0 pid sid bp bs c n r) a S' := by
  simp only [mwp_block]
  refine mwp_loop (I := EJ T0 pid sid bp bs c N n r) h ?_
  clear h
  rintro m a S' ⟨xs, s, tid, hli, b2, b3, b4, b5, hm, hl, hr⟩
  have hdone : ∀ a', get a' 2 = .ptr bp 0 0 → get a' 3 = .ptr bs 0 0 → (isT 1 [105, 110, 110, 101, 114] s.l || isT 1 [106, 111, 105, 110] s.l) = false → JQ T0 pid sid bp bs c n r .normal a' S' := fun a' e1 e2 e3 => by
    refine ⟨xs, s, ?_, hli, e1, e2, hl⟩
    rw [← hr]
    cases m <;> rw [joinsS, if_neg (by simp [e3])]
  have hd4 : ∃ kd tx nm sc, tokC (s.l.headD zTok) = [.int kd, .str tx, .int nm, .int sc] ∧ (s.l.headD zTok).kind = kd ∧ (s.l.headD zTok).text = tx := ⟨_, _, _, _, rfl, rfl, rfl⟩
  obtain ⟨kd, tx, nm, sc, e1, e2, e3⟩ := hd4
  rw [e1] at b5
  have e45 : f45b0 G = .seq (.seq (.ops [⟨some 26, none, .op (.faddr 0 4)⟩,
    ⟨some 27, none, .op (.load false 1 26)⟩,
    ⟨some 28, none, .op (.bin .eql .int 27 (.val (.int 1)))⟩,
    ⟨some 29, none, .op (.mv 28)⟩,
    ⟨some 30, some (29, true), .op (.faddr 1 4)⟩,
    ⟨some 31, some (29, true), .op (.load false 1 30)⟩,
    ⟨some 32, some (29, true), .op (.bin .eql .str 31 (.val (.str [105, 110, 110, 101, 114])))⟩,
    ⟨some 33, some (29, true), .op (.mv 32)⟩,
    ⟨some 34, some (33, false), .op (.faddr 1 4)⟩,
    ⟨some 35, some (33, false), .op (.load false 1 34)⟩,
    ⟨some 36, some (33, false), .op (.bin .eql .str 35 (.val (.str [106, 111, 105, 110])))⟩,
    ⟨some 37, some (29, true), .op (.pick 33 (.val (.bool true)) 36)⟩,
    ⟨some 38, none, .op (.pick 29 37 (.val (.bool false)))⟩])
  (.cond 38
   (.skip)
   (.exit 0))) (f45b1 G) := rfl
  rw [e45, mwp_seq]
  by_cases hk : kd = 1
  · obtain ⟨t, r0, hc2⟩ : ∃ t r0, s.l = t :: r0 := by
      cases hc2 : s.l with
      | nil => rw [hc2] at e2; rw [hk] at e2; cases e2
      | cons t r0 => exact ⟨t, r0, rfl⟩
    have hI : ∀ w, isT 1 w s.l = (tx == w) := fun w => by
      rw [hc2] at e2 e3 ⊢
      simp only [List.headD_cons] at e2 e3
      rw [isT_cons]
      rw [Bool.eq_iff_iff]; simp [e2, e3, hk]
    rw [hI, hI] at hdone
    have b5' : S'[tid]? = some (.cells 4 [tokC t] (some 1)) := by
      rw [b5, ← e1, hc2]; rfl
    have go := fun a' (q2 : get a' 2 = .ptr bp 0 0) (q3 : get a' 3 = .ptr bs 0 0) (q4 : get a' 4 = .ptr tid 0 0) hij => w45b (w0 := w0) hB hc hnN hN (G := G) hli q2 q3 q4 b5' hc2 hm hl hr hij
    rw [hI, hI] at go
    by_cases h1 : tx = [105, 110, 110, 101, 114]
    · simp [b4, b5, hk, h1]
      refine go _ ?_ ?_ ?_ ?_
      · simp [b2]
      · simp [b3]
      · simp [b4]
      · simp [h1]
    · by_cases h2 : tx = [106, 111, 105, 110]
      · simp [b4, b5, hk, h1, h2]
        refine go _ ?_ ?_ ?_ ?_
        · simp [b2]
        · simp [b3]
        · simp [b4]
        · simp [h2]
      · simp [b4, b5, hk, h1, h2]
        refine hdone _ ?_ ?_ ?_
        · simp [b2]
        · simp [b3]
        · simp [h1, h2]
  · have hk2 : (kd == 1) = false := beq_eq_false_iff_ne.2 hk
    have hI : ∀ w, isT 1 w s.l = false := fun w => by
      cases hc2 : s.l with
      | nil => rfl
      | cons t r0 =>
        rw [hc2] at e2
        simp only [List.headD_cons] at e2
        rw [isT_cons]
        simp [e2, hk]
    simp [b4, b5, hk2]
    refine hdone _ ?_ ?_ ?_
    · simp [b2]
    · simp [b3]
    · simp [hI]
end
end Go.Abs
set_option linter.unusedSimpArgs false
set_option linter.unusedVariables false
namespace Go.Abs
open Go Go.RowKit Go.Proofs Go.Lx Go.Pz
variable {w0 : World}

theorem Ap.kst {M k : Nat} {S : Heap} {v : AVal} {es} {pid sid : Nat} {S' : Heap} (h : Ap M k S v es) (hk : Kst pid sid S S') (hp : pid < M) (hs : sid < M) : Ap M k S' v es := by
  cases h with
  | none fl hf => exact .none fl hf
  | row id off len es cap hN hS hl => exact .row id off len es cap hN (by rw [hk.2 id (lt_of_some hS) (by omega) (by omega)]; exact hS) hl
theorem listF_sub {α : Type} {step : α → Sta → ResS α} {N : Nat} {V : α → Nat} (hs : ∀ x s x' s', s.l.length ≤ N → step x s = .ok (x', s') → V x' = V x + 1 ∧ s'.l.length ≤ s.l.length) {f : Nat} {x : α} {s : Sta} {x' : α} {s' : Sta} (hl : s.l.length ≤ N) (h : listF step f x s = .ok (x', s')) : s'.l.length ≤ s.l.length :=
  (listF_step hs f x s x' s' hl h).2

theorem LI.one {S1 S4 : Heap} {pid sid : Nat} {c : List AVal} {s : Sta} (hps : pid ≠ sid) (hc : c.length = 18) (h : CI S1 pid sid c s S4) (f k : Nat) (x : List AVal) :
    LI S4 pid sid c f k [x] s ((S4 ++ [AObj.cells k [x] (some 1)]).set sid (.cells 18 [c.set f (.row S4.length 0 1)] (some 1))) := by
  have hsl := lt_of_some h.st
  have hpl := h.at_.lt
  obtain ⟨⟨o, ho, hpo⟩, h2, h3⟩ := h
  refine ⟨⟨o, by rw [List.getElem?_set_ne (Ne.symm hps), List.getElem?_append_left hpl]; exact ho, hpo⟩, ⟨.row S4.length 0 1, by rw [hc]; exact List.getElem?_set_self (by simp; omega), ⟨by simp, fun _ _ => rfl, fun i v k' es hi => ?_, fun i j id o l o' l' k es k' es' hi hj => ?_⟩⟩, ⟨by simp, fun j hj j1 j2 => by rw [List.getElem?_set_ne (Ne.symm j2), List.getElem?_append_left hj]⟩⟩
  · cases i with
    | zero =>
      simp only [List.getElem?_cons_zero, Option.some.injEq, Prod.mk.injEq] at hi
      obtain ⟨rfl, rfl, rfl⟩ := hi
      exact Ap.row (N := S4.length) (k := k) S4.length 0 1 [x] (some 1) (Nat.le_refl _) (by rw [List.getElem?_set_ne (by omega)]; simp) (by simp)
    | succ i => simp at hi
  · cases i <;> cases j <;> first | rfl | (simp at hi; done) | (simp at hj; done)

def IQ (S1 : Heap) (pid sid bp bs n : Nat) (c : List AVal) (r : ResS (List Itm)) : AExit → Tmps → Heap → Prop
  | .normal, a, S' => ∃ x s, r = .ok (x, s) ∧ s.l.length ≤ n ∧ ∃ v, CI S1 pid sid (c.set 7 v) s S' ∧ Ap S1.length 8 S' v (itmsC x) ∧ get a 2 = .ptr bp 0 0 ∧ get a 3 = .ptr bs 0 0
  | .panic v, a, S' => ∃ cde, r = .error cde ∧ v = trb cde ∧ Kst pid sid S1 S'
  | _, _, _ => False

section
variable {S1 : Heap} {pid sid bp bs : Nat} (hB : Bx S1 pid sid bp bs) {N : Nat} (hN : N ≤ 1000000)
include hB hN
set_option maxHeartbeats 4000000 in
theorem w45i {a : Tmps} {S' : Heap} {c : List AVal} (hc : c.length = 18) (hf : c.set 7 .nilS = c) {s : Sta} (c1 : CI S1 pid sid c s S') (hl : s.l.length < N) (b2 : get a 2 = .ptr bp 0 0) (b3 : get a 3 = .ptr bs 0 0) :
    mwp (ACalls Tryz.prog (B0 w0)) (.seq (.ops [⟨some 9, none, .op (.load false 1 2)⟩,
    ⟨some 10, none, .call 85 [9, (.val (.str [42]))]⟩,
    ⟨some 11, none, .op (.un .not 10)⟩])
  (.cond 11
   (.ops [⟨some 12, none, .op (.load false 1 2)⟩,
     ⟨some 13, none, .op (.mkfn (.func 86) [] [2, 3])⟩,
     ⟨some 14, none, .call 76 [12, (.val (.int 50)), 13]⟩])
   (.skip))) (IQ S1 pid sid bp bs s.l.length c (itemsS resv N s)) a S' := by
  obtain ⟨r, hr⟩ : ∃ r, itemsS resv N s = r := ⟨_, rfl⟩
  rw [hr]
  rw [itemsS] at hr
  have gp1 := hB.gp c1.k2
  have gs1 := hB.gs c1.k2
  simp [-appendR, b2, b3, gp1]
  refine (w85 c1.at_ _).use ?_
  rintro e S2 ⟨hst2, rfl, h2⟩
  by_cases hT : isT 5 [42] s.l = true
  · rw [if_pos hT] at hr
    rw [hT] at h2
    simp only [if_true] at h2
    have c2 := c1.step hB.ps hst2 (s' := ⟨s.l.tail, s.d⟩) h2
    simp [hT]
    exact ⟨[], ⟨s.l.tail, s.d⟩, hr.symm, by simp, .nilS, by rw [hf]; exact c2, .none .nil (.inl rfl), by simp [b2], by simp [b3]⟩
  · have hT : isT 5 [42] s.l = false := by simpa using hT
    rw [if_neg (by simp [hT])] at hr
    rw [hT] at h2
    simp only [Bool.false_eq_true, if_false] at h2
    have c2 := c1.step hB.ps hst2 (s' := s) h2
    have gp2 := hB.gp c2.k2
    have hB2 := hB.re c2.k2
    simp [-appendR, hT, b2, b3, gp2]
    refine (w76 (V := itmsC) (step := itemS resv N) (n := s.l.length) (most := 50) (o1 := []) hB2.hp hB.ps (by decide) (fun x s2 S2 hli hlen hl2 => w86 hB2 hc hli (by simp at hlen; omega) (by omega) hN) (fun x s2 x' s2' hl2 h => itemS_step (N := N) (by omega) h)
      (x := []) (s := s) (c2.li 7 8 hc hf) rfl (Nat.le_refl _) (by decide)).use ?_
    rintro e S3 h3
    cases hF : listF (itemS resv N) 50 [] s with
    | error cd =>
      rw [hF] at hr h3
      obtain ⟨rfl, h3⟩ := h3
      simp
      exact ⟨cd, hr.symm, rfl, c2.k2.trans h3⟩
    | ok y =>
      obtain ⟨xs, s3⟩ := y
      have hl3 := listF_sub (N := N) (V := fun xs => (itmsC xs).length) (fun x s x' s' h h' => itemS_step h h') (by omega) hF
      rw [hF] at hr h3
      obtain ⟨rfl, h3⟩ := h3
      obtain ⟨v, c3, ap3⟩ := h3.ci hc c2.k2
      simp
      exact ⟨xs, s3, hr.symm, hl3, v, c3, ap3.le c2.k2.1, by simp [b2], by simp [b3]⟩
end

set_option maxHeartbeats 4000000 in
/-- A query. -/
theorem w45 {S : Heap} {pid sid N : Nat} {s : Sta} (hps : pid ≠ sid) (h0 : CI S pid sid z18 s S) (hl : s.l.length < N) (hN : N ≤ 1000000) : ACalls Tryz.prog (B0 w0) 45 [.ptr pid 0 0, .ptr sid 0 0] S (CrR S pid sid (queryS resv N s)) := by
  obtain ⟨r, hr⟩ : ∃ r, queryS resv N s = r := ⟨_, rfl⟩
  rw [hr]
  rw [queryS] at hr
  obtain ⟨S1, hS1⟩ : ∃ S1, S1 = S ++ [AObj.cells 1 [[.ptr pid 0 0]] (some 1), .cells 1 [[.ptr sid 0 0]] (some 1)] := ⟨_, rfl⟩
  obtain ⟨hl1, hB, hk1, hc1⟩ := h0.boxes hps S1 hS1
  refine fn_sound tryOrd (f45_c _) (by simp [f45]) ?_
  have gp0 := hB.xp
  have gs0 := hB.xs
  have st0 := hc1.st
  rw [hS1] at gp0 gs0 st0
  rw [f45, f45m, mwp_seq]
  simp [-appendR, -mwp_seq]
  rw [mwp_seq]
  simp [-appendR, -mwp_seq, gs0, st0]
  rw [← hS1]
  have c1 := hc1.set hps [.int 6, .str [], .str [], .nilS, .nilS, .bool false, .nilS, .nilS, .nilS, .int 0, .nilS, .int 0, .int 0, .int 0, .str [], .str [], .nilS, .nilS]
  generalize S1.set sid (.cells 18 [[.int 6, .str [], .str [], .nilS, .nilS, .bool false, .nilS, .nilS, .nilS, .int 0, .nilS, .int 0, .int 0, .int 0, .str [], .str [], .nilS, .nilS]] (some 1)) = S2 at *
  rw [mwp_seq]
  refine mwp_mono _ _ (fun _ _ _ _ _ hr h => h.mono hr) ?_ (w45i (w0 := w0) hB hN rfl rfl c1 hl (by simp) (by simp))
  clear c1 S2 hS1 gp0 gs0 st0
  intro e a S2 hI
  cases hR : itemsS resv N s with
  | error cd =>
    rw [hR] at hI hr
    rw [bindS_error] at hr
    cases e <;> first | exact hI.elim | skip
    · obtain ⟨_, _, h, _⟩ := hI; cases h
    · obtain ⟨cde, h, rfl, hk⟩ := hI
      cases h
      simp
      subst hr
      exact And.intro rfl (hk1.trans hk)
  | ok y =>
  rw [hR] at hI hr
  cases e <;> first | exact hI.elim | skip
  rotate_left 1
  · obtain ⟨cde, h, _⟩ := hI; cases h
  obtain ⟨is, s1, h, hl1', v7, c2, ap2, b2, b3⟩ := hI
  obtain rfl := Except.ok.inj h
  clear h
  rw [bindS_ok, needS] at hr
  have gp2 := hB.gp c2.k2
  have gs2 := hB.gs c2.k2
  simp only [afterX_normal]
  rw [mwp_seq]
  simp [-appendR, -mwp_seq, b2, b3, gp2]
  refine (w40 c2.at_ _).use ?_
  rintro e S3 ⟨hst3, h3⟩
  by_cases hT : isT 1 [102, 114, 111, 109] s1.l = true
  rotate_left 1
  · have hT : isT 1 [102, 114, 111, 109] s1.l = false := by simpa using hT
    rw [need_er hT] at h3
    rw [if_neg (by simp [hT]), thenS_error] at hr
    obtain ⟨rfl, _⟩ := h3
    simp
    subst hr
    exact And.intro rfl (hk1.trans (c2.k2.trans hst3.k2))
  have hlt1 := isT_len hT
  rw [need_ok hT] at h3
  rw [if_pos hT, thenS_ok] at hr
  obtain ⟨rfl, h3⟩ := h3
  have c3 := c2.step hps hst3 (s' := ⟨s1.l.tail, s1.d⟩) h3
  have ap3 := ap2.step hst3 hB.hp
  have gp3 := hB.gp c3.k2
  have gs3 := hB.gs c3.k2
  simp only [afterE_ret]
  simp [-appendR, -mwp_seq]
  rw [mwp_seq]
  simp [-appendR, -mwp_seq, b2, b3, gp3, gs3]
  refine (w87 (s := ⟨s1.l.tail, s1.d⟩) c3.at_).use ?_
  rintro e S4 ⟨hst4, h4⟩
  cases hS : sourceS resv ⟨s1.l.tail, s1.d⟩ with
  | error cd =>
    rw [hS] at h4 hr
    obtain ⟨rfl, _⟩ := h4
    simp
    subst hr
    exact And.intro rfl (hk1.trans (c3.k2.trans hst4.k2))
  | ok y =>
  obtain ⟨⟨tb, al, on⟩, s4⟩ := y
  obtain ⟨hon, hl4⟩ := sourceS_on hS
  simp only [List.length_tail] at hl4 hon
  subst hon
  rw [hS] at h4 hr
  rw [bindS_ok] at hr
  obtain ⟨rfl, h4⟩ := h4
  have c4 := c3.step hps hst4 (s' := s4) h4
  have ap4 := ap3.step hst4 hB.hp
  have gp4 := hB.gp c4.k2
  have gs4 := hB.gs c4.k2
  have st4 := c4.st
  have hg4 := hmoreG (lt_of_some gp4)
  have hgs4 := hmoreG (lt_of_some gs4)
  have hgi4 := hmoreG (lt_of_some st4)
  have hb : srcC ⟨tb, al, .zero⟩ = [.str tb, .str al, .int 0, .nilS, .int 0, .int 0, .int 0, .str [], .str []] := by rw [srcC, Ex.zero, exC_eq, exsV_nil]
  simp only [List.set_cons_succ, List.set_cons_zero] at st4
  simp [-appendR, -mwp_seq, b2, b3, hb, hgs4, gs4, hgi4, st4]
  have li5 := LI.one hps rfl c4 8 9 (srcC ⟨tb, al, .zero⟩)
  rw [hb] at li5
  simp only [List.set_cons_succ, List.set_cons_zero] at li5
  generalize hS5 : (S4 ++ [AObj.cells 9 [[.str tb, .str al, .int 0, .nilS, .int 0, .int 0, .int 0, .str [], .str []]] (some 1)]).set sid (.cells 18 [[AVal.int 6, AVal.str [], AVal.str [], AVal.nilS, AVal.nilS, AVal.bool false, AVal.nilS, v7, AVal.row (List.length S4) 0 1, AVal.int 0, AVal.nilS, AVal.int 0, AVal.int 0, AVal.int 0, AVal.str [], AVal.str [], AVal.nilS, AVal.nilS]] (some 1)) = S5 at *
  have li5 : LI S4 pid sid [AVal.int 6, AVal.str [], AVal.str [], AVal.nilS, AVal.nilS, AVal.bool false, AVal.nilS, v7, .nilS, AVal.int 0, AVal.nilS, AVal.int 0, AVal.int 0, AVal.int 0, AVal.str [], AVal.str [], AVal.nilS, AVal.nilS] 8 9 (srcsC [⟨tb, al, .zero⟩]) s4 S5 := by
    simp only [srcsC, List.map_cons, List.map_nil, hb]; exact li5
  clear hS5
  have hB4 := hB.re c4.k2
  have gp5 := hB4.gp li5.k2
  have gs5 := hB4.gs li5.k2
  rw [mwp_seq, mwp_seq]
  simp [-appendR, -mwp_seq, b2, b3, gp5]
  refine (w39 li5.at_).use ?_
  rintro e S5 ⟨rfl, rfl⟩
  simp [-appendR, -mwp_seq, -mwp_block, tokC]
  obtain ⟨rJ, hrJ⟩ : ∃ rJ, joinsS resv N 3 [⟨tb, al, .zero⟩] s4 = rJ := ⟨_, rfl⟩
  rw [hrJ] at hr
  refine mwp_mono _ _ (fun _ _ _ _ _ hr h => h.mono hr) ?_ (w45l (w0 := w0) hB4 (c := [AVal.int 6, AVal.str [], AVal.str [], AVal.nilS, AVal.nilS, AVal.bool false, AVal.nilS, v7, .nilS, AVal.int 0, AVal.nilS, AVal.int 0, AVal.int 0, AVal.int 0, AVal.str [], AVal.str [], AVal.nilS, AVal.nilS]) rfl (N := N) (n := s4.l.length) (by omega) hN (m := 3) (r := rJ)
    ⟨[⟨tb, al, .zero⟩], s4, S5.length, li5.more _, by simp [b2], by simp [b3], by simp, by simp [tokC], by simp, Nat.le_refl _, hrJ⟩)
  intro e a6 S6 hJ
  cases e <;> first | exact hJ.elim | skip
  rotate_left 1
  · obtain ⟨cde, rfl, rfl, hk⟩ := hJ
    rw [bindS_error] at hr
    simp
    subst hr
    exact And.intro rfl (hk1.trans (c4.k2.trans hk))
  obtain ⟨fs, s6, rfl, li6, q2, q3, hl6⟩ := hJ
  rw [bindS_ok] at hr
  obtain ⟨v8, c6, ap86⟩ := li6.ci rfl c4.k2
  have ap6 := ap4.kst li6.k2 hB.hp hB.hs
  simp only [List.set_cons_succ, List.set_cons_zero] at c6
  have gp6 := hB.gp c6.k2
  have gs6 := hB.gs c6.k2
  simp only [afterX_normal]
  rw [mwp_seq]
  simp [-appendR, -mwp_seq, q2, q3, gp6, gs6]
  refine (w47 (N := N) rfl (by rw [exC_zero]; rfl) hps c6.at_ c6.st (by omega) hN).use ?_
  rintro e S7 h7
  have h8 := h7.ci c6
  cases hW : whereS resv N s6 with
  | error cd =>
    rw [hW] at h8 hr
    obtain ⟨rfl, h8⟩ := h8
    simp
    subst hr
    exact And.intro rfl (hk1.trans h8)
  | ok y3 =>
  obtain ⟨w, s7⟩ := y3
  rw [hW] at h8 hr
  rw [bindS_ok] at hr
  obtain ⟨rfl, c7⟩ := h8
  have hl7 : s7.l.length ≤ s6.l.length := by
    rw [whereS] at hW
    split at hW
    · rename_i hh
      have := isT_len hh
      have := whole_len hW (by simp only [List.length_tail]; omega)
      simp only [List.length_tail] at this
      omega
    · simp only [Except.ok.injEq, Prod.mk.injEq] at hW
      obtain ⟨-, rfl⟩ := hW
      exact Nat.le_refl _
  have ap77 := (h7.ap ap6 hB.hp hB.hs).le (N' := S.length) (by have := hk1.1; omega)
  have ap78 := (h7.ap ap86 hB4.hp hB4.hs).le (N' := S.length) (by have := hk1.1; have := c4.k2.1; omega)
  obtain ⟨op, vv, kind, num, scale, text, qual, hx, o1, o2⟩ := exC_shape w
  have hc7 : List.take 9 [AVal.int 6, AVal.str [], AVal.str [], AVal.nilS, AVal.nilS, AVal.bool false, AVal.nilS, v7, v8, AVal.int 0, AVal.nilS, AVal.int 0, AVal.int 0, AVal.int 0, AVal.str [], AVal.str [], AVal.nilS, AVal.nilS] ++ exC w ++ List.drop 16 [AVal.int 6, AVal.str [], AVal.str [], AVal.nilS, AVal.nilS, AVal.bool false, AVal.nilS, v7, v8, AVal.int 0, AVal.nilS, AVal.int 0, AVal.int 0, AVal.int 0, AVal.str [], AVal.str [], AVal.nilS, AVal.nilS]
      = [AVal.int 6, AVal.str [], AVal.str [], AVal.nilS, AVal.nilS, AVal.bool false, AVal.nilS, v7, v8, .int op, vv, .int kind, .int num, .int scale, .str text, .str qual, AVal.nilS, AVal.nilS] := by rw [hx]; rfl
  rw [hc7] at c7
  have gp7 := hB.gp c7.k2
  have gs7 := hB.gs c7.k2
  simp [-appendR, q2, q3, gp7, gs7]
  refine (w42 c7.at_ _).use ?_
  rintro e S8 ⟨hst8, rfl, h9⟩
  have ap87 := ap77.step hst8 (by have := c7.at_.lt; have := h0.at_.lt; omega)
  have ap88 := ap78.step hst8 (by have := c7.at_.lt; have := h0.at_.lt; omega)
  rw [orderS] at hr
  by_cases hO : isT 1 [111, 114, 100, 101, 114] s7.l = true
  rotate_left 1
  · have hO : isT 1 [111, 114, 100, 101, 114] s7.l = false := by simpa using hO
    rw [if_neg (by simp [hO]), bindS_ok] at hr
    rw [hO] at h9
    simp only [Bool.false_eq_true, if_false] at h9
    have c8 := c7.step hps hst8 (s' := s7) h9
    simp [hO]
    subst hr
    refine And.intro rfl ⟨_, ⟨c8.at_, c8.st, hk1.trans c8.k2⟩, .nilS, .nilS, .nilS, v7, v8, .nilS, .nilS, ?_, .nil _ _ _, .nil _ _ _, .nil _ _ _, .inl ap87, .inl ap88, .nil _ _ _, .nil _ _ _⟩
    rw [hx]; rfl
  have hlt7 := isT_len hO
  rw [if_pos hO, needS] at hr
  rw [hO] at h9
  simp only [if_true] at h9
  simp only at hr
  have c8 := c7.step hps hst8 (s' := ⟨s7.l.tail, s7.d⟩) h9
  have gp8 := hB.gp c8.k2
  have gs8 := hB.gs c8.k2
  simp [-appendR, hO, q2, q3, gp8, gs8]
  refine (w40 c8.at_ _).use ?_
  rintro e S9 ⟨hst9, h10⟩
  simp only at h10
  by_cases hY : isT 1 [98, 121] s7.l.tail = true
  rotate_left 1
  · have hY : isT 1 [98, 121] s7.l.tail = false := by simpa using hY
    rw [need_er hY] at h10
    rw [if_neg (by simp [hY]), thenS_error, bindS_error] at hr
    obtain ⟨rfl, _⟩ := h10
    simp
    subst hr
    exact And.intro rfl (hk1.trans (c8.k2.trans hst9.k2))
  have hlt8 := isT_len hY
  simp only [List.length_tail] at hlt8
  rw [need_ok hY] at h10
  rw [if_pos hY, thenS_ok] at hr
  obtain ⟨rfl, h10⟩ := h10
  have c9 := c8.step hps hst9 (s' := ⟨s7.l.tail.tail, s7.d⟩) h10
  have ap97 := ap87.step hst9 (by have := c7.at_.lt; have := h0.at_.lt; omega)
  have ap98 := ap88.step hst9 (by have := c7.at_.lt; have := h0.at_.lt; omega)
  have gp9 := hB.gp c9.k2
  have gs9 := hB.gs c9.k2
  have hB9 := hB.re c9.k2
  simp [-appendR, q2, q3, gp9, gs9]
  refine (w76 (V := srtsC) (step := sortS resv N) (n := s7.l.tail.tail.length) (most := 50) (o1 := []) hB9.hp hps (by decide) (fun x s2 S2 hli hlen hl2 => w88 hB9 rfl hli (by simp at hlen; omega) (by simp only [List.length_tail] at hl2; omega) hN) (fun x s2 x' s2' hl2 h => sortS_step (N := N) (by simp only [List.length_tail] at hl2; omega) h)
    (x := []) (s := ⟨s7.l.tail.tail, s7.d⟩) (c9.li 16 8 rfl rfl) rfl (Nat.le_refl _) (by decide)).use ?_
  rintro e T1 t1
  try simp only at hr
  cases hF : listF (sortS resv N) 50 [] ⟨s7.l.tail.tail, s7.d⟩ with
  | error cd =>
    rw [hF] at hr t1
    rw [bindS_error] at hr
    obtain ⟨rfl, t1⟩ := t1
    simp
    subst hr
    exact And.intro rfl (hk1.trans (c9.k2.trans t1))
  | ok y2 =>
    obtain ⟨os, s10⟩ := y2
    rw [hF] at hr t1
    rw [bindS_ok] at hr
    obtain ⟨rfl, t1⟩ := t1
    have ap107 := ap97.kst t1.k2 h0.at_.lt (lt_of_some h0.st)
    have ap108 := ap98.kst t1.k2 h0.at_.lt (lt_of_some h0.st)
    obtain ⟨v, c10, ap10⟩ := t1.ci rfl c9.k2
    have ap109 := ap10.le (N' := S.length) (by have := hk1.1; have := c9.k2.1; omega)
    simp
    subst hr
    refine And.intro rfl ⟨_, ⟨c10.at_, c10.st, hk1.trans c10.k2⟩, .nilS, .nilS, .nilS, v7, v8, v, .nilS, ?_, .nil _ _ _, .nil _ _ _, .nil _ _ _, .inl ap107, .inl ap108, .inl ap109, .nil _ _ _⟩
    rw [hx]; rfl
end Go.Abs
set_option linter.unusedSimpArgs false
set_option linter.unusedVariables false
namespace Go.Abs
open Go Go.RowKit Go.Proofs Go.Lx Go.Pz
variable {w0 : World}

theorem Vk.one {N k S v es} (h : Vk N k S v es) : v.one = true ∧ cellsOf false v = some [v] := by
  rcases h with h | ⟨fl, rfl⟩
  · cases h <;> exact ⟨rfl, rfl⟩
  · exact ⟨rfl, rfl⟩
theorem SC.z {N : Nat} {S : Heap} {st : Stm} (hc : st.cols = []) (hn : st.names = []) (hr : st.rows = []) (hi : st.items = []) (hs : st.src = []) (ho : st.order = []) (ht : st.sets = []) :
    SC N S st ([.int st.kind, .str st.table, .str st.index, .nilS, .nilS, .bool st.uniq, .nilS, .nilS, .nilS] ++ exC st.wher ++ [.nilS, .nilS]) :=
  ⟨.nilS, .nilS, .nilS, .nilS, .nilS, .nilS, .nilS, rfl, by rw [hc]; exact .nil _ _ _, by rw [hn]; exact .nil _ _ _, by rw [hr]; exact .nil _ _ _, by rw [hi]; exact .nil _ _ _, by rw [hs]; exact .nil _ _ _, by rw [ho]; exact .nil _ _ _, by rw [ht]; exact .nil _ _ _⟩
theorem SC.z0 {N : Nat} {S : Heap} {k : Int} {tb ix : Bs} : SC N S { kind := k, table := tb, index := ix } [.int k, .str tb, .str ix, .nilS, .nilS, .bool false, .nilS, .nilS, .nilS, .int 0, .nilS, .int 0, .int 0, .int 0, .str [], .str [], .nilS, .nilS] := by
  have := SC.z (N := N) (S := S) (st := { kind := k, table := tb, index := ix }) rfl rfl rfl rfl rfl rfl rfl
  simp only [exC_zero] at this
  exact this

def f21s (G : Nat → AVal) : MC := match f21m G with | .seq _ (.seq _ (.seq _ (.seq _ (.seq (.seq _ b) _)))) => b | x => x
/-- Where the switch has come to. -/
def MQ (S2 : Heap) (pid sid : Nat) (r : ResS Stm) : AExit → Tmps → Heap → Prop
  | .normal, a, S' => ∃ st s c, r = .ok (st, s) ∧ CI S2 pid sid c s S' ∧ SC S2.length S' st c ∧ get a 2 = .ptr sid 0 0
  | .panic v, a, S' => ∃ cde, r = .error cde ∧ v = trb cde ∧ Kst pid sid S2 S'
  | _, _, _ => False
theorem CrR.mq {S2 : Heap} {pid sid : Nat} {r : ResS Stm} {e : AEnd} {S' : Heap} (h : CrR S2 pid sid r e S') {a : Tmps} (hz : get a 2 = .ptr sid 0 0) : match e with
    | .ret v => v = .undef ∧ MQ S2 pid sid r .normal a S'
    | .panic v => MQ S2 pid sid r (.panic v) a S' := by
  cases r with
  | error c => obtain ⟨rfl, h⟩ := h; exact ⟨c, rfl, rfl, h⟩
  | ok y =>
    obtain ⟨st, s⟩ := y
    obtain ⟨rfl, c, h1, h2⟩ := h
    exact ⟨rfl, st, s, c, rfl, h1, h2, hz⟩

set_option maxHeartbeats 8000000 in
theorem w21s {G : Nat → AVal} {a : Tmps} {S : Heap} {pid sid N : Nat} {w : Bs} {s : Sta} (hps : pid ≠ sid) (h0 : CI S pid sid z18 s S) (hl : s.l.length < N) (hN : N ≤ 1000000) (b0 : get a 0 = .ptr pid 0 0) (b2 : get a 2 = .ptr sid 0 0) (b16 : get a 16 = .str w) {r : ResS Stm}
    (hr : (if w = [99, 114, 101, 97, 116, 101] then createS resv s
  else if w = [100, 114, 111, 112] then dropS resv s
  else if w = [105, 110, 115, 101, 114, 116] then insertS resv N s
  else if w = [115, 101, 108, 101, 99, 116] then queryS resv N s
  else if w = [117, 112, 100, 97, 116, 101] then updateS resv N s
  else if w = [100, 101, 108, 101, 116, 101] then deleteS resv N s
  else if w = [98, 101, 103, 105, 110] then .ok ({ kind := 9 }, s)
  else if w = [99, 111, 109, 109, 105, 116] then .ok ({ kind := 10 }, s)
  else if w = [114, 111, 108, 108, 98, 97, 99, 107] then .ok ({ kind := 11 }, s)
  else .error 130) = r) :
    mwp (ACalls Tryz.prog (B0 w0)) (f21s G) (MQ S pid sid r) a S := by
  have st0 := h0.st
  have crq : ∀ (f : FuncId) (a' : Tmps) (S' : Heap) (kn : AVal → Heap → Prop), True := fun _ _ _ _ => trivial
  by_cases w1 : w = [99, 114, 101, 97, 116, 101]
  · rw [if_pos w1] at hr
    simp [-appendR, f21s, f21m, b0, b2, b16, w1]
    refine (w41 hps h0).use ?_
    rintro e S1 h1
    rw [hr] at h1
    have h2 := h1.mq (a := a) b2
    cases e with
    | ret v =>
      obtain ⟨rfl, st, s', c, h3, h4, h5, h6⟩ := h2
      simp
      exact ⟨st, s', c, h3, h4, h5, by simp [b2]⟩
    | panic v => simp; exact h2
  rw [if_neg w1] at hr
  by_cases w2 : w = [100, 114, 111, 112]
  · rw [if_pos w2, dropS] at hr
    simp [-appendR, f21s, f21m, b0, b2, b16, w1, w2, st0]
    have c1 := h0.set hps [.int 4, .str [], .str [], .nilS, .nilS, .bool false, .nilS, .nilS, .nilS, .int 0, .nilS, .int 0, .int 0, .int 0, .str [], .str [], .nilS, .nilS]
    generalize S.set sid (.cells 18 [[.int 4, .str [], .str [], .nilS, .nilS, .bool false, .nilS, .nilS, .nilS, .int 0, .nilS, .int 0, .int 0, .int 0, .str [], .str [], .nilS, .nilS]] (some 1)) = S1 at *
    refine (w42 c1.at_ _).use ?_
    rintro e S2 ⟨hst2, rfl, h2⟩
    by_cases hT : isT 1 [116, 97, 98, 108, 101] s.l = true
    · rw [if_pos hT, nameS] at hr
      rw [hT] at h2
      simp only [if_true] at h2
      have c2 := c1.step hps hst2 (s' := ⟨s.l.tail, s.d⟩) h2
      simp [-appendR, hT, b0, b2]
      refine (w43 c2.at_).use ?_
      rintro e S3 ⟨hst3, h3⟩
      simp only at hr h3
      cases hN1 : nameR resv s.l.tail with
      | error c =>
        rw [hN1] at hr h3
        obtain ⟨rfl, _⟩ := h3
        simp
        exact ⟨c, hr.symm, rfl, c2.k2.trans hst3.k2⟩
      | ok y =>
        obtain ⟨n, l3⟩ := y
        rw [hN1] at hr h3
        simp only [bindS_ok] at hr
        obtain ⟨rfl, h3⟩ := h3
        have c3 := c2.step hps hst3 (s' := ⟨l3, s.d⟩) h3
        have st3 := c3.st
        simp [-appendR, st3, b2, setSelf (lt_of_some c3.st)]
        have c4 := c3.set hps [.int 2, .str n, .str [], .nilS, .nilS, .bool false, .nilS, .nilS, .nilS, .int 0, .nilS, .int 0, .int 0, .int 0, .str [], .str [], .nilS, .nilS]
        exact ⟨_, _, _, hr.symm, c4, SC.z0, by simp [b2]⟩
    · have hT : isT 1 [116, 97, 98, 108, 101] s.l = false := by simpa using hT
      rw [if_neg (by simp [hT]), needS] at hr
      rw [hT] at h2
      simp only [Bool.false_eq_true, if_false] at h2
      have c2 := c1.step hps hst2 (s' := s) h2
      simp [-appendR, hT, b0, b2]
      refine (w40 c2.at_ _).use ?_
      rintro e S3 ⟨hst3, h3⟩
      by_cases hI : isT 1 [105, 110, 100, 101, 120] s.l = true
      rotate_left 1
      · have hI : isT 1 [105, 110, 100, 101, 120] s.l = false := by simpa using hI
        rw [need_er hI] at h3
        rw [if_neg (by simp [hI]), thenS_error] at hr
        obtain ⟨rfl, _⟩ := h3
        simp
        exact ⟨130, hr.symm, rfl, c2.k2.trans hst3.k2⟩
      rw [need_ok hI] at h3
      rw [if_pos hI, thenS_ok, nameS] at hr
      obtain ⟨rfl, h3⟩ := h3
      have c3 := c2.step hps hst3 (s' := ⟨s.l.tail, s.d⟩) h3
      simp [-appendR, b0, b2]
      refine (w43 c3.at_).use ?_
      rintro e S4 ⟨hst4, h4⟩
      simp only at hr h4
      cases hN1 : nameR resv s.l.tail with
      | error c =>
        rw [hN1] at hr h4
        obtain ⟨rfl, _⟩ := h4
        simp
        exact ⟨c, hr.symm, rfl, c3.k2.trans hst4.k2⟩
      | ok y =>
        obtain ⟨n, l3⟩ := y
        rw [hN1] at hr h4
        simp only [bindS_ok] at hr
        obtain ⟨rfl, h4⟩ := h4
        have c4 := c3.step hps hst4 (s' := ⟨l3, s.d⟩) h4
        have st4 := c4.st
        simp [-appendR, st4, b2]
        have c5 := c4.set hps [.int 4, .str [], .str n, .nilS, .nilS, .bool false, .nilS, .nilS, .nilS, .int 0, .nilS, .int 0, .int 0, .int 0, .str [], .str [], .nilS, .nilS]
        exact ⟨_, _, _, hr.symm, c5, SC.z0, by simp [b2]⟩
  rw [if_neg w2] at hr
  by_cases w3 : w = [105, 110, 115, 101, 114, 116]
  · rw [if_pos w3] at hr
    simp [-appendR, f21s, f21m, b0, b2, b16, w1, w2, w3]
    refine (w44 (N := N) hps h0 hl hN).use ?_
    rintro e S1 h1
    rw [hr] at h1
    have h2 := h1.mq (a := a) b2
    cases e with
    | ret v =>
      obtain ⟨rfl, st, s', c, h3, h4, h5, h6⟩ := h2
      simp
      exact ⟨st, s', c, h3, h4, h5, by simp [b2]⟩
    | panic v => simp; exact h2
  rw [if_neg w3] at hr
  by_cases w4 : w = [115, 101, 108, 101, 99, 116]
  · rw [if_pos w4] at hr
    simp [-appendR, f21s, f21m, b0, b2, b16, w1, w2, w3, w4]
    refine (w45 (N := N) hps h0 hl hN).use ?_
    rintro e S1 h1
    rw [hr] at h1
    have h2 := h1.mq (a := a) b2
    cases e with
    | ret v =>
      obtain ⟨rfl, st, s', c, h3, h4, h5, h6⟩ := h2
      simp
      exact ⟨st, s', c, h3, h4, h5, by simp [b2]⟩
    | panic v => simp; exact h2
  rw [if_neg w4] at hr
  by_cases w5 : w = [117, 112, 100, 97, 116, 101]
  · rw [if_pos w5] at hr
    simp [-appendR, f21s, f21m, b0, b2, b16, w1, w2, w3, w4, w5]
    refine (w46 (N := N) hps h0 hl hN).use ?_
    rintro e S1 h1
    rw [hr] at h1
    have h2 := h1.mq (a := a) b2
    cases e with
    | ret v =>
      obtain ⟨rfl, st, s', c, h3, h4, h5, h6⟩ := h2
      simp
      exact ⟨st, s', c, h3, h4, h5, by simp [b2]⟩
    | panic v => simp; exact h2
  rw [if_neg w5] at hr
  by_cases w6 : w = [100, 101, 108, 101, 116, 101]
  · rw [if_pos w6, deleteS, needS] at hr
    simp [-appendR, f21s, f21m, b0, b2, b16, w1, w2, w3, w4, w5, w6]
    refine (w40 h0.at_ _).use ?_
    rintro e S1 ⟨hst1, h1⟩
    by_cases hT : isT 1 [102, 114, 111, 109] s.l = true
    rotate_left 1
    · have hT : isT 1 [102, 114, 111, 109] s.l = false := by simpa using hT
      rw [need_er hT] at h1
      rw [if_neg (by simp [hT]), thenS_error] at hr
      obtain ⟨rfl, _⟩ := h1
      simp
      exact ⟨130, hr.symm, rfl, hst1.k2⟩
    have hlt := isT_len hT
    rw [need_ok hT] at h1
    rw [if_pos hT, thenS_ok, nameS] at hr
    obtain ⟨rfl, h1⟩ := h1
    have c1 := h0.step hps hst1 (s' := ⟨s.l.tail, s.d⟩) h1
    simp [-appendR, b0, b2]
    refine (w43 c1.at_).use ?_
    rintro e S2 ⟨hst2, h2⟩
    simp only at hr h2
    cases hN1 : nameR resv s.l.tail with
    | error c =>
      rw [hN1] at hr h2
      obtain ⟨rfl, _⟩ := h2
      simp
      exact ⟨c, hr.symm, rfl, c1.k2.trans hst2.k2⟩
    | ok y =>
      obtain ⟨n, l2⟩ := y
      have hlt2 := nameR_len hN1
      rw [hN1] at hr h2
      simp only [bindS_ok] at hr
      obtain ⟨rfl, h2⟩ := h2
      have c2 := c1.step hps hst2 (s' := ⟨l2, s.d⟩) h2
      have st2 := c2.st
      simp [-appendR, st2, b0, b2, setSelf (lt_of_some c2.st)]
      have c3 := c2.set hps [.int 8, .str n, .str [], .nilS, .nilS, .bool false, .nilS, .nilS, .nilS, .int 0, .nilS, .int 0, .int 0, .int 0, .str [], .str [], .nilS, .nilS]
      generalize S2.set sid (.cells 18 [[.int 8, .str n, .str [], .nilS, .nilS, .bool false, .nilS, .nilS, .nilS, .int 0, .nilS, .int 0, .int 0, .int 0, .str [], .str [], .nilS, .nilS]] (some 1)) = S3 at *
      try simp [-appendR, b0, b2]
      refine (w47 (N := N) (s := ⟨l2, s.d⟩) rfl (by rw [exC_zero]; rfl) hps c3.at_ c3.st (by simp only [List.length_tail] at *; omega) hN).use ?_
      rintro e S7 h7
      have h8 := h7.ci c3
      cases hW : whereS resv N ⟨l2, s.d⟩ with
      | error cd =>
        rw [hW] at h8 hr
        obtain ⟨rfl, h8⟩ := h8
        simp
        exact ⟨cd, hr.symm, rfl, h8⟩
      | ok y3 =>
        obtain ⟨w, s7⟩ := y3
        rw [hW] at h8 hr
        rw [bindS_ok] at hr
        obtain ⟨rfl, c7⟩ := h8
        simp
        exact ⟨_, _, _, hr.symm, c7, SC.z (st := { kind := 8, table := n, wher := w }) rfl rfl rfl rfl rfl rfl rfl, by simp [b2]⟩
  rw [if_neg w6] at hr
  by_cases w7 : w = [98, 101, 103, 105, 110]
  · rw [if_pos w7] at hr
    simp [-appendR, f21s, f21m, b0, b2, b16, w1, w2, w3, w4, w5, w6, w7, st0]
    exact ⟨_, _, _, hr.symm, h0.set hps _, SC.z0, by simp [b2]⟩
  rw [if_neg w7] at hr
  by_cases w8 : w = [99, 111, 109, 109, 105, 116]
  · rw [if_pos w8] at hr
    simp [-appendR, f21s, f21m, b0, b2, b16, w1, w2, w3, w4, w5, w6, w7, w8, st0]
    exact ⟨_, _, _, hr.symm, h0.set hps _, SC.z0, by simp [b2]⟩
  rw [if_neg w8] at hr
  by_cases w9 : w = [114, 111, 108, 108, 98, 97, 99, 107]
  · rw [if_pos w9] at hr
    simp [-appendR, f21s, f21m, b0, b2, b16, w1, w2, w3, w4, w5, w6, w7, w8, w9, st0]
    exact ⟨_, _, _, hr.symm, h0.set hps _, SC.z0, by simp [b2]⟩
  rw [if_neg w9] at hr
  simp [-appendR, f21s, f21m, b0, b2, b16, w1, w2, w3, w4, w5, w6, w7, w8, w9]
  refine (w22 130 _).use ?_
  rintro e S3 ⟨rfl, rfl⟩
  simp
  exact ⟨130, hr.symm, rfl, Kst.refl _ _ _⟩
end Go.Abs
set_option linter.unusedSimpArgs false
set_option linter.unusedVariables false
namespace Go.Abs
open Go Go.RowKit Go.Proofs Go.Lx Go.Pz
variable {w0 : World}

/-- What the reading of a statement answers. -/
def S21 (S : Heap) (pid : Nat) (r : ResS Stm) (e : AEnd) (S' : Heap) : Prop :=
  match r with
  | .ok (st, s) => ∃ c, e = .ret (.agg c) ∧ At S' pid s.l 0 s.d ∧ Kpt pid S S' ∧ SC S.length S' st c
  | .error c => e = .panic (trb c) ∧ Kpt pid S S'

theorem stmtS_eq {N : Nat} {s : Sta} {t : Tok} {r0 : List Tok} (hc : s.l = t :: r0) (hk : t.kind = 1) : stmtS resv N s = (if t.text = [99, 114, 101, 97, 116, 101] then createS resv ⟨s.l.tail, s.d⟩
  else if t.text = [100, 114, 111, 112] then dropS resv ⟨s.l.tail, s.d⟩
  else if t.text = [105, 110, 115, 101, 114, 116] then insertS resv N ⟨s.l.tail, s.d⟩
  else if t.text = [115, 101, 108, 101, 99, 116] then queryS resv N ⟨s.l.tail, s.d⟩
  else if t.text = [117, 112, 100, 97, 116, 101] then updateS resv N ⟨s.l.tail, s.d⟩
  else if t.text = [100, 101, 108, 101, 116, 101] then deleteS resv N ⟨s.l.tail, s.d⟩
  else if t.text = [98, 101, 103, 105, 110] then .ok ({ kind := 9 }, ⟨s.l.tail, s.d⟩)
  else if t.text = [99, 111, 109, 109, 105, 116] then .ok ({ kind := 10 }, ⟨s.l.tail, s.d⟩)
  else if t.text = [114, 111, 108, 108, 98, 97, 99, 107] then .ok ({ kind := 11 }, ⟨s.l.tail, s.d⟩)
  else .error 130) := by
  have hI : ∀ w, (isT 1 w s.l = true) = (t.text = w) := fun w => by
    rw [hc, isT_cons]
    simp [hk]
  rw [stmtS]
  simp only [hI]

theorem stmtS_no {N : Nat} {s : Sta} (h : ∀ w, isT 1 w s.l = false) : stmtS resv N s = .error 130 := by
  rw [stmtS]
  simp [h]
theorem Vk.k2 {M k : Nat} {S : Heap} {v : AVal} {es} {pid sid : Nat} {S' : Heap} (h : Vk M k S v es) (hk : Kst pid sid S S') (hp : pid < M) (hs : sid < M) : Vk M k S' v es := by
  rcases h with h | h
  · exact .inl (h.kst hk hp hs)
  · exact .inr h
theorem Vk.le {M M' k : Nat} {S : Heap} {v : AVal} {es} (h : Vk M k S v es) (hn : M' ≤ M) : Vk M' k S v es := by
  rcases h with h | h
  · exact .inl (h.le hn)
  · exact .inr h
theorem SC.k2 {M : Nat} {S S' : Heap} {st c} {pid sid : Nat} (h : SC M S st c) (hk : Kst pid sid S S') (hp : pid < M) (hs : sid < M) {M' : Nat} (hn : M' ≤ M) : SC M' S' st c := by
  obtain ⟨vC, vN, vR, vI, vF, vO, vS, rfl, h1, h2, h3, h4, h5, h6, h7⟩ := h
  exact ⟨vC, vN, vR, vI, vF, vO, vS, rfl, (h1.k2 hk hp hs).le hn, (h2.k2 hk hp hs).le hn, (h3.k2 hk hp hs).le hn, (h4.k2 hk hp hs).le hn, (h5.k2 hk hp hs).le hn, (h6.k2 hk hp hs).le hn, (h7.k2 hk hp hs).le hn⟩

set_option maxHeartbeats 8000000 in
theorem w21 {S : Heap} {pid N : Nat} {s : Sta} (ha : At S pid s.l 0 s.d) (hl : s.l.length < N) (hN : N ≤ 1000000) : ACalls Tryz.prog (B0 w0) 21 [.ptr pid 0 0] S (S21 S pid (stmtS resv N s)) := by
  obtain ⟨r, hr⟩ : ∃ r, stmtS resv N s = r := ⟨_, rfl⟩
  rw [hr]
  have hpl := ha.lt
  have hps : pid ≠ S.length := by omega
  refine fn_sound tryOrd (f21_c _) (by simp [f21]) ?_
  rw [f21, f21m, mwp_seq]
  simp [-appendR, -mwp_seq]
  rw [mwp_seq]
  simp [-appendR, -mwp_seq]
  refine (w39 (ha.more _)).use ?_
  rintro e S1 ⟨rfl, rfl⟩
  simp [-appendR, -mwp_seq, tokC]
  rw [mwp_seq]
  simp [-appendR, -mwp_seq, tokC]
  refine (w40 (ha.more _) _).use ?_
  rintro e S2 ⟨hsq2, h2⟩
  obtain ⟨T2, rfl, hst2⟩ := hsq2.split hpl
  clear hsq2
  have e2 := hst2.1
  generalize htx : (s.l.head?.getD zTok).text = tx at *
  have kk : Kpt pid S T2 := hst2.kpt
  by_cases hT : isT 1 tx s.l = true
  rotate_left 1
  · have hT : isT 1 tx s.l = false := by simpa using hT
    rw [need_er hT] at h2
    obtain ⟨rfl, _⟩ := h2
    rw [stmtS_no] at hr
    · simp
      subst hr
      exact And.intro rfl (kk.more _)
    · intro w
      cases hc : s.l with
      | nil => rfl
      | cons t r0 =>
        rw [hc] at hT htx
        rw [isT_cons] at hT ⊢
        simp at htx
        subst htx
        simp at hT ⊢
        simp [hT]
  obtain ⟨t, r0, hc⟩ : ∃ t r0, s.l = t :: r0 := by
    cases hc : s.l with
    | nil => rw [hc] at hT; cases hT
    | cons t r0 => exact ⟨t, r0, rfl⟩
  have hk : t.kind = 1 := by
    rw [hc, isT_cons] at hT
    simp at hT
    exact hT.1
  have ht : tx = t.text := by rw [← htx, hc]; rfl
  have hlt := isT_len hT
  rw [stmtS_eq hc hk, ← ht] at hr
  rw [need_ok hT] at h2
  obtain ⟨rfl, h2⟩ := h2
  obtain ⟨sl, sd⟩ := s
  simp only at hc
  subst hc
  simp only [List.head?_cons, Option.getD_some, List.tail_cons] at *
  simp only [hk] at h2 ⊢
  simp [-appendR, -mwp_seq, e2]
  rw [mwp_seq, mwp_seq]
  simp [-appendR, -mwp_seq, e2]
  rw [mwp_seq, mwp_seq]
  simp [-appendR, -mwp_seq, -mwp_block, e2]
  obtain ⟨T3, hT3⟩ : ∃ T3, T3 = T2 ++ [AObj.cells 18 [z18] (some 1), .cells 4 [[AVal.int 1, AVal.str tx, AVal.int t.num, AVal.int t.scale]] (some 1)] := ⟨_, rfl⟩
  have hps2 : pid ≠ T2.length := by omega
  have hC : CI T3 pid T2.length z18 ⟨r0, sd⟩ T3 := ⟨by rw [hT3]; exact (h2.less (by omega)).more _, by rw [hT3]; simp, Kst.refl _ _ _⟩
  have hT3l : T3.length = T2.length + 2 := by rw [hT3]; simp
  rw [← hT3]
  refine mwp_mono _ _ (fun _ _ _ _ _ hr h => h.mono hr) ?_ (w21s (w0 := w0) (N := N) (w := tx) (G := (B0 w0).G) hps2 hC (by simp only [List.length_cons] at *; omega) hN ?_ ?_ ?_ hr)
  rotate_left 1
  · simp
  · simp
  · simp
  intro e a6 S6 hJ
  have hkk : ∀ {S6}, Kst pid T2.length T3 S6 → Kpt pid S S6 := fun h => ⟨by have := h.1; omega, fun j hj j1 => by
    rw [h.2 j (by omega) j1 (by omega), hT3, List.getElem?_append_left (by omega), hst2.2 j j1]⟩
  cases e <;> first | exact hJ.elim | skip
  rotate_left 1
  · obtain ⟨cde, rfl, rfl, hk⟩ := hJ
    simp
    exact And.intro rfl (hkk hk)
  obtain ⟨st, s', c, rfl, hc6, hsc, q2⟩ := hJ
  have hl6 := lt_of_some hc6.st
  obtain ⟨vC, vN, vR, vI, vF, vO, vS, rfl, g1, g2, g3, g4, g5, g6, g7⟩ := hsc
  obtain ⟨op, vv, kind, num, scale, text, qual, hx, o1, o2⟩ := exC_shape st.wher
  have st6 := hc6.st
  have hin : ∀ o, S6.set T2.length o = S6.set T2.length o := fun _ => rfl
  have hself := fun o => setSelf (S := S6) hl6 o
  rw [hx] at st6
  simp only [List.cons_append, List.nil_append] at st6
  have hsame : ∀ o, S6[T2.length]? = some o → S6.set T2.length o = S6 := fun o h => by
    refine List.ext_getElem? fun j => ?_
    by_cases hj : j = T2.length
    · subst hj; rw [List.getElem?_set_self hl6, h]
    · rw [List.getElem?_set_ne (Ne.symm hj)]
  have hs6 := hsame _ st6
  simp [-appendR, q2, st6, g1.one.1, g2.one.1, g3.one.1, g4.one.1, g5.one.1, g6.one.1, g7.one.1, o1, hs6]
  refine ⟨_, rfl, hc6.at_, hkk hc6.k2, vC, vN, vR, vI, vF, vO, vS, ?_, g1.le (by omega), g2.le (by omega), g3.le (by omega), g4.le (by omega), g5.le (by omega), g6.le (by omega), g7.le (by omega)⟩
  rw [hx]; rfl
end Go.Abs
set_option linter.unusedSimpArgs false
set_option linter.unusedVariables false
namespace Go.Abs
open Go Go.RowKit Go.Proofs Go.Lx Go.Pz
variable {w0 : World}

theorem toks_len : ∀ (n : Nat) (l : Bs) (s : List Tok), l.length ≤ n → toks l = .ok s → s.length ≤ l.length
  | n, [], s, _, h => by rw [toks_nil] at h; cases h; simp
  | 0, c :: r, s, hn, h => by simp at hn
  | n + 1, c :: r, s, hn, h => by
    by_cases hb : isB c = true
    · rw [toks_blank hb] at h
      have := toks_len n r s (by simpa using hn) h
      simp; omega
    · have hb : isB c = false := by simpa using hb
      cases ho : Lx.one (c :: r) with
      | error e => rw [toks_err hb ho] at h; cases h
      | ok y =>
        obtain ⟨tk, m⟩ := y
        rw [toks_tok hb ho] at h
        cases hr : toks (r.drop (m - 1)) with
        | error e => rw [hr] at h; cases h
        | ok s' =>
          rw [hr] at h
          cases h
          have := toks_len n _ s' (by simp at hn ⊢; omega) hr
          simp at this ⊢; omega
theorem tokens_len {l : Bs} {s : List Tok} (h : Lx.tokens l = .ok s) : s.length ≤ 4000 := by
  rw [Lx.tokens] at h
  split at h
  · cases h
  · have := toks_len _ l s (Nat.le_refl _) h
    omega

/-- What Tokens answers: frozen, and no nil where there are some. -/
theorem w19g (l : Bs) (S : Heap) : ACalls Tryz.prog (B0 w0) 19 [.str l] S fun e S' => S' = S ∧ (match Lx.tokens l with
    | .ok ts => ∃ v, TkV v ts ∧ e = .ret (.tuple [v, .int 0])
    | .error n => n ≠ 0 ∧ e = .ret (.tuple [.nilS, .int n])) := by
  refine ACalls.close (w19 l S) ?_
  intro e S' h
  cases hres : Lx.tokens l with
  | error n =>
    rw [hres] at h
    cases h with
    | err _ he S' hl ht =>
      refine .flat (List.ext_getElem? fun j => ?_) rfl ⟨rfl, he, rfl⟩
      rcases Nat.lt_or_ge j S.length with hj | hj
      · rw [List.getElem?_take_of_lt hj]; exact ht j hj
      · rw [List.getElem?_eq_none (by simp; omega), List.getElem?_eq_none hj]
  | ok ts =>
    rw [hres] at h
    cases h with
    | ok _ u S' ho =>
      have htake : ∀ S'' : Heap, S.length ≤ S''.length → (∀ j, j < S.length → S''[j]? = S[j]?) → S''.take S.length = S := fun S'' hl ht => by
        refine List.ext_getElem? fun j => ?_
        rcases Nat.lt_or_ge j S.length with hj | hj
        · rw [List.getElem?_take_of_lt hj]; exact ht j hj
        · rw [List.getElem?_eq_none (by simp; omega), List.getElem?_eq_none hj]
      have hap := ho.ap 0 _ _ _ rfl
      generalize hes : toksV ts = es at *
      have hsc : ∀ n, scLL n es = true := fun n => hes ▸ toksV_sc ts n
      cases hap with
      | none fl hf =>
        refine .flat (htake _ ho.le ho.low) (by simp) ⟨rfl, .list fl [], ⟨fl, by rw [hes], fun hne => ?_⟩, rfl⟩
        cases ts with
        | nil => exact absurd rfl hne
        | cons t r => simp [toksV] at hes
      | row id off len es0 cap hN hS hl =>
        refine .frz id 4 es0 cap hS ?_
        refine .flat (htake _ (by simpa using ho.le) fun j hj => ?_) ?_ ⟨rfl, .list .unk ((es0.drop off).take len), ⟨.unk, by rw [hes], fun _ => by simp⟩, ?_⟩
        · rw [List.getElem?_set_ne (by omega)]; exact ho.low j hj
        · simpa [hl] using hsc S.length
        · simp [hl, hes]

/-! ### A statement, frozen -/
def FC (st : Stm) (c : List AVal) : Prop := ∃ vC vN vR vI vF vO vS, c = [.int st.kind, .str st.table, .str st.index, vC, vN, .bool st.uniq, vR, vI, vF] ++ exC st.wher ++ [vO, vS] ∧
  (∃ fl, vC = .list fl (pcolsC st.cols)) ∧ (∃ fl, vN = .list fl (namesC st.names)) ∧ (∃ fl, vR = .list fl (rwsC st.rows)) ∧ (∃ fl, vI = .list fl (itmsC st.items)) ∧ (∃ fl, vF = .list fl (srcsC st.src)) ∧ (∃ fl, vO = .list fl (srtsC st.order)) ∧ (∃ fl, vS = .list fl (asnsC st.sets))

theorem Vk.fz {N k : Nat} {S : Heap} {v : AVal} {es} (h : Vk N k S v es) {id : Nat} {o : AObj} {es0 : List (List AVal)} {k0 : Nat} {cap : Option Nat} (hS : S[id]? = some (.cells k0 es0 cap)) (h0 : o = .dead) : Vk N k (S.set id o) (v.fz id es0) es := by
  rcases h with h | ⟨fl, rfl⟩
  · cases h with
    | none fl hf => exact .inr ⟨fl, rfl⟩
    | row i off len es1 cap1 hN hS1 hl =>
      by_cases hi : i = id
      · subst hi
        rw [hS] at hS1
        simp only [Option.some.injEq, AObj.cells.injEq] at hS1
        obtain ⟨rfl, rfl, rfl⟩ := hS1
        exact .inr ⟨.unk, by simp [hl]⟩
      · left
        simp only [AVal.fz]
        rw [if_neg (fun h => hi h.1)]
        exact .row i off len es1 cap1 hN (by rw [List.getElem?_set_ne (Ne.symm hi)]; exact hS1) hl
  · exact .inr ⟨fl, rfl⟩

theorem Closes.all {S : Heap} {R : AEnd → Heap → Prop} (F : List AVal → AEnd) (hF : ∀ id es vs, (F vs).fz id es = F (vs.map (AVal.fz id es))) :
    ∀ (n : Nat) (rest : List (Nat × AVal × List (List AVal))) (done : List (AVal × List (List AVal))) (S' : Heap), rest.length = n → S'.take S.length = S → (∀ x ∈ done, ∃ fl, x.1 = .list fl x.2) → (∀ x ∈ rest, Vk S.length x.1 S' x.2.1 x.2.2) →
    (∀ vs : List AVal, vs.length = done.length + rest.length → (∀ i (h : i < (done.map (·.2) ++ rest.map (·.2.2)).length), ∃ fl, vs.getD i .top = .list fl ((done.map (·.2) ++ rest.map (·.2.2))[i])) → (F vs).sc S.length = true ∧ R (F vs) S) →
    Closes S (F (done.map (·.1) ++ rest.map (·.2.1))) S' R
  | 0, [], done, S', hn, ht, hd, hr, hR => by
    obtain ⟨h1, h2⟩ := hR (done.map (·.1)) (by simp) fun i h => by
      have hi : i < done.length := by simpa using h
      obtain ⟨fl, e⟩ := hd done[i] (List.getElem_mem hi)
      exact ⟨fl, by simp [List.getD_eq_getElem?_getD, hi, e]⟩
    simpa using Closes.flat ht (by simpa using h1) (by simpa using h2)
  | n + 1, (k, v, es) :: rest, done, S', hn, ht, hd, hr, hR => by
    have next : ∀ (S'' : Heap) (rest' : List (Nat × AVal × List (List AVal))) (fl : Fl), S''.take S.length = S → (∀ x ∈ rest', Vk S.length x.1 S'' x.2.1 x.2.2) → rest'.map (·.2.2) = rest.map (·.2.2) →
        Closes S (F ((done.map (·.1)) ++ .list fl es :: rest'.map (·.2.1))) S'' R := fun S'' rest' fl ht' hr' he => by
      have hlen : rest'.length = rest.length := by simpa using congrArg List.length he
      have := Closes.all (S := S) (R := R) F hF n rest' (done ++ [(.list fl es, es)]) S'' (by simp at hn; omega) ht' (fun x hx => by
        simp only [List.mem_append, List.mem_singleton] at hx
        rcases hx with hx | rfl
        · exact hd x hx
        · exact ⟨fl, rfl⟩) hr' fun vs hvs h => hR vs (by simp at hvs ⊢; omega) fun i hi => by
          have e2 : (done ++ [(AVal.list fl es, es)]).map (·.2) ++ rest'.map (·.2.2) = done.map (·.2) ++ ((k, v, es) :: rest).map (·.2.2) := by simp [he]
          have := h i (by rw [e2]; exact hi)
          simpa [e2, he] using this
      simpa using this
    rcases hr (k, v, es) (by simp) with h | ⟨fl, e⟩
    · simp only at h
      generalize hv : v = v' at h
      generalize hes : es = es' at h
      cases h with
      | none fl hf =>
        subst hv hes
        simpa using next S' rest fl ht (fun x hx => hr x (by simp [hx])) rfl
      | row id off len es1 cap1 hN hS1 hl =>
        subst hv
        refine .frz id k es1 cap1 hS1 ?_
        rw [hF]
        have e3 : ((done.map (·.1) ++ ((k, AVal.row id off len, es) :: rest).map (·.2.1)).map (AVal.fz id es1)) = done.map (·.1) ++ .list .unk es :: (rest.map fun x => (x.1, x.2.1.fz id es1, x.2.2)).map (·.2.1) := by
          simp only [List.map_append, List.map_cons, List.map_map]
          congr 1
          · refine List.map_congr_left fun x hx => ?_
            obtain ⟨fl, e⟩ := hd x hx
            simp [e]
          · congr 1
            simp [hl, hes]
        rw [← hes, e3]
        refine next (S'.set id .dead) (rest.map fun x => (x.1, x.2.1.fz id es1, x.2.2)) .unk ?_ ?_ (by simp)
        · refine List.ext_getElem? fun j => ?_
          rcases Nat.lt_or_ge j S.length with hj | hj
          · rw [List.getElem?_take_of_lt hj, List.getElem?_set_ne (by omega), ← List.getElem?_take_of_lt hj, ht]
          · rw [List.getElem?_eq_none (by simp; omega), List.getElem?_eq_none hj]
        · intro x hx
          obtain ⟨y, hy, rfl⟩ := List.mem_map.1 hx
          exact (hr y (by simp [hy])).fz hS1 rfl
    · simp only at e
      subst e
      simpa using next S' rest fl ht (fun x hx => hr x (by simp [hx])) rfl
end Go.Abs
set_option linter.unusedSimpArgs false
set_option linter.unusedVariables false
namespace Go.Abs
open Go Go.RowKit Go.Proofs Go.Lx Go.Pz
variable {w0 : World}

theorem scLL_map {α : Type} {n : Nat} {f : α → List AVal} (h : ∀ x, scL n (f x) = true) : ∀ (l : List α), scLL n (l.map f) = true
  | [] => rfl
  | x :: r => by simp only [List.map_cons, scLL, Bool.and_eq_true]; exact ⟨h x, scLL_map h r⟩
theorem scL_app {n : Nat} : ∀ (a b : List AVal), scL n a = true → scL n b = true → scL n (a ++ b) = true
  | [], b, _, h => h
  | x :: r, b, h, h' => by
    simp only [List.cons_append, scL, Bool.and_eq_true] at h ⊢
    exact ⟨h.1, scL_app r b h.2 h'⟩
theorem exC_fz (id : Nat) (es : List (List AVal)) (x : Ex) : (exC x).map (AVal.fz id es) = exC x := by
  have := fzL_sc (n := 0) (id := id) (es := es) (Nat.zero_le _) _ (exC_sc 0 x)
  rwa [fzL_eq] at this

def F7 (st : Stm) : List AVal → AEnd
  | [vC, vN, vR, vI, vF, vO, vS] => .ret (.tuple [.agg ([.int st.kind, .str st.table, .str st.index, vC, vN, .bool st.uniq, vR, vI, vF] ++ exC st.wher ++ [vO, vS]), .int 0])
  | _ => .ret (.int 0)
theorem F7_fz (st : Stm) (id : Nat) (es : List (List AVal)) (vs : List AVal) : (F7 st vs).fz id es = F7 st (vs.map (AVal.fz id es)) := by
  match vs with
  | [] => rfl
  | [_] => rfl
  | [_, _] => rfl
  | [_, _, _] => rfl
  | [_, _, _, _] => rfl
  | [_, _, _, _, _] => rfl
  | [_, _, _, _, _, _] => rfl
  | [vC, vN, vR, vI, vF, vO, vS] =>
    simp only [F7, List.map_cons, List.map_nil, AEnd.fz, AVal.fz, fzL_eq, List.map_append, exC_fz]
  | _ :: _ :: _ :: _ :: _ :: _ :: _ :: _ :: _ => rfl

/-- What Parse answers. -/
def PaR (S : Heap) (x : Bs) (e : AEnd) (S' : Heap) : Prop :=
  S' = S ∧ match Pz.parse resv x with
    | .ok st => ∃ c, e = .ret (.tuple [.agg c, .int 0]) ∧ FC st c
    | .error n => e = .ret (.tuple [.agg z18, .int n])
def Pa9 (S : Heap) (x : Bs) (e : AEnd) (S' : Heap) : Prop :=
  S'.take S.length = S ∧ match Pz.parse resv x with
    | .ok st => ∃ c, e = .ret (.tuple [.agg c, .int 0]) ∧ SC S.length S' st c
    | .error n => e = .ret (.tuple [.agg z18, .int n])
theorem pa9_close {S : Heap} {x : Bs} {e : AEnd} {S' : Heap} (h : Pa9 S x e S') : Closes S e S' (PaR S x) := by
  obtain ⟨ht, h⟩ := h
  cases hp : Pz.parse resv x with
  | error n =>
    rw [hp] at h
    simp only at h
    subst h
    exact .flat ht rfl ⟨rfl, by rw [hp]⟩
  | ok st =>
    rw [hp] at h
    obtain ⟨c, rfl, vC, vN, vR, vI, vF, vO, vS, rfl, h1, h2, h3, h4, h5, h6, h7⟩ := h
    have := Closes.all (S := S) (R := PaR S x) (F7 st) (F7_fz st) 7 [(3, vC, pcolsC st.cols), (1, vN, namesC st.names), (1, vR, rwsC st.rows), (8, vI, itmsC st.items), (9, vF, srcsC st.src), (8, vO, srtsC st.order), (8, vS, asnsC st.sets)] [] S' rfl ht
      (by simp) (by
        intro y hy
        simp only [List.mem_cons, List.mem_nil_iff, or_false] at hy
        rcases hy with rfl | rfl | rfl | rfl | rfl | rfl | rfl <;> assumption) (by
        intro vs hl hv
        match vs, hl with
        | [a, b, c, d, e, f, g], _ =>
          obtain ⟨f1, e1⟩ := hv 0 (by simp)
          obtain ⟨f2, e2⟩ := hv 1 (by simp)
          obtain ⟨f3, e3⟩ := hv 2 (by simp)
          obtain ⟨f4, e4⟩ := hv 3 (by simp)
          obtain ⟨f5, e5⟩ := hv 4 (by simp)
          obtain ⟨f6, e6⟩ := hv 5 (by simp)
          obtain ⟨f7, e7⟩ := hv 6 (by simp)
          simp at e1 e2 e3 e4 e5 e6 e7
          subst e1 e2 e3 e4 e5 e6 e7
          have s1 : scLL S.length (pcolsC st.cols) = true := scLL_map (fun x => by simp [pcolC, scL, AVal.sc]) _
          have s2 : scLL S.length (namesC st.names) = true := scLL_map (fun x => by simp [scL, AVal.sc]) _
          have s3 : scLL S.length (rwsC st.rows) = true := scLL_map (fun x => by
            have : scLL S.length (exlC x) = true := scLL_map (fun x => exC_sc _ x) _
            simp [scL, AVal.sc, this]) _
          have s4 : scLL S.length (itmsC st.items) = true := scLL_map (fun x => scL_app _ _ (exC_sc _ _) (by simp [scL, AVal.sc])) _
          have s5 : scLL S.length (srcsC st.src) = true := scLL_map (fun x => by simp [srcC, scL, AVal.sc]) _
          have s6 : scLL S.length (srtsC st.order) = true := scLL_map (fun x => scL_app _ _ (exC_sc _ _) (by simp [scL, AVal.sc])) _
          have s7 : scLL S.length (asnsC st.sets) = true := scLL_map (fun x => by simp [asnC, scL, AVal.sc]) _
          refine ⟨?_, rfl, ?_⟩
          · have : scL S.length ([.int st.kind, .str st.table, .str st.index, .list f1 (pcolsC st.cols), .list f2 (namesC st.names), .bool st.uniq, .list f3 (rwsC st.rows), .list f4 (itmsC st.items), .list f5 (srcsC st.src)] ++ exC st.wher ++ [.list f6 (srtsC st.order), .list f7 (asnsC st.sets)]) = true :=
              scL_app _ _ (scL_app _ _ (by simp [scL, AVal.sc, s1, s2, s3, s4, s5]) (exC_sc _ _)) (by simp [scL, AVal.sc, s6, s7])
            simp only [F7, AEnd.sc, AVal.sc, scL, this, Bool.and_self]
          · rw [hp]
            exact ⟨_, rfl, _, _, _, _, _, _, _, rfl, ⟨f1, rfl⟩, ⟨f2, rfl⟩, ⟨f3, rfl⟩, ⟨f4, rfl⟩, ⟨f5, rfl⟩, ⟨f6, rfl⟩, ⟨f7, rfl⟩⟩)
    exact this
end Go.Abs
set_option linter.unusedSimpArgs false
set_option linter.unusedVariables false
namespace Go.Abs
open Go Go.RowKit Go.Proofs Go.Lx Go.Pz
variable {w0 : World}

theorem call20 : callable Tryz.prog 20 = true := by kernel_rfl

/-- A trouble, recovered. -/
theorem d20p {x : Bs} {S H : Heap} {cd z : Int} {c : List AVal} {a : Tmps} {G : Nat → AVal} (hc : c.length = 18) (h1 : H[S.length]? = some (.cells 18 [c] (some 1))) (h2 : H[S.length + 1]? = some (.cells 1 [[.int z]] (some 1))) (ht : H.take S.length = S)
    (b2 : get a 2 = .ptr S.length 0 0) (b3 : get a 3 = .ptr (S.length + 1) 0 0) (hp : Pz.parse resv x = .error cd) :
    dPost Tryz.prog (B0 w0) [.cell 2 true 18, .cell 3 false 1] (f20 G) [.ptr S.length 0 0, .ptr (S.length + 1) 0 0] (Pa9 S x) (.panic (trb cd)) a H := by
  have l1 := lt_of_some h1
  have l2 := lt_of_some h2
  have n1 : S.length + 1 ≠ S.length := by omega
  have hg := hmoreG (S := H) l1
  have hg2 := hmoreG (S := H) l2
  have e1 : ∀ o o', (H ++ [o]).set S.length o' = H.set S.length o' ++ [o] := fun o o' => List.set_append_left _ _ l1
  have e2 : ∀ o o' o'', (H.set S.length o' ++ [o]).set (S.length + 1) o'' = (H.set S.length o').set (S.length + 1) o'' ++ [o] := fun o o' o'' => List.set_append_left _ _ (by simpa using l2)
  have e3 : ∀ o o', (H.set S.length o' ++ [o])[S.length + 1]? = some (.cells 1 [[.int z]] (some 1)) := fun o o' => by rw [List.getElem?_append_left (by simpa using l2), List.getElem?_set_ne (Ne.symm n1)]; exact h2
  have e4 : ∀ o o', (H.set S.length o' ++ [o])[H.length]? = some o := fun o o' => by rw [List.getElem?_append_right (by simp)]; simp
  have e5 : ∀ o o' o'', ((H.set S.length o').set (S.length + 1) o'' ++ [o])[S.length]? = some o' := fun o o' o'' => by rw [List.getElem?_append_left (by simpa using l1), List.getElem?_set_ne n1, List.getElem?_set_self l1]
  have e6 : ∀ o o' o'', ((H.set S.length o').set (S.length + 1) o'' ++ [o])[S.length + 1]? = some o'' := fun o o' o'' => by rw [List.getElem?_append_left (by simpa using l2), List.getElem?_set_self (by simpa using l2)]
  have e7 : ∀ o o' o'', ((H.set S.length o').set (S.length + 1) o'' ++ [o]).take S.length = S := fun o o' o'' => by
    rw [List.take_append_of_le_length (by simp; omega), List.take_set_of_le (by omega), List.take_set_of_le (by omega), ht]
  simp only [dPost]
  unfold defWp
  simp [-appendR, f20, f20m, trb, h1, h2, hg, hg2, hc, e1, e2, e3, e4, e5, e6, b2, b3]
  refine ⟨e7 _ _ _, ?_⟩
  rw [hp]
end Go.Abs
set_option linter.unusedSimpArgs false
set_option linter.unusedVariables false
namespace Go.Abs
open Go Go.RowKit Go.Proofs Go.Lx Go.Pz
variable {w0 : World}

set_option maxHeartbeats 2000000 in
theorem w9 (x : Bs) (S : Heap) : ACalls Tryz.prog (B0 w0) 9 [.str x] S (PaR S x) := by
  refine ACalls.close (R := Pa9 S x) ?_ (fun e S' h => pa9_close h)
  refine fnD_sound tryOrd (f9_c _) (by simp [f9]) ?_
  simp [-appendR, f9, mwpL, f9p0, f9p1]
  refine (w19g x _).use ?_
  rintro e S1 ⟨rfl, h1⟩
  cases hT : Lx.tokens x with
  | error n =>
    rw [hT] at h1
    obtain ⟨hn, rfl⟩ := h1
    have hb : (n != 0) = true := by simp [hn]
    simp [-appendR, f9p2, hb, mwpL]
    refine ⟨by simp, ?_⟩
    rw [Pz.parse, hT]
  | ok ts =>
    rw [hT] at h1
    obtain ⟨v, hv, rfl⟩ := h1
    have hlen := tokens_len hT
    have hpz : Pz.parse resv x = parseT resv ts := by rw [Pz.parse, hT]
    simp [-appendR, f9p2, mwpL, hv.one.1, hv.one.2.1]
    refine ⟨20, [], _, ⟨rfl, rfl, rfl⟩, f20 _, f20_c _, by simp [f20], call20, ?_⟩
    simp [-appendR, f9m, hv.one.1, hv.one.2.1]
    obtain ⟨H, hH⟩ : ∃ H, H = S ++ [AObj.cells 18 [z18] (some 1), .cells 1 [[.int 0]] (some 1), .cells 3 [[v, .int 0, .int 0]] (some 1)] := ⟨_, rfl⟩
    have hHl : H.length = S.length + 3 := by rw [hH]; simp
    have hat : At H (S.length + 2) ts 0 0 := ⟨_, by rw [hH, List.getElem?_append_right (by omega)]; simp, v, hv, rfl⟩
    rw [← hH]
    refine (w21 (N := ts.length + 1) (s := ⟨ts, 0⟩) hat (Nat.lt_succ_self _) (by omega)).use ?_
    rintro e H2 h2
    have kept : Kpt (S.length + 2) H H2 → H2[S.length]? = some (.cells 18 [z18] (some 1)) ∧ H2[S.length + 1]? = some (.cells 1 [[.int 0]] (some 1)) ∧ H2.take S.length = S := fun hk => by
      refine ⟨?_, ?_, ?_⟩
      · rw [hk.2 _ (by omega) (by omega), hH]; simp
      · rw [hk.2 _ (by omega) (by omega), hH, List.getElem?_append_right (by omega)]; simp
      · refine List.ext_getElem? fun j => ?_
        rcases Nat.lt_or_ge j S.length with hj | hj
        · rw [List.getElem?_take_of_lt hj, hk.2 j (by omega) (by omega), hH, List.getElem?_append_left hj]
        · rw [List.getElem?_eq_none (by simp; omega), List.getElem?_eq_none hj]
    cases hst : stmtS resv (ts.length + 1) ⟨ts, 0⟩ with
    | error cd =>
      rw [hst] at h2
      obtain ⟨rfl, hk⟩ := h2
      obtain ⟨k1, k2, k3⟩ := kept hk
      simp
      exact d20p rfl k1 k2 k3 (by simp) (by simp) (by rw [hpz, parseT, hst])
    | ok y =>
      obtain ⟨st, s⟩ := y
      rw [hst] at h2
      obtain ⟨c, rfl, ha, hk, hsc⟩ := h2
      obtain ⟨k1, k2, k3⟩ := kept hk
      have hpt : Pz.parse resv x = if s.l ≠ [] then .error 130 else if 40 < s.d then .error 5 else .ok st := by rw [hpz, parseT, hst]
      have hsc0 := hsc
      obtain ⟨vC, vN, vR, vI, vF, vO, vS, rfl, g1, g2, g3, g4, g5, g6, g7⟩ := hsc
      obtain ⟨op, vv, kind, num, scale, text, qual, hx, o1, o2⟩ := exC_shape st.wher
      obtain ⟨v2, hv2, hat2⟩ := ha.get
      obtain ⟨c, hc⟩ : ∃ c : List AVal, c = [.int st.kind, .str st.table, .str st.index, vC, vN, .bool st.uniq, vR, vI, vF] ++ exC st.wher ++ [vO, vS] := ⟨_, rfl⟩
      have hc2 : c = [.int st.kind, .str st.table, .str st.index, vC, vN, .bool st.uniq, vR, vI, vF, .int op, vv, .int kind, .int num, .int scale, .str text, .str qual, vO, vS] := by rw [hc, hx]; rfl
      have hcl : c.length = 18 := by rw [hc2]; rfl
      have hco : c.all AVal.one = true := by rw [hc2]; simp [g1.one.1, g2.one.1, g3.one.1, g4.one.1, g5.one.1, g6.one.1, g7.one.1, o1]
      rw [← hc] at hsc0 ⊢
      clear hc hc2
      have l1 := lt_of_some k1
      have l2 := lt_of_some k2
      obtain ⟨H3, hH3⟩ : ∃ H3, H3 = H2.set S.length (.cells 18 [c] (some 1)) := ⟨_, rfl⟩
      have m1 : H3[S.length]? = some (.cells 18 [c] (some 1)) := by rw [hH3, List.getElem?_set_self l1]
      have m2 : H3[S.length + 1]? = some (.cells 1 [[.int 0]] (some 1)) := by rw [hH3, List.getElem?_set_ne (by omega)]; exact k2
      have m3 : H3.take S.length = S := by rw [hH3, List.take_set_of_le (by omega), k3]
      have m4 : H3[S.length + 2]? = some (.cells 3 [[v2, .int 0, .int s.d]] (some 1)) := by rw [hH3, List.getElem?_set_ne (by omega)]; exact hat2
      have hsc3 : SC S.length H3 st c := by
        have := hsc0.k2 (S' := H3) (pid := S.length + 2) (sid := S.length) (M' := H.length) ⟨by rw [hH3]; simp, fun j hj _ j2 => by rw [hH3, List.getElem?_set_ne (Ne.symm j2)]⟩ (by omega) (by omega) (Nat.le_refl _)
        exact this.k2 (pid := S.length + 2) (sid := S.length) (Kst.refl _ _ _) (by omega) (by omega) (by omega)
      have hll := fun S => hv2.lenR S
      simp [-appendR, k1, hcl, hco]
      rw [← hH3]
      simp [-appendR, hat2, m4, hll]
      have hex : ∀ {cd : Int} {a : Tmps}, get a 2 = .ptr S.length 0 0 → get a 3 = .ptr (S.length + 1) 0 0 → Pz.parse resv x = .error cd → ACalls Tryz.prog (B0 w0) 22 [.int cd] H3 fun e S' => @afterE e S' ⟨fun _ _ => False⟩ ⟨fun v S' => dPost Tryz.prog (B0 w0) [.cell 2 true 18, .cell 3 false 1] (f20 fun x => AVal.top) [.ptr S.length 0 0, .ptr (S.length + 1) 0 0] (Pa9 S x) (.panic v) a S'⟩ := fun b2 b3 hp => by
        refine (w22 _ _).use ?_
        rintro e S3 ⟨rfl, rfl⟩
        simp only [afterE_panic]
        exact d20p hcl m1 m2 m3 b2 b3 hp
      cases hl : s.l with
      | cons t r =>
        rw [hl, if_pos (by simp)] at hpt
        have h0 : (0 : Int) < (r.length : Int) + 1 := by omega
        simp [h0]
        refine (w22 _ _).use ?_
        rintro e S3 ⟨rfl, rfl⟩
        simp
        exact d20p hcl m1 m2 m3 (by simp) (by simp) hpt
      | nil =>
        rw [hl, if_neg (by simp)] at hpt
        simp [-appendR, m4]
        by_cases hd : 40 < s.d
        · rw [if_pos hd] at hpt
          have hd' : (40 : Int) < (s.d : Int) := by omega
          simp [hd']
          refine (w22 _ _).use ?_
          rintro e S3 ⟨rfl, rfl⟩
          simp
          exact d20p hcl m1 m2 m3 (by simp) (by simp) hpt
        · rw [if_neg hd] at hpt
          have hd' : ¬ (40 : Int) < (s.d : Int) := by omega
          have l1' := lt_of_some m1
          have l2' := lt_of_some m2
          have q1 : H3.set S.length (.cells 18 [c] (some 1)) = H3 := by rw [hH3, List.set_set]
          have q2 : H3.set (S.length + 1) (.cells 1 [[.int 0]] (some 1)) = H3 := by
            refine List.ext_getElem? fun j => ?_
            by_cases hj : j = S.length + 1
            · subst hj; rw [List.getElem?_set_self l2', m2]
            · rw [List.getElem?_set_ne (Ne.symm hj)]
          simp [-appendR, hd', m1, m2, hcl, hco, q1, q2, dPost, defWp, f20, f20m]
          refine ⟨m3, ?_⟩
          rw [hpt]
          exact ⟨c, rfl, hsc3⟩
end Go.Abs
set_option linter.unusedSimpArgs false
set_option linter.unusedVariables false
namespace Go.Abs
open Go Go.RowKit Go.Proofs Go.Lx Go.Pz
variable {w0 : World}

def toksF : Nat → Bs → Except Int (List Tok)
  | 0, _ => .error 0
  | _ + 1, [] => .ok []
  | n + 1, c :: r => if isB c then toksF n r else
    match Lx.one (c :: r) with
    | .error e => .error e
    | .ok (t, m) => match toksF n (r.drop (m - 1)) with
      | .error e => .error e
      | .ok ts => .ok (t :: ts)
theorem toksF_eq : ∀ (n : Nat) (l : Bs), l.length < n → toksF n l = toks l
  | 0, l, h => by omega
  | n + 1, [], h => by rw [toks_nil]; rfl
  | n + 1, c :: r, h => by
    by_cases hb : isB c = true
    · rw [toksF, if_pos hb, toks_blank hb]
      exact toksF_eq n r (by simpa using h)
    · have hb : isB c = false := by simpa using hb
      rw [toksF, if_neg (by simp [hb])]
      cases ho : Lx.one (c :: r) with
      | error e => rw [toks_err hb ho]
      | ok y =>
        obtain ⟨tk, m⟩ := y
        simp only
        rw [toks_tok hb ho, toksF_eq n _ (by simp at h ⊢; omega)]
        cases toks (List.drop (m - 1) r) <;> rfl

def txA : Bs := [68, 69, 76, 69, 84, 69, 32, 70, 82, 79, 77, 32, 116, 32, 87, 72, 69, 82, 69, 32, 78, 79, 84, 32, 97, 32, 61, 32, 45, 49, 32, 43, 32, 98, 32, 42, 32, 50]
def txB : Bs := [83, 69, 76, 69, 67, 84, 32, 97, 32, 70, 82, 79, 77]
def stA : Stm := { kind := 8, table := [116], wher := .un 16 (.bin 1 (.col [97] []) (.bin 7 (.un 13 (.const 2 1 0 [])) (.bin 9 (.col [98] []) (.const 2 2 0 [])))) }
def parseF (n : Nat) (x : Bs) : Except Int Stm := match toksF n x with
  | .error c => .error c
  | .ok ts => parseT resv ts
theorem parseF_eq {n : Nat} {x : Bs} (h : x.length < n) (h' : x.length ≤ 4000) : Pz.parse resv x = parseF n x := by
  rw [Pz.parse, Lx.tokens, if_neg (by omega), ← toksF_eq n x h, parseF]
  cases toksF n x <;> rfl
theorem pzA : parseF 100 txA = .ok stA := by kernel_rfl
theorem pzB : parseF 100 txB = .error 130 := by kernel_rfl
theorem parseA : Pz.parse resv txA = .ok stA := by
  rw [parseF_eq (n := 100) (by decide) (by decide), pzA]
theorem parseB : Pz.parse resv txB = .error 130 := by
  rw [parseF_eq (n := 100) (by decide) (by decide), pzB]

set_option maxHeartbeats 4000000 in
/-- The examples hold. -/
theorem w8 (S : Heap) : ACalls Tryz.prog (B0 w0) 8 [] S fun e S' => e = .ret (.bool true) ∧ S' = S := by
  refine ACalls.close (R := fun e S' => e = .ret (.bool true) ∧ S'.take S.length = S) ?_ ?_
  rotate_left 1
  · rintro e S' ⟨rfl, ht⟩
    exact .flat ht rfl ⟨rfl, rfl⟩
  refine fn_sound tryOrd (f8_c _) (by simp [f8]) ?_
  simp [-appendR, f8, f8m]
  refine (w9 txA _).use ?_
  rintro e S1 ⟨rfl, h1⟩
  rw [parseA] at h1
  obtain ⟨c, rfl, vC, vN, vR, vI, vF, vO, vS, rfl, ⟨f1, rfl⟩, ⟨f2, rfl⟩, ⟨f3, rfl⟩, ⟨f4, rfl⟩, ⟨f5, rfl⟩, ⟨f6, rfl⟩, ⟨f7, rfl⟩⟩ := h1
  obtain ⟨op, vv, kind, num, scale, text, qual, hx, o1, o2⟩ := exC_shape stA.wher
  have hx2 : exC stA.wher = [.int 16, .list .full [[.int 1, .list .full [exC (.col [97] []), [.int 7, .list .full [exC (.un 13 (.const 2 1 0 [])), exC (.bin 9 (.col [98] []) (.const 2 2 0 []))], .int 0, .int 0, .int 0, .str [], .str []]], .int 0, .int 0, .int 0, .str [], .str []]], .int 0, .int 0, .int 0, .str [], .str []] := by
    simp [stA, exC, exsV, exsL]
  simp [-appendR, hx2]
  refine (w9 txB _).use ?_
  rintro e S2 ⟨rfl, h2⟩
  rw [parseB] at h2
  subst h2
  simp [-appendR, hx2, stA]
  have h18 := w18 (w0 := w0) 10 (by decide) stA.wher (by decide)
  rw [hx2] at h18
  refine (h18 _).use ?_
  rintro e S3 ⟨rfl, rfl⟩
  have hd : stA.wher.depth = 4 := by kernel_rfl
  simp [hd]
end Go.Abs
