/- The document's parser: queries, statements, Parse. Conditions: none but the lengths; definitions and lemmas. -/
import Derived.Test.YtcogkenmdbaiiaaGreatDoorMR
set_option linter.unusedSimpArgs false
set_option linter.unusedVariables false
namespace Go.Abs
open Go Go.RowKit Go.Proofs Go.Lx Go.Pz
variable {w0 : World}

theorem item_law {N : Nat} {s : Sta} {xs : List Itm} {x : Ex} {n : Bs} {q1 q2 : QS} (hx : Gd (liftS (whole resv N) (.ok s)) x) (h1 : q1 = stq (liftS (whole resv N) (.ok s))) (hn : Gd (liftS (aliasS resv) q1) n) (h2 : q2 = stq (liftS (aliasS resv) q1)) :
    q2 = stq (itemS resv N xs s) ∧ Gd (itemS resv N xs s) (xs ++ [⟨x, n⟩]) := by
  have e : itemS resv N xs s = liftS (fun s => .ok (xs ++ [⟨x, n⟩], s)) q2 := by
    rw [itemS, show whole resv N s = liftS (whole resv N) (.ok s) from rfl, bindS_law hx, ← h1, liftS_bind hn, ← h2]
  rw [e]
  exact ⟨liftS_ret.1.symm, liftS_ret.2⟩
theorem sort_law {N : Nat} {s : Sta} {xs : List Srt} {x : Ex} {q1 q2 : QS} (hx : Gd (liftS (whole resv N) (.ok s)) x) (h1 : q1 = stq (liftS (whole resv N) (.ok s))) (h2 : q2 = gotS 1 [100, 101, 115, 99] q1) :
    q2 = stq (sortS resv N xs s) ∧ Gd (sortS resv N xs s) (xs ++ [⟨x, isS 1 [100, 101, 115, 99] q1⟩]) := by
  rw [sortS, show whole resv N s = liftS (whole resv N) (.ok s) from rfl, bindS_law hx, ← h1, h2]
  cases q1 with
  | error c => exact ⟨rfl, Gd.er⟩
  | ok s1 => exact ⟨rfl, Gd.self⟩
theorem set_law {N : Nat} {s : Sta} {xs : List Asn} {x : Ex} {n : Bs} {q1 q2 q3 : QS} (hn : Gd (liftS (nameS resv) (.ok s)) n) (h1 : q1 = stq (liftS (nameS resv) (.ok s))) (h2 : q2 = mustS 5 [61] q1) (hx : Gd (liftS (whole resv N) q2) x) (h3 : q3 = stq (liftS (whole resv N) q2)) :
    q3 = stq (setS resv N xs s) ∧ Gd (setS resv N xs s) (xs ++ [⟨n, x⟩]) := by
  have e : setS resv N xs s = liftS (fun s => .ok (xs ++ [⟨n, x⟩], s)) q3 := by
    rw [setS, show nameS resv s = liftS (nameS resv) (.ok s) from rfl, bindS_law hn, ← h1, liftS_need, ← h2, liftS_bind hx, ← h3]
  rw [e]
  exact ⟨liftS_ret.1.symm, liftS_ret.2⟩

section
variable {S0 : Heap} {pid rid sid : Nat} {c0 : List AVal} (hc0 : c0.length = 18) {ts : List Tok} (hts : ts.length ≤ 4000) (hok : ∀ t ∈ ts, OkT t) (hp : pid < S0.length) (hs : sid < S0.length) (hps : pid ≠ sid)
include hc0 hts hok hp hs hps
set_option maxHeartbeats 4000000 in
/-- What a query answers. -/
theorem q53i {G : Nat → AVal} {m : Nat} {a : Tmps} {S' : Heap} {r : ResS (List Itm)} (h : LoH S0 pid rid sid c0 7 8 itmsC ts (itemS resv (ts.length + 1)) 50 r m a S') :
    mwp (ACalls Tryz.prog (B0 w0)) (.block 0 (.loop (f53b0 G))) (LoP S0 pid rid sid c0 7 8 itmsC ts r) a S' := by
  simp only [mwp_block]
  refine mwp_loop (I := LoH S0 pid rid sid c0 7 8 itmsC ts (itemS resv (ts.length + 1)) 50 r) h ?_
  clear h
  rintro m a S' ⟨b0, b2, b3, x, q, hlj, hx⟩
  rcases hx with ⟨s, rfl, hm, hm1, hr⟩ | ⟨hm0, ⟨c, rfl⟩, hq, hg⟩
  rotate_left 1
  · obtain ⟨v, i, mm, h1, hb⟩ := hlj.at_.erE
    simp [f53b0, b0, b2, b3, h1, hb]
    exact ⟨by simp [b0], by simp [b2], by simp [b3], LoI.dead (m := m) hlj hq hg⟩
  have hxl : x.length + m = 50 := by simpa using hm
  obtain ⟨v, i, mm, h1⟩ := hlj.at_.okE
  simp [-appendR, f53b0, b0, b2, b3, h1]
  refine (q54 hts hok hlj.at_).use ?_
  rintro e S1 ⟨hst1, y, rfl, ha1, hgy⟩
  have hlj1 := hlj.step hst1 hp hps ha1
  obtain ⟨op, vy, kind, num, scale, text, qual, hy, o1, o2⟩ := exC_shape y
  simp [-appendR, hy, o1, putAt, splice, b0, b2, b3]
  refine (q91 hts (ha1.more _)).use ?_
  rintro e S2 ⟨hsq2, n, rfl, h2, hgn⟩
  obtain ⟨T2, rfl, hst2⟩ := hsq2.split ha1.lt
  have e2 := hst2.1
  have h2 := h2.less (hst2.1 ▸ ha1.lt)
  have hlj2 := hlj1.step hst2 hp hps h2
  obtain ⟨lw1, lw2⟩ := item_law (xs := x) hgy rfl hgn rfl
  obtain ⟨g, hgd⟩ : ∃ g, g = [AObj.cells 8 [[.int op, vy, .int kind, .int num, .int scale, .str text, .str qual, .str n]] (some 1)] := ⟨_, rfl⟩
  obtain ⟨ha, ⟨u, h3, h4⟩, h5⟩ := hlj2.more g
  rw [hc0] at h3
  obtain ⟨S4, a1, a2, a3, a4, a5, _⟩ := LJ.app2 (bytes := 104) hp hs hps ha (by rw [hc0]; exact h3) h4 h5 (x := itmC ⟨y, n⟩) (by simp [itmC]) (by decide) (by decide) (by simp; omega) (y := .list .full [itmC ⟨y, n⟩]) rfl
  rw [hc0] at a3 a5
  rw [itmsC_len] at a1 a5
  rw [← itmsC_snoc, lw1] at a5
  simp only [itmC, hy, List.cons_append, List.nil_append] at a1
  have hl4 := lt_of_some a3
  generalize hR : (T2 ++ g).length = R at *
  generalize hH : S4.set sid (.cells 18 [c0.set 7 (.row R 0 (x.length + 1))] (some 1)) = H at *
  have g4 : H[sid]? = some (.cells 18 [c0.set 7 (.row R 0 (x.length + 1))] (some 1)) := by rw [← hH, List.getElem?_set_self hl4]
  subst hgd
  simp [-appendR, o1, e2, b0, b2, b3, h3, hc0, a1, a3, hH, g4]
  refine (q55 hts a5.at_ (x.length + 1) 50).use ?_
  rintro e S5 ⟨hst5, rfl, h8⟩
  obtain ⟨nx1, nx2⟩ := LoI.next (r := r) hp hps a5 (by simpa using hm) hm1 hr lw2 (by simp) hst5 (n := x.length + 1) (by simp) h8
  generalize moreS (x.length + 1) 50 (stq (itemS resv (ts.length + 1) x s)) = M at *
  obtain ⟨b, q'⟩ := M
  cases b with
  | true =>
    obtain ⟨m', hm', nx⟩ := nx1 rfl
    simp [b0, b2, b3]
    exact ⟨m', hm', by simp [b0], by simp [b2], by simp [b3], nx⟩
  | false =>
    have nx := nx2 rfl
    simp [b0, b2, b3]
    exact ⟨by simp [b0], by simp [b2], by simp [b3], nx⟩
set_option maxHeartbeats 4000000 in
/-- A query's order. -/
theorem q53s {G : Nat → AVal} {m : Nat} {a : Tmps} {S' : Heap} {r : ResS (List Srt)} (h : LoH S0 pid rid sid c0 16 8 srtsC ts (sortS resv (ts.length + 1)) 50 r m a S') :
    mwp (ACalls Tryz.prog (B0 w0)) (.block 4 (.loop (f53b2 G))) (LoP S0 pid rid sid c0 16 8 srtsC ts r) a S' := by
  simp only [mwp_block]
  refine mwp_loop (I := LoH S0 pid rid sid c0 16 8 srtsC ts (sortS resv (ts.length + 1)) 50 r) h ?_
  clear h
  rintro m a S' ⟨b0, b2, b3, x, q, hlj, hx⟩
  rcases hx with ⟨s, rfl, hm, hm1, hr⟩ | ⟨hm0, ⟨c, rfl⟩, hq, hg⟩
  rotate_left 1
  · obtain ⟨v, i, mm, h1, hb⟩ := hlj.at_.erE
    simp [f53b2, b0, b2, b3, h1, hb]
    exact ⟨by simp [b0], by simp [b2], by simp [b3], LoI.dead (m := m) hlj hq hg⟩
  have hxl : x.length + m = 50 := by simpa using hm
  obtain ⟨v, i, mm, h1⟩ := hlj.at_.okE
  simp [-appendR, f53b2, b0, b2, b3, h1]
  refine (q54 hts hok hlj.at_).use ?_
  rintro e S1 ⟨hst1, y, rfl, ha1, hgy⟩
  have hlj1 := hlj.step hst1 hp hps ha1
  obtain ⟨op, vy, kind, num, scale, text, qual, hy, o1, o2⟩ := exC_shape y
  simp [-appendR, hy, o1, putAt, splice, b0, b2, b3]
  refine (q48 hts (ha1.more _) 1 _).use ?_
  rintro e S2 ⟨hsq2, rfl, h2⟩
  obtain ⟨T2, rfl, hst2⟩ := hsq2.split ha1.lt
  have e2 := hst2.1
  have h2 := h2.less (hst2.1 ▸ ha1.lt)
  have hlj2 := hlj1.step hst2 hp hps h2
  obtain ⟨lw1, lw2⟩ := sort_law (xs := x) hgy rfl rfl
  generalize isS 1 [100, 101, 115, 99] (stq (liftS (whole resv (ts.length + 1)) (.ok s))) = bd at *
  obtain ⟨g, hgd⟩ : ∃ g, g = [AObj.cells 8 [[.int op, vy, .int kind, .int num, .int scale, .str text, .str qual, .bool bd]] (some 1)] := ⟨_, rfl⟩
  obtain ⟨ha, ⟨u, h3, h4⟩, h5⟩ := hlj2.more g
  rw [hc0] at h3
  obtain ⟨S4, a1, a2, a3, a4, a5, _⟩ := LJ.app2 (bytes := 96) hp hs hps ha (by rw [hc0]; exact h3) h4 h5 (x := srtC ⟨y, bd⟩) (by simp [srtC]) (by decide) (by decide) (by simp; omega) (y := .list .full [srtC ⟨y, bd⟩]) rfl
  rw [hc0] at a3 a5
  rw [srtsC_len] at a1 a5
  rw [← srtsC_snoc, lw1] at a5
  simp only [srtC, hy, List.cons_append, List.nil_append] at a1
  have hl4 := lt_of_some a3
  generalize hR : (T2 ++ g).length = R at *
  generalize hH : S4.set sid (.cells 18 [c0.set 16 (.row R 0 (x.length + 1))] (some 1)) = H at *
  have g4 : H[sid]? = some (.cells 18 [c0.set 16 (.row R 0 (x.length + 1))] (some 1)) := by rw [← hH, List.getElem?_set_self hl4]
  subst hgd
  simp [-appendR, o1, e2, b0, b2, b3, h3, hc0, a1, a3, hH, g4]
  refine (q55 hts a5.at_ (x.length + 1) 50).use ?_
  rintro e S5 ⟨hst5, rfl, h8⟩
  obtain ⟨nx1, nx2⟩ := LoI.next (r := r) hp hps a5 (by simpa using hm) hm1 hr lw2 (by simp) hst5 (n := x.length + 1) (by simp) h8
  generalize moreS (x.length + 1) 50 (stq (sortS resv (ts.length + 1) x s)) = M at *
  obtain ⟨b, q'⟩ := M
  cases b with
  | true =>
    obtain ⟨m', hm', nx⟩ := nx1 rfl
    simp [b0, b2, b3]
    exact ⟨m', hm', by simp [b0], by simp [b2], by simp [b3], nx⟩
  | false =>
    have nx := nx2 rfl
    simp [b0, b2, b3]
    exact ⟨by simp [b0], by simp [b2], by simp [b3], nx⟩
set_option maxHeartbeats 4000000 in
/-- UPDATE's sets. -/
theorem q23z {G : Nat → AVal} {m : Nat} {a : Tmps} {S' : Heap} {r : ResS (List Asn)} (h : LoH S0 pid rid sid c0 17 8 asnsC ts (setS resv (ts.length + 1)) 50 r m a S') :
    mwp (ACalls Tryz.prog (B0 w0)) (.block 1 (.loop (f23b0 G))) (LoP S0 pid rid sid c0 17 8 asnsC ts r) a S' := by
  simp only [mwp_block]
  refine mwp_loop (I := LoH S0 pid rid sid c0 17 8 asnsC ts (setS resv (ts.length + 1)) 50 r) h ?_
  clear h
  rintro m a S' ⟨b0, b2, b3, x, q, hlj, hx⟩
  rcases hx with ⟨s, rfl, hm, hm1, hr⟩ | ⟨hm0, ⟨c, rfl⟩, hq, hg⟩
  rotate_left 1
  · obtain ⟨v, i, mm, h1, hb⟩ := hlj.at_.erE
    simp [f23b0, b0, b2, b3, h1, hb]
    exact ⟨by simp [b0], by simp [b2], by simp [b3], LoI.dead (m := m) hlj hq hg⟩
  have hxl : x.length + m = 50 := by simpa using hm
  obtain ⟨v, i, mm, h1⟩ := hlj.at_.okE
  simp [-appendR, f23b0, b0, b2, b3, h1]
  refine (q50 hts hlj.at_).use ?_
  rintro e S1 ⟨hst1, n, rfl, ha1, hgn⟩
  have hlj1 := hlj.step hst1 hp hps ha1
  simp [-appendR, b0, b2, b3]
  refine (q51 hts (ha1.more _) 5 _).use ?_
  rintro e S2 ⟨hsq2, rfl, h2⟩
  obtain ⟨T2, rfl, hst2⟩ := hsq2.split ha1.lt
  have e2 := hst2.1
  have h2 := h2.less (hst2.1 ▸ ha1.lt)
  have hlj2 := hlj1.step hst2 hp hps h2
  simp [-appendR, e2, b0, b2, b3]
  refine (q54 hts hok (h2.more _)).use ?_
  rintro e S3 ⟨hsq3, y, rfl, h3, hgy⟩
  obtain ⟨T3, rfl, hst3⟩ := hsq3.split h2.lt
  have e3 := hst3.1
  have h3 := h3.less (hst3.1 ▸ h2.lt)
  have hlj3 := hlj2.step hst3 hp hps h3
  obtain ⟨op, vy, kind, num, scale, text, qual, hy, o1, o2⟩ := exC_shape y
  obtain ⟨lw1, lw2⟩ := set_law (xs := x) hgn rfl rfl hgy rfl
  obtain ⟨g, hgd⟩ : ∃ g, g = [AObj.cells 8 [[.str n, .int op, vy, .int kind, .int num, .int scale, .str text, .str qual]] (some 1)] := ⟨_, rfl⟩
  obtain ⟨ha, ⟨u, h3, h4⟩, h5⟩ := hlj3.more g
  rw [hc0] at h3
  obtain ⟨S4, a1, a2, a3, a4, a5, _⟩ := LJ.app2 (bytes := 104) hp hs hps ha (by rw [hc0]; exact h3) h4 h5 (x := asnC ⟨n, y⟩) (by simp [asnC]) (by decide) (by decide) (by simp; omega) (y := .list .full [asnC ⟨n, y⟩]) rfl
  rw [hc0] at a3 a5
  rw [asnsC_len] at a1 a5
  rw [← asnsC_snoc, lw1] at a5
  simp only [asnC, hy, List.cons_append, List.nil_append] at a1
  have hl4 := lt_of_some a3
  generalize hR : (T3 ++ g).length = R at *
  generalize hH : S4.set sid (.cells 18 [c0.set 17 (.row R 0 (x.length + 1))] (some 1)) = H at *
  have g4 : H[sid]? = some (.cells 18 [c0.set 17 (.row R 0 (x.length + 1))] (some 1)) := by rw [← hH, List.getElem?_set_self hl4]
  subst hgd
  simp [-appendR, hy, o1, putAt, splice, e2, e3, b0, b2, b3, h3, hc0, a1, a3, hH, g4]
  refine (q55 hts a5.at_ (x.length + 1) 50).use ?_
  rintro e S5 ⟨hst5, rfl, h8⟩
  obtain ⟨nx1, nx2⟩ := LoI.next (r := r) hp hps a5 (by simpa using hm) hm1 hr lw2 (by simp) hst5 (n := x.length + 1) (by simp) h8
  generalize moreS (x.length + 1) 50 (stq (setS resv (ts.length + 1) x s)) = M at *
  obtain ⟨b, q'⟩ := M
  cases b with
  | true =>
    obtain ⟨m', hm', nx⟩ := nx1 rfl
    simp [b0, b2, b3]
    exact ⟨m', hm', by simp [b0], by simp [b2], by simp [b3], nx⟩
  | false =>
    have nx := nx2 rfl
    simp [b0, b2, b3]
    exact ⟨by simp [b0], by simp [b2], by simp [b3], nx⟩
end
end Go.Abs
set_option linter.unusedSimpArgs false
set_option linter.unusedVariables false
namespace Go.Abs
open Go Go.RowKit Go.Proofs Go.Lx Go.Pz
variable {w0 : World}

theorem Own.of1 {N k : Nat} {S : Heap} {v : AVal} {es : List (List AVal)} (hN : N ≤ S.length) (h : Ap N k S v es) : Own N S S [(v, k, es)] := by
  refine ⟨hN, fun _ _ => rfl, fun i u k' es' hi => ?_, fun i j id o l o' l' k es k' es' hi hj => ?_⟩
  · cases i with
    | zero =>
      simp only [List.getElem?_cons_zero, Option.some.injEq, Prod.mk.injEq] at hi
      obtain ⟨rfl, rfl, rfl⟩ := hi
      exact h
    | succ i => simp at hi
  · cases i <;> cases j <;> first | rfl | (simp at hi; done) | (simp at hj; done)
theorem Ap.same {N k : Nat} {S S' : Heap} {v : AVal} {es : List (List AVal)} (h : Ap N k S v es) (hk : ∀ id o l, v = .row id o l → S'[id]? = S[id]?) : Ap N k S' v es := by
  cases h with
  | none fl hf => exact .none fl hf
  | row id off len es cap hN hS hl => exact .row id off len es cap hN (by rw [hk id off len rfl]; exact hS) hl
/-- Sources under way, with the local source's cell. -/
structure JJ (S0 : Heap) (pid sid cid : Nat) (c0 : List AVal) (xs : List Src) (ts : List Tok) (q : QS) (S : Heap) : Prop where
  at_ : SAt S pid ts q
  cell : ∃ cc, S[cid]? = some (.cells 9 [cc] (some 1)) ∧ cc.length = 9
  st : ∃ v, S[sid]? = some (.cells 18 [c0.set 8 v] (some 1)) ∧ Ap S0.length 9 S v (srcsC xs) ∧ ∀ o l, v ≠ .row cid o l
  k2 : Kst pid sid S0 S
section
variable {S0 : Heap} {pid sid cid : Nat} {c0 : List AVal} {xs : List Src} {ts : List Tok} {q q' : QS} {S S' : Heap}
theorem JJ.step (h : JJ S0 pid sid cid c0 xs ts q S) (hp : pid < S0.length) (hps : pid ≠ sid) (hpc : pid ≠ cid) (hst : Step pid S S') (ha : SAt S' pid ts q') : JJ S0 pid sid cid c0 xs ts q' S' := by
  obtain ⟨h1, ⟨cc, h2, h3⟩, ⟨v, h4, h5, h6⟩, h7⟩ := h
  exact ⟨ha, ⟨cc, (hst.2 cid (Ne.symm hpc)).trans h2, h3⟩, ⟨v, (hst.2 sid (Ne.symm hps)).trans h4, h5.step hst hp, h6⟩, h7.trans hst.k2⟩
theorem JJ.setc (h : JJ S0 pid sid cid c0 xs ts q S) (hpc : pid ≠ cid) (hsc : sid ≠ cid) (hc : S0.length ≤ cid) {cc : List AVal} (hl : cc.length = 9) : JJ S0 pid sid cid c0 xs ts q (S.set cid (.cells 9 [cc] (some 1))) := by
  obtain ⟨h1, ⟨cc0, h2, h3⟩, ⟨v, h4, h5, h6⟩, h7⟩ := h
  refine ⟨h1.same (List.getElem?_set_ne (Ne.symm hpc)), ⟨cc, List.getElem?_set_self (lt_of_some h2), hl⟩, ⟨v, by rw [List.getElem?_set_ne (Ne.symm hsc)]; exact h4, h5.same fun id o l e => ?_, h6⟩, ⟨by have := h7.1; simpa using this, fun j hj j1 j2 => ?_⟩⟩
  · rw [List.getElem?_set_ne]
    rintro rfl
    exact h6 _ _ e
  · rw [List.getElem?_set_ne (by omega)]; exact h7.2 j hj j1 j2
end

theorem joins_no {N f : Nat} {xs : List Src} {s : Sta} (h1 : isT 1 [105, 110, 110, 101, 114] s.l = false) (h2 : isT 1 [106, 111, 105, 110] s.l = false) : joinsS resv N f xs s = .ok (xs, s) := by
  cases f <;> rw [joinsS, if_neg (by simp [h1, h2])]
theorem joins_many {N : Nat} {xs : List Src} {s : Sta} (h : (isT 1 [105, 110, 110, 101, 114] s.l || isT 1 [106, 111, 105, 110] s.l) = true) : joinsS resv N 0 xs s = .error 151 := by
  rw [joinsS, if_pos h]
theorem joins_law {N f : Nat} {xs : List Src} {s : Sta} {n al : Bs} {o : Ex} {qa qb qc qd qe qf : QS} (h : (isT 1 [105, 110, 110, 101, 114] s.l || isT 1 [106, 111, 105, 110] s.l) = true) (ha : qa = gotS 1 [105, 110, 110, 101, 114] (.ok s)) (hb : qb = mustS 1 [106, 111, 105, 110] qa)
    (hn : Gd (liftS (nameS resv) qb) n) (hc : qc = stq (liftS (nameS resv) qb)) (hal : Gd (liftS (aliasS resv) qc) al) (hd : qd = stq (liftS (aliasS resv) qc)) (he : qe = mustS 1 [111, 110] qd) (ho : Gd (liftS (whole resv N) qe) o) (hf : qf = stq (liftS (whole resv N) qe)) :
    joinsS resv N (f + 1) xs s = liftS (joinsS resv N f (xs ++ [⟨n, al, o⟩])) qf := by
  rw [joinsS, if_pos h]
  have e1 : needS 1 [106, 111, 105, 110] (if isT 1 [105, 110, 110, 101, 114] s.l = true then ⟨s.l.tail, s.d⟩ else s) = qb := by rw [hb, ha]; rfl
  rw [e1, thenS_law]
  have e2 : (fun s => bindS (sourceS resv s) fun x s => thenS (needS 1 [111, 110] s) fun s => bindS (whole resv N s) fun o s => joinsS resv N f (xs ++ [⟨x.table, x.alias, o⟩]) s) =
      (fun s => bindS (nameS resv s) fun n s => bindS (aliasS resv s) fun a s => thenS (needS 1 [111, 110] s) fun s => bindS (whole resv N s) fun o s => joinsS resv N f (xs ++ [⟨n, a, o⟩]) s) := by
    funext s
    rw [sourceS]
    cases nameS resv s with
    | error c => rfl
    | ok y =>
      obtain ⟨n, s1⟩ := y
      rw [bindS_ok, bindS_ok]
      cases aliasS resv s1 with
      | error c => rfl
      | ok z => rfl
  rw [e2, liftS_bind hn, ← hc, liftS_bind hal, ← hd, liftS_need, ← he, liftS_bind ho, ← hf]

def JoI (S0 : Heap) (pid rid sid cid : Nat) (c0 : List AVal) (ts : List Tok) (r : ResS (List Src)) (m : Nat) (a : Tmps) (S' : Heap) : Prop :=
  get a 0 = .ptr pid 0 0 ∧ get a 2 = .ptr rid 0 0 ∧ get a 3 = .ptr sid 0 0 ∧ get a 5 = .ptr cid 0 0 ∧ ∃ (xs : List Src) (q : QS), JJ S0 pid sid cid c0 xs ts q S' ∧
    ((∃ s, q = .ok s ∧ xs.length + m = 5 ∧ 1 ≤ m ∧ r = joinsS resv (ts.length + 1) (m - 1) xs s) ∨ (m = 0 ∧ (∃ c, q = .error c) ∧ q = stq r ∧ Gd r xs))
def JoP (S0 : Heap) (pid rid sid cid : Nat) (c0 : List AVal) (ts : List Tok) (r : ResS (List Src)) : AExit → Tmps → Heap → Prop
  | .normal, a, S' => get a 0 = .ptr pid 0 0 ∧ get a 2 = .ptr rid 0 0 ∧ get a 3 = .ptr sid 0 0 ∧ ∃ (xs : List Src), JJ S0 pid sid cid c0 xs ts (stq r) S' ∧ Gd r xs
  | _, _, _ => False

section
variable {S0 : Heap} {pid rid sid cid : Nat} {c0 : List AVal} (hc0 : c0.length = 18) {ts : List Tok} (hts : ts.length ≤ 4000) (hok : ∀ t ∈ ts, OkT t) (hp : pid < S0.length) (hs : sid < S0.length) (hps : pid ≠ sid) (hcid : S0.length ≤ cid)
include hc0 hts hok hp hs hps hcid
set_option maxHeartbeats 8000000 in
/-- A query's joins. -/
theorem q53j {G : Nat → AVal} {m : Nat} {a : Tmps} {S' : Heap} {r : ResS (List Src)} (h : JoI S0 pid rid sid cid c0 ts r m a S') :
    mwp (ACalls Tryz.prog (B0 w0)) (.block 2 (.loop (f53b1 G))) (JoP S0 pid rid sid cid c0 ts r) a S' := by
  simp only [mwp_block]
  refine mwp_loop (I := JoI S0 pid rid sid cid c0 ts r) h ?_
  clear h
  rintro m a S' ⟨b0, b2, b3, b5, xs, q, hj, hx⟩
  have hpc : pid ≠ cid := by omega
  have hsc : sid ≠ cid := by omega
  by_cases hij : (isS 1 [105, 110, 110, 101, 114] q || isS 1 [106, 111, 105, 110] q) = true
  rotate_left 1
  · have hij : (isS 1 [105, 110, 110, 101, 114] q || isS 1 [106, 111, 105, 110] q) = false := by simpa using hij
    obtain ⟨i1, i2⟩ := Bool.or_eq_false_iff.1 hij
    have hfin : q = stq r ∧ Gd r xs := by
      rcases hx with ⟨s, rfl, hm, hm1, hr⟩ | ⟨_, _, h1, h2⟩
      · rw [joins_no i1 i2] at hr
        subst hr
        exact ⟨rfl, Gd.self⟩
      · exact ⟨h1, h2⟩
    simp [-appendR, f53b1, b0, b2, b3, b5]
    refine (q90 hj.at_ 1 _).use ?_
    rintro e S1 ⟨rfl, rfl⟩
    simp [-appendR, b0, b2, b3, b5, i1]
    refine (q90 hj.at_ 1 _).use ?_
    rintro e S1 ⟨rfl, rfl⟩
    simp [-appendR, b0, b2, b3, b5, i2]
    exact ⟨by simp [b0], by simp [b2], by simp [b3], xs, by rw [← hfin.1]; exact hj, hfin.2⟩
  obtain ⟨s, rfl, hm, hm1, hr⟩ : ∃ s, q = .ok s ∧ xs.length + m = 5 ∧ 1 ≤ m ∧ r = joinsS resv (ts.length + 1) (m - 1) xs s := by
    rcases hx with h | ⟨_, ⟨c, rfl⟩, _⟩
    · exact h
    · simp at hij
  have hijs := hij
  simp only [isS_ok] at hijs
  obtain ⟨v, h2, h3, h4⟩ := hj.st
  have hlen := (h3.rk).lenR
  rw [srcsC_len] at hlen
  -- behind the loop's head
  have body : ∀ a' : Tmps, get a' 0 = .ptr pid 0 0 → get a' 2 = .ptr rid 0 0 → get a' 3 = .ptr sid 0 0 → get a' 5 = .ptr cid 0 0 →
      mwp (ACalls Tryz.prog (B0 w0)) (match f53b1 G with | .seq _ y => y | y => y) (NxP 2 (JoI S0 pid rid sid cid c0 ts r) m (JoP S0 pid rid sid cid c0 ts r)) a' S' := fun a' b0 b2 b3 b5 => by
    simp only [f53b1]
    by_cases hm4 : xs.length = 4
    · have hm4I : ((xs.length : Int) == 4) = true := beq_iff_eq.2 (by omega)
      have hm1' : m = 1 := by omega
      subst hm1'
      rw [joins_many hijs] at hr
      simp [-appendR, b0, b2, b3, b5, h2, hc0, hlen, hm4I]
      refine (q24 hj.at_ (c := 151) (by decide)).use ?_
      rintro e S1 ⟨hst1, rfl, g1⟩
      have hj1 := hj.step hp hps hpc hst1 g1
      simp [b0, b2, b3, b5]
      subst hr
      exact ⟨rfl, by simp [b0], by simp [b2], by simp [b3], xs, hj1, Gd.er⟩
    · have hm4I : ((xs.length : Int) == 4) = false := beq_eq_false_iff_ne.2 (by omega)
      obtain ⟨f, hf⟩ : ∃ f, m = f + 2 := ⟨m - 2, by omega⟩
      have hmf : m - 1 = f + 1 := by omega
      rw [hmf] at hr
      simp [-appendR, b0, b2, b3, b5, h2, hc0, hlen, hm4I]
      refine (q48 hts hj.at_ 1 _).use ?_
      rintro e S1 ⟨hst1, rfl, g1⟩
      have hj1 := hj.step hp hps hpc hst1 g1
      simp [-appendR, b0, b2, b3, b5]
      refine (q51 hts hj1.at_ 1 _).use ?_
      rintro e S2 ⟨hst2, rfl, g2⟩
      have hj2 := hj1.step hp hps hpc hst2 g2
      simp [-appendR, b0, b2, b3, b5]
      refine (q50 hts hj2.at_).use ?_
      rintro e S3 ⟨hst3, n, rfl, g3, hn⟩
      have hj3 := hj2.step hp hps hpc hst3 g3
      obtain ⟨cc, k1, k2⟩ := hj3.cell
      simp [-appendR, b0, b2, b3, b5, k1, k2]
      have hj4 := hj3.setc hpc hsc hcid (cc := [.str n, .str [], .int 0, .nilS, .int 0, .int 0, .int 0, .str [], .str []]) rfl
      have k4 := setSelf (lt_of_some k1) (AObj.cells 9 [[.str n, .str [], .int 0, .nilS, .int 0, .int 0, .int 0, .str [], .str []]] (some 1))
      generalize S3.set cid (.cells 9 [[.str n, .str [], .int 0, .nilS, .int 0, .int 0, .int 0, .str [], .str []]] (some 1)) = S4 at *
      refine (q91 hts hj4.at_).use ?_
      rintro e S5 ⟨hst5, al, rfl, g5, hal⟩
      have hj5 := hj4.step hp hps hpc hst5 g5
      have k5 := (hst5.2 cid (Ne.symm hpc)).trans k4
      simp [-appendR, b0, b2, b3, b5, k5]
      have hj6 := hj5.setc hpc hsc hcid (cc := [.str n, .str al, .int 0, .nilS, .int 0, .int 0, .int 0, .str [], .str []]) rfl
      have k6 := setSelf (lt_of_some k5) (AObj.cells 9 [[.str n, .str al, .int 0, .nilS, .int 0, .int 0, .int 0, .str [], .str []]] (some 1))
      generalize S5.set cid (.cells 9 [[.str n, .str al, .int 0, .nilS, .int 0, .int 0, .int 0, .str [], .str []]] (some 1)) = S6 at *
      refine (q51 hts hj6.at_ 1 _).use ?_
      rintro e S7 ⟨hst7, rfl, g7⟩
      have hj7 := hj6.step hp hps hpc hst7 g7
      have k7 := (hst7.2 cid (Ne.symm hpc)).trans k6
      simp [-appendR, b0, b2, b3, b5]
      refine (q54 hts hok hj7.at_).use ?_
      rintro e S8 ⟨hst8, o, rfl, g8, ho⟩
      have hj8 := hj7.step hp hps hpc hst8 g8
      have k8 := (hst8.2 cid (Ne.symm hpc)).trans k7
      have law := joins_law (N := ts.length + 1) (f := f) (xs := xs) hijs rfl rfl hn rfl hal rfl rfl ho rfl
      rw [law] at hr
      obtain ⟨op, vy, kind, num, scale, text, qual, hy, o1, o2⟩ := exC_shape o
      have hj9 := hj8.setc hpc hsc hcid (cc := [.str n, .str al, .int op, vy, .int kind, .int num, .int scale, .str text, .str qual]) rfl
      have k9 := setSelf (lt_of_some k8) (AObj.cells 9 [[.str n, .str al, .int op, vy, .int kind, .int num, .int scale, .str text, .str qual]] (some 1))
      simp [-appendR, hy, o1, putAt, splice, b0, b2, b3, b5, k8]
      generalize S8.set cid (.cells 9 [[.str n, .str al, .int op, vy, .int kind, .int num, .int scale, .str text, .str qual]] (some 1)) = S9 at *
      obtain ⟨h1', _, ⟨u, h3', h4', h5'⟩, h6'⟩ := hj9
      generalize stq (liftS (whole resv (ts.length + 1)) (mustS 1 [111, 110] (stq (liftS (aliasS resv) (stq (liftS (nameS resv) (mustS 1 [106, 111, 105, 110] (gotS 1 [105, 110, 110, 101, 114] (.ok s))))))))) = qf at *
      obtain ⟨S10, a1, a2, a3, a4, a5, a6⟩ := LJ.app2 (bytes := 120) hp hs hps h1' (by rw [hc0]; exact h3') (Own.of1 h6'.1 h4') h6' (x := srcC ⟨n, al, o⟩) (by simp [srcC]) (by decide) (by decide) (by simp; omega) (y := .list .full [srcC ⟨n, al, o⟩]) rfl
      rw [hc0] at a3 a5
      rw [srcsC_len] at a1 a5
      rw [← srcsC_snoc] at a5
      simp only [srcC, hy] at a1
      have k10 := (a6 cid (lt_of_some k9) h5').trans k9
      have hne9 : S9.length ≠ cid := by have := lt_of_some k9; omega
      have hj10 : JJ S0 pid sid cid c0 (xs ++ [⟨n, al, o⟩]) ts qf (S10.set sid (.cells 18 [c0.set 8 (.row S9.length 0 (xs.length + 1))] (some 1))) := by
        obtain ⟨q1, ⟨w, q2, q3⟩, q4⟩ := a5
        have q5 := setSelf (lt_of_some a3) (AObj.cells 18 [c0.set 8 (.row S9.length 0 (xs.length + 1))] (some 1))
        refine ⟨q1, ⟨_, by rw [List.getElem?_set_ne hsc]; exact k10, rfl⟩, ⟨w, by rw [hc0] at q2; exact q2, q3.ap 0 _ _ _ rfl, fun o' l' e => ?_⟩, q4⟩
        have e2 : c0.set 8 w = c0.set 8 (.row S9.length 0 (xs.length + 1)) := by
          rw [hc0, q5] at q2
          simp only [Option.some.injEq, AObj.cells.injEq, List.cons.injEq, and_true, true_and] at q2
          exact q2.symm
        have e3 : (c0.set 8 w)[8]? = (c0.set 8 (.row S9.length 0 (xs.length + 1)))[8]? := by rw [e2]
        rw [List.getElem?_set_self (by omega), List.getElem?_set_self (by omega), e] at e3
        simp only [Option.some.injEq, AVal.row.injEq] at e3
        exact hne9 e3.1.symm
      generalize hH : S10.set sid (.cells 18 [c0.set 8 (.row S9.length 0 (xs.length + 1))] (some 1)) = H at *
      simp [-appendR, b0, b2, b3, b5, k9, h3', hc0, o1, a1, a3, hH]
      cases qf with
      | ok s' =>
        refine ⟨f + 1, by omega, by simp [b0], by simp [b2], by simp [b3], by simp [b5], xs ++ [⟨n, al, o⟩], _, hj10, .inl ⟨s', rfl, by simp; omega, by omega, ?_⟩⟩
        rw [hr]; rfl
      | error c =>
        refine ⟨0, by omega, by simp [b0], by simp [b2], by simp [b3], by simp [b5], xs ++ [⟨n, al, o⟩], _, hj10, .inr ⟨rfl, ⟨c, rfl⟩, ?_, ?_⟩⟩
        · rw [hr]; rfl
        · rw [hr]; exact Gd.er
  have hnx : ∀ (e : AExit) (a3 : Tmps) (S3 : Heap), NxP 2 (JoI S0 pid rid sid cid c0 ts r) m (JoP S0 pid rid sid cid c0 ts r) e a3 S3 → (match e with | .normal => ∃ n', n' < m ∧ JoI S0 pid rid sid cid c0 ts r n' a3 S3 | e => afterK 2 e a3 S3 (q := ⟨JoP S0 pid rid sid cid c0 ts r⟩)) := fun e a3 S3 h => by
    cases e <;> first | exact h.elim | skip
    · exact h
    · obtain ⟨rfl, h⟩ := h
      exact h
  rw [f53b1, mwp_seq, mwp_seq]
  simp [-mwp_block, -mwp_seq, -appendR, b0, b2, b3, b5]
  refine (q90 hj.at_ 1 _).use ?_
  rintro e S1 ⟨rfl, rfl⟩
  generalize hi1 : isS 1 [105, 110, 110, 101, 114] (.ok s) = i1 at hij ⊢
  cases i1 with
  | true =>
    simp [-mwp_block, -mwp_seq, -appendR, b0, b2, b3, b5]
    exact mwp_mono _ _ (fun _ _ _ _ _ hr h => h.mono hr) (fun e a3 S3 h => hnx e a3 S3 h) (body _ (by simp [b0]) (by simp [b2]) (by simp [b3]) (by simp [b5]))
  | false =>
    simp [-mwp_block, -mwp_seq, -appendR, b0, b2, b3, b5]
    refine (q90 hj.at_ 1 _).use ?_
    rintro e S1 ⟨rfl, rfl⟩
    rw [show isS 1 [106, 111, 105, 110] (.ok s) = true from by simpa using hij]
    simp [-mwp_block, -mwp_seq, -appendR, b0, b2, b3, b5]
    exact mwp_mono _ _ (fun _ _ _ _ _ hr h => h.mono hr) (fun e a3 S3 h => hnx e a3 S3 h) (body _ (by simp [b0]) (by simp [b2]) (by simp [b3]) (by simp [b5]))
end
end Go.Abs
set_option linter.unusedSimpArgs false
set_option linter.unusedVariables false
namespace Go.Abs
open Go Go.RowKit Go.Proofs Go.Lx Go.Pz
variable {w0 : World}

theorem query_law {N : Nat} {s : Sta} {is : List Itm} {n al : Bs} {fs : List Src} {w : Ex} {os : List Srt} {q1 q2 q3 q4 q5 q6 q7 : QS} (hi : Gd (itemsS resv N s) is) (h1 : q1 = stq (itemsS resv N s)) (h2 : q2 = mustS 1 [102, 114, 111, 109] q1) (hn : Gd (liftS (nameS resv) q2) n) (h3 : q3 = stq (liftS (nameS resv) q2))
    (hal : Gd (liftS (aliasS resv) q3) al) (h4 : q4 = stq (liftS (aliasS resv) q3)) (hf : Gd (liftS (joinsS resv N 3 [⟨n, al, .zero⟩]) q4) fs) (h5 : q5 = stq (liftS (joinsS resv N 3 [⟨n, al, .zero⟩]) q4)) (hw : Gd (liftS (whereS resv N) q5) w) (h6 : q6 = stq (liftS (whereS resv N) q5)) (ho : Gd (liftS (orderS resv N) q6) os) (h7 : q7 = stq (liftS (orderS resv N) q6)) :
    q7 = stq (queryS resv N s) ∧ Gd (queryS resv N s) { kind := 6, items := is, src := fs, wher := w, order := os } := by
  have e2 : (fun s => bindS (sourceS resv s) fun x s => bindS (joinsS resv N 3 [x] s) fun fs s => bindS (whereS resv N s) fun w s => bindS (orderS resv N s) fun os s => .ok (({ kind := 6, items := is, src := fs, wher := w, order := os } : Stm), s)) =
      (fun s => bindS (nameS resv s) fun n s => bindS (aliasS resv s) fun a s => bindS (joinsS resv N 3 [⟨n, a, .zero⟩] s) fun fs s => bindS (whereS resv N s) fun w s => bindS (orderS resv N s) fun os s => .ok (({ kind := 6, items := is, src := fs, wher := w, order := os } : Stm), s)) := by
    funext s
    rw [sourceS]
    cases nameS resv s with
    | error c => rfl
    | ok y =>
      obtain ⟨n, s1⟩ := y
      rw [bindS_ok, bindS_ok]
      cases aliasS resv s1 with
      | error c => rfl
      | ok z => rfl
  have e : queryS resv N s = liftS (fun s => .ok ({ kind := 6, items := is, src := fs, wher := w, order := os }, s)) q7 := by
    rw [queryS, bindS_law hi, ← h1, liftS_need, ← h2, e2, liftS_bind hn, ← h3, liftS_bind hal, ← h4, liftS_bind hf, ← h5, liftS_bind hw, ← h6, liftS_bind ho, ← h7]
  rw [e]
  exact ⟨liftS_ret.1.symm, liftS_ret.2⟩

/-- A part of a query is read. -/
def ParP {α : Type} (S1 S2 : Heap) (pid rid sid : Nat) (c : List AVal) (f k : Nat) (V : α → List (List AVal)) (ts : List Tok) (r : ResS α) : AExit → Tmps → Heap → Prop
  | .normal, a, S' => get a 0 = .ptr pid 0 0 ∧ get a 2 = .ptr rid 0 0 ∧ get a 3 = .ptr sid 0 0 ∧ ∃ (v : AVal) (x : α), CJ S1 pid sid (c.set f v) ts (stq r) S' ∧ Vk S2.length k S' v (V x) ∧ Gd r x ∧ Kst pid sid S2 S'
  | _, _, _ => False

section
variable {pid : Nat} {ts : List Tok} (hts : ts.length ≤ 4000) (hok : ∀ t ∈ ts, OkT t)
include hts hok
set_option maxHeartbeats 4000000 in
theorem q53a {S1 S' : Heap} {rid sid : Nat} {c : List AVal} {s : Sta} {a : Tmps} (hc : c.length = 18) (hf : c.set 7 .nilS = c) (hps : pid ≠ sid) (hcj : CJ S1 pid sid c ts (.ok s) S') (b0 : get a 0 = .ptr pid 0 0) (b2 : get a 2 = .ptr rid 0 0) (b3 : get a 3 = .ptr sid 0 0) {G : Nat → AVal} :
    mwp (ACalls Tryz.prog (B0 w0)) (.seq (.ops [⟨some 8, none, .op (.mv 0)⟩,
    ⟨some 9, none, .call 48 [8, (.val (.int 5)), (.val (.str [42]))]⟩,
    ⟨some 10, none, .op (.un .not 9)⟩])
  (.cond 10
   (.block 0
    (.loop (f53b0 G)))
   (.skip))) (ParP S1 S' pid rid sid c 7 8 itmsC ts (itemsS resv (ts.length + 1) s)) a S' := by
  rw [mwp_seq]
  simp [-mwp_block, -mwp_seq, -appendR, b0, b2, b3]
  refine (q48 hts hcj.at_ 5 _).use ?_
  rintro e S2 ⟨hst2, rfl, h2⟩
  have c2 := hcj.step hps hst2 h2
  have hbT : isS 5 [42] (.ok s) = isT 5 [42] s.l := rfl
  rw [itemsS]
  generalize hb : isT 5 [42] s.l = b at hbT
  rw [hbT]
  cases b with
  | true =>
    simp [-mwp_block, -mwp_seq, -appendR, b0, b2, b3]
    refine ⟨by simp [b0], by simp [b2], by simp [b3], .nilS, [], ?_, .nil _ _ _, Gd.self, hst2.k2⟩
    rw [hf]
    rw [gotS_ok, if_pos hb] at c2
    exact c2
  | false =>
    rw [gotS_false hbT] at c2
    simp [-mwp_block, -mwp_seq, -appendR, b0, b2, b3]
    obtain ⟨m0, hlo⟩ := LoI.start (step := itemS resv (ts.length + 1)) (V := itmsC) (most := 50) (x := []) (c2.lj 7 8 hc hf) rfl (by decide)
    refine mwp_mono _ _ (fun _ _ _ _ _ hr h => h.mono hr) ?_ (q53i (w0 := w0) (rid := rid) hc hts hok c2.at_.lt (lt_of_some c2.st) hps ⟨by simp [b0], by simp [b2], by simp [b3], hlo⟩)
    intro e a5 S5 hJ
    cases e <;> first | exact hJ.elim | skip
    obtain ⟨d0, d2, d3, is, hlj, his⟩ := hJ
    have hk := hlj.k2
    obtain ⟨v, c5, ap⟩ := hlj.cj hc c2.k2
    exact ⟨d0, d2, d3, v, is, c5, .inl (ap.le (by have := hst2.1; omega)), his, hst2.k2.trans hk⟩
set_option maxHeartbeats 4000000 in
theorem q53o {S1 S' : Heap} {rid sid : Nat} {c : List AVal} {q : QS} {a : Tmps} (hc : c.length = 18) (hf : c.set 16 .nilS = c) (hps : pid ≠ sid) (hcj : CJ S1 pid sid c ts q S') (b0 : get a 0 = .ptr pid 0 0) (b2 : get a 2 = .ptr rid 0 0) (b3 : get a 3 = .ptr sid 0 0) {G : Nat → AVal} :
    mwp (ACalls Tryz.prog (B0 w0)) (.seq (.ops [⟨some 84, none, .op (.mv 0)⟩,
    ⟨some 85, none, .call 48 [84, (.val (.int 1)), (.val (.str [111, 114, 100, 101, 114]))]⟩])
  (.cond 85
   (.seq (.ops [⟨some 86, none, .op (.mv 0)⟩,
     ⟨some 87, none, .call 51 [86, (.val (.int 1)), (.val (.str [98, 121]))]⟩])
   (.block 4
    (.loop (f53b2 G))))
   (.skip))) (ParP S1 S' pid rid sid c 16 8 srtsC ts (liftS (orderS resv (ts.length + 1)) q)) a S' := by
  rw [mwp_seq]
  simp [-mwp_block, -mwp_seq, -appendR, b0, b2, b3]
  refine (q48 hts hcj.at_ 1 _).use ?_
  rintro e S2 ⟨hst2, rfl, h2⟩
  have c2 := hcj.step hps hst2 h2
  generalize hb : isS 1 [111, 114, 100, 101, 114] q = b
  cases b with
  | false =>
    rw [gotS_false hb] at c2
    simp [-mwp_block, -mwp_seq, -appendR, b0, b2, b3]
    have e : liftS (orderS resv (ts.length + 1)) q = liftS (fun s => .ok ([], s)) q := by
      cases q with
      | error c => rfl
      | ok s => rw [isS_ok] at hb; rw [liftS_ok, liftS_ok, orderS, if_neg (by simp [hb])]
    rw [e]
    refine ⟨by simp [b0], by simp [b2], by simp [b3], .nilS, [], ?_, .nil _ _ _, liftS_ret.2, hst2.k2⟩
    rw [hf, liftS_ret.1]
    exact c2
  | true =>
    have e : liftS (orderS resv (ts.length + 1)) q = liftS (listF (sortS resv (ts.length + 1)) 50 []) (mustS 1 [98, 121] (gotS 1 [111, 114, 100, 101, 114] q)) := by
      cases q with
      | error c => cases hb
      | ok s => rw [isS_ok] at hb; rw [liftS_ok, orderS, if_pos hb, gotS_ok, if_pos hb, mustS_ok, thenS_law]
    rw [e]
    simp [-mwp_block, -mwp_seq, -appendR, b0, b2, b3]
    rw [mwp_seq]
    simp [-mwp_block, -mwp_seq, -appendR, b0, b2, b3]
    refine (q51 hts c2.at_ 1 _).use ?_
    rintro e S3 ⟨hst3, rfl, h3⟩
    have c3 := c2.step hps hst3 h3
    simp [-mwp_block, -mwp_seq, -appendR, b0, b2, b3]
    obtain ⟨m0, hlo⟩ := LoI.start (step := sortS resv (ts.length + 1)) (V := srtsC) (most := 50) (x := []) (c3.lj 16 8 hc hf) rfl (by decide)
    refine mwp_mono _ _ (fun _ _ _ _ _ hr h => h.mono hr) ?_ (q53s (w0 := w0) (rid := rid) hc hts hok c3.at_.lt (lt_of_some c3.st) hps ⟨by simp [b0], by simp [b2], by simp [b3], hlo⟩)
    intro e a5 S5 hJ
    cases e <;> first | exact hJ.elim | skip
    obtain ⟨d0, d2, d3, is, hlj, his⟩ := hJ
    have hk := hlj.k2
    obtain ⟨v, c5, ap⟩ := hlj.cj hc c3.k2
    exact ⟨d0, d2, d3, v, is, c5, .inl (ap.le (by have := hst2.1; have := hst3.1; omega)), his, hst2.k2.trans (hst3.k2.trans hk)⟩
end
end Go.Abs
set_option linter.unusedSimpArgs false
set_option linter.unusedVariables false
namespace Go.Abs
open Go Go.RowKit Go.Proofs Go.Lx Go.Pz
variable {w0 : World}

section
variable {pid : Nat} {ts : List Tok} (hts : ts.length ≤ 4000) (hok : ∀ t ∈ ts, OkT t)
include hts hok
set_option maxHeartbeats 8000000 in
theorem q53 {S : Heap} {s : Sta} (h : SAt S pid ts (.ok s)) : ACalls Tryz.prog (B0 w0) 53 [.ptr pid 0 0] S (SQw S pid ts (queryS resv (ts.length + 1) s)) := by
  have hl := h.lt
  refine fn_sound tryOrd (f53_c _) (by simp [f53]) ?_
  rw [f53, f53m, mwp_seq]
  simp [-mwp_block, -mwp_seq, -appendR]
  rw [mwp_seq]
  simp [-mwp_block, -mwp_seq, -appendR]
  obtain ⟨H0, hH0⟩ : ∃ H0, H0 = S ++ [AObj.cells 18 [z18] (some 1), .cells 18 [[.int 6, .str [], .str [], .nilS, .nilS, .bool false, .nilS, .nilS, .nilS, .int 0, .nilS, .int 0, .int 0, .int 0, .str [], .str [], .nilS, .nilS]] (some 1)] := ⟨_, rfl⟩
  have hps : pid ≠ S.length + 1 := by omega
  have c0 : CJ H0 pid (S.length + 1) [.int 6, .str [], .str [], .nilS, .nilS, .bool false, .nilS, .nilS, .nilS, .int 0, .nilS, .int 0, .int 0, .int 0, .str [], .str [], .nilS, .nilS] ts (.ok s) H0 := ⟨by rw [hH0]; exact h.more _, by rw [hH0]; simp, Kst.refl _ _ _⟩
  have hH0l : H0.length = S.length + 2 := by rw [hH0]; simp
  rw [← hH0]
  rw [mwp_seq]
  refine mwp_mono _ _ (fun _ _ _ _ _ hr h => h.mono hr) ?_ (q53a (w0 := w0) (rid := S.length) hts hok rfl rfl hps c0 (by simp) (by simp) (by simp))
  intro e a1 S1 hJ
  cases e <;> first | exact hJ.elim | skip
  obtain ⟨b0, b2, b3, vI, is, c1, hvI, his, hk1⟩ := hJ
  have c1 : CJ H0 pid (S.length + 1) [.int 6, .str [], .str [], .nilS, .nilS, .bool false, .nilS, vI, .nilS, .int 0, .nilS, .int 0, .int 0, .int 0, .str [], .str [], .nilS, .nilS] ts (stq (itemsS resv (ts.length + 1) s)) S1 := c1
  simp [-mwp_block, -mwp_seq, -appendR]
  rw [mwp_seq]
  simp [-mwp_block, -mwp_seq, -appendR, b0, b2, b3]
  refine (q51 hts c1.at_ 1 _).use ?_
  rintro e S2 ⟨hst2, rfl, h2⟩
  have c2 := c1.step hps hst2 h2
  simp [-mwp_block, -mwp_seq, -appendR, b0, b2, b3]
  rw [mwp_seq]
  simp [-mwp_block, -mwp_seq, -appendR, b0, b2, b3]
  refine (q50 hts c2.at_).use ?_
  rintro e S3 ⟨hst3, n, rfl, h3, hn⟩
  have c3 := c2.step hps hst3 h3
  simp [-mwp_block, -mwp_seq, -appendR, b0, b2, b3]
  rw [mwp_seq]
  simp [-mwp_block, -mwp_seq, -appendR, b0, b2, b3]
  refine (q91 hts (c3.at_.more _)).use ?_
  rintro e S4 ⟨hsq4, al, rfl, h4, hal⟩
  obtain ⟨T4, rfl, hst4⟩ := hsq4.split c3.at_.lt
  have e4 := hst4.1
  have h4 := h4.less (hst4.1 ▸ c3.at_.lt)
  have c4 := c3.step hps hst4 h4
  simp [-mwp_block, -mwp_seq, -appendR, b0, b2, b3, e4]
  rw [mwp_seq]
  obtain ⟨g, hgd⟩ : ∃ g, g = [AObj.cells 9 [[.str n, .str al, .int 0, .nilS, .int 0, .int 0, .int 0, .str [], .str []]] (some 1)] := ⟨_, rfl⟩
  have hb : srcC ⟨n, al, .zero⟩ = [.str n, .str al, .int 0, .nilS, .int 0, .int 0, .int 0, .str [], .str []] := by rw [srcC, Ex.zero, exC_eq, exsV_nil]
  have hlT4 : S.length + 2 ≤ T4.length := by have := c4.k2.1; omega
  have hlj4 := (c4.lj 8 9 rfl rfl).more g
  obtain ⟨ha, ⟨u, g1, g2⟩, g3⟩ := hlj4
  have g0 : (T4 ++ g)[S.length + 1]? = some (.cells 18 [[.int 6, .str [], .str [], .nilS, .nilS, .bool false, .nilS, vI, .nilS, .int 0, .nilS, .int 0, .int 0, .int 0, .str [], .str [], .nilS, .nilS]] (some 1)) := (c4.more g).st
  have hu : u = .nilS := by
    rw [g0] at g1
    simp at g1
    exact g1.symm
  subst hu
  obtain ⟨S6, a1', a2, a3, a4, a5, a6⟩ := LJ.app2 (bytes := 120) c4.at_.lt (lt_of_some c4.st) hps ha g1 g2 g3 (x := srcC ⟨n, al, .zero⟩) (by simp [srcC]) (by decide) (by decide) (by simp) (y := .list .full [srcC ⟨n, al, .zero⟩]) rfl
  have a3' : S6[S.length + 1]? = some (.cells 18 [[.int 6, .str [], .str [], .nilS, .nilS, .bool false, .nilS, vI, .nilS, .int 0, .nilS, .int 0, .int 0, .int 0, .str [], .str [], .nilS, .nilS]] (some 1)) := a3
  have hgc : (T4 ++ g)[T4.length]? = some (AObj.cells 9 [[.str n, .str al, .int 0, .nilS, .int 0, .int 0, .int 0, .str [], .str []]] (some 1)) := by rw [hgd]; simp
  have k6 := (a6 T4.length (by rw [hgd]; simp) (fun o l e => by cases e)).trans hgc
  have hne : (T4 ++ g).length ≠ T4.length := by rw [hgd]; simp
  have hj6 : JJ T4 pid (S.length + 1) T4.length [.int 6, .str [], .str [], .nilS, .nilS, .bool false, .nilS, vI, .nilS, .int 0, .nilS, .int 0, .int 0, .int 0, .str [], .str [], .nilS, .nilS] [⟨n, al, .zero⟩] ts (stq (liftS (aliasS resv) (stq (liftS (nameS resv) (mustS 1 [102, 114, 111, 109] (stq (itemsS resv (ts.length + 1) s))))))) (S6.set (S.length + 1) (.cells 18 [[.int 6, .str [], .str [], .nilS, .nilS, .bool false, .nilS, vI, .row (T4 ++ g).length 0 1, .int 0, .nilS, .int 0, .int 0, .int 0, .str [], .str [], .nilS, .nilS]] (some 1))) := by
    obtain ⟨q1, ⟨w, q2, q3⟩, q4⟩ := a5
    have q5 := setSelf (lt_of_some a3') (AObj.cells 18 [[.int 6, .str [], .str [], .nilS, .nilS, .bool false, .nilS, vI, .row (T4 ++ g).length 0 1, .int 0, .nilS, .int 0, .int 0, .int 0, .str [], .str [], .nilS, .nilS]] (some 1))
    have e2 : w = .row (T4 ++ g).length 0 1 := by
      have := q5.symm.trans q2
      simp at this
      simpa using this.symm
    subst e2
    refine ⟨q1, ⟨_, by rw [List.getElem?_set_ne (by omega)]; exact k6, rfl⟩, ⟨_, q2, q3.ap 0 _ _ _ rfl, fun o' l' e => ?_⟩, q4⟩
    simp only [AVal.row.injEq] at e
    exact hne e.1
  rw [hb] at a1'
  simp only [List.length_nil, Nat.zero_add] at a1'
  generalize hR : (T4 ++ g).length = R at *
  generalize hH : S6.set (S.length + 1) (.cells 18 [[.int 6, .str [], .str [], .nilS, .nilS, .bool false, .nilS, vI, .row R 0 1, .int 0, .nilS, .int 0, .int 0, .int 0, .str [], .str [], .nilS, .nilS]] (some 1)) = H at *
  subst hgd
  simp [-mwp_block, -mwp_seq, -appendR, b0, b2, b3, g0, a1', a3', hH, hgc]
  rw [mwp_seq]
  generalize hq4 : stq (liftS (aliasS resv) (stq (liftS (nameS resv) (mustS 1 [102, 114, 111, 109] (stq (itemsS resv (ts.length + 1) s)))))) = q4 at *
  have hjo : ∃ m0, ∀ a' : Tmps, get a' 0 = .ptr pid 0 0 → get a' 2 = .ptr S.length 0 0 → get a' 3 = .ptr (S.length + 1) 0 0 → get a' 5 = .ptr T4.length 0 0 → JoI T4 pid S.length (S.length + 1) T4.length [.int 6, .str [], .str [], .nilS, .nilS, .bool false, .nilS, vI, .nilS, .int 0, .nilS, .int 0, .int 0, .int 0, .str [], .str [], .nilS, .nilS] ts (liftS (joinsS resv (ts.length + 1) 3 [⟨n, al, .zero⟩]) q4) m0 a' H := by
    clear hq4
    cases q4 with
    | ok s1 => exact ⟨4, fun a' d0 d2 d3 d5 => ⟨d0, d2, d3, d5, _, _, hj6, .inl ⟨s1, rfl, rfl, by decide, rfl⟩⟩⟩
    | error c => exact ⟨0, fun a' d0 d2 d3 d5 => ⟨d0, d2, d3, d5, _, _, hj6, .inr ⟨rfl, ⟨c, rfl⟩, rfl, Gd.er⟩⟩⟩
  obtain ⟨m0, hjo⟩ := hjo
  refine mwp_mono _ _ (fun _ _ _ _ _ hr h => h.mono hr) ?_ (q53j (w0 := w0) rfl hts hok c4.at_.lt (lt_of_some c4.st) hps (Nat.le_refl _) (hjo _ (by simp [b0]) (by simp [b2]) (by simp [b3]) (by simp [e4])))
  intro e a7 S7 hJ
  cases e <;> first | exact hJ.elim | skip
  obtain ⟨d0, d2, d3, fs, ⟨at7, _, ⟨v8, st7, ap7, _⟩, k7⟩, hfs⟩ := hJ
  have st7 : S7[S.length + 1]? = some (.cells 18 [[.int 6, .str [], .str [], .nilS, .nilS, .bool false, .nilS, vI, v8, .int 0, .nilS, .int 0, .int 0, .int 0, .str [], .str [], .nilS, .nilS]] (some 1)) := st7
  simp [-mwp_block, -mwp_seq, -appendR]
  rw [mwp_seq]
  simp [-mwp_block, -mwp_seq, -appendR, d0, d2, d3]
  refine (q56 hts hok at7).use ?_
  rintro e S8 ⟨hst8, w, rfl, h8, hw⟩
  have st8 := (hst8.2 (S.length + 1) (Ne.symm hps)).trans st7
  obtain ⟨op, vw, kind, num, scale, text, qual, hxw, o1, o2⟩ := exC_shape w
  simp [-mwp_block, -mwp_seq, -appendR, d0, d2, d3, hxw, o1, putAt, splice, st8]
  have c8 : CJ S7 pid (S.length + 1) _ ts _ S8 := ⟨h8, st8, hst8.k2⟩
  have c9 := c8.set hps [.int 6, .str [], .str [], .nilS, .nilS, .bool false, .nilS, vI, v8, .int op, vw, .int kind, .int num, .int scale, .str text, .str qual, .nilS, .nilS]
  generalize S8.set (S.length + 1) (.cells 18 [[.int 6, .str [], .str [], .nilS, .nilS, .bool false, .nilS, vI, v8, .int op, vw, .int kind, .int num, .int scale, .str text, .str qual, .nilS, .nilS]] (some 1)) = S9 at *
  rw [mwp_seq]
  refine mwp_mono _ _ (fun _ _ _ _ _ hr h => h.mono hr) ?_ (q53o (w0 := w0) (rid := S.length) hts hok rfl rfl hps c9 (by simp [d0]) (by simp [d2]) (by simp [d3]))
  intro e a10 S10 hJ
  cases e <;> first | exact hJ.elim | skip
  obtain ⟨f0, f2, f3, vO, os, c10, hvO, hos, k10⟩ := hJ
  obtain ⟨lw1, lw2⟩ := query_law his rfl rfl hn rfl hal hq4.symm hfs rfl hw rfl hos rfl
  simp [-mwp_block, -mwp_seq, -appendR]
  have kJ : Kst pid (S.length + 1) S1 T4 := hst2.k2.trans (hst3.k2.trans hst4.k2)
  have kall := hk1.trans (kJ.trans (k7.trans c10.k2))
  rw [hH0] at kall
  have hl7 := k7.1
  have hl10 := c10.k2.1
  have hl9 := c9.k2.1
  have vI' := hvI.k2 (kJ.trans (k7.trans c10.k2)) (by omega) (by omega)
  have v8' := ap7.kst c10.k2 c4.at_.lt (by omega)
  refine mwp_mono _ _ (fun _ _ _ _ _ hr h => h.mono hr) ?_ (q_fin (w0 := w0) (k := 111) hl (Step.refl pid S) kall c10.at_ c10.st ⟨.nilS, .nilS, .nilS, vI, v8, vO, .nilS, ?_, .nil _ _ _, .nil _ _ _, .nil _ _ _, vI'.le (by omega), .inl (v8'.le (by omega)), hvO.le (by omega), .nil _ _ _⟩ lw1 lw2 (by simp [f2]) (by simp [f3]) (by decide))
  · intro e a11 S11 hR
    have hR := RtP.mono (fun _ _ h => SQ.w h) hR
    cases e <;> first | exact hR.elim | skip
    exact hR
  · rw [hxw]; rfl
end
end Go.Abs
set_option linter.unusedSimpArgs false
set_option linter.unusedVariables false
namespace Go.Abs
open Go Go.RowKit Go.Proofs Go.Lx Go.Pz
variable {w0 : World}

theorem update_law {N : Nat} {s : Sta} {n : Bs} {zs : List Asn} {w : Ex} {q1 q2 q3 q4 : QS} (hn : Gd (liftS (nameS resv) (.ok s)) n) (h1 : q1 = stq (liftS (nameS resv) (.ok s))) (h2 : q2 = mustS 1 [115, 101, 116] q1) (hz : Gd (liftS (listF (setS resv N) 50 []) q2) zs) (h3 : q3 = stq (liftS (listF (setS resv N) 50 []) q2))
    (hw : Gd (liftS (whereS resv N) q3) w) (h4 : q4 = stq (liftS (whereS resv N) q3)) : q4 = stq (updateS resv N s) ∧ Gd (updateS resv N s) { kind := 7, table := n, sets := zs, wher := w } := by
  have e : updateS resv N s = liftS (fun s => .ok ({ kind := 7, table := n, sets := zs, wher := w }, s)) q4 := by
    rw [updateS, show nameS resv s = liftS (nameS resv) (.ok s) from rfl, bindS_law hn, ← h1, liftS_need, ← h2, liftS_bind hz, ← h3, liftS_bind hw, ← h4]
  rw [e]
  exact ⟨liftS_ret.1.symm, liftS_ret.2⟩
theorem delete_law {N : Nat} {s : Sta} {n : Bs} {w : Ex} {q1 q2 q3 : QS} (h1 : q1 = mustS 1 [102, 114, 111, 109] (.ok s)) (hn : Gd (liftS (nameS resv) q1) n) (h2 : q2 = stq (liftS (nameS resv) q1)) (hw : Gd (liftS (whereS resv N) q2) w) (h3 : q3 = stq (liftS (whereS resv N) q2)) :
    q3 = stq (deleteS resv N s) ∧ Gd (deleteS resv N s) { kind := 8, table := n, wher := w } := by
  have e : deleteS resv N s = liftS (fun s => .ok ({ kind := 8, table := n, wher := w }, s)) q3 := by
    rw [deleteS, thenS_law, show needS 1 [102, 114, 111, 109] s = q1 from h1.symm ▸ rfl, liftS_bind hn, ← h2, liftS_bind hw, ← h3]
  rw [e]
  exact ⟨liftS_ret.1.symm, liftS_ret.2⟩
theorem drop_t {s : Sta} {n : Bs} (hT : isT 1 [116, 97, 98, 108, 101] s.l = true) (hn : Gd (liftS (nameS resv) (.ok ⟨s.l.tail, s.d⟩)) n) : stq (liftS (nameS resv) (.ok ⟨s.l.tail, s.d⟩)) = stq (dropS resv s) ∧ Gd (dropS resv s) { kind := 2, table := n } := by
  have e : dropS resv s = liftS (fun s => .ok ({ kind := 2, table := n }, s)) (stq (liftS (nameS resv) (.ok ⟨s.l.tail, s.d⟩))) := by
    rw [dropS, if_pos hT, show nameS resv ⟨s.l.tail, s.d⟩ = liftS (nameS resv) (.ok ⟨s.l.tail, s.d⟩) from rfl, bindS_law hn]
  rw [e]
  exact ⟨liftS_ret.1.symm, liftS_ret.2⟩
theorem drop_i {s : Sta} {n : Bs} {q1 : QS} (hT : isT 1 [116, 97, 98, 108, 101] s.l = false) (h1 : q1 = mustS 1 [105, 110, 100, 101, 120] (.ok s)) (hn : Gd (liftS (nameS resv) q1) n) : stq (liftS (nameS resv) q1) = stq (dropS resv s) ∧ Gd (dropS resv s) { kind := 4, index := n } := by
  have e : dropS resv s = liftS (fun s => .ok ({ kind := 4, index := n }, s)) (stq (liftS (nameS resv) q1)) := by
    rw [dropS, if_neg (by simp [hT]), thenS_law, show needS 1 [105, 110, 100, 101, 120] s = q1 from h1.symm ▸ rfl, liftS_bind hn]
  rw [e]
  exact ⟨liftS_ret.1.symm, liftS_ret.2⟩

/-- Cells that hold no list. -/
theorem SC.plain {N : Nat} {S : Heap} {st : Stm} {c : List AVal} (h : st = { kind := st.kind, table := st.table, index := st.index, wher := st.wher }) (hc : c = [.int st.kind, .str st.table, .str st.index, .nilS, .nilS, .bool false, .nilS, .nilS, .nilS] ++ exC st.wher ++ [.nilS, .nilS]) : SC N S st c := by
  refine ⟨.nilS, .nilS, .nilS, .nilS, .nilS, .nilS, .nilS, ?_, ?_, ?_, ?_, ?_, ?_, ?_, ?_⟩
  · rw [hc]; generalize st.kind = k, st.table = t, st.index = i, st.wher = w at h; rw [h]
  all_goals (rw [h]; exact .nil _ _ _)
theorem SQw.out {S Sx S2 : Heap} {pid : Nat} {ts : List Tok} {r : ResS Stm} {c : List AVal} (hl : pid < S.length) (hx : S.length < Sx.length) (kx : Kpt pid S Sx) (hk : Kpt pid Sx S2) (ha : SAt S2 pid ts (stq r)) (hcl : c.length = 18) (hco : c.all AVal.one = true) (hsc : ∀ st s, r = .ok (st, s) → SC Sx.length S2 st c) :
    SQw S pid ts r (.ret (.agg c)) (S2.set S.length (.cells 18 [c] (some 1))) := by
  have k1 := kx.1
  have k2 := hk.1
  refine ⟨c, rfl, hcl, hco, ⟨by simp; omega, fun j hj j1 => ?_⟩, ha.same (List.getElem?_set_ne (by omega)), fun st s e => ?_⟩
  · rw [List.getElem?_set_ne (by omega), hk.2 j (by omega) j1, kx.2 j hj j1]
  · exact (hsc st s e).k2 (pid := pid) (sid := S.length) ⟨by simp, fun j hj j1 j2 => List.getElem?_set_ne (Ne.symm j2)⟩ (by omega) hx (by omega)
/-- What stands behind the switch. -/
def StP (S H0 : Heap) (pid : Nat) (ts : List Tok) (r : ResS Stm) : AExit → Tmps → Heap → Prop
  | .normal, a, S' => get a 2 = .ptr S.length 0 0 ∧ get a 3 = .ptr (S.length + 1) 0 0 ∧ ∃ c, CJ H0 pid (S.length + 1) c ts (stq r) S' ∧ c.length = 18 ∧ c.all AVal.one = true ∧ ∀ st s, r = .ok (st, s) → SC (S.length + 2) S' st c
  | .ret, a, S' => resPost [.cell 2 true 18] (SQw S pid ts r) .ret a S'
  | _, _, _ => False
def f23s (G : Nat → AVal) : MC := match f23m G with
  | .seq _ (.seq _ (.seq y _)) => y
  | x => x

section
variable {pid : Nat} {ts : List Tok} (hts : ts.length ≤ 4000) (hok : ∀ t ∈ ts, OkT t)
include hts hok
set_option maxHeartbeats 16000000 in
theorem q23a {S H0 : Heap} {s : Sta} {a : Tmps} {r : ResS Stm} (hl : pid < S.length) (hH0 : H0 = S ++ [.cells 18 [z18] (some 1), .cells 18 [z18] (some 1)]) (h : SAt H0 pid ts (.ok s)) (b0 : get a 0 = .ptr pid 0 0) (b2 : get a 2 = .ptr S.length 0 0) (b3 : get a 3 = .ptr (S.length + 1) 0 0) (hr : stmtS resv (ts.length + 1) s = r) {G : Nat → AVal} :
    mwp (ACalls Tryz.prog (B0 w0)) (f23s G) (StP S H0 pid ts r) a H0 := by
  have hps : pid ≠ S.length + 1 := by omega
  have hlen : H0.length = S.length + 2 := by rw [hH0]; simp
  have c0 : CJ H0 pid (S.length + 1) z18 ts (.ok s) H0 := ⟨h, by rw [hH0]; simp, Kst.refl _ _ _⟩
  have hz0 : H0[S.length]? = some (.cells 18 [z18] (some 1)) := by rw [hH0]; simp
  have kS : ∀ {Sx : Heap}, Kst pid (S.length + 1) H0 Sx → Kpt pid S Sx ∧ S.length + 2 ≤ Sx.length ∧ Sx[S.length]? = some (.cells 18 [z18] (some 1)) := fun {Sx} hk => by
    have k1 := hk.1
    refine ⟨⟨by omega, fun j hj j1 => ?_⟩, by omega, ?_⟩
    · rw [hk.2 j (by omega) j1 (by omega), hH0, List.getElem?_append_left hj]
    · rw [hk.2 S.length (by omega) (by omega) (by omega)]; exact hz0
  rw [stmtS] at hr
  unfold f23s f23m
  rw [mwp_block, mwp_seq]
  simp [-mwp_block, -mwp_seq, -appendR, b0, b2, b3]
  refine (q48 hts c0.at_ 1 _).use ?_
  rintro e S1 ⟨hst1, rfl, h1⟩
  have c1 := c0.step hps hst1 h1
  have hbT1 : isS 1 [99, 114, 101, 97, 116, 101] (.ok s) = isT 1 [99, 114, 101, 97, 116, 101] s.l := rfl
  generalize hb1 : isT 1 [99, 114, 101, 97, 116, 101] s.l = b at hbT1
  rw [hbT1]
  cases b with
  | true =>
    rw [gotS_ok, if_pos hb1] at c1
    rw [if_pos hb1] at hr
    simp [-mwp_block, -mwp_seq, -appendR, b0, b2, b3]
    rw [mwp_seq]
    simp [-mwp_block, -mwp_seq, -appendR, b0, b2, b3]
    refine (q49 hts c1.at_).use ?_
    rintro e Sr hQ
    obtain ⟨c, rfl, hcl, hco, hkp, haq, hsc⟩ := hQ.w
    obtain ⟨kx1, kx2, kx3⟩ := kS c1.k2
    have hz := (hkp.2 S.length (by omega) (by omega)).trans kx3
    have hself := setSelf (lt_of_some hz) (.cells 18 [c] (some 1))
    simp [-mwp_block, -mwp_seq, -appendR, b0, b2, b3, hz, hcl, hco, hself]
    rw [← hr]
    have := SQw.out hl (by omega) kx1 hkp haq hcl hco hsc
    simpa [StP, -appendR, b2, hz, hcl, hco, hself] using this
  | false =>
    rw [gotS_false hbT1] at c1
    rw [if_neg (by simp [hb1])] at hr
    simp [-mwp_block, -mwp_seq, -appendR, b0, b2, b3]
    rw [mwp_seq]
    simp [-mwp_block, -mwp_seq, -appendR, b0, b2, b3]
    refine (q48 hts c1.at_ 1 _).use ?_
    rintro e S2 ⟨hst2, rfl, h2⟩
    have c2 := c1.step hps hst2 h2
    have hbT2 : isS 1 [100, 114, 111, 112] (.ok s) = isT 1 [100, 114, 111, 112] s.l := rfl
    generalize hb2 : isT 1 [100, 114, 111, 112] s.l = b at hbT2
    rw [hbT2]
    cases b with
    | true =>
      rw [gotS_ok, if_pos hb2] at c2
      rw [if_pos hb2] at hr
      simp [-mwp_block, -mwp_seq, -appendR, b0, b2, b3]
      rw [mwp_seq, mwp_seq]
      simp [-mwp_block, -mwp_seq, -appendR, b0, b2, b3]
      refine (q48 hts c2.at_ 1 _).use ?_
      rintro e Sd ⟨hstd, rfl, hd⟩
      have cd := c2.step hps hstd hd
      have hbD : isS 1 [116, 97, 98, 108, 101] (.ok ⟨s.l.tail, s.d⟩) = isT 1 [116, 97, 98, 108, 101] s.l.tail := rfl
      generalize hbd : isT 1 [116, 97, 98, 108, 101] s.l.tail = b at hbD
      rw [hbD]
      cases b with
      | true =>
        rw [gotS_ok, if_pos hbd] at cd
        simp [-mwp_block, -mwp_seq, -appendR, b0, b2, b3]
        rw [mwp_seq]
        simp [-mwp_block, -mwp_seq, -appendR, b0, b2, b3]
        refine (q50 hts cd.at_).use ?_
        rintro e Sn ⟨hstn, n, rfl, hn1, hn2⟩
        have cn := cd.step hps hstn hn1
        obtain ⟨lw1, lw2⟩ := drop_t (s := ⟨s.l.tail, s.d⟩) hbd hn2
        obtain ⟨kx1, kx2, hz⟩ := kS cn.k2
        have hself := setSelf (lt_of_some hz) (.cells 18 [[.int 2, .str n, .str [], .nilS, .nilS, .bool false, .nilS, .nilS, .nilS, .int 0, .nilS, .int 0, .int 0, .int 0, .str [], .str [], .nilS, .nilS]] (some 1))
        simp [-mwp_block, -mwp_seq, -appendR, b0, b2, b3, hz, hself]
        rw [← hr]
        have haq := cn.at_
        rw [lw1] at haq
        have := SQw.out (c := [.int 2, .str n, .str [], .nilS, .nilS, .bool false, .nilS, .nilS, .nilS, .int 0, .nilS, .int 0, .int 0, .int 0, .str [], .str [], .nilS, .nilS]) hl (by omega) kx1 ⟨Nat.le_refl _, fun _ _ _ => rfl⟩ haq rfl rfl (fun st s' e => by have := lw2 _ _ e; subst this; exact SC.plain rfl (by rw [exC_zero]; rfl))
        simpa [StP, -appendR, b2, hz, hself] using this
      | false =>
        rw [gotS_false hbD] at cd
        simp [-mwp_block, -mwp_seq, -appendR, b0, b2, b3]
        rw [mwp_seq]
        simp [-mwp_block, -mwp_seq, -appendR, b0, b2, b3]
        refine (q51 hts cd.at_ 1 _).use ?_
        rintro e Sm ⟨hstm, rfl, hm⟩
        have cm := cd.step hps hstm hm
        simp [-mwp_block, -mwp_seq, -appendR, b0, b2, b3]
        rw [mwp_seq]
        simp [-mwp_block, -mwp_seq, -appendR, b0, b2, b3]
        refine (q50 hts cm.at_).use ?_
        rintro e Sn ⟨hstn, n, rfl, hn1, hn2⟩
        have cn := cm.step hps hstn hn1
        obtain ⟨lw1, lw2⟩ := drop_i (s := ⟨s.l.tail, s.d⟩) hbd rfl hn2
        obtain ⟨kx1, kx2, hz⟩ := kS cn.k2
        have hself := setSelf (lt_of_some hz) (.cells 18 [[.int 4, .str [], .str n, .nilS, .nilS, .bool false, .nilS, .nilS, .nilS, .int 0, .nilS, .int 0, .int 0, .int 0, .str [], .str [], .nilS, .nilS]] (some 1))
        simp [-mwp_block, -mwp_seq, -appendR, b0, b2, b3, hz, hself]
        rw [← hr]
        have haq := cn.at_
        rw [lw1] at haq
        have := SQw.out (c := [.int 4, .str [], .str n, .nilS, .nilS, .bool false, .nilS, .nilS, .nilS, .int 0, .nilS, .int 0, .int 0, .int 0, .str [], .str [], .nilS, .nilS]) hl (by omega) kx1 ⟨Nat.le_refl _, fun _ _ _ => rfl⟩ haq rfl rfl (fun st s' e => by have := lw2 _ _ e; subst this; exact SC.plain rfl (by rw [exC_zero]; rfl))
        simpa [StP, -appendR, b2, hz, hself] using this
    | false =>
      rw [gotS_false hbT2] at c2
      rw [if_neg (by simp [hb2])] at hr
      simp [-mwp_block, -mwp_seq, -appendR, b0, b2, b3]
      rw [mwp_seq]
      simp [-mwp_block, -mwp_seq, -appendR, b0, b2, b3]
      refine (q48 hts c2.at_ 1 _).use ?_
      rintro e S3 ⟨hst3, rfl, h3⟩
      have c3 := c2.step hps hst3 h3
      have hbT3 : isS 1 [105, 110, 115, 101, 114, 116] (.ok s) = isT 1 [105, 110, 115, 101, 114, 116] s.l := rfl
      generalize hb3 : isT 1 [105, 110, 115, 101, 114, 116] s.l = b at hbT3
      rw [hbT3]
      cases b with
      | true =>
        rw [gotS_ok, if_pos hb3] at c3
        rw [if_pos hb3] at hr
        simp [-mwp_block, -mwp_seq, -appendR, b0, b2, b3]
        rw [mwp_seq]
        simp [-mwp_block, -mwp_seq, -appendR, b0, b2, b3]
        refine (q52 hts hok c3.at_).use ?_
        rintro e Sr hQ
        obtain ⟨c, rfl, hcl, hco, hkp, haq, hsc⟩ := hQ
        obtain ⟨kx1, kx2, kx3⟩ := kS c3.k2
        have hz := (hkp.2 S.length (by omega) (by omega)).trans kx3
        have hself := setSelf (lt_of_some hz) (.cells 18 [c] (some 1))
        simp [-mwp_block, -mwp_seq, -appendR, b0, b2, b3, hz, hcl, hco, hself]
        rw [← hr]
        have := SQw.out hl (by omega) kx1 hkp haq hcl hco hsc
        simpa [StP, -appendR, b2, hz, hcl, hco, hself] using this
      | false =>
        rw [gotS_false hbT3] at c3
        rw [if_neg (by simp [hb3])] at hr
        simp [-mwp_block, -mwp_seq, -appendR, b0, b2, b3]
        rw [mwp_seq]
        simp [-mwp_block, -mwp_seq, -appendR, b0, b2, b3]
        refine (q48 hts c3.at_ 1 _).use ?_
        rintro e S4 ⟨hst4, rfl, h4⟩
        have c4 := c3.step hps hst4 h4
        have hbT4 : isS 1 [115, 101, 108, 101, 99, 116] (.ok s) = isT 1 [115, 101, 108, 101, 99, 116] s.l := rfl
        generalize hb4 : isT 1 [115, 101, 108, 101, 99, 116] s.l = b at hbT4
        rw [hbT4]
        cases b with
        | true =>
          rw [gotS_ok, if_pos hb4] at c4
          rw [if_pos hb4] at hr
          simp [-mwp_block, -mwp_seq, -appendR, b0, b2, b3]
          rw [mwp_seq]
          simp [-mwp_block, -mwp_seq, -appendR, b0, b2, b3]
          refine (q53 hts hok c4.at_).use ?_
          rintro e Sr hQ
          obtain ⟨c, rfl, hcl, hco, hkp, haq, hsc⟩ := hQ
          obtain ⟨kx1, kx2, kx3⟩ := kS c4.k2
          have hz := (hkp.2 S.length (by omega) (by omega)).trans kx3
          have hself := setSelf (lt_of_some hz) (.cells 18 [c] (some 1))
          simp [-mwp_block, -mwp_seq, -appendR, b0, b2, b3, hz, hcl, hco, hself]
          rw [← hr]
          have := SQw.out hl (by omega) kx1 hkp haq hcl hco hsc
          simpa [StP, -appendR, b2, hz, hcl, hco, hself] using this
        | false =>
          rw [gotS_false hbT4] at c4
          rw [if_neg (by simp [hb4])] at hr
          simp [-mwp_block, -mwp_seq, -appendR, b0, b2, b3]
          rw [mwp_seq]
          simp [-mwp_block, -mwp_seq, -appendR, b0, b2, b3]
          refine (q48 hts c4.at_ 1 _).use ?_
          rintro e S5 ⟨hst5, rfl, h5⟩
          have c5 := c4.step hps hst5 h5
          have hbT5 : isS 1 [117, 112, 100, 97, 116, 101] (.ok s) = isT 1 [117, 112, 100, 97, 116, 101] s.l := rfl
          generalize hb5 : isT 1 [117, 112, 100, 97, 116, 101] s.l = b at hbT5
          rw [hbT5]
          cases b with
          | true =>
            rw [gotS_ok, if_pos hb5] at c5
            rw [if_pos hb5] at hr
            simp [-mwp_block, -mwp_seq, -appendR, b0, b2, b3]
            rw [mwp_seq]
            have stf := c5.st
            have cg := c5.set hps [.int 7, .str [], .str [], .nilS, .nilS, .bool false, .nilS, .nilS, .nilS, .int 0, .nilS, .int 0, .int 0, .int 0, .str [], .str [], .nilS, .nilS]
            simp [-mwp_block, -mwp_seq, -appendR, b0, b2, b3, stf]
            generalize S5.set (S.length + 1) (.cells 18 [[.int 7, .str [], .str [], .nilS, .nilS, .bool false, .nilS, .nilS, .nilS, .int 0, .nilS, .int 0, .int 0, .int 0, .str [], .str [], .nilS, .nilS]] (some 1)) = Sg at *
            rw [mwp_seq]
            simp [-mwp_block, -mwp_seq, -appendR, b0, b2, b3]
            refine (q50 hts cg.at_).use ?_
            rintro e Sn ⟨hstn, n, rfl, hn1, hn2⟩
            have cn := cg.step hps hstn hn1
            have stn := cn.st
            have co := cn.set hps [.int 7, .str n, .str [], .nilS, .nilS, .bool false, .nilS, .nilS, .nilS, .int 0, .nilS, .int 0, .int 0, .int 0, .str [], .str [], .nilS, .nilS]
            simp [-mwp_block, -mwp_seq, -appendR, b0, b2, b3, stn]
            generalize Sn.set (S.length + 1) (.cells 18 [[.int 7, .str n, .str [], .nilS, .nilS, .bool false, .nilS, .nilS, .nilS, .int 0, .nilS, .int 0, .int 0, .int 0, .str [], .str [], .nilS, .nilS]] (some 1)) = So at *
            rw [mwp_seq]
            simp [-mwp_block, -mwp_seq, -appendR, b0, b2, b3]
            refine (q51 hts co.at_ 1 _).use ?_
            rintro e Sm ⟨hstm, rfl, hm⟩
            have cm := co.step hps hstm hm
            simp [-mwp_block, -mwp_seq, -appendR, b0, b2, b3]
            rw [mwp_seq]
            obtain ⟨m0, hlo⟩ := LoI.start (step := setS resv (ts.length + 1)) (V := asnsC) (most := 50) (x := []) (cm.lj 17 8 rfl rfl) rfl (by decide)
            refine mwp_mono _ _ (fun _ _ _ _ _ hr h => h.mono hr) ?_ (q23z (w0 := w0) (rid := S.length) rfl hts hok cm.at_.lt (lt_of_some cm.st) hps ⟨by simp [b0], by simp [b2], by simp [b3], hlo⟩)
            intro e az Sz hJ
            cases e <;> first | exact hJ.elim | skip
            obtain ⟨d0, d2, d3, zs, hlj, hzs⟩ := hJ
            obtain ⟨v, cz, ap⟩ := hlj.cj rfl cm.k2
            have cz : CJ H0 pid (S.length + 1) [.int 7, .str n, .str [], .nilS, .nilS, .bool false, .nilS, .nilS, .nilS, .int 0, .nilS, .int 0, .int 0, .int 0, .str [], .str [], .nilS, v] ts _ Sz := cz
            simp [-mwp_block, -mwp_seq, -appendR, d0, d2, d3]
            refine (q56 hts hok cz.at_).use ?_
            rintro e Sw ⟨hstw, w, rfl, hw1, hw2⟩
            have cw := cz.step hps hstw hw1
            have stw := cw.st
            obtain ⟨op, vw, kind, num, scale, text, qual, hxw, o1, o2⟩ := exC_shape w
            have cx := cw.set hps [.int 7, .str n, .str [], .nilS, .nilS, .bool false, .nilS, .nilS, .nilS, .int op, vw, .int kind, .int num, .int scale, .str text, .str qual, .nilS, v]
            obtain ⟨lw1, lw2⟩ := update_law (N := ts.length + 1) hn2 rfl rfl hzs rfl hw2 rfl
            have hml := cm.k2.1
            have apx := ap.kst (hstw.k2 (sid := S.length + 1) |>.trans ⟨by simp, fun j hj j1 j2 => List.getElem?_set_ne (Ne.symm j2)⟩ : Kst pid (S.length + 1) Sz (Sw.set (S.length + 1) (.cells 18 [[.int 7, .str n, .str [], .nilS, .nilS, .bool false, .nilS, .nilS, .nilS, .int op, vw, .int kind, .int num, .int scale, .str text, .str qual, .nilS, v]] (some 1)))) cm.at_.lt (lt_of_some cm.st)
            have hv1 : v.one = true := (Vk.one (.inl ap)).1
            simp [-mwp_block, -mwp_seq, -appendR, d0, d2, d3, hxw, o1, putAt, splice, stw]
            rw [lw1] at cx
            rw [← hr]
            refine ⟨by simp [d2], by simp [d3], _, cx, rfl, by simp [o1, hv1], fun st s' e => ?_⟩
            have := lw2 _ _ e
            subst this
            refine ⟨.nilS, .nilS, .nilS, .nilS, .nilS, .nilS, v, by rw [hxw]; rfl, .nil _ _ _, .nil _ _ _, .nil _ _ _, .nil _ _ _, .nil _ _ _, .nil _ _ _, .inl (apx.le (by omega))⟩
          | false =>
            rw [gotS_false hbT5] at c5
            rw [if_neg (by simp [hb5])] at hr
            simp [-mwp_block, -mwp_seq, -appendR, b0, b2, b3]
            rw [mwp_seq]
            simp [-mwp_block, -mwp_seq, -appendR, b0, b2, b3]
            refine (q48 hts c5.at_ 1 _).use ?_
            rintro e S6 ⟨hst6, rfl, h6⟩
            have c6 := c5.step hps hst6 h6
            have hbT6 : isS 1 [100, 101, 108, 101, 116, 101] (.ok s) = isT 1 [100, 101, 108, 101, 116, 101] s.l := rfl
            generalize hb6 : isT 1 [100, 101, 108, 101, 116, 101] s.l = b at hbT6
            rw [hbT6]
            cases b with
            | true =>
              rw [gotS_ok, if_pos hb6] at c6
              rw [if_pos hb6] at hr
              simp [-mwp_block, -mwp_seq, -appendR, b0, b2, b3]
              rw [mwp_seq]
              simp [-mwp_block, -mwp_seq, -appendR, b0, b2, b3]
              refine (q51 hts c6.at_ 1 _).use ?_
              rintro e Sf ⟨hstf, rfl, hf⟩
              have cf := c6.step hps hstf hf
              simp [-mwp_block, -mwp_seq, -appendR, b0, b2, b3]
              rw [mwp_seq]
              have stf := cf.st
              have cg := cf.set hps [.int 8, .str [], .str [], .nilS, .nilS, .bool false, .nilS, .nilS, .nilS, .int 0, .nilS, .int 0, .int 0, .int 0, .str [], .str [], .nilS, .nilS]
              simp [-mwp_block, -mwp_seq, -appendR, b0, b2, b3, stf]
              generalize Sf.set (S.length + 1) (.cells 18 [[.int 8, .str [], .str [], .nilS, .nilS, .bool false, .nilS, .nilS, .nilS, .int 0, .nilS, .int 0, .int 0, .int 0, .str [], .str [], .nilS, .nilS]] (some 1)) = Sg at *
              rw [mwp_seq]
              simp [-mwp_block, -mwp_seq, -appendR, b0, b2, b3]
              refine (q50 hts cg.at_).use ?_
              rintro e Sn ⟨hstn, n, rfl, hn1, hn2⟩
              have cn := cg.step hps hstn hn1
              have stn := cn.st
              have co := cn.set hps [.int 8, .str n, .str [], .nilS, .nilS, .bool false, .nilS, .nilS, .nilS, .int 0, .nilS, .int 0, .int 0, .int 0, .str [], .str [], .nilS, .nilS]
              simp [-mwp_block, -mwp_seq, -appendR, b0, b2, b3, stn]
              generalize Sn.set (S.length + 1) (.cells 18 [[.int 8, .str n, .str [], .nilS, .nilS, .bool false, .nilS, .nilS, .nilS, .int 0, .nilS, .int 0, .int 0, .int 0, .str [], .str [], .nilS, .nilS]] (some 1)) = So at *
              refine (q56 hts hok co.at_).use ?_
              rintro e Sw ⟨hstw, w, rfl, hw1, hw2⟩
              have cw := co.step hps hstw hw1
              have stw := cw.st
              obtain ⟨op, vw, kind, num, scale, text, qual, hxw, o1, o2⟩ := exC_shape w
              have cx := cw.set hps [.int 8, .str n, .str [], .nilS, .nilS, .bool false, .nilS, .nilS, .nilS, .int op, vw, .int kind, .int num, .int scale, .str text, .str qual, .nilS, .nilS]
              obtain ⟨lw1, lw2⟩ := delete_law (N := ts.length + 1) rfl hn2 rfl hw2 rfl
              simp [-mwp_block, -mwp_seq, -appendR, b0, b2, b3, hxw, o1, putAt, splice, stw]
              rw [lw1] at cx
              rw [← hr]
              refine ⟨by simp [b2], by simp [b3], _, cx, rfl, by simp [o1], fun st s' e => ?_⟩
              have := lw2 _ _ e
              subst this
              exact SC.plain rfl (by rw [hxw]; rfl)
            | false =>
              rw [gotS_false hbT6] at c6
              rw [if_neg (by simp [hb6])] at hr
              simp [-mwp_block, -mwp_seq, -appendR, b0, b2, b3]
              rw [mwp_seq]
              simp [-mwp_block, -mwp_seq, -appendR, b0, b2, b3]
              refine (q48 hts c6.at_ 1 _).use ?_
              rintro e S7 ⟨hst7, rfl, h7⟩
              have c7 := c6.step hps hst7 h7
              have hbT7 : isS 1 [98, 101, 103, 105, 110] (.ok s) = isT 1 [98, 101, 103, 105, 110] s.l := rfl
              generalize hb7 : isT 1 [98, 101, 103, 105, 110] s.l = b at hbT7
              rw [hbT7]
              cases b with
              | true =>
                rw [gotS_ok, if_pos hb7] at c7
                rw [if_pos hb7] at hr
                simp [-mwp_block, -mwp_seq, -appendR, b0, b2, b3]
                have stk := c7.st
                have ck := c7.set hps [.int 9, .str [], .str [], .nilS, .nilS, .bool false, .nilS, .nilS, .nilS, .int 0, .nilS, .int 0, .int 0, .int 0, .str [], .str [], .nilS, .nilS]
                simp [-mwp_block, -mwp_seq, -appendR, b0, b2, b3, stk]
                subst hr
                refine ⟨by simp [b2], by simp [b3], _, ck, rfl, rfl, fun st s' e => ?_⟩
                cases e
                exact SC.plain rfl (by rw [exC_zero]; rfl)
              | false =>
                rw [gotS_false hbT7] at c7
                rw [if_neg (by simp [hb7])] at hr
                simp [-mwp_block, -mwp_seq, -appendR, b0, b2, b3]
                rw [mwp_seq]
                simp [-mwp_block, -mwp_seq, -appendR, b0, b2, b3]
                refine (q48 hts c7.at_ 1 _).use ?_
                rintro e S8 ⟨hst8, rfl, h8⟩
                have c8 := c7.step hps hst8 h8
                have hbT8 : isS 1 [99, 111, 109, 109, 105, 116] (.ok s) = isT 1 [99, 111, 109, 109, 105, 116] s.l := rfl
                generalize hb8 : isT 1 [99, 111, 109, 109, 105, 116] s.l = b at hbT8
                rw [hbT8]
                cases b with
                | true =>
                  rw [gotS_ok, if_pos hb8] at c8
                  rw [if_pos hb8] at hr
                  simp [-mwp_block, -mwp_seq, -appendR, b0, b2, b3]
                  have stk := c8.st
                  have ck := c8.set hps [.int 10, .str [], .str [], .nilS, .nilS, .bool false, .nilS, .nilS, .nilS, .int 0, .nilS, .int 0, .int 0, .int 0, .str [], .str [], .nilS, .nilS]
                  simp [-mwp_block, -mwp_seq, -appendR, b0, b2, b3, stk]
                  subst hr
                  refine ⟨by simp [b2], by simp [b3], _, ck, rfl, rfl, fun st s' e => ?_⟩
                  cases e
                  exact SC.plain rfl (by rw [exC_zero]; rfl)
                | false =>
                  rw [gotS_false hbT8] at c8
                  rw [if_neg (by simp [hb8])] at hr
                  simp [-mwp_block, -mwp_seq, -appendR, b0, b2, b3]
                  rw [mwp_seq]
                  simp [-mwp_block, -mwp_seq, -appendR, b0, b2, b3]
                  refine (q48 hts c8.at_ 1 _).use ?_
                  rintro e S9 ⟨hst9, rfl, h9⟩
                  have c9 := c8.step hps hst9 h9
                  have hbT9 : isS 1 [114, 111, 108, 108, 98, 97, 99, 107] (.ok s) = isT 1 [114, 111, 108, 108, 98, 97, 99, 107] s.l := rfl
                  generalize hb9 : isT 1 [114, 111, 108, 108, 98, 97, 99, 107] s.l = b at hbT9
                  rw [hbT9]
                  cases b with
                  | true =>
                    rw [gotS_ok, if_pos hb9] at c9
                    rw [if_pos hb9] at hr
                    simp [-mwp_block, -mwp_seq, -appendR, b0, b2, b3]
                    have stk := c9.st
                    have ck := c9.set hps [.int 11, .str [], .str [], .nilS, .nilS, .bool false, .nilS, .nilS, .nilS, .int 0, .nilS, .int 0, .int 0, .int 0, .str [], .str [], .nilS, .nilS]
                    simp [-mwp_block, -mwp_seq, -appendR, b0, b2, b3, stk]
                    subst hr
                    refine ⟨by simp [b2], by simp [b3], _, ck, rfl, rfl, fun st s' e => ?_⟩
                    cases e
                    exact SC.plain rfl (by rw [exC_zero]; rfl)
                  | false =>
                    rw [gotS_false hbT9] at c9
                    rw [if_neg (by simp [hb9])] at hr
                    simp [-mwp_block, -mwp_seq, -appendR, b0, b2, b3]
                    refine (q24 c9.at_ (c := 130) (by decide)).use ?_
                    rintro e Sf ⟨hstf, rfl, hf⟩
                    have cf := c9.step hps hstf hf
                    simp [-mwp_block, -mwp_seq, -appendR, b0, b2, b3]
                    subst hr
                    exact ⟨by simp [b2], by simp [b3], _, cf, rfl, rfl, fun st s' e => by cases e⟩
end
end Go.Abs
set_option linter.unusedSimpArgs false
set_option linter.unusedVariables false
namespace Go.Abs
open Go Go.RowKit Go.Proofs Go.Lx Go.Pz
variable {w0 : World}

/-- The document's Tokens, frozen; no nil where there are some. -/
theorem w12g (l : Bs) (S : Heap) : ACalls Tryz.prog (B0 w0) 12 [.str l] S fun e S' => S' = S ∧ (match Lx.tokens l with
    | .ok ts => ∃ fl, (ts ≠ [] → fl ≠ .nil) ∧ e = .ret (.tuple [.list fl (toksV ts), .int 0])
    | .error n => n ≠ 0 ∧ e = .ret (.tuple [.list .full [], .int n])) := by
  refine ACalls.close (w12 l S) ?_
  intro e S' h
  have htake : ∀ S'' : Heap, S.length ≤ S''.length → (∀ j, j < S.length → S''[j]? = S[j]?) → S''.take S.length = S := fun S'' hl ht => by
    refine List.ext_getElem? fun j => ?_
    rcases Nat.lt_or_ge j S.length with hj | hj
    · rw [List.getElem?_take_of_lt hj]; exact ht j hj
    · rw [List.getElem?_eq_none (by simp; omega), List.getElem?_eq_none hj]
  cases hres : Lx.tokens l with
  | error n =>
    rw [hres] at h
    cases h with
    | err _ he S' hl ht => exact .flat (htake _ hl ht) (by simp) ⟨rfl, he, rfl⟩
  | ok ts =>
    rw [hres] at h
    cases h with
    | ok _ u S' ho =>
      have hap := ho.ap 0 _ _ _ rfl
      generalize hes : toksV ts = es at *
      have hsc : ∀ n, scLL n es = true := fun n => hes ▸ toksV_sc ts n
      cases hap with
      | none fl hf =>
        refine .flat (htake _ ho.le ho.low) (by simp) ⟨rfl, fl, fun hne => ?_, by rw [hes]⟩
        cases ts with
        | nil => exact absurd rfl hne
        | cons t r => simp [toksV] at hes
      | row id off len es0 cap hN hS hl =>
        refine .frz id 4 es0 cap hS ?_
        refine .flat (htake _ (by simpa using ho.le) fun j hj => ?_) ?_ ⟨rfl, .unk, fun _ => by simp, ?_⟩
        · rw [List.getElem?_set_ne (by omega)]; exact ho.low j hj
        · simpa [hl] using hsc S.length
        · simp [hl, hes]

section
variable {pid : Nat} {ts : List Tok} (hts : ts.length ≤ 4000) (hok : ∀ t ∈ ts, OkT t)
include hts hok
set_option maxHeartbeats 4000000 in
theorem q23 {S : Heap} {s : Sta} (h : SAt S pid ts (.ok s)) : ACalls Tryz.prog (B0 w0) 23 [.ptr pid 0 0] S (SQw S pid ts (stmtS resv (ts.length + 1) s)) := by
  have hl := h.lt
  refine fn_sound tryOrd (f23_c _) (by simp [f23]) ?_
  rw [f23, f23m, mwp_seq]
  simp [-mwp_block, -mwp_seq, -appendR]
  rw [mwp_seq]
  simp [-mwp_block, -mwp_seq, -appendR]
  obtain ⟨H0, hH0⟩ : ∃ H0, H0 = S ++ [AObj.cells 18 [z18] (some 1), .cells 18 [z18] (some 1)] := ⟨_, rfl⟩
  rw [← hH0]
  rw [mwp_seq]
  refine mwp_mono _ _ (fun _ _ _ _ _ hr h => h.mono hr) ?_ (q23a (w0 := w0) (G := (B0 w0).G) hts hok hl hH0 (by rw [hH0]; exact h.more _) (by simp) (by simp) (by simp) rfl)
  intro e a1 S1 hJ
  cases e <;> first | exact hJ.elim | skip
  · obtain ⟨b2, b3, c, hcj, hcl, hco, hsc⟩ := hJ
    have hk := hcj.k2
    have hst := hcj.st
    have hz : S1[S.length]? = some (.cells 18 [z18] (some 1)) := by
      rw [hk.2 S.length (by rw [hH0]; simp) (by omega) (by omega), hH0]; simp
    simp [-mwp_block, -mwp_seq, -appendR]
    refine mwp_mono _ _ (fun _ _ _ _ _ hr h => h.mono hr) ?_ (q_fin0 (w0 := w0) (k := 97) hz hst (by omega) rfl hcl hco b2 b3 (by decide))
    intro e a2 S2 hR
    have hR := RtP.mono (R' := SQw S pid ts (stmtS resv (ts.length + 1) s)) ?_ hR
    · cases e <;> first | exact hR.elim | skip
      exact hR
    rintro e S' ⟨rfl, rfl⟩
    have hkp := q_kpt (Step.refl pid S) (hH0 ▸ hk)
    have hle := hk.1
    rw [hH0] at hle
    simp at hle
    refine ⟨c, rfl, hcl, hco, ⟨by simp; omega, fun j hj j1 => by rw [List.getElem?_set_ne (by omega)]; exact hkp.2 j hj j1⟩, hcj.at_.same (List.getElem?_set_ne (by omega)), fun st s' e => ?_⟩
    exact (hsc st s' e).k2 (pid := pid) (sid := S.length) ⟨by simp, fun j hj j1 j2 => List.getElem?_set_ne (Ne.symm j2)⟩ (by omega) (by omega) (by omega)
  · exact hJ
end

def f10t (G : Nat → AVal) : MC := match f10m G with
  | .seq _ (.seq _ (.seq _ (.seq _ (.seq _ (.seq _ (.seq _ y)))))) => y
  | x => x
def f10u (G : Nat → AVal) : MC := match f10m G with
  | .seq _ (.seq _ (.seq _ (.seq _ (.seq _ (.seq _ y))))) => y
  | x => x
section
variable {S : Heap} {x : Bs} {ts : List Tok} {G : Nat → AVal}
set_option maxHeartbeats 2000000 in
/-- Parse's end, behind an error. -/
theorem q10e {H : Heap} {a : Tmps} {cd : Int} (h : SAt H (S.length + 1) ts (.error cd)) (hz : H[S.length]? = some (.cells 18 [z18] (some 1))) (ht : H.take S.length = S) (b2 : get a 2 = .ptr S.length 0 0) (b6 : get a 6 = .ptr (S.length + 1) 0 0) (hp : Pz.parse resv x = .error cd) :
    mwp (ACalls Tryz.prog (B0 w0)) (f10t G) (resPost [.cell 2 true 18, .tmp 3] (Pa9 S x)) a H := by
  obtain ⟨v, i, m, h1, hb⟩ := h.erE
  have hb2 : (cd != 0) = true := by simp only [bne, hb]; rfl
  have hself := setSelf (lt_of_some hz) (AObj.cells 18 [z18] (some 1))
  have hne : (H.set S.length (.cells 18 [z18] (some 1)))[S.length + 1]? = some (.cells 5 [[v, .int i, .int 0, .int cd, .int m]] (some 1)) := by rw [List.getElem?_set_ne (by omega)]; exact h1
  unfold f10t f10m
  simp [-appendR, b2, b6, h1, hb2, hz, hself, hne]
  refine ⟨by rw [List.take_set_of_le (by omega)]; exact ht, ?_⟩
  rw [hp]
set_option maxHeartbeats 2000000 in
theorem q10f {H : Heap} {a : Tmps} {cd : Int} (h : SAt H (S.length + 1) ts (.error cd)) (hz : H[S.length]? = some (.cells 18 [z18] (some 1))) (ht : H.take S.length = S) (b2 : get a 2 = .ptr S.length 0 0) (b6 : get a 6 = .ptr (S.length + 1) 0 0) (hp : Pz.parse resv x = .error cd) :
    mwp (ACalls Tryz.prog (B0 w0)) (f10u G) (resPost [.cell 2 true 18, .tmp 3] (Pa9 S x)) a H := by
  obtain ⟨v, i, m, h1, hb⟩ := h.erE
  unfold f10u f10m
  rw [mwp_seq, mwp_seq]
  by_cases hm : 40 < m
  · simp [-mwp_seq, -appendR, b2, b6, h1, hm]
    refine (q24 h (c := 5) (by decide)).use ?_
    rintro e H2 ⟨hst, rfl, h2⟩
    simp [-mwp_seq, -appendR, b2, b6]
    have e : H2.take S.length = H.take S.length := List.ext_getElem? fun j => by
      rcases Nat.lt_or_ge j S.length with hj | hj
      · rw [List.getElem?_take_of_lt hj, List.getElem?_take_of_lt hj, hst.2 j (by omega)]
      · rw [List.getElem?_eq_none (by simp; omega), List.getElem?_eq_none (by simp; omega)]
    exact q10e (G := G) h2 ((hst.2 S.length (by omega)).trans hz) (e.trans ht) (by simp [b2]) (by simp [b6]) hp
  · simp [-mwp_seq, -appendR, b2, b6, h1, hm]
    exact q10e (G := G) h hz ht (by simp [b2]) (by simp [b6]) hp
end
set_option maxHeartbeats 8000000 in
theorem q10 (x : Bs) (S : Heap) : ACalls Tryz.prog (B0 w0) 10 [.str x] S (PaR S x) := by
  refine ACalls.close (R := Pa9 S x) ?_ (fun e S' h => pa9_close h)
  refine fn_sound tryOrd (f10_c _) (by simp [f10]) ?_
  rw [f10, f10m, mwp_seq]
  simp [-mwp_block, -mwp_seq, -appendR]
  rw [mwp_seq]
  simp [-mwp_block, -mwp_seq, -appendR]
  refine (w12g x _).use ?_
  rintro e S1 ⟨rfl, h1⟩
  cases hT : Lx.tokens x with
  | error n =>
    rw [hT] at h1
    obtain ⟨hn, rfl⟩ := h1
    have hb : (n != 0) = true := by simp [hn]
    simp [-appendR, hb]
    refine ⟨by simp, ?_⟩
    rw [Pz.parse, hT]
  | ok ts =>
    rw [hT] at h1
    obtain ⟨fl, hfl, rfl⟩ := h1
    have hlen := tokens_len hT
    have hok := toks_ok _ x ts (Nat.le_refl _) (tokens_ok hT).2.1
    have hpz : Pz.parse resv x = parseT resv ts := by rw [Pz.parse, hT]
    simp [-mwp_block, -mwp_seq, -appendR]
    rw [mwp_seq, mwp_seq]
    simp [-mwp_block, -mwp_seq, -appendR]
    rw [mwp_seq]
    simp [-mwp_block, -mwp_seq, -appendR]
    obtain ⟨H, hH⟩ : ∃ H, H = S ++ [AObj.cells 18 [z18] (some 1), .cells 5 [[.list fl (toksV ts), .int 0, .int 0, .int 0, .int 0]] (some 1)] := ⟨_, rfl⟩
    have hHl : H.length = S.length + 2 := by rw [hH]; simp
    have hat : SAt H (S.length + 1) ts (.ok ⟨ts, 0⟩) := ⟨0, ⟨fl, 0, 0, hfl, by rw [hH]; simp, Nat.zero_le _, rfl, rfl⟩, fun s e => by cases e; rfl⟩
    rw [← hH]
    rw [mwp_seq]
    simp [-mwp_block, -mwp_seq, -appendR]
    refine (q23 hlen hok hat).use ?_
    rintro e H2 ⟨c, rfl, hcl, hco, hkp, haq, hsc⟩
    have hk1 := hkp.1
    have hz2 : H2[S.length]? = some (.cells 18 [z18] (some 1)) := by rw [hkp.2 S.length (by omega) (by omega), hH]; simp
    have htk : ∀ H' : Heap, S.length ≤ H'.length → (∀ j, j < S.length → H'[j]? = H2[j]?) → H'.take S.length = S := fun H' hl hj => by
      refine List.ext_getElem? fun j => ?_
      rcases Nat.lt_or_ge j S.length with hj' | hj'
      · rw [List.getElem?_take_of_lt hj', hj j hj', hkp.2 j (by omega) (by omega), hH, List.getElem?_append_left hj']
      · rw [List.getElem?_eq_none (by simp; omega), List.getElem?_eq_none hj']
    simp [-mwp_block, -mwp_seq, -appendR, hcl, hco]
    obtain ⟨H3, hH3⟩ : ∃ H3, H3 = H2 ++ [AObj.cells 18 [c] (some 1)] := ⟨_, rfl⟩
    have hH3l : H3.length = H2.length + 1 := by rw [hH3]; simp
    have h3 : ∀ j, j < H2.length → H3[j]? = H2[j]? := fun j hj => by rw [hH3, List.getElem?_append_left hj]
    have hz3 : H3[S.length]? = some (.cells 18 [z18] (some 1)) := (h3 _ (by omega)).trans hz2
    have hc3 : H3[H2.length]? = some (.cells 18 [c] (some 1)) := by rw [hH3]; simp
    have ha3 : SAt H3 (S.length + 1) ts (stq (stmtS resv (ts.length + 1) ⟨ts, 0⟩)) := by rw [hH3]; exact haq.more _
    have ht3 := htk H3 (by omega) (fun j hj => h3 j (by omega))
    try rw [← hH3]
    clear haq
    cases hr : stmtS resv (ts.length + 1) ⟨ts, 0⟩ with
    | error cd =>
      rw [hr] at ha3
      have ha3 : SAt H3 (S.length + 1) ts (.error cd) := ha3
      have hp : Pz.parse resv x = .error cd := by rw [hpz, parseT, hr]
      obtain ⟨v, i, m, h1, hb⟩ := ha3.erE
      rw [mwp_seq, mwp_seq]
      simp [-mwp_seq, -appendR, h1, hb]
      exact q10f (G := (B0 w0).G) ha3 hz3 ht3 (by simp) (by simp) hp
    | ok y =>
      obtain ⟨st, s⟩ := y
      rw [hr] at ha3
      have ha3 : SAt H3 (S.length + 1) ts (.ok s) := ha3
      have hsc := hsc st s hr
      have hpt : Pz.parse resv x = if s.l ≠ [] then .error 130 else if 40 < s.d then .error 5 else .ok st := by rw [hpz, parseT, hr]
      have ha3' := ha3
      obtain ⟨m, ⟨fl', i, e, g0, g1, g2, rfl, g4⟩, hm⟩ := ha3'
      have hm := hm s rfl
      subst hm
      by_cases hl : s.l = []
      · rw [hl] at g4
        have hie : ¬ (i : Int) < (ts.length : Int) := by
          have := congrArg List.length g4
          simp at this
          omega
        rw [if_neg (by simp [hl])] at hpt
        rw [mwp_seq, mwp_seq]
        simp [-mwp_seq, -appendR, g1, hie]
        rw [mwp_seq, mwp_seq]
        by_cases hd : 40 < s.d
        · have hdI : (40 : Int) < (s.d : Int) := by omega
          rw [if_pos hd] at hpt
          simp [-mwp_seq, -appendR, g1, hdI]
          refine (q24 ha3 (c := 5) (by decide)).use ?_
          rintro e H4 ⟨hst4, rfl, h4⟩
          simp [-mwp_seq, -appendR]
          exact q10e (G := (B0 w0).G) h4 ((hst4.2 S.length (by omega)).trans hz3) (htk H4 (by have := hst4.1; omega) (fun j hj => (hst4.2 j (by omega)).trans (h3 j (by omega)))) (by simp) (by simp) hpt
        · have hdI : ¬ (40 : Int) < (s.d : Int) := by omega
          rw [if_neg hd] at hpt
          simp [-mwp_seq, -appendR, g1, hdI]
          have hself := setSelf (lt_of_some hz3) (AObj.cells 18 [c] (some 1))
          rw [mwp_seq, mwp_seq]
          simp [-appendR, g1, hc3, hz3, hcl, hco, hself]
          refine ⟨htk _ (by simp; omega) (fun j hj => by rw [List.getElem?_set_ne (by omega)]; exact h3 j (by omega)), ?_⟩
          rw [hpt]
          refine ⟨c, rfl, hsc.k2 (pid := S.length + 1) (sid := S.length) ⟨by simp; omega, fun j hj j1 j2 => ?_⟩ (by omega) (by omega) (by omega)⟩
          rw [List.getElem?_set_ne (Ne.symm j2)]; exact h3 j hj
      · have hie : (i : Int) < (ts.length : Int) := by
          rcases Nat.lt_or_ge i ts.length with h | h
          · omega
          · rw [List.drop_eq_nil_of_le h] at g4
            exact absurd g4.symm hl
        rw [if_pos hl] at hpt
        rw [mwp_seq, mwp_seq]
        simp [-mwp_seq, -appendR, g1, hie]
        refine (q24 ha3 (c := 130) (by decide)).use ?_
        rintro e H4 ⟨hst4, rfl, h4⟩
        simp [-mwp_seq, -appendR]
        exact q10f (G := (B0 w0).G) h4 ((hst4.2 S.length (by omega)).trans hz3) (htk H4 (by have := hst4.1; omega) (fun j hj => (hst4.2 j (by omega)).trans (h3 j (by omega)))) (by simp) (by simp) hpt
end Go.Abs
set_option linter.unusedSimpArgs false
set_option linter.unusedVariables false
namespace Go.Abs
open Go Go.RowKit Go.Proofs Go.Lx Go.Pz
variable {w0 : World}

set_option maxHeartbeats 2000000 in
/-- ParseReads. -/
theorem w4 (x : Bs) : ACalls Tryz.prog (B0 w0) 4 [.str x] [] fun e S' => e = .ret (.bool true) := by
  refine fn_sound tryOrd (f4_c _) (by simp [f4]) ?_
  rw [f4, f4m, mwp_seq]
  simp [-appendR, -mwp_seq, -mwp_block]
  rw [mwp_seq, mwp_seq]
  simp [-appendR, -mwp_seq, -mwp_block]
  refine (w8 _).use ?_
  rintro e S1 ⟨rfl, rfl⟩
  simp [-appendR, -mwp_seq, -mwp_block]
  rw [mwp_seq]
  simp [-appendR, -mwp_seq, -mwp_block]
  refine (w9 x _).use ?_
  rintro e S1 h1
  obtain ⟨rfl, d, rfl, hd, hb⟩ := h1.two
  simp [-appendR, -mwp_seq, -mwp_block, hd.len.1, hd.len.2]
  rw [mwp_seq]
  simp [-appendR, -mwp_seq, -mwp_block]
  refine (q10 x _).use ?_
  rintro e S2 h2
  obtain ⟨rfl, c2, rfl, hc2, hb2⟩ := h2.two
  simp [-appendR, hc2.len.1, hc2.len.2, hd.len.1, hd.len.2]
  refine (w11 hb hd hc2 _).use ?_
  rintro e S3 ⟨rfl, rfl⟩
  simp
end Go.Abs
