/- Walks of Same and of LexJoin. Conditions: none; definitions and lemmas. -/
import Derived.Test.YtjoehmgnapdhaaaDoorL5
import Derived.Test.YtjoehmgnapdhaaaDoorC2
set_option linter.unusedSimpArgs false
set_option linter.unusedVariables false
namespace Go.Abs
open Go Go.RowKit Go.Proofs Go.Lx
variable {w0 : World}

theorem toks_len : ∀ (n : Nat) (l : Bs) (s : List Tok), l.length ≤ n → toks l = .ok s → s.length ≤ l.length
  | n, [], s, _, h => by rw [toks_nil] at h; cases h; simp
  | 0, c :: r, s, hn, h => by simp at hn
  | n + 1, c :: r, s, hn, h => by
    by_cases hb : isB c = true
    · rw [toks_blank hb] at h
      have := toks_len n r s (by simpa using hn) h
      simp; omega
    · have hb : isB c = false := by simpa using hb
      cases ho : Lx.one (c :: r) with
      | error e => rw [toks_err hb ho] at h; cases h
      | ok y =>
        obtain ⟨tk, m⟩ := y
        rw [toks_tok hb ho] at h
        have hlen := one_len ho
        cases hr : toks (r.drop (m - 1)) with
        | error e => rw [hr] at h; cases h
        | ok s' =>
          rw [hr] at h
          cases h
          have := toks_len n _ s' (by simp at hn ⊢; omega) hr
          simp at this ⊢; omega
theorem tokens_ok {l : Bs} {s : List Tok} (h : Lx.tokens l = .ok s) : l.length ≤ 4000 ∧ toks l = .ok s ∧ s.length ≤ l.length := by
  rw [Lx.tokens] at h
  split at h
  · cases h
  · exact ⟨by omega, h, toks_len _ l s (Nat.le_refl _) h⟩

theorem toksV_get (ts : List Tok) (i : Nat) (h : i < ts.length) : (toksV ts).getD i [] = tokC ts[i] := by
  rw [getD_eq _ _ _ (by simpa using h)]; simp [toksV]
theorem Rk.tok {S v ts} (h : Rk 4 S v (toksV ts)) {i : Nat} (hi : i < ts.length) : ∃ p, iaddrR 4 S v (.int i) = .ok true p S ∧ loadR true 4 S p = .ok true (.agg (tokC ts[i])) S := by
  obtain ⟨p, h1, h2, _⟩ := h.elem (i := i) (by simpa using hi) (by rw [toksV_get _ _ hi]; rfl)
  refine ⟨p, h1, ?_⟩
  rw [h2 true 4 (Nat.le_refl _), toksV_get _ _ hi]; rfl

/-- Same. -/
theorem w12 {S : Heap} {v u : AVal} {l r : List Tok} (h : Rk 4 S v (toksV l)) (h' : Rk 4 S u (toksV r)) (hl : l.length ≤ 4194304) : ACalls Tryd.prog (B0 w0) 12 [v, u] S fun e S' => e = .ret (.bool (decide (l = r))) ∧ S' = S := by
  refine fn_sound tryOrd (f12_c _) (by simp [f12]) ?_
  by_cases hlen : l.length = r.length
  rotate_left 1
  · have g : ((l.length : Int) == (r.length : Int)) = false := beq_eq_false_iff_ne.2 (by omega)
    have hne : l ≠ r := fun e => hlen (by rw [e])
    simp [f12, f12m, h.lenR, h'.lenR, bne, g, hne]
  simp [f12, f12m, h.lenR, h'.lenR, hlen]
  refine mwp_loop (I := fun n a S' => ∃ i : Nat, n = l.length - i ∧ i ≤ l.length ∧ get a 0 = v ∧ get a 1 = u ∧ get a 5 = .int i ∧ S' = S ∧ l.take i = r.take i) (n := l.length) ?_ ?_
  · exact ⟨0, rfl, Nat.zero_le _, rfl, rfl, rfl, rfl, rfl⟩
  rintro n a S' ⟨i, rfl, hi, a0, a1, a5, rfl, hsame⟩
  by_cases hlt : i < l.length
  · have hlt' : i < r.length := by omega
    obtain ⟨p, q1, q2⟩ := h.tok hlt
    obtain ⟨p', q3, q4⟩ := h'.tok hlt'
    by_cases hx : l[i] = r[i]
    · simp [f12b0, a0, a1, a5, h.lenR, hlt, q1, q2, q3, q4, hx, tokC, wrapS i (by omega)]
      refine ⟨l.length - (i + 1), by omega, i + 1, rfl, by omega, by simp, ?_⟩
      rw [List.take_add_one, List.take_add_one, List.getElem?_eq_getElem hlt, List.getElem?_eq_getElem hlt', hsame, hx]
    · have hne : l ≠ r := fun e => hx (by subst e; rfl)
      have hx' : ¬ (l[i].kind = r[i].kind ∧ l[i].text = r[i].text ∧ l[i].num = r[i].num ∧ l[i].scale = r[i].scale) := fun ⟨h1, h2, h3, h4⟩ => hx (by
        cases hA : l[i]; cases hB : r[i]
        rw [hA] at h1 h2 h3 h4; rw [hB] at h1 h2 h3 h4
        simp at h1 h2 h3 h4
        rw [h1, h2, h3, h4])
      generalize l[i] = A at *
      generalize r[i] = B at *
      simp [f12b0, a0, a1, a5, h.lenR, hlt, q1, q2, q3, q4, tokC, hne]
      have hb : (!A.kind == B.kind || (!decide (A.text = B.text) || (!A.num == B.num || !A.scale == B.scale))) = true := by
        by_cases e1 : A.kind = B.kind
        · by_cases e2 : A.text = B.text
          · by_cases e3 : A.num = B.num
            · have e4 : ¬ A.scale = B.scale := fun e => hx' ⟨e1, e2, e3, e⟩
              simp [e4]
            · simp [e3]
          · simp [e2]
        · simp [e1]
      rw [hb]
      simp [hne]
  · have : i = l.length := by omega
    have heq : l = r := by rw [← List.take_length (l := l), ← List.take_length (l := r), ← hlen, ← this]; exact hsame
    have hge : ¬ i < r.length := by omega
    simp [f12b0, a0, a1, a5, h.lenR, hlt, hlen, hge, heq]

theorem frozen_toks (fl : Fl) (ts : List Tok) (S : Heap) : Rk 4 S (.list fl (toksV ts)) (toksV ts) := .list _ _

/-- LexJoin. -/
theorem w7 (a b : Bs) : ACalls Tryd.prog (B0 w0) 7 [.str a, .str b] [] fun e _ => e = .ret (.bool true) := by
  refine fn_sound tryOrd (f7_c _) (by simp [f7]) ?_
  simp [f7, f7m]
  refine (speaks9 w0 _).use ?_
  rintro e S1 ⟨rfl, rfl⟩
  simp
  refine (w10f a _).use ?_
  rintro e S1 ⟨rfl, he⟩
  cases ha : Lx.tokens a with
  | error n =>
    rw [ha] at he
    obtain ⟨hn, rfl⟩ := he
    simp
    refine (w10f b _).use ?_
    rintro e S1 ⟨rfl, he⟩
    have hne : (n != 0) = true := by simpa using hn
    cases hb : Lx.tokens b with
    | error n2 =>
      rw [hb] at he
      obtain ⟨hn2, rfl⟩ := he
      simp [hne]
    | ok t =>
      rw [hb] at he
      obtain ⟨fl, rfl⟩ := he
      simp [hne]
  | ok s =>
    rw [ha] at he
    obtain ⟨fl, rfl⟩ := he
    obtain ⟨hla, hta, hsa⟩ := tokens_ok ha
    simp
    refine (w10f b _).use ?_
    rintro e S1 ⟨rfl, he⟩
    cases hb : Lx.tokens b with
    | error n2 =>
      rw [hb] at he
      obtain ⟨hn2, rfl⟩ := he
      have hne : (n2 != 0) = true := by simpa using hn2
      simp [hne]
    | ok t =>
      rw [hb] at he
      obtain ⟨fl2, rfl⟩ := he
      obtain ⟨hlb, htb, hsb⟩ := tokens_ok hb
      have hw1 : IntKind.i64.wrap ((a.length : Int) + 1) = ((a.length + 1 : Nat) : Int) := by rw [wrap64_in (by omega) (by omega)]; simp
      have hw2 : IntKind.i64.wrap (4000 - (b.length : Int)) = 4000 - (b.length : Int) := by rw [wrap64_in (by omega) (by omega)]
      by_cases hlen : 4000 - (b.length : Int) < ((a.length + 1 : Nat) : Int)
      · simp only [Int.natCast_add, Int.cast_ofNat_Int] at hlen hw1
        simp [hw1, hw2, hlen]
      · have hsum : a.length + 1 + b.length ≤ 4000 := by omega
        have hjoin : Lx.tokens (a ++ 32 :: b) = .ok (s ++ t) := by
          rw [Lx.tokens, if_neg (by simp; omega)]
          exact toks_app (fun z y e => by cases e; rfl) (by rw [toks_blank (by rfl)]; exact htb) _ a s (Nat.le_refl _) hta
        have hc1 : a.length + 1 ≤ 9223372036854775807 := by omega
        have hc2 : a.length + 1 + b.length ≤ 9223372036854775807 := by omega
        have w10j := fun S => w10f (w0 := w0) (a ++ 32 :: b) S
        rw [hjoin] at w10j
        simp only [Int.natCast_add, Int.cast_ofNat_Int] at hlen hw1
        simp [hw1, hw2, hlen, hc1, hc2]
        refine (w10j _).use ?_
        rintro e S1 ⟨rfl, fl3, rfl⟩
        obtain ⟨S2, happ, ho2, _⟩ := ((Own.start []).add0 4 .full (.inr rfl)).app 0 rfl (y := .list fl (toksV s)) (ys := toksV s) (bytes := 40) rfl (toksV_k s) (by decide) (by simp; omega) (by simp; omega)
        obtain ⟨S3, happ2, ho3, _⟩ := ho2.app 0 rfl (y := .list fl2 (toksV t)) (ys := toksV t) (bytes := 40) rfl (toksV_k t) (by decide) (by simp; omega) (by simp; omega)
        simp [-appendR] at happ happ2 ho3
        have hr1 := ho3.rk 0 rfl
        have e1 : toksV s ++ toksV t = toksV (s ++ t) := by simp [toksV]
        rw [e1] at hr1
        simp [-appendR, happ, happ2]
        refine (w12 (frozen_toks fl3 (s ++ t) _) hr1 (by simp; omega)).use ?_
        rintro e S1 ⟨rfl, rfl⟩
        simp
end Go.Abs
