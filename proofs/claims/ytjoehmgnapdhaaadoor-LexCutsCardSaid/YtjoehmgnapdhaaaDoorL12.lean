/- The walks of the document's Tokens, and of LexCuts. Conditions: none; definitions and lemmas. -/
import Derived.Test.YtjoehmgnapdhaaaDoorL11
set_option linter.unusedSimpArgs false
set_option linter.unusedVariables false
namespace Go.Abs
open Go Go.RowKit Go.Proofs Go.Lx
variable {w0 : World}

/-- What the document's Tokens answers. -/
inductive RTokR (S : Heap) : Except Int (List Tok) → AEnd → Heap → Prop
  | ok (ts : List Tok) (u : AVal) (S' : Heap) (ho : Own S.length S S' [(u, 4, toksV ts)]) : RTokR S (.ok ts) (.ret (.tuple [u, .int 0])) S'
  | err (e : Int) (he : e ≠ 0) (S' : Heap) (hl : S.length ≤ S'.length) (ht : ∀ j, j < S.length → S'[j]? = S[j]?) : RTokR S (.error e) (.ret (.tuple [.list .full [], .int e])) S'

theorem isB_cases (c : UInt8) : (isB c = true ∧ (c.toNat = 32 ∨ c.toNat = 9 ∨ c.toNat = 10 ∨ c.toNat = 13)) ∨ (isB c = false ∧ ¬ c.toNat = 32 ∧ ¬ c.toNat = 9 ∧ ¬ c.toNat = 10 ∧ ¬ c.toNat = 13) := by
  simp [isB]; omega

set_option maxHeartbeats 2000000 in
theorem w11 (s : Bs) (S : Heap) : ACalls Tryd.prog (B0 w0) 11 [.str s] S fun e S' => RTokR S (Lx.tokens s) e S' := by
  refine fn_sound tryOrd (f11_c _) (by simp [f11]) ?_
  by_cases hl : 4000 < s.length
  · have hl' : (4000 : Int) < (s.length : Int) := by omega
    simp [f11, f11m, hl, hl']
    rw [Lx.tokens, if_pos hl]
    exact .err 1 (by decide) S (Nat.le_refl _) (fun _ _ => rfl)
  have hl' : ¬ (4000 : Int) < (s.length : Int) := by omega
  simp [f11, f11m, hl, hl']
  rw [Lx.tokens, if_neg hl]
  refine mwp_loop (I := fun q a S' => ∃ (k : Nat) (u : AVal) (acc : List Tok), q = s.length - k ∧ k ≤ s.length ∧ get a 0 = .str s ∧ get a 4 = .list .full [] ∧ get a 5 = u ∧ get a 6 = .int k ∧ Own S.length S S' [(u, 4, toksV acc)] ∧ acc.length ≤ k ∧
    toks s = catT acc (toks (s.drop k))) (n := s.length) ?_ ?_
  · refine ⟨0, _, [], rfl, Nat.zero_le _, rfl, rfl, rfl, rfl, (Own.start S).add0 4 .full (.inr rfl), by simp, ?_⟩
    rw [List.drop_zero]
    cases toks s <;> rfl
  rintro q a S1 ⟨k, u, acc, rfl, hk, a0, a4, a5, a6, ho, hlen, hspec⟩
  by_cases hlt : k < s.length
  · have hdrop := List.drop_eq_getElem_cons hlt
    have hwk := wrapS k (by omega)
    have hb : ∀ (c : UInt8) (k : Nat), ((c.toNat : Int) == (k : Int)) = decide (c.toNat = k) := fun c k => by
      rw [Bool.eq_iff_iff]; simp; omega
    have c32 := hb s[k] 32
    have c9 := hb s[k] 9
    have c10 := hb s[k] 10
    have c13 := hb s[k] 13
    simp only [Int.cast_ofNat_Int] at c32 c9 c10 c13
    have w30' := fun S => w30 (w0 := w0) s k hlt (by omega) S
    rcases isB_cases s[k] with ⟨hB, hcs⟩ | ⟨hB, h1, h2, h3, h4⟩
    · rw [hdrop, toks_blank hB] at hspec
      rcases hcs with h | h | h | h
      all_goals
        simp [f11b0, a0, a4, a5, a6, hlt, c32, c9, c10, c13, h, hwk]
        exact ⟨s.length - (k + 1), by omega, k + 1, rfl, by omega, by simp, acc, ho, by omega, hspec⟩
    · simp [f11b0, a0, a4, a5, a6, hlt, c32, c9, c10, c13, h1, h2, h3, h4]
      refine (w30' _).use ?_
      rintro e S2 ⟨hR, rfl⟩
      cases hres : Lx.one (s.drop k) with
      | error x =>
        rw [hres] at hR
        obtain ⟨p, rfl⟩ := hR
        have hne := one_err hres
        have hne' : (x != 0) = true := by simp; omega
        rw [hdrop] at hres hspec
        rw [toks_err hB hres] at hspec
        simp [tokC, zTok, hne', a0, a4, a5, a6]
        rw [hspec]
        refine .err x (by omega) _ ?_ ?_
        · have := ho.le; simp; omega
        · intro j hj
          rw [List.getElem?_append_left (by have := ho.le; omega)]
          exact ho.low j hj
      | ok y =>
        obtain ⟨t, n⟩ := y
        rw [hres] at hR
        cases hR
        rw [hdrop] at hres hspec
        have hn := one_len hres
        rw [toks_tok hB hres, List.drop_drop] at hspec
        rw [List.length_drop] at hn
        obtain ⟨S4, happ, ho4, hlt4⟩ := (ho.more [.cells 4 [tokC t] (some 1)]).app 0 rfl (y := .list .full [tokC t]) (ys := [tokC t]) (bytes := 40) rfl (by simp [tokC]) (by decide) (by simp; omega) (by simp; omega)
        simp only [tokC] at happ
        simp [-appendR, tokC, a0, a4, a5, a6, happ]
        have hkn : k + n ≤ s.length := by omega
        refine ⟨s.length - (k + n), by omega, k + n, rfl, hkn, by simp, acc ++ [t], by simpa [toksV] using ho4, by simp; omega, ?_⟩
        rw [hspec, catT_cat, show k + 1 + (n - 1) = k + n by omega]
        cases toks (s.drop (k + n)) <;> rfl
  · obtain rfl : k = s.length := by omega
    rw [List.drop_length, toks_nil] at hspec
    simp [f11b0, a0, a4, a5, a6]
    rw [hspec, catT, List.append_nil]
    exact .ok _ _ _ ho

/-- The document's Tokens, its tokens forgotten as places: nobody writes them. -/
theorem w11f (l : Bs) (S : Heap) : ACalls Tryd.prog (B0 w0) 11 [.str l] S fun e S' => S' = S ∧ (match Lx.tokens l with
    | .ok ts => ∃ fl, e = .ret (.tuple [.list fl (toksV ts), .int 0])
    | .error n => n ≠ 0 ∧ e = .ret (.tuple [.list .full [], .int n])) := by
  refine ACalls.close (w11 l S) ?_
  intro e S' h
  have htake : ∀ S'' : Heap, S.length ≤ S''.length → (∀ j, j < S.length → S''[j]? = S[j]?) → S''.take S.length = S := fun S'' hl ht => by
    refine List.ext_getElem? fun j => ?_
    rcases Nat.lt_or_ge j S.length with hj | hj
    · rw [List.getElem?_take_of_lt hj]; exact ht j hj
    · rw [List.getElem?_eq_none (by simp; omega), List.getElem?_eq_none hj]
  cases hres : Lx.tokens l with
  | error n =>
    rw [hres] at h
    cases h with
    | err _ he S' hl ht => exact .flat (htake _ hl ht) (by simp) ⟨rfl, he, rfl⟩
  | ok ts =>
    rw [hres] at h
    cases h with
    | ok _ u S' ho =>
      have hap := ho.ap 0 _ _ _ rfl
      generalize hes : toksV ts = es at *
      have hsc : ∀ n, scLL n es = true := fun n => hes ▸ toksV_sc ts n
      cases hap with
      | none fl hf => exact .flat (htake _ ho.le ho.low) (by simp) ⟨rfl, fl, by rw [hes]⟩
      | row id off len es0 cap hN hS hl =>
        refine .frz id 4 es0 cap hS ?_
        refine .flat (htake _ (by simpa using ho.le) fun j hj => ?_) ?_ ⟨rfl, .unk, ?_⟩
        · rw [List.getElem?_set_ne (by omega)]; exact ho.low j hj
        · simpa [hl] using hsc S.length
        · simp [hl, hes]

set_option maxHeartbeats 2000000 in
/-- LexCuts. -/
theorem w4 (l : Bs) : ACalls Tryd.prog (B0 w0) 4 [.str l] [] fun e _ => e = .ret (.bool true) := by
  refine fn_sound tryOrd (f4_c _) (by simp [f4]) ?_
  have w10' := fun S => w10 (w0 := w0) l S
  have w10f' := fun S => w10f (w0 := w0) l S
  have w11f' := fun S => w11f (w0 := w0) l S
  simp [f4, f4m]
  refine (speaks9 w0 _).use ?_
  rintro e S1 ⟨rfl, rfl⟩
  simp
  refine (w10' _).use ?_
  intro e S1 h
  cases hres : Lx.tokens l with
  | error n =>
    rw [hres] at h w10f' w11f'
    cases h with
    | err _ hn S1 hl ht =>
      simp
      refine (w10f' _).use ?_
      rintro e S2 ⟨rfl, -, rfl⟩
      simp
      refine (w11f' _).use ?_
      rintro e S2 ⟨rfl, -, rfl⟩
      simp
      refine mwp_loop (I := fun q a S' => q = 0 ∧ get a 3 = .nilS ∧ get a 4 = .int n ∧ get a 5 = .nilS ∧ get a 7 = .list .full [] ∧ get a 8 = .int n ∧ get a 28 = .int 0 ∧ get a 29 = .int 0) (n := 0) ?_ ?_
      · exact ⟨rfl, rfl, rfl, rfl, rfl, rfl, rfl, rfl⟩
      rintro q a S' ⟨rfl, a3, a4, a5, a7, a8, a28, a29⟩
      simp [f4b0, a3, a4, a5, a7, a8, a28, a29]
      refine (w12 (l := []) (r := []) .nils (.list _ _) (by simp)).use ?_
      rintro e S1 ⟨rfl, rfl⟩
      simp [a3, a4, a5, a7, a8, a28, a29]
  | ok ts =>
    rw [hres] at h w10f' w11f'
    obtain ⟨hll, htl, htsl⟩ := tokens_ok hres
    cases h with
    | ok _ u S1 ho =>
      have hln := (ho.rk 0 rfl).lenR
      simp
      refine (w10f' _).use ?_
      rintro e S2 ⟨rfl, fl, rfl⟩
      simp
      refine (w11f' _).use ?_
      rintro e S2 ⟨rfl, fl2, rfl⟩
      simp at hln
      simp [hln]
      refine mwp_loop (I := fun q a S' => ∃ (i : Nat) (es : List (List AVal)), q = ts.length - i ∧ i ≤ ts.length ∧ es.length = ts.length ∧ (∀ j, j < es.length → (es.getD j []).length = 4) ∧ get a 3 = u ∧ get a 4 = .int 0 ∧ get a 5 = .list fl (toksV ts) ∧ get a 7 = .list fl2 (toksV ts) ∧ get a 8 = .int 0 ∧ get a 28 = .int ts.length ∧ get a 29 = .int i ∧
        Own 0 [] S' [(u, 4, es)]) (n := ts.length) ?_ ?_
      · refine ⟨0, _, rfl, Nat.zero_le _, toksV_len ts, ?_, rfl, rfl, rfl, rfl, rfl, rfl, rfl, ho⟩
        intro j hj
        rw [toksV_get _ _ (by simpa using hj)]; rfl
      rintro q a S' ⟨i, es, rfl, hi, hel, hk4, a3, a4, a5, a7, a8, a28, a29, ho'⟩
      by_cases hlt : i < ts.length
      · obtain ⟨p, p', S2, q1, q2, q3, ho2, hl2⟩ := ho'.storeF 0 rfl (j := i) (by omega) (hk4 i (by omega)) (by decide) (off := 1) (by decide) (x := .str [42]) rfl rfl
        simp [f4b0, a3, a4, a5, a7, a8, a28, a29, hlt, q1, q2, q3, wrapS i (by omega)]
        refine ⟨ts.length - (i + 1), by omega, i + 1, rfl, by omega, _, ?_, ?_, by simp, ho2⟩
        · simpa using hel
        · intro j hj
          have hj' : j < es.length := by simpa using hj
          by_cases hji : i = j
          · subst hji
            rw [List.getElem?_set_self hj']
            have := hk4 i hj'
            rw [getD_eq _ _ _ hj'] at this
            simpa [hj'] using this
          · rw [List.getElem?_set_ne hji]
            have := hk4 j hj'
            simpa using this
      · obtain rfl : i = ts.length := by omega
        have hln2 := (ho'.rk 0 rfl).lenR
        rw [hel] at hln2
        simp [f4b0, a3, a4, a5, a7, a8, a28, a29]
        refine (w12 (frozen_toks fl ts _) (frozen_toks fl2 ts _) (by omega)).use ?_
        rintro e S1 ⟨rfl, rfl⟩
        simp [a3, a4, a5, a7, a8, hln2]
end Go.Abs
