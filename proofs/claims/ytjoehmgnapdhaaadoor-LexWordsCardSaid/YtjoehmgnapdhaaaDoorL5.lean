/- The walk of lex.Tokens. Conditions: none; definitions and lemmas. -/
import Derived.Test.YtjoehmgnapdhaaaDoorL4
set_option linter.unusedSimpArgs false
set_option linter.unusedVariables false
namespace Go.Abs
open Go Go.RowKit Go.Proofs Go.Lx
variable {w0 : World}

theorem one_err {l : Bs} {e : Int} (h : Lx.one l = .error e) : 0 < e := by
  cases l with
  | nil => simp [Lx.one] at h; omega
  | cons c r =>
    rw [Lx.one] at h
    split at h
    · rw [Lx.word] at h; split at h <;> simp at h; omega
    · split at h
      · rw [Lx.number] at h
        split at h
        · split at h <;> simp at h; omega
        · split at h <;> simp at h; omega
      · split at h
        · rw [Lx.text] at h
          split at h
          · simp at h; omega
          · split at h <;> simp at h; omega
        · cases r with
          | nil => rw [Lx.sign] at h; split at h <;> simp at h; omega
          | cons d r => rw [Lx.sign] at h; split at h <;> (try split at h) <;> simp at h; omega

def toksV (ts : List Tok) : List (List AVal) := ts.map tokC
@[simp] theorem toksV_len (ts : List Tok) : (toksV ts).length = ts.length := by simp [toksV]
theorem toksV_k (ts : List Tok) : ∀ e ∈ toksV ts, e.length = 4 := by simp [toksV, tokC]
theorem toksV_sc (ts : List Tok) (n : Nat) : scLL n (toksV ts) = true := by
  refine scLL_iff.2 fun e he => ?_
  simp only [toksV, List.mem_map] at he
  obtain ⟨t, _, rfl⟩ := he
  simp [tokC, scL, AVal.sc]

/-- What Tokens answers. -/
inductive TokR (S : Heap) : Except Int (List Tok) → AEnd → Heap → Prop
  | ok (ts : List Tok) (u : AVal) (S' : Heap) (ho : Own S.length S S' [(u, 4, toksV ts)]) : TokR S (.ok ts) (.ret (.tuple [u, .int 0])) S'
  | err (e : Int) (he : e ≠ 0) (S' : Heap) (hl : S.length ≤ S'.length) (ht : ∀ j, j < S.length → S'[j]? = S[j]?) : TokR S (.error e) (.ret (.tuple [.nilS, .int e])) S'

def catT (acc : List Tok) : Except Int (List Tok) → Except Int (List Tok)
  | .ok ts => .ok (acc ++ ts)
  | .error e => .error e
theorem catT_cat (a b : List Tok) (x : Except Int (List Tok)) : catT (a ++ b) x = catT a (catT b x) := by cases x <;> simp [catT]

theorem dropWhile_head {p : UInt8 → Bool} : ∀ {l : Bs} {c : UInt8} {r : Bs}, l.dropWhile p = c :: r → p c = false
  | [], _, _, h => by cases h
  | d :: l, c, r, h => by
    rw [List.dropWhile_cons] at h
    split at h
    · exact dropWhile_head h
    · rename_i hp
      cases h
      simpa using hp
theorem dropWhile_le {p : UInt8 → Bool} (l : Bs) : (l.dropWhile p).length ≤ l.length := (List.dropWhile_sublist p).length_le

set_option maxHeartbeats 1000000 in
theorem w10 (l : Bs) (S : Heap) : ACalls Tryd.prog (B0 w0) 10 [.str l] S fun e S' => TokR S (Lx.tokens l) e S' := by
  refine fn_sound tryOrd (f10_c _) (by simp [f10]) ?_
  by_cases hl : 4000 < l.length
  · have hl' : (4000 : Int) < (l.length : Int) := by omega
    simp [f10, f10m, hl, hl']
    rw [Lx.tokens, if_pos hl]
    exact .err 1 (by decide) S (Nat.le_refl _) (fun _ _ => rfl)
  have hl' : ¬ (4000 : Int) < (l.length : Int) := by omega
  simp [f10, f10m, hl, hl']
  rw [Lx.tokens, if_neg hl]
  refine mwp_loop (I := fun n a S' => ∃ (r : Bs) (u : AVal) (acc : List Tok), n = r.length ∧ get a 0 = .str r ∧ get a 4 = u ∧ Own S.length S S' [(u, 4, toksV acc)] ∧ acc.length + r.length ≤ l.length ∧
    toks l = catT acc (toks r)) (n := l.length) ?_ ?_
  · refine ⟨l, .nilS, [], rfl, rfl, rfl, (Own.start S).add0 4 .nil (.inl rfl), by simp, ?_⟩
    cases toks l <;> rfl
  rintro n a S1 ⟨r, u, acc, rfl, a0, a4, ho, hlen, hspec⟩
  simp [f10b0, a0, a4]
  refine (w23 r _).use ?_
  rintro e S2 ⟨rfl, rfl⟩
  rw [← toks_drop r] at hspec
  have hdl := dropWhile_le (p := isB) r
  cases hd : r.dropWhile isB with
  | nil =>
    rw [hd, toks_nil] at hspec
    simp [a0, a4]
    rw [hspec, catT, List.append_nil]
    exact .ok _ _ _ ho
  | cons c r' =>
    rw [hd] at hspec hdl
    have hb := dropWhile_head hd
    simp only [List.length_cons] at hdl
    have hr4 : r'.length ≤ 4194304 := by omega
    have hone : Lx.one (c :: r') = if Lx.isL c then Lx.word (c :: r') else if isD c then Lx.number (c :: r') else if c.toNat = 39 then Lx.text (c :: r') else Lx.sign (c :: r') := by rw [Lx.one]
    have w26' := fun S => w26 (w0 := w0) (c :: r') (by simp; omega) S
    have w28' := fun S => w28 (w0 := w0) (c :: r') (by simp; omega) S
    have w29' := fun S => w29 (w0 := w0) c r' hr4 S
    have w24' := fun S => w24 (w0 := w0) c r' hr4 S
    simp [a0, a4]
    refine (w25 c _).use ?_
    rintro e S1 ⟨rfl, rfl⟩
    have hcase : (Lx.isL c = true) ∨ (¬ Lx.isL c = true ∧ isD c = true) ∨ (¬ Lx.isL c = true ∧ ¬ isD c = true ∧ c.toNat = 39) ∨ (¬ Lx.isL c = true ∧ ¬ isD c = true ∧ ¬ c.toNat = 39) := by
      by_cases h1 : Lx.isL c = true <;> by_cases h2 : isD c = true <;> by_cases h3 : c.toNat = 39 <;> simp [h1, h2, h3]
    rcases hcase with h1 | ⟨h1, h2⟩ | ⟨h1, h2, h3⟩ | ⟨h1, h2, h3⟩
    all_goals
      first
      | rw [if_pos h1] at hone
        rw [← hone] at w26'
        simp [h1, a0, a4]
        refine (w26' _).use ?_
      | rw [if_neg h1, if_pos h2] at hone
        rw [← hone] at w28'
        simp [h1, a0, a4]
        refine (w27 c _).use ?_
        rintro e S1 ⟨rfl, rfl⟩
        simp [h2, a0, a4]
        refine (w28' _).use ?_
      | rw [if_neg h1, if_neg h2, if_pos h3] at hone
        rw [← hone] at w29'
        simp [h1, a0, a4]
        refine (w27 c _).use ?_
        rintro e S1 ⟨rfl, rfl⟩
        simp [h2, h3, a0, a4]
        refine (w29' _).use ?_
      | rw [if_neg h1, if_neg h2, if_neg h3] at hone
        rw [← hone] at w24'
        have h3' : ((c.toNat : Int) == 39) = false := beq_eq_false_iff_ne.2 (by omega)
        simp [h1, a0, a4]
        refine (w27 c _).use ?_
        rintro e S1 ⟨rfl, rfl⟩
        simp [h2, h3', a0, a4]
        refine (w24' _).use ?_
    all_goals
      rintro e S3 ⟨rfl, rfl⟩
      cases hres : Lx.one (c :: r') with
      | error e =>
        have hne := one_err hres
        have hne' : (e != 0) = true := by simp; omega
        rw [toks_err hb hres] at hspec
        simp [lexV, tokC, zTok, hne', a0, a4]
        rw [hspec]
        refine .err e (by omega) _ ?_ ?_
        · have := ho.le; simp; omega
        · intro j hj
          rw [List.getElem?_append_left (by have := ho.le; omega)]
          exact ho.low j hj
      | ok y =>
        obtain ⟨t, n⟩ := y
        have hn := one_len hres
        rw [toks_tok hb hres] at hspec
        obtain ⟨S4, happ, ho4, hlt4⟩ := (ho.more [.cells 4 [tokC t] (some 1)]).app 0 rfl (y := .list .full [tokC t]) (ys := [tokC t]) (bytes := 40) rfl (by simp [tokC]) (by decide) (by simp; omega) (by simp; omega)
        simp only [tokC] at happ
        have hn0 : (0 : Int) ≤ (n : Int) := by omega
        simp [-appendR, lexV, tokC, a0, a4, happ, sslcR, bound, hn0, hn.2]
        obtain ⟨m, rfl⟩ : ∃ m, n = m + 1 := ⟨n - 1, by omega⟩
        refine ⟨(r'.drop m).length, by rw [List.length_drop]; omega, r'.drop m, rfl, rfl, acc ++ [t], by simpa [toksV] using ho4, by simp; omega, ?_⟩
        rw [hspec, catT_cat, Nat.add_sub_cancel]
        cases toks (r'.drop m) <;> rfl

/-- What Tokens answers, its tokens forgotten as places: nobody writes them. -/
theorem w10f (l : Bs) (S : Heap) : ACalls Tryd.prog (B0 w0) 10 [.str l] S fun e S' => S' = S ∧ (match Lx.tokens l with
    | .ok ts => ∃ fl, e = .ret (.tuple [.list fl (toksV ts), .int 0])
    | .error n => n ≠ 0 ∧ e = .ret (.tuple [.nilS, .int n])) := by
  refine ACalls.close (w10 l S) ?_
  intro e S' h
  cases hres : Lx.tokens l with
  | error n =>
    rw [hres] at h
    cases h with
    | err _ he S' hl ht =>
      refine .flat (List.ext_getElem? fun j => ?_) rfl ⟨rfl, he, rfl⟩
      rcases Nat.lt_or_ge j S.length with hj | hj
      · rw [List.getElem?_take_of_lt hj]; exact ht j hj
      · rw [List.getElem?_eq_none (by simp; omega), List.getElem?_eq_none hj]
  | ok ts =>
    rw [hres] at h
    cases h with
    | ok _ u S' ho =>
      have htake : ∀ S'' : Heap, S.length ≤ S''.length → (∀ j, j < S.length → S''[j]? = S[j]?) → S''.take S.length = S := fun S'' hl ht => by
        refine List.ext_getElem? fun j => ?_
        rcases Nat.lt_or_ge j S.length with hj | hj
        · rw [List.getElem?_take_of_lt hj]; exact ht j hj
        · rw [List.getElem?_eq_none (by simp; omega), List.getElem?_eq_none hj]
      have hap := ho.ap 0 _ _ _ rfl
      generalize hes : toksV ts = es at *
      have hsc : ∀ n, scLL n es = true := fun n => hes ▸ toksV_sc ts n
      cases hap with
      | none fl hf => exact .flat (htake _ ho.le ho.low) (by simp) ⟨rfl, fl, by rw [hes]⟩
      | row id off len es0 cap hN hS hl =>
        refine .frz id 4 es0 cap hS ?_
        refine .flat (htake _ (by simpa using ho.le) fun j hj => ?_) ?_ ⟨rfl, .unk, ?_⟩
        · rw [List.getElem?_set_ne (by omega)]; exact ho.low j hj
        · simpa [hl] using hsc S.length
        · simp [hl, hes]
end Go.Abs
