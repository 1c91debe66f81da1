/- Walks of the seat's functions, and their plain laws. Conditions: none but the lengths and the tables; definitions and lemmas. -/
import Derived.Test.YtdnpmnnidjeifaaGreatDoorMD
import Derived.Test.YtdnpmnnidjeifaaGreatDoorMC
import Derived.Test.YtdnpmnnidjeifaaGreatDoorMA
set_option linter.unusedSimpArgs false
set_option linter.unusedVariables false
namespace Go.Abs
open Go.Lx Go.Pz
def Okl (l : List Tok) : Prop := ∀ t ∈ l, OkT t
theorem Okl.tail {l : List Tok} (h : Okl l) : Okl l.tail := fun t ht => h t (List.mem_of_mem_tail ht)
theorem Okl.drop {l : List Tok} (h : Okl l) (n : Nat) : Okl (l.drop n) := fun t ht => h t (List.mem_of_mem_drop ht)
theorem okt_name {t : Tok} (h : OkT t) (hk : t.kind = 1) (hr : t.text ∉ resv) : nameB t.text = true := by
 cases h with
 | word c r hl hw hlo hn =>
   unfold nameB
   simp only [Bool.and_eq_true, decide_eq_true_eq, Bool.not_eq_true', decide_eq_false_iff_not]
   refine ⟨⟨⟨⟨by simp, by simp; omega⟩, by simpa using hl⟩, List.all_eq_true.2 fun z hz => ?_⟩, hr⟩
   simp only [Bool.and_eq_true, decide_eq_true_eq]
   exact ⟨hw z hz, hlo z hz⟩
 | int n h => simp at hk
 | real n k h1 h2 h3 => simp at hk
 | text b h => simp at hk
 | sign1 c h => simp at hk
 | sign2 c d h => simp at hk
theorem nameR_gd {l l' : List Tok} {n : Bs} (ho : Okl l) (h : nameR resv l = .ok (n, l')) : nameB n = true ∧ Okl l' := by
 cases l with
 | nil => cases h
 | cons t r =>
   rw [nameR] at h
   split at h
   ·rename_i hk
    cases h
    exact ⟨okt_name (ho t (by simp)) hk.1 hk.2, ho.tail⟩
   ·cases h
theorem okE_un {op : Int} {x : Ex} (h : opnds op = 1) (hx : okE x = true) : okE (.un op x) = true := by
 have h21 : op ≠ 21 := fun e => by subst e; revert h; decide
 have h22 : op ≠ 22 := fun e => by subst e; revert h; decide
 rw [okE_mk, if_neg h21, if_neg h22, okL_cons, okL_nil, hx]
 simp [h]
theorem okE_bin {op : Int} {x y : Ex} (h : opnds op = 2) (hx : okE x = true) (hy : okE y = true) : okE (.bin op x y) = true := by
 have h21 : op ≠ 21 := fun e => by subst e; revert h; decide
 have h22 : op ≠ 22 := fun e => by subst e; revert h; decide
 rw [okE_mk, if_neg h21, if_neg h22, okL_cons, okL_cons, okL_nil, hx, hy]
 simp [h]
theorem okE_col {a b : Bs} (ha : nameB a = true) (hb : aliasB b = true) : okE (.col a b) = true := by
 have h : opnds 22 = 0 := by decide
 rw [okE_mk, if_neg (by decide), if_pos rfl, ha, h]
 simp only [aliasB] at hb
 simp [hb]
theorem okE_const {k n s : Int} {t : Bs} (h : constB k n s t [] = true) : okE (.const k n s t) = true := by
 have h0 : opnds 21 = 0 := by decide
 rw [okE_mk, if_pos rfl, h, h0]
 simp
theorem okE_wrap {op : Int} (h : opnds op = 1) : ∀ (n : Nat) {x : Ex}, okE x = true → okE (wrap op n x) = true
 | 0, x, hx => hx
 | n + 1, x, hx => okE_wrap h n (okE_un h hx)
theorem okt_const {t : Tok} (h : OkT t) (hk : t.kind = 2 ∨ t.kind = 3 ∨ t.kind = 4) : constB t.kind t.num t.scale (if t.kind = 4 then t.text else []) [] = true := by
 cases h with
 | word c r hl hw hlo hn => simp at hk
 | int n h => simp [constB, mostN]; omega
 | real n k h1 h2 h3 =>
   have e1 : ¬ (k : Int) = -1 := by omega
   have e2 : ¬ (k : Int) = -2 := by omega
   simp [constB, e1, e2]; omega
 | text b h => simp [constB]; omega
 | sign1 c h => simp at hk
 | sign2 c d h => simp at hk
def Gd (f : List Tok → Pz.Res Ex) : Prop := ∀ l x l', Okl l → f l = .ok (x, l') → okE x = true ∧ Okl l'
def GdO (o : List Tok → Option (Int × List Tok)) : Prop := ∀ l op l', Okl l → o l = some (op, l') → opnds op = 2 ∧ Okl l'
theorem chainF_gd {f o} (hf : Gd f) (ho : GdO o) : ∀ (n : Nat) (e : Ex) (l : List Tok) (x : Ex) (l' : List Tok), Okl l → okE e = true → chainF f o n e l = .ok (x, l') → okE x = true ∧ Okl l'
 | 0, e, l, x, l', hl, he, h => by
   simp only [chainF, Except.ok.injEq, Prod.mk.injEq] at h
   obtain ⟨rfl, rfl⟩ := h
   exact ⟨he, hl⟩
 | n + 1, e, l, x, l', hl, he, h => by
   rw [chainF] at h
   split at h
   ·simp only [Except.ok.injEq, Prod.mk.injEq] at h
    obtain ⟨rfl, rfl⟩ := h
    exact ⟨he, hl⟩
   ·rename_i op l1 ho1
    have h1 := ho _ _ _ hl ho1
    split at h
    ·cases h
    ·rename_i y l2 hy
     have h2 := hf _ _ _ h1.2 hy
     exact chainF_gd hf ho n _ _ _ _ h2.2 (okE_bin h1.1 he h2.1) h
theorem chain_gd {f o} (hf : Gd f) (ho : GdO o) : Gd (chain f o) := fun l x l' hl h => by
 rw [chain] at h
 split at h
 ·cases h
 ·rename_i e l1 he
  have h1 := hf _ _ _ hl he
  exact chainF_gd hf ho _ _ _ _ _ h1.2 h1.1 h
theorem aheadP_gd {op k s f} (ho : opnds op = 1) (hf : Gd f) : Gd (aheadP op k s f) := fun l x l' hl h => by
 rw [aheadP] at h
 split at h
 ·cases h
 ·rename_i e l1 he
  simp only [Except.ok.injEq, Prod.mk.injEq] at h
  obtain ⟨rfl, rfl⟩ := h
  have h1 := hf _ _ _ (hl.drop _) he
  exact ⟨okE_wrap ho _ h1.1, h1.2⟩
theorem operS_gd : ∀ (ss : List Bs) (k : Int), (∀ j : Nat, j < ss.length → opnds (k + j) = 2) → GdO (operS ss k)
 | [], k, _ => fun l op l' _ h => by simp [operS] at h
 | s :: r, k, hk => fun l op l' hl h => by
   rw [operS] at h
   split at h
   ·simp only [Option.some.injEq, Prod.mk.injEq] at h
    obtain ⟨rfl, rfl⟩ := h
    have := hk 0 (by simp)
    exact ⟨by simpa using this, hl.tail⟩
   ·refine operS_gd r _ (fun j hj => ?_) l op l' hl h
    have := hk (j + 1) (by simp; omega)
    rw [← this]; congr 1; omega
theorem lt_cases {P : Nat → Prop} {n : Nat} (h : ∀ j ∈ List.range n, P j) : ∀ j, j < n → P j := fun j hj => h j (List.mem_range.2 hj)
theorem opOr_gd : GdO opOr := fun l op l' hl h => by
 rw [opOr] at h
 split at h
 ·simp only [Option.some.injEq, Prod.mk.injEq] at h
  obtain ⟨rfl, rfl⟩ := h
  exact ⟨by decide, hl.tail⟩
 ·cases h
theorem opAnd_gd : GdO opAnd := fun l op l' hl h => by
 rw [opAnd] at h
 split at h
 ·simp only [Option.some.injEq, Prod.mk.injEq] at h
  obtain ⟨rfl, rfl⟩ := h
  exact ⟨by decide, hl.tail⟩
 ·cases h
theorem opSum_gd : GdO opSum := fun l op l' hl h => by
 rw [opSum] at h
 split at h
 ·simp only [Option.some.injEq, Prod.mk.injEq] at h
  obtain ⟨rfl, rfl⟩ := h
  exact ⟨by decide, hl.tail⟩
 ·exact operS_gd _ _ (lt_cases (by decide)) _ _ _ hl h
theorem opMul_gd : GdO opMul := operS_gd _ _ (lt_cases (by decide))
theorem opTest_gd : GdO opTest := operS_gd _ _ (lt_cases (by decide))
section
variable {E : Nat → List Tok → Pz.Res Ex}
theorem inner_gd (hE : ∀ k, Gd (E k)) (k : Nat) : Gd (inner E k) := fun l x l' hl h => by
 rw [inner] at h
 split at h
 ·cases h
 split at h
 ·split at h
  ·cases h
  ·rename_i y l2 hy
   have h1 := hE _ _ _ _ hl.tail hy
   split at h
   ·simp only [Except.ok.injEq, Prod.mk.injEq] at h
    obtain ⟨rfl, rfl⟩ := h
    exact ⟨h1.1, h1.2.tail⟩
   ·cases h
 ·cases h
theorem named_gd (hE : ∀ k, Gd (E k)) (k : Nat) (w : Bs) : Gd (named resv E k w) := fun l x l' hl h => by
 rw [named] at h
 split at h
 ·simp only [Except.ok.injEq, Prod.mk.injEq] at h
  obtain ⟨rfl, rfl⟩ := h
  exact ⟨okE_const (by decide), hl.tail⟩
 split at h
 ·simp only [Except.ok.injEq, Prod.mk.injEq] at h
  obtain ⟨rfl, rfl⟩ := h
  exact ⟨okE_const (by decide), hl.tail⟩
 split at h
 ·simp only [Except.ok.injEq, Prod.mk.injEq] at h
  obtain ⟨rfl, rfl⟩ := h
  exact ⟨okE_const (by decide), hl.tail⟩
 split at h
 ·simp only [Except.ok.injEq, Prod.mk.injEq] at h
  obtain ⟨rfl, rfl⟩ := h
  exact ⟨okE_const (by decide), hl.tail⟩
 split at h
 ·simp only [Except.ok.injEq, Prod.mk.injEq] at h
  obtain ⟨rfl, rfl⟩ := h
  exact ⟨okE_const (by decide), hl.tail⟩
 split at h
 ·split at h
  ·cases h
  ·rename_i y l2 hy
   have h1 := inner_gd hE k _ _ _ hl.tail hy
   simp only [Except.ok.injEq, Prod.mk.injEq] at h
   obtain ⟨rfl, rfl⟩ := h
   refine ⟨okE_un ?_ h1.1, h1.2⟩
   split <;> decide
 split at h
 ·cases h
 ·rename_i n l1 hn
  have h1 := nameR_gd hl hn
  split at h
  ·split at h
   ·cases h
   ·rename_i n2 l2 hn2
    have h3 := nameR_gd h1.2.tail hn2
    simp only [Except.ok.injEq, Prod.mk.injEq] at h
    obtain ⟨rfl, rfl⟩ := h
    exact ⟨okE_col h3.1 (by simp [aliasB, h1.1]), h3.2⟩
  ·simp only [Except.ok.injEq, Prod.mk.injEq] at h
   obtain ⟨rfl, rfl⟩ := h
   exact ⟨okE_col h1.1 (by simp [aliasB]), h1.2⟩
theorem oneP_gd (hE : ∀ k, Gd (E k)) (k : Nat) : Gd (oneP resv E k) := fun l x l' hl h => by
 unfold oneP at h
 split at h
 ·cases h
 rename_i t r
 have ht := hl t (by simp)
 have hr : Okl r := hl.tail
 split at h
 ·rename_i hk
  simp only [Except.ok.injEq, Prod.mk.injEq] at h
  obtain ⟨rfl, rfl⟩ := h
  have := okt_const ht (by omega)
  rw [if_neg (by omega)] at this
  exact ⟨okE_const this, hr⟩
 split at h
 ·rename_i hk
  simp only [Except.ok.injEq, Prod.mk.injEq] at h
  obtain ⟨rfl, rfl⟩ := h
  have := okt_const ht (by omega)
  rw [if_pos hk, hk] at this
  exact ⟨okE_const this, hr⟩
 split at h
 ·exact named_gd hE k _ _ _ _ hl h
 ·exact inner_gd hE k _ _ _ hl h
theorem minusP_gd (hE : ∀ k, Gd (E k)) (k : Nat) : Gd (minusP resv E k) := aheadP_gd (by decide) (oneP_gd hE k)
theorem termP_gd (hE : ∀ k, Gd (E k)) (k : Nat) : Gd (termP resv E k) := chain_gd (minusP_gd hE k) opMul_gd
theorem sumP_gd (hE : ∀ k, Gd (E k)) (k : Nat) : Gd (sumP resv E k) := chain_gd (termP_gd hE k) opSum_gd
theorem testP_gd (hE : ∀ k, Gd (E k)) (k : Nat) : Gd (testP resv E k) := fun l x l' hl h => by
 rw [testP] at h
 split at h
 ·cases h
 rename_i e l1 he
 have h0 := sumP_gd hE k _ _ _ hl he
 split at h
 ·rename_i op l2 ho
  have h1 := opTest_gd _ _ _ h0.2 ho
  split at h
  ·cases h
  ·rename_i y l3 hy
   have h2 := sumP_gd hE k _ _ _ h1.2 hy
   simp only [Except.ok.injEq, Prod.mk.injEq] at h
   obtain ⟨rfl, rfl⟩ := h
   exact ⟨okE_bin h1.1 h0.1 h2.1, h2.2⟩
 ·split at h
  ·split at h
   ·split at h
    ·simp only [Except.ok.injEq, Prod.mk.injEq] at h
     obtain ⟨rfl, rfl⟩ := h
     exact ⟨okE_un (by decide) h0.1, h0.2.tail.tail.tail⟩
    ·cases h
   ·split at h
    ·simp only [Except.ok.injEq, Prod.mk.injEq] at h
     obtain ⟨rfl, rfl⟩ := h
     exact ⟨okE_un (by decide) h0.1, h0.2.tail.tail⟩
    ·cases h
  ·simp only [Except.ok.injEq, Prod.mk.injEq] at h
   obtain ⟨rfl, rfl⟩ := h
   exact h0
theorem notP_gd (hE : ∀ k, Gd (E k)) (k : Nat) : Gd (notP resv E k) := aheadP_gd (by decide) (testP_gd hE k)
theorem bothP_gd (hE : ∀ k, Gd (E k)) (k : Nat) : Gd (bothP resv E k) := chain_gd (notP_gd hE k) opAnd_gd
theorem eitherP_gd (hE : ∀ k, Gd (E k)) (k : Nat) : Gd (eitherP resv E k) := chain_gd (bothP_gd hE k) opOr_gd
end
theorem either_gd : ∀ (n k : Nat), Gd (Pz.either resv n k)
 | 0, k => fun l x l' _ h => by cases h
 | n + 1, k => eitherP_gd (fun k => either_gd n k) k
section
variable {N : Nat} {s s' : Sta}
theorem whole_gd {x : Ex} (hl : Okl s.l) (h : whole resv N s = .ok (x, s')) : okE x = true ∧ Okl s'.l ∧ s.d ≤ s'.d ∧ x.depth ≤ s'.d := by
 rw [whole] at h
 cases hF : Pz.either resv N 0 s.l with
 | error c => rw [hF] at h; cases h
 | ok y =>
   obtain ⟨y, l'⟩ := y
   have := either_gd N 0 _ _ _ hl hF
   rw [hF] at h
   simp only [Except.ok.injEq, Prod.mk.injEq] at h
   obtain ⟨rfl, rfl⟩ := h
   exact ⟨this.1, this.2, by simp only; omega, by simp only; omega⟩
theorem nameS_gd {x : Bs} (hl : Okl s.l) (h : nameS resv s = .ok (x, s')) : nameB x = true ∧ Okl s'.l ∧ s.d ≤ s'.d := by
 rw [nameS] at h
 cases hF : nameR resv s.l with
 | error c => rw [hF] at h; cases h
 | ok y =>
   obtain ⟨y, l'⟩ := y
   have := nameR_gd hl hF
   rw [hF] at h
   simp only [Except.ok.injEq, Prod.mk.injEq] at h
   obtain ⟨rfl, rfl⟩ := h
   exact ⟨this.1, this.2, Nat.le_refl _⟩
theorem needS_gd {k : Int} {w : Bs} (hl : Okl s.l) (h : needS k w s = .ok s') : Okl s'.l ∧ s.d ≤ s'.d := by
 rw [needS] at h
 split at h
 ·cases h; exact ⟨hl.tail, Nat.le_refl _⟩
 ·cases h
theorem aliasS_gd {x : Bs} (hl : Okl s.l) (h : aliasS resv s = .ok (x, s')) : aliasB x = true ∧ Okl s'.l ∧ s.d ≤ s'.d := by
 rw [aliasS] at h
 split at h
 ·have := nameS_gd hl.tail h
  exact ⟨by simp [aliasB, this.1], this.2⟩
 ·cases h; exact ⟨by simp [aliasB], hl, Nat.le_refl _⟩
theorem whereS_gd {x : Ex} (hl : Okl s.l) (h : whereS resv N s = .ok (x, s')) : perB x = true ∧ Okl s'.l ∧ s.d ≤ s'.d ∧ x.depth ≤ s'.d := by
 rw [whereS] at h
 split at h
 ·have := whole_gd hl.tail h
  exact ⟨by simp [perB, this.1], this.2⟩
 ·cases h; exact ⟨rfl, hl, Nat.le_refl _, by rw [depth_zero]; exact Nat.zero_le _⟩
theorem listF_gd {α : Type} {P : α → Nat → Prop} {step : List α → Sta → ResS (List α)} (hP : ∀ a d d', d ≤ d' → P a d → P a d') (hs : ∀ x s x' s', Okl s.l → step x s = .ok (x', s') → ∃ a, x' = x ++ [a] ∧ P a s'.d ∧ Okl s'.l ∧ s.d ≤ s'.d) :
  ∀ (f : Nat), f ≠ 0 → ∀ (x : List α) (s : Sta) (x' : List α) (s' : Sta), Okl s.l → listF step f x s = .ok (x', s') → ∃ l, x' = x ++ l ∧ (∀ a ∈ l, P a s'.d) ∧ Okl s'.l ∧ s.d ≤ s'.d ∧ 1 ≤ l.length ∧ l.length ≤ f
 | 0, h0, _, _, _, _, _, _ => absurd rfl h0
 | f + 1, _, x, s, x', s', hl, h => by
   rw [listF] at h
   cases hF : step x s with
   | error c => rw [hF] at h; cases h
   | ok y =>
     obtain ⟨y, s1⟩ := y
     obtain ⟨a, rfl, p1, p2, p3⟩ := hs _ _ _ _ hl hF
     rw [hF] at h
     simp only at h
     split at h
     ·split at h
      ·cases h
      ·rename_i hf0
       obtain ⟨l, rfl, q1, q2, q3, q4, q5⟩ := listF_gd hP hs f hf0 _ ⟨s1.l.tail, s1.d⟩ x' s' p2.tail h
       refine ⟨a :: l, by simp, fun b hb => ?_, q2, Nat.le_trans p3 q3, by simp, by simp; omega⟩
       rcases List.mem_cons.1 hb with rfl | hb
       ·exact hP _ _ _ q3 p1
       ·exact q1 b hb
     ·simp only [Except.ok.injEq, Prod.mk.injEq] at h
      obtain ⟨rfl, rfl⟩ := h
      exact ⟨[a], rfl, fun b hb => by rw [List.mem_singleton.1 hb]; exact p1, p2, p3, by simp, by simp⟩
def Rt (st : Stm) (s' : Sta) : Prop := OkS st ∧ ∀ x ∈ exsS st, x.depth ≤ s'.d
theorem rt_flat {st : Stm} (h : OkS st) (he : exsS st = [Ex.zero]) : Rt st s' := ⟨h, fun x hx => by
 rw [he] at hx
 rw [List.mem_singleton.1 hx, depth_zero]; exact Nat.zero_le _⟩
theorem typeS_gd {t : Int} (hl : Okl s.l) (h : typeS s = .ok (t, s')) : (1 ≤ t ∧ t ≤ 4) ∧ Okl s'.l ∧ s.d ≤ s'.d := by
 rw [typeS] at h
 split at h
 ·cases h; exact ⟨by decide, hl.tail, Nat.le_refl _⟩
 split at h
 ·cases h; exact ⟨by decide, hl.tail, Nat.le_refl _⟩
 split at h
 ·cases h; exact ⟨by decide, hl.tail, Nat.le_refl _⟩
 split at h
 ·cases h; exact ⟨by decide, hl.tail, Nat.le_refl _⟩
 ·cases h
theorem columnS_gd {c : Pz.Col} (hl : Okl s.l) (h : columnS resv s = .ok (c, s')) : colB c = true ∧ Okl s'.l ∧ s.d ≤ s'.d := by
 rw [columnS] at h
 obtain ⟨n, s1, h1, h⟩ := bindS_inv h
 obtain ⟨t, s2, h2, h⟩ := bindS_inv h
 have a1 := nameS_gd hl h1
 have a2 := typeS_gd a1.2.1 h2
 split at h
 ·obtain ⟨s3, h3, h⟩ := thenS_inv h
  have a3 := needS_gd a2.2.1.tail h3
  cases h
  exact ⟨by simp [colB, a1.1, a2.1], a3.1, Nat.le_trans a1.2.2 (Nat.le_trans a2.2.2 a3.2)⟩
 ·cases h
  exact ⟨by simp [colB, a1.1, a2.1], a2.2.1, Nat.le_trans a1.2.2 a2.2.2⟩
theorem createS_gd {st : Stm} (hl : Okl s.l) (h : createS resv s = .ok (st, s')) : Rt st s' := by
 rw [createS] at h
 split at h
 ·obtain ⟨n, s1, h1, h⟩ := bindS_inv h
  obtain ⟨s2, h2, h⟩ := thenS_inv h
  obtain ⟨cs, s3, h3, h⟩ := bindS_inv h
  obtain ⟨s4, h4, h⟩ := thenS_inv h
  cases h
  have a1 := nameS_gd hl.tail h1
  have a2 := needS_gd a1.2.1 h2
  obtain ⟨l, rfl, q1, q2, q3, q4, q5⟩ := listF_gd (P := fun c _ => colB c = true) (fun _ _ _ _ h => h) (fun x s x' s' hl h => by
   obtain ⟨c, s5, h5, h⟩ := bindS_inv h
   have a5 := columnS_gd hl h5
   cases h
   exact ⟨c, rfl, a5.1, a5.2⟩) 16 (by decide) _ _ _ _ a2.1 h3
  exact rt_flat (.createT n cs a1.1 q4 q5 q1) rfl
 ·simp only at h
  obtain ⟨s1, h1, h⟩ := thenS_inv h
  obtain ⟨i, s2, h2, h⟩ := bindS_inv h
  obtain ⟨s3, h3, h⟩ := thenS_inv h
  obtain ⟨n, s4, h4, h⟩ := bindS_inv h
  obtain ⟨s5, h5, h⟩ := thenS_inv h
  obtain ⟨ns, s6, h6, h⟩ := bindS_inv h
  obtain ⟨s7, h7, h⟩ := thenS_inv h
  cases h
  have a1 := needS_gd (by split; exact hl.tail; exact hl) h1
  have a2 := nameS_gd a1.1 h2
  have a3 := needS_gd a2.2.1 h3
  have a4 := nameS_gd a3.1 h4
  have a5 := needS_gd a4.2.1 h5
  obtain ⟨l, rfl, q1, q2, q3, q4, q5⟩ := listF_gd (P := fun c _ => nameB c = true) (fun _ _ _ _ h => h) (fun x s x' s' hl h => by
   obtain ⟨c, s5, h5, h⟩ := bindS_inv h
   have a5 := nameS_gd hl h5
   cases h
   exact ⟨c, rfl, a5.1, a5.2⟩) 4 (by decide) _ _ _ _ a5.1 h6
  exact rt_flat (.createI _ i n ns a2.1 a4.1 q4 q5 q1) rfl
theorem dropS_gd {st : Stm} (hl : Okl s.l) (h : dropS resv s = .ok (st, s')) : Rt st s' := by
 rw [dropS] at h
 split at h
 ·obtain ⟨n, s1, h1, h⟩ := bindS_inv h
  cases h
  exact rt_flat (.dropT n (nameS_gd hl.tail h1).1) rfl
 ·obtain ⟨s1, h1, h⟩ := thenS_inv h
  obtain ⟨n, s2, h2, h⟩ := bindS_inv h
  cases h
  exact rt_flat (.dropI n (nameS_gd (needS_gd hl h1).1 h2).1) rfl
theorem insertS_gd {st : Stm} (hl : Okl s.l) (h : insertS resv N s = .ok (st, s')) : Rt st s' := by
 rw [insertS] at h
 obtain ⟨s1, h1, h⟩ := thenS_inv h
 obtain ⟨n, s2, h2, h⟩ := bindS_inv h
 obtain ⟨s3, h3, h⟩ := thenS_inv h
 obtain ⟨rs, s4, h4, h⟩ := bindS_inv h
 cases h
 have a1 := needS_gd hl h1
 have a2 := nameS_gd a1.1 h2
 have a3 := needS_gd a2.2.1 h3
 obtain ⟨l, rfl, q1, q2, q3, q4, q5⟩ := listF_gd (P := fun r d => (1 ≤ r.length ∧ r.length ≤ 50 ∧ okL r = true) ∧ ∀ x ∈ r, x.depth ≤ d) (fun a d d' hd h => ⟨h.1, fun x hx => Nat.le_trans (h.2 x hx) hd⟩) (fun x s x' s' hl h => by
  rw [rowS] at h
  obtain ⟨s5, h5, h⟩ := thenS_inv h
  obtain ⟨xs, s6, h6, h⟩ := bindS_inv h
  obtain ⟨s7, h7, h⟩ := thenS_inv h
  cases h
  have a5 := needS_gd hl h5
  obtain ⟨l, rfl, q1, q2, q3, q4, q5⟩ := listF_gd (P := fun x d => okE x = true ∧ x.depth ≤ d) (fun a d d' hd h => ⟨h.1, Nat.le_trans h.2 hd⟩) (fun x s x' s' hl h => by
   rw [exprsS] at h
   obtain ⟨y, s8, h8, h⟩ := bindS_inv h
   cases h
   have a8 := whole_gd hl h8
   exact ⟨y, rfl, ⟨a8.1, a8.2.2.2⟩, a8.2.1, a8.2.2.1⟩) 50 (by decide) _ _ _ _ a5.1 h6
  have a7 := needS_gd q2 h7
  exact ⟨xs, rfl, ⟨⟨q4, q5, okL_iff.2 fun x hx => (q1 x hx).1⟩, fun x hx => Nat.le_trans (q1 x hx).2 a7.2⟩, a7.1, Nat.le_trans a5.2 (Nat.le_trans q3 a7.2)⟩) 50 (by decide) _ _ _ _ a3.1 h4
 refine ⟨.insert n rs a2.1 q4 q5 fun r hr => (q1 r hr).1, fun x hx => ?_⟩
 simp [exsS] at hx
 rcases hx with rfl | ⟨r, hr, hx⟩
 ·rw [depth_zero]; exact Nat.zero_le _
 ·exact (q1 r hr).2 x hx
theorem updateS_gd {st : Stm} (hl : Okl s.l) (h : updateS resv N s = .ok (st, s')) : Rt st s' := by
 rw [updateS] at h
 obtain ⟨n, s1, h1, h⟩ := bindS_inv h
 obtain ⟨s2, h2, h⟩ := thenS_inv h
 obtain ⟨xs0, s3, h3, h⟩ := bindS_inv h
 obtain ⟨w, s4, h4, h⟩ := bindS_inv h
 cases h
 have a1 := nameS_gd hl h1
 have a2 := needS_gd a1.2.1 h2
 obtain ⟨l, rfl, q1, q2, q3, q4, q5⟩ := listF_gd (P := fun (x : Asn) d => (nameB x.col = true ∧ okE x.e = true) ∧ x.e.depth ≤ d) (fun a d d' hd h => ⟨h.1, Nat.le_trans h.2 hd⟩) (fun x s x' s' hl h => by
  rw [setS] at h
  obtain ⟨n, s5, h5, h⟩ := bindS_inv h
  obtain ⟨s6, h6, h⟩ := thenS_inv h
  obtain ⟨y, s7, h7, h⟩ := bindS_inv h
  cases h
  have a5 := nameS_gd hl h5
  have a6 := needS_gd a5.2.1 h6
  have a7 := whole_gd a6.1 h7
  exact ⟨⟨n, y⟩, rfl, ⟨⟨a5.1, a7.1⟩, a7.2.2.2⟩, a7.2.1, Nat.le_trans a5.2.2 (Nat.le_trans a6.2 a7.2.2.1)⟩) 50 (by decide) _ _ _ _ a2.1 h3
 have a4 := whereS_gd q2 h4
 refine ⟨.update n xs0 w a1.1 q4 q5 (fun x hx => (q1 x hx).1) a4.1, fun x hx => ?_⟩
 simp only [exsS, List.flatten_nil, List.nil_append, List.map_nil, List.append_nil, List.mem_cons, List.mem_append, List.mem_map] at hx
 rcases hx with rfl | ⟨y, hy, rfl⟩
 ·exact a4.2.2.2
 ·exact Nat.le_trans (q1 y hy).2 a4.2.2.1
theorem deleteS_gd {st : Stm} (hl : Okl s.l) (h : deleteS resv N s = .ok (st, s')) : Rt st s' := by
 rw [deleteS] at h
 obtain ⟨s1, h1, h⟩ := thenS_inv h
 obtain ⟨n, s2, h2, h⟩ := bindS_inv h
 obtain ⟨w, s3, h3, h⟩ := bindS_inv h
 cases h
 have a1 := needS_gd hl h1
 have a2 := nameS_gd a1.1 h2
 have a3 := whereS_gd a2.2.1 h3
 refine ⟨.delete n w a2.1 a3.1, fun x hx => ?_⟩
 simp only [exsS, List.flatten_nil, List.nil_append, List.map_nil, List.append_nil, List.mem_cons, List.not_mem_nil, or_false] at hx
 subst hx
 exact a3.2.2.2
theorem sourceS_gd {x : Src} (hl : Okl s.l) (h : sourceS resv s = .ok (x, s')) : (nameB x.table = true ∧ aliasB x.alias = true ∧ x.on = .zero) ∧ Okl s'.l ∧ s.d ≤ s'.d := by
 rw [sourceS] at h
 obtain ⟨n, s1, h1, h⟩ := bindS_inv h
 obtain ⟨a, s2, h2, h⟩ := bindS_inv h
 cases h
 have a1 := nameS_gd hl h1
 have a2 := aliasS_gd a1.2.1 h2
 exact ⟨⟨a1.1, a2.1, rfl⟩, a2.2.1, Nat.le_trans a1.2.2 a2.2.2⟩
def SrcP (x : Src) (d : Nat) : Prop := (nameB x.table = true ∧ aliasB x.alias = true ∧ okE x.on = true) ∧ x.on.depth ≤ d
theorem joinsS_gd : ∀ (f : Nat) (xs : List Src) (s : Sta) (fs : List Src) (s' : Sta), Okl s.l → joinsS resv N f xs s = .ok (fs, s') → ∃ l, fs = xs ++ l ∧ (∀ x ∈ l, SrcP x s'.d) ∧ Okl s'.l ∧ s.d ≤ s'.d ∧ l.length ≤ f := by
 intro f
 induction f with
 | zero =>
   intro xs s fs s' hl h
   rw [joinsS] at h
   split at h
   ·cases h
   ·cases h
    exact ⟨[], by simp, fun x hx => (by cases hx), hl, Nat.le_refl _, Nat.le_refl _⟩
 | succ f ih =>
   intro xs s fs s' hl h
   rw [joinsS] at h
   split at h
   ·obtain ⟨s1, h1, h⟩ := thenS_inv h
    obtain ⟨x, s2, h2, h⟩ := bindS_inv h
    obtain ⟨s3, h3, h⟩ := thenS_inv h
    obtain ⟨o, s4, h4, h⟩ := bindS_inv h
    have a1 := needS_gd (by split; exact hl.tail; exact hl) h1
    have a2 := sourceS_gd a1.1 h2
    have a3 := needS_gd a2.2.1 h3
    have a4 := whole_gd a3.1 h4
    obtain ⟨l, rfl, q1, q2, q3, q4⟩ := ih _ _ _ _ a4.2.1 h
    have a0 : (if isT 1 [105, 110, 110, 101, 114] s.l = true then (⟨s.l.tail, s.d⟩ : Sta) else s).d = s.d := by split <;> rfl
    refine ⟨⟨x.table, x.alias, o⟩ :: l, by simp, fun y hy => ?_, q2, ?_, by simp; omega⟩
    ·rcases List.mem_cons.1 hy with rfl | hy
     ·exact ⟨⟨a2.1.1, a2.1.2.1, a4.1⟩, Nat.le_trans a4.2.2.2 q3⟩
     ·exact q1 y hy
    ·have := a1.2; have := a2.2.2; have := a3.2; have := a4.2.2.1
     omega
   ·cases h
    exact ⟨[], by simp, fun x hx => (by cases hx), hl, Nat.le_refl _, Nat.zero_le _⟩
theorem queryS_gd {st : Stm} (hl : Okl s.l) (h : queryS resv N s = .ok (st, s')) : Rt st s' := by
 rw [queryS] at h
 obtain ⟨is, s1, h1, h⟩ := bindS_inv h
 obtain ⟨s2, h2, h⟩ := thenS_inv h
 obtain ⟨x, s3, h3, h⟩ := bindS_inv h
 obtain ⟨fs, s4, h4, h⟩ := bindS_inv h
 obtain ⟨w, s5, h5, h⟩ := bindS_inv h
 obtain ⟨os, s6, h6, h⟩ := bindS_inv h
 cases h
 have b1 : (∀ y ∈ is, (okE y.e = true ∧ aliasB y.name = true) ∧ y.e.depth ≤ s1.d) ∧ Okl s1.l ∧ s.d ≤ s1.d ∧ is.length ≤ 50 := by
  rw [itemsS] at h1
  split at h1
  ·cases h1
   exact ⟨fun y hy => (by cases hy), hl.tail, Nat.le_refl _, by simp⟩
  ·obtain ⟨l, rfl, q1, q2, q3, q4, q5⟩ := listF_gd (P := fun (y : Itm) d => (okE y.e = true ∧ aliasB y.name = true) ∧ y.e.depth ≤ d) (fun a d d' hd h => ⟨h.1, Nat.le_trans h.2 hd⟩) (fun x s x' s' hl h => by
    rw [itemS] at h
    obtain ⟨y, s7, h7, h⟩ := bindS_inv h
    obtain ⟨n, s8, h8, h⟩ := bindS_inv h
    cases h
    have a7 := whole_gd hl h7
    have a8 := aliasS_gd a7.2.1 h8
    exact ⟨⟨y, n⟩, rfl, ⟨⟨a7.1, a8.1⟩, Nat.le_trans a7.2.2.2 a8.2.2⟩, a8.2.1, Nat.le_trans a7.2.2.1 a8.2.2⟩) 50 (by decide) _ _ _ _ hl h1
   exact ⟨q1, q2, q3, q5⟩
 have a2 := needS_gd b1.2.1 h2
 have a3 := sourceS_gd a2.1 h3
 obtain ⟨l, rfl, q1, q2, q3, q4⟩ := joinsS_gd _ _ _ _ _ a3.2.1 h4
 have a5 := whereS_gd q2 h5
 have b6 : (∀ y ∈ os, okE y.e = true ∧ y.e.depth ≤ s'.d) ∧ s5.d ≤ s'.d ∧ os.length ≤ 50 := by
  rw [orderS] at h6
  split at h6
  ·obtain ⟨s7, h7, h6⟩ := thenS_inv h6
   have a7 := needS_gd a5.2.1.tail h7
   obtain ⟨l, rfl, q1, q2, q3, q4, q5⟩ := listF_gd (P := fun (y : Srt) d => okE y.e = true ∧ y.e.depth ≤ d) (fun a d d' hd h => ⟨h.1, Nat.le_trans h.2 hd⟩) (fun x s x' s' hl h => by
    rw [sortS] at h
    obtain ⟨y, s8, h8, h⟩ := bindS_inv h
    have a8 := whole_gd hl h8
    simp only [Except.ok.injEq, Prod.mk.injEq] at h
    obtain ⟨rfl, rfl⟩ := h
    refine ⟨⟨y, _⟩, rfl, ?_⟩
    split
    ·exact ⟨⟨a8.1, a8.2.2.2⟩, a8.2.1.tail, a8.2.2.1⟩
    ·exact ⟨⟨a8.1, a8.2.2.2⟩, a8.2.1, a8.2.2.1⟩) 50 (by decide) _ _ _ _ a7.1 h6
   exact ⟨q1, Nat.le_trans a7.2 q3, q5⟩
  ·cases h6
   exact ⟨fun y hy => (by cases hy), Nat.le_refl _, by simp⟩
 have hz : zeroB x.on = true := by rw [a3.1.2.2]; rfl
 refine ⟨.query is x l w os b1.2.2.2 (fun y hy => (b1.1 y hy).1) q4 ⟨a3.1.1, a3.1.2.1, hz⟩ (fun y hy => (q1 y hy).1) a5.1 b6.2.2 (fun y hy => (b6.1 y hy).1), fun y hy => ?_⟩
 simp only [exsS, List.flatten_nil, List.nil_append, List.map_nil, List.append_nil, List.mem_cons, List.mem_append, List.mem_map] at hy
 have c1 := a2.2; have c2 := a3.2.2; have c3 := a5.2.2.1; have c4 := b6.2.1
 rcases hy with rfl | ⟨z, hz, rfl⟩ | ⟨z, hz, rfl⟩ | ⟨z, hz, rfl⟩
 ·exact Nat.le_trans a5.2.2.2 c4
 ·have := (b1.1 z hz).2; omega
 ·rcases hz with (rfl | hz) | hz
  ·rw [a3.1.2.2, depth_zero]; exact Nat.zero_le _
  ·cases hz
  ·have := (q1 z hz).2; omega
 ·exact (b6.1 z hz).2
theorem stmtS_gd {st : Stm} (hl : Okl s.l) (h : stmtS resv N s = .ok (st, s')) : Rt st s' := by
 rw [stmtS] at h
 split at h
 ·exact createS_gd hl.tail h
 split at h
 ·exact dropS_gd hl.tail h
 split at h
 ·exact insertS_gd hl.tail h
 split at h
 ·exact queryS_gd hl.tail h
 split at h
 ·exact updateS_gd hl.tail h
 split at h
 ·exact deleteS_gd hl.tail h
 split at h
 ·cases h; exact rt_flat (.trans 9 (by decide) (by decide)) rfl
 split at h
 ·cases h; exact rt_flat (.trans 10 (by decide) (by decide)) rfl
 split at h
 ·cases h; exact rt_flat (.trans 11 (by decide) (by decide)) rfl
 ·cases h
end
theorem parse_ok {x : Bs} {st : Stm} (h : Pz.parse resv x = .ok st) : checkS st = 0 := by
 rw [Pz.parse] at h
 cases ht : Lx.tokens x with
 | error c => rw [ht] at h; cases h
 | ok ts =>
   rw [ht] at h
   simp only at h
   have hok : Okl ts := by
    rw [Lx.tokens] at ht
    split at ht
    ·cases ht
    ·exact toks_ok _ _ _ (Nat.le_refl _) ht
   rw [parseT] at h
   cases hs : stmtS resv (ts.length + 1) ⟨ts, 0⟩ with
   | error c => rw [hs] at h; cases h
   | ok y =>
     obtain ⟨st', s'⟩ := y
     rw [hs] at h
     simp only at h
     split at h
     ·cases h
     split at h
     ·cases h
     ·rename_i h40
      cases h
      have hr := stmtS_gd (s := ⟨ts, 0⟩) hok hs
      rw [checkS, if_pos (okS_iff.2 hr.1), if_pos (List.all_eq_true.2 fun x hx => by have := hr.2 x hx; simp; omega)]
end Go.Abs
namespace Go.Abs
open Go Go.RowKit Go.Proofs Go.Lx Go.Pz
variable {w0 : World}
theorem exC_V : ∀ (n : Nat) (x : Ex), x.w ≤ n → ExV x (exC x) := by
 intro n
 induction n using Nat.strongRecOn with
 | _ n ih =>
   intro x hx
   obtain ⟨op, args, kind, num, scale, text, qual⟩ := x
   rw [w_mk] at hx
   obtain ⟨fl, hfl⟩ := exsV_list args
   rw [exC_eq, hfl, ExV_mk]
   refine ⟨fl, exlC args, rfl, ExsV_of (by simp) fun i hi => ?_⟩
   have hm := w_mem (List.getElem_mem hi)
   rw [getD_eq _ _ _ (by simpa using hi)]
   simp only [exlC, List.getElem_map]
   exact ih args[i].w (by omega) _ (Nat.le_refl _)
theorem exC_V' (x : Ex) : ExV x (exC x) := exC_V x.w x (Nat.le_refl _)
theorem Al.ofMap {α : Type} {R : α → List AVal → Prop} {f : α → List AVal} (h : ∀ x, R x (f x)) : ∀ (l : List α), Al R l (l.map f)
 | [] => Al.nil
 | x :: l => Al.cons (h x) (Al.ofMap h l)
theorem FC.stv {st : Stm} {c : List AVal} (h : FC st c) : StV st c := by
 obtain ⟨vC, vN, vR, vI, vF, vO, vS, rfl, ⟨f1, rfl⟩, ⟨f2, rfl⟩, ⟨f3, rfl⟩, ⟨f4, rfl⟩, ⟨f5, rfl⟩, ⟨f6, rfl⟩, ⟨f7, rfl⟩⟩ := h
 exact ⟨f1, f2, f3, f4, f5, f6, f7, rwsC st.rows, itmsC st.items, srcsC st.src, exC st.wher, srtsC st.order, asnsC st.sets, by simp, exC_V' _,
  Al.ofMap (fun r => ⟨.unk, exlC r, rfl, ExsV_of (by simp) fun i hi => by rw [getD_eq _ _ _ (by simpa using hi)]; simp only [exlC, List.getElem_map]; exact exC_V' _⟩) _,
  Al.ofMap (fun x => ⟨exC x.e, exC_V' _, rfl⟩) _, Al.ofMap (fun x => ⟨exC x.on, exC_V' _, rfl⟩) _, Al.ofMap (fun x => ⟨exC x.e, exC_V' _, rfl⟩) _, Al.ofMap (fun x => ⟨exC x.e, exC_V' _, rfl⟩) _⟩
theorem const_num {kind num scale : Int} {text qual : Bs} (h : constB kind num scale text qual = true) : num ≤ 9223372036854775807 := by
 rcases const_tok h with ⟨rfl, rfl, _⟩ | ⟨rfl, h1, _⟩ | ⟨rfl, h1, rfl, _⟩ | ⟨h1, h2, h3, h4, h5, _⟩
 ·decide
 ·rcases h1 with rfl | rfl <;> decide
 ·decide
 ·generalize ht : (⟨kind, text, num, scale⟩ : Tok) = t at h5
  cases h5 <;> cases ht <;> omega
theorem okE_inr : ∀ (n : Nat) (x : Ex), x.w ≤ n → okE x = true → inrE x = true := by
 intro n
 induction n using Nat.strongRecOn with
 | _ n ih =>
   intro x hx ho
   obtain ⟨op, args, kind, num, scale, text, qual⟩ := x
   rw [w_mk] at hx
   rw [okE_mk, Bool.and_eq_true, decide_eq_true_eq] at ho
   obtain ⟨hl, ho⟩ := ho
   rw [inrE_mk, Bool.and_eq_true, decide_eq_true_eq]
   by_cases h21 : op = 21
   ·subst h21
    rw [if_pos rfl] at ho
    have hl0 : args = [] := List.eq_nil_of_length_eq_zero (by have : opnds 21 = 0 := by decide
                                                              omega)
    subst hl0
    exact ⟨const_num ho, by rw [inrL]⟩
   rw [if_neg h21] at ho
   simp only [Bool.and_eq_true, decide_eq_true_eq] at ho
   obtain ⟨⟨⟨_, h0⟩, _⟩, ho⟩ := ho
   refine ⟨by omega, ?_⟩
   by_cases h22 : op = 22
   ·subst h22
    have hl0 : args = [] := List.eq_nil_of_length_eq_zero (by have : opnds 22 = 0 := by decide
                                                              omega)
    subst hl0
    rw [inrL]
   rw [if_neg h22] at ho
   simp only [Bool.and_eq_true, decide_eq_true_eq] at ho
   exact inrL_iff.2 fun y hy => ih y.w (by have := w_mem hy; omega) y (Nat.le_refl _) (okL_iff.1 ho.1.1 y hy)
theorem zero_inr : inrE Ex.zero = true := by rw [Ex.zero, inrE_mk, inrL]; rfl
theorem per_inr {x : Ex} (h : perB x = true) : inrE x = true := by
 by_cases h0 : opOf x = 0
 ·rw [perB_zero h0] at h
  rw [zeroB_eq h]; exact zero_inr
 ·rw [perB_ok h0] at h
  exact okE_inr x.w x (Nat.le_refl _) h
theorem oks_inr {st : Stm} (h : OkS st) : ∀ x ∈ exsS st, inrE x = true := by
 intro x hx
 have hok : ∀ y, okE y = true → inrE y = true := fun y => okE_inr y.w y (Nat.le_refl _)
 cases h with
 | createT t cs ht h1 h2 hc => simp [exsS] at hx; subst hx; exact zero_inr
 | dropT t ht => simp [exsS] at hx; subst hx; exact zero_inr
 | createI u i t ns hi ht h1 h2 hn => simp [exsS] at hx; subst hx; exact zero_inr
 | dropI i hi => simp [exsS] at hx; subst hx; exact zero_inr
 | trans k h1 h2 => simp [exsS] at hx; subst hx; exact zero_inr
 | insert t rs ht h1 h2 hr =>
   simp [exsS] at hx
   rcases hx with rfl | ⟨r, hr1, hr2⟩
   ·exact zero_inr
   ·exact hok _ (okL_iff.1 (hr r hr1).2.2 x hr2)
 | query is s fs w os hi his hf hs hfs hw ho hos =>
   simp only [exsS, List.flatten_nil, List.nil_append, List.map_nil, List.append_nil, List.mem_cons, List.mem_append, List.mem_map] at hx
   rcases hx with rfl | ⟨y, hy, rfl⟩ | ⟨y, hy, rfl⟩ | ⟨y, hy, rfl⟩
   ·exact per_inr hw
   ·exact hok _ (his y hy).1
   ·rcases hy with rfl | hy
    ·rw [zeroB_eq hs.2.2]; exact zero_inr
    ·exact hok _ (hfs y hy).2.2
   ·exact hok _ (hos y hy)
 | update t zs w ht h1 h2 hz hw =>
   simp only [exsS, List.flatten_nil, List.nil_append, List.map_nil, List.append_nil, List.mem_cons, List.mem_append, List.mem_map] at hx
   rcases hx with rfl | ⟨y, hy, rfl⟩
   ·exact per_inr hw
   ·exact hok _ (hz y hy).2
 | delete t w ht hw =>
   simp only [exsS, List.flatten_nil, List.nil_append, List.map_nil, List.append_nil, List.mem_cons, List.not_mem_nil, or_false] at hx
   subst hx
   exact per_inr hw
theorem wR_flat : ∀ (l : List (List Ex)), l.flatten.length ≤ wR l
 | [] => by simp [wR]
 | x :: l => by
   have h1 := wR_flat l
   have h2 := wL_len x
   rw [List.flatten_cons, List.length_append, wR]; omega
theorem StB.sm {st : Stm} (hb : StB 4000 st) (ho : OkS st) : Sm st := by
 have a1 := wR_len st.rows
 have a2 := wL_len (st.items.map (·.e))
 have a3 := wL_len (st.src.map (·.on))
 have a4 := wL_len (st.order.map (·.e))
 have a5 := wL_len (st.sets.map (·.e))
 have a6 := wR_flat st.rows
 have b1 := hb.rows; have b2 := hb.items; have b3 := hb.src; have b4 := hb.order; have b5 := hb.sets; have b6 := hb.cols; have b7 := hb.names; have b8 := hb.wher
 simp only [List.length_map] at a2 a3 a4 a5
 refine ⟨by omega, by omega, by omega, by omega, by omega, by omega, by omega, ?_, fun x hx => ⟨?_, oks_inr ho x hx⟩⟩
 ·simp only [exsS, List.length_cons, List.length_append, List.length_map]; omega
 ·simp only [exsS, List.mem_cons, List.mem_append] at hx
  rcases hx with rfl | hx | hx | hx | hx | hx
  ·omega
  ·obtain ⟨r, hr, hx⟩ := List.mem_flatten.1 hx
   have := wR_mem hr
   have := w_mem hx
   omega
  ·have := w_mem hx; omega
  ·have := w_mem hx; omega
  ·have := w_mem hx; omega
  ·have := w_mem hx; omega
end Go.Abs
namespace Go.Abs
open Go Go.RowKit Go.Proofs Go.Lx Go.Pz
variable {w0 : World}
def txQ : Bs := [115, 101, 108, 101, 99, 116, 32, 97, 46, 120, 32, 44, 32, 45, 49, 43, 98, 42, 50, 32, 97, 115, 32, 99, 32, 102, 114, 111, 109, 32, 116, 32, 97, 115, 32, 97, 32, 106, 111, 105, 110, 32, 117, 32, 111, 110, 32, 110, 111, 116, 32, 120, 32, 105, 115, 32, 110, 117, 108, 108, 32, 111, 114, 100, 101, 114, 32, 98, 121, 32, 55, 46, 53, 48, 32, 100, 101, 115, 99]
def fmQ : Bs := [83, 69, 76, 69, 67, 84, 32, 97, 46, 120, 44, 32, 40, 40, 45, 32, 49, 41, 32, 43, 32, 40, 98, 32, 42, 32, 50, 41, 41, 32, 65, 83, 32, 99, 32, 70, 82, 79, 77, 32, 116, 32, 65, 83, 32, 97, 32, 73, 78, 78, 69, 82, 32, 74, 79, 73, 78, 32, 117, 32, 79, 78, 32, 40, 78, 79, 84, 32, 40, 120, 32, 73, 83, 32, 78, 85, 76, 76, 41, 41, 32, 79, 82, 68, 69, 82, 32, 66, 89, 32, 55, 46, 53, 48, 32, 68, 69, 83, 67]
def stQ : Stm := { kind := 6, items := [⟨.col [120] [97], []⟩, ⟨.bin 7 (.un 13 (.const 2 1 0 [])) (.bin 9 (.col [98] []) (.const 2 2 0 [])), [99]⟩], src := [⟨[116], [97], .zero⟩, ⟨[117], [], .un 16 (.un 19 (.col [120] []))⟩], order := [⟨.const 3 750 2 [], true⟩] }
theorem pzQ : parseF 200 txQ = .ok stQ := by kernel_rfl
theorem parseQ : Pz.parse resv txQ = .ok stQ := by rw [parseF_eq (n := 200) (by decide) (by decide), pzQ]
theorem formQ : formS stQ = fmQ := by kernel_rfl
theorem checkQ : checkS stQ = 0 := by kernel_rfl
theorem showQ : showT stQ = fmQ ∧ showC stQ = 0 := by
 have h := checkQ
 have hl : (formS stQ).length ≤ 4000 := by rw [formQ]; decide
 exact ⟨by rw [showT, if_pos ⟨h, hl⟩, formQ], by rw [showC, if_pos h, if_pos hl]⟩
set_option maxHeartbeats 4000000 in
theorem w7 (hT : Tb w0) (S : Heap) : ACalls Tryz.prog (B0 w0) 7 [] S fun e S' => e = .ret (.bool true) ∧ S' = S := by
 refine ACalls.close (R := fun e S' => e = .ret (.bool true) ∧ S'.take S.length = S) ?_ ?_
 rotate_left 1
 ·rintro e S' ⟨rfl, ht⟩
  exact .flat ht rfl ⟨rfl, rfl⟩
 refine fn_sound tryOrd (f7_c _) (by simp [f7]) ?_
 simp [-appendR, f7, f7m]
 refine (w12 txQ _).use ?_
 rintro e S1 h1
 obtain ⟨rfl, c, rfl, hc, hb⟩ := h1.two
 rw [parseQ] at hc hb
 rw [parseQ]
 have hm := StB.sm (show StB 4000 stQ from hb) (check_ok checkQ)
 have hv := FC.stv (show FC stQ c from hc)
 simp [-appendR, hc.len.1, hc.len.2, cdOf]
 refine (w8 hT hm hv _).use ?_
 rintro e S2 ⟨rfl, rfl⟩
 rw [showQ.1, showQ.2]
 simp [-appendR, fmQ, hc.len.1]
 refine (w10 hT hm hv _).use ?_
 rintro e S3 ⟨rfl, rfl⟩
 simp [checkQ]
theorem showT_ok {st : Stm} (h : checkS st = 0) (hl : (formS st).length ≤ 4000) : showT st = formS st ∧ showC st = 0 := ⟨by rw [showT, if_pos ⟨h, hl⟩], by rw [showC, if_pos h, if_pos hl]⟩
theorem showC_long {st : Stm} (h : checkS st = 0) (hl : ¬ (formS st).length ≤ 4000) : showC st = 1 := by rw [showC, if_pos h, if_neg hl]
end Go.Abs
namespace Go.Abs
open Go.Lx Go.Pz
def Ez {α β : Type} (f : β → Except Int α) : Prop := ∀ l c, f l = .error c → c ≠ 0
theorem chainF_ez {f o} (hf : Ez f) : ∀ (n : Nat) (e : Ex) (l : List Tok) (c : Int), chainF f o n e l = .error c → c ≠ 0
 | 0, e, l, c, h => by simp [chainF] at h
 | n + 1, e, l, c, h => by
   rw [chainF] at h
   split at h
   ·cases h
   ·split at h
    ·rename_i he
     cases h
     exact hf _ _ he
    ·exact chainF_ez hf n _ _ _ h
theorem chain_ez {f o} (hf : Ez f) : Ez (chain f o) := fun l c h => by
 rw [chain] at h
 split at h
 ·rename_i he
  cases h
  exact hf _ _ he
 ·exact chainF_ez hf _ _ _ _ h
theorem aheadP_ez {op k s f} (hf : Ez f) : Ez (aheadP op k s f) := fun l c h => by
 rw [aheadP] at h
 split at h
 ·rename_i he
  cases h
  exact hf _ _ he
 ·cases h
theorem nameR_ez : Ez (nameR resv) := fun l c h => by
 cases l with
 | nil => cases h; decide
 | cons t r =>
   rw [nameR] at h
   split at h
   ·cases h
   ·cases h; decide
section
variable {E : Nat → List Tok → Pz.Res Ex}
theorem inner_ez (hE : ∀ k, Ez (E k)) (k : Nat) : Ez (inner E k) := fun l c h => by
 rw [inner] at h
 split at h
 ·cases h; decide
 split at h
 ·split at h
  ·rename_i he
   cases h
   exact hE _ _ _ he
  ·split at h
   ·cases h
   ·cases h; decide
 ·cases h; decide
theorem named_ez (hE : ∀ k, Ez (E k)) (k : Nat) (w : Bs) : Ez (named resv E k w) := fun l c h => by
 rw [named] at h
 split at h
 ·cases h
 split at h
 ·cases h
 split at h
 ·cases h
 split at h
 ·cases h
 split at h
 ·cases h
 split at h
 ·split at h
  ·rename_i he
   cases h
   exact inner_ez hE k _ _ he
  ·cases h
 split at h
 ·rename_i he
  cases h
  exact nameR_ez _ _ he
 ·split at h
  ·split at h
   ·rename_i he
    cases h
    exact nameR_ez _ _ he
   ·cases h
  ·cases h
theorem oneP_ez (hE : ∀ k, Ez (E k)) (k : Nat) : Ez (oneP resv E k) := fun l c h => by
 unfold oneP at h
 split at h
 ·cases h; decide
 split at h
 ·cases h
 split at h
 ·cases h
 split at h
 ·exact named_ez hE k _ _ _ h
 ·exact inner_ez hE k _ _ h
theorem sumP_ez (hE : ∀ k, Ez (E k)) (k : Nat) : Ez (sumP resv E k) := chain_ez (chain_ez (aheadP_ez (oneP_ez hE k)))
theorem testP_ez (hE : ∀ k, Ez (E k)) (k : Nat) : Ez (testP resv E k) := fun l c h => by
 rw [testP] at h
 split at h
 ·rename_i he
  cases h
  exact sumP_ez hE k _ _ he
 split at h
 ·split at h
  ·rename_i he
   cases h
   exact sumP_ez hE k _ _ he
  ·cases h
 ·split at h
  ·split at h
   ·split at h
    ·cases h
    ·cases h; decide
   ·split at h
    ·cases h
    ·cases h; decide
  ·cases h
theorem eitherP_ez (hE : ∀ k, Ez (E k)) (k : Nat) : Ez (eitherP resv E k) := chain_ez (chain_ez (aheadP_ez (testP_ez hE k)))
end
theorem either_ez : ∀ (n k : Nat), Ez (Pz.either resv n k)
 | 0, k => fun l c h => by cases h; decide
 | n + 1, k => eitherP_ez (fun k => either_ez n k) k
section
variable {N : Nat}
theorem bindS_ez {α β : Type} {x : ResS α} {f : α → Sta → ResS β} (hx : ∀ c, x = .error c → c ≠ 0) (hf : ∀ a s c, f a s = .error c → c ≠ 0) : ∀ c, bindS x f = .error c → c ≠ 0 := fun c h => by
 cases x with
 | error d => cases h; exact hx _ rfl
 | ok y => obtain ⟨a, s⟩ := y; exact hf a s c h
theorem thenS_ez {β : Type} {x : Except Int Sta} {f : Sta → ResS β} (hx : ∀ c, x = .error c → c ≠ 0) (hf : ∀ s c, f s = .error c → c ≠ 0) : ∀ c, thenS x f = .error c → c ≠ 0 := fun c h => by
 cases x with
 | error d => cases h; exact hx _ rfl
 | ok s => exact hf s c h
theorem whole_ez (s : Sta) : ∀ c, whole resv N s = .error c → c ≠ 0 := fun c h => by
 rw [whole] at h
 split at h
 ·rename_i he
  cases h
  exact either_ez _ _ _ _ he
 ·cases h
theorem nameS_ez (s : Sta) : ∀ c, nameS resv s = .error c → c ≠ 0 := fun c h => by
 rw [nameS] at h
 split at h
 ·rename_i he
  cases h
  exact nameR_ez _ _ he
 ·cases h
theorem needS_ez (k : Int) (w : Bs) (s : Sta) : ∀ c, needS k w s = .error c → c ≠ 0 := fun c h => by
 rw [needS] at h
 split at h
 ·cases h
 ·cases h; decide
theorem aliasS_ez (s : Sta) : ∀ c, aliasS resv s = .error c → c ≠ 0 := fun c h => by
 rw [aliasS] at h
 split at h
 ·exact nameS_ez _ _ h
 ·cases h
theorem whereS_ez (s : Sta) : ∀ c, whereS resv N s = .error c → c ≠ 0 := fun c h => by
 rw [whereS] at h
 split at h
 ·exact whole_ez _ _ h
 ·cases h
theorem ok_ez {α : Type} {a : α} : ∀ c, (.ok a : Except Int α) = .error c → c ≠ 0 := fun c h => by cases h
theorem listF_ez {α : Type} {step : α → Sta → ResS α} (hs : ∀ x s c, step x s = .error c → c ≠ 0) : ∀ (f : Nat) (x : α) (s : Sta) (c : Int), listF step f x s = .error c → c ≠ 0
 | 0, x, s, c, h => hs x s c h
 | f + 1, x, s, c, h => by
   rw [listF] at h
   split at h
   ·rename_i he
    cases h
    exact hs _ _ _ he
   ·split at h
    ·split at h
     ·cases h; decide
     ·exact listF_ez hs f _ _ _ h
    ·cases h
theorem typeS_ez (s : Sta) : ∀ c, typeS s = .error c → c ≠ 0 := fun c h => by
 rw [typeS] at h
 split at h
 ·cases h
 split at h
 ·cases h
 split at h
 ·cases h
 split at h
 ·cases h
 ·cases h; decide
theorem columnS_ez (s : Sta) : ∀ c, columnS resv s = .error c → c ≠ 0 := by
 unfold columnS
 refine bindS_ez (nameS_ez s) fun n s => bindS_ez (typeS_ez s) fun t s c h => ?_
 split at h
 ·exact thenS_ez (needS_ez _ _ _) (fun s => ok_ez) c h
 ·cases h
theorem createS_ez (s : Sta) : ∀ c, createS resv s = .error c → c ≠ 0 := fun c h => by
 rw [createS] at h
 split at h
 ·exact bindS_ez (nameS_ez _) (fun n s => thenS_ez (needS_ez _ _ _) fun s => bindS_ez (listF_ez (fun x s => bindS_ez (columnS_ez s) fun c s => ok_ez) 16 [] s) fun cs s => thenS_ez (needS_ez _ _ _) fun s => ok_ez) c h
 ·exact thenS_ez (needS_ez _ _ _) (fun s => bindS_ez (nameS_ez s) fun i s => thenS_ez (needS_ez _ _ _) fun s => bindS_ez (nameS_ez s) fun n s => thenS_ez (needS_ez _ _ _) fun s => bindS_ez (listF_ez (fun x s => bindS_ez (nameS_ez s) fun c s => ok_ez) 4 [] s) fun cs s => thenS_ez (needS_ez _ _ _) fun s => ok_ez) c h
theorem dropS_ez (s : Sta) : ∀ c, dropS resv s = .error c → c ≠ 0 := fun c h => by
 rw [dropS] at h
 split at h
 ·exact bindS_ez (nameS_ez _) (fun n s => ok_ez) c h
 ·exact thenS_ez (needS_ez _ _ _) (fun s => bindS_ez (nameS_ez s) fun n s => ok_ez) c h
theorem rowS_ez (x : List (List Ex)) (s : Sta) : ∀ c, rowS resv N x s = .error c → c ≠ 0 := by
 unfold rowS
 exact thenS_ez (needS_ez _ _ _) fun s => bindS_ez (listF_ez (fun x s => by unfold exprsS; exact bindS_ez (whole_ez s) fun y s => ok_ez) 50 [] s) fun xs s => thenS_ez (needS_ez _ _ _) fun s => ok_ez
theorem insertS_ez (s : Sta) : ∀ c, insertS resv N s = .error c → c ≠ 0 := by
 unfold insertS
 exact thenS_ez (needS_ez _ _ _) fun s => bindS_ez (nameS_ez s) fun n s => thenS_ez (needS_ez _ _ _) fun s => bindS_ez (listF_ez (fun x s => rowS_ez x s) 50 [] s) fun rs s => ok_ez
theorem sourceS_ez (s : Sta) : ∀ c, sourceS resv s = .error c → c ≠ 0 := by
 unfold sourceS
 exact bindS_ez (nameS_ez s) fun n s => bindS_ez (aliasS_ez s) fun a s => ok_ez
theorem joinsS_ez : ∀ (f : Nat) (xs : List Src) (s : Sta) (c : Int), joinsS resv N f xs s = .error c → c ≠ 0 := by
 intro f
 induction f with
 | zero =>
   intro xs s c h
   rw [joinsS] at h
   split at h
   ·cases h; decide
   ·cases h
 | succ f ih =>
   intro xs s c h
   rw [joinsS] at h
   split at h
   ·exact thenS_ez (needS_ez _ _ _) (fun s => bindS_ez (sourceS_ez s) fun x s => thenS_ez (needS_ez _ _ _) fun s => bindS_ez (whole_ez s) fun o s => ih _ s) c h
   ·cases h
theorem queryS_ez (s : Sta) : ∀ c, queryS resv N s = .error c → c ≠ 0 := by
 unfold queryS
 refine bindS_ez (fun c h => ?_) fun is s => thenS_ez (needS_ez _ _ _) fun s => bindS_ez (sourceS_ez s) fun x s => bindS_ez (joinsS_ez 3 [x] s) fun fs s => bindS_ez (whereS_ez s) fun w s => bindS_ez (fun c h => ?_) fun os s => ok_ez
 ·rw [itemsS] at h
  split at h
  ·cases h
  ·exact listF_ez (fun x s => by unfold itemS; exact bindS_ez (whole_ez s) fun y s => bindS_ez (aliasS_ez s) fun n s => ok_ez) 50 [] s c h
 ·rw [orderS] at h
  split at h
  ·exact thenS_ez (needS_ez _ _ _) (fun s => listF_ez (fun x s => by unfold sortS; exact bindS_ez (whole_ez s) fun y s => ok_ez) 50 [] s) c h
  ·cases h
theorem updateS_ez (s : Sta) : ∀ c, updateS resv N s = .error c → c ≠ 0 := by
 unfold updateS
 exact bindS_ez (nameS_ez s) fun n s => thenS_ez (needS_ez _ _ _) fun s => bindS_ez (listF_ez (fun x s => by unfold setS; exact bindS_ez (nameS_ez s) fun n s => thenS_ez (needS_ez _ _ _) fun s => bindS_ez (whole_ez s) fun y s => ok_ez) 50 [] s) fun zs s => bindS_ez (whereS_ez s) fun w s => ok_ez
theorem deleteS_ez (s : Sta) : ∀ c, deleteS resv N s = .error c → c ≠ 0 := by
 unfold deleteS
 exact thenS_ez (needS_ez _ _ _) fun s => bindS_ez (nameS_ez s) fun n s => bindS_ez (whereS_ez s) fun w s => ok_ez
theorem stmtS_ez (s : Sta) : ∀ c, stmtS resv N s = .error c → c ≠ 0 := fun c h => by
 rw [stmtS] at h
 split at h
 ·exact createS_ez _ _ h
 split at h
 ·exact dropS_ez _ _ h
 split at h
 ·exact insertS_ez _ _ h
 split at h
 ·exact queryS_ez _ _ h
 split at h
 ·exact updateS_ez _ _ h
 split at h
 ·exact deleteS_ez _ _ h
 split at h
 ·cases h
 split at h
 ·cases h
 split at h
 ·cases h
 ·cases h; decide
end
theorem one_ez {l : Bs} {e : Int} (h : Lx.one l = .error e) : e ≠ 0 := by
 cases l with
 | nil => cases h; decide
 | cons c r =>
   rw [Lx.one] at h
   split at h
   ·rw [Lx.word] at h
    split at h
    ·cases h; decide
    ·cases h
   split at h
   ·rw [Lx.number] at h
    split at h
    ·split at h
     ·cases h; decide
     ·cases h
    split at h
    ·cases h; decide
    ·cases h
   split at h
   ·rw [Lx.text] at h
    split at h
    ·cases h; decide
    ·split at h
     ·cases h; decide
     ·cases h
   ·cases r with
    | nil =>
      rw [Lx.sign] at h
      split at h
      ·cases h
      ·cases h; decide
    | cons d r =>
      rw [Lx.sign] at h
      split at h
      ·cases h
      split at h
      ·cases h
      ·cases h; decide
theorem toks_ez : ∀ (n : Nat) (l : Bs) (e : Int), l.length ≤ n → toks l = .error e → e ≠ 0
 | n, [], e, _, h => by rw [toks_nil] at h; cases h
 | 0, c :: r, e, hn, h => by simp at hn
 | n + 1, c :: r, e, hn, h => by
   by_cases hb : isB c = true
   ·rw [toks_blank hb] at h
    exact toks_ez n r e (by simpa using hn) h
   ·have hb : isB c = false := by simpa using hb
    cases ho : Lx.one (c :: r) with
    | error d =>
      rw [toks_err hb ho] at h
      cases h
      exact one_ez ho
    | ok y =>
      obtain ⟨tk, m⟩ := y
      rw [toks_tok hb ho] at h
      cases hr : toks (r.drop (m - 1)) with
      | error d =>
        rw [hr] at h
        cases h
        exact toks_ez n _ _ (by simp at hn ⊢; omega) hr
      | ok s' => rw [hr] at h; cases h
theorem tokens_ez {l : Bs} {e : Int} (h : Lx.tokens l = .error e) : e ≠ 0 := by
 rw [Lx.tokens] at h
 split at h
 ·cases h; decide
 ·exact toks_ez _ _ _ (Nat.le_refl _) h
theorem parse_ez {x : Bs} {c : Int} (h : Pz.parse resv x = .error c) : c ≠ 0 := by
 rw [Pz.parse] at h
 split at h
 ·rename_i he
  cases h
  exact tokens_ez he
 ·rw [parseT] at h
  split at h
  ·rename_i he
   cases h
   exact stmtS_ez _ _ he
  ·split at h
   ·cases h; decide
   split at h
   ·cases h; decide
   ·cases h
end Go.Abs
namespace Go.Abs
open Go Go.RowKit Go.Proofs Go.Lx Go.Pz
variable {w0 : World}
theorem PaR.cases {S : Heap} {x : Bs} {e : AEnd} {S' : Heap} (h : PaR S x e S') : S' = S ∧ ((∃ st c, Pz.parse resv x = .ok st ∧ e = .ret (.tuple [.agg c, .int 0]) ∧ FC st c ∧ StB 4000 st ∧ checkS st = 0) ∨ ∃ n c, Pz.parse resv x = .error n ∧ n ≠ 0 ∧ e = .ret (.tuple [.agg c, .int n]) ∧ FC {} c) := by
 obtain ⟨h1, c, h2, h3, h4⟩ := h.two
 refine ⟨h1, ?_⟩
 cases hp : Pz.parse resv x with
 | ok st => rw [hp] at h2 h3 h4; exact .inl ⟨st, c, rfl, h2, h3, h4, parse_ok hp⟩
 | error n => rw [hp] at h2 h3; exact .inr ⟨n, c, rfl, parse_ez hp, h2, h3⟩
set_option maxHeartbeats 8000000 in
theorem w5 (hT : Tb w0) (x : Bs) : ACalls Tryz.prog (B0 w0) 5 [.str x] [] fun e S' => e = .ret (.bool true) := by
 refine fn_sound tryOrd (f5_c _) (by simp [f5]) ?_
 simp [-appendR, f5, f5m]
 refine (w7 hT _).use ?_
 rintro e S1 ⟨rfl, rfl⟩
 simp [-appendR]
 refine (w12 x _).use ?_
 rintro e S1 h1
 obtain ⟨rfl, h3⟩ := h1.cases
 rcases h3 with ⟨st, c, hp, rfl, hc, hb, hk⟩ | ⟨n, c, hp, hn, rfl, hc⟩
 ·have hm := hb.sm (check_ok hk)
  simp [-appendR, hc.len.1, hc.len.2]
  refine (w10 hT hm hc.stv _).use ?_
  rintro e S2 ⟨rfl, rfl⟩
  simp [-appendR, hk, hc.len.1]
  refine (w8 hT hm hc.stv _).use ?_
  rintro e S2 ⟨rfl, rfl⟩
  by_cases hl : (formS st).length ≤ 4000
  ·rw [(showT_ok hk hl).1, (showT_ok hk hl).2]
   simp [-appendR, hc.len.1]
   refine (w12 (formS st) _).use ?_
   rintro e S2 h2
   obtain ⟨rfl, h4⟩ := h2.cases
   rw [parse_formS hk hl] at h4
   rcases h4 with ⟨st2, c2, hp2, rfl, hc2, hb2, hk2⟩ | ⟨n, c, hp2, h5⟩
   rotate_left 1
   ·cases hp2
   obtain rfl : st = st2 := by cases hp2; rfl
   simp [-appendR, hc.len.1, hc2.len.1, hc2.len.2]
   refine (w8 hT hm hc2.stv _).use ?_
   rintro e S3 ⟨rfl, rfl⟩
   rw [(showT_ok hk hl).1, (showT_ok hk hl).2]
   simp [-appendR, hc.len.1, hc2.len.1]
   refine (w13 hb hc2 hc _).use ?_
   rintro e S4 ⟨rfl, rfl⟩
   simp
  ·rw [showC_long hk hl]
   simp [-appendR, hc.len.1]
 ·have bn : (n != 0) = true := by simpa using hn
  simp [-appendR, hc.len.1, hc.len.2, bn]
  refine (w13 (StB.zero 4000) hc FC.zero _).use ?_
  rintro e S2 ⟨rfl, rfl⟩
  simp
end Go.Abs
