/- Tokens of a text that goes on behind a blank. Conditions: none; definitions and lemmas. -/
import Derived.Test.YtjoehmgnapdhaaaDoorP1
namespace Go.Lx
open Go.Lib

/-- What stands behind: nothing, or a blank first. -/
def Stop (x : Bs) : Prop := ∀ z y, x = z :: y → isB z = true

theorem isB_nat {z : UInt8} (h : isB z = true) : z.toNat = 32 ∨ z.toNat = 9 ∨ z.toNat = 10 ∨ z.toNat = 13 := by
  simpa [isB, or_assoc] using h
theorem isB_D {z : UInt8} (h : isB z = true) : isD z = false := by
  have := isB_nat h
  simp [isD]; omega
theorem isB_L {z : UInt8} (h : isB z = true) : isL z = false := by
  have := isB_nat h
  simp [isL]; omega
theorem isB_W {z : UInt8} (h : isB z = true) : isW z = false := by simp [isW, isB_D h, isB_L h]

theorem run_app {p : UInt8 → Bool} (hp : ∀ z, isB z = true → p z = false) : ∀ (l : Bs) {x : Bs}, Stop x → run p (l ++ x) = run p l
  | [], x, hx => by
    cases x with
    | nil => rfl
    | cons z y => rw [List.nil_append, run_cons, hp z (hx z y rfl)]; rfl
  | c :: r, x, hx => by
    rw [List.cons_append, run_cons, run_cons, run_app hp r hx]

theorem part_cons (c : UInt8) (r : Bs) : part (c :: r) = if c.toNat = 46 then run isD r else 0 := by rw [part]
theorem part_app (l : Bs) {x : Bs} (hx : Stop x) : part (l ++ x) = part l := by
  cases l with
  | nil =>
    cases x with
    | nil => rfl
    | cons z y =>
      have := isB_nat (hx z y rfl)
      rw [List.nil_append, part_cons, if_neg (by omega)]; rfl
  | cons c r => rw [List.cons_append, part_cons, part_cons, run_app (fun z h => isB_D h) r hx]

theorem word_app {l x : Bs} (hx : Stop x) : word (l ++ x) = word l := by
  have h := run_app (p := isW) (fun z h => isB_W h) l hx
  rw [word, word, h, List.take_append_of_le_length (run_le _ _)]

theorem number_app {l x : Bs} (hx : Stop x) : number (l ++ x) = number l := by
  have h := run_app (p := isD) (fun z h => isB_D h) l hx
  have hle := run_le isD l
  have hp : part ((l ++ x).drop (run isD l)) = part (l.drop (run isD l)) := by
    rw [List.drop_append_of_le_length hle, part_app _ hx]
  rw [number, number, h, hp, List.take_append_of_le_length hle]
  by_cases h0 : part (l.drop (run isD l)) = 0
  · rw [if_pos h0, if_pos h0]
  · rw [if_neg h0, if_neg h0]
    have h1 := part_le (l.drop (run isD l))
    rw [List.length_drop] at h1
    rw [List.drop_append_of_le_length (by omega), List.take_append_of_le_length (by rw [List.length_drop]; omega)]

theorem txt_app {x : Bs} (hx : Stop x) : ∀ (l b : Bs) (n : Nat), txt l = some (b, n) → txt (l ++ x) = some (b, n) := by
  refine txt_ind ?_ ?_ ?_ ?_
  · intro b n h; rw [txt_nil] at h; cases h
  · intro c r hc ih b n h
    rw [txt_other hc] at h
    simp only [Option.map_eq_some_iff, Prod.mk.injEq] at h
    obtain ⟨⟨b', n'⟩, h, rfl, rfl⟩ := h
    rw [List.cons_append, txt_other hc, ih b' n' h]; rfl
  · intro c r hc h2 b n h
    rw [txt_end hc h2] at h
    rw [List.cons_append, txt_end hc (fun d r' e => ?_), h]
    cases r with
    | nil => have := isB_nat (hx d r' (by simpa using e)); omega
    | cons d' r'' => simp only [List.cons_append, List.cons.injEq] at e; exact e.1 ▸ h2 d' r'' rfl
  · intro c d r hc hd ih b n h
    rw [txt_two hc hd] at h
    simp only [Option.map_eq_some_iff, Prod.mk.injEq] at h
    obtain ⟨⟨b', n'⟩, h, rfl, rfl⟩ := h
    rw [List.cons_append, List.cons_append, txt_two hc hd, ih b' n' h]; rfl

theorem sign_app {c : UInt8} {r x : Bs} (hx : Stop x) : sign (c :: (r ++ x)) = sign (c :: r) := by
  cases r with
  | nil =>
    cases x with
    | nil => rfl
    | cons z y =>
      have := isB_nat (hx z y rfl)
      have h2 : two c z = false := by simp [two]; omega
      rw [List.nil_append, sign, sign, h2]; simp
  | cons d r => rw [List.cons_append, sign, sign]

theorem one_app {c : UInt8} {r x : Bs} {t : Tok} {n : Nat} (hx : Stop x) (h : one (c :: r) = .ok (t, n)) : one (c :: (r ++ x)) = .ok (t, n) := by
  rw [one] at h ⊢
  split at h
  · rename_i hl
    rw [if_pos hl, ← List.cons_append, word_app hx, h]
  · rename_i hl
    rw [if_neg hl]
    split at h
    · rename_i hd
      rw [if_pos hd, ← List.cons_append, number_app hx, h]
    · rename_i hd
      rw [if_neg hd]
      split at h
      · rename_i hq
        rw [if_pos hq]
        rw [text] at h ⊢
        simp only [List.drop_succ_cons, List.drop_zero] at h ⊢
        cases ht : txt r with
        | none => rw [ht] at h; cases h
        | some y => obtain ⟨b, m⟩ := y; rw [ht] at h; rw [txt_app hx _ _ _ ht, h]
      · rename_i hq
        rw [if_neg hq, sign_app hx, h]

theorem toks_app {x : Bs} (hx : Stop x) {t : List Tok} (ht : toks x = .ok t) : ∀ (n : Nat) (l : Bs) (s : List Tok), l.length ≤ n → toks l = .ok s → toks (l ++ x) = .ok (s ++ t)
  | n, [], s, _, h => by
    rw [toks_nil] at h
    cases h
    exact ht
  | 0, c :: r, s, hn, h => by simp at hn
  | n + 1, c :: r, s, hn, h => by
    by_cases hb : isB c = true
    · rw [toks_blank hb] at h
      rw [List.cons_append, toks_blank hb]
      exact toks_app hx ht n r s (by simpa using hn) h
    · have hb : isB c = false := by simpa using hb
      cases ho : one (c :: r) with
      | error e => rw [toks_err hb ho] at h; cases h
      | ok y =>
        obtain ⟨tk, m⟩ := y
        rw [toks_tok hb ho] at h
        have hlen := one_len ho
        have ho' := one_app hx ho
        rw [List.cons_append, toks_tok hb ho', List.drop_append_of_le_length (by omega)]
        cases hr : toks (r.drop (m - 1)) with
        | error e => rw [hr] at h; cases h
        | ok s' =>
          rw [hr] at h
          cases h
          rw [toks_app hx ht n _ s' (by simp at hn ⊢; omega) hr]
          rfl
end Go.Lx
