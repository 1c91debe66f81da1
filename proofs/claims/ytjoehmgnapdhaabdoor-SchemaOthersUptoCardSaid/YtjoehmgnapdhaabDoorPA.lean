/- The plain law of the lexer. Conditions: none; definitions and lemmas. -/
import Derived.Lib.Case
namespace Go.Lx
open Go.Lib
abbrev Bs := List UInt8

def isD (c : UInt8) : Bool := decide (48 ≤ c.toNat) && decide (c.toNat ≤ 57)
def isL (c : UInt8) : Bool := (decide (97 ≤ c.toNat) && decide (c.toNat ≤ 122)) || (decide (65 ≤ c.toNat) && decide (c.toNat ≤ 90)) || decide (c.toNat = 95)
def isW (c : UInt8) : Bool := isL c || isD c
def isB (c : UInt8) : Bool := decide (c.toNat = 32) || decide (c.toNat = 9) || decide (c.toNat = 10) || decide (c.toNat = 13)

structure Tok where
  kind : Int
  text : Bs
  num : Int
  scale : Int
  deriving DecidableEq

/-- How many stand at the beginning. -/
def run (p : UInt8 → Bool) (l : Bs) : Nat := (l.takeWhile p).length

/-- The number that digits are. -/
def dig (c : UInt8) : Nat := c.toNat - 48
def valA (n : Nat) (l : Bs) : Nat := l.foldl (fun n c => n * 10 + dig c) n
def val (l : Bs) : Nat := valA 0 l

abbrev Res := Except Int (Tok × Nat)

def word (l : Bs) : Res :=
  if 32 < run isW l then .error 122 else .ok (⟨1, (l.take (run isW l)).map lowerB, 0, 0⟩, run isW l)

def part : Bs → Nat
  | [] => 0
  | c :: r => if c.toNat = 46 then run isD r else 0

def number (l : Bs) : Res :=
  if part (l.drop (run isD l)) = 0 then
    if 19 < run isD l ∨ 9223372036854775807 < val (l.take (run isD l)) then .error 11 else .ok (⟨2, [], val (l.take (run isD l)), 0⟩, run isD l)
  else if 15 < run isD l + part (l.drop (run isD l)) then .error 11
  else .ok (⟨3, [], val (l.take (run isD l) ++ (l.drop (run isD l + 1)).take (part (l.drop (run isD l)))), part (l.drop (run isD l))⟩, run isD l + 1 + part (l.drop (run isD l)))

/-- A text behind its first quote: what it is, and how many bytes. -/
def txt : Bs → Option (Bs × Nat)
  | [] => none
  | c :: r => if c.toNat = 39 then
      match r with
      | [] => some ([], 1)
      | d :: r' => if d.toNat = 39 then (txt r').map fun x => (39 :: x.1, x.2 + 2) else some ([], 1)
    else (txt r).map fun x => (c :: x.1, x.2 + 1)

def text (l : Bs) : Res :=
  match txt (l.drop 1) with
  | none => .error 121
  | some (b, n) => if 200 < b.length then .error 1 else .ok (⟨4, b, 0, 0⟩, n + 1)

/-- Signs of two bytes; of one. -/
def two (c d : UInt8) : Bool := (decide (c.toNat = 60) && decide (d.toNat = 62)) || (decide (c.toNat = 60) && decide (d.toNat = 61)) || (decide (c.toNat = 62) && decide (d.toNat = 61)) || (decide (c.toNat = 124) && decide (d.toNat = 124))
def ones : Bs := [40, 41, 44, 46, 42, 43, 45, 47, 37, 61, 60, 62]
def sign : Bs → Res
  | [] => .error 120
  | [c] => if c ∈ ones then .ok (⟨5, [c], 0, 0⟩, 1) else .error 120
  | c :: d :: _ => if two c d then .ok (⟨5, [c, d], 0, 0⟩, 2) else if c ∈ ones then .ok (⟨5, [c], 0, 0⟩, 1) else .error 120

def one : Bs → Res
  | [] => .error 120
  | c :: r => if isL c then word (c :: r) else if isD c then number (c :: r) else if c.toNat = 39 then text (c :: r) else sign (c :: r)

def toks : Bs → Except Int (List Tok)
  | [] => .ok []
  | c :: r => if isB c then toks r else
    match one (c :: r) with
    | .error e => .error e
    | .ok (t, n) => match toks (r.drop (n - 1)) with
      | .error e => .error e
      | .ok ts => .ok (t :: ts)
  termination_by l => l.length
  decreasing_by
    · simp
    · simp; omega

def tokens (l : Bs) : Except Int (List Tok) := if 4000 < l.length then .error 1 else toks l

theorem toks_nil : toks [] = .ok [] := by rw [toks]
theorem toks_blank {c : UInt8} {r : Bs} (h : isB c = true) : toks (c :: r) = toks r := by rw [toks, if_pos h]
theorem toks_err {c : UInt8} {r : Bs} {e : Int} (h : isB c = false) (ho : one (c :: r) = .error e) : toks (c :: r) = .error e := by
  rw [toks, if_neg (by simp [h]), ho]
theorem toks_tok {c : UInt8} {r : Bs} {t : Tok} {n : Nat} (h : isB c = false) (ho : one (c :: r) = .ok (t, n)) :
    toks (c :: r) = match toks (r.drop (n - 1)) with
      | .error e => .error e
      | .ok ts => .ok (t :: ts) := by
  rw [toks, if_neg (by simp [h]), ho]
theorem toks_drop : ∀ (l : Bs), toks (l.dropWhile isB) = toks l
  | [] => rfl
  | c :: r => by
    by_cases h : isB c = true
    · rw [List.dropWhile_cons, if_pos h, toks_drop r, toks_blank h]
    · rw [List.dropWhile_cons, if_neg h]

theorem run_le (p : UInt8 → Bool) (l : Bs) : run p l ≤ l.length := by
  unfold run
  exact (List.takeWhile_sublist p).length_le
theorem run_cons (p : UInt8 → Bool) (c : UInt8) (r : Bs) : run p (c :: r) = if p c then run p r + 1 else 0 := by
  unfold run
  rw [List.takeWhile_cons]
  split <;> simp
theorem take_run (p : UInt8 → Bool) (l : Bs) : l.take (run p l) = l.takeWhile p := by
  induction l with
  | nil => rfl
  | cons c r ih => rw [run_cons, List.takeWhile_cons]; split <;> simp_all

theorem txt_nil : txt [] = none := by rw [txt]
theorem txt_other {c : UInt8} {r : Bs} (h : ¬ c.toNat = 39) : txt (c :: r) = (txt r).map fun x => (c :: x.1, x.2 + 1) := by
  cases r with
  | nil => simp [txt, h]
  | cons d r => rw [txt, if_neg h]
theorem txt_end {c : UInt8} {r : Bs} (h : c.toNat = 39) (h2 : ∀ d r', r = d :: r' → ¬ d.toNat = 39) : txt (c :: r) = some ([], 1) := by
  cases r with
  | nil => rw [txt, if_pos h]
  | cons d r => rw [txt, if_pos h, if_neg (h2 d r rfl)]
theorem txt_two {c d : UInt8} {r : Bs} (h : c.toNat = 39) (h2 : d.toNat = 39) : txt (c :: d :: r) = (txt r).map fun x => (39 :: x.1, x.2 + 2) := by
  rw [txt, if_pos h, if_pos h2]

/-- By the bytes of a text. -/
theorem txt_ind {M : Bs → Prop} (h0 : M []) (h1 : ∀ c r, ¬ c.toNat = 39 → M r → M (c :: r)) (h2 : ∀ c r, c.toNat = 39 → (∀ d r', r = d :: r' → ¬ d.toNat = 39) → M (c :: r))
    (h3 : ∀ c d r, c.toNat = 39 → d.toNat = 39 → M r → M (c :: d :: r)) : ∀ l, M l
  | [] => h0
  | [c] => by
    by_cases hc : c.toNat = 39
    · exact h2 c [] hc (fun d r' e => by cases e)
    · exact h1 c [] hc h0
  | c :: d :: r => by
    by_cases hc : c.toNat = 39
    · by_cases hd : d.toNat = 39
      · exact h3 c d r hc hd (txt_ind h0 h1 h2 h3 r)
      · exact h2 c (d :: r) hc (fun d' r' e => by cases e; exact hd)
    · exact h1 c (d :: r) hc (txt_ind h0 h1 h2 h3 (d :: r))

theorem txt_le : ∀ (l : Bs) (b : Bs) (n : Nat), txt l = some (b, n) → n ≤ l.length ∧ 1 ≤ n ∧ b.length < n := by
  refine txt_ind ?_ ?_ ?_ ?_
  · intro b n h; rw [txt_nil] at h; cases h
  · intro c r hc ih b n h
    rw [txt_other hc] at h
    simp only [Option.map_eq_some_iff, Prod.mk.injEq] at h
    obtain ⟨⟨b', n'⟩, h, rfl, rfl⟩ := h
    have := ih b' n' h
    simp; omega
  · intro c r hc h2 b n h
    rw [txt_end hc h2] at h
    simp only [Option.some.injEq, Prod.mk.injEq] at h
    obtain ⟨rfl, rfl⟩ := h
    simp
  · intro c d r hc hd ih b n h
    rw [txt_two hc hd] at h
    simp only [Option.map_eq_some_iff, Prod.mk.injEq] at h
    obtain ⟨⟨b', n'⟩, h, rfl, rfl⟩ := h
    have := ih b' n' h
    simp; omega

theorem part_le (l : Bs) : part l ≤ l.length - 1 := by
  cases l with
  | nil => simp [part]
  | cons c r => rw [part]; split
                · have := run_le isD r; simpa using this
                · simp

/-- A token has a byte, and no more than there are. -/
theorem one_len {c : UInt8} {r : Bs} {t : Tok} {n : Nat} (h : one (c :: r) = .ok (t, n)) : 1 ≤ n ∧ n ≤ r.length + 1 := by
  rw [one] at h
  split at h
  · rename_i hl
    rw [word] at h
    split at h
    · cases h
    · simp only [Except.ok.injEq, Prod.mk.injEq] at h
      obtain ⟨-, rfl⟩ := h
      refine ⟨?_, run_le _ _⟩
      rw [run_cons, if_pos (by simp [isW, hl])]; omega
  · split at h
    · rename_i hd
      have h1 : 1 ≤ run isD (c :: r) := by rw [run_cons, if_pos hd]; omega
      have h2 := run_le isD (c :: r)
      have h3 := part_le ((c :: r).drop (run isD (c :: r)))
      simp only [List.length_drop, List.length_cons] at h2 h3
      rw [number] at h
      split at h
      · split at h
        · cases h
        · simp only [Except.ok.injEq, Prod.mk.injEq] at h
          omega
      · split at h
        · cases h
        · simp only [Except.ok.injEq, Prod.mk.injEq] at h
          omega
    · split at h
      · rw [text] at h
        split at h
        · cases h
        · rename_i b m hb
          have := txt_le _ _ _ hb
          split at h
          · cases h
          · simp only [Except.ok.injEq, Prod.mk.injEq] at h
            simp at this; omega
      · cases r with
        | nil => rw [sign] at h; split at h
                 · simp only [Except.ok.injEq, Prod.mk.injEq] at h; simp; omega
                 · cases h
        | cons d r =>
          rw [sign] at h
          split at h
          · simp only [Except.ok.injEq, Prod.mk.injEq] at h; simp; omega
          · split at h
            · simp only [Except.ok.injEq, Prod.mk.injEq] at h; simp; omega
            · cases h
end Go.Lx
namespace Go.Lx
open Go.Lib

/-- What stands behind: nothing, or a blank first. -/
def Stop (x : Bs) : Prop := ∀ z y, x = z :: y → isB z = true

theorem isB_nat {z : UInt8} (h : isB z = true) : z.toNat = 32 ∨ z.toNat = 9 ∨ z.toNat = 10 ∨ z.toNat = 13 := by
  simpa [isB, or_assoc] using h
theorem isB_D {z : UInt8} (h : isB z = true) : isD z = false := by
  have := isB_nat h
  simp [isD]; omega
theorem isB_L {z : UInt8} (h : isB z = true) : isL z = false := by
  have := isB_nat h
  simp [isL]; omega
theorem isB_W {z : UInt8} (h : isB z = true) : isW z = false := by simp [isW, isB_D h, isB_L h]

theorem run_app {p : UInt8 → Bool} (hp : ∀ z, isB z = true → p z = false) : ∀ (l : Bs) {x : Bs}, Stop x → run p (l ++ x) = run p l
  | [], x, hx => by
    cases x with
    | nil => rfl
    | cons z y => rw [List.nil_append, run_cons, hp z (hx z y rfl)]; rfl
  | c :: r, x, hx => by
    rw [List.cons_append, run_cons, run_cons, run_app hp r hx]

theorem part_cons (c : UInt8) (r : Bs) : part (c :: r) = if c.toNat = 46 then run isD r else 0 := by rw [part]
theorem part_app (l : Bs) {x : Bs} (hx : Stop x) : part (l ++ x) = part l := by
  cases l with
  | nil =>
    cases x with
    | nil => rfl
    | cons z y =>
      have := isB_nat (hx z y rfl)
      rw [List.nil_append, part_cons, if_neg (by omega)]; rfl
  | cons c r => rw [List.cons_append, part_cons, part_cons, run_app (fun z h => isB_D h) r hx]

theorem word_app {l x : Bs} (hx : Stop x) : word (l ++ x) = word l := by
  have h := run_app (p := isW) (fun z h => isB_W h) l hx
  rw [word, word, h, List.take_append_of_le_length (run_le _ _)]

theorem number_app {l x : Bs} (hx : Stop x) : number (l ++ x) = number l := by
  have h := run_app (p := isD) (fun z h => isB_D h) l hx
  have hle := run_le isD l
  have hp : part ((l ++ x).drop (run isD l)) = part (l.drop (run isD l)) := by
    rw [List.drop_append_of_le_length hle, part_app _ hx]
  rw [number, number, h, hp, List.take_append_of_le_length hle]
  by_cases h0 : part (l.drop (run isD l)) = 0
  · rw [if_pos h0, if_pos h0]
  · rw [if_neg h0, if_neg h0]
    have h1 := part_le (l.drop (run isD l))
    rw [List.length_drop] at h1
    rw [List.drop_append_of_le_length (by omega), List.take_append_of_le_length (by rw [List.length_drop]; omega)]

theorem txt_app {x : Bs} (hx : Stop x) : ∀ (l b : Bs) (n : Nat), txt l = some (b, n) → txt (l ++ x) = some (b, n) := by
  refine txt_ind ?_ ?_ ?_ ?_
  · intro b n h; rw [txt_nil] at h; cases h
  · intro c r hc ih b n h
    rw [txt_other hc] at h
    simp only [Option.map_eq_some_iff, Prod.mk.injEq] at h
    obtain ⟨⟨b', n'⟩, h, rfl, rfl⟩ := h
    rw [List.cons_append, txt_other hc, ih b' n' h]; rfl
  · intro c r hc h2 b n h
    rw [txt_end hc h2] at h
    rw [List.cons_append, txt_end hc (fun d r' e => ?_), h]
    cases r with
    | nil => have := isB_nat (hx d r' (by simpa using e)); omega
    | cons d' r'' => simp only [List.cons_append, List.cons.injEq] at e; exact e.1 ▸ h2 d' r'' rfl
  · intro c d r hc hd ih b n h
    rw [txt_two hc hd] at h
    simp only [Option.map_eq_some_iff, Prod.mk.injEq] at h
    obtain ⟨⟨b', n'⟩, h, rfl, rfl⟩ := h
    rw [List.cons_append, List.cons_append, txt_two hc hd, ih b' n' h]; rfl

theorem sign_app {c : UInt8} {r x : Bs} (hx : Stop x) : sign (c :: (r ++ x)) = sign (c :: r) := by
  cases r with
  | nil =>
    cases x with
    | nil => rfl
    | cons z y =>
      have := isB_nat (hx z y rfl)
      have h2 : two c z = false := by simp [two]; omega
      rw [List.nil_append, sign, sign, h2]; simp
  | cons d r => rw [List.cons_append, sign, sign]

theorem one_app {c : UInt8} {r x : Bs} {t : Tok} {n : Nat} (hx : Stop x) (h : one (c :: r) = .ok (t, n)) : one (c :: (r ++ x)) = .ok (t, n) := by
  rw [one] at h ⊢
  split at h
  · rename_i hl
    rw [if_pos hl, ← List.cons_append, word_app hx, h]
  · rename_i hl
    rw [if_neg hl]
    split at h
    · rename_i hd
      rw [if_pos hd, ← List.cons_append, number_app hx, h]
    · rename_i hd
      rw [if_neg hd]
      split at h
      · rename_i hq
        rw [if_pos hq]
        rw [text] at h ⊢
        simp only [List.drop_succ_cons, List.drop_zero] at h ⊢
        cases ht : txt r with
        | none => rw [ht] at h; cases h
        | some y => obtain ⟨b, m⟩ := y; rw [ht] at h; rw [txt_app hx _ _ _ ht, h]
      · rename_i hq
        rw [if_neg hq, sign_app hx, h]

theorem toks_app {x : Bs} (hx : Stop x) {t : List Tok} (ht : toks x = .ok t) : ∀ (n : Nat) (l : Bs) (s : List Tok), l.length ≤ n → toks l = .ok s → toks (l ++ x) = .ok (s ++ t)
  | n, [], s, _, h => by
    rw [toks_nil] at h
    cases h
    exact ht
  | 0, c :: r, s, hn, h => by simp at hn
  | n + 1, c :: r, s, hn, h => by
    by_cases hb : isB c = true
    · rw [toks_blank hb] at h
      rw [List.cons_append, toks_blank hb]
      exact toks_app hx ht n r s (by simpa using hn) h
    · have hb : isB c = false := by simpa using hb
      cases ho : one (c :: r) with
      | error e => rw [toks_err hb ho] at h; cases h
      | ok y =>
        obtain ⟨tk, m⟩ := y
        rw [toks_tok hb ho] at h
        have hlen := one_len ho
        have ho' := one_app hx ho
        rw [List.cons_append, toks_tok hb ho', List.drop_append_of_le_length (by omega)]
        cases hr : toks (r.drop (m - 1)) with
        | error e => rw [hr] at h; cases h
        | ok s' =>
          rw [hr] at h
          cases h
          rw [toks_app hx ht n _ s' (by simp at hn ⊢; omega) hr]
          rfl
end Go.Lx
namespace Go.Lx
open Go.Lib

/-- A number's digits. -/
def digs (n : Nat) : Bs := if h : n ≤ 9 then [UInt8.ofNat (48 + n)] else digs (n / 10) ++ [UInt8.ofNat (48 + n % 10)]
  termination_by n
  decreasing_by omega
theorem digs_one {n : Nat} (h : n ≤ 9) : digs n = [UInt8.ofNat (48 + n)] := by rw [digs, dif_pos h]
theorem digs_more {n : Nat} (h : ¬ n ≤ 9) : digs n = digs (n / 10) ++ [UInt8.ofNat (48 + n % 10)] := by rw [digs, dif_neg h]

theorem digit_nat {k : Nat} (h : k ≤ 9) : (UInt8.ofNat (48 + k)).toNat = 48 + k := by
  simp [UInt8.toNat_ofNat']; omega
theorem digit_D {k : Nat} (h : k ≤ 9) : isD (UInt8.ofNat (48 + k)) = true := by
  rw [isD, digit_nat h]; simp; omega
theorem digit_dig {k : Nat} (h : k ≤ 9) : dig (UInt8.ofNat (48 + k)) = k := by rw [dig, digit_nat h]; omega

theorem digs_len (n : Nat) : 1 ≤ (digs n).length := by
  by_cases h : n ≤ 9
  · rw [digs_one h]; simp
  · rw [digs_more h]; simp
theorem digs_le : ∀ (k n : Nat), n < 10 ^ (k + 1) → (digs n).length ≤ k + 1
  | 0, n, h => by rw [digs_one (by simp at h; omega)]; simp
  | k + 1, n, h => by
    by_cases h9 : n ≤ 9
    · rw [digs_one h9]; simp
    · rw [digs_more h9]
      have : n / 10 < 10 ^ (k + 1) := by rw [Nat.pow_succ] at h; omega
      have := digs_le k (n / 10) this
      simp; omega
theorem digs_D (n : Nat) : ∀ c ∈ digs n, isD c = true := by
  induction n using Nat.strongRecOn with
  | _ n ih =>
    by_cases h : n ≤ 9
    · rw [digs_one h]; simp only [List.mem_singleton, forall_eq]; exact digit_D h
    · rw [digs_more h]
      simp only [List.mem_append, List.mem_singleton]
      rintro c (hc | rfl)
      · exact ih (n / 10) (by omega) c hc
      · exact digit_D (by omega)
theorem valA_append (a b : Bs) (n : Nat) : valA n (a ++ b) = valA (valA n a) b := by simp [valA, List.foldl_append]
theorem valA_one (n : Nat) (c : UInt8) : valA n [c] = n * 10 + dig c := rfl
theorem val_digs (n : Nat) : val (digs n) = n := by
  induction n using Nat.strongRecOn with
  | _ n ih =>
    by_cases h : n ≤ 9
    · rw [digs_one h, val, valA_one, digit_dig h]; omega
    · have := ih (n / 10) (by omega)
      rw [val] at this ⊢
      rw [digs_more h, valA_append, this, valA_one, digit_dig (by omega)]; omega
theorem valA_lt : ∀ (l : Bs) (n : Nat), (∀ c ∈ l, isD c = true) → valA n l < (n + 1) * 10 ^ l.length
  | [], n, _ => by simp [valA]
  | c :: r, n, h => by
    have hc : dig c ≤ 9 := by
      have := h c (by simp)
      simp [isD] at this
      unfold dig; omega
    have := valA_lt r (n * 10 + dig c) (fun x hx => h x (by simp [hx]))
    have e : valA n (c :: r) = valA (n * 10 + dig c) r := rfl
    rw [e, List.length_cons, Nat.pow_succ, Nat.mul_comm (10 ^ r.length), ← Nat.mul_assoc]
    refine Nat.lt_of_lt_of_le this (Nat.mul_le_mul_right _ (by omega))
theorem val_lt (l : Bs) (h : ∀ c ∈ l, isD c = true) : val l < 10 ^ l.length := by
  have := valA_lt l 0 h
  simpa [val] using this
theorem val_zeros (k : Nat) (l : Bs) : val (List.replicate k 48 ++ l) = val l := by
  induction k with
  | zero => rfl
  | succ k ih => rw [List.replicate_succ, List.cons_append]; exact ih

theorem run_all {p : UInt8 → Bool} : ∀ {l : Bs}, (∀ c ∈ l, p c = true) → run p l = l.length
  | [], _ => rfl
  | c :: r, h => by rw [run_cons, if_pos (h c (by simp)), run_all (fun x hx => h x (by simp [hx]))]; rfl
theorem run_some {p : UInt8 → Bool} : ∀ {l : Bs} {c : UInt8} {r : Bs}, (∀ c ∈ l, p c = true) → p c = false → run p (l ++ c :: r) = l.length
  | [], c, r, _, hc => by rw [List.nil_append, run_cons, hc]; rfl
  | d :: l, c, r, h, hc => by rw [List.cons_append, run_cons, if_pos (h d (by simp)), run_some (fun x hx => h x (by simp [hx])) hc]; rfl

/-- A token as it is written. -/
def dbl : Bs → Bs
  | [] => []
  | c :: r => if c.toNat = 39 then c :: 39 :: dbl r else c :: dbl r
def padz (l : Bs) (k : Nat) : Bs := List.replicate (k + 1 - l.length) 48 ++ l
def wordOf (t : Tok) : Bs :=
  if t.kind = 2 then digs t.num.toNat
  else if t.kind = 3 then (padz (digs t.num.toNat) t.scale.toNat).take ((padz (digs t.num.toNat) t.scale.toNat).length - t.scale.toNat) ++ 46 :: (padz (digs t.num.toNat) t.scale.toNat).drop ((padz (digs t.num.toNat) t.scale.toNat).length - t.scale.toNat)
  else if t.kind = 4 then 39 :: (dbl t.text ++ [39])
  else t.text

/-- What a token can be. -/
inductive OkT : Tok → Prop
  | word (c : UInt8) (r : Bs) (h : isL c = true) (hw : ∀ x ∈ c :: r, isW x = true) (hl : ∀ x ∈ c :: r, lowerB x = x) (hn : r.length < 32) : OkT ⟨1, c :: r, 0, 0⟩
  | int (n : Nat) (h : n ≤ 9223372036854775807) : OkT ⟨2, [], n, 0⟩
  | real (n k : Nat) (hk : 1 ≤ k) (hk' : k ≤ 14) (h : n < 1000000000000000) : OkT ⟨3, [], n, k⟩
  | text (b : Bs) (h : b.length ≤ 200) : OkT ⟨4, b, 0, 0⟩
  | sign1 (c : UInt8) (h : c ∈ ones) : OkT ⟨5, [c], 0, 0⟩
  | sign2 (c d : UInt8) (h : two c d = true) : OkT ⟨5, [c, d], 0, 0⟩

theorem lower_low (c : UInt8) : lowerB (lowerB c) = lowerB c := by
  unfold lowerB isUpperB
  simp only [Bool.and_eq_true, decide_eq_true_eq, UInt8.le_iff_toNat_le]
  split
  · rename_i h
    have h1 : (65 : UInt8).toNat = 65 := rfl
    have h2 : (90 : UInt8).toNat = 90 := rfl
    have h3 : (32 : UInt8).toNat = 32 := rfl
    rw [if_neg]
    rw [UInt8.toNat_add, h3]
    omega
  · rfl

theorem lower_nat (c : UInt8) : (lowerB c).toNat = if 65 ≤ c.toNat ∧ c.toNat ≤ 90 then c.toNat + 32 else c.toNat := by
  unfold lowerB isUpperB
  have h1 : (65 : UInt8).toNat = 65 := rfl
  have h2 : (90 : UInt8).toNat = 90 := rfl
  have h3 : (32 : UInt8).toNat = 32 := rfl
  simp only [Bool.and_eq_true, decide_eq_true_eq, UInt8.le_iff_toNat_le, h1, h2]
  split
  · rw [UInt8.toNat_add, h3]; omega
  · rfl
theorem lower_L (c : UInt8) : isL (lowerB c) = isL c := by
  simp only [isL, lower_nat]
  split
  · rename_i h
    rw [Bool.eq_iff_iff]; simp; omega
  · rfl
theorem lower_D (c : UInt8) : isD (lowerB c) = isD c := by
  simp only [isD, lower_nat]
  split
  · rename_i h
    rw [Bool.eq_iff_iff]; simp; omega
  · rfl
theorem lower_W (c : UInt8) : isW (lowerB c) = isW c := by simp [isW, lower_L, lower_D]

theorem mem_take_run {p : UInt8 → Bool} {l : Bs} : ∀ c ∈ l.take (run p l), p c = true := by
  rw [take_run]
  induction l with
  | nil => simp
  | cons d r ih =>
    rw [List.takeWhile_cons]
    split
    · rename_i h; intro c hc; simp only [List.mem_cons] at hc
      rcases hc with rfl | hc
      · exact h
      · exact ih c hc
    · simp

theorem one_ok {c : UInt8} {r : Bs} {t : Tok} {n : Nat} (h : one (c :: r) = .ok (t, n)) : OkT t := by
  rw [one] at h
  split at h
  · rename_i hl
    rw [word] at h
    split at h
    · cases h
    · rename_i hn
      simp only [Except.ok.injEq, Prod.mk.injEq] at h
      obtain ⟨rfl, rfl⟩ := h
      have hm := mem_take_run (p := isW) (l := c :: r)
      have hlen : ((c :: r).take (run isW (c :: r))).length = run isW (c :: r) := by rw [List.length_take]; have := run_le isW (c :: r); omega
      rw [run_cons, if_pos (by simp [isW, hl])] at hm hlen hn ⊢
      rw [List.take_succ_cons] at hm hlen ⊢
      rw [List.map_cons]
      refine .word _ _ (by rw [lower_L]; exact hl) ?_ ?_ ?_
      · rw [← List.map_cons]
        intro x hx
        obtain ⟨y, hy, rfl⟩ := List.mem_map.1 hx
        rw [lower_W]; exact hm y hy
      · rw [← List.map_cons]
        intro x hx
        obtain ⟨y, hy, rfl⟩ := List.mem_map.1 hx
        exact lower_low y
      · simp at hlen ⊢; omega
  · split at h
    · rename_i hd
      have h1 : 1 ≤ run isD (c :: r) := by rw [run_cons, if_pos hd]; omega
      rw [number] at h
      split at h
      · split at h
        · cases h
        · rename_i hg
          simp only [Except.ok.injEq, Prod.mk.injEq] at h
          obtain ⟨rfl, -⟩ := h
          exact .int _ (by omega)
      · rename_i h0
        split at h
        · cases h
        · rename_i hg
          simp only [Except.ok.injEq, Prod.mk.injEq] at h
          obtain ⟨rfl, -⟩ := h
          refine .real _ _ (by omega) (by omega) ?_
          have hrl := run_le isD (c :: r)
          have hv := val_lt ((c :: r).take (run isD (c :: r)) ++ ((c :: r).drop (run isD (c :: r) + 1)).take (part ((c :: r).drop (run isD (c :: r))))) (fun x hx => by
            simp only [List.mem_append] at hx
            rcases hx with hx | hx
            · exact mem_take_run x hx
            · generalize run isD (c :: r) = q at *
              have e : (c :: r).drop (q + 1) = ((c :: r).drop q).drop 1 := by rw [List.drop_drop]
              rw [e] at hx
              generalize (c :: r).drop q = l at *
              cases l with
              | nil => simp [part] at h0
              | cons a l =>
                rw [part_cons] at hx h0
                split at hx
                · exact mem_take_run x hx
                · simp at hx)
          refine Nat.lt_of_lt_of_le hv ?_
          have : (10 : Nat) ^ 15 = 1000000000000000 := by decide
          rw [← this]
          refine Nat.pow_le_pow_right (by omega) ?_
          rw [List.length_append, List.length_take, List.length_take]
          omega
    · split at h
      · rw [text] at h
        split at h
        · cases h
        · split at h
          · cases h
          · rename_i hb
            simp only [Except.ok.injEq, Prod.mk.injEq] at h
            obtain ⟨rfl, -⟩ := h
            exact .text _ (by omega)
      · cases r with
        | nil => rw [sign] at h; split at h
                 · rename_i hm; simp only [Except.ok.injEq, Prod.mk.injEq] at h; obtain ⟨rfl, -⟩ := h; exact .sign1 _ hm
                 · cases h
        | cons d r =>
          rw [sign] at h
          split at h
          · rename_i hm; simp only [Except.ok.injEq, Prod.mk.injEq] at h; obtain ⟨rfl, -⟩ := h; exact .sign2 _ _ hm
          · split at h
            · rename_i hm; simp only [Except.ok.injEq, Prod.mk.injEq] at h; obtain ⟨rfl, -⟩ := h; exact .sign1 _ hm
            · cases h

theorem txt_dbl : ∀ (b : Bs), txt (dbl b ++ [39]) = some (b, (dbl b).length + 1)
  | [] => by rw [dbl, List.nil_append, txt_end (by rfl) (fun d r' e => by cases e)]; rfl
  | c :: r => by
    rw [dbl]
    have ih := txt_dbl r
    split
    · rename_i h
      rw [List.cons_append, List.cons_append, txt_two h rfl, ih]
      have : c = 39 := UInt8.toNat_inj.1 h
      simp [this]
    · rename_i h
      rw [List.cons_append, txt_other h, ih]; simp

theorem isD_notL {c : UInt8} (h : isD c = true) : isL c = false := by
  simp [isD] at h
  simp [isL]; omega
theorem isD_notB {c : UInt8} (h : isD c = true) : isB c = false := by
  simp [isD] at h
  simp [isB]; omega
theorem isL_notB {c : UInt8} (h : isL c = true) : isB c = false := by
  cases hb : isB c with
  | false => rfl
  | true => rw [isB_L hb] at h; cases h

/-- A token that is written is that token again. -/
theorem ok_one {t : Tok} (h : OkT t) : ∃ c r, wordOf t = c :: r ∧ isB c = false ∧ one (c :: r) = .ok (t, r.length + 1) := by
  cases h with
  | word c r h hw hl hn =>
    refine ⟨c, r, by simp [wordOf], isL_notB h, ?_⟩
    have hr := run_all hw
    rw [one, if_pos h, word, hr, if_neg (by simp; omega), List.take_length]
    congr 4
    exact (List.map_congr_left hl).trans (List.map_id _)
  | int n h =>
    have hne := digs_len n
    have hD := digs_D n
    have hv := val_digs n
    have hle := digs_le 18 n (by simp; omega)
    have e : wordOf ⟨2, [], n, 0⟩ = digs n := by simp [wordOf]
    rw [e]
    generalize digs n = l at *
    cases l with
    | nil => simp at hne
    | cons c r =>
      have hc := hD c (by simp)
      refine ⟨c, r, rfl, isD_notB hc, ?_⟩
      have hr := run_all hD
      rw [one, if_neg (by simp [isD_notL hc]), if_pos hc, number, hr, List.drop_length, List.take_length, if_pos (by rfl), hv, if_neg (by simp at hle ⊢; omega)]
      simp
  | real n k hk hk' h =>
    have hD := digs_D n
    have hv := val_digs n
    have hle := digs_le 14 n (by simp; omega)
    have hpl : (padz (digs n) k).length ≤ 15 ∧ k + 1 ≤ (padz (digs n) k).length := by simp [padz]; omega
    have hpD : ∀ c ∈ padz (digs n) k, isD c = true := by
      intro c hc
      simp only [padz, List.mem_append, List.mem_replicate] at hc
      rcases hc with ⟨_, rfl⟩ | hc
      · rfl
      · exact hD c hc
    have hpv : val (padz (digs n) k) = n := by rw [padz, val_zeros, hv]
    have e : wordOf ⟨3, [], n, k⟩ = (padz (digs n) k).take ((padz (digs n) k).length - k) ++ 46 :: (padz (digs n) k).drop ((padz (digs n) k).length - k) := by simp [wordOf]
    rw [e]
    generalize padz (digs n) k = l at *
    have ha : ∀ c ∈ l.take (l.length - k), isD c = true := fun c hc => hpD c (List.mem_of_mem_take hc)
    have hb : ∀ c ∈ l.drop (l.length - k), isD c = true := fun c hc => hpD c (List.mem_of_mem_drop hc)
    have la : (l.take (l.length - k)).length = l.length - k := by rw [List.length_take]; omega
    have lb : (l.drop (l.length - k)).length = k := by rw [List.length_drop]; omega
    have lj : l.take (l.length - k) ++ l.drop (l.length - k) = l := List.take_append_drop _ _
    generalize hw : l.length - k = w at *
    generalize l.take w = a at *
    generalize l.drop w = b at *
    cases a with
    | nil => simp at la; omega
    | cons c r =>
      have hc := ha c (by simp)
      refine ⟨c, r ++ 46 :: b, rfl, isD_notB hc, ?_⟩
      have hr : run isD (c :: (r ++ 46 :: b)) = w := by rw [← List.cons_append, run_some ha (by rfl), la]
      have hdrop : (c :: (r ++ 46 :: b)).drop w = 46 :: b := by rw [← List.cons_append, ← la, List.drop_left]
      have hdrop1 : (c :: (r ++ 46 :: b)).drop (w + 1) = b := by
        have : (c :: (r ++ 46 :: b)).drop (w + 1) = ((c :: (r ++ 46 :: b)).drop w).drop 1 := by rw [List.drop_drop]
        rw [this, hdrop]; rfl
      have htake : (c :: (r ++ 46 :: b)).take w = c :: r := by rw [← List.cons_append, ← la, List.take_left]
      have hpart : part (46 :: b) = k := by rw [part_cons, if_pos (by rfl), run_all hb, lb]
      rw [one, if_neg (by simp [isD_notL hc]), if_pos hc, number, hr, hdrop, hpart, if_neg (by omega), if_neg (by omega), htake, hdrop1]
      have : b.take k = b := by rw [← lb, List.take_length]
      rw [this, lj, hpv]
      simp at la ⊢
      omega
  | text b h =>
    refine ⟨39, dbl b ++ [39], by simp [wordOf], by rfl, ?_⟩
    rw [one, if_neg (by decide), if_neg (by decide), if_pos (by rfl), text, List.drop_succ_cons, List.drop_zero, txt_dbl]
    simp only
    rw [if_neg (by omega)]
    simp
  | sign1 c h =>
    refine ⟨c, [], by simp [wordOf], ?_, ?_⟩
    · simp [ones] at h
      rcases h with rfl | rfl | rfl | rfl | rfl | rfl | rfl | rfl | rfl | rfl | rfl | rfl <;> rfl
    · have : isL c = false ∧ isD c = false ∧ ¬ c.toNat = 39 := by
        simp only [ones, List.mem_cons, List.mem_nil_iff, or_false] at h
        rcases h with rfl | rfl | rfl | rfl | rfl | rfl | rfl | rfl | rfl | rfl | rfl | rfl <;> decide
      rw [one, if_neg (by simp [this.1]), if_neg (by simp [this.2.1]), if_neg this.2.2, sign, if_pos h]; rfl
  | sign2 c d h =>
    have h' : (c.toNat = 60 ∨ c.toNat = 62 ∨ c.toNat = 124) := by
      simp [two] at h; omega
    refine ⟨c, [d], by simp [wordOf], by simp [isB]; omega, ?_⟩
    rw [one, if_neg (by simp [isL]; omega), if_neg (by simp [isD]; omega), if_neg (by omega), sign, if_pos h]; rfl

theorem toks_ok : ∀ (n : Nat) (l : Bs) (s : List Tok), l.length ≤ n → toks l = .ok s → ∀ t ∈ s, OkT t
  | n, [], s, _, h => by rw [toks_nil] at h; cases h; simp
  | 0, c :: r, s, hn, h => by simp at hn
  | n + 1, c :: r, s, hn, h => by
    by_cases hb : isB c = true
    · rw [toks_blank hb] at h
      exact toks_ok n r s (by simpa using hn) h
    · have hb : isB c = false := by simpa using hb
      cases ho : one (c :: r) with
      | error e => rw [toks_err hb ho] at h; cases h
      | ok y =>
        obtain ⟨tk, m⟩ := y
        rw [toks_tok hb ho] at h
        have hlen := one_len ho
        cases hr : toks (r.drop (m - 1)) with
        | error e => rw [hr] at h; cases h
        | ok s' =>
          rw [hr] at h
          cases h
          intro t ht
          simp only [List.mem_cons] at ht
          rcases ht with rfl | ht
          · exact one_ok ho
          · exact toks_ok n _ s' (by simp at hn ⊢; omega) hr t ht

/-- The tokens, each behind a blank. -/
def spread (z : UInt8) (s : List Tok) : Bs := s.flatMap fun t => z :: wordOf t

theorem toks_spread {z : UInt8} (hz : isB z = true) : ∀ (s : List Tok), (∀ t ∈ s, OkT t) → toks (spread z s) = .ok s
  | [], _ => toks_nil
  | t :: s, h => by
    obtain ⟨c, r, e, hb, ho⟩ := ok_one (h t (by simp))
    have ih := toks_spread hz s fun x hx => h x (by simp [hx])
    have hx : Stop (spread z s) := by
      intro y w e
      cases s with
      | nil => simp [spread] at e
      | cons t' s' => simp only [spread, List.flatMap_cons, List.cons_append, List.cons.injEq] at e; exact e.1 ▸ hz
    have es : spread z (t :: s) = z :: (c :: (r ++ spread z s)) := by
      simp only [spread, List.flatMap_cons, e, List.cons_append]
    rw [es, toks_blank hz, toks_tok hb (one_app hx ho)]
    simp only [Nat.add_sub_cancel, List.drop_left, ih]

theorem wordOf_len {t : Tok} (h : OkT t) : (wordOf t).length ≤ 1000 := by
  cases h with
  | word c r h hw hl hn => simp [wordOf]; omega
  | int n h =>
    have hle := digs_le 18 n (by simp; omega)
    simp [wordOf]; omega
  | real n k hk hk' h =>
    have hle := digs_le 14 n (by simp; omega)
    simp [wordOf, padz]; omega
  | text b h =>
    have : ∀ b : Bs, (dbl b).length ≤ 2 * b.length := by
      intro b
      induction b with
      | nil => simp [dbl]
      | cons c r ih => rw [dbl]; split <;> simp <;> omega
    have := this b
    simp [wordOf]; omega
  | sign1 c h => simp [wordOf]
  | sign2 c d h => simp [wordOf]
end Go.Lx
