/- What the lexer computes, in plain Lean: no program in sight. Conditions: none; definitions and lemmas. -/
import Derived.Lib.Case
namespace Go.Lx
open Go.Lib
abbrev Bs := List UInt8

def isD (c : UInt8) : Bool := decide (48 ≤ c.toNat) && decide (c.toNat ≤ 57)
def isL (c : UInt8) : Bool := (decide (97 ≤ c.toNat) && decide (c.toNat ≤ 122)) || (decide (65 ≤ c.toNat) && decide (c.toNat ≤ 90)) || decide (c.toNat = 95)
def isW (c : UInt8) : Bool := isL c || isD c
def isB (c : UInt8) : Bool := decide (c.toNat = 32) || decide (c.toNat = 9) || decide (c.toNat = 10) || decide (c.toNat = 13)

structure Tok where
  kind : Int
  text : Bs
  num : Int
  scale : Int
  deriving DecidableEq

/-- How many stand at the beginning. -/
def run (p : UInt8 → Bool) (l : Bs) : Nat := (l.takeWhile p).length

/-- The number that digits are. -/
def dig (c : UInt8) : Nat := c.toNat - 48
def valA (n : Nat) (l : Bs) : Nat := l.foldl (fun n c => n * 10 + dig c) n
def val (l : Bs) : Nat := valA 0 l

abbrev Res := Except Int (Tok × Nat)

def word (l : Bs) : Res :=
  if 32 < run isW l then .error 122 else .ok (⟨1, (l.take (run isW l)).map lowerB, 0, 0⟩, run isW l)

def part : Bs → Nat
  | [] => 0
  | c :: r => if c.toNat = 46 then run isD r else 0

def number (l : Bs) : Res :=
  if part (l.drop (run isD l)) = 0 then
    if 19 < run isD l ∨ 9223372036854775807 < val (l.take (run isD l)) then .error 11 else .ok (⟨2, [], val (l.take (run isD l)), 0⟩, run isD l)
  else if 15 < run isD l + part (l.drop (run isD l)) then .error 11
  else .ok (⟨3, [], val (l.take (run isD l) ++ (l.drop (run isD l + 1)).take (part (l.drop (run isD l)))), part (l.drop (run isD l))⟩, run isD l + 1 + part (l.drop (run isD l)))

/-- A text behind its first quote: what it is, and how many bytes. -/
def txt : Bs → Option (Bs × Nat)
  | [] => none
  | c :: r => if c.toNat = 39 then
      match r with
      | [] => some ([], 1)
      | d :: r' => if d.toNat = 39 then (txt r').map fun x => (39 :: x.1, x.2 + 2) else some ([], 1)
    else (txt r).map fun x => (c :: x.1, x.2 + 1)

def text (l : Bs) : Res :=
  match txt (l.drop 1) with
  | none => .error 121
  | some (b, n) => if 200 < b.length then .error 1 else .ok (⟨4, b, 0, 0⟩, n + 1)

/-- Signs of two bytes; of one. -/
def two (c d : UInt8) : Bool := (decide (c.toNat = 60) && decide (d.toNat = 62)) || (decide (c.toNat = 60) && decide (d.toNat = 61)) || (decide (c.toNat = 62) && decide (d.toNat = 61)) || (decide (c.toNat = 124) && decide (d.toNat = 124))
def ones : Bs := [40, 41, 44, 46, 42, 43, 45, 47, 37, 61, 60, 62]
def sign : Bs → Res
  | [] => .error 120
  | [c] => if c ∈ ones then .ok (⟨5, [c], 0, 0⟩, 1) else .error 120
  | c :: d :: _ => if two c d then .ok (⟨5, [c, d], 0, 0⟩, 2) else if c ∈ ones then .ok (⟨5, [c], 0, 0⟩, 1) else .error 120

def one : Bs → Res
  | [] => .error 120
  | c :: r => if isL c then word (c :: r) else if isD c then number (c :: r) else if c.toNat = 39 then text (c :: r) else sign (c :: r)

def toks : Bs → Except Int (List Tok)
  | [] => .ok []
  | c :: r => if isB c then toks r else
    match one (c :: r) with
    | .error e => .error e
    | .ok (t, n) => match toks (r.drop (n - 1)) with
      | .error e => .error e
      | .ok ts => .ok (t :: ts)
  termination_by l => l.length
  decreasing_by
    · simp
    · simp; omega

def tokens (l : Bs) : Except Int (List Tok) := if 4000 < l.length then .error 1 else toks l

theorem toks_nil : toks [] = .ok [] := by rw [toks]
theorem toks_blank {c : UInt8} {r : Bs} (h : isB c = true) : toks (c :: r) = toks r := by rw [toks, if_pos h]
theorem toks_err {c : UInt8} {r : Bs} {e : Int} (h : isB c = false) (ho : one (c :: r) = .error e) : toks (c :: r) = .error e := by
  rw [toks, if_neg (by simp [h]), ho]
theorem toks_tok {c : UInt8} {r : Bs} {t : Tok} {n : Nat} (h : isB c = false) (ho : one (c :: r) = .ok (t, n)) :
    toks (c :: r) = match toks (r.drop (n - 1)) with
      | .error e => .error e
      | .ok ts => .ok (t :: ts) := by
  rw [toks, if_neg (by simp [h]), ho]
theorem toks_drop : ∀ (l : Bs), toks (l.dropWhile isB) = toks l
  | [] => rfl
  | c :: r => by
    by_cases h : isB c = true
    · rw [List.dropWhile_cons, if_pos h, toks_drop r, toks_blank h]
    · rw [List.dropWhile_cons, if_neg h]

theorem run_le (p : UInt8 → Bool) (l : Bs) : run p l ≤ l.length := by
  unfold run
  exact (List.takeWhile_sublist p).length_le
theorem run_cons (p : UInt8 → Bool) (c : UInt8) (r : Bs) : run p (c :: r) = if p c then run p r + 1 else 0 := by
  unfold run
  rw [List.takeWhile_cons]
  split <;> simp
theorem take_run (p : UInt8 → Bool) (l : Bs) : l.take (run p l) = l.takeWhile p := by
  induction l with
  | nil => rfl
  | cons c r ih => rw [run_cons, List.takeWhile_cons]; split <;> simp_all

theorem txt_nil : txt [] = none := by rw [txt]
theorem txt_other {c : UInt8} {r : Bs} (h : ¬ c.toNat = 39) : txt (c :: r) = (txt r).map fun x => (c :: x.1, x.2 + 1) := by
  cases r with
  | nil => simp [txt, h]
  | cons d r => rw [txt, if_neg h]
theorem txt_end {c : UInt8} {r : Bs} (h : c.toNat = 39) (h2 : ∀ d r', r = d :: r' → ¬ d.toNat = 39) : txt (c :: r) = some ([], 1) := by
  cases r with
  | nil => rw [txt, if_pos h]
  | cons d r => rw [txt, if_pos h, if_neg (h2 d r rfl)]
theorem txt_two {c d : UInt8} {r : Bs} (h : c.toNat = 39) (h2 : d.toNat = 39) : txt (c :: d :: r) = (txt r).map fun x => (39 :: x.1, x.2 + 2) := by
  rw [txt, if_pos h, if_pos h2]

/-- By the bytes of a text. -/
theorem txt_ind {M : Bs → Prop} (h0 : M []) (h1 : ∀ c r, ¬ c.toNat = 39 → M r → M (c :: r)) (h2 : ∀ c r, c.toNat = 39 → (∀ d r', r = d :: r' → ¬ d.toNat = 39) → M (c :: r))
    (h3 : ∀ c d r, c.toNat = 39 → d.toNat = 39 → M r → M (c :: d :: r)) : ∀ l, M l
  | [] => h0
  | [c] => by
    by_cases hc : c.toNat = 39
    · exact h2 c [] hc (fun d r' e => by cases e)
    · exact h1 c [] hc h0
  | c :: d :: r => by
    by_cases hc : c.toNat = 39
    · by_cases hd : d.toNat = 39
      · exact h3 c d r hc hd (txt_ind h0 h1 h2 h3 r)
      · exact h2 c (d :: r) hc (fun d' r' e => by cases e; exact hd)
    · exact h1 c (d :: r) hc (txt_ind h0 h1 h2 h3 (d :: r))

theorem txt_le : ∀ (l : Bs) (b : Bs) (n : Nat), txt l = some (b, n) → n ≤ l.length ∧ 1 ≤ n ∧ b.length < n := by
  refine txt_ind ?_ ?_ ?_ ?_
  · intro b n h; rw [txt_nil] at h; cases h
  · intro c r hc ih b n h
    rw [txt_other hc] at h
    simp only [Option.map_eq_some_iff, Prod.mk.injEq] at h
    obtain ⟨⟨b', n'⟩, h, rfl, rfl⟩ := h
    have := ih b' n' h
    simp; omega
  · intro c r hc h2 b n h
    rw [txt_end hc h2] at h
    simp only [Option.some.injEq, Prod.mk.injEq] at h
    obtain ⟨rfl, rfl⟩ := h
    simp
  · intro c d r hc hd ih b n h
    rw [txt_two hc hd] at h
    simp only [Option.map_eq_some_iff, Prod.mk.injEq] at h
    obtain ⟨⟨b', n'⟩, h, rfl, rfl⟩ := h
    have := ih b' n' h
    simp; omega

theorem part_le (l : Bs) : part l ≤ l.length - 1 := by
  cases l with
  | nil => simp [part]
  | cons c r => rw [part]; split
                · have := run_le isD r; simpa using this
                · simp

/-- A token has a byte, and no more than there are. -/
theorem one_len {c : UInt8} {r : Bs} {t : Tok} {n : Nat} (h : one (c :: r) = .ok (t, n)) : 1 ≤ n ∧ n ≤ r.length + 1 := by
  rw [one] at h
  split at h
  · rename_i hl
    rw [word] at h
    split at h
    · cases h
    · simp only [Except.ok.injEq, Prod.mk.injEq] at h
      obtain ⟨-, rfl⟩ := h
      refine ⟨?_, run_le _ _⟩
      rw [run_cons, if_pos (by simp [isW, hl])]; omega
  · split at h
    · rename_i hd
      have h1 : 1 ≤ run isD (c :: r) := by rw [run_cons, if_pos hd]; omega
      have h2 := run_le isD (c :: r)
      have h3 := part_le ((c :: r).drop (run isD (c :: r)))
      simp only [List.length_drop, List.length_cons] at h2 h3
      rw [number] at h
      split at h
      · split at h
        · cases h
        · simp only [Except.ok.injEq, Prod.mk.injEq] at h
          omega
      · split at h
        · cases h
        · simp only [Except.ok.injEq, Prod.mk.injEq] at h
          omega
    · split at h
      · rw [text] at h
        split at h
        · cases h
        · rename_i b m hb
          have := txt_le _ _ _ hb
          split at h
          · cases h
          · simp only [Except.ok.injEq, Prod.mk.injEq] at h
            simp at this; omega
      · cases r with
        | nil => rw [sign] at h; split at h
                 · simp only [Except.ok.injEq, Prod.mk.injEq] at h; simp; omega
                 · cases h
        | cons d r =>
          rw [sign] at h
          split at h
          · simp only [Except.ok.injEq, Prod.mk.injEq] at h; simp; omega
          · split at h
            · simp only [Except.ok.injEq, Prod.mk.injEq] at h; simp; omega
            · cases h
end Go.Lx
