/- The lexer: its plain law, its walks. Conditions: none but the lengths; definitions and lemmas. -/
import Derived.Lib.Case
import Derived.Shelf.Strings.OnBuilder
import Derived.Shelf.Strings.Search1
import Derived.Shelf.Strings.Count
import Derived.Shelf.Small.Strs
import Derived.Test.YtcogkenmdbaiiaaGreatDoorProg
import Derived.Test.YtcogkenmdbaiiaaGreatDoorMF
import Derived.Test.YtcogkenmdbaiiaaGreatDoorA32
import Derived.KernelRfl
import Derived.Test.YtcogkenmdbaiiaaGreatDoorA33
import Derived.Test.YtcogkenmdbaiiaaGreatDoorA31
namespace Go.Lx
open Go.Lib
abbrev Bs := List UInt8

def isD (c : UInt8) : Bool := decide (48 ≤ c.toNat) && decide (c.toNat ≤ 57)
def isL (c : UInt8) : Bool := (decide (97 ≤ c.toNat) && decide (c.toNat ≤ 122)) || (decide (65 ≤ c.toNat) && decide (c.toNat ≤ 90)) || decide (c.toNat = 95)
def isW (c : UInt8) : Bool := isL c || isD c
def isB (c : UInt8) : Bool := decide (c.toNat = 32) || decide (c.toNat = 9) || decide (c.toNat = 10) || decide (c.toNat = 13)

structure Tok where
  kind : Int
  text : Bs
  num : Int
  scale : Int
  deriving DecidableEq

/-- How many stand at the beginning. -/
def run (p : UInt8 → Bool) (l : Bs) : Nat := (l.takeWhile p).length

/-- The number that digits are. -/
def dig (c : UInt8) : Nat := c.toNat - 48
def valA (n : Nat) (l : Bs) : Nat := l.foldl (fun n c => n * 10 + dig c) n
def val (l : Bs) : Nat := valA 0 l

abbrev Res := Except Int (Tok × Nat)

def word (l : Bs) : Res :=
  if 32 < run isW l then .error 122 else .ok (⟨1, (l.take (run isW l)).map lowerB, 0, 0⟩, run isW l)

def part : Bs → Nat
  | [] => 0
  | c :: r => if c.toNat = 46 then run isD r else 0

def number (l : Bs) : Res :=
  if part (l.drop (run isD l)) = 0 then
    if 19 < run isD l ∨ 9223372036854775807 < val (l.take (run isD l)) then .error 11 else .ok (⟨2, [], val (l.take (run isD l)), 0⟩, run isD l)
  else if 15 < run isD l + part (l.drop (run isD l)) then .error 11
  else .ok (⟨3, [], val (l.take (run isD l) ++ (l.drop (run isD l + 1)).take (part (l.drop (run isD l)))), part (l.drop (run isD l))⟩, run isD l + 1 + part (l.drop (run isD l)))

/-- A text behind its first quote: what it is, and how many bytes. -/
def txt : Bs → Option (Bs × Nat)
  | [] => none
  | c :: r => if c.toNat = 39 then
      match r with
      | [] => some ([], 1)
      | d :: r' => if d.toNat = 39 then (txt r').map fun x => (39 :: x.1, x.2 + 2) else some ([], 1)
    else (txt r).map fun x => (c :: x.1, x.2 + 1)

def text (l : Bs) : Res :=
  match txt (l.drop 1) with
  | none => .error 121
  | some (b, n) => if 200 < b.length then .error 1 else .ok (⟨4, b, 0, 0⟩, n + 1)

/-- Signs of two bytes; of one. -/
def two (c d : UInt8) : Bool := (decide (c.toNat = 60) && decide (d.toNat = 62)) || (decide (c.toNat = 60) && decide (d.toNat = 61)) || (decide (c.toNat = 62) && decide (d.toNat = 61)) || (decide (c.toNat = 124) && decide (d.toNat = 124))
def ones : Bs := [40, 41, 44, 46, 42, 43, 45, 47, 37, 61, 60, 62]
def sign : Bs → Res
  | [] => .error 120
  | [c] => if c ∈ ones then .ok (⟨5, [c], 0, 0⟩, 1) else .error 120
  | c :: d :: _ => if two c d then .ok (⟨5, [c, d], 0, 0⟩, 2) else if c ∈ ones then .ok (⟨5, [c], 0, 0⟩, 1) else .error 120

def one : Bs → Res
  | [] => .error 120
  | c :: r => if isL c then word (c :: r) else if isD c then number (c :: r) else if c.toNat = 39 then text (c :: r) else sign (c :: r)

def toks : Bs → Except Int (List Tok)
  | [] => .ok []
  | c :: r => if isB c then toks r else
    match one (c :: r) with
    | .error e => .error e
    | .ok (t, n) => match toks (r.drop (n - 1)) with
      | .error e => .error e
      | .ok ts => .ok (t :: ts)
  termination_by l => l.length
  decreasing_by
    · simp
    · simp; omega

def tokens (l : Bs) : Except Int (List Tok) := if 4000 < l.length then .error 1 else toks l

theorem toks_nil : toks [] = .ok [] := by rw [toks]
theorem toks_blank {c : UInt8} {r : Bs} (h : isB c = true) : toks (c :: r) = toks r := by rw [toks, if_pos h]
theorem toks_err {c : UInt8} {r : Bs} {e : Int} (h : isB c = false) (ho : one (c :: r) = .error e) : toks (c :: r) = .error e := by
  rw [toks, if_neg (by simp [h]), ho]
theorem toks_tok {c : UInt8} {r : Bs} {t : Tok} {n : Nat} (h : isB c = false) (ho : one (c :: r) = .ok (t, n)) :
    toks (c :: r) = match toks (r.drop (n - 1)) with
      | .error e => .error e
      | .ok ts => .ok (t :: ts) := by
  rw [toks, if_neg (by simp [h]), ho]
theorem toks_drop : ∀ (l : Bs), toks (l.dropWhile isB) = toks l
  | [] => rfl
  | c :: r => by
    by_cases h : isB c = true
    · rw [List.dropWhile_cons, if_pos h, toks_drop r, toks_blank h]
    · rw [List.dropWhile_cons, if_neg h]

theorem run_le (p : UInt8 → Bool) (l : Bs) : run p l ≤ l.length := by
  unfold run
  exact (List.takeWhile_sublist p).length_le
theorem run_cons (p : UInt8 → Bool) (c : UInt8) (r : Bs) : run p (c :: r) = if p c then run p r + 1 else 0 := by
  unfold run
  rw [List.takeWhile_cons]
  split <;> simp
theorem take_run (p : UInt8 → Bool) (l : Bs) : l.take (run p l) = l.takeWhile p := by
  induction l with
  | nil => rfl
  | cons c r ih => rw [run_cons, List.takeWhile_cons]; split <;> simp_all

theorem txt_nil : txt [] = none := by rw [txt]
theorem txt_other {c : UInt8} {r : Bs} (h : ¬ c.toNat = 39) : txt (c :: r) = (txt r).map fun x => (c :: x.1, x.2 + 1) := by
  cases r with
  | nil => simp [txt, h]
  | cons d r => rw [txt, if_neg h]
theorem txt_end {c : UInt8} {r : Bs} (h : c.toNat = 39) (h2 : ∀ d r', r = d :: r' → ¬ d.toNat = 39) : txt (c :: r) = some ([], 1) := by
  cases r with
  | nil => rw [txt, if_pos h]
  | cons d r => rw [txt, if_pos h, if_neg (h2 d r rfl)]
theorem txt_two {c d : UInt8} {r : Bs} (h : c.toNat = 39) (h2 : d.toNat = 39) : txt (c :: d :: r) = (txt r).map fun x => (39 :: x.1, x.2 + 2) := by
  rw [txt, if_pos h, if_pos h2]

/-- By the bytes of a text. -/
theorem txt_ind {M : Bs → Prop} (h0 : M []) (h1 : ∀ c r, ¬ c.toNat = 39 → M r → M (c :: r)) (h2 : ∀ c r, c.toNat = 39 → (∀ d r', r = d :: r' → ¬ d.toNat = 39) → M (c :: r))
    (h3 : ∀ c d r, c.toNat = 39 → d.toNat = 39 → M r → M (c :: d :: r)) : ∀ l, M l
  | [] => h0
  | [c] => by
    by_cases hc : c.toNat = 39
    · exact h2 c [] hc (fun d r' e => by cases e)
    · exact h1 c [] hc h0
  | c :: d :: r => by
    by_cases hc : c.toNat = 39
    · by_cases hd : d.toNat = 39
      · exact h3 c d r hc hd (txt_ind h0 h1 h2 h3 r)
      · exact h2 c (d :: r) hc (fun d' r' e => by cases e; exact hd)
    · exact h1 c (d :: r) hc (txt_ind h0 h1 h2 h3 (d :: r))

theorem txt_le : ∀ (l : Bs) (b : Bs) (n : Nat), txt l = some (b, n) → n ≤ l.length ∧ 1 ≤ n ∧ b.length < n := by
  refine txt_ind ?_ ?_ ?_ ?_
  · intro b n h; rw [txt_nil] at h; cases h
  · intro c r hc ih b n h
    rw [txt_other hc] at h
    simp only [Option.map_eq_some_iff, Prod.mk.injEq] at h
    obtain ⟨⟨b', n'⟩, h, rfl, rfl⟩ := h
    have := ih b' n' h
    simp; omega
  · intro c r hc h2 b n h
    rw [txt_end hc h2] at h
    simp only [Option.some.injEq, Prod.mk.injEq] at h
    obtain ⟨rfl, rfl⟩ := h
    simp
  · intro c d r hc hd ih b n h
    rw [txt_two hc hd] at h
    simp only [Option.map_eq_some_iff, Prod.mk.injEq] at h
    obtain ⟨⟨b', n'⟩, h, rfl, rfl⟩ := h
    have := ih b' n' h
    simp; omega

theorem part_le (l : Bs) : part l ≤ l.length - 1 := by
  cases l with
  | nil => simp [part]
  | cons c r => rw [part]; split
                · have := run_le isD r; simpa using this
                · simp

/-- A token has a byte, and no more than there are. -/
theorem one_len {c : UInt8} {r : Bs} {t : Tok} {n : Nat} (h : one (c :: r) = .ok (t, n)) : 1 ≤ n ∧ n ≤ r.length + 1 := by
  rw [one] at h
  split at h
  · rename_i hl
    rw [word] at h
    split at h
    · cases h
    · simp only [Except.ok.injEq, Prod.mk.injEq] at h
      obtain ⟨-, rfl⟩ := h
      refine ⟨?_, run_le _ _⟩
      rw [run_cons, if_pos (by simp [isW, hl])]; omega
  · split at h
    · rename_i hd
      have h1 : 1 ≤ run isD (c :: r) := by rw [run_cons, if_pos hd]; omega
      have h2 := run_le isD (c :: r)
      have h3 := part_le ((c :: r).drop (run isD (c :: r)))
      simp only [List.length_drop, List.length_cons] at h2 h3
      rw [number] at h
      split at h
      · split at h
        · cases h
        · simp only [Except.ok.injEq, Prod.mk.injEq] at h
          omega
      · split at h
        · cases h
        · simp only [Except.ok.injEq, Prod.mk.injEq] at h
          omega
    · split at h
      · rw [text] at h
        split at h
        · cases h
        · rename_i b m hb
          have := txt_le _ _ _ hb
          split at h
          · cases h
          · simp only [Except.ok.injEq, Prod.mk.injEq] at h
            simp at this; omega
      · cases r with
        | nil => rw [sign] at h; split at h
                 · simp only [Except.ok.injEq, Prod.mk.injEq] at h; simp; omega
                 · cases h
        | cons d r =>
          rw [sign] at h
          split at h
          · simp only [Except.ok.injEq, Prod.mk.injEq] at h; simp; omega
          · split at h
            · simp only [Except.ok.injEq, Prod.mk.injEq] at h; simp; omega
            · cases h
end Go.Lx
namespace Go.Lx
open Go.Lib

/-- What stands behind: nothing, or a blank first. -/
def Stop (x : Bs) : Prop := ∀ z y, x = z :: y → isB z = true

theorem isB_nat {z : UInt8} (h : isB z = true) : z.toNat = 32 ∨ z.toNat = 9 ∨ z.toNat = 10 ∨ z.toNat = 13 := by
  simpa [isB, or_assoc] using h
theorem isB_L {z : UInt8} (h : isB z = true) : isL z = false := by
  have := isB_nat h
  simp [isL]; omega
theorem part_cons (c : UInt8) (r : Bs) : part (c :: r) = if c.toNat = 46 then run isD r else 0 := by rw [part]
end Go.Lx
namespace Go.Lx
open Go.Lib

/-- A number's digits. -/
def digs (n : Nat) : Bs := if h : n ≤ 9 then [UInt8.ofNat (48 + n)] else digs (n / 10) ++ [UInt8.ofNat (48 + n % 10)]
  termination_by n
  decreasing_by omega
theorem digs_one {n : Nat} (h : n ≤ 9) : digs n = [UInt8.ofNat (48 + n)] := by rw [digs, dif_pos h]
theorem digs_more {n : Nat} (h : ¬ n ≤ 9) : digs n = digs (n / 10) ++ [UInt8.ofNat (48 + n % 10)] := by rw [digs, dif_neg h]

theorem digit_nat {k : Nat} (h : k ≤ 9) : (UInt8.ofNat (48 + k)).toNat = 48 + k := by
  simp [UInt8.toNat_ofNat']; omega
theorem digit_D {k : Nat} (h : k ≤ 9) : isD (UInt8.ofNat (48 + k)) = true := by
  rw [isD, digit_nat h]; simp; omega
theorem digit_dig {k : Nat} (h : k ≤ 9) : dig (UInt8.ofNat (48 + k)) = k := by rw [dig, digit_nat h]; omega

theorem digs_len (n : Nat) : 1 ≤ (digs n).length := by
  by_cases h : n ≤ 9
  · rw [digs_one h]; simp
  · rw [digs_more h]; simp
theorem digs_le : ∀ (k n : Nat), n < 10 ^ (k + 1) → (digs n).length ≤ k + 1
  | 0, n, h => by rw [digs_one (by simp at h; omega)]; simp
  | k + 1, n, h => by
    by_cases h9 : n ≤ 9
    · rw [digs_one h9]; simp
    · rw [digs_more h9]
      have : n / 10 < 10 ^ (k + 1) := by rw [Nat.pow_succ] at h; omega
      have := digs_le k (n / 10) this
      simp; omega
theorem digs_D (n : Nat) : ∀ c ∈ digs n, isD c = true := by
  induction n using Nat.strongRecOn with
  | _ n ih =>
    by_cases h : n ≤ 9
    · rw [digs_one h]; simp only [List.mem_singleton, forall_eq]; exact digit_D h
    · rw [digs_more h]
      simp only [List.mem_append, List.mem_singleton]
      rintro c (hc | rfl)
      · exact ih (n / 10) (by omega) c hc
      · exact digit_D (by omega)
theorem valA_append (a b : Bs) (n : Nat) : valA n (a ++ b) = valA (valA n a) b := by simp [valA, List.foldl_append]
theorem valA_one (n : Nat) (c : UInt8) : valA n [c] = n * 10 + dig c := rfl
theorem val_digs (n : Nat) : val (digs n) = n := by
  induction n using Nat.strongRecOn with
  | _ n ih =>
    by_cases h : n ≤ 9
    · rw [digs_one h, val, valA_one, digit_dig h]; omega
    · have := ih (n / 10) (by omega)
      rw [val] at this ⊢
      rw [digs_more h, valA_append, this, valA_one, digit_dig (by omega)]; omega
theorem valA_lt : ∀ (l : Bs) (n : Nat), (∀ c ∈ l, isD c = true) → valA n l < (n + 1) * 10 ^ l.length
  | [], n, _ => by simp [valA]
  | c :: r, n, h => by
    have hc : dig c ≤ 9 := by
      have := h c (by simp)
      simp [isD] at this
      unfold dig; omega
    have := valA_lt r (n * 10 + dig c) (fun x hx => h x (by simp [hx]))
    have e : valA n (c :: r) = valA (n * 10 + dig c) r := rfl
    rw [e, List.length_cons, Nat.pow_succ, Nat.mul_comm (10 ^ r.length), ← Nat.mul_assoc]
    refine Nat.lt_of_lt_of_le this (Nat.mul_le_mul_right _ (by omega))
theorem val_lt (l : Bs) (h : ∀ c ∈ l, isD c = true) : val l < 10 ^ l.length := by
  have := valA_lt l 0 h
  simpa [val] using this
theorem val_zeros (k : Nat) (l : Bs) : val (List.replicate k 48 ++ l) = val l := by
  induction k with
  | zero => rfl
  | succ k ih => rw [List.replicate_succ, List.cons_append]; exact ih

theorem run_all {p : UInt8 → Bool} : ∀ {l : Bs}, (∀ c ∈ l, p c = true) → run p l = l.length
  | [], _ => rfl
  | c :: r, h => by rw [run_cons, if_pos (h c (by simp)), run_all (fun x hx => h x (by simp [hx]))]; rfl
theorem run_some {p : UInt8 → Bool} : ∀ {l : Bs} {c : UInt8} {r : Bs}, (∀ c ∈ l, p c = true) → p c = false → run p (l ++ c :: r) = l.length
  | [], c, r, _, hc => by rw [List.nil_append, run_cons, hc]; rfl
  | d :: l, c, r, h, hc => by rw [List.cons_append, run_cons, if_pos (h d (by simp)), run_some (fun x hx => h x (by simp [hx])) hc]; rfl

/-- A token as it is written. -/
def dbl : Bs → Bs
  | [] => []
  | c :: r => if c.toNat = 39 then c :: 39 :: dbl r else c :: dbl r
def padz (l : Bs) (k : Nat) : Bs := List.replicate (k + 1 - l.length) 48 ++ l
def wordOf (t : Tok) : Bs :=
  if t.kind = 2 then digs t.num.toNat
  else if t.kind = 3 then (padz (digs t.num.toNat) t.scale.toNat).take ((padz (digs t.num.toNat) t.scale.toNat).length - t.scale.toNat) ++ 46 :: (padz (digs t.num.toNat) t.scale.toNat).drop ((padz (digs t.num.toNat) t.scale.toNat).length - t.scale.toNat)
  else if t.kind = 4 then 39 :: (dbl t.text ++ [39])
  else t.text

/-- What a token can be. -/
inductive OkT : Tok → Prop
  | word (c : UInt8) (r : Bs) (h : isL c = true) (hw : ∀ x ∈ c :: r, isW x = true) (hl : ∀ x ∈ c :: r, lowerB x = x) (hn : r.length < 32) : OkT ⟨1, c :: r, 0, 0⟩
  | int (n : Nat) (h : n ≤ 9223372036854775807) : OkT ⟨2, [], n, 0⟩
  | real (n k : Nat) (hk : 1 ≤ k) (hk' : k ≤ 14) (h : n < 1000000000000000) : OkT ⟨3, [], n, k⟩
  | text (b : Bs) (h : b.length ≤ 200) : OkT ⟨4, b, 0, 0⟩
  | sign1 (c : UInt8) (h : c ∈ ones) : OkT ⟨5, [c], 0, 0⟩
  | sign2 (c d : UInt8) (h : two c d = true) : OkT ⟨5, [c, d], 0, 0⟩

theorem mem_take_run {p : UInt8 → Bool} {l : Bs} : ∀ c ∈ l.take (run p l), p c = true := by
  rw [take_run]
  induction l with
  | nil => simp
  | cons d r ih =>
    rw [List.takeWhile_cons]
    split
    · rename_i h; intro c hc; simp only [List.mem_cons] at hc
      rcases hc with rfl | hc
      · exact h
      · exact ih c hc
    · simp

theorem txt_dbl : ∀ (b : Bs), txt (dbl b ++ [39]) = some (b, (dbl b).length + 1)
  | [] => by rw [dbl, List.nil_append, txt_end (by rfl) (fun d r' e => by cases e)]; rfl
  | c :: r => by
    rw [dbl]
    have ih := txt_dbl r
    split
    · rename_i h
      rw [List.cons_append, List.cons_append, txt_two h rfl, ih]
      have : c = 39 := UInt8.toNat_inj.1 h
      simp [this]
    · rename_i h
      rw [List.cons_append, txt_other h, ih]; simp

theorem isD_notL {c : UInt8} (h : isD c = true) : isL c = false := by
  simp [isD] at h
  simp [isL]; omega
theorem isD_notB {c : UInt8} (h : isD c = true) : isB c = false := by
  simp [isD] at h
  simp [isB]; omega
theorem isL_notB {c : UInt8} (h : isL c = true) : isB c = false := by
  cases hb : isB c with
  | false => rfl
  | true => rw [isB_L hb] at h; cases h

/-- A token that is written is that token again. -/
theorem ok_one {t : Tok} (h : OkT t) : ∃ c r, wordOf t = c :: r ∧ isB c = false ∧ one (c :: r) = .ok (t, r.length + 1) := by
  cases h with
  | word c r h hw hl hn =>
    refine ⟨c, r, by simp [wordOf], isL_notB h, ?_⟩
    have hr := run_all hw
    rw [one, if_pos h, word, hr, if_neg (by simp; omega), List.take_length]
    congr 4
    exact (List.map_congr_left hl).trans (List.map_id _)
  | int n h =>
    have hne := digs_len n
    have hD := digs_D n
    have hv := val_digs n
    have hle := digs_le 18 n (by simp; omega)
    have e : wordOf ⟨2, [], n, 0⟩ = digs n := by simp [wordOf]
    rw [e]
    generalize digs n = l at *
    cases l with
    | nil => simp at hne
    | cons c r =>
      have hc := hD c (by simp)
      refine ⟨c, r, rfl, isD_notB hc, ?_⟩
      have hr := run_all hD
      rw [one, if_neg (by simp [isD_notL hc]), if_pos hc, number, hr, List.drop_length, List.take_length, if_pos (by rfl), hv, if_neg (by simp at hle ⊢; omega)]
      simp
  | real n k hk hk' h =>
    have hD := digs_D n
    have hv := val_digs n
    have hle := digs_le 14 n (by simp; omega)
    have hpl : (padz (digs n) k).length ≤ 15 ∧ k + 1 ≤ (padz (digs n) k).length := by simp [padz]; omega
    have hpD : ∀ c ∈ padz (digs n) k, isD c = true := by
      intro c hc
      simp only [padz, List.mem_append, List.mem_replicate] at hc
      rcases hc with ⟨_, rfl⟩ | hc
      · rfl
      · exact hD c hc
    have hpv : val (padz (digs n) k) = n := by rw [padz, val_zeros, hv]
    have e : wordOf ⟨3, [], n, k⟩ = (padz (digs n) k).take ((padz (digs n) k).length - k) ++ 46 :: (padz (digs n) k).drop ((padz (digs n) k).length - k) := by simp [wordOf]
    rw [e]
    generalize padz (digs n) k = l at *
    have ha : ∀ c ∈ l.take (l.length - k), isD c = true := fun c hc => hpD c (List.mem_of_mem_take hc)
    have hb : ∀ c ∈ l.drop (l.length - k), isD c = true := fun c hc => hpD c (List.mem_of_mem_drop hc)
    have la : (l.take (l.length - k)).length = l.length - k := by rw [List.length_take]; omega
    have lb : (l.drop (l.length - k)).length = k := by rw [List.length_drop]; omega
    have lj : l.take (l.length - k) ++ l.drop (l.length - k) = l := List.take_append_drop _ _
    generalize hw : l.length - k = w at *
    generalize l.take w = a at *
    generalize l.drop w = b at *
    cases a with
    | nil => simp at la; omega
    | cons c r =>
      have hc := ha c (by simp)
      refine ⟨c, r ++ 46 :: b, rfl, isD_notB hc, ?_⟩
      have hr : run isD (c :: (r ++ 46 :: b)) = w := by rw [← List.cons_append, run_some ha (by rfl), la]
      have hdrop : (c :: (r ++ 46 :: b)).drop w = 46 :: b := by rw [← List.cons_append, ← la, List.drop_left]
      have hdrop1 : (c :: (r ++ 46 :: b)).drop (w + 1) = b := by
        have : (c :: (r ++ 46 :: b)).drop (w + 1) = ((c :: (r ++ 46 :: b)).drop w).drop 1 := by rw [List.drop_drop]
        rw [this, hdrop]; rfl
      have htake : (c :: (r ++ 46 :: b)).take w = c :: r := by rw [← List.cons_append, ← la, List.take_left]
      have hpart : part (46 :: b) = k := by rw [part_cons, if_pos (by rfl), run_all hb, lb]
      rw [one, if_neg (by simp [isD_notL hc]), if_pos hc, number, hr, hdrop, hpart, if_neg (by omega), if_neg (by omega), htake, hdrop1]
      have : b.take k = b := by rw [← lb, List.take_length]
      rw [this, lj, hpv]
      simp at la ⊢
      omega
  | text b h =>
    refine ⟨39, dbl b ++ [39], by simp [wordOf], by rfl, ?_⟩
    rw [one, if_neg (by decide), if_neg (by decide), if_pos (by rfl), text, List.drop_succ_cons, List.drop_zero, txt_dbl]
    simp only
    rw [if_neg (by omega)]
    simp
  | sign1 c h =>
    refine ⟨c, [], by simp [wordOf], ?_, ?_⟩
    · simp [ones] at h
      rcases h with rfl | rfl | rfl | rfl | rfl | rfl | rfl | rfl | rfl | rfl | rfl | rfl <;> rfl
    · have : isL c = false ∧ isD c = false ∧ ¬ c.toNat = 39 := by
        simp only [ones, List.mem_cons, List.mem_nil_iff, or_false] at h
        rcases h with rfl | rfl | rfl | rfl | rfl | rfl | rfl | rfl | rfl | rfl | rfl | rfl <;> decide
      rw [one, if_neg (by simp [this.1]), if_neg (by simp [this.2.1]), if_neg this.2.2, sign, if_pos h]; rfl
  | sign2 c d h =>
    have h' : (c.toNat = 60 ∨ c.toNat = 62 ∨ c.toNat = 124) := by
      simp [two] at h; omega
    refine ⟨c, [d], by simp [wordOf], by simp [isB]; omega, ?_⟩
    rw [one, if_neg (by simp [isL]; omega), if_neg (by simp [isD]; omega), if_neg (by omega), sign, if_pos h]; rfl

/-- The tokens, each behind a blank. -/
def spread (z : UInt8) (s : List Tok) : Bs := s.flatMap fun t => z :: wordOf t

theorem wordOf_len {t : Tok} (h : OkT t) : (wordOf t).length ≤ 1000 := by
  cases h with
  | word c r h hw hl hn => simp [wordOf]; omega
  | int n h =>
    have hle := digs_le 18 n (by simp; omega)
    simp [wordOf]; omega
  | real n k hk hk' h =>
    have hle := digs_le 14 n (by simp; omega)
    simp [wordOf, padz]; omega
  | text b h =>
    have : ∀ b : Bs, (dbl b).length ≤ 2 * b.length := by
      intro b
      induction b with
      | nil => simp [dbl]
      | cons c r ih => rw [dbl]; split <;> simp <;> omega
    have := this b
    simp [wordOf]; omega
  | sign1 c h => simp [wordOf]
  | sign2 c d h => simp [wordOf]
end Go.Lx
namespace Go.Proofs
open Go.Shelf Go.RowKit
def Tryz.lays159_ren : Go.Shelf.Ren := ⟨fun | 159 => 72 | 165 => 100 | 166 => 101 | 167 => 102 | 169 => 103 | 230 => 104 | 204 => 105 | 240 => 114 | 241 => 115 | 197 => 94 | 118 => 116 | 168 => 117 | 270 => 118 | 262 => 119 | 276 => 127 | 277 => 128 | 260 => 111 | 242 => 129 | 313 => 130 | 278 => 133 | 274 => 134 | 275 => 135 | n => n, fun | 9 => 9 | 4 => 4 | 3 => 3 | 5 => 5 | 72 => 131 | 0 => 0 | 76 => 134 | 75 => 133 | 107 => 138 | 70 => 129 | 20 => 20 | 37 => 45 | 127 => 140 | 21 => 21 | 105 => 124 | 164 => 155 | 162 => 161 | 203 => 159 | 119 => 148 | 46 => 149 | 139 => 152 | 138 => 151 | 51 => 162 | 160 => 163 | 208 => 170 | 206 => 168 | 80 => 90 | n => n, fun | 13 => 3 | 3 => 0 | 4 => 1 | n => n⟩
theorem Tryz.lays159 : Go.Proofs.Lays.n159 Tryz.prog Tryz.lays159_ren := {
  mixed := by kernel_rfl
  f118 := Tryz.func116.trans (congrArg some (by kernel_rfl))
  f159 := Tryz.func72.trans (congrArg some (by kernel_rfl))
  f165 := Tryz.func100.trans (congrArg some (by kernel_rfl))
  f166 := Tryz.func101.trans (congrArg some (by kernel_rfl))
  f167 := Tryz.func102.trans (congrArg some (by kernel_rfl))
  f168 := Tryz.func117.trans (congrArg some (by kernel_rfl))
  f169 := Tryz.func103.trans (congrArg some (by kernel_rfl))
  f197 := Tryz.func94.trans (congrArg some (by kernel_rfl))
  f204 := Tryz.func105.trans (congrArg some (by kernel_rfl))
  f230 := Tryz.func104.trans (congrArg some (by kernel_rfl))
  f240 := Tryz.func114.trans (congrArg some (by kernel_rfl))
  f241 := Tryz.func115.trans (congrArg some (by kernel_rfl))
  f242 := Tryz.func129.trans (congrArg some (by kernel_rfl))
  f260 := Tryz.func111.trans (congrArg some (by kernel_rfl))
  f262 := Tryz.func119.trans (congrArg some (by kernel_rfl))
  f270 := Tryz.func118.trans (congrArg some (by kernel_rfl))
  f274 := Tryz.func134.trans (congrArg some (by kernel_rfl))
  f275 := Tryz.func135.trans (congrArg some (by kernel_rfl))
  f276 := Tryz.func127.trans (congrArg some (by kernel_rfl))
  f277 := Tryz.func128.trans (congrArg some (by kernel_rfl))
  f278 := Tryz.func133.trans (congrArg some (by kernel_rfl))
  f313 := Tryz.func130.trans (congrArg some (by kernel_rfl))
  t0 := Tryz.underlying0
  a0 := Tryz.isAgg0
  z0 := Tryz.sizeOf0
  v0 := Tryz.zeroValue0
  t3 := Tryz.underlying3
  a3 := Tryz.isAgg3
  z3 := Tryz.sizeOf3
  v3 := Tryz.zeroValue3
  t4 := Tryz.underlying4
  a4 := Tryz.isAgg4
  z4 := Tryz.sizeOf4
  v4 := Tryz.zeroValue4
  t5 := Tryz.underlying5
  a5 := Tryz.isAgg5
  z5 := Tryz.sizeOf5
  v5 := Tryz.zeroValue5
  t9 := Tryz.underlying9
  a9 := Tryz.isAgg9
  z9 := Tryz.sizeOf9
  v9 := Tryz.zeroValue9
  t20 := Tryz.underlying20
  a20 := Tryz.isAgg20
  z20 := Tryz.sizeOf20
  v20 := Tryz.zeroValue20
  t21 := Tryz.underlying21
  a21 := Tryz.isAgg21
  z21 := Tryz.sizeOf21
  v21 := Tryz.zeroValue21
  t37 := Tryz.underlying45
  a37 := Tryz.isAgg45
  z37 := Tryz.sizeOf45
  v37 := Tryz.zeroValue45
  t46 := Tryz.underlying149
  a46 := Tryz.isAgg149
  z46 := Tryz.sizeOf149
  v46 := Tryz.zeroValue149
  t51 := Tryz.underlying162
  a51 := Tryz.isAgg162
  z51 := Tryz.sizeOf162
  v51 := Tryz.zeroValue162
  t70 := Tryz.underlying129
  a70 := Tryz.isAgg129
  z70 := Tryz.sizeOf129
  v70 := Tryz.zeroValue129
  t72 := Tryz.underlying131
  a72 := Tryz.isAgg131
  z72 := Tryz.sizeOf131
  v72 := Tryz.zeroValue131
  t75 := Tryz.underlying133
  a75 := Tryz.isAgg133
  z75 := Tryz.sizeOf133
  v75 := Tryz.zeroValue133
  t76 := Tryz.underlying134
  a76 := Tryz.isAgg134
  z76 := Tryz.sizeOf134
  v76 := Tryz.zeroValue134
  t105 := Tryz.underlying124
  a105 := Tryz.isAgg124
  z105 := Tryz.sizeOf124
  v105 := Tryz.zeroValue124
  t107 := Tryz.underlying138
  a107 := Tryz.isAgg138
  z107 := Tryz.sizeOf138
  v107 := Tryz.zeroValue138
  t119 := Tryz.underlying148
  a119 := Tryz.isAgg148
  z119 := Tryz.sizeOf148
  t127 := Tryz.underlying140
  a127 := Tryz.isAgg140
  z127 := Tryz.sizeOf140
  v127 := Tryz.zeroValue140
  t138 := Tryz.underlying151
  a138 := Tryz.isAgg151
  z138 := Tryz.sizeOf151
  v138 := Tryz.zeroValue151
  t139 := Tryz.underlying152
  a139 := Tryz.isAgg152
  z139 := Tryz.sizeOf152
  v139 := Tryz.zeroValue152
  t160 := Tryz.underlying163
  a160 := Tryz.isAgg163
  z160 := Tryz.sizeOf163
  v160 := Tryz.zeroValue163
  t162 := Tryz.underlying161
  a162 := Tryz.isAgg161
  z162 := Tryz.sizeOf161
  v162 := Tryz.zeroValue161
  t164 := Tryz.underlying155
  a164 := Tryz.isAgg155
  z164 := Tryz.sizeOf155
  v164 := Tryz.zeroValue155
  t203 := Tryz.underlying159
  a203 := Tryz.isAgg159
  z203 := Tryz.sizeOf159
  v203 := Tryz.zeroValue159
  t206 := Tryz.underlying168
  a206 := Tryz.isAgg168
  z206 := Tryz.sizeOf168
  v206 := Tryz.zeroValue168
  t208 := Tryz.underlying170
  a208 := Tryz.isAgg170
  z208 := Tryz.sizeOf170
  v208 := Tryz.zeroValue170
  g3 := by kernel_rfl
  g4 := by kernel_rfl
  g13 := by kernel_rfl }
theorem Tryz.Builder_Extra_159 : Builder.Extra Tryz.prog Tryz.lays159_ren := {
  sizeBuilder := by kernel_rfl
  liesBuilder := by kernel_rfl
  t5 := Tryz.underlying5
  a5 := Tryz.isAgg5
  z5 := Tryz.sizeOf5
  v5 := Tryz.zeroValue5
  infoByte := by kernel_rfl
  cellsByte := by kernel_rfl
  sizeByte := by kernel_rfl
  neB5 := by decide }
theorem Tryz.strings_ToLower_ascii (s : ByteArray) (w : World) (hs : s.size ≤ 140737488355328) (hascii : ∀ (j : Nat) (b : UInt8), s.data.toList[j]? = some b → b.toNat < 128) :
    Calls Tryz.prog 72 #[.string s] w fun e w' => e = .returned (.string ⟨(Lib.toLowerA s.data.toList).toArray⟩) ∧ Below w.heap.size w w' := Any.strings_ToLower_ascii Tryz.lays159 Tryz.Builder_Extra_159 s w hs hascii
def Tryz.lays137_ren : Go.Shelf.Ren := ⟨fun | 137 => 69 | 217 => 97 | 266 => 113 | n => n, fun | 9 => 9 | 5 => 5 | 3 => 3 | n => n, fun | n => n⟩
theorem Tryz.lays137 : Go.Proofs.Lays.n137 Tryz.prog Tryz.lays137_ren := {
  mixed := by kernel_rfl
  f137 := Tryz.func69.trans (congrArg some (by kernel_rfl))
  f217 := Tryz.func97.trans (congrArg some (by kernel_rfl))
  f266 := Tryz.func113.trans (congrArg some (by kernel_rfl))
  t3 := Tryz.underlying3
  a3 := Tryz.isAgg3
  z3 := Tryz.sizeOf3
  v3 := Tryz.zeroValue3
  t5 := Tryz.underlying5
  a5 := Tryz.isAgg5
  z5 := Tryz.sizeOf5
  v5 := Tryz.zeroValue5
  t9 := Tryz.underlying9
  a9 := Tryz.isAgg9
  z9 := Tryz.sizeOf9
  v9 := Tryz.zeroValue9 }
theorem Tryz.strings_IndexByte (s : ByteArray) (c : Int) (w : World) :
    Calls Tryz.prog 69 #[.string s, .int .u8 c] w fun e w' => e = .returned (.int .i64 (Lib.indexByte s.data.toList c.toNat.toUInt8)) ∧ w' = w := Any.strings_IndexByte Tryz.lays137 s c w
def Tryz.lays217_ren : Go.Shelf.Ren := ⟨fun | 217 => 97 | 266 => 113 | n => n, fun | 9 => 9 | 5 => 5 | 3 => 3 | n => n, fun | n => n⟩
end Go.Proofs
set_option linter.unusedSimpArgs false
set_option linter.unusedVariables false
namespace Go.Abs
open Go Go.RowKit Go.Proofs
def tbl (G : Nat → AVal) : FuncId → Option AFn
  | 19 => some (f19 G)
  | 81 => some (f81 G)
  | 32 => some (f32 G)
  | 33 => some (f33 G)
  | 34 => some (f34 G)
  | 35 => some (f35 G)
  | 36 => some (f36 G)
  | 37 => some (f37 G)
  | 38 => some (f38 G)
  | 70 => some (f70 G)
  | 71 => some (f71 G)
  | 64 => some (f64 G)
  | 65 => some (f65 G)
  | 66 => some (f66 G)
  | 68 => some (f68 G)
  | 73 => some (f73 G)
  | 74 => some (f74 G)
  | 98 => some (f98 G)
  | 99 => some (f99 G)
  | 96 => some (f96 G)
  | 93 => some (f93 G)
  | 106 => some (f106 G)
  | _ => none

theorem tbl_c (G : Nat → AVal) : ∀ f fn, tbl G f = some fn → ∃ rows, cmpFn Tryz.prog G rows f = some fn := by
  intro f fn h
  unfold tbl at h
  split at h
  · simp only [Option.some.injEq] at h; rw [← h]; exact ⟨_, f19_c G⟩
  · simp only [Option.some.injEq] at h; rw [← h]; exact ⟨_, f81_c G⟩
  · simp only [Option.some.injEq] at h; rw [← h]; exact ⟨_, f32_c G⟩
  · simp only [Option.some.injEq] at h; rw [← h]; exact ⟨_, f33_c G⟩
  · simp only [Option.some.injEq] at h; rw [← h]; exact ⟨_, f34_c G⟩
  · simp only [Option.some.injEq] at h; rw [← h]; exact ⟨_, f35_c G⟩
  · simp only [Option.some.injEq] at h; rw [← h]; exact ⟨_, f36_c G⟩
  · simp only [Option.some.injEq] at h; rw [← h]; exact ⟨_, f37_c G⟩
  · simp only [Option.some.injEq] at h; rw [← h]; exact ⟨_, f38_c G⟩
  · simp only [Option.some.injEq] at h; rw [← h]; exact ⟨_, f70_c G⟩
  · simp only [Option.some.injEq] at h; rw [← h]; exact ⟨_, f71_c G⟩
  · simp only [Option.some.injEq] at h; rw [← h]; exact ⟨_, f64_c G⟩
  · simp only [Option.some.injEq] at h; rw [← h]; exact ⟨_, f65_c G⟩
  · simp only [Option.some.injEq] at h; rw [← h]; exact ⟨_, f66_c G⟩
  · simp only [Option.some.injEq] at h; rw [← h]; exact ⟨_, f68_c G⟩
  · simp only [Option.some.injEq] at h; rw [← h]; exact ⟨_, f73_c G⟩
  · simp only [Option.some.injEq] at h; rw [← h]; exact ⟨_, f74_c G⟩
  · simp only [Option.some.injEq] at h; rw [← h]; exact ⟨_, f98_c G⟩
  · simp only [Option.some.injEq] at h; rw [← h]; exact ⟨_, f99_c G⟩
  · simp only [Option.some.injEq] at h; rw [← h]; exact ⟨_, f96_c G⟩
  · simp only [Option.some.injEq] at h; rw [← h]; exact ⟨_, f93_c G⟩
  · simp only [Option.some.injEq] at h; rw [← h]; exact ⟨_, f106_c G⟩
  · cases h

/-- The calls whose contracts are known. -/
def ext : FuncId → List AVal → Option AVal
  | 72, [.str l] => if l.all (fun b => decide (b.toNat < 128)) && decide (l.length ≤ 140737488355328) then some (.str (Lib.toLowerA l)) else none
  | 69, [.str l, .atom (.int .u8 c)] => some (.int (Lib.indexByte l c.toNat.toUInt8))
  | _, _ => none

theorem vs_one {F m} {x : AVal} {vs : Array Value} (h : RelL F m [x] vs) : ∃ v, vs = #[v] ∧ Rel F m x v := by
  obtain ⟨hl, hg⟩ := h
  obtain ⟨l⟩ := vs
  match l, hl with
  | [v], _ => exact ⟨v, rfl, hg 0 (by simp)⟩
theorem vs_two {F m} {x y : AVal} {vs : Array Value} (h : RelL F m [x, y] vs) : ∃ u v, vs = #[u, v] ∧ Rel F m x u ∧ Rel F m y v := by
  obtain ⟨hl, hg⟩ := h
  obtain ⟨l⟩ := vs
  match l, hl with
  | [u, v], _ => exact ⟨u, v, rfl, hg 0 (by simp), hg 1 (by simp)⟩

theorem ext_ok {β : Base} : ∀ f args v, ext f args = some v → ∀ S, ACalls Tryz.prog β f args S fun e S' => e = .ret v ∧ S' = S := by
  intro f args v h S
  unfold ext at h
  split at h
  · rename_i l
    split at h
    · rename_i hc
      simp only [Bool.and_eq_true, decide_eq_true_eq, List.all_eq_true] at hc
      simp only [Option.some.injEq] at h
      subst h
      refine ACalls.lift (by kernel_rfl) fun F m vs w hv => ?_
      obtain ⟨u, rfl, hu⟩ := vs_one hv
      obtain rfl := hu.str_inv
      refine (Tryz.strings_ToLower_ascii ⟨l.toArray⟩ w (by simpa [ByteArray.size] using hc.2) (fun j b hb => hc.1 b (by simpa using List.mem_of_getElem? hb))).mono fun e w' ⟨he, hb⟩ => ?_
      exact ⟨_, he, .str _, hb⟩
    · cases h
  · rename_i l c
    simp only [Option.some.injEq] at h
    subst h
    refine ACalls.lift (by kernel_rfl) fun F m vs w hv => ?_
    obtain ⟨u1, u2, rfl, h1, h2⟩ := vs_two hv
    obtain rfl := h1.str_inv
    obtain rfl := h2.int_inv
    refine (Tryz.strings_IndexByte ⟨l.toArray⟩ c w).mono fun e w' ⟨he, hw⟩ => ?_
    subst hw
    exact ⟨_, he, .atom _, Below.refl _ _⟩
  · cases h

theorem tryOrd : Tryz.prog.follows .mixedOrders = true := by kernel_rfl
end Go.Abs
set_option linter.unusedSimpArgs false
set_option linter.unusedVariables false
namespace Go.Abs
open Go Go.RowKit Go.Proofs Go.Lx

abbrev B0 (w : World) : Base := ⟨w, fun _ => .top⟩
abbrev bv (c : UInt8) : AVal := .atom (.int .u8 (c.toNat : Int))
variable {w0 : World}

def tb2 (G : Nat → AVal) : FuncId → Option AFn
  | 57 => some (f57 G)
  | 60 => some (f60 G)
  | 59 => some (f59 G)
  | n => tbl G n
theorem tb2_c (G : Nat → AVal) : ∀ f fn, tb2 G f = some fn → ∃ rows, cmpFn Tryz.prog G rows f = some fn := by
  intro f fn h
  unfold tb2 at h
  split at h
  · simp only [Option.some.injEq] at h; rw [← h]; exact ⟨_, f57_c G⟩
  · simp only [Option.some.injEq] at h; rw [← h]; exact ⟨_, f60_c G⟩
  · simp only [Option.some.injEq] at h; rw [← h]; exact ⟨_, f59_c G⟩
  · exact tbl_c G _ _ h

/-- A run that gives one value and leaves nothing. -/
def gives (o : Option (List (AEnd × Heap))) (v : AVal) : Bool :=
  match o with
  | some [(.ret u, [])] => u.same v
  | _ => false
theorem gives_eq {o : Option (List (AEnd × Heap))} {v : AVal} (h : gives o v = true) : o = some [(.ret v, [])] := by
  unfold gives at h
  split at h
  · rw [AVal.same_eq h]
  · cases h

theorem runY {f : FuncId} {args : List AVal} {v : AVal} {n : Nat} (ha : scL 0 args = true) (hv : v.solid = true) (h : gives (callY ext (tb2 fun _ => .top) n f args []) v = true) (S : Heap) :
    ACalls Tryz.prog (B0 w0) f args S fun e S' => e = .ret v ∧ S' = S :=
  ACalls.frameV (fun _ => rfl) ha hv fun w1 => callY_sound tryOrd ext_ok (tb2_c _) n f args [] _ (gives_eq h) _ (fun o ho => by
    rw [List.mem_singleton.1 ho]; exact ⟨rfl, rfl⟩)

/-- A function of one byte, tried at each. -/
def tryAll (f : FuncId) (p : UInt8 → AVal) : Bool := (List.range 256).all fun n => gives (callY ext (tb2 fun _ => .top) 20 f [.atom (.int .u8 n)] []) (p (UInt8.ofNat n))
theorem bytewise {f : FuncId} {p : UInt8 → AVal} (hp : ∀ c, (p c).solid = true) (h : tryAll f p = true) (c : UInt8) (S : Heap) : ACalls Tryz.prog (B0 w0) f [bv c] S fun e S' => e = .ret (p c) ∧ S' = S := by
  have := List.all_eq_true.1 h c.toNat (List.mem_range.2 c.toNat_lt)
  simp only [UInt8.ofNat_toNat] at this
  exact runY rfl (hp c) this S

theorem w34 (c : UInt8) (S : Heap) : ACalls Tryz.prog (B0 w0) 34 [bv c] S fun e S' => e = .ret (.bool (Lx.isL c)) ∧ S' = S := bytewise (p := fun c => .bool (Lx.isL c)) (fun _ => rfl) (by kernel_rfl) c S
theorem w36 (c : UInt8) (S : Heap) : ACalls Tryz.prog (B0 w0) 36 [bv c] S fun e S' => e = .ret (.bool (isD c)) ∧ S' = S := bytewise (p := fun c => .bool (isD c)) (fun _ => rfl) (by kernel_rfl) c S
theorem w71 (c : UInt8) (S : Heap) : ACalls Tryz.prog (B0 w0) 71 [bv c] S fun e S' => e = .ret (.bool (isW c)) ∧ S' = S := bytewise (p := fun c => .bool (isW c)) (fun _ => rfl) (by kernel_rfl) c S
theorem w57 (c : UInt8) (S : Heap) : ACalls Tryz.prog (B0 w0) 57 [bv c] S fun e S' => e = .ret (.bool (Lx.isL c)) ∧ S' = S := bytewise (p := fun c => .bool (Lx.isL c)) (fun _ => rfl) (by kernel_rfl) c S
theorem w60 (c : UInt8) (S : Heap) : ACalls Tryz.prog (B0 w0) 60 [bv c] S fun e S' => e = .ret (bv (Lib.lowerB c)) ∧ S' = S := bytewise (p := fun c => bv (Lib.lowerB c)) (fun _ => rfl) (by kernel_rfl) c S
theorem w59 (c : UInt8) (S : Heap) : ACalls Tryz.prog (B0 w0) 59 [bv c] S fun e S' => e = .ret (.bool (isD c)) ∧ S' = S := bytewise (p := fun c => .bool (isD c)) (fun _ => rfl) (by kernel_rfl) c S

/-! ### The blanks ahead -/
def blankBits : List AVal := (List.range 256).map fun n => .bool (isB (UInt8.ofNat n))
theorem blankBits_len : blankBits.length = 256 := by simp [blankBits]
theorem blankBits_get (c : UInt8) : blankBits.getD c.toNat .top = .bool (isB c) := by
  have := c.toNat_lt
  rw [getD_eq _ _ _ (by rw [blankBits_len]; exact this)]
  simp [blankBits]
theorem w65 (S : Heap) : ACalls Tryz.prog (B0 w0) 65 [.str [32, 9, 10, 13]] S fun e S' => e = .ret (.tuple [.agg blankBits, .bool true]) ∧ S' = S :=
  runY (n := 30) rfl (by kernel_rfl) (by kernel_rfl) S
theorem blankBits_one : blankBits.all AVal.one = true := by kernel_rfl

theorem w93 {S : Heap} {id : Nat} {cap : Option Nat} (hS : S[id]? = some (.cells 256 [blankBits] cap)) (c : UInt8) : ACalls Tryz.prog (B0 w0) 93 [.ptr id 0 0, bv c] S fun e S' => e = .ret (.bool (isB c)) ∧ S' = S := by
  refine fn_sound tryOrd (f93_c _) (by simp [f93]) ?_
  have hlt : c.toNat < 256 := c.toNat_lt
  have hg : ∀ h, blankBits[c.toNat]'h = .bool (isB c) := fun h => by
    have := blankBits_get c
    rwa [getD_eq _ _ _ h] at this
  simp [f93, f93m, hS, hg, hlt, blankBits_len]
  omega

/-- strings.trimLeftASCII, its set the blanks. -/
theorem w66 {S : Heap} {id : Nat} {cap : Option Nat} (hS : S[id]? = some (.cells 256 [blankBits] cap)) (l : Bs) : ACalls Tryz.prog (B0 w0) 66 [.str l, .ptr id 0 0] S fun e S' => e = .ret (.str (l.dropWhile isB)) ∧ S' = S := by
  refine fn_sound tryOrd (f66_c _) (by simp [f66]) ?_
  simp [f66, f66m]
  refine mwp_loop (I := fun n a S' => ∃ r : Bs, n = r.length ∧ get a 0 = .str r ∧ get a 1 = .ptr id 0 0 ∧ S' = S ∧ r.dropWhile isB = l.dropWhile isB) (n := l.length) ?_ ?_
  · exact ⟨l, rfl, rfl, rfl, rfl, rfl⟩
  rintro n a S' ⟨r, rfl, a0, a1, rfl, hr⟩
  cases r with
  | nil => simp [f66b0, a0, a1]; exact hr.symm
  | cons c r =>
    simp [f66b0, a0, a1]
    refine (w93 hS c).use ?_
    rintro e S1 ⟨rfl, rfl⟩
    by_cases hb : isB c = true
    · simp [hb, a0, a1, sslcR, bound]
      rw [List.dropWhile_cons, if_pos hb] at hr
      exact ⟨r.length, by omega, r, rfl, rfl, hr⟩
    · simp [hb, a0, a1]
      rw [List.dropWhile_cons, if_neg hb] at hr
      exact hr

set_option maxRecDepth 20000 in
/-- strings.TrimLeft of the blanks. -/
theorem w32 (l : Bs) (S : Heap) : ACalls Tryz.prog (B0 w0) 32 [.str l, .str [32, 9, 10, 13]] S fun e S' => e = .ret (.str (l.dropWhile isB)) ∧ S' = S := by
  refine ACalls.close (R := fun e S' => e = .ret (.str (l.dropWhile isB)) ∧ S'.take S.length = S) ?_ ?_
  rotate_left 1
  · rintro e S' ⟨rfl, ht⟩
    exact .flat ht rfl ⟨rfl, rfl⟩
  refine fn_sound tryOrd (f32_c _) (by simp [f32]) ?_
  cases l with
  | nil => simp [f32, f32m]
  | cons c r =>
    simp [f32, f32m]
    refine (w65 S).use ?_
    rintro e S1 ⟨rfl, rfl⟩
    simp [blankBits_len, blankBits_one]
    refine (w66 (id := S1.length) (cap := some 1) (by simp) (c :: r)).use ?_
    rintro e S2 ⟨rfl, rfl⟩
    simp

/-- strings.HasPrefix of one byte. -/
theorem w73 (l : Bs) (c : UInt8) (S : Heap) : ACalls Tryz.prog (B0 w0) 73 [.str l, .str [c]] S fun e S' => e = .ret (.bool (l.head? == some c)) ∧ S' = S := by
  refine fn_sound tryOrd (f73_c _) (by simp [f73]) ?_
  simp [f73, f73m]
  have h93 : ACalls Tryz.prog (B0 w0) 106 [.str l, .str [c]] S fun e S' => e = .ret (.bool (l.head? == some c)) ∧ S' = S := by
    refine fn_sound tryOrd (f106_c _) (by simp [f106]) ?_
    cases l with
    | nil => simp [f106, f106m]
    | cons d r =>
      have hle : (1 : Int) ≤ (r.length : Int) + 1 := by omega
      simp [f106, f106m, hle, sslcR, bound]; rfl
  refine h93.use ?_
  rintro e S1 ⟨rfl, rfl⟩
  simp

end Go.Abs
set_option linter.unusedSimpArgs false
set_option linter.unusedVariables false
namespace Go.Abs
open Go Go.RowKit Go.Proofs Go.Lx
variable {w0 : World}

/-- A function of one byte that tells. -/
def Tells (w0 : World) (q : FuncId) (p : UInt8 → Bool) : Prop := ∀ (c : UInt8) (S : Heap), ACalls Tryz.prog (B0 w0) q [bv c] S fun e S' => e = .ret (.bool (p c)) ∧ S' = S

theorem w99 {q : FuncId} {p : UInt8 → Bool} (hq : Tells w0 q p) {S : Heap} {id : Nat} {cap : Option Nat} (hS : S[id]? = some (.cells 1 [[.clo (.func q) [] []]] cap)) (c : UInt8) :
    ACalls Tryz.prog (B0 w0) 99 [bv c, .ptr id 0 0] S fun e S' => e = .ret (.bool (!p c)) ∧ S' = S := by
  refine fn_sound tryOrd (f99_c _) (by simp [f99]) ?_
  simp [f99, f99m, hS]
  refine (hq c S).use ?_
  rintro e S1 ⟨rfl, rfl⟩
  simp

theorem run_le_iff {p : UInt8 → Bool} : ∀ {l : Bs} {i : Nat} (h : i < l.length), i ≤ run p l → (p l[i] = true ↔ i < run p l)
  | c :: r, 0, h, _ => by
    rw [run_cons]
    by_cases hc : p c = true
    · simp [hc]
    · simp [hc]
  | c :: r, i + 1, h, hi => by
    rw [run_cons] at hi ⊢
    by_cases hc : p c = true
    · rw [if_pos hc] at hi ⊢
      have := run_le_iff (p := p) (l := r) (i := i) (by simpa using h) (by omega)
      simp only [List.getElem_cons_succ]
      rw [this]; omega
    · rw [if_neg hc] at hi; omega

theorem w98 {q : FuncId} {p : UInt8 → Bool} (hq : Tells w0 q p) {S : Heap} {id : Nat} {cap : Option Nat} (hS : S[id]? = some (.cells 1 [[.clo (.func q) [] []]] cap)) {v : AVal} {l : Bs} (hv : Rk 1 S v (l.map u8)) (hl : l.length ≤ 4194304) :
    ACalls Tryz.prog (B0 w0) 98 [v, .clo (.func 99) [] [.ptr id 0 0]] S fun e S' => e = .ret (.int (if run p l < l.length then run p l else -1)) ∧ S' = S := by
  refine fn_sound tryOrd (f98_c _) (by simp [f98]) ?_
  simp [f98, f98m, hv.lenR]
  refine mwp_loop (I := fun n a S' => ∃ i : Nat, n = l.length - i ∧ i ≤ l.length ∧ get a 0 = v ∧ get a 1 = .clo (.func 99) [] [.ptr id 0 0] ∧ get a 7 = .int l.length ∧ get a 8 = .int i ∧ S' = S ∧ i ≤ run p l) (n := l.length) ?_ ?_
  · exact ⟨0, rfl, Nat.zero_le _, rfl, rfl, rfl, rfl, rfl, Nat.zero_le _⟩
  rintro n a S' ⟨i, rfl, hi, a0, a1, a7, a8, rfl, hr⟩
  by_cases hlt : i < l.length
  · obtain ⟨pp, q1, q2⟩ := hv.byte hlt
    have hiff := run_le_iff (p := p) hlt hr
    simp [f98b0, a0, a1, a7, a8, hlt, q1, q2]
    refine (w99 hq hS l[i]).use ?_
    rintro e S1 ⟨rfl, rfl⟩
    by_cases hp : p l[i] = true
    · have := hiff.1 hp
      simp [hp, a0, a1, a7, a8, wrapS i (by omega)]
      exact ⟨l.length - (i + 1), by omega, i + 1, rfl, by omega, by simp, by omega⟩
    · have h1 : ¬ i < run p l := fun h => hp (hiff.2 h)
      have h2 : run p l = i := by omega
      simp [hp, a0, a1, a7, a8, h2, hlt]
  · have := run_le p l
    have h1 : ¬ run p l < l.length := by omega
    simp [f98b0, a0, a1, a7, a8, hlt, h1]

/-- run. -/
theorem w70 {q : FuncId} {p : UInt8 → Bool} (hq : Tells w0 q p) (l : Bs) (hl : l.length ≤ 4194304) (S : Heap) :
    ACalls Tryz.prog (B0 w0) 70 [.str l, .clo (.func q) [] []] S fun e S' => e = .ret (.int (run p l)) ∧ S' = S := by
  refine ACalls.close (R := fun e S' => e = .ret (.int (run p l)) ∧ S'.take S.length = S) ?_ ?_
  rotate_left 1
  · rintro e S' ⟨rfl, ht⟩
    exact .flat ht rfl ⟨rfl, rfl⟩
  refine fn_sound tryOrd (f70_c _) (by simp [f70]) ?_
  simp [f70, f70m]
  refine (w98 hq (id := S.length) (cap := some 1) (by simp) (v := .row (S.length + 1) 0 l.length) (l := l) ?_ hl).use ?_
  · have := Rk.row (k := 1) (S := S ++ [.cells 1 [[.clo (.func q) [] []]] (some 1), .cells 1 (l.map u8) none]) (S.length + 1) 0 l.length (l.map u8) none (by simp) (by simp)
    rw [List.drop_zero, List.take_of_length_le (by simp)] at this
    exact this
  rintro e S1 ⟨rfl, rfl⟩
  have hle := run_le p l
  by_cases hlt : run p l < l.length
  · have h0 : (0 : Int) ≤ (run p l : Int) := by omega
    simp [hlt, h0]
  · have : run p l = l.length := by omega
    simp [hlt, this]

theorem valA_ge : ∀ (l : Bs) (n : Nat), n ≤ valA n l
  | [], n => Nat.le_refl _
  | c :: r, n => by
    have := valA_ge r (n * 10 + dig c)
    have e : valA n (c :: r) = valA (n * 10 + dig c) r := rfl
    omega
theorem val_split (l : Bs) (i : Nat) (h : i < l.length) : val (l.take (i + 1)) = val (l.take i) * 10 + dig l[i] := by
  rw [List.take_add_one, List.getElem?_eq_getElem h, val, valA_append]; rfl
theorem val_take_le (l : Bs) (i : Nat) : val (l.take i) ≤ val l := by
  have : val l = valA (val (l.take i)) (l.drop i) := by
    show valA 0 l = valA (valA 0 _) _
    rw [← valA_append, List.take_append_drop]
  rw [this]; exact valA_ge _ _

theorem isD_dig {c : UInt8} (h : isD c = true) : c.toNat = 48 + dig c ∧ dig c ≤ 9 := by
  simp [isD] at h
  unfold dig; omega

/-- worth. -/
theorem w74 (l : Bs) (hl : l.length ≤ 4194304) (hd : ∀ c ∈ l, isD c = true) (S : Heap) :
    ACalls Tryz.prog (B0 w0) 74 [.str l] S fun e S' => e = .ret (if val l ≤ 9223372036854775807 then .tuple [.int (val l), .bool true] else .tuple [.int 0, .bool false]) ∧ S' = S := by
  refine ACalls.close (R := fun e S' => e = .ret (if val l ≤ 9223372036854775807 then .tuple [.int (val l), .bool true] else .tuple [.int 0, .bool false]) ∧ S'.take S.length = S) ?_ ?_
  rotate_left 1
  · rintro e S' ⟨rfl, ht⟩
    refine .flat ht ?_ ⟨rfl, rfl⟩
    split <;> simp [AEnd.sc]
  refine fn_sound tryOrd (f74_c _) (by simp [f74]) ?_
  simp [f74, f74m]
  have hv : Rk 1 (S ++ [.cells 1 (l.map u8) none]) (.row S.length 0 l.length) (l.map u8) := by
    have := Rk.row (k := 1) (S := S ++ [.cells 1 (l.map u8) none]) S.length 0 l.length (l.map u8) none (by simp) (by simp)
    rw [List.drop_zero, List.take_of_length_le (by simp)] at this
    exact this
  generalize hS1 : S ++ [.cells 1 (l.map u8) none] = S1 at hv
  generalize AVal.row S.length 0 l.length = v at hv
  have ht : S1.take S.length = S := by rw [← hS1]; simp
  refine mwp_loop (I := fun n a S' => ∃ i : Nat, n = l.length - i ∧ i ≤ l.length ∧ get a 4 = .int (val (l.take i)) ∧ get a 9 = v ∧ get a 10 = .int l.length ∧ get a 11 = .int i ∧ S' = S1 ∧ val (l.take i) ≤ 9223372036854775807) (n := l.length) ?_ ?_
  · exact ⟨0, rfl, Nat.zero_le _, rfl, rfl, rfl, rfl, rfl, by simp [val, valA]⟩
  rintro n a S' ⟨i, rfl, hi, a4, a9, a10, a11, rfl, hm⟩
  by_cases hlt : i < l.length
  · obtain ⟨pp, q1, q2⟩ := hv.byte hlt
    obtain ⟨e1, e2⟩ := isD_dig (hd l[i] (List.getElem_mem hlt))
    have hs := val_split l i hlt
    have hw1 : IntKind.u8.wrap ((l[i].toNat : Int) - 48) = (dig l[i] : Int) := by rw [e1]; simp [IntKind.wrap, IntKind.bits, IntKind.signed, IntKind.max]; omega
    have hw2 : IntKind.i64.wrap (dig l[i] : Int) = (dig l[i] : Int) := by rw [wrap64_in (by omega) (by omega)]
    have hw3 : IntKind.i64.wrap (9223372036854775807 - (dig l[i] : Int)) = 9223372036854775807 - (dig l[i] : Int) := by rw [wrap64_in (by omega) (by omega)]
    obtain ⟨k, hk⟩ : ∃ k, k = (9223372036854775807 - dig l[i]) / 10 := ⟨_, rfl⟩
    have hq : (9223372036854775807 - (dig l[i] : Int)).tdiv 10 = (k : Int) := by
      rw [Int.tdiv_eq_ediv_of_nonneg (by omega)]; omega
    have hw4 : IntKind.i64.wrap (k : Int) = k := by rw [wrap64_in (by omega) (by omega)]
    generalize hdd : dig l[i] = d at *
    generalize hvv : val (l.take i) = n at *
    by_cases hov : k < n
    · have hbig : ¬ val l ≤ 9223372036854775807 := by
        have := val_take_le l (i + 1)
        omega
      simp [f74b0, a4, a9, a10, a11, hlt, q1, q2, hw1, hw2, hw3, hq, hw4, hov, hbig, ht]
    · have hw5 : IntKind.i64.wrap ((n : Int) * 10) = ((n * 10 : Nat) : Int) := by rw [wrap64_in (by omega) (by omega)]; simp
      have hw6 : IntKind.i64.wrap ((n * 10 : Nat) + (d : Int)) = ((n * 10 + d : Nat) : Int) := by rw [wrap64_in (by omega) (by omega)]; simp
      simp only [Int.natCast_mul, Int.cast_ofNat_Int] at hw5 hw6
      simp [f74b0, a4, a9, a10, a11, hlt, q1, q2, hw1, hw2, hw3, hq, hw4, hov, hw5, hw6, wrapS i (by omega)]
      exact ⟨l.length - (i + 1), by omega, i + 1, rfl, by omega, by rw [hs]; simp, by simp, by omega⟩
  · have : i = l.length := by omega
    subst this
    rw [List.take_length] at a4 hm
    simp [f74b0, a4, a9, a10, a11, hm, ht]

/-- word. -/
def zTok : Tok := ⟨0, [], 0, 0⟩
def tokC (t : Tok) : List AVal := [.int t.kind, .str t.text, .int t.num, .int t.scale]
def lexV : Res → AVal
  | .ok (t, n) => .tuple [.agg (tokC t), .int n, .int 0]
  | .error e => .tuple [.agg (tokC zTok), .int 0, .int e]

theorem w35 (l : Bs) (hl : l.length ≤ 4194304) (S : Heap) : ACalls Tryz.prog (B0 w0) 35 [.str l] S fun e S' => e = .ret (lexV (word l)) ∧ S' = S := by
  refine ACalls.close (R := fun e S' => e = .ret (lexV (word l)) ∧ S'.take S.length = S) ?_ ?_
  rotate_left 1
  · rintro e S' ⟨rfl, ht⟩
    refine .flat ht ?_ ⟨rfl, rfl⟩
    unfold lexV; split <;> simp [AEnd.sc, tokC]
  refine fn_sound tryOrd (f35_c _) (by simp [f35]) ?_
  simp [f35, f35m]
  refine (w70 (q := 71) (p := isW) w71 l hl _).use ?_
  rintro e S1 ⟨rfl, rfl⟩
  have hle := run_le isW l
  by_cases hgt : 32 < run isW l
  · have hgt' : (32 : Int) < (run isW l : Int) := by omega
    simp [hgt, hgt', word, lexV, tokC, zTok]
  · have hgt' : ¬ (32 : Int) < (run isW l : Int) := by omega
    have hn : (0 : Int) ≤ (run isW l : Int) := by omega
    simp [hgt, hgt', sslcR, bound, hn, hle]
    have hext := ext_ok (β := B0 w0) 72 [.str (l.take (run isW l))] (.str ((l.take (run isW l)).map Lib.lowerB)) (by
      have : ((l.take (run isW l)).all (fun b => decide (b.toNat < 128)) && decide ((l.take (run isW l)).length ≤ 140737488355328)) = true := by
        simp only [Bool.and_eq_true, decide_eq_true_eq, List.all_eq_true]
        refine ⟨fun c hc => ?_, by rw [List.length_take]; omega⟩
        have := mem_take_run c hc
        simp [isW, Lx.isL, isD] at this
        omega
      simp only [ext, this, if_true]; rfl)
    refine (hext _).use ?_
    rintro e S1 ⟨rfl, rfl⟩
    simp [hgt, word, lexV, tokC]
end Go.Abs
set_option linter.unusedSimpArgs false
set_option linter.unusedVariables false
namespace Go.Abs
open Go Go.RowKit Go.Proofs Go.Lx
variable {w0 : World}

theorem realD (l : Bs) : ∀ x ∈ l.take (run isD l) ++ (l.drop (run isD l + 1)).take (Lx.part (l.drop (run isD l))), isD x = true := by
  intro x hx
  simp only [List.mem_append] at hx
  rcases hx with hx | hx
  · exact mem_take_run x hx
  · generalize run isD l = q at *
    have e : l.drop (q + 1) = (l.drop q).drop 1 := by rw [List.drop_drop]
    rw [e] at hx
    generalize l.drop q = l at *
    cases l with
    | nil => simp at hx
    | cons a l =>
      rw [part_cons] at hx
      split at hx
      · exact mem_take_run x hx
      · simp at hx

theorem u8_eq {c d : UInt8} : c = d ↔ c.toNat = d.toNat := ⟨fun h => by rw [h], fun h => UInt8.toNat_inj.1 h⟩

set_option maxHeartbeats 1000000 in
theorem w37 (l : Bs) (hl : l.length ≤ 4194304) (S : Heap) : ACalls Tryz.prog (B0 w0) 37 [.str l] S fun e S' => e = .ret (lexV (Lx.number l)) ∧ S' = S := by
  refine ACalls.close (R := fun e S' => e = .ret (lexV (Lx.number l)) ∧ S'.take S.length = S) ?_ ?_
  rotate_left 1
  · rintro e S' ⟨rfl, ht⟩
    refine .flat ht ?_ ⟨rfl, rfl⟩
    unfold lexV; split <;> simp [AEnd.sc, tokC]
  have hle := run_le isD l
  have hpl := part_le (l.drop (run isD l))
  rw [List.length_drop] at hpl
  have hT : ∀ c ∈ l.take (run isD l), isD c = true := fun c hc => mem_take_run c hc
  have hR := realD l
  have hspec : Lx.number l = Lx.number l := rfl
  conv at hspec => rhs; unfold Lx.number
  have hpart : ∀ r : Bs, Lx.part r = if r.head? = some 46 then run isD (r.drop 1) else 0 := by
    intro r
    cases r with
    | nil => rfl
    | cons c r =>
      rw [part_cons]
      have : (c.toNat = 46) ↔ c = 46 := (u8_eq (c := c) (d := 46)).symm
      simp [this]
  have hpart := hpart (l.drop (run isD l))
  refine fn_sound tryOrd (f37_c _) (by simp [f37]) ?_
  simp [f37, f37m]
  refine (w70 (q := 36) (p := isD) w36 l hl _).use ?_
  rintro e S1 ⟨rfl, rfl⟩
  have hn : (0 : Int) ≤ (run isD l : Int) := by omega
  simp [sslcR, bound, hn, hle]
  have hr1 : l.drop (run isD l + 1) = (l.drop (run isD l)).drop 1 := by rw [List.drop_drop]
  have hrl : (l.drop (run isD l)).length = l.length - run isD l := List.length_drop
  generalize hw : run isD l = w at *
  generalize hr : l.drop w = r at *
  refine (w73 r 46 _).use ?_
  rintro e S1 ⟨rfl, rfl⟩
  generalize hpt : Lx.part r = pt at *
  generalize Lx.number l = out at *
  by_cases hp0 : pt = 0
  · subst hp0
    rw [if_pos rfl] at hspec
    by_cases hp : r.head? = some 46
    all_goals
      first
      | rw [if_pos hp] at hpart
        obtain ⟨r', rfl⟩ : ∃ r', r = 46 :: r' := by
          cases r with
          | nil => cases hp
          | cons c r' => simp at hp; exact ⟨r', by rw [hp]⟩
        simp at hpart hrl
        simp [sslcR, bound]
        refine (w70 (q := 36) (p := isD) w36 r' (by omega) _).use ?_
        rintro e S1 ⟨rfl, rfl⟩
        simp [hn, hle, ← hpart, sslcR, bound]
      | have hg : (r.head? == some 46) = false := beq_eq_false_iff_ne.2 hp
        simp [hg, hn, hle, sslcR, bound]
    all_goals
      refine (w74 (l.take w) (by rw [List.length_take]; omega) hT _).use ?_
      rintro e S1 ⟨rfl, rfl⟩
      by_cases hv : val (l.take w) ≤ 9223372036854775807
      · by_cases h19 : 19 < w
        · have h19' : (19 : Int) < (w : Int) := by omega
          rw [if_pos (.inl h19)] at hspec
          simp [hv, h19, h19', hspec, lexV, tokC, zTok]
        · have h19' : ¬ (19 : Int) < (w : Int) := by omega
          rw [if_neg (by omega)] at hspec
          simp [hv, h19, h19', hspec, lexV, tokC, zTok]
      · rw [if_pos (.inr (by omega))] at hspec
        by_cases h19 : 19 < w
        · have h19' : (19 : Int) < (w : Int) := by omega
          simp [hv, h19, h19', hspec, lexV, tokC, zTok]
        · have h19' : ¬ (19 : Int) < (w : Int) := by omega
          simp [hv, h19, h19', hspec, lexV, tokC, zTok]
  · rw [if_neg hp0] at hspec
    by_cases hp : r.head? = some 46
    rotate_left 1
    · rw [if_neg hp] at hpart; exact absurd hpart hp0
    rw [if_pos hp] at hpart
    obtain ⟨r', rfl⟩ : ∃ r', r = 46 :: r' := by
      cases r with
      | nil => cases hp
      | cons c r' => simp at hp; exact ⟨r', by rw [hp]⟩
    simp at hpart hrl
    simp [sslcR, bound]
    refine (w70 (q := 36) (p := isD) w36 r' (by omega) _).use ?_
    rintro e S1 ⟨rfl, rfl⟩
    rw [← hpart]
    have hp0' : ¬ (pt : Int) = 0 := by omega
    have hg : ((pt : Int) == 0) = false := beq_eq_false_iff_ne.2 hp0'
    have hw1 : IntKind.i64.wrap ((w : Int) + (pt : Int)) = ((w + pt : Nat) : Int) := by rw [wrap64_in (by omega) (by omega)]; simp
    have hw2 : IntKind.i64.wrap ((w : Int) + 1) = ((w + 1 : Nat) : Int) := by rw [wrap64_in (by omega) (by omega)]; simp
    have hw3 : IntKind.i64.wrap (((w + 1 : Nat) : Int) + (pt : Int)) = ((w + 1 + pt : Nat) : Int) := by rw [wrap64_in (by omega) (by omega)]; simp
    generalize hA : w + pt = A at *
    generalize hB : w + 1 = B at *
    generalize hC : B + pt = C at *
    by_cases h15 : 15 < A
    · rw [if_pos h15] at hspec
      have h15' : (15 : Int) < (A : Int) := by omega
      simp [hn, hle, hg, hw1, h15, h15', hspec, lexV, tokC, zTok]
    · rw [if_neg h15] at hspec
      have h15' : ¬ (15 : Int) < (A : Int) := by omega
      have hB0 : (0 : Int) ≤ (B : Int) := by omega
      have hC0 : (0 : Int) ≤ (C : Int) := by omega
      have hBC : B ≤ C := by omega
      have hCl : C ≤ l.length := by omega
      have e1 : C - B = pt := by omega
      have e2 : (l.take C).drop B = (l.drop B).take pt := by rw [List.drop_take, e1]
      have hlen : (l.take w).length + ((l.drop B).take pt).length ≤ 9223372036854775807 := by simp; omega
      have hlen2 : (l.take w ++ (l.drop B).take pt).length ≤ 15 := by simp; omega
      have hv := val_lt _ hR
      have hv2 : val (l.take w ++ (l.drop B).take pt) < 10 ^ 15 := Nat.lt_of_lt_of_le hv (Nat.pow_le_pow_right (by omega) hlen2)
      have hv3 : val (l.take w ++ (l.drop B).take pt) ≤ 9223372036854775807 := by
        have : (10 : Nat) ^ 15 ≤ 9223372036854775807 := by decide
        omega
      have w74' := fun S => w74 (w0 := w0) (l.take w ++ (l.drop B).take pt) (by omega) hR S
      clear hr1 hr hrl
      simp [hn, hle, hg, hw1, hw2, hw3, h15, h15', sslcR, bound, hB0, hC0, hBC, hCl]
      refine ⟨by omega, ?_⟩
      rw [e2]
      generalize l.take w ++ (l.drop B).take pt = ds at *
      refine (w74' _).use ?_
      rintro e S1 ⟨rfl, rfl⟩
      simp [hv3, hw1, hw2, hw3, hspec, lexV, tokC]

/-! ### Texts -/
theorem txt_pre (b : Bs) : ∀ (a : Bs), (∀ c ∈ a, ¬ c.toNat = 39) → txt (a ++ b) = (txt b).map fun x => (a ++ x.1, x.2 + a.length)
  | [], _ => by cases h : txt b <;> simp [h]
  | c :: r, h => by
    rw [List.cons_append, txt_other (h c (by simp)), txt_pre b r fun x hx => h x (by simp [hx])]
    cases txt b <;> simp [Nat.add_assoc]
theorem indexByte_spec : ∀ (r : Bs), (Lib.indexByte r 39 = -1 ∧ ∀ c ∈ r, ¬ c.toNat = 39) ∨ ∃ a b, r = a ++ 39 :: b ∧ (∀ c ∈ a, ¬ c.toNat = 39) ∧ Lib.indexByte r 39 = a.length
  | [] => .inl ⟨rfl, by simp⟩
  | c :: r => by
    by_cases hc : c = 39
    · subst hc
      exact .inr ⟨[], r, rfl, by simp, by simp [Lib.indexByte]⟩
    · have hc' : ¬ c.toNat = 39 := fun h => hc (UInt8.toNat_inj.1 h)
      have hb : (c == 39) = false := beq_eq_false_iff_ne.2 hc
      rcases indexByte_spec r with ⟨h1, h2⟩ | ⟨a, b, rfl, h2, h3⟩
      · refine .inl ⟨by simp [Lib.indexByte, hb, h1], ?_⟩
        intro x hx
        simp only [List.mem_cons] at hx
        rcases hx with rfl | hx
        · exact hc'
        · exact h2 x hx
      · refine .inr ⟨c :: a, b, rfl, ?_, ?_⟩
        · intro x hx
          simp only [List.mem_cons] at hx
          rcases hx with rfl | hx
          · exact hc'
          · exact h2 x hx
        · have hne : ¬ ((a.length : Int) = -1) := by omega
          simp [Lib.indexByte, hb, h3, hne]
theorem w69 (l : Bs) (c : UInt8) (S : Heap) : ACalls Tryz.prog (B0 w0) 69 [.str l, bv c] S fun e S' => e = .ret (.int (Lib.indexByte l c)) ∧ S' = S :=
  ext_ok 69 [.str l, bv c] _ (by simp [ext]) S

def txtV (x : Option (Bs × Nat)) : Res :=
  match x with
  | none => .error 121
  | some (b, n) => if 200 < b.length then .error 1 else .ok (⟨4, b, 0, 0⟩, n + 1)

set_option maxHeartbeats 1000000 in
theorem w38 (c : UInt8) (l : Bs) (hl : l.length ≤ 4194304) (S : Heap) : ACalls Tryz.prog (B0 w0) 38 [.str (c :: l)] S fun e S' => e = .ret (lexV (Lx.text (c :: l))) ∧ S' = S := by
  refine ACalls.close (R := fun e S' => e = .ret (lexV (Lx.text (c :: l))) ∧ S'.take S.length = S) ?_ ?_
  rotate_left 1
  · rintro e S' ⟨rfl, ht⟩
    refine .flat ht ?_ ⟨rfl, rfl⟩
    unfold lexV; split <;> simp [AEnd.sc, tokC]
  have hspec : Lx.text (c :: l) = txtV (txt l) := rfl
  rw [hspec]
  refine fn_sound tryOrd (f38_c _) (by simp [f38]) ?_
  simp [f38, f38m]
  refine mwp_loop (I := fun n a S' => ∃ (o b : Bs) (k : Nat), n = b.length ∧ get a 0 = .str (c :: l) ∧ get a 2 = .ptr S.length 0 0 ∧ get a 5 = .str o ∧ get a 6 = .int k ∧ 1 ≤ k ∧ (c :: l).drop k = b ∧ b.length + k = l.length + 1 ∧ o.length ≤ k ∧
    txt l = (txt b).map (fun x => (o ++ x.1, x.2 + (k - 1))) ∧ S' = S ++ [.cells 4 [[.int 0, .str [], .int 0, .int 0]] (some 1)]) (n := l.length) ?_ ?_
  · refine ⟨[], l, 1, rfl, rfl, rfl, rfl, rfl, by omega, rfl, by omega, by simp, ?_, rfl⟩
    cases txt l <;> simp
  rintro n a S' ⟨o, b, k, rfl, a0, a2, a5, a6, hk, hdrop, hlen, ho, ht, rfl⟩
  have hk0 : (0 : Int) ≤ (k : Int) := by omega
  have hkl : k ≤ l.length + 1 := by omega
  have w69' := fun S => w69 (w0 := w0) b 39 S
  simp [f38b0, a0, a2, a5, a6, sslcR, bound, hk0, hkl, hdrop]
  refine (w69' _).use ?_
  rintro e S1 ⟨rfl, rfl⟩
  rcases indexByte_spec b with ⟨h1, h2⟩ | ⟨p, q, rfl, h2, h3⟩
  · have hnone : txt b = none := by
      have := txt_pre [] b h2
      rw [List.append_nil, txt_nil] at this; exact this
    rw [hnone] at ht
    simp [h1, ht, a2, txtV, lexV, tokC, zTok]
  · rw [txt_pre _ _ h2] at ht
    simp only [List.length_append, List.length_cons] at hlen
    have hm0 : ¬ (p.length : Int) < 0 := by omega
    have hw1 : IntKind.i64.wrap ((k : Int) + (p.length : Int)) = ((k + p.length : Nat) : Int) := by rw [wrap64_in (by omega) (by omega)]; simp
    have hw2 : IntKind.i64.wrap ((p.length : Int) + 1) = ((p.length + 1 : Nat) : Int) := by rw [wrap64_in (by omega) (by omega)]; simp
    have hw3 : IntKind.i64.wrap ((k : Int) + ((p.length + 1 : Nat) : Int)) = ((k + (p.length + 1) : Nat) : Int) := by rw [wrap64_in (by omega) (by omega)]; simp
    have e1 : ((c :: l).take (k + p.length)).drop k = p := by
      rw [List.drop_take, Nat.add_sub_cancel_left, hdrop, List.take_left]
    have e2 : (c :: l).drop (k + (p.length + 1)) = q := by
      rw [← List.drop_drop, hdrop]
      simp
    have hA : k ≤ k + p.length := by omega
    have hB : k + p.length ≤ l.length + 1 := by omega
    have hC : k + (p.length + 1) ≤ l.length + 1 := by omega
    have hD0 : (0 : Int) ≤ ((k + p.length : Nat) : Int) := by omega
    have hE0 : (0 : Int) ≤ ((k + (p.length + 1) : Nat) : Int) := by omega
    have hol : (o ++ p).length ≤ k + p.length := by simp; omega
    have hob : o.length + p.length ≤ 9223372036854775807 := by omega
    have w73' := fun S => w73 (w0 := w0) q 39 S
    generalize hm : p.length = m at *
    generalize hD : k + m = D at *
    generalize hF : m + 1 = F at *
    generalize hG : k + F = G at *
    have hop : (o ++ p).length = o.length + m := by simp [hm]
    simp [h3, hm0, hw1, hw2, hw3, a0, a2, a5, a6, sslcR, bound, hA, hB, hC, hD0, hE0, hk0, e1, e2, hob, hm]
    refine (w73' _).use ?_
    rintro e S1 ⟨rfl, rfl⟩
    generalize hopp : o ++ p = op at *
    by_cases hq : q.head? = some 39
    · obtain ⟨q', rfl⟩ : ∃ q', q = 39 :: q' := by
        cases q with
        | nil => cases hq
        | cons d q' => simp at hq; exact ⟨q', by rw [hq]⟩
      rw [txt_two rfl rfl] at ht
      simp only [List.length_cons] at hlen
      have hw4 : IntKind.i64.wrap ((G : Int) + 1) = ((G + 1 : Nat) : Int) := by rw [wrap64_in (by omega) (by omega)]; simp
      have hop1 : op.length + 1 ≤ 9223372036854775807 := by omega
      simp [a0, a2, a5, a6, hw4, hop1]
      refine ⟨q'.length, by omega, op ++ [39], q', rfl, rfl, G + 1, by simp, by omega, ?_, by omega, by simp; omega, ?_⟩
      · rw [← List.drop_drop, e2]; rfl
      · rw [ht]
        cases txt q' with
        | none => rfl
        | some x =>
          simp only [Option.map_some, Option.some.injEq, Prod.mk.injEq]
          exact ⟨by rw [← hopp]; simp, by omega⟩
    · have hg : (q.head? == some 39) = false := beq_eq_false_iff_ne.2 hq
      rw [txt_end rfl (fun d r' e => by
        intro h
        rw [e] at hq
        simp at hq
        exact hq (UInt8.toNat_inj.1 h))] at ht
      have hfin : txt l = some (op, G - 1) := by
        rw [ht]
        simp only [Option.map_some, Option.some.injEq, Prod.mk.injEq]
        exact ⟨by rw [← hopp]; simp, by omega⟩
      rw [hfin]
      by_cases h2 : 200 < op.length
      · have h2' : (200 : Int) < (op.length : Int) := by omega
        simp [hg, a0, a2, a5, a6, h2, h2', txtV, lexV, tokC, zTok]
      · have h2' : ¬ (200 : Int) < (op.length : Int) := by omega
        have e3 : G - 1 + 1 = G := by omega
        simp [hg, a0, a2, a5, a6, h2, h2', txtV, lexV, tokC, zTok]
        omega
end Go.Abs
set_option linter.unusedSimpArgs false
set_option linter.unusedVariables false
namespace Go.Abs
open Go Go.RowKit Go.Proofs Go.Lx
variable {w0 : World}

def strs (L : List Bs) : List (List AVal) := L.map fun s => [.str s]
@[simp] theorem strs_len (L : List Bs) : (strs L).length = L.length := by simp [strs]
theorem strs_get (L : List Bs) (i : Nat) (h : i < L.length) : (strs L).getD i [] = [.str L[i]] := by
  rw [getD_eq _ _ _ (by simpa using h)]; simp [strs]
theorem Rk.strx {S v L} (h : Rk 1 S v (strs L)) {i : Nat} (hi : i < L.length) : ∃ p, iaddrR 1 S v (.int i) = .ok true p S ∧ loadR false 1 S p = .ok true (.str L[i]) S := by
  obtain ⟨p, h1, h2, _⟩ := h.elem (i := i) (by simpa using hi) (by rw [strs_get _ _ hi]; rfl)
  refine ⟨p, h1, ?_⟩
  rw [h2 false 1 (Nat.le_refl _), strs_get _ _ hi]; rfl

/-- slices.Contains. -/
theorem w68 {S : Heap} {v : AVal} {L : List Bs} {x : Bs} (h : Rk 1 S v (strs L)) (hl : L.length ≤ 4194304) : ACalls Tryz.prog (B0 w0) 68 [v, .str x] S fun e S' => e = .ret (.bool (decide (x ∈ L))) ∧ S' = S := by
  have h80 : ACalls Tryz.prog (B0 w0) 96 [v, .str x] S fun e S' => ∃ z : Int, e = .ret (.int z) ∧ decide (0 ≤ z) = decide (x ∈ L) ∧ S' = S := by
    refine fn_sound tryOrd (f96_c _) (by simp [f96]) ?_
    simp [f96, f96m, h.lenR]
    refine mwp_loop (I := fun n a S' => ∃ i : Nat, n = L.length - i ∧ i ≤ L.length ∧ get a 0 = v ∧ get a 1 = .str x ∧ get a 7 = .int L.length ∧ get a 8 = .int i ∧ S' = S ∧ x ∉ L.take i) (n := L.length) ?_ ?_
    · exact ⟨0, rfl, Nat.zero_le _, rfl, rfl, rfl, rfl, rfl, by simp⟩
    rintro n a S' ⟨i, rfl, hi, a0, a1, a7, a8, rfl, hnot⟩
    by_cases hlt : i < L.length
    · obtain ⟨p, q1, q2⟩ := h.strx hlt
      by_cases hx : x = L[i]
      · have : x ∈ L := hx ▸ List.getElem_mem hlt
        have h0 : (0 : Int) ≤ (i : Int) := by omega
        simp [f96b0, a0, a1, a7, a8, hlt, q1, q2, hx]
      · have hx' : ¬ L[i] = x := fun e => hx e.symm
        simp [f96b0, a0, a1, a7, a8, hlt, q1, q2, hx, wrapS i (by omega)]
        exact ⟨L.length - (i + 1), by omega, i + 1, rfl, by omega, by simp, not_mem_take_succ hnot hlt hx'⟩
    · have : i = L.length := by omega
      subst this
      rw [List.take_length] at hnot
      simp [f96b0, a0, a1, a7, a8, hnot]
  refine fn_sound tryOrd (f68_c _) (by simp [f68]) ?_
  simp [f68, f68m]
  refine h80.use ?_
  rintro e S1 ⟨z, rfl, hz, rfl⟩
  simp [hz]

theorem indexByte_mem (l : Bs) (c : UInt8) : (Lib.indexByte l c < 0 ↔ c ∉ l) ∧ -1 ≤ Lib.indexByte l c := by
  induction l with
  | nil => simp [Lib.indexByte]
  | cons d r ih =>
    by_cases h : d = c
    · subst h; simp [Lib.indexByte]
    · have hb : (d == c) = false := beq_eq_false_iff_ne.2 h
      have h' : ¬ c = d := fun e => h e.symm
      simp only [Lib.indexByte, hb, Bool.false_eq_true, if_false, List.mem_cons, h', false_or]
      by_cases hm : Lib.indexByte r c = -1
      · have := ih.1.1 (by omega)
        simp [hm, this]
      · have hb2 : (Lib.indexByte r c == -1) = false := beq_eq_false_iff_ne.2 hm
        simp only [hb2, Bool.false_eq_true, if_false]
        have h1 := ih.1
        have h2 := ih.2
        have : ¬ Lib.indexByte r c < 0 := by omega
        have h3 : c ∈ r := by
          have := mt h1.2 this
          simpa using this
        simp [h3]; omega

def twos : List Bs := [[60, 62], [60, 61], [62, 61], [124, 124]]
theorem two_mem (c d : UInt8) : decide ([c, d] ∈ twos) = two c d := by
  rw [Bool.eq_iff_iff]
  simp only [twos, two, List.mem_cons, List.cons.injEq, and_true, List.mem_nil_iff, or_false, decide_eq_true_eq, Bool.or_eq_true, Bool.and_eq_true]
  simp only [u8_eq]
  have h1 : (60 : UInt8).toNat = 60 := rfl
  have h2 : (61 : UInt8).toNat = 61 := rfl
  have h3 : (62 : UInt8).toNat = 62 := rfl
  have h4 : (124 : UInt8).toNat = 124 := rfl
  rw [h1, h2, h3, h4]
  constructor <;> intro h <;> omega

set_option maxHeartbeats 1000000 in
theorem w33 (c : UInt8) (l : Bs) (hl : l.length ≤ 4194304) (S : Heap) : ACalls Tryz.prog (B0 w0) 33 [.str (c :: l)] S fun e S' => e = .ret (lexV (Lx.sign (c :: l))) ∧ S' = S := by
  refine ACalls.close (R := fun e S' => e = .ret (lexV (Lx.sign (c :: l))) ∧ S'.take S.length = S) ?_ ?_
  rotate_left 1
  · rintro e S' ⟨rfl, ht⟩
    refine .flat ht ?_ ⟨rfl, rfl⟩
    unfold lexV; split <;> simp [AEnd.sc, tokC]
  refine fn_sound tryOrd (f33_c _) (by simp [f33]) ?_
  have w69' := fun S => w69 (w0 := w0) ones c S
  obtain ⟨hi, _⟩ := indexByte_mem ones c
  cases l with
  | nil =>
    simp [f33, f33m]
    refine (w69' _).use ?_
    rintro e S1 ⟨rfl, rfl⟩
    by_cases hm : c ∈ ones
    · have h0 : ¬ Lib.indexByte ones c < 0 := fun h => hi.1 h hm
      simp [h0, hm, sslcR, bound, Lx.sign, lexV, tokC]
    · have h0 : Lib.indexByte ones c < 0 := hi.2 hm
      simp [h0, hm, Lx.sign, lexV, tokC, zTok]
  | cons d r =>
    have hlen : (1 : Int) < (r.length : Int) + 1 + 1 := by omega
    simp [f33, f33m, hlen, sslcR, bound]
    refine (w68 (w0 := w0) (L := twos) (x := [c, d]) (.list .full _) (by decide)).use ?_
    rintro e S1 ⟨rfl, rfl⟩
    rw [two_mem]
    by_cases h2 : two c d = true
    · simp [h2, sslcR, bound, Lx.sign, lexV, tokC]
    · simp [h2, sslcR, bound]
      refine ⟨by omega, (w69' _).use ?_⟩
      rintro e S1 ⟨rfl, rfl⟩
      by_cases hm : c ∈ ones
      · have h0 : ¬ Lib.indexByte ones c < 0 := fun h => hi.1 h hm
        simp [h0, hm, h2, sslcR, bound, Lx.sign, lexV, tokC]
      · have h0 : Lib.indexByte ones c < 0 := hi.2 hm
        simp [h0, hm, h2, Lx.sign, lexV, tokC, zTok]
end Go.Abs
set_option linter.unusedSimpArgs false
set_option linter.unusedVariables false
namespace Go.Abs
open Go Go.RowKit Go.Proofs Go.Lx
variable {w0 : World}

theorem one_err {l : Bs} {e : Int} (h : Lx.one l = .error e) : 0 < e := by
  cases l with
  | nil => simp [Lx.one] at h; omega
  | cons c r =>
    rw [Lx.one] at h
    split at h
    · rw [Lx.word] at h; split at h <;> simp at h; omega
    · split at h
      · rw [Lx.number] at h
        split at h
        · split at h <;> simp at h; omega
        · split at h <;> simp at h; omega
      · split at h
        · rw [Lx.text] at h
          split at h
          · simp at h; omega
          · split at h <;> simp at h; omega
        · cases r with
          | nil => rw [Lx.sign] at h; split at h <;> simp at h; omega
          | cons d r => rw [Lx.sign] at h; split at h <;> (try split at h) <;> simp at h; omega

def toksV (ts : List Tok) : List (List AVal) := ts.map tokC
@[simp] theorem toksV_len (ts : List Tok) : (toksV ts).length = ts.length := by simp [toksV]
theorem toksV_k (ts : List Tok) : ∀ e ∈ toksV ts, e.length = 4 := by simp [toksV, tokC]
theorem toksV_sc (ts : List Tok) (n : Nat) : scLL n (toksV ts) = true := by
  refine scLL_iff.2 fun e he => ?_
  simp only [toksV, List.mem_map] at he
  obtain ⟨t, _, rfl⟩ := he
  simp [tokC, scL, AVal.sc]

/-- What Tokens answers. -/
inductive TokR (S : Heap) : Except Int (List Tok) → AEnd → Heap → Prop
  | ok (ts : List Tok) (u : AVal) (S' : Heap) (ho : Own S.length S S' [(u, 4, toksV ts)]) : TokR S (.ok ts) (.ret (.tuple [u, .int 0])) S'
  | err (e : Int) (he : e ≠ 0) (S' : Heap) (hl : S.length ≤ S'.length) (ht : ∀ j, j < S.length → S'[j]? = S[j]?) : TokR S (.error e) (.ret (.tuple [.nilS, .int e])) S'

def catT (acc : List Tok) : Except Int (List Tok) → Except Int (List Tok)
  | .ok ts => .ok (acc ++ ts)
  | .error e => .error e
theorem catT_cat (a b : List Tok) (x : Except Int (List Tok)) : catT (a ++ b) x = catT a (catT b x) := by cases x <;> simp [catT]

theorem dropWhile_head {p : UInt8 → Bool} : ∀ {l : Bs} {c : UInt8} {r : Bs}, l.dropWhile p = c :: r → p c = false
  | [], _, _, h => by cases h
  | d :: l, c, r, h => by
    rw [List.dropWhile_cons] at h
    split at h
    · exact dropWhile_head h
    · rename_i hp
      cases h
      simpa using hp
theorem dropWhile_le {p : UInt8 → Bool} (l : Bs) : (l.dropWhile p).length ≤ l.length := (List.dropWhile_sublist p).length_le

set_option maxHeartbeats 1000000 in
theorem w19 (l : Bs) (S : Heap) : ACalls Tryz.prog (B0 w0) 19 [.str l] S fun e S' => TokR S (Lx.tokens l) e S' := by
  refine fn_sound tryOrd (f19_c _) (by simp [f19]) ?_
  by_cases hl : 4000 < l.length
  · have hl' : (4000 : Int) < (l.length : Int) := by omega
    simp [f19, f19m, hl, hl']
    rw [Lx.tokens, if_pos hl]
    exact .err 1 (by decide) S (Nat.le_refl _) (fun _ _ => rfl)
  have hl' : ¬ (4000 : Int) < (l.length : Int) := by omega
  simp [f19, f19m, hl, hl']
  rw [Lx.tokens, if_neg hl]
  refine mwp_loop (I := fun n a S' => ∃ (r : Bs) (u : AVal) (acc : List Tok), n = r.length ∧ get a 0 = .str r ∧ get a 4 = u ∧ Own S.length S S' [(u, 4, toksV acc)] ∧ acc.length + r.length ≤ l.length ∧
    toks l = catT acc (toks r)) (n := l.length) ?_ ?_
  · refine ⟨l, .nilS, [], rfl, rfl, rfl, (Own.start S).add0 4 .nil (.inl rfl), by simp, ?_⟩
    cases toks l <;> rfl
  rintro n a S1 ⟨r, u, acc, rfl, a0, a4, ho, hlen, hspec⟩
  simp [f19b0, a0, a4]
  refine (w32 r _).use ?_
  rintro e S2 ⟨rfl, rfl⟩
  rw [← toks_drop r] at hspec
  have hdl := dropWhile_le (p := isB) r
  cases hd : r.dropWhile isB with
  | nil =>
    rw [hd, toks_nil] at hspec
    simp [a0, a4]
    rw [hspec, catT, List.append_nil]
    exact .ok _ _ _ ho
  | cons c r' =>
    rw [hd] at hspec hdl
    have hb := dropWhile_head hd
    simp only [List.length_cons] at hdl
    have hr4 : r'.length ≤ 4194304 := by omega
    have hone : Lx.one (c :: r') = if Lx.isL c then Lx.word (c :: r') else if isD c then Lx.number (c :: r') else if c.toNat = 39 then Lx.text (c :: r') else Lx.sign (c :: r') := by rw [Lx.one]
    have w35' := fun S => w35 (w0 := w0) (c :: r') (by simp; omega) S
    have w37' := fun S => w37 (w0 := w0) (c :: r') (by simp; omega) S
    have w38' := fun S => w38 (w0 := w0) c r' hr4 S
    have w33' := fun S => w33 (w0 := w0) c r' hr4 S
    simp [a0, a4]
    refine (w34 c _).use ?_
    rintro e S1 ⟨rfl, rfl⟩
    have hcase : (Lx.isL c = true) ∨ (¬ Lx.isL c = true ∧ isD c = true) ∨ (¬ Lx.isL c = true ∧ ¬ isD c = true ∧ c.toNat = 39) ∨ (¬ Lx.isL c = true ∧ ¬ isD c = true ∧ ¬ c.toNat = 39) := by
      by_cases h1 : Lx.isL c = true <;> by_cases h2 : isD c = true <;> by_cases h3 : c.toNat = 39 <;> simp [h1, h2, h3]
    rcases hcase with h1 | ⟨h1, h2⟩ | ⟨h1, h2, h3⟩ | ⟨h1, h2, h3⟩
    all_goals
      first
      | rw [if_pos h1] at hone
        rw [← hone] at w35'
        simp [h1, a0, a4]
        refine (w35' _).use ?_
      | rw [if_neg h1, if_pos h2] at hone
        rw [← hone] at w37'
        simp [h1, a0, a4]
        refine (w36 c _).use ?_
        rintro e S1 ⟨rfl, rfl⟩
        simp [h2, a0, a4]
        refine (w37' _).use ?_
      | rw [if_neg h1, if_neg h2, if_pos h3] at hone
        rw [← hone] at w38'
        simp [h1, a0, a4]
        refine (w36 c _).use ?_
        rintro e S1 ⟨rfl, rfl⟩
        simp [h2, h3, a0, a4]
        refine (w38' _).use ?_
      | rw [if_neg h1, if_neg h2, if_neg h3] at hone
        rw [← hone] at w33'
        have h3' : ((c.toNat : Int) == 39) = false := beq_eq_false_iff_ne.2 (by omega)
        simp [h1, a0, a4]
        refine (w36 c _).use ?_
        rintro e S1 ⟨rfl, rfl⟩
        simp [h2, h3', a0, a4]
        refine (w33' _).use ?_
    all_goals
      rintro e S3 ⟨rfl, rfl⟩
      cases hres : Lx.one (c :: r') with
      | error e =>
        have hne := one_err hres
        have hne' : (e != 0) = true := by simp; omega
        rw [toks_err hb hres] at hspec
        simp [lexV, tokC, zTok, hne', a0, a4]
        rw [hspec]
        refine .err e (by omega) _ ?_ ?_
        · have := ho.le; simp; omega
        · intro j hj
          rw [List.getElem?_append_left (by have := ho.le; omega)]
          exact ho.low j hj
      | ok y =>
        obtain ⟨t, n⟩ := y
        have hn := one_len hres
        rw [toks_tok hb hres] at hspec
        obtain ⟨S4, happ, ho4, hlt4⟩ := (ho.more [.cells 4 [tokC t] (some 1)]).app 0 rfl (y := .list .full [tokC t]) (ys := [tokC t]) (bytes := 40) rfl (by simp [tokC]) (by decide) (by simp; omega) (by simp; omega)
        simp only [tokC] at happ
        have hn0 : (0 : Int) ≤ (n : Int) := by omega
        simp [-appendR, lexV, tokC, a0, a4, happ, sslcR, bound, hn0, hn.2]
        obtain ⟨m, rfl⟩ : ∃ m, n = m + 1 := ⟨n - 1, by omega⟩
        refine ⟨(r'.drop m).length, by rw [List.length_drop]; omega, r'.drop m, rfl, rfl, acc ++ [t], by simpa [toksV] using ho4, by simp; omega, ?_⟩
        rw [hspec, catT_cat, Nat.add_sub_cancel]
        cases toks (r'.drop m) <;> rfl

end Go.Abs
set_option linter.unusedSimpArgs false
set_option linter.unusedVariables false
namespace Go.Abs
open Go Go.RowKit Go.Proofs Go.Lx
variable {w0 : World}

def resv : List Bs := [[97, 110, 100], [97, 115], [98, 101, 103, 105, 110], [98, 111, 111, 108], [98, 121], [99, 111, 109, 109, 105, 116], [99, 114, 101, 97, 116, 101], [100, 101, 108, 101, 116, 101], [100, 101, 115, 99], [100, 114, 111, 112],
  [102, 97, 108, 115, 101], [102, 114, 111, 109], [105, 110, 100, 101, 120], [105, 110, 102, 105, 110, 105, 116, 121], [105, 110, 110, 101, 114], [105, 110, 115, 101, 114, 116], [105, 110, 116], [105, 110, 116, 111], [105, 115], [106, 111, 105, 110],
  [110, 97, 110], [110, 111, 116], [110, 117, 108, 108], [111, 110], [111, 114], [111, 114, 100, 101, 114], [114, 101, 97, 108], [114, 111, 108, 108, 98, 97, 99, 107], [115, 101, 108, 101, 99, 116], [115, 101, 116], [116, 97, 98, 108, 101], [116, 101, 120, 116],
  [116, 114, 117, 101], [117, 110, 105, 113, 117, 101], [117, 112, 100, 97, 116, 101], [118, 97, 108, 117, 101, 115], [119, 104, 101, 114, 101]]

set_option maxRecDepth 100000 in
set_option maxHeartbeats 4000000 in
/-- lex.Reserved. -/
theorem w81 (x : Bs) (S : Heap) : ACalls Tryz.prog (B0 w0) 81 [.str x] S fun e S' => e = .ret (.bool (decide (x ∈ resv))) ∧ S' = S := by
  by_cases h : x ∈ resv
  · rw [decide_eq_true h]
    simp only [resv, List.mem_cons, List.mem_nil_iff, or_false] at h
    refine fn_sound tryOrd (f81_c _) (by simp [f81]) ?_
    rcases h with rfl | rfl | rfl | rfl | rfl | rfl | rfl | rfl | rfl | rfl | rfl | rfl | rfl | rfl | rfl | rfl | rfl | rfl | rfl | rfl | rfl | rfl | rfl | rfl | rfl | rfl | rfl | rfl | rfl | rfl | rfl | rfl | rfl | rfl | rfl | rfl | rfl
    all_goals simp [f81, f81m]
  · rw [decide_eq_false h]
    simp only [resv, List.mem_cons, List.mem_nil_iff, or_false, not_or] at h
    refine fn_sound tryOrd (f81_c _) (by simp [f81]) ?_
    simp [f81, f81m, h]

theorem resv_len : resv.length = 37 := rfl
set_option maxHeartbeats 4000000 in
/-- The document's Reserved. -/
theorem w63 (x : Bs) (S : Heap) : ACalls Tryz.prog (B0 w0) 63 [.str x] S fun e S' => e = .ret (.bool (decide (x ∈ resv))) ∧ S' = S := by
  refine ACalls.close (R := fun e S' => e = .ret (.bool (decide (x ∈ resv))) ∧ S'.take S.length = S) ?_ ?_
  rotate_left 1
  · rintro e S' ⟨rfl, ht⟩
    exact .flat ht rfl ⟨rfl, rfl⟩
  refine fn_sound tryOrd (f63_c _) (by simp [f63]) ?_
  simp [f63, f63m]
  refine mwp_loop (I := fun q a S' => ∃ i : Nat, q = 37 - i ∧ i ≤ 37 ∧ get a 0 = .str x ∧ get a 3 = .ptr S.length 0 0 ∧ get a 4 = .int i ∧ S' = S ++ [.cells 37 [resv.map .str] (some 1)] ∧ x ∉ resv.take i) (n := 37) ?_ ?_
  · exact ⟨0, rfl, by omega, rfl, rfl, rfl, rfl, by simp⟩
  rintro q a S1 ⟨i, rfl, hi, a0, a3, a4, rfl, hnot⟩
  by_cases hlt : i < 37
  · have hlt' : i < resv.length := by rw [resv_len]; exact hlt
    have hi37 : (i : Int) < 37 := by omega
    have hwi := wrapS i (by omega)
    by_cases hx : resv[i] = x
    · have hm : x ∈ resv := hx ▸ List.getElem_mem hlt'
      simp [f63b0, a0, a3, a4, hlt, hlt', hi37, resv_len, hx, hm]
      omega
    · simp [f63b0, a0, a3, a4, hlt, hlt', hi37, resv_len, hx, hwi]
      exact ⟨by omega, 37 - (i + 1), by omega, i + 1, rfl, by omega, by simp, not_mem_take_succ hnot hlt' hx⟩
  · obtain rfl : i = 37 := by omega
    have hm : x ∉ resv := hnot
    simp [f63b0, a0, a3, a4, hm]

def nameB (x : Bs) : Bool := decide (1 ≤ x.length) && decide (x.length ≤ 32) && Lx.isL (x[0]?.getD 0) && x.all (fun c => isW c && decide (Lib.lowerB c = c)) && !decide (x ∈ resv)

set_option maxHeartbeats 2000000 in
/-- The document's Name. -/
theorem w31 (x : Bs) (S : Heap) : ACalls Tryz.prog (B0 w0) 31 [.str x] S fun e S' => e = .ret (.bool (nameB x)) ∧ S' = S := by
  have w63' := fun S => w63 (w0 := w0) x S
  refine fn_sound tryOrd (f31_c _) (by simp [f31]) ?_
  by_cases h1 : 1 ≤ x.length
  rotate_left 1
  · have h1' : (x.length : Int) < 1 := by omega
    simp [f31, f31m, h1', nameB, h1]
  have h1' : ¬ (x.length : Int) < 1 := by omega
  by_cases h2 : x.length ≤ 32
  rotate_left 1
  · have h2' : (32 : Int) < (x.length : Int) := by omega
    simp [f31, f31m, h1', h2', nameB, h2]
  have h2' : ¬ (32 : Int) < (x.length : Int) := by omega
  have h0 : 0 < x.length := by omega
  simp [f31, f31m, h1', h2']
  refine (w63' _).use ?_
  rintro e S1 ⟨rfl, rfl⟩
  by_cases hm : x ∈ resv
  · simp [hm, nameB]
  have w57' := fun S => w57 (w0 := w0) x[0] S
  simp [hm, h0]
  refine (w57' _).use ?_
  rintro e S1 ⟨rfl, rfl⟩
  by_cases hL : Lx.isL x[0] = true
  rotate_left 1
  · simp [hL, nameB, h0]
  have hnm : nameB x = x.all fun c => isW c && decide (Lib.lowerB c = c) := by
    simp [nameB, hm, h1, h2, h0, hL]
  rw [hnm]
  simp [hL]
  refine mwp_loop (I := fun q a S' => ∃ i : Nat, q = x.length - i ∧ i ≤ x.length ∧ get a 0 = .str x ∧ get a 3 = .int i ∧ S' = S1 ∧ (x.take i).all (fun c => isW c && decide (Lib.lowerB c = c)) = true) (n := x.length) ?_ ?_
  · exact ⟨0, rfl, Nat.zero_le _, rfl, rfl, rfl, by simp⟩
  rintro q a S2 ⟨i, rfl, hi, a0, a3, rfl, hall⟩
  by_cases hlt : i < x.length
  · have w60' := fun S => w60 (w0 := w0) x[i] S
    have w57' := fun S => w57 (w0 := w0) x[i] S
    have w59' := fun S => w59 (w0 := w0) x[i] S
    have hwi := wrapS i (by omega)
    have hmem : x[i] ∈ x := List.getElem_mem hlt
    simp [f31b0, a0, a3, hlt]
    refine (w60' _).use ?_
    rintro e S1 ⟨rfl, rfl⟩
    by_cases hlow : Lib.lowerB x[i] = x[i]
    rotate_left 1
    · have hlow' : (((Lib.lowerB x[i]).toNat : Int) != (x[i].toNat : Int)) = true := by
        rw [bne_iff_ne]; intro e; exact hlow (UInt8.toNat_inj.1 (by omega))
      have hf : (x.all fun c => isW c && decide (Lib.lowerB c = c)) = false := by
        rw [List.all_eq_false]
        exact ⟨x[i], hmem, by simp [hlow]⟩
      simp [a0, a3, hlt, hlow', hf]
    · have hstep : isW x[i] = true → (x.take (i + 1)).all (fun c => isW c && decide (Lib.lowerB c = c)) = true := fun h => by
        rw [List.take_add_one, List.getElem?_eq_getElem hlt, Option.toList_some, List.all_append, hall]
        simp [h, hlow]
      simp [a0, a3, hlt, hlow]
      refine (w57' _).use ?_
      rintro e S1 ⟨rfl, rfl⟩
      by_cases hL2 : Lx.isL x[i] = true
      · simp [a0, a3, hlt, hL2, hwi]
        have := hstep (by simp [isW, hL2])
        refine ⟨x.length - (i + 1), by omega, i + 1, rfl, by omega, by simp, by simpa using this⟩
      · simp [a0, a3, hlt, hL2]
        refine (w59' _).use ?_
        rintro e S1 ⟨rfl, rfl⟩
        by_cases hD : isD x[i] = true
        · simp [a0, a3, hD, hwi]
          have := hstep (by simp [isW, hD])
          refine ⟨x.length - (i + 1), by omega, i + 1, rfl, by omega, by simp, by simpa using this⟩
        · have hf : (x.all fun c => isW c && decide (Lib.lowerB c = c)) = false := by
            rw [List.all_eq_false]
            exact ⟨x[i], hmem, by simp [isW, hL2, hD]⟩
          simp [a0, a3, hD, hf]
  · obtain rfl : i = x.length := by omega
    rw [List.take_length] at hall
    simp [f31b0, a0, a3, hall]

end Go.Abs
