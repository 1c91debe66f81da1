/- Walks of the lexer, of Same, LexJoin, reserved words and names. Conditions: none but the lengths; definitions and lemmas. -/
import Derived.Test.YtjoehmgnapdhaaaDoorL1
import Derived.Test.YtjoehmgnapdhaaaDoorC2
set_option linter.unusedSimpArgs false
set_option linter.unusedVariables false
namespace Go.Abs
open Go Go.RowKit Go.Proofs Go.Lx
variable {w0 : World}

/-- A function of one byte that tells. -/
def Tells (w0 : World) (q : FuncId) (p : UInt8 → Bool) : Prop := ∀ (c : UInt8) (S : Heap), ACalls Tryd.prog (B0 w0) q [bv c] S fun e S' => e = .ret (.bool (p c)) ∧ S' = S

theorem w65 {q : FuncId} {p : UInt8 → Bool} (hq : Tells w0 q p) {S : Heap} {id : Nat} {cap : Option Nat} (hS : S[id]? = some (.cells 1 [[.clo (.func q) [] []]] cap)) (c : UInt8) :
    ACalls Tryd.prog (B0 w0) 65 [bv c, .ptr id 0 0] S fun e S' => e = .ret (.bool (!p c)) ∧ S' = S := by
  refine fn_sound tryOrd (f65_c _) (by simp [f65]) ?_
  simp [f65, f65m, hS]
  refine (hq c S).use ?_
  rintro e S1 ⟨rfl, rfl⟩
  simp

theorem run_le_iff {p : UInt8 → Bool} : ∀ {l : Bs} {i : Nat} (h : i < l.length), i ≤ run p l → (p l[i] = true ↔ i < run p l)
  | c :: r, 0, h, _ => by
    rw [run_cons]
    by_cases hc : p c = true
    · simp [hc]
    · simp [hc]
  | c :: r, i + 1, h, hi => by
    rw [run_cons] at hi ⊢
    by_cases hc : p c = true
    · rw [if_pos hc] at hi ⊢
      have := run_le_iff (p := p) (l := r) (i := i) (by simpa using h) (by omega)
      simp only [List.getElem_cons_succ]
      rw [this]; omega
    · rw [if_neg hc] at hi; omega

theorem w64 {q : FuncId} {p : UInt8 → Bool} (hq : Tells w0 q p) {S : Heap} {id : Nat} {cap : Option Nat} (hS : S[id]? = some (.cells 1 [[.clo (.func q) [] []]] cap)) {v : AVal} {l : Bs} (hv : Rk 1 S v (l.map u8)) (hl : l.length ≤ 4194304) :
    ACalls Tryd.prog (B0 w0) 64 [v, .clo (.func 65) [] [.ptr id 0 0]] S fun e S' => e = .ret (.int (if run p l < l.length then run p l else -1)) ∧ S' = S := by
  refine fn_sound tryOrd (f64_c _) (by simp [f64]) ?_
  simp [f64, f64m, hv.lenR]
  refine mwp_loop (I := fun n a S' => ∃ i : Nat, n = l.length - i ∧ i ≤ l.length ∧ get a 0 = v ∧ get a 1 = .clo (.func 65) [] [.ptr id 0 0] ∧ get a 7 = .int l.length ∧ get a 8 = .int i ∧ S' = S ∧ i ≤ run p l) (n := l.length) ?_ ?_
  · exact ⟨0, rfl, Nat.zero_le _, rfl, rfl, rfl, rfl, rfl, Nat.zero_le _⟩
  rintro n a S' ⟨i, rfl, hi, a0, a1, a7, a8, rfl, hr⟩
  by_cases hlt : i < l.length
  · obtain ⟨pp, q1, q2⟩ := hv.byte hlt
    have hiff := run_le_iff (p := p) hlt hr
    simp [f64b0, a0, a1, a7, a8, hlt, q1, q2]
    refine (w65 hq hS l[i]).use ?_
    rintro e S1 ⟨rfl, rfl⟩
    by_cases hp : p l[i] = true
    · have := hiff.1 hp
      simp [hp, a0, a1, a7, a8, wrapS i (by omega)]
      exact ⟨l.length - (i + 1), by omega, i + 1, rfl, by omega, by simp, by omega⟩
    · have h1 : ¬ i < run p l := fun h => hp (hiff.2 h)
      have h2 : run p l = i := by omega
      simp [hp, a0, a1, a7, a8, h2, hlt]
  · have := run_le p l
    have h1 : ¬ run p l < l.length := by omega
    simp [f64b0, a0, a1, a7, a8, hlt, h1]

/-- run. -/
theorem w31 {q : FuncId} {p : UInt8 → Bool} (hq : Tells w0 q p) (l : Bs) (hl : l.length ≤ 4194304) (S : Heap) :
    ACalls Tryd.prog (B0 w0) 31 [.str l, .clo (.func q) [] []] S fun e S' => e = .ret (.int (run p l)) ∧ S' = S := by
  refine ACalls.close (R := fun e S' => e = .ret (.int (run p l)) ∧ S'.take S.length = S) ?_ ?_
  rotate_left 1
  · rintro e S' ⟨rfl, ht⟩
    exact .flat ht rfl ⟨rfl, rfl⟩
  refine fn_sound tryOrd (f31_c _) (by simp [f31]) ?_
  simp [f31, f31m]
  refine (w64 hq (id := S.length) (cap := some 1) (by simp) (v := .row (S.length + 1) 0 l.length) (l := l) ?_ hl).use ?_
  · have := Rk.row (k := 1) (S := S ++ [.cells 1 [[.clo (.func q) [] []]] (some 1), .cells 1 (l.map u8) none]) (S.length + 1) 0 l.length (l.map u8) none (by simp) (by simp)
    rw [List.drop_zero, List.take_of_length_le (by simp)] at this
    exact this
  rintro e S1 ⟨rfl, rfl⟩
  have hle := run_le p l
  by_cases hlt : run p l < l.length
  · have h0 : (0 : Int) ≤ (run p l : Int) := by omega
    simp [hlt, h0]
  · have : run p l = l.length := by omega
    simp [hlt, this]

theorem valA_ge : ∀ (l : Bs) (n : Nat), n ≤ valA n l
  | [], n => Nat.le_refl _
  | c :: r, n => by
    have := valA_ge r (n * 10 + dig c)
    have e : valA n (c :: r) = valA (n * 10 + dig c) r := rfl
    omega
theorem val_split (l : Bs) (i : Nat) (h : i < l.length) : val (l.take (i + 1)) = val (l.take i) * 10 + dig l[i] := by
  rw [List.take_add_one, List.getElem?_eq_getElem h, val, valA_append]; rfl
theorem val_take_le (l : Bs) (i : Nat) : val (l.take i) ≤ val l := by
  have : val l = valA (val (l.take i)) (l.drop i) := by
    show valA 0 l = valA (valA 0 _) _
    rw [← valA_append, List.take_append_drop]
  rw [this]; exact valA_ge _ _

theorem isD_dig {c : UInt8} (h : isD c = true) : c.toNat = 48 + dig c ∧ dig c ≤ 9 := by
  simp [isD] at h
  unfold dig; omega

/-- worth. -/
theorem w60 (l : Bs) (hl : l.length ≤ 4194304) (hd : ∀ c ∈ l, isD c = true) (S : Heap) :
    ACalls Tryd.prog (B0 w0) 60 [.str l] S fun e S' => e = .ret (if val l ≤ 9223372036854775807 then .tuple [.int (val l), .bool true] else .tuple [.int 0, .bool false]) ∧ S' = S := by
  refine ACalls.close (R := fun e S' => e = .ret (if val l ≤ 9223372036854775807 then .tuple [.int (val l), .bool true] else .tuple [.int 0, .bool false]) ∧ S'.take S.length = S) ?_ ?_
  rotate_left 1
  · rintro e S' ⟨rfl, ht⟩
    refine .flat ht ?_ ⟨rfl, rfl⟩
    split <;> simp [AEnd.sc]
  refine fn_sound tryOrd (f60_c _) (by simp [f60]) ?_
  simp [f60, f60m]
  have hv : Rk 1 (S ++ [.cells 1 (l.map u8) none]) (.row S.length 0 l.length) (l.map u8) := by
    have := Rk.row (k := 1) (S := S ++ [.cells 1 (l.map u8) none]) S.length 0 l.length (l.map u8) none (by simp) (by simp)
    rw [List.drop_zero, List.take_of_length_le (by simp)] at this
    exact this
  generalize hS1 : S ++ [.cells 1 (l.map u8) none] = S1 at hv
  generalize AVal.row S.length 0 l.length = v at hv
  have ht : S1.take S.length = S := by rw [← hS1]; simp
  refine mwp_loop (I := fun n a S' => ∃ i : Nat, n = l.length - i ∧ i ≤ l.length ∧ get a 4 = .int (val (l.take i)) ∧ get a 9 = v ∧ get a 10 = .int l.length ∧ get a 11 = .int i ∧ S' = S1 ∧ val (l.take i) ≤ 9223372036854775807) (n := l.length) ?_ ?_
  · exact ⟨0, rfl, Nat.zero_le _, rfl, rfl, rfl, rfl, rfl, by simp [val, valA]⟩
  rintro n a S' ⟨i, rfl, hi, a4, a9, a10, a11, rfl, hm⟩
  by_cases hlt : i < l.length
  · obtain ⟨pp, q1, q2⟩ := hv.byte hlt
    obtain ⟨e1, e2⟩ := isD_dig (hd l[i] (List.getElem_mem hlt))
    have hs := val_split l i hlt
    have hw1 : IntKind.u8.wrap ((l[i].toNat : Int) - 48) = (dig l[i] : Int) := by rw [e1]; simp [IntKind.wrap, IntKind.bits, IntKind.signed, IntKind.max]; omega
    have hw2 : IntKind.i64.wrap (dig l[i] : Int) = (dig l[i] : Int) := by rw [wrap64_in (by omega) (by omega)]
    have hw3 : IntKind.i64.wrap (9223372036854775807 - (dig l[i] : Int)) = 9223372036854775807 - (dig l[i] : Int) := by rw [wrap64_in (by omega) (by omega)]
    obtain ⟨k, hk⟩ : ∃ k, k = (9223372036854775807 - dig l[i]) / 10 := ⟨_, rfl⟩
    have hq : (9223372036854775807 - (dig l[i] : Int)).tdiv 10 = (k : Int) := by
      rw [Int.tdiv_eq_ediv_of_nonneg (by omega)]; omega
    have hw4 : IntKind.i64.wrap (k : Int) = k := by rw [wrap64_in (by omega) (by omega)]
    generalize hdd : dig l[i] = d at *
    generalize hvv : val (l.take i) = n at *
    by_cases hov : k < n
    · have hbig : ¬ val l ≤ 9223372036854775807 := by
        have := val_take_le l (i + 1)
        omega
      simp [f60b0, a4, a9, a10, a11, hlt, q1, q2, hw1, hw2, hw3, hq, hw4, hov, hbig, ht]
    · have hw5 : IntKind.i64.wrap ((n : Int) * 10) = ((n * 10 : Nat) : Int) := by rw [wrap64_in (by omega) (by omega)]; simp
      have hw6 : IntKind.i64.wrap ((n * 10 : Nat) + (d : Int)) = ((n * 10 + d : Nat) : Int) := by rw [wrap64_in (by omega) (by omega)]; simp
      simp only [Int.natCast_mul, Int.cast_ofNat_Int] at hw5 hw6
      simp [f60b0, a4, a9, a10, a11, hlt, q1, q2, hw1, hw2, hw3, hq, hw4, hov, hw5, hw6, wrapS i (by omega)]
      exact ⟨l.length - (i + 1), by omega, i + 1, rfl, by omega, by rw [hs]; simp, by simp, by omega⟩
  · have : i = l.length := by omega
    subst this
    rw [List.take_length] at a4 hm
    simp [f60b0, a4, a9, a10, a11, hm, ht]

/-- word. -/
def zTok : Tok := ⟨0, [], 0, 0⟩
def tokC (t : Tok) : List AVal := [.int t.kind, .str t.text, .int t.num, .int t.scale]
def lexV : Res → AVal
  | .ok (t, n) => .tuple [.agg (tokC t), .int n, .int 0]
  | .error e => .tuple [.agg (tokC zTok), .int 0, .int e]

theorem w26 (l : Bs) (hl : l.length ≤ 4194304) (S : Heap) : ACalls Tryd.prog (B0 w0) 26 [.str l] S fun e S' => e = .ret (lexV (word l)) ∧ S' = S := by
  refine ACalls.close (R := fun e S' => e = .ret (lexV (word l)) ∧ S'.take S.length = S) ?_ ?_
  rotate_left 1
  · rintro e S' ⟨rfl, ht⟩
    refine .flat ht ?_ ⟨rfl, rfl⟩
    unfold lexV; split <;> simp [AEnd.sc, tokC]
  refine fn_sound tryOrd (f26_c _) (by simp [f26]) ?_
  simp [f26, f26m]
  refine (w31 (q := 32) (p := isW) w32 l hl _).use ?_
  rintro e S1 ⟨rfl, rfl⟩
  have hle := run_le isW l
  by_cases hgt : 32 < run isW l
  · have hgt' : (32 : Int) < (run isW l : Int) := by omega
    simp [hgt, hgt', word, lexV, tokC, zTok]
  · have hgt' : ¬ (32 : Int) < (run isW l : Int) := by omega
    have hn : (0 : Int) ≤ (run isW l : Int) := by omega
    simp [hgt, hgt', sslcR, bound, hn, hle]
    have hext := ext_ok (β := B0 w0) 33 [.str (l.take (run isW l))] (.str ((l.take (run isW l)).map Lib.lowerB)) (by
      have : ((l.take (run isW l)).all (fun b => decide (b.toNat < 128)) && decide ((l.take (run isW l)).length ≤ 140737488355328)) = true := by
        simp only [Bool.and_eq_true, decide_eq_true_eq, List.all_eq_true]
        refine ⟨fun c hc => ?_, by rw [List.length_take]; omega⟩
        have := mem_take_run c hc
        simp [isW, Lx.isL, isD] at this
        omega
      simp only [ext, this, if_true]; rfl)
    refine (hext _).use ?_
    rintro e S1 ⟨rfl, rfl⟩
    simp [hgt, word, lexV, tokC]
end Go.Abs
set_option linter.unusedSimpArgs false
set_option linter.unusedVariables false
namespace Go.Abs
open Go Go.RowKit Go.Proofs Go.Lx
variable {w0 : World}

theorem realD (l : Bs) : ∀ x ∈ l.take (run isD l) ++ (l.drop (run isD l + 1)).take (Lx.part (l.drop (run isD l))), isD x = true := by
  intro x hx
  simp only [List.mem_append] at hx
  rcases hx with hx | hx
  · exact mem_take_run x hx
  · generalize run isD l = q at *
    have e : l.drop (q + 1) = (l.drop q).drop 1 := by rw [List.drop_drop]
    rw [e] at hx
    generalize l.drop q = l at *
    cases l with
    | nil => simp at hx
    | cons a l =>
      rw [part_cons] at hx
      split at hx
      · exact mem_take_run x hx
      · simp at hx

theorem u8_eq {c d : UInt8} : c = d ↔ c.toNat = d.toNat := ⟨fun h => by rw [h], fun h => UInt8.toNat_inj.1 h⟩

set_option maxHeartbeats 1000000 in
theorem w28 (l : Bs) (hl : l.length ≤ 4194304) (S : Heap) : ACalls Tryd.prog (B0 w0) 28 [.str l] S fun e S' => e = .ret (lexV (Lx.number l)) ∧ S' = S := by
  refine ACalls.close (R := fun e S' => e = .ret (lexV (Lx.number l)) ∧ S'.take S.length = S) ?_ ?_
  rotate_left 1
  · rintro e S' ⟨rfl, ht⟩
    refine .flat ht ?_ ⟨rfl, rfl⟩
    unfold lexV; split <;> simp [AEnd.sc, tokC]
  have hle := run_le isD l
  have hpl := part_le (l.drop (run isD l))
  rw [List.length_drop] at hpl
  have hT : ∀ c ∈ l.take (run isD l), isD c = true := fun c hc => mem_take_run c hc
  have hR := realD l
  have hspec : Lx.number l = Lx.number l := rfl
  conv at hspec => rhs; unfold Lx.number
  have hpart : ∀ r : Bs, Lx.part r = if r.head? = some 46 then run isD (r.drop 1) else 0 := by
    intro r
    cases r with
    | nil => rfl
    | cons c r =>
      rw [part_cons]
      have : (c.toNat = 46) ↔ c = 46 := (u8_eq (c := c) (d := 46)).symm
      simp [this]
  have hpart := hpart (l.drop (run isD l))
  refine fn_sound tryOrd (f28_c _) (by simp [f28]) ?_
  simp [f28, f28m]
  refine (w31 (q := 27) (p := isD) w27 l hl _).use ?_
  rintro e S1 ⟨rfl, rfl⟩
  have hn : (0 : Int) ≤ (run isD l : Int) := by omega
  simp [sslcR, bound, hn, hle]
  have hr1 : l.drop (run isD l + 1) = (l.drop (run isD l)).drop 1 := by rw [List.drop_drop]
  have hrl : (l.drop (run isD l)).length = l.length - run isD l := List.length_drop
  generalize hw : run isD l = w at *
  generalize hr : l.drop w = r at *
  refine (w59 r 46 _).use ?_
  rintro e S1 ⟨rfl, rfl⟩
  generalize hpt : Lx.part r = pt at *
  generalize Lx.number l = out at *
  by_cases hp0 : pt = 0
  · subst hp0
    rw [if_pos rfl] at hspec
    by_cases hp : r.head? = some 46
    all_goals
      first
      | rw [if_pos hp] at hpart
        obtain ⟨r', rfl⟩ : ∃ r', r = 46 :: r' := by
          cases r with
          | nil => cases hp
          | cons c r' => simp at hp; exact ⟨r', by rw [hp]⟩
        simp at hpart hrl
        simp [sslcR, bound]
        refine (w31 (q := 27) (p := isD) w27 r' (by omega) _).use ?_
        rintro e S1 ⟨rfl, rfl⟩
        simp [hn, hle, ← hpart, sslcR, bound]
      | have hg : (r.head? == some 46) = false := beq_eq_false_iff_ne.2 hp
        simp [hg, hn, hle, sslcR, bound]
    all_goals
      refine (w60 (l.take w) (by rw [List.length_take]; omega) hT _).use ?_
      rintro e S1 ⟨rfl, rfl⟩
      by_cases hv : val (l.take w) ≤ 9223372036854775807
      · by_cases h19 : 19 < w
        · have h19' : (19 : Int) < (w : Int) := by omega
          rw [if_pos (.inl h19)] at hspec
          simp [hv, h19, h19', hspec, lexV, tokC, zTok]
        · have h19' : ¬ (19 : Int) < (w : Int) := by omega
          rw [if_neg (by omega)] at hspec
          simp [hv, h19, h19', hspec, lexV, tokC, zTok]
      · rw [if_pos (.inr (by omega))] at hspec
        by_cases h19 : 19 < w
        · have h19' : (19 : Int) < (w : Int) := by omega
          simp [hv, h19, h19', hspec, lexV, tokC, zTok]
        · have h19' : ¬ (19 : Int) < (w : Int) := by omega
          simp [hv, h19, h19', hspec, lexV, tokC, zTok]
  · rw [if_neg hp0] at hspec
    by_cases hp : r.head? = some 46
    rotate_left 1
    · rw [if_neg hp] at hpart; exact absurd hpart hp0
    rw [if_pos hp] at hpart
    obtain ⟨r', rfl⟩ : ∃ r', r = 46 :: r' := by
      cases r with
      | nil => cases hp
      | cons c r' => simp at hp; exact ⟨r', by rw [hp]⟩
    simp at hpart hrl
    simp [sslcR, bound]
    refine (w31 (q := 27) (p := isD) w27 r' (by omega) _).use ?_
    rintro e S1 ⟨rfl, rfl⟩
    rw [← hpart]
    have hp0' : ¬ (pt : Int) = 0 := by omega
    have hg : ((pt : Int) == 0) = false := beq_eq_false_iff_ne.2 hp0'
    have hw1 : IntKind.i64.wrap ((w : Int) + (pt : Int)) = ((w + pt : Nat) : Int) := by rw [wrap64_in (by omega) (by omega)]; simp
    have hw2 : IntKind.i64.wrap ((w : Int) + 1) = ((w + 1 : Nat) : Int) := by rw [wrap64_in (by omega) (by omega)]; simp
    have hw3 : IntKind.i64.wrap (((w + 1 : Nat) : Int) + (pt : Int)) = ((w + 1 + pt : Nat) : Int) := by rw [wrap64_in (by omega) (by omega)]; simp
    generalize hA : w + pt = A at *
    generalize hB : w + 1 = B at *
    generalize hC : B + pt = C at *
    by_cases h15 : 15 < A
    · rw [if_pos h15] at hspec
      have h15' : (15 : Int) < (A : Int) := by omega
      simp [hn, hle, hg, hw1, h15, h15', hspec, lexV, tokC, zTok]
    · rw [if_neg h15] at hspec
      have h15' : ¬ (15 : Int) < (A : Int) := by omega
      have hB0 : (0 : Int) ≤ (B : Int) := by omega
      have hC0 : (0 : Int) ≤ (C : Int) := by omega
      have hBC : B ≤ C := by omega
      have hCl : C ≤ l.length := by omega
      have e1 : C - B = pt := by omega
      have e2 : (l.take C).drop B = (l.drop B).take pt := by rw [List.drop_take, e1]
      have hlen : (l.take w).length + ((l.drop B).take pt).length ≤ 9223372036854775807 := by simp; omega
      have hlen2 : (l.take w ++ (l.drop B).take pt).length ≤ 15 := by simp; omega
      have hv := val_lt _ hR
      have hv2 : val (l.take w ++ (l.drop B).take pt) < 10 ^ 15 := Nat.lt_of_lt_of_le hv (Nat.pow_le_pow_right (by omega) hlen2)
      have hv3 : val (l.take w ++ (l.drop B).take pt) ≤ 9223372036854775807 := by
        have : (10 : Nat) ^ 15 ≤ 9223372036854775807 := by decide
        omega
      have w60' := fun S => w60 (w0 := w0) (l.take w ++ (l.drop B).take pt) (by omega) hR S
      clear hr1 hr hrl
      simp [hn, hle, hg, hw1, hw2, hw3, h15, h15', sslcR, bound, hB0, hC0, hBC, hCl]
      refine ⟨by omega, ?_⟩
      rw [e2]
      generalize l.take w ++ (l.drop B).take pt = ds at *
      refine (w60' _).use ?_
      rintro e S1 ⟨rfl, rfl⟩
      simp [hv3, hw1, hw2, hw3, hspec, lexV, tokC]

/-! ### Texts -/
theorem txt_pre (b : Bs) : ∀ (a : Bs), (∀ c ∈ a, ¬ c.toNat = 39) → txt (a ++ b) = (txt b).map fun x => (a ++ x.1, x.2 + a.length)
  | [], _ => by cases h : txt b <;> simp [h]
  | c :: r, h => by
    rw [List.cons_append, txt_other (h c (by simp)), txt_pre b r fun x hx => h x (by simp [hx])]
    cases txt b <;> simp [Nat.add_assoc]
theorem indexByte_spec : ∀ (r : Bs), (Lib.indexByte r 39 = -1 ∧ ∀ c ∈ r, ¬ c.toNat = 39) ∨ ∃ a b, r = a ++ 39 :: b ∧ (∀ c ∈ a, ¬ c.toNat = 39) ∧ Lib.indexByte r 39 = a.length
  | [] => .inl ⟨rfl, by simp⟩
  | c :: r => by
    by_cases hc : c = 39
    · subst hc
      exact .inr ⟨[], r, rfl, by simp, by simp [Lib.indexByte]⟩
    · have hc' : ¬ c.toNat = 39 := fun h => hc (UInt8.toNat_inj.1 h)
      have hb : (c == 39) = false := beq_eq_false_iff_ne.2 hc
      rcases indexByte_spec r with ⟨h1, h2⟩ | ⟨a, b, rfl, h2, h3⟩
      · refine .inl ⟨by simp [Lib.indexByte, hb, h1], ?_⟩
        intro x hx
        simp only [List.mem_cons] at hx
        rcases hx with rfl | hx
        · exact hc'
        · exact h2 x hx
      · refine .inr ⟨c :: a, b, rfl, ?_, ?_⟩
        · intro x hx
          simp only [List.mem_cons] at hx
          rcases hx with rfl | hx
          · exact hc'
          · exact h2 x hx
        · have hne : ¬ ((a.length : Int) = -1) := by omega
          simp [Lib.indexByte, hb, h3, hne]
theorem w58 (l : Bs) (c : UInt8) (S : Heap) : ACalls Tryd.prog (B0 w0) 58 [.str l, bv c] S fun e S' => e = .ret (.int (Lib.indexByte l c)) ∧ S' = S :=
  ext_ok 58 [.str l, bv c] _ (by simp [ext]) S

def txtV (x : Option (Bs × Nat)) : Res :=
  match x with
  | none => .error 121
  | some (b, n) => if 200 < b.length then .error 1 else .ok (⟨4, b, 0, 0⟩, n + 1)

set_option maxHeartbeats 1000000 in
theorem w29 (c : UInt8) (l : Bs) (hl : l.length ≤ 4194304) (S : Heap) : ACalls Tryd.prog (B0 w0) 29 [.str (c :: l)] S fun e S' => e = .ret (lexV (Lx.text (c :: l))) ∧ S' = S := by
  refine ACalls.close (R := fun e S' => e = .ret (lexV (Lx.text (c :: l))) ∧ S'.take S.length = S) ?_ ?_
  rotate_left 1
  · rintro e S' ⟨rfl, ht⟩
    refine .flat ht ?_ ⟨rfl, rfl⟩
    unfold lexV; split <;> simp [AEnd.sc, tokC]
  have hspec : Lx.text (c :: l) = txtV (txt l) := rfl
  rw [hspec]
  refine fn_sound tryOrd (f29_c _) (by simp [f29]) ?_
  simp [f29, f29m]
  refine mwp_loop (I := fun n a S' => ∃ (o b : Bs) (k : Nat), n = b.length ∧ get a 0 = .str (c :: l) ∧ get a 2 = .ptr S.length 0 0 ∧ get a 5 = .str o ∧ get a 6 = .int k ∧ 1 ≤ k ∧ (c :: l).drop k = b ∧ b.length + k = l.length + 1 ∧ o.length ≤ k ∧
    txt l = (txt b).map (fun x => (o ++ x.1, x.2 + (k - 1))) ∧ S' = S ++ [.cells 4 [[.int 0, .str [], .int 0, .int 0]] (some 1)]) (n := l.length) ?_ ?_
  · refine ⟨[], l, 1, rfl, rfl, rfl, rfl, rfl, by omega, rfl, by omega, by simp, ?_, rfl⟩
    cases txt l <;> simp
  rintro n a S' ⟨o, b, k, rfl, a0, a2, a5, a6, hk, hdrop, hlen, ho, ht, rfl⟩
  have hk0 : (0 : Int) ≤ (k : Int) := by omega
  have hkl : k ≤ l.length + 1 := by omega
  have w58' := fun S => w58 (w0 := w0) b 39 S
  simp [f29b0, a0, a2, a5, a6, sslcR, bound, hk0, hkl, hdrop]
  refine (w58' _).use ?_
  rintro e S1 ⟨rfl, rfl⟩
  rcases indexByte_spec b with ⟨h1, h2⟩ | ⟨p, q, rfl, h2, h3⟩
  · have hnone : txt b = none := by
      have := txt_pre [] b h2
      rw [List.append_nil, txt_nil] at this; exact this
    rw [hnone] at ht
    simp [h1, ht, a2, txtV, lexV, tokC, zTok]
  · rw [txt_pre _ _ h2] at ht
    simp only [List.length_append, List.length_cons] at hlen
    have hm0 : ¬ (p.length : Int) < 0 := by omega
    have hw1 : IntKind.i64.wrap ((k : Int) + (p.length : Int)) = ((k + p.length : Nat) : Int) := by rw [wrap64_in (by omega) (by omega)]; simp
    have hw2 : IntKind.i64.wrap ((p.length : Int) + 1) = ((p.length + 1 : Nat) : Int) := by rw [wrap64_in (by omega) (by omega)]; simp
    have hw3 : IntKind.i64.wrap ((k : Int) + ((p.length + 1 : Nat) : Int)) = ((k + (p.length + 1) : Nat) : Int) := by rw [wrap64_in (by omega) (by omega)]; simp
    have e1 : ((c :: l).take (k + p.length)).drop k = p := by
      rw [List.drop_take, Nat.add_sub_cancel_left, hdrop, List.take_left]
    have e2 : (c :: l).drop (k + (p.length + 1)) = q := by
      rw [← List.drop_drop, hdrop]
      simp
    have hA : k ≤ k + p.length := by omega
    have hB : k + p.length ≤ l.length + 1 := by omega
    have hC : k + (p.length + 1) ≤ l.length + 1 := by omega
    have hD0 : (0 : Int) ≤ ((k + p.length : Nat) : Int) := by omega
    have hE0 : (0 : Int) ≤ ((k + (p.length + 1) : Nat) : Int) := by omega
    have hol : (o ++ p).length ≤ k + p.length := by simp; omega
    have hob : o.length + p.length ≤ 9223372036854775807 := by omega
    have w59' := fun S => w59 (w0 := w0) q 39 S
    generalize hm : p.length = m at *
    generalize hD : k + m = D at *
    generalize hF : m + 1 = F at *
    generalize hG : k + F = G at *
    have hop : (o ++ p).length = o.length + m := by simp [hm]
    simp [h3, hm0, hw1, hw2, hw3, a0, a2, a5, a6, sslcR, bound, hA, hB, hC, hD0, hE0, hk0, e1, e2, hob, hm]
    refine (w59' _).use ?_
    rintro e S1 ⟨rfl, rfl⟩
    generalize hopp : o ++ p = op at *
    by_cases hq : q.head? = some 39
    · obtain ⟨q', rfl⟩ : ∃ q', q = 39 :: q' := by
        cases q with
        | nil => cases hq
        | cons d q' => simp at hq; exact ⟨q', by rw [hq]⟩
      rw [txt_two rfl rfl] at ht
      simp only [List.length_cons] at hlen
      have hw4 : IntKind.i64.wrap ((G : Int) + 1) = ((G + 1 : Nat) : Int) := by rw [wrap64_in (by omega) (by omega)]; simp
      have hop1 : op.length + 1 ≤ 9223372036854775807 := by omega
      simp [a0, a2, a5, a6, hw4, hop1]
      refine ⟨q'.length, by omega, op ++ [39], q', rfl, rfl, G + 1, by simp, by omega, ?_, by omega, by simp; omega, ?_⟩
      · rw [← List.drop_drop, e2]; rfl
      · rw [ht]
        cases txt q' with
        | none => rfl
        | some x =>
          simp only [Option.map_some, Option.some.injEq, Prod.mk.injEq]
          exact ⟨by rw [← hopp]; simp, by omega⟩
    · have hg : (q.head? == some 39) = false := beq_eq_false_iff_ne.2 hq
      rw [txt_end rfl (fun d r' e => by
        intro h
        rw [e] at hq
        simp at hq
        exact hq (UInt8.toNat_inj.1 h))] at ht
      have hfin : txt l = some (op, G - 1) := by
        rw [ht]
        simp only [Option.map_some, Option.some.injEq, Prod.mk.injEq]
        exact ⟨by rw [← hopp]; simp, by omega⟩
      rw [hfin]
      by_cases h2 : 200 < op.length
      · have h2' : (200 : Int) < (op.length : Int) := by omega
        simp [hg, a0, a2, a5, a6, h2, h2', txtV, lexV, tokC, zTok]
      · have h2' : ¬ (200 : Int) < (op.length : Int) := by omega
        have e3 : G - 1 + 1 = G := by omega
        simp [hg, a0, a2, a5, a6, h2, h2', txtV, lexV, tokC, zTok]
        omega
end Go.Abs
set_option linter.unusedSimpArgs false
set_option linter.unusedVariables false
namespace Go.Abs
open Go Go.RowKit Go.Proofs Go.Lx
variable {w0 : World}

def strs (L : List Bs) : List (List AVal) := L.map fun s => [.str s]
@[simp] theorem strs_len (L : List Bs) : (strs L).length = L.length := by simp [strs]
theorem strs_get (L : List Bs) (i : Nat) (h : i < L.length) : (strs L).getD i [] = [.str L[i]] := by
  rw [getD_eq _ _ _ (by simpa using h)]; simp [strs]
theorem Rk.strx {S v L} (h : Rk 1 S v (strs L)) {i : Nat} (hi : i < L.length) : ∃ p, iaddrR 1 S v (.int i) = .ok true p S ∧ loadR false 1 S p = .ok true (.str L[i]) S := by
  obtain ⟨p, h1, h2, _⟩ := h.elem (i := i) (by simpa using hi) (by rw [strs_get _ _ hi]; rfl)
  refine ⟨p, h1, ?_⟩
  rw [h2 false 1 (Nat.le_refl _), strs_get _ _ hi]; rfl

/-- slices.Contains. -/
theorem w57 {S : Heap} {v : AVal} {L : List Bs} {x : Bs} (h : Rk 1 S v (strs L)) (hl : L.length ≤ 4194304) : ACalls Tryd.prog (B0 w0) 57 [v, .str x] S fun e S' => e = .ret (.bool (decide (x ∈ L))) ∧ S' = S := by
  have h80 : ACalls Tryd.prog (B0 w0) 80 [v, .str x] S fun e S' => ∃ z : Int, e = .ret (.int z) ∧ decide (0 ≤ z) = decide (x ∈ L) ∧ S' = S := by
    refine fn_sound tryOrd (f80_c _) (by simp [f80]) ?_
    simp [f80, f80m, h.lenR]
    refine mwp_loop (I := fun n a S' => ∃ i : Nat, n = L.length - i ∧ i ≤ L.length ∧ get a 0 = v ∧ get a 1 = .str x ∧ get a 7 = .int L.length ∧ get a 8 = .int i ∧ S' = S ∧ x ∉ L.take i) (n := L.length) ?_ ?_
    · exact ⟨0, rfl, Nat.zero_le _, rfl, rfl, rfl, rfl, rfl, by simp⟩
    rintro n a S' ⟨i, rfl, hi, a0, a1, a7, a8, rfl, hnot⟩
    by_cases hlt : i < L.length
    · obtain ⟨p, q1, q2⟩ := h.strx hlt
      by_cases hx : x = L[i]
      · have : x ∈ L := hx ▸ List.getElem_mem hlt
        have h0 : (0 : Int) ≤ (i : Int) := by omega
        simp [f80b0, a0, a1, a7, a8, hlt, q1, q2, hx]
      · have hx' : ¬ L[i] = x := fun e => hx e.symm
        simp [f80b0, a0, a1, a7, a8, hlt, q1, q2, hx, wrapS i (by omega)]
        exact ⟨L.length - (i + 1), by omega, i + 1, rfl, by omega, by simp, not_mem_take_succ hnot hlt hx'⟩
    · have : i = L.length := by omega
      subst this
      rw [List.take_length] at hnot
      simp [f80b0, a0, a1, a7, a8, hnot]
  refine fn_sound tryOrd (f57_c _) (by simp [f57]) ?_
  simp [f57, f57m]
  refine h80.use ?_
  rintro e S1 ⟨z, rfl, hz, rfl⟩
  simp [hz]

theorem indexByte_mem (l : Bs) (c : UInt8) : (Lib.indexByte l c < 0 ↔ c ∉ l) ∧ -1 ≤ Lib.indexByte l c := by
  induction l with
  | nil => simp [Lib.indexByte]
  | cons d r ih =>
    by_cases h : d = c
    · subst h; simp [Lib.indexByte]
    · have hb : (d == c) = false := beq_eq_false_iff_ne.2 h
      have h' : ¬ c = d := fun e => h e.symm
      simp only [Lib.indexByte, hb, Bool.false_eq_true, if_false, List.mem_cons, h', false_or]
      by_cases hm : Lib.indexByte r c = -1
      · have := ih.1.1 (by omega)
        simp [hm, this]
      · have hb2 : (Lib.indexByte r c == -1) = false := beq_eq_false_iff_ne.2 hm
        simp only [hb2, Bool.false_eq_true, if_false]
        have h1 := ih.1
        have h2 := ih.2
        have : ¬ Lib.indexByte r c < 0 := by omega
        have h3 : c ∈ r := by
          have := mt h1.2 this
          simpa using this
        simp [h3]; omega

def twos : List Bs := [[60, 62], [60, 61], [62, 61], [124, 124]]
theorem two_mem (c d : UInt8) : decide ([c, d] ∈ twos) = two c d := by
  rw [Bool.eq_iff_iff]
  simp only [twos, two, List.mem_cons, List.cons.injEq, and_true, List.mem_nil_iff, or_false, decide_eq_true_eq, Bool.or_eq_true, Bool.and_eq_true]
  simp only [u8_eq]
  have h1 : (60 : UInt8).toNat = 60 := rfl
  have h2 : (61 : UInt8).toNat = 61 := rfl
  have h3 : (62 : UInt8).toNat = 62 := rfl
  have h4 : (124 : UInt8).toNat = 124 := rfl
  rw [h1, h2, h3, h4]
  constructor <;> intro h <;> omega

set_option maxHeartbeats 1000000 in
theorem w24 (c : UInt8) (l : Bs) (hl : l.length ≤ 4194304) (S : Heap) : ACalls Tryd.prog (B0 w0) 24 [.str (c :: l)] S fun e S' => e = .ret (lexV (Lx.sign (c :: l))) ∧ S' = S := by
  refine ACalls.close (R := fun e S' => e = .ret (lexV (Lx.sign (c :: l))) ∧ S'.take S.length = S) ?_ ?_
  rotate_left 1
  · rintro e S' ⟨rfl, ht⟩
    refine .flat ht ?_ ⟨rfl, rfl⟩
    unfold lexV; split <;> simp [AEnd.sc, tokC]
  refine fn_sound tryOrd (f24_c _) (by simp [f24]) ?_
  have w58' := fun S => w58 (w0 := w0) ones c S
  obtain ⟨hi, _⟩ := indexByte_mem ones c
  cases l with
  | nil =>
    simp [f24, f24m]
    refine (w58' _).use ?_
    rintro e S1 ⟨rfl, rfl⟩
    by_cases hm : c ∈ ones
    · have h0 : ¬ Lib.indexByte ones c < 0 := fun h => hi.1 h hm
      simp [h0, hm, sslcR, bound, Lx.sign, lexV, tokC]
    · have h0 : Lib.indexByte ones c < 0 := hi.2 hm
      simp [h0, hm, Lx.sign, lexV, tokC, zTok]
  | cons d r =>
    have hlen : (1 : Int) < (r.length : Int) + 1 + 1 := by omega
    simp [f24, f24m, hlen, sslcR, bound]
    refine (w57 (w0 := w0) (L := twos) (x := [c, d]) (.list .full _) (by decide)).use ?_
    rintro e S1 ⟨rfl, rfl⟩
    rw [two_mem]
    by_cases h2 : two c d = true
    · simp [h2, sslcR, bound, Lx.sign, lexV, tokC]
    · simp [h2, sslcR, bound]
      refine ⟨by omega, (w58' _).use ?_⟩
      rintro e S1 ⟨rfl, rfl⟩
      by_cases hm : c ∈ ones
      · have h0 : ¬ Lib.indexByte ones c < 0 := fun h => hi.1 h hm
        simp [h0, hm, h2, sslcR, bound, Lx.sign, lexV, tokC]
      · have h0 : Lib.indexByte ones c < 0 := hi.2 hm
        simp [h0, hm, h2, Lx.sign, lexV, tokC, zTok]
end Go.Abs
set_option linter.unusedSimpArgs false
set_option linter.unusedVariables false
namespace Go.Abs
open Go Go.RowKit Go.Proofs Go.Lx
variable {w0 : World}

theorem one_err {l : Bs} {e : Int} (h : Lx.one l = .error e) : 0 < e := by
  cases l with
  | nil => simp [Lx.one] at h; omega
  | cons c r =>
    rw [Lx.one] at h
    split at h
    · rw [Lx.word] at h; split at h <;> simp at h; omega
    · split at h
      · rw [Lx.number] at h
        split at h
        · split at h <;> simp at h; omega
        · split at h <;> simp at h; omega
      · split at h
        · rw [Lx.text] at h
          split at h
          · simp at h; omega
          · split at h <;> simp at h; omega
        · cases r with
          | nil => rw [Lx.sign] at h; split at h <;> simp at h; omega
          | cons d r => rw [Lx.sign] at h; split at h <;> (try split at h) <;> simp at h; omega

def toksV (ts : List Tok) : List (List AVal) := ts.map tokC
@[simp] theorem toksV_len (ts : List Tok) : (toksV ts).length = ts.length := by simp [toksV]
theorem toksV_k (ts : List Tok) : ∀ e ∈ toksV ts, e.length = 4 := by simp [toksV, tokC]
theorem toksV_sc (ts : List Tok) (n : Nat) : scLL n (toksV ts) = true := by
  refine scLL_iff.2 fun e he => ?_
  simp only [toksV, List.mem_map] at he
  obtain ⟨t, _, rfl⟩ := he
  simp [tokC, scL, AVal.sc]

/-- What Tokens answers. -/
inductive TokR (S : Heap) : Except Int (List Tok) → AEnd → Heap → Prop
  | ok (ts : List Tok) (u : AVal) (S' : Heap) (ho : Own S.length S S' [(u, 4, toksV ts)]) : TokR S (.ok ts) (.ret (.tuple [u, .int 0])) S'
  | err (e : Int) (he : e ≠ 0) (S' : Heap) (hl : S.length ≤ S'.length) (ht : ∀ j, j < S.length → S'[j]? = S[j]?) : TokR S (.error e) (.ret (.tuple [.nilS, .int e])) S'

def catT (acc : List Tok) : Except Int (List Tok) → Except Int (List Tok)
  | .ok ts => .ok (acc ++ ts)
  | .error e => .error e
theorem catT_cat (a b : List Tok) (x : Except Int (List Tok)) : catT (a ++ b) x = catT a (catT b x) := by cases x <;> simp [catT]

theorem dropWhile_head {p : UInt8 → Bool} : ∀ {l : Bs} {c : UInt8} {r : Bs}, l.dropWhile p = c :: r → p c = false
  | [], _, _, h => by cases h
  | d :: l, c, r, h => by
    rw [List.dropWhile_cons] at h
    split at h
    · exact dropWhile_head h
    · rename_i hp
      cases h
      simpa using hp
theorem dropWhile_le {p : UInt8 → Bool} (l : Bs) : (l.dropWhile p).length ≤ l.length := (List.dropWhile_sublist p).length_le

set_option maxHeartbeats 1000000 in
theorem w10 (l : Bs) (S : Heap) : ACalls Tryd.prog (B0 w0) 10 [.str l] S fun e S' => TokR S (Lx.tokens l) e S' := by
  refine fn_sound tryOrd (f10_c _) (by simp [f10]) ?_
  by_cases hl : 4000 < l.length
  · have hl' : (4000 : Int) < (l.length : Int) := by omega
    simp [f10, f10m, hl, hl']
    rw [Lx.tokens, if_pos hl]
    exact .err 1 (by decide) S (Nat.le_refl _) (fun _ _ => rfl)
  have hl' : ¬ (4000 : Int) < (l.length : Int) := by omega
  simp [f10, f10m, hl, hl']
  rw [Lx.tokens, if_neg hl]
  refine mwp_loop (I := fun n a S' => ∃ (r : Bs) (u : AVal) (acc : List Tok), n = r.length ∧ get a 0 = .str r ∧ get a 4 = u ∧ Own S.length S S' [(u, 4, toksV acc)] ∧ acc.length + r.length ≤ l.length ∧
    toks l = catT acc (toks r)) (n := l.length) ?_ ?_
  · refine ⟨l, .nilS, [], rfl, rfl, rfl, (Own.start S).add0 4 .nil (.inl rfl), by simp, ?_⟩
    cases toks l <;> rfl
  rintro n a S1 ⟨r, u, acc, rfl, a0, a4, ho, hlen, hspec⟩
  simp [f10b0, a0, a4]
  refine (w23 r _).use ?_
  rintro e S2 ⟨rfl, rfl⟩
  rw [← toks_drop r] at hspec
  have hdl := dropWhile_le (p := isB) r
  cases hd : r.dropWhile isB with
  | nil =>
    rw [hd, toks_nil] at hspec
    simp [a0, a4]
    rw [hspec, catT, List.append_nil]
    exact .ok _ _ _ ho
  | cons c r' =>
    rw [hd] at hspec hdl
    have hb := dropWhile_head hd
    simp only [List.length_cons] at hdl
    have hr4 : r'.length ≤ 4194304 := by omega
    have hone : Lx.one (c :: r') = if Lx.isL c then Lx.word (c :: r') else if isD c then Lx.number (c :: r') else if c.toNat = 39 then Lx.text (c :: r') else Lx.sign (c :: r') := by rw [Lx.one]
    have w26' := fun S => w26 (w0 := w0) (c :: r') (by simp; omega) S
    have w28' := fun S => w28 (w0 := w0) (c :: r') (by simp; omega) S
    have w29' := fun S => w29 (w0 := w0) c r' hr4 S
    have w24' := fun S => w24 (w0 := w0) c r' hr4 S
    simp [a0, a4]
    refine (w25 c _).use ?_
    rintro e S1 ⟨rfl, rfl⟩
    have hcase : (Lx.isL c = true) ∨ (¬ Lx.isL c = true ∧ isD c = true) ∨ (¬ Lx.isL c = true ∧ ¬ isD c = true ∧ c.toNat = 39) ∨ (¬ Lx.isL c = true ∧ ¬ isD c = true ∧ ¬ c.toNat = 39) := by
      by_cases h1 : Lx.isL c = true <;> by_cases h2 : isD c = true <;> by_cases h3 : c.toNat = 39 <;> simp [h1, h2, h3]
    rcases hcase with h1 | ⟨h1, h2⟩ | ⟨h1, h2, h3⟩ | ⟨h1, h2, h3⟩
    all_goals
      first
      | rw [if_pos h1] at hone
        rw [← hone] at w26'
        simp [h1, a0, a4]
        refine (w26' _).use ?_
      | rw [if_neg h1, if_pos h2] at hone
        rw [← hone] at w28'
        simp [h1, a0, a4]
        refine (w27 c _).use ?_
        rintro e S1 ⟨rfl, rfl⟩
        simp [h2, a0, a4]
        refine (w28' _).use ?_
      | rw [if_neg h1, if_neg h2, if_pos h3] at hone
        rw [← hone] at w29'
        simp [h1, a0, a4]
        refine (w27 c _).use ?_
        rintro e S1 ⟨rfl, rfl⟩
        simp [h2, h3, a0, a4]
        refine (w29' _).use ?_
      | rw [if_neg h1, if_neg h2, if_neg h3] at hone
        rw [← hone] at w24'
        have h3' : ((c.toNat : Int) == 39) = false := beq_eq_false_iff_ne.2 (by omega)
        simp [h1, a0, a4]
        refine (w27 c _).use ?_
        rintro e S1 ⟨rfl, rfl⟩
        simp [h2, h3', a0, a4]
        refine (w24' _).use ?_
    all_goals
      rintro e S3 ⟨rfl, rfl⟩
      cases hres : Lx.one (c :: r') with
      | error e =>
        have hne := one_err hres
        have hne' : (e != 0) = true := by simp; omega
        rw [toks_err hb hres] at hspec
        simp [lexV, tokC, zTok, hne', a0, a4]
        rw [hspec]
        refine .err e (by omega) _ ?_ ?_
        · have := ho.le; simp; omega
        · intro j hj
          rw [List.getElem?_append_left (by have := ho.le; omega)]
          exact ho.low j hj
      | ok y =>
        obtain ⟨t, n⟩ := y
        have hn := one_len hres
        rw [toks_tok hb hres] at hspec
        obtain ⟨S4, happ, ho4, hlt4⟩ := (ho.more [.cells 4 [tokC t] (some 1)]).app 0 rfl (y := .list .full [tokC t]) (ys := [tokC t]) (bytes := 40) rfl (by simp [tokC]) (by decide) (by simp; omega) (by simp; omega)
        simp only [tokC] at happ
        have hn0 : (0 : Int) ≤ (n : Int) := by omega
        simp [-appendR, lexV, tokC, a0, a4, happ, sslcR, bound, hn0, hn.2]
        obtain ⟨m, rfl⟩ : ∃ m, n = m + 1 := ⟨n - 1, by omega⟩
        refine ⟨(r'.drop m).length, by rw [List.length_drop]; omega, r'.drop m, rfl, rfl, acc ++ [t], by simpa [toksV] using ho4, by simp; omega, ?_⟩
        rw [hspec, catT_cat, Nat.add_sub_cancel]
        cases toks (r'.drop m) <;> rfl

/-- What Tokens answers, its tokens forgotten as places: nobody writes them. -/
theorem w10f (l : Bs) (S : Heap) : ACalls Tryd.prog (B0 w0) 10 [.str l] S fun e S' => S' = S ∧ (match Lx.tokens l with
    | .ok ts => ∃ fl, e = .ret (.tuple [.list fl (toksV ts), .int 0])
    | .error n => n ≠ 0 ∧ e = .ret (.tuple [.nilS, .int n])) := by
  refine ACalls.close (w10 l S) ?_
  intro e S' h
  cases hres : Lx.tokens l with
  | error n =>
    rw [hres] at h
    cases h with
    | err _ he S' hl ht =>
      refine .flat (List.ext_getElem? fun j => ?_) rfl ⟨rfl, he, rfl⟩
      rcases Nat.lt_or_ge j S.length with hj | hj
      · rw [List.getElem?_take_of_lt hj]; exact ht j hj
      · rw [List.getElem?_eq_none (by simp; omega), List.getElem?_eq_none hj]
  | ok ts =>
    rw [hres] at h
    cases h with
    | ok _ u S' ho =>
      have htake : ∀ S'' : Heap, S.length ≤ S''.length → (∀ j, j < S.length → S''[j]? = S[j]?) → S''.take S.length = S := fun S'' hl ht => by
        refine List.ext_getElem? fun j => ?_
        rcases Nat.lt_or_ge j S.length with hj | hj
        · rw [List.getElem?_take_of_lt hj]; exact ht j hj
        · rw [List.getElem?_eq_none (by simp; omega), List.getElem?_eq_none hj]
      have hap := ho.ap 0 _ _ _ rfl
      generalize hes : toksV ts = es at *
      have hsc : ∀ n, scLL n es = true := fun n => hes ▸ toksV_sc ts n
      cases hap with
      | none fl hf => exact .flat (htake _ ho.le ho.low) (by simp) ⟨rfl, fl, by rw [hes]⟩
      | row id off len es0 cap hN hS hl =>
        refine .frz id 4 es0 cap hS ?_
        refine .flat (htake _ (by simpa using ho.le) fun j hj => ?_) ?_ ⟨rfl, .unk, ?_⟩
        · rw [List.getElem?_set_ne (by omega)]; exact ho.low j hj
        · simpa [hl] using hsc S.length
        · simp [hl, hes]
end Go.Abs
set_option linter.unusedSimpArgs false
set_option linter.unusedVariables false
namespace Go.Abs
open Go Go.RowKit Go.Proofs Go.Lx
variable {w0 : World}

theorem toks_len : ∀ (n : Nat) (l : Bs) (s : List Tok), l.length ≤ n → toks l = .ok s → s.length ≤ l.length
  | n, [], s, _, h => by rw [toks_nil] at h; cases h; simp
  | 0, c :: r, s, hn, h => by simp at hn
  | n + 1, c :: r, s, hn, h => by
    by_cases hb : isB c = true
    · rw [toks_blank hb] at h
      have := toks_len n r s (by simpa using hn) h
      simp; omega
    · have hb : isB c = false := by simpa using hb
      cases ho : Lx.one (c :: r) with
      | error e => rw [toks_err hb ho] at h; cases h
      | ok y =>
        obtain ⟨tk, m⟩ := y
        rw [toks_tok hb ho] at h
        have hlen := one_len ho
        cases hr : toks (r.drop (m - 1)) with
        | error e => rw [hr] at h; cases h
        | ok s' =>
          rw [hr] at h
          cases h
          have := toks_len n _ s' (by simp at hn ⊢; omega) hr
          simp at this ⊢; omega
theorem tokens_ok {l : Bs} {s : List Tok} (h : Lx.tokens l = .ok s) : l.length ≤ 4000 ∧ toks l = .ok s ∧ s.length ≤ l.length := by
  rw [Lx.tokens] at h
  split at h
  · cases h
  · exact ⟨by omega, h, toks_len _ l s (Nat.le_refl _) h⟩

theorem toksV_get (ts : List Tok) (i : Nat) (h : i < ts.length) : (toksV ts).getD i [] = tokC ts[i] := by
  rw [getD_eq _ _ _ (by simpa using h)]; simp [toksV]
theorem Rk.tok {S v ts} (h : Rk 4 S v (toksV ts)) {i : Nat} (hi : i < ts.length) : ∃ p, iaddrR 4 S v (.int i) = .ok true p S ∧ loadR true 4 S p = .ok true (.agg (tokC ts[i])) S := by
  obtain ⟨p, h1, h2, _⟩ := h.elem (i := i) (by simpa using hi) (by rw [toksV_get _ _ hi]; rfl)
  refine ⟨p, h1, ?_⟩
  rw [h2 true 4 (Nat.le_refl _), toksV_get _ _ hi]; rfl

/-- Same. -/
theorem w12 {S : Heap} {v u : AVal} {l r : List Tok} (h : Rk 4 S v (toksV l)) (h' : Rk 4 S u (toksV r)) (hl : l.length ≤ 4194304) : ACalls Tryd.prog (B0 w0) 12 [v, u] S fun e S' => e = .ret (.bool (decide (l = r))) ∧ S' = S := by
  refine fn_sound tryOrd (f12_c _) (by simp [f12]) ?_
  by_cases hlen : l.length = r.length
  rotate_left 1
  · have g : ((l.length : Int) == (r.length : Int)) = false := beq_eq_false_iff_ne.2 (by omega)
    have hne : l ≠ r := fun e => hlen (by rw [e])
    simp [f12, f12m, h.lenR, h'.lenR, bne, g, hne]
  simp [f12, f12m, h.lenR, h'.lenR, hlen]
  refine mwp_loop (I := fun n a S' => ∃ i : Nat, n = l.length - i ∧ i ≤ l.length ∧ get a 0 = v ∧ get a 1 = u ∧ get a 5 = .int i ∧ S' = S ∧ l.take i = r.take i) (n := l.length) ?_ ?_
  · exact ⟨0, rfl, Nat.zero_le _, rfl, rfl, rfl, rfl, rfl⟩
  rintro n a S' ⟨i, rfl, hi, a0, a1, a5, rfl, hsame⟩
  by_cases hlt : i < l.length
  · have hlt' : i < r.length := by omega
    obtain ⟨p, q1, q2⟩ := h.tok hlt
    obtain ⟨p', q3, q4⟩ := h'.tok hlt'
    by_cases hx : l[i] = r[i]
    · simp [f12b0, a0, a1, a5, h.lenR, hlt, q1, q2, q3, q4, hx, tokC, wrapS i (by omega)]
      refine ⟨l.length - (i + 1), by omega, i + 1, rfl, by omega, by simp, ?_⟩
      rw [List.take_add_one, List.take_add_one, List.getElem?_eq_getElem hlt, List.getElem?_eq_getElem hlt', hsame, hx]
    · have hne : l ≠ r := fun e => hx (by subst e; rfl)
      have hx' : ¬ (l[i].kind = r[i].kind ∧ l[i].text = r[i].text ∧ l[i].num = r[i].num ∧ l[i].scale = r[i].scale) := fun ⟨h1, h2, h3, h4⟩ => hx (by
        cases hA : l[i]; cases hB : r[i]
        rw [hA] at h1 h2 h3 h4; rw [hB] at h1 h2 h3 h4
        simp at h1 h2 h3 h4
        rw [h1, h2, h3, h4])
      generalize l[i] = A at *
      generalize r[i] = B at *
      simp [f12b0, a0, a1, a5, h.lenR, hlt, q1, q2, q3, q4, tokC, hne]
      have hb : (!A.kind == B.kind || (!decide (A.text = B.text) || (!A.num == B.num || !A.scale == B.scale))) = true := by
        by_cases e1 : A.kind = B.kind
        · by_cases e2 : A.text = B.text
          · by_cases e3 : A.num = B.num
            · have e4 : ¬ A.scale = B.scale := fun e => hx' ⟨e1, e2, e3, e⟩
              simp [e4]
            · simp [e3]
          · simp [e2]
        · simp [e1]
      rw [hb]
      simp [hne]
  · have : i = l.length := by omega
    have heq : l = r := by rw [← List.take_length (l := l), ← List.take_length (l := r), ← hlen, ← this]; exact hsame
    have hge : ¬ i < r.length := by omega
    simp [f12b0, a0, a1, a5, h.lenR, hlt, hlen, hge, heq]

theorem frozen_toks (fl : Fl) (ts : List Tok) (S : Heap) : Rk 4 S (.list fl (toksV ts)) (toksV ts) := .list _ _

/-- LexJoin. -/
theorem w7 (a b : Bs) : ACalls Tryd.prog (B0 w0) 7 [.str a, .str b] [] fun e _ => e = .ret (.bool true) := by
  refine fn_sound tryOrd (f7_c _) (by simp [f7]) ?_
  simp [f7, f7m]
  refine (speaks9 w0 _).use ?_
  rintro e S1 ⟨rfl, rfl⟩
  simp
  refine (w10f a _).use ?_
  rintro e S1 ⟨rfl, he⟩
  cases ha : Lx.tokens a with
  | error n =>
    rw [ha] at he
    obtain ⟨hn, rfl⟩ := he
    simp
    refine (w10f b _).use ?_
    rintro e S1 ⟨rfl, he⟩
    have hne : (n != 0) = true := by simpa using hn
    cases hb : Lx.tokens b with
    | error n2 =>
      rw [hb] at he
      obtain ⟨hn2, rfl⟩ := he
      simp [hne]
    | ok t =>
      rw [hb] at he
      obtain ⟨fl, rfl⟩ := he
      simp [hne]
  | ok s =>
    rw [ha] at he
    obtain ⟨fl, rfl⟩ := he
    obtain ⟨hla, hta, hsa⟩ := tokens_ok ha
    simp
    refine (w10f b _).use ?_
    rintro e S1 ⟨rfl, he⟩
    cases hb : Lx.tokens b with
    | error n2 =>
      rw [hb] at he
      obtain ⟨hn2, rfl⟩ := he
      have hne : (n2 != 0) = true := by simpa using hn2
      simp [hne]
    | ok t =>
      rw [hb] at he
      obtain ⟨fl2, rfl⟩ := he
      obtain ⟨hlb, htb, hsb⟩ := tokens_ok hb
      have hw1 : IntKind.i64.wrap ((a.length : Int) + 1) = ((a.length + 1 : Nat) : Int) := by rw [wrap64_in (by omega) (by omega)]; simp
      have hw2 : IntKind.i64.wrap (4000 - (b.length : Int)) = 4000 - (b.length : Int) := by rw [wrap64_in (by omega) (by omega)]
      by_cases hlen : 4000 - (b.length : Int) < ((a.length + 1 : Nat) : Int)
      · simp only [Int.natCast_add, Int.cast_ofNat_Int] at hlen hw1
        simp [hw1, hw2, hlen]
      · have hsum : a.length + 1 + b.length ≤ 4000 := by omega
        have hjoin : Lx.tokens (a ++ 32 :: b) = .ok (s ++ t) := by
          rw [Lx.tokens, if_neg (by simp; omega)]
          exact toks_app (fun z y e => by cases e; rfl) (by rw [toks_blank (by rfl)]; exact htb) _ a s (Nat.le_refl _) hta
        have hc1 : a.length + 1 ≤ 9223372036854775807 := by omega
        have hc2 : a.length + 1 + b.length ≤ 9223372036854775807 := by omega
        have w10j := fun S => w10f (w0 := w0) (a ++ 32 :: b) S
        rw [hjoin] at w10j
        simp only [Int.natCast_add, Int.cast_ofNat_Int] at hlen hw1
        simp [hw1, hw2, hlen, hc1, hc2]
        refine (w10j _).use ?_
        rintro e S1 ⟨rfl, fl3, rfl⟩
        obtain ⟨S2, happ, ho2, _⟩ := ((Own.start []).add0 4 .full (.inr rfl)).app 0 rfl (y := .list fl (toksV s)) (ys := toksV s) (bytes := 40) rfl (toksV_k s) (by decide) (by simp; omega) (by simp; omega)
        obtain ⟨S3, happ2, ho3, _⟩ := ho2.app 0 rfl (y := .list fl2 (toksV t)) (ys := toksV t) (bytes := 40) rfl (toksV_k t) (by decide) (by simp; omega) (by simp; omega)
        simp [-appendR] at happ happ2 ho3
        have hr1 := ho3.rk 0 rfl
        have e1 : toksV s ++ toksV t = toksV (s ++ t) := by simp [toksV]
        rw [e1] at hr1
        simp [-appendR, happ, happ2]
        refine (w12 (frozen_toks fl3 (s ++ t) _) hr1 (by simp; omega)).use ?_
        rintro e S1 ⟨rfl, rfl⟩
        simp
end Go.Abs
set_option linter.unusedSimpArgs false
set_option linter.unusedVariables false
namespace Go.Abs
open Go Go.RowKit Go.Proofs Go.Lx
variable {w0 : World}

def resv : List Bs := [[97, 110, 100], [97, 115], [98, 101, 103, 105, 110], [98, 111, 111, 108], [98, 121], [99, 111, 109, 109, 105, 116], [99, 114, 101, 97, 116, 101], [100, 101, 108, 101, 116, 101], [100, 101, 115, 99], [100, 114, 111, 112],
  [102, 97, 108, 115, 101], [102, 114, 111, 109], [105, 110, 100, 101, 120], [105, 110, 102, 105, 110, 105, 116, 121], [105, 110, 110, 101, 114], [105, 110, 115, 101, 114, 116], [105, 110, 116], [105, 110, 116, 111], [105, 115], [106, 111, 105, 110],
  [110, 97, 110], [110, 111, 116], [110, 117, 108, 108], [111, 110], [111, 114], [111, 114, 100, 101, 114], [114, 101, 97, 108], [114, 111, 108, 108, 98, 97, 99, 107], [115, 101, 108, 101, 99, 116], [115, 101, 116], [116, 97, 98, 108, 101], [116, 101, 120, 116],
  [116, 114, 117, 101], [117, 110, 105, 113, 117, 101], [117, 112, 100, 97, 116, 101], [118, 97, 108, 117, 101, 115], [119, 104, 101, 114, 101]]

set_option maxRecDepth 100000 in
set_option maxHeartbeats 4000000 in
/-- lex.Reserved. -/
theorem w13 (x : Bs) (S : Heap) : ACalls Tryd.prog (B0 w0) 13 [.str x] S fun e S' => e = .ret (.bool (decide (x ∈ resv))) ∧ S' = S := by
  by_cases h : x ∈ resv
  · rw [decide_eq_true h]
    simp only [resv, List.mem_cons, List.mem_nil_iff, or_false] at h
    refine fn_sound tryOrd (f13_c _) (by simp [f13]) ?_
    rcases h with rfl | rfl | rfl | rfl | rfl | rfl | rfl | rfl | rfl | rfl | rfl | rfl | rfl | rfl | rfl | rfl | rfl | rfl | rfl | rfl | rfl | rfl | rfl | rfl | rfl | rfl | rfl | rfl | rfl | rfl | rfl | rfl | rfl | rfl | rfl | rfl | rfl
    all_goals simp [f13, f13m]
  · rw [decide_eq_false h]
    simp only [resv, List.mem_cons, List.mem_nil_iff, or_false, not_or] at h
    refine fn_sound tryOrd (f13_c _) (by simp [f13]) ?_
    simp [f13, f13m, h]

theorem resv_len : resv.length = 37 := rfl
set_option maxHeartbeats 4000000 in
/-- The document's Reserved. -/
theorem w14 (x : Bs) (S : Heap) : ACalls Tryd.prog (B0 w0) 14 [.str x] S fun e S' => e = .ret (.bool (decide (x ∈ resv))) ∧ S' = S := by
  refine ACalls.close (R := fun e S' => e = .ret (.bool (decide (x ∈ resv))) ∧ S'.take S.length = S) ?_ ?_
  rotate_left 1
  · rintro e S' ⟨rfl, ht⟩
    exact .flat ht rfl ⟨rfl, rfl⟩
  refine fn_sound tryOrd (f14_c _) (by simp [f14]) ?_
  simp [f14, f14m]
  refine mwp_loop (I := fun q a S' => ∃ i : Nat, q = 37 - i ∧ i ≤ 37 ∧ get a 0 = .str x ∧ get a 3 = .ptr S.length 0 0 ∧ get a 4 = .int i ∧ S' = S ++ [.cells 37 [resv.map .str] (some 1)] ∧ x ∉ resv.take i) (n := 37) ?_ ?_
  · exact ⟨0, rfl, by omega, rfl, rfl, rfl, rfl, by simp⟩
  rintro q a S1 ⟨i, rfl, hi, a0, a3, a4, rfl, hnot⟩
  by_cases hlt : i < 37
  · have hlt' : i < resv.length := by rw [resv_len]; exact hlt
    have hi37 : (i : Int) < 37 := by omega
    have hwi := wrapS i (by omega)
    by_cases hx : resv[i] = x
    · have hm : x ∈ resv := hx ▸ List.getElem_mem hlt'
      simp [f14b0, a0, a3, a4, hlt, hlt', hi37, resv_len, hx, hm]
      omega
    · simp [f14b0, a0, a3, a4, hlt, hlt', hi37, resv_len, hx, hwi]
      exact ⟨by omega, 37 - (i + 1), by omega, i + 1, rfl, by omega, by simp, not_mem_take_succ hnot hlt' hx⟩
  · obtain rfl : i = 37 := by omega
    have hm : x ∉ resv := hnot
    simp [f14b0, a0, a3, a4, hm]

def nameB (x : Bs) : Bool := decide (1 ≤ x.length) && decide (x.length ≤ 32) && Lx.isL (x[0]?.getD 0) && x.all (fun c => isW c && decide (Lib.lowerB c = c)) && !decide (x ∈ resv)

theorem run_eq_len {p : UInt8 → Bool} : ∀ {l : Bs}, run p l = l.length ↔ l.all p = true
  | [] => by simp [run]
  | c :: r => by
    rw [run_cons]
    have ih := run_eq_len (p := p) (l := r)
    by_cases h : p c = true
    · simp only [h, if_true, List.length_cons, List.all_cons, Bool.true_and]; rw [← ih]; omega
    · have h' : p c = false := by simpa using h
      simp [h']
theorem map_lower_eq : ∀ {l : Bs}, l.map Lib.lowerB = l ↔ l.all (fun c => decide (Lib.lowerB c = c)) = true
  | [] => by simp
  | c :: r => by
    have ih := map_lower_eq (l := r)
    simp only [List.map_cons, List.cons.injEq, List.all_cons, Bool.and_eq_true, decide_eq_true_eq]
    rw [ih]
theorem all_and {l : Bs} {p q : UInt8 → Bool} : l.all (fun c => p c && q c) = (l.all p && l.all q) := by
  induction l with
  | nil => rfl
  | cons c r ih => simp only [List.all_cons, ih]; cases p c <;> cases q c <;> cases r.all p <;> cases r.all q <;> rfl

set_option maxHeartbeats 1000000 in
/-- lex.Name. -/
theorem w15 (x : Bs) (S : Heap) : ACalls Tryd.prog (B0 w0) 15 [.str x] S fun e S' => e = .ret (.bool (nameB x)) ∧ S' = S := by
  have hnm : nameB x = (decide (1 ≤ x.length) && decide (x.length ≤ 32) && Lx.isL (x[0]?.getD 0) && (decide (run isW x = x.length) && decide (x.map Lib.lowerB = x)) && !decide (x ∈ resv)) := by
    rw [nameB, all_and]
    have e1 : x.all isW = decide (run isW x = x.length) := by rw [Bool.eq_iff_iff, decide_eq_true_eq]; exact run_eq_len.symm
    have e2 : (x.all fun c => decide (Lib.lowerB c = c)) = decide (x.map Lib.lowerB = x) := by rw [Bool.eq_iff_iff, decide_eq_true_eq]; exact map_lower_eq.symm
    rw [e1, e2]
  refine fn_sound tryOrd (f15_c _) (by simp [f15]) ?_
  cases x with
  | nil => simp [f15, f15m, hnm]
  | cons c r =>
    by_cases hlen : (c :: r).length ≤ 32
    rotate_left 1
    · have h' : ¬ ((r.length : Int) + 1 ≤ 32) := by simp at hlen; omega
      have h'' : ¬ (r.length + 1 ≤ 32) := by simp at hlen; omega
      simp [f15, f15m, hnm, h', h'']
    have h' : ((r.length : Int) + 1 ≤ 32) := by simp at hlen; omega
    have h'' : (r.length + 1 ≤ 32) := by simp at hlen; omega
    simp [f15, f15m, h']
    refine (w25 c _).use ?_
    rintro e S1 ⟨rfl, rfl⟩
    by_cases hL : Lx.isL c = true
    rotate_left 1
    · simp [hL, hnm]
    have w31' := fun S => w31 (q := 32) (p := isW) w32 (c :: r) (w0 := w0) (by simp; omega) S
    simp [hL]
    refine (w31' _).use ?_
    rintro e S1 ⟨rfl, rfl⟩
    by_cases hr : run isW (c :: r) = (c :: r).length
    rotate_left 1
    · have hr' : ((run isW (c :: r) : Int) == (r.length : Int) + 1) = false := by
        rw [beq_eq_false_iff_ne]; simp at hr; omega
      have hr'' : ¬ run isW (c :: r) = r.length + 1 := by simpa using hr
      simp [hr', hr'', hnm]
    have hr' : ((run isW (c :: r) : Int) == (r.length : Int) + 1) = true := by simp at hr ⊢; omega
    have hall := run_eq_len.1 hr
    have hext := ext_ok (β := B0 w0) 33 [.str (c :: r)] (.str ((c :: r).map Lib.lowerB)) (by
      have : ((c :: r).all (fun b => decide (b.toNat < 128)) && decide ((c :: r).length ≤ 140737488355328)) = true := by
        simp only [Bool.and_eq_true, decide_eq_true_eq, List.all_eq_true]
        refine ⟨fun d hd => ?_, by omega⟩
        have := List.all_eq_true.1 hall d hd
        simp [isW, Lx.isL, isD] at this
        omega
      simp only [ext, this, if_true]; rfl)
    simp [hr']
    refine (hext _).use ?_
    rintro e S1 ⟨rfl, rfl⟩
    by_cases hlow : (c :: r).map Lib.lowerB = c :: r
    rotate_left 1
    · have hl2 : ¬ (c :: r) = (c :: r).map Lib.lowerB := fun e => hlow e.symm
      rw [hnm, decide_eq_false hlow]
      simp only [List.map_cons] at hl2
      simp [hl2]
    · have w13' := fun S => w13 (w0 := w0) (c :: r) S
      rw [hnm, decide_eq_true hlow, decide_eq_true hr, decide_eq_true hlen]
      rw [List.map_cons] at hlow
      simp [hlow]
      refine (w13' _).use ?_
      rintro e S1 ⟨rfl, rfl⟩
      simp [hL]

set_option maxHeartbeats 2000000 in
/-- The document's Name. -/
theorem w16 (x : Bs) (S : Heap) : ACalls Tryd.prog (B0 w0) 16 [.str x] S fun e S' => e = .ret (.bool (nameB x)) ∧ S' = S := by
  have w14' := fun S => w14 (w0 := w0) x S
  refine fn_sound tryOrd (f16_c _) (by simp [f16]) ?_
  by_cases h1 : 1 ≤ x.length
  rotate_left 1
  · have h1' : (x.length : Int) < 1 := by omega
    simp [f16, f16m, h1', nameB, h1]
  have h1' : ¬ (x.length : Int) < 1 := by omega
  by_cases h2 : x.length ≤ 32
  rotate_left 1
  · have h2' : (32 : Int) < (x.length : Int) := by omega
    simp [f16, f16m, h1', h2', nameB, h2]
  have h2' : ¬ (32 : Int) < (x.length : Int) := by omega
  have h0 : 0 < x.length := by omega
  simp [f16, f16m, h1', h2']
  refine (w14' _).use ?_
  rintro e S1 ⟨rfl, rfl⟩
  by_cases hm : x ∈ resv
  · simp [hm, nameB]
  have w34' := fun S => w34 (w0 := w0) x[0] S
  simp [hm, h0]
  refine (w34' _).use ?_
  rintro e S1 ⟨rfl, rfl⟩
  by_cases hL : Lx.isL x[0] = true
  rotate_left 1
  · simp [hL, nameB, h0]
  have hnm : nameB x = x.all fun c => isW c && decide (Lib.lowerB c = c) := by
    simp [nameB, hm, h1, h2, h0, hL]
  rw [hnm]
  simp [hL]
  refine mwp_loop (I := fun q a S' => ∃ i : Nat, q = x.length - i ∧ i ≤ x.length ∧ get a 0 = .str x ∧ get a 3 = .int i ∧ S' = S1 ∧ (x.take i).all (fun c => isW c && decide (Lib.lowerB c = c)) = true) (n := x.length) ?_ ?_
  · exact ⟨0, rfl, Nat.zero_le _, rfl, rfl, rfl, by simp⟩
  rintro q a S2 ⟨i, rfl, hi, a0, a3, rfl, hall⟩
  by_cases hlt : i < x.length
  · have w35' := fun S => w35 (w0 := w0) x[i] S
    have w34' := fun S => w34 (w0 := w0) x[i] S
    have w36' := fun S => w36 (w0 := w0) x[i] S
    have hwi := wrapS i (by omega)
    have hmem : x[i] ∈ x := List.getElem_mem hlt
    simp [f16b0, a0, a3, hlt]
    refine (w35' _).use ?_
    rintro e S1 ⟨rfl, rfl⟩
    by_cases hlow : Lib.lowerB x[i] = x[i]
    rotate_left 1
    · have hlow' : (((Lib.lowerB x[i]).toNat : Int) != (x[i].toNat : Int)) = true := by
        rw [bne_iff_ne]; intro e; exact hlow (UInt8.toNat_inj.1 (by omega))
      have hf : (x.all fun c => isW c && decide (Lib.lowerB c = c)) = false := by
        rw [List.all_eq_false]
        exact ⟨x[i], hmem, by simp [hlow]⟩
      simp [a0, a3, hlt, hlow', hf]
    · have hstep : isW x[i] = true → (x.take (i + 1)).all (fun c => isW c && decide (Lib.lowerB c = c)) = true := fun h => by
        rw [List.take_add_one, List.getElem?_eq_getElem hlt, Option.toList_some, List.all_append, hall]
        simp [h, hlow]
      simp [a0, a3, hlt, hlow]
      refine (w34' _).use ?_
      rintro e S1 ⟨rfl, rfl⟩
      by_cases hL2 : Lx.isL x[i] = true
      · simp [a0, a3, hlt, hL2, hwi]
        have := hstep (by simp [isW, hL2])
        refine ⟨x.length - (i + 1), by omega, i + 1, rfl, by omega, by simp, by simpa using this⟩
      · simp [a0, a3, hlt, hL2]
        refine (w36' _).use ?_
        rintro e S1 ⟨rfl, rfl⟩
        by_cases hD : isD x[i] = true
        · simp [a0, a3, hD, hwi]
          have := hstep (by simp [isW, hD])
          refine ⟨x.length - (i + 1), by omega, i + 1, rfl, by omega, by simp, by simpa using this⟩
        · have hf : (x.all fun c => isW c && decide (Lib.lowerB c = c)) = false := by
            rw [List.all_eq_false]
            exact ⟨x[i], hmem, by simp [isW, hL2, hD]⟩
          simp [a0, a3, hD, hf]
  · obtain rfl : i = x.length := by omega
    rw [List.take_length] at hall
    simp [f16b0, a0, a3, hall]

theorem name_token {x : Bs} (h : nameB x = true) : Lx.tokens x = .ok [⟨1, x, 0, 0⟩] := by
  simp only [nameB, Bool.and_eq_true, decide_eq_true_eq] at h
  obtain ⟨⟨⟨⟨h1, h2⟩, h3⟩, h4⟩, h5⟩ := h
  rw [Lx.tokens, if_neg (by omega)]
  cases x with
  | nil => simp at h1
  | cons c r =>
    have hw : ∀ d ∈ c :: r, isW d = true ∧ Lib.lowerB d = d := fun d hd => by
      have := List.all_eq_true.1 h4 d hd
      simpa using this
    obtain ⟨c', r', e, hb, ho⟩ := ok_one (OkT.word c r (by simpa using h3) (fun d hd => (hw d hd).1) (fun d hd => (hw d hd).2) (by simp at h2; omega))
    have e' : wordOf ⟨1, c :: r, 0, 0⟩ = c :: r := by simp [wordOf]
    rw [e'] at e
    cases e
    rw [toks_tok hb ho]
    simp [toks_nil]

set_option maxHeartbeats 1000000 in
/-- LexWords. -/
theorem w5 (x : Bs) : ACalls Tryd.prog (B0 w0) 5 [.str x] [] fun e _ => e = .ret (.bool true) := by
  have w13' := fun S => w13 (w0 := w0) x S
  have w14' := fun S => w14 (w0 := w0) x S
  have w15' := fun S => w15 (w0 := w0) x S
  have w16' := fun S => w16 (w0 := w0) x S
  have w10' := fun S => w10f (w0 := w0) x S
  refine fn_sound tryOrd (f5_c _) (by simp [f5]) ?_
  simp [f5, f5m]
  refine (speaks9 w0 _).use ?_
  rintro e S1 ⟨rfl, rfl⟩
  simp
  refine (w13' _).use ?_
  rintro e S1 ⟨rfl, rfl⟩
  simp
  refine (w14' _).use ?_
  rintro e S1 ⟨rfl, rfl⟩
  simp
  refine (w15' _).use ?_
  rintro e S1 ⟨rfl, rfl⟩
  simp
  refine (w16' _).use ?_
  rintro e S1 ⟨rfl, rfl⟩
  simp
  refine (w10' _).use ?_
  rintro e S1 ⟨rfl, he⟩
  by_cases hn : nameB x = true
  · rw [name_token hn] at he
    obtain ⟨fl, rfl⟩ := he
    simp
    refine (w15' _).use ?_
    rintro e S1 ⟨rfl, rfl⟩
    simp [hn, toksV, tokC]
  · cases hres : Lx.tokens x with
    | error n =>
      rw [hres] at he
      obtain ⟨hne, rfl⟩ := he
      simp
      refine (w15' _).use ?_
      rintro e S1 ⟨rfl, rfl⟩
      simp [hn]
    | ok ts =>
      rw [hres] at he
      obtain ⟨fl, rfl⟩ := he
      simp
      refine (w15' _).use ?_
      rintro e S1 ⟨rfl, rfl⟩
      simp [hn]
end Go.Abs
