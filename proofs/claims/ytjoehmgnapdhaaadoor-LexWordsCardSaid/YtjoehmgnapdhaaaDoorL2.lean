/- Walks of the lexer: runs, the worth of digits. Conditions: none but the lengths; definitions and lemmas. -/
import Derived.Test.YtjoehmgnapdhaaaDoorL1
set_option linter.unusedSimpArgs false
set_option linter.unusedVariables false
namespace Go.Abs
open Go Go.RowKit Go.Proofs Go.Lx
variable {w0 : World}

/-- A function of one byte that tells. -/
def Tells (w0 : World) (q : FuncId) (p : UInt8 → Bool) : Prop := ∀ (c : UInt8) (S : Heap), ACalls Tryd.prog (B0 w0) q [bv c] S fun e S' => e = .ret (.bool (p c)) ∧ S' = S

theorem w65 {q : FuncId} {p : UInt8 → Bool} (hq : Tells w0 q p) {S : Heap} {id : Nat} {cap : Option Nat} (hS : S[id]? = some (.cells 1 [[.clo (.func q) [] []]] cap)) (c : UInt8) :
    ACalls Tryd.prog (B0 w0) 65 [bv c, .ptr id 0 0] S fun e S' => e = .ret (.bool (!p c)) ∧ S' = S := by
  refine fn_sound tryOrd (f65_c _) (by simp [f65]) ?_
  simp [f65, f65m, hS]
  refine (hq c S).use ?_
  rintro e S1 ⟨rfl, rfl⟩
  simp

theorem run_le_iff {p : UInt8 → Bool} : ∀ {l : Bs} {i : Nat} (h : i < l.length), i ≤ run p l → (p l[i] = true ↔ i < run p l)
  | c :: r, 0, h, _ => by
    rw [run_cons]
    by_cases hc : p c = true
    · simp [hc]
    · simp [hc]
  | c :: r, i + 1, h, hi => by
    rw [run_cons] at hi ⊢
    by_cases hc : p c = true
    · rw [if_pos hc] at hi ⊢
      have := run_le_iff (p := p) (l := r) (i := i) (by simpa using h) (by omega)
      simp only [List.getElem_cons_succ]
      rw [this]; omega
    · rw [if_neg hc] at hi; omega

theorem w64 {q : FuncId} {p : UInt8 → Bool} (hq : Tells w0 q p) {S : Heap} {id : Nat} {cap : Option Nat} (hS : S[id]? = some (.cells 1 [[.clo (.func q) [] []]] cap)) {v : AVal} {l : Bs} (hv : Rk 1 S v (l.map u8)) (hl : l.length ≤ 4194304) :
    ACalls Tryd.prog (B0 w0) 64 [v, .clo (.func 65) [] [.ptr id 0 0]] S fun e S' => e = .ret (.int (if run p l < l.length then run p l else -1)) ∧ S' = S := by
  refine fn_sound tryOrd (f64_c _) (by simp [f64]) ?_
  simp [f64, f64m, hv.lenR]
  refine mwp_loop (I := fun n a S' => ∃ i : Nat, n = l.length - i ∧ i ≤ l.length ∧ get a 0 = v ∧ get a 1 = .clo (.func 65) [] [.ptr id 0 0] ∧ get a 7 = .int l.length ∧ get a 8 = .int i ∧ S' = S ∧ i ≤ run p l) (n := l.length) ?_ ?_
  · exact ⟨0, rfl, Nat.zero_le _, rfl, rfl, rfl, rfl, rfl, Nat.zero_le _⟩
  rintro n a S' ⟨i, rfl, hi, a0, a1, a7, a8, rfl, hr⟩
  by_cases hlt : i < l.length
  · obtain ⟨pp, q1, q2⟩ := hv.byte hlt
    have hiff := run_le_iff (p := p) hlt hr
    simp [f64b0, a0, a1, a7, a8, hlt, q1, q2]
    refine (w65 hq hS l[i]).use ?_
    rintro e S1 ⟨rfl, rfl⟩
    by_cases hp : p l[i] = true
    · have := hiff.1 hp
      simp [hp, a0, a1, a7, a8, wrapS i (by omega)]
      exact ⟨l.length - (i + 1), by omega, i + 1, rfl, by omega, by simp, by omega⟩
    · have h1 : ¬ i < run p l := fun h => hp (hiff.2 h)
      have h2 : run p l = i := by omega
      simp [hp, a0, a1, a7, a8, h2, hlt]
  · have := run_le p l
    have h1 : ¬ run p l < l.length := by omega
    simp [f64b0, a0, a1, a7, a8, hlt, h1]

/-- run. -/
theorem w31 {q : FuncId} {p : UInt8 → Bool} (hq : Tells w0 q p) (l : Bs) (hl : l.length ≤ 4194304) (S : Heap) :
    ACalls Tryd.prog (B0 w0) 31 [.str l, .clo (.func q) [] []] S fun e S' => e = .ret (.int (run p l)) ∧ S' = S := by
  refine ACalls.close (R := fun e S' => e = .ret (.int (run p l)) ∧ S'.take S.length = S) ?_ ?_
  rotate_left 1
  · rintro e S' ⟨rfl, ht⟩
    exact .flat ht rfl ⟨rfl, rfl⟩
  refine fn_sound tryOrd (f31_c _) (by simp [f31]) ?_
  simp [f31, f31m]
  refine (w64 hq (id := S.length) (cap := some 1) (by simp) (v := .row (S.length + 1) 0 l.length) (l := l) ?_ hl).use ?_
  · have := Rk.row (k := 1) (S := S ++ [.cells 1 [[.clo (.func q) [] []]] (some 1), .cells 1 (l.map u8) none]) (S.length + 1) 0 l.length (l.map u8) none (by simp) (by simp)
    rw [List.drop_zero, List.take_of_length_le (by simp)] at this
    exact this
  rintro e S1 ⟨rfl, rfl⟩
  have hle := run_le p l
  by_cases hlt : run p l < l.length
  · have h0 : (0 : Int) ≤ (run p l : Int) := by omega
    simp [hlt, h0]
  · have : run p l = l.length := by omega
    simp [hlt, this]

theorem valA_ge : ∀ (l : Bs) (n : Nat), n ≤ valA n l
  | [], n => Nat.le_refl _
  | c :: r, n => by
    have := valA_ge r (n * 10 + dig c)
    have e : valA n (c :: r) = valA (n * 10 + dig c) r := rfl
    omega
theorem val_split (l : Bs) (i : Nat) (h : i < l.length) : val (l.take (i + 1)) = val (l.take i) * 10 + dig l[i] := by
  rw [List.take_add_one, List.getElem?_eq_getElem h, val, valA_append]; rfl
theorem val_take_le (l : Bs) (i : Nat) : val (l.take i) ≤ val l := by
  have : val l = valA (val (l.take i)) (l.drop i) := by
    show valA 0 l = valA (valA 0 _) _
    rw [← valA_append, List.take_append_drop]
  rw [this]; exact valA_ge _ _

theorem isD_dig {c : UInt8} (h : isD c = true) : c.toNat = 48 + dig c ∧ dig c ≤ 9 := by
  simp [isD] at h
  unfold dig; omega

/-- worth. -/
theorem w60 (l : Bs) (hl : l.length ≤ 4194304) (hd : ∀ c ∈ l, isD c = true) (S : Heap) :
    ACalls Tryd.prog (B0 w0) 60 [.str l] S fun e S' => e = .ret (if val l ≤ 9223372036854775807 then .tuple [.int (val l), .bool true] else .tuple [.int 0, .bool false]) ∧ S' = S := by
  refine ACalls.close (R := fun e S' => e = .ret (if val l ≤ 9223372036854775807 then .tuple [.int (val l), .bool true] else .tuple [.int 0, .bool false]) ∧ S'.take S.length = S) ?_ ?_
  rotate_left 1
  · rintro e S' ⟨rfl, ht⟩
    refine .flat ht ?_ ⟨rfl, rfl⟩
    split <;> simp [AEnd.sc]
  refine fn_sound tryOrd (f60_c _) (by simp [f60]) ?_
  simp [f60, f60m]
  have hv : Rk 1 (S ++ [.cells 1 (l.map u8) none]) (.row S.length 0 l.length) (l.map u8) := by
    have := Rk.row (k := 1) (S := S ++ [.cells 1 (l.map u8) none]) S.length 0 l.length (l.map u8) none (by simp) (by simp)
    rw [List.drop_zero, List.take_of_length_le (by simp)] at this
    exact this
  generalize hS1 : S ++ [.cells 1 (l.map u8) none] = S1 at hv
  generalize AVal.row S.length 0 l.length = v at hv
  have ht : S1.take S.length = S := by rw [← hS1]; simp
  refine mwp_loop (I := fun n a S' => ∃ i : Nat, n = l.length - i ∧ i ≤ l.length ∧ get a 4 = .int (val (l.take i)) ∧ get a 9 = v ∧ get a 10 = .int l.length ∧ get a 11 = .int i ∧ S' = S1 ∧ val (l.take i) ≤ 9223372036854775807) (n := l.length) ?_ ?_
  · exact ⟨0, rfl, Nat.zero_le _, rfl, rfl, rfl, rfl, rfl, by simp [val, valA]⟩
  rintro n a S' ⟨i, rfl, hi, a4, a9, a10, a11, rfl, hm⟩
  by_cases hlt : i < l.length
  · obtain ⟨pp, q1, q2⟩ := hv.byte hlt
    obtain ⟨e1, e2⟩ := isD_dig (hd l[i] (List.getElem_mem hlt))
    have hs := val_split l i hlt
    have hw1 : IntKind.u8.wrap ((l[i].toNat : Int) - 48) = (dig l[i] : Int) := by rw [e1]; simp [IntKind.wrap, IntKind.bits, IntKind.signed, IntKind.max]; omega
    have hw2 : IntKind.i64.wrap (dig l[i] : Int) = (dig l[i] : Int) := by rw [wrap64_in (by omega) (by omega)]
    have hw3 : IntKind.i64.wrap (9223372036854775807 - (dig l[i] : Int)) = 9223372036854775807 - (dig l[i] : Int) := by rw [wrap64_in (by omega) (by omega)]
    obtain ⟨k, hk⟩ : ∃ k, k = (9223372036854775807 - dig l[i]) / 10 := ⟨_, rfl⟩
    have hq : (9223372036854775807 - (dig l[i] : Int)).tdiv 10 = (k : Int) := by
      rw [Int.tdiv_eq_ediv_of_nonneg (by omega)]; omega
    have hw4 : IntKind.i64.wrap (k : Int) = k := by rw [wrap64_in (by omega) (by omega)]
    generalize hdd : dig l[i] = d at *
    generalize hvv : val (l.take i) = n at *
    by_cases hov : k < n
    · have hbig : ¬ val l ≤ 9223372036854775807 := by
        have := val_take_le l (i + 1)
        omega
      simp [f60b0, a4, a9, a10, a11, hlt, q1, q2, hw1, hw2, hw3, hq, hw4, hov, hbig, ht]
    · have hw5 : IntKind.i64.wrap ((n : Int) * 10) = ((n * 10 : Nat) : Int) := by rw [wrap64_in (by omega) (by omega)]; simp
      have hw6 : IntKind.i64.wrap ((n * 10 : Nat) + (d : Int)) = ((n * 10 + d : Nat) : Int) := by rw [wrap64_in (by omega) (by omega)]; simp
      simp only [Int.natCast_mul, Int.cast_ofNat_Int] at hw5 hw6
      simp [f60b0, a4, a9, a10, a11, hlt, q1, q2, hw1, hw2, hw3, hq, hw4, hov, hw5, hw6, wrapS i (by omega)]
      exact ⟨l.length - (i + 1), by omega, i + 1, rfl, by omega, by rw [hs]; simp, by simp, by omega⟩
  · have : i = l.length := by omega
    subst this
    rw [List.take_length] at a4 hm
    simp [f60b0, a4, a9, a10, a11, hm, ht]

/-- word. -/
def zTok : Tok := ⟨0, [], 0, 0⟩
def tokC (t : Tok) : List AVal := [.int t.kind, .str t.text, .int t.num, .int t.scale]
def lexV : Res → AVal
  | .ok (t, n) => .tuple [.agg (tokC t), .int n, .int 0]
  | .error e => .tuple [.agg (tokC zTok), .int 0, .int e]

theorem w26 (l : Bs) (hl : l.length ≤ 4194304) (S : Heap) : ACalls Tryd.prog (B0 w0) 26 [.str l] S fun e S' => e = .ret (lexV (word l)) ∧ S' = S := by
  refine ACalls.close (R := fun e S' => e = .ret (lexV (word l)) ∧ S'.take S.length = S) ?_ ?_
  rotate_left 1
  · rintro e S' ⟨rfl, ht⟩
    refine .flat ht ?_ ⟨rfl, rfl⟩
    unfold lexV; split <;> simp [AEnd.sc, tokC]
  refine fn_sound tryOrd (f26_c _) (by simp [f26]) ?_
  simp [f26, f26m]
  refine (w31 (q := 32) (p := isW) w32 l hl _).use ?_
  rintro e S1 ⟨rfl, rfl⟩
  have hle := run_le isW l
  by_cases hgt : 32 < run isW l
  · have hgt' : (32 : Int) < (run isW l : Int) := by omega
    simp [hgt, hgt', word, lexV, tokC, zTok]
  · have hgt' : ¬ (32 : Int) < (run isW l : Int) := by omega
    have hn : (0 : Int) ≤ (run isW l : Int) := by omega
    simp [hgt, hgt', sslcR, bound, hn, hle]
    have hext := ext_ok (β := B0 w0) 33 [.str (l.take (run isW l))] (.str ((l.take (run isW l)).map Lib.lowerB)) (by
      have : ((l.take (run isW l)).all (fun b => decide (b.toNat < 128)) && decide ((l.take (run isW l)).length ≤ 140737488355328)) = true := by
        simp only [Bool.and_eq_true, decide_eq_true_eq, List.all_eq_true]
        refine ⟨fun c hc => ?_, by rw [List.length_take]; omega⟩
        have := mem_take_run c hc
        simp [isW, Lx.isL, isD] at this
        omega
      simp only [ext, this, if_true]; rfl)
    refine (hext _).use ?_
    rintro e S1 ⟨rfl, rfl⟩
    simp [hgt, word, lexV, tokC]
end Go.Abs
