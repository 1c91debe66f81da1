/- Walks of the lexer: signs; Tokens. Conditions: none; definitions and lemmas. -/
import Derived.Test.YtjoehmgnapdhaaaDoorL3
set_option linter.unusedSimpArgs false
set_option linter.unusedVariables false
namespace Go.Abs
open Go Go.RowKit Go.Proofs Go.Lx
variable {w0 : World}

def strs (L : List Bs) : List (List AVal) := L.map fun s => [.str s]
@[simp] theorem strs_len (L : List Bs) : (strs L).length = L.length := by simp [strs]
theorem strs_get (L : List Bs) (i : Nat) (h : i < L.length) : (strs L).getD i [] = [.str L[i]] := by
  rw [getD_eq _ _ _ (by simpa using h)]; simp [strs]
theorem Rk.strx {S v L} (h : Rk 1 S v (strs L)) {i : Nat} (hi : i < L.length) : ∃ p, iaddrR 1 S v (.int i) = .ok true p S ∧ loadR false 1 S p = .ok true (.str L[i]) S := by
  obtain ⟨p, h1, h2, _⟩ := h.elem (i := i) (by simpa using hi) (by rw [strs_get _ _ hi]; rfl)
  refine ⟨p, h1, ?_⟩
  rw [h2 false 1 (Nat.le_refl _), strs_get _ _ hi]; rfl

/-- slices.Contains. -/
theorem w57 {S : Heap} {v : AVal} {L : List Bs} {x : Bs} (h : Rk 1 S v (strs L)) (hl : L.length ≤ 4194304) : ACalls Tryd.prog (B0 w0) 57 [v, .str x] S fun e S' => e = .ret (.bool (decide (x ∈ L))) ∧ S' = S := by
  have h80 : ACalls Tryd.prog (B0 w0) 80 [v, .str x] S fun e S' => ∃ z : Int, e = .ret (.int z) ∧ decide (0 ≤ z) = decide (x ∈ L) ∧ S' = S := by
    refine fn_sound tryOrd (f80_c _) (by simp [f80]) ?_
    simp [f80, f80m, h.lenR]
    refine mwp_loop (I := fun n a S' => ∃ i : Nat, n = L.length - i ∧ i ≤ L.length ∧ get a 0 = v ∧ get a 1 = .str x ∧ get a 7 = .int L.length ∧ get a 8 = .int i ∧ S' = S ∧ x ∉ L.take i) (n := L.length) ?_ ?_
    · exact ⟨0, rfl, Nat.zero_le _, rfl, rfl, rfl, rfl, rfl, by simp⟩
    rintro n a S' ⟨i, rfl, hi, a0, a1, a7, a8, rfl, hnot⟩
    by_cases hlt : i < L.length
    · obtain ⟨p, q1, q2⟩ := h.strx hlt
      by_cases hx : x = L[i]
      · have : x ∈ L := hx ▸ List.getElem_mem hlt
        have h0 : (0 : Int) ≤ (i : Int) := by omega
        simp [f80b0, a0, a1, a7, a8, hlt, q1, q2, hx]
      · have hx' : ¬ L[i] = x := fun e => hx e.symm
        simp [f80b0, a0, a1, a7, a8, hlt, q1, q2, hx, wrapS i (by omega)]
        exact ⟨L.length - (i + 1), by omega, i + 1, rfl, by omega, by simp, not_mem_take_succ hnot hlt hx'⟩
    · have : i = L.length := by omega
      subst this
      rw [List.take_length] at hnot
      simp [f80b0, a0, a1, a7, a8, hnot]
  refine fn_sound tryOrd (f57_c _) (by simp [f57]) ?_
  simp [f57, f57m]
  refine h80.use ?_
  rintro e S1 ⟨z, rfl, hz, rfl⟩
  simp [hz]

theorem indexByte_mem (l : Bs) (c : UInt8) : (Lib.indexByte l c < 0 ↔ c ∉ l) ∧ -1 ≤ Lib.indexByte l c := by
  induction l with
  | nil => simp [Lib.indexByte]
  | cons d r ih =>
    by_cases h : d = c
    · subst h; simp [Lib.indexByte]
    · have hb : (d == c) = false := beq_eq_false_iff_ne.2 h
      have h' : ¬ c = d := fun e => h e.symm
      simp only [Lib.indexByte, hb, Bool.false_eq_true, if_false, List.mem_cons, h', false_or]
      by_cases hm : Lib.indexByte r c = -1
      · have := ih.1.1 (by omega)
        simp [hm, this]
      · have hb2 : (Lib.indexByte r c == -1) = false := beq_eq_false_iff_ne.2 hm
        simp only [hb2, Bool.false_eq_true, if_false]
        have h1 := ih.1
        have h2 := ih.2
        have : ¬ Lib.indexByte r c < 0 := by omega
        have h3 : c ∈ r := by
          have := mt h1.2 this
          simpa using this
        simp [h3]; omega

def twos : List Bs := [[60, 62], [60, 61], [62, 61], [124, 124]]
theorem two_mem (c d : UInt8) : decide ([c, d] ∈ twos) = two c d := by
  rw [Bool.eq_iff_iff]
  simp only [twos, two, List.mem_cons, List.cons.injEq, and_true, List.mem_nil_iff, or_false, decide_eq_true_eq, Bool.or_eq_true, Bool.and_eq_true]
  simp only [u8_eq]
  have h1 : (60 : UInt8).toNat = 60 := rfl
  have h2 : (61 : UInt8).toNat = 61 := rfl
  have h3 : (62 : UInt8).toNat = 62 := rfl
  have h4 : (124 : UInt8).toNat = 124 := rfl
  rw [h1, h2, h3, h4]
  constructor <;> intro h <;> omega

set_option maxHeartbeats 1000000 in
theorem w24 (c : UInt8) (l : Bs) (hl : l.length ≤ 4194304) (S : Heap) : ACalls Tryd.prog (B0 w0) 24 [.str (c :: l)] S fun e S' => e = .ret (lexV (Lx.sign (c :: l))) ∧ S' = S := by
  refine ACalls.close (R := fun e S' => e = .ret (lexV (Lx.sign (c :: l))) ∧ S'.take S.length = S) ?_ ?_
  rotate_left 1
  · rintro e S' ⟨rfl, ht⟩
    refine .flat ht ?_ ⟨rfl, rfl⟩
    unfold lexV; split <;> simp [AEnd.sc, tokC]
  refine fn_sound tryOrd (f24_c _) (by simp [f24]) ?_
  have w58' := fun S => w58 (w0 := w0) ones c S
  obtain ⟨hi, _⟩ := indexByte_mem ones c
  cases l with
  | nil =>
    simp [f24, f24m]
    refine (w58' _).use ?_
    rintro e S1 ⟨rfl, rfl⟩
    by_cases hm : c ∈ ones
    · have h0 : ¬ Lib.indexByte ones c < 0 := fun h => hi.1 h hm
      simp [h0, hm, sslcR, bound, Lx.sign, lexV, tokC]
    · have h0 : Lib.indexByte ones c < 0 := hi.2 hm
      simp [h0, hm, Lx.sign, lexV, tokC, zTok]
  | cons d r =>
    have hlen : (1 : Int) < (r.length : Int) + 1 + 1 := by omega
    simp [f24, f24m, hlen, sslcR, bound]
    refine (w57 (w0 := w0) (L := twos) (x := [c, d]) (.list .full _) (by decide)).use ?_
    rintro e S1 ⟨rfl, rfl⟩
    rw [two_mem]
    by_cases h2 : two c d = true
    · simp [h2, sslcR, bound, Lx.sign, lexV, tokC]
    · simp [h2, sslcR, bound]
      refine ⟨by omega, (w58' _).use ?_⟩
      rintro e S1 ⟨rfl, rfl⟩
      by_cases hm : c ∈ ones
      · have h0 : ¬ Lib.indexByte ones c < 0 := fun h => hi.1 h hm
        simp [h0, hm, h2, sslcR, bound, Lx.sign, lexV, tokC]
      · have h0 : Lib.indexByte ones c < 0 := hi.2 hm
        simp [h0, hm, h2, Lx.sign, lexV, tokC, zTok]
end Go.Abs
