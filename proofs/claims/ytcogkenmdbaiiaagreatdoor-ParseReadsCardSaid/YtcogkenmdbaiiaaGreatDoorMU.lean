/- Walks of the document's lexer. Conditions: none but the lengths; definitions and lemmas. -/
import Derived.Test.YtcogkenmdbaiiaaGreatDoorMW
set_option linter.unusedSimpArgs false
set_option linter.unusedVariables false
namespace Go.Abs
open Go Go.RowKit Go.Proofs Go.Lx
variable {w0 : World}

theorem tokens_ok {l : Bs} {s : List Tok} (h : Lx.tokens l = .ok s) : l.length ≤ 4000 ∧ toks l = .ok s ∧ s.length ≤ l.length := by
  rw [Lx.tokens] at h
  split at h
  · cases h
  · exact ⟨by omega, h, toks_len _ l s (Nat.le_refl _) h⟩

theorem toksV_get (ts : List Tok) (i : Nat) (h : i < ts.length) : (toksV ts).getD i [] = tokC ts[i] := by
  rw [getD_eq _ _ _ (by simpa using h)]; simp [toksV]
end Go.Abs
set_option linter.unusedSimpArgs false
set_option linter.unusedVariables false
namespace Go.Abs
open Go Go.RowKit Go.Proofs Go.Lx
variable {w0 : World}

@[simp] theorem conv_byte1 {S : Heap} {fl : Fl} (c : UInt8) : convR .bytesStr (.list fl [[.atom (.int .u8 (c.toNat : Int))]]) S = .ok true (.str [c]) S :=
  conv_bytesStr (l := [c]) rfl

theorem Own.takeN {N : Nat} {S g S' : Heap} {L : List (AVal × Nat × List (List AVal))} (h : Own N (S ++ g) S' L) (hN : S.length ≤ N) : S'.take S.length = S := by
  refine List.ext_getElem? fun j => ?_
  have := h.le
  rcases Nat.lt_or_ge j S.length with hj | hj
  · rw [List.getElem?_take_of_lt hj, h.low j (by omega), List.getElem?_append_left hj]
  · rw [List.getElem?_eq_none (by simp; omega), List.getElem?_eq_none hj]

end Go.Abs
set_option linter.unusedSimpArgs false
set_option linter.unusedVariables false
namespace Go.Abs
open Go Go.RowKit Go.Proofs Go.Lx
variable {w0 : World}

/-- The document's answer for a token at a place. -/
def RefR (i : Nat) : Res → AEnd → Prop
  | .ok (t, n), e => e = .ret (.tuple [.agg (tokC t), .int (i + n : Nat), .int 0])
  | .error x, e => ∃ k : Nat, e = .ret (.tuple [.agg (tokC zTok), .int k, .int x])

theorem RefR.flat {i : Nat} {r : Res} {e : AEnd} (h : RefR i r e) (n : Nat) : e.sc n = true := by
  cases r with
  | error x => obtain ⟨k, rfl⟩ := h; simp [AEnd.sc, tokC]
  | ok y => obtain ⟨t, m⟩ := y; cases h; simp [AEnd.sc, tokC]

theorem w58 (s : Bs) (i : Nat) (S : Heap) : ACalls Tryz.prog (B0 w0) 58 [.str s, .int i] S fun e S' => e = .ret (bv (s[i]?.getD 0)) ∧ S' = S := by
  refine fn_sound tryOrd (f58_c _) (by simp [f58]) ?_
  by_cases h : i < s.length
  · simp [f58, f58m, h]
  · simp [f58, f58m, h]

theorem run_at {p : UInt8 → Bool} (hp0 : p 0 = false) (s : Bs) (i n : Nat) (hn : n ≤ run p (s.drop i)) : (p (s[i + n]?.getD 0) = true ↔ n < run p (s.drop i)) ∧ (n < run p (s.drop i) → i + n < s.length) := by
  have hle := run_le p (s.drop i)
  rw [List.length_drop] at hle
  by_cases h : i + n < s.length
  · have h' : n < (s.drop i).length := by rw [List.length_drop]; omega
    have := run_le_iff (p := p) h' hn
    rw [List.getElem_drop] at this
    rw [List.getElem?_eq_getElem h, Option.getD_some]
    exact ⟨this, fun _ => h⟩
  · rw [List.getElem?_eq_none (by omega), Option.getD_none, hp0]
    exact ⟨⟨fun h => (by cases h), fun h => (by omega)⟩, fun h => (by omega)⟩
theorem take_at (s : Bs) (i n : Nat) (h : i + n < s.length) : (s.drop i).take (n + 1) = (s.drop i).take n ++ [s[i + n]?.getD 0] := by
  rw [List.take_add_one, List.getElem?_drop, List.getElem?_eq_getElem h]; rfl

theorem val_app (l : Bs) (c : UInt8) : val (l ++ [c]) = val l * 10 + dig c := by rw [val, valA_append]; rfl
theorem wrapU (n : Nat) (h : n < 18446744073709551616) : IntKind.u64.wrap (n : Int) = (n : Int) := by
  simp [IntKind.wrap, IntKind.bits, IntKind.signed]; omega
theorem dig_wrap {c : UInt8} (h : isD c = true) : IntKind.u8.wrap ((c.toNat : Int) - 48) = (dig c : Int) := by
  obtain ⟨e1, e2⟩ := isD_dig h
  rw [e1]; simp [IntKind.wrap, IntKind.bits, IntKind.signed, IntKind.max]; omega

theorem part_at (s : Bs) (j : Nat) : Lx.part (s.drop j) = if (s[j]?.getD 0).toNat = 46 then run isD (s.drop (j + 1)) else 0 := by
  by_cases h : j < s.length
  · rw [List.drop_eq_getElem_cons h, part_cons, List.getElem?_eq_getElem h, Option.getD_some]
  · rw [List.drop_of_length_le (by omega), List.getElem?_eq_none (by omega), Lx.part, Option.getD_none]; rfl

set_option maxHeartbeats 4000000 in
/-- number. -/
theorem w61 (s : Bs) (i : Nat) (hi : i ≤ s.length) (hl : s.length ≤ 4194304) (S : Heap) : ACalls Tryz.prog (B0 w0) 61 [.str s, .int i] S fun e S' => RefR i (Lx.number (s.drop i)) e ∧ S' = S := by
  refine ACalls.close (R := fun e S' => RefR i (Lx.number (s.drop i)) e ∧ S'.take S.length = S) ?_ ?_
  rotate_left 1
  · rintro e S' ⟨h, ht⟩
    exact .flat ht (h.flat _) ⟨h, rfl⟩
  have hspec : Lx.number (s.drop i) = Lx.number (s.drop i) := rfl
  conv at hspec => rhs; unfold Lx.number
  have hrle := run_le isD (s.drop i)
  have hra := run_at (p := isD) (by rfl) s i
  have hT : ∀ c ∈ (s.drop i).take (run isD (s.drop i)), isD c = true := fun c hc => mem_take_run c hc
  have hR := realD (s.drop i)
  rw [List.length_drop] at hrle
  rw [List.drop_drop, List.drop_drop] at hspec hR
  generalize hw : run isD (s.drop i) = w at *
  have hpa := part_at s (i + w)
  have hra2 := run_at (p := isD) (by rfl) s (i + w + 1)
  have hple := part_le (s.drop (i + w))
  rw [List.length_drop] at hple
  rw [← Nat.add_assoc] at hspec hR
  generalize hpt : Lx.part (s.drop (i + w)) = pt at *
  generalize Lx.number (s.drop i) = out at *
  refine fn_sound tryOrd (f61_c _) (by simp [f61]) ?_
  simp [f61, f61m]
  refine mwp_loop (I := fun q a S' => ∃ n j : Nat, q = w - n ∧ n ≤ w ∧ j = i + n ∧ get a 0 = .str s ∧ get a 1 = .int j ∧ get a 4 = .ptr S.length 0 0 ∧ get a 7 = .atom (.int .u64 (val ((s.drop i).take (min n 19)) : Nat)) ∧ get a 8 = .int n ∧
    S' = S ++ [.cells 4 [[.int 0, .str [], .int 0, .int 0]] (some 1)]) (n := w) ?_ ?_
  · exact ⟨0, i, rfl, Nat.zero_le _, rfl, rfl, rfl, rfl, by simp [val, valA], rfl, rfl⟩
  rintro q a S' ⟨n, j, rfl, hn, hj, a0, a1, a4, a7, a8, rfl⟩
  obtain ⟨hiff, hin⟩ := hra n hn
  rw [← hj] at hiff hin
  have w58' := fun S => w58 (w0 := w0) s j S
  have w59' := fun S => w59 (w0 := w0) (s[j]?.getD 0) S
  simp [f61b0, a0, a1, a4, a7, a8]
  refine (w58' _).use ?_
  rintro e S1 ⟨rfl, rfl⟩
  simp
  refine (w59' _).use ?_
  rintro e S1 ⟨rfl, rfl⟩
  by_cases hlt : n < w
  · have hd := hiff.2 hlt
    have hs := hin hlt
    have hta := take_at s i n (by omega)
    rw [← hj] at hta
    have hdw := dig_wrap hd
    have hd9 := (isD_dig hd).2
    rw [List.getElem?_eq_getElem hs, Option.getD_some] at hd hta hdw hd9
    have hC := wrapU (dig s[j]) (by omega)
    have hw1 := wrapS n (by omega)
    have hw2 := wrapS j (by omega)
    by_cases h18 : n ≤ 18
    · have h18' : ((n + 1 : Nat) : Int) < 20 := by omega
      have hm1 : min n 19 = n := by omega
      have hm2 : min (n + 1) 19 = n + 1 := by omega
      have hV : val ((s.drop i).take n) < 10 ^ n := by
        have h1 := val_lt ((s.drop i).take n) (fun c hc => hT c (by
          have := List.take_take (l := s.drop i) (i := n) (j := w)
          rw [Nat.min_eq_left hn] at this
          rw [← this] at hc
          exact List.mem_of_mem_take hc))
        refine Nat.lt_of_lt_of_le h1 (Nat.pow_le_pow_right (by omega) ?_)
        rw [List.length_take]; omega
      have hV2 : val ((s.drop i).take n) < 10 ^ 18 := Nat.lt_of_lt_of_le hV (Nat.pow_le_pow_right (by omega) h18)
      have hvs : val ((s.drop i).take (n + 1)) = val ((s.drop i).take n) * 10 + dig s[j] := by rw [hta, val_app]
      rw [hm1] at a7
      generalize val ((s.drop i).take n) = V at *
      have hA := wrapU (V * 10) (by omega)
      have hD := wrapU (V * 10 + dig s[j]) (by omega)
      simp only [Int.natCast_mul, Int.natCast_add, Int.cast_ofNat_Int] at hA hD h18' hw1 hw2
      simp [hd, hs, a0, a1, a4, a7, a8, hw1, hw2, h18', hA, hC, hD, hdw]
      refine ⟨w - (n + 1), by omega, n + 1, rfl, by omega, by omega, ?_, by simp⟩
      rw [hm2, hvs]; simp
    · have h18' : ¬ ((n + 1 : Nat) : Int) < 20 := by omega
      have hm1 : min n 19 = 19 := by omega
      have hm2 : min (n + 1) 19 = 19 := by omega
      rw [hm1] at a7
      simp only [Int.natCast_add, Int.cast_ofNat_Int] at h18' hw1 hw2
      simp [hd, hs, a0, a1, a4, a7, a8, hw1, hw2, h18']
      refine ⟨w - (n + 1), by omega, n + 1, rfl, by omega, by omega, ?_, by simp⟩
      rw [hm2]
  · have hd : isD (s[j]?.getD 0) = false := by simpa using mt hiff.1 hlt
    have hnw : w = n := by omega
    subst hnw
    have hVw : w ≤ 19 → val ((s.drop i).take (min w 19)) = val ((s.drop i).take w) := fun h => by rw [Nat.min_eq_left h]
    have hVb : val ((s.drop i).take (min w 19)) < 10 ^ 19 := by
      have h1 := val_lt ((s.drop i).take (min w 19)) (fun c hc => hT c (by
        have := List.take_take (l := s.drop i) (i := min w 19) (j := w)
        rw [Nat.min_eq_left (Nat.min_le_left _ _)] at this
        rw [← this] at hc
        exact List.mem_of_mem_take hc))
      refine Nat.lt_of_lt_of_le h1 (Nat.pow_le_pow_right (by omega) ?_)
      rw [List.length_take]; omega
    rw [← hj] at hpa hra2 hR hspec hple
    have hds : pt = 0 ∨ (0 < pt ∧ (s[j]?.getD 0).toNat = 46 ∧ pt = run isD (s.drop (j + 1)) ∧ isD (s[j + 1]?.getD 0) = true) := by
      rcases Nat.eq_zero_or_pos pt with h | h
      · exact .inl h
      · by_cases h46 : (s[j]?.getD 0).toNat = 46
        · rw [if_pos h46] at hpa
          exact .inr ⟨h, h46, hpa, (hra2 0 (Nat.zero_le _)).1.2 (by omega)⟩
        · rw [if_neg h46] at hpa; omega
    generalize val ((s.drop i).take (min w 19)) = V at *
    have hr1 : j + 1 = i + w + 1 := by omega
    have w58b := fun S => w58 (w0 := w0) s (j + 1) S
    have w59b := fun S => w59 (w0 := w0) (s[j + 1]?.getD 0) S
    have hw1 := wrapS j (by omega)
    simp only [Int.natCast_add, Int.cast_ofNat_Int] at hw1 w58b
    have hgreat : (19 < w ∧ (19 < w ∨ 9223372036854775807 < val ((s.drop i).take w))) ∨ (¬ 19 < w ∧ 9223372036854775807 < V ∧ (19 < w ∨ 9223372036854775807 < val ((s.drop i).take w))) ∨
        (¬ 19 < w ∧ ¬ 9223372036854775807 < V ∧ ¬ (19 < w ∨ 9223372036854775807 < val ((s.drop i).take w))) := by
      by_cases h19 : 19 < w
      · exact .inl ⟨h19, .inl h19⟩
      · have := hVw (by omega)
        by_cases hb : 9223372036854775807 < V
        · exact .inr (.inl ⟨h19, hb, .inr (by omega)⟩)
        · exact .inr (.inr ⟨h19, hb, by omega⟩)
    rcases hds with hp0 | ⟨hp, h46, hptr, hdg⟩
    · rw [if_pos hp0] at hspec
      have hnot : (s[j]?.getD 0).toNat = 46 → isD (s[j + 1]?.getD 0) = false := fun h => by
        rw [if_pos h] at hpa
        cases hq : isD (s[j + 1]?.getD 0) with
        | false => rfl
        | true => have := (hra2 0 (Nat.zero_le _)).1.1 (by simpa using hq); omega
      clear hra2 hpa hra hR hple
      rcases hgreat with ⟨h19, hg⟩ | ⟨h19, hb, hg⟩ | ⟨h19, hb, hg⟩
      all_goals
        have hi19 : ((19 : Int) < (w : Int)) ↔ 19 < w := by omega
        have hge2 : (9223372036854775808 ≤ (V : Int)) ↔ (9223372036854775807 < V) := by omega
        first
        | rw [if_pos hg] at hspec
        | rw [if_neg hg] at hspec
        first
        | simp [hd, a0, a1, a4, a7, a8, h19, hi19, hge2, hb]
        | simp [hd, a0, a1, a4, a7, a8, h19, hi19, hge2]
        refine (w58' _).use ?_
        rintro e S1 ⟨rfl, rfl⟩
        by_cases h46 : (s[j]?.getD 0).toNat = 46
        · have h46b : (((s[j]?.getD 0).toNat : Int) == 46) = true := by simp; omega
          have hnd := hnot h46
          simp [h46, h46b, bne, a0, a1, a4, a7, a8, hw1]
          refine (w58b _).use ?_
          rintro e S1 ⟨rfl, rfl⟩
          simp
          refine (w59b _).use ?_
          rintro e S1 ⟨rfl, rfl⟩
          simp [hnd, a0, a1, a4, a7, a8]
          rw [hspec]
          first
          | exact ⟨j, by simp [tokC, zTok]⟩
          | have hVe := hVw (by omega)
            have hwv : IntKind.i64.wrap (V : Int) = (V : Int) := by rw [wrap64_in (by omega) (by omega)]
            simp [RefR, tokC, hwv]
            omega
        · have h46b : (((s[j]?.getD 0).toNat : Int) == 46) = false := by simp; omega
          simp [h46, h46b, bne, a0, a1, a4, a7, a8, hw1]
          rw [hspec]
          first
          | exact ⟨j, by simp [tokC, zTok]⟩
          | have hVe := hVw (by omega)
            have hwv : IntKind.i64.wrap (V : Int) = (V : Int) := by rw [wrap64_in (by omega) (by omega)]
            simp [RefR, tokC, hwv]
            omega
    · rw [if_neg (by omega)] at hspec
      have h46b : (((s[j]?.getD 0).toNat : Int) == 46) = true := by simp; omega
      rcases hgreat with ⟨h19, hg⟩ | ⟨h19, hb, hg⟩ | ⟨h19, hb, hg⟩
      all_goals
        have hi19 : ((19 : Int) < (w : Int)) ↔ 19 < w := by omega
        have hge2 : (9223372036854775808 ≤ (V : Int)) ↔ (9223372036854775807 < V) := by omega
        first
        | simp [hd, a0, a1, a4, a7, a8, h19, hi19, hge2, hb]
        | simp [hd, a0, a1, a4, a7, a8, h19, hi19, hge2]
        refine (w58' _).use ?_
        rintro e S1 ⟨rfl, rfl⟩
        simp [h46, h46b, bne, a0, a1, a4, a7, a8, hw1]
        refine (w58b _).use ?_
        rintro e S1 ⟨rfl, rfl⟩
        simp
        refine (w59b _).use ?_
        rintro e S1 ⟨rfl, rfl⟩
        simp [hdg, a0, a1, a4, a7, a8, hw1]
        clear hw1 w58b w59b w58' w59' hra hiff hin
        refine mwp_loop (I := fun q a S' => ∃ m k M : Nat, q = pt - m ∧ m ≤ pt ∧ k = j + 1 + m ∧ get a 0 = .str s ∧ get a 1 = .int k ∧ get a 4 = .ptr S.length 0 0 ∧ get a 7 = .atom (.int .u64 (M : Nat)) ∧ get a 8 = .int w ∧ get a 10 = .int m ∧
          (w + m ≤ 15 → M = val ((s.drop i).take w ++ (s.drop (j + 1)).take m)) ∧ S' = S ++ [.cells 4 [[.int 0, .str [], .int 0, .int 0]] (some 1)]) (n := pt) ?_ ?_
        · refine ⟨0, j + 1, V, rfl, Nat.zero_le _, rfl, by simp [a0], by simp, by simp [a4], by simp [a7], by simp [a8], rfl, fun h => ?_, rfl⟩
          rw [hVw (by omega)]; simp
        rintro q a S' ⟨m, k, M, rfl, hm, hk, a0, a1, a4, a7, a8, a10, hM, rfl⟩
        obtain ⟨hiff, hin⟩ := hra2 m (by omega)
        rw [← hk, ← hptr] at hiff hin
        have w58' := fun S => w58 (w0 := w0) s k S
        have w59' := fun S => w59 (w0 := w0) (s[k]?.getD 0) S
        simp [f61b1, a0, a1, a4, a7, a8, a10]
        refine (w58' _).use ?_
        rintro e S1 ⟨rfl, rfl⟩
        simp
        refine (w59' _).use ?_
        rintro e S1 ⟨rfl, rfl⟩
        by_cases hlt : m < pt
        · have hd := hiff.2 hlt
          have hs := hin hlt
          have hta := take_at s (j + 1) m (by omega)
          rw [← hk] at hta
          have hdw := dig_wrap hd
          have hd9 := (isD_dig hd).2
          rw [List.getElem?_eq_getElem hs, Option.getD_some] at hd hta hdw hd9
          have hC := wrapU (dig s[k]) (by omega)
          have hw1 := wrapS m (by omega)
          have hw2 := wrapS k (by omega)
          have hw3 : IntKind.i64.wrap ((w : Int) + ((m + 1 : Nat) : Int)) = ((w + (m + 1) : Nat) : Int) := by rw [wrap64_in (by omega) (by omega)]; simp
          by_cases h15 : w + (m + 1) < 16
          · have h15' : (w : Int) + ((m : Int) + 1) < 16 := by omega
            have hMe := hM (by omega)
            have hMb : M < 10 ^ 15 := by
              rw [hMe]
              have h1 := val_lt ((s.drop i).take w ++ (s.drop (j + 1)).take m) (fun c hc => hR c (by
                simp only [List.mem_append] at hc ⊢
                rcases hc with hc | hc
                · exact .inl hc
                · refine .inr ?_
                  have := List.take_take (l := s.drop (j + 1)) (i := m) (j := pt)
                  rw [Nat.min_eq_left hm] at this
                  rw [← this] at hc
                  exact List.mem_of_mem_take hc))
              refine Nat.lt_of_lt_of_le h1 (Nat.pow_le_pow_right (by omega) ?_)
              rw [List.length_append, List.length_take, List.length_take]; omega
            have hvs : val ((s.drop i).take w ++ (s.drop (j + 1)).take (m + 1)) = M * 10 + dig s[k] := by rw [hta, ← List.append_assoc, val_app, hMe]
            have hA := wrapU (M * 10) (by omega)
            have hD := wrapU (M * 10 + dig s[k]) (by omega)
            simp only [Int.natCast_mul, Int.natCast_add, Int.cast_ofNat_Int] at hA hD hw1 hw2 hw3
            simp [hd, hs, a0, a1, a4, a7, a8, a10, hw1, hw2, hw3, h15', hA, hC, hD, hdw]
            refine ⟨pt - (m + 1), by omega, m + 1, rfl, by omega, by omega, M * 10 + dig s[k], by simp, by simp, fun _ => hvs.symm⟩
          · have h15' : ¬ (w : Int) + ((m : Int) + 1) < 16 := by omega
            simp only [Int.natCast_add, Int.cast_ofNat_Int] at hw1 hw2 hw3
            simp [hd, hs, a0, a1, a4, a7, a8, a10, hw1, hw2, hw3, h15']
            refine ⟨pt - (m + 1), by omega, m + 1, rfl, by omega, by omega, M, rfl, by simp, fun h => by omega⟩
        · have hd : isD (s[k]?.getD 0) = false := by simpa using mt hiff.1 hlt
          have hmp : m = pt := by omega
          subst hmp
          have hw3 : IntKind.i64.wrap ((w : Int) + (m : Int)) = (w : Int) + (m : Int) := by rw [wrap64_in (by omega) (by omega)]
          by_cases h15 : 15 < w + m
          · have h15' : (15 : Int) < (w : Int) + (m : Int) := by omega
            rw [if_pos h15] at hspec
            simp [hd, a0, a1, a4, a7, a8, a10, hw3, h15']
            rw [hspec]
            exact ⟨k, by simp [tokC, zTok]⟩
          · have h15' : ¬ (15 : Int) < (w : Int) + (m : Int) := by omega
            rw [if_neg h15] at hspec
            have hMe := hM (by omega)
            have hMb : M < 10 ^ 15 := by
              rw [hMe]
              have h1 := val_lt _ hR
              refine Nat.lt_of_lt_of_le h1 (Nat.pow_le_pow_right (by omega) ?_)
              rw [List.length_append, List.length_take, List.length_take]; omega
            have hwv : IntKind.i64.wrap (M : Int) = (M : Int) := by rw [wrap64_in (by omega) (by omega)]
            rw [← hMe] at hspec
            simp [hd, a0, a1, a4, a7, a8, a10, hw3, h15', hwv]
            rw [hspec]
            simp [RefR, tokC]
            omega
end Go.Abs
set_option linter.unusedSimpArgs false
set_option linter.unusedVariables false
namespace Go.Abs
open Go Go.RowKit Go.Proofs Go.Lx
variable {w0 : World}

def txtR : Option (Bs × Nat) → Res
  | none => .error 121
  | some (b, n) => if 200 < b.length then .error 1 else .ok (⟨4, b, 0, 0⟩, n)

theorem Own.takeSet {S g S' : Heap} {N : Nat} {L : List (AVal × Nat × List (List AVal))} {x : AObj} (h : Own N (S ++ g) S' L) (hN : S.length ≤ N) : (S'.set S.length x).take S.length = S := by
  have := h.takeN hN
  refine (List.ext_getElem? fun j => ?_).trans this
  rcases Nat.lt_or_ge j S.length with hj | hj
  · rw [List.getElem?_take_of_lt hj, List.getElem?_take_of_lt hj, List.getElem?_set_ne (by omega)]
  · rw [List.getElem?_eq_none (by simp; omega), List.getElem?_eq_none (by simp; omega)]

set_option maxHeartbeats 2000000 in
/-- text. -/
theorem w62 (s : Bs) (p : Nat) (hp : p ≤ s.length) (hl : s.length ≤ 4194304) (S : Heap) : ACalls Tryz.prog (B0 w0) 62 [.str s, .int p] S fun e S' => RefR p (txtR (txt (s.drop p))) e ∧ S' = S := by
  refine ACalls.close (R := fun e S' => RefR p (txtR (txt (s.drop p))) e ∧ S'.take S.length = S) ?_ ?_
  rotate_left 1
  · rintro e S' ⟨h, ht⟩
    exact .flat ht (h.flat _) ⟨h, rfl⟩
  refine fn_sound tryOrd (f62_c _) (by simp [f62]) ?_
  simp [f62, f62m]
  refine mwp_loop (I := fun q a S' => ∃ (o : Bs) (u : AVal) (k : Nat), q = s.length - k ∧ p ≤ k ∧ k ≤ s.length ∧ get a 0 = .str s ∧ get a 1 = .int k ∧ get a 4 = .ptr S.length 0 0 ∧ get a 7 = u ∧
    Own (S.length + 1) (S ++ [.cells 4 [[.int 0, .str [], .int 0, .int 0]] (some 1)]) S' [(u, 1, o.map u8)] ∧ o.length ≤ k ∧ txt (s.drop p) = (txt (s.drop k)).map fun x => (o ++ x.1, x.2 + (k - p))) (n := s.length - p) ?_ ?_
  · refine ⟨[], _, p, rfl, Nat.le_refl _, hp, rfl, rfl, rfl, rfl, ?_, by simp, ?_⟩
    · have := (Own.start (S ++ [.cells 4 [[.int 0, .str [], .int 0, .int 0]] (some 1)])).add0 1 .full (.inr rfl)
      simpa using this
    · cases txt (s.drop p) <;> simp
  rintro q a S1 ⟨o, u, k, rfl, hpk, hk, a0, a1, a4, a7, ho, hol, ht⟩
  have hbox : S1[S.length]? = some (.cells 4 [[.int 0, .str [], .int 0, .int 0]] (some 1)) := by rw [ho.low S.length (by omega)]; simp
  have hlenS := (ho.rk 0 rfl).lenR
  simp at hlenS
  have hstr := conv_bytesStr (ho.rk 0 rfl).elems
  have hset := fun x => ho.takeSet (x := x) (by omega)
  have hidx : S.length < S1.length := by have := ho.le; omega
  have hget := fun x => List.getElem?_set_self (a := x) hidx
  have hw1 := wrapS k (by omega)
  have hw2 := wrapS (k + 1) (by omega)
  simp only [Int.natCast_add, Int.cast_ofNat_Int] at hw1 hw2
  by_cases hlt : k < s.length
  · have hdrop := List.drop_eq_getElem_cons hlt
    rw [hdrop] at ht
    have w58' := fun S => w58 (w0 := w0) s (k + 1) S
    simp only [Int.natCast_add, Int.cast_ofNat_Int] at w58'
    by_cases hq : s[k].toNat = 39
    · by_cases hq2 : (s[k + 1]?.getD 0).toNat = 39
      · have hlt2 : k + 1 < s.length := by
          rcases Nat.lt_or_ge (k + 1) s.length with h | h
          · exact h
          · rw [List.getElem?_eq_none h] at hq2; simp at hq2
        have hdrop2 := List.drop_eq_getElem_cons hlt2
        rw [List.getElem?_eq_getElem hlt2, Option.getD_some] at hq2
        rw [hdrop2, txt_two hq hq2] at ht
        obtain ⟨S2, happ, ho2, hlt3⟩ := ho.app 0 rfl (y := .list .full [[.atom (.int .u8 39)]]) (ys := [u8 39]) (bytes := 1) rfl (by simp [u8]) (by decide) (by simp; omega) (by simp; omega)
        simp [-appendR] at happ
        have hi2 : (k : Int) + 1 < (s.length : Int) := by omega
        have hi0 : (0 : Int) ≤ (k : Int) + 1 := by omega
        have hn2 : ((k : Int) + 1).toNat = k + 1 := by omega
        simp [-appendR, f62b0, a0, a1, a4, a7, hlt, hq, hw1]
        refine (w58' _).use ?_
        rintro e S3 ⟨rfl, rfl⟩
        rw [List.getElem?_eq_getElem hlt2, Option.getD_some]
        simp [-appendR, bne, hq2, a0, a1, a4, a7, hw1, hw2, hi2, hi0, hn2, hlt2, happ]
        refine ⟨s.length - (k + 2), by omega, o ++ [39], _, k + 2, rfl, by omega, by omega, by simp; omega, rfl, ?_, by simp; omega, ?_⟩
        · simpa using ho2
        · rw [ht]
          cases txt (s.drop (k + 2)) with
          | none => rfl
          | some x => simp; omega
      · have hb : (((s[k + 1]?.getD 0).toNat : Int) == 39) = false := by simp; omega
        rw [txt_end hq (fun d r' e => by
          intro h
          have : k + 1 < s.length := by
            rcases Nat.lt_or_ge (k + 1) s.length with h | h
            · exact h
            · rw [List.drop_of_length_le h] at e; cases e
          rw [List.drop_eq_getElem_cons this] at e
          simp only [List.cons.injEq] at e
          rw [List.getElem?_eq_getElem this, Option.getD_some, e.1] at hq2
          exact hq2 h)] at ht
        simp at ht
        rw [ht]
        simp [-appendR, f62b0, a0, a1, a4, a7, hlt, hq, hw1]
        refine (w58' _).use ?_
        rintro e S3 ⟨rfl, rfl⟩
        by_cases h2 : 200 < o.length
        · have h2' : (200 : Int) < (o.length : Int) := by omega
          simp [bne, hb, a0, a1, a4, a7, hlenS, h2, h2', hbox, hset, hget, txtR, tokC, zTok, RefR]
          exact ⟨k, rfl⟩
        · have h2' : ¬ (200 : Int) < (o.length : Int) := by omega
          simp [bne, hb, a0, a1, a4, a7, hlenS, hstr, h2, h2', hbox, hset, hget, hw1, txtR, tokC, zTok, RefR]
          omega
    · have hb : ((s[k].toNat : Int) == 39) = false := by simp; omega
      rw [txt_other hq] at ht
      obtain ⟨S2, happ, ho2, hlt3⟩ := ho.app 0 rfl (y := .list .full [[.atom (.int .u8 s[k].toNat)]]) (ys := [u8 s[k]]) (bytes := 1) rfl (by simp [u8]) (by decide) (by simp; omega) (by simp; omega)
      simp [-appendR] at happ
      simp [-appendR, f62b0, a0, a1, a4, a7, hlt, hq, hb, hw1, happ]
      refine ⟨s.length - (k + 1), by omega, o ++ [s[k]], _, k + 1, rfl, by omega, by omega, by simp, rfl, ?_, by simp; omega, ?_⟩
      · simpa using ho2
      · rw [ht]
        cases txt (s.drop (k + 1)) with
        | none => rfl
        | some x => simp; omega
  · obtain rfl : k = s.length := by omega
    rw [List.drop_length, txt_nil] at ht
    simp at ht
    rw [ht]
    simp [f62b0, a0, a1, a4, a7, hbox, hset, hget, txtR, tokC, zTok, RefR]
    exact ⟨s.length, rfl⟩
end Go.Abs
set_option linter.unusedSimpArgs false
set_option linter.unusedVariables false
namespace Go.Abs
open Go Go.RowKit Go.Proofs Go.Lx
variable {w0 : World}

theorem sign_at (s : Bs) (i : Nat) (hi : i < s.length) : Lx.sign (s.drop i) = (if two s[i] (s[i + 1]?.getD 0) then .ok (⟨5, (s.drop i).take 2, 0, 0⟩, 2) else if s[i] ∈ ones then .ok (⟨5, [s[i]], 0, 0⟩, 1) else .error 120) ∧
    (two s[i] (s[i + 1]?.getD 0) = true → i + 1 < s.length) := by
  have h0 : ∀ c : UInt8, two c 0 = false := fun c => by simp [two]
  by_cases h : i + 1 < s.length
  · rw [List.drop_eq_getElem_cons hi, List.drop_eq_getElem_cons h, List.getElem?_eq_getElem h, Option.getD_some, Lx.sign]
    exact ⟨rfl, fun _ => h⟩
  · rw [List.drop_eq_getElem_cons hi, List.drop_of_length_le (by omega), List.getElem?_eq_none (by omega), Option.getD_none, Lx.sign, h0]
    simp

theorem two_cases (c d : UInt8) : (two c d = true ∧ ((c.toNat = 60 ∧ d.toNat = 62) ∨ (c.toNat = 60 ∧ d.toNat = 61) ∨ (c.toNat = 62 ∧ d.toNat = 61) ∨ (c.toNat = 124 ∧ d.toNat = 124))) ∨
    (two c d = false ∧ ((c.toNat = 60 ∧ ¬ d.toNat = 62 ∧ ¬ d.toNat = 61) ∨ (c.toNat = 62 ∧ ¬ d.toNat = 61) ∨ (c.toNat = 124 ∧ ¬ d.toNat = 124) ∨ (¬ c.toNat = 60 ∧ ¬ c.toNat = 62 ∧ ¬ c.toNat = 124))) := by
  simp [two]; omega

theorem RefR.text {i : Nat} {c : UInt8} {r : Bs} {e : AEnd} (h : RefR (i + 1) (txtR (txt r)) e) : RefR i (Lx.text (c :: r)) e := by
  have : Lx.text (c :: r) = match txt r with
    | none => .error 121
    | some (b, n) => if 200 < b.length then .error 1 else .ok (⟨4, b, 0, 0⟩, n + 1) := rfl
  rw [this]
  cases hx : txt r with
  | none => rw [hx] at h; exact h
  | some x =>
    obtain ⟨b, n⟩ := x
    rw [hx] at h
    simp only [txtR] at h ⊢
    split
    · rename_i h2; rw [if_pos h2] at h; exact h
    · rename_i h2
      rw [if_neg h2] at h
      simp only [RefR] at h ⊢
      rw [h, show i + 1 + n = i + (n + 1) by omega]

set_option maxHeartbeats 4000000 in
/-- one. -/
theorem w27 (s : Bs) (i : Nat) (hi : i < s.length) (hl : s.length ≤ 4194304) (S : Heap) : ACalls Tryz.prog (B0 w0) 27 [.str s, .int i] S fun e S' => RefR i (Lx.one (s.drop i)) e ∧ S' = S := by
  refine ACalls.close (R := fun e S' => RefR i (Lx.one (s.drop i)) e ∧ S'.take S.length = S) ?_ ?_
  rotate_left 1
  · rintro e S' ⟨h, ht⟩
    exact .flat ht (h.flat _) ⟨h, rfl⟩
  have hdrop := List.drop_eq_getElem_cons hi
  have w57' := fun S => w57 (w0 := w0) s[i] S
  have w59' := fun S => w59 (w0 := w0) s[i] S
  have w61' := fun S => w61 (w0 := w0) s i (by omega) hl S
  have w62' := fun S => w62 (w0 := w0) s (i + 1) (by omega) hl S
  have w58' := fun S => w58 (w0 := w0) s (i + 1) S
  obtain ⟨hsign, hsl⟩ := sign_at s i hi
  have hra := run_at (p := isW) (by rfl) s i
  have hword : Lx.word (s.drop i) = if 32 < run isW (s.drop i) then .error 122 else .ok (⟨1, ((s.drop i).take (run isW (s.drop i))).map Lib.lowerB, 0, 0⟩, run isW (s.drop i)) := by rw [Lx.word]
  have hrle := run_le isW (s.drop i)
  rw [List.length_drop] at hrle
  have hone : Lx.one (s.drop i) = if Lx.isL s[i] then Lx.word (s.drop i) else if isD s[i] then Lx.number (s.drop i) else if s[i].toNat = 39 then Lx.text (s.drop i) else Lx.sign (s.drop i) := by
    rw [hdrop, Lx.one]
  have hw1 := wrapS i (by omega)
  have hw2 : IntKind.i64.wrap ((i : Int) + 2) = ((i + 2 : Nat) : Int) := by rw [wrap64_in (by omega) (by omega)]; simp
  have htext : RefR (i + 1) (txtR (txt (s.drop (i + 1)))) = RefR (i + 1) (txtR (txt (s.drop (i + 1)))) := rfl
  simp only [Int.natCast_add, Int.cast_ofNat_Int] at hw1 hw2 w58' w62'
  refine fn_sound tryOrd (f27_c _) (by simp [f27]) ?_
  simp [f27, f27m, hi]
  refine (w57' _).use ?_
  rintro e S1 ⟨rfl, rfl⟩
  by_cases h1 : Lx.isL s[i] = true
  · rw [if_pos h1] at hone
    rw [hone, hword]
    clear hword hone
    generalize hw : run isW (s.drop i) = w at *
    simp [h1]
    refine mwp_loop (I := fun q a S' => ∃ (n k : Nat) (u : AVal), q = w - n ∧ n ≤ w ∧ k = i + n ∧ get a 0 = .str s ∧ get a 1 = .int k ∧ get a 4 = .ptr S.length 0 0 ∧ get a 8 = u ∧
      Own (S.length + 1) (S ++ [.cells 4 [[.int 0, .str [], .int 0, .int 0]] (some 1)]) S' [(u, 1, (((s.drop i).take n).map Lib.lowerB).map u8)]) (n := w) ?_ ?_
    · refine ⟨0, i, _, rfl, Nat.zero_le _, rfl, rfl, rfl, rfl, rfl, ?_⟩
      have := (Own.start (S ++ [.cells 4 [[.int 0, .str [], .int 0, .int 0]] (some 1)])).add0 1 .full (.inr rfl)
      simpa using this
    rintro q a S1 ⟨n, k, u, rfl, hn, hk, a0, a1, a4, a8, ho⟩
    obtain ⟨hiff, hin⟩ := hra n hn
    rw [← hk] at hiff hin
    have hbox : S1[S.length]? = some (.cells 4 [[.int 0, .str [], .int 0, .int 0]] (some 1)) := by rw [ho.low S.length (by omega)]; simp
    have hset := fun x => ho.takeSet (x := x) (by omega)
    have hidx : S.length < S1.length := by have := ho.le; omega
    have hget := fun x => List.getElem?_set_self (a := x) hidx
    have w58k := fun S => w58 (w0 := w0) s k S
    have w57k := fun S => w57 (w0 := w0) (s[k]?.getD 0) S
    have w59k := fun S => w59 (w0 := w0) (s[k]?.getD 0) S
    simp [f27b0, a0, a1, a4, a8]
    refine (w58k _).use ?_
    rintro e S2 ⟨rfl, rfl⟩
    simp
    refine (w57k _).use ?_
    rintro e S3 ⟨rfl, rfl⟩
    by_cases hlt : n < w
    · have hW := hiff.2 hlt
      have hs := hin hlt
      have hta := take_at s i n (by omega)
      rw [← hk] at hta
      rw [List.getElem?_eq_getElem hs, Option.getD_some] at hta hW w57k w59k w58k
      have w60k := fun S => w60 (w0 := w0) s[k] S
      have hwk := wrapS k (by omega)
      obtain ⟨S4, happ, ho4, hlt4⟩ := ho.app 0 rfl (y := .list .full [[bv (Lib.lowerB s[k])]]) (ys := [u8 (Lib.lowerB s[k])]) (bytes := 1) rfl (by simp [u8]) (by decide) (by simp; omega) (by simp; omega)
      simp [-appendR] at happ
      have hcase : Lx.isL s[k] = true ∨ (¬ Lx.isL s[k] = true ∧ isD s[k] = true) := by
        by_cases hL : Lx.isL s[k] = true
        · exact .inl hL
        · refine .inr ⟨hL, ?_⟩
          simp only [isW, Bool.or_eq_true] at hW
          exact hW.resolve_left hL
      rw [List.getElem?_eq_getElem hs, Option.getD_some]
      rcases hcase with hL | ⟨hL, hD⟩
      · simp [-appendR, hL, hs, a0, a1, a4, a8]
        refine (w60k _).use ?_
        rintro e S2 ⟨rfl, rfl⟩
        simp [-appendR, hs, a0, a1, a4, a8, happ, hwk]
        refine ⟨w - (n + 1), by omega, n + 1, rfl, by omega, by omega, ?_⟩
        have e1 : ((s.drop i).map (u8 ∘ Lib.lowerB)).take (n + 1) = ((s.drop i).take n).map (u8 ∘ Lib.lowerB) ++ [u8 (Lib.lowerB s[k])] := by
          rw [← List.map_take, hta]; simp
        rw [← List.map_drop, e1]
        simpa using ho4
      · simp [-appendR, hL, hs, a0, a1, a4, a8]
        refine (w58k _).use ?_
        rintro e S2 ⟨rfl, rfl⟩
        simp [-appendR]
        refine (w59k _).use ?_
        rintro e S2 ⟨rfl, rfl⟩
        simp [-appendR, hD, hs, a0, a1, a4, a8]
        refine (w60k _).use ?_
        rintro e S2 ⟨rfl, rfl⟩
        simp [-appendR, hs, a0, a1, a4, a8, happ, hwk]
        refine ⟨w - (n + 1), by omega, n + 1, rfl, by omega, by omega, ?_⟩
        have e1 : ((s.drop i).map (u8 ∘ Lib.lowerB)).take (n + 1) = ((s.drop i).take n).map (u8 ∘ Lib.lowerB) ++ [u8 (Lib.lowerB s[k])] := by
          rw [← List.map_take, hta]; simp
        rw [← List.map_drop, e1]
        simpa using ho4
    · have hW : isW (s[k]?.getD 0) = false := by simpa using mt hiff.1 hlt
      simp only [isW, Bool.or_eq_false_iff] at hW
      have hnw : n = w := by omega
      subst hnw
      have hlenS := (ho.rk 0 rfl).lenR
      have hmin : min n (s.length - i) = n := by omega
      simp [hmin] at hlenS
      have hstr := conv_bytesStr (ho.rk 0 rfl).elems
      simp [hW.1, a0, a1]
      refine (w58k _).use ?_
      rintro e S2 ⟨rfl, rfl⟩
      simp
      refine (w59k _).use ?_
      rintro e S2 ⟨rfl, rfl⟩
      by_cases h32 : 32 < n
      · have h32' : (32 : Int) < (n : Int) := by omega
        rw [if_pos h32]
        simp [hW.2, a0, a1, a4, a8, hlenS, h32', hbox, hset, hget, RefR, tokC, zTok]
        exact ⟨k, rfl⟩
      · have h32' : ¬ (32 : Int) < (n : Int) := by omega
        rw [if_neg h32]
        simp [hW.2, a0, a1, a4, a8, hlenS, hstr, h32', hbox, hset, hget, RefR, tokC, zTok]
        omega
  · rw [if_neg h1] at hone
    simp [h1]
    refine (w59' _).use ?_
    rintro e S1 ⟨rfl, rfl⟩
    by_cases h2 : isD s[i] = true
    · rw [if_pos h2] at hone
      rw [hone]
      simp [h2]
      refine (w61' _).use ?_
      rintro e S1 ⟨h, rfl⟩
      cases hres : Lx.number (s.drop i) with
      | error x =>
        rw [hres] at h
        obtain ⟨k, rfl⟩ := h
        simp [RefR, tokC, zTok]
        exact ⟨k, rfl⟩
      | ok y =>
        obtain ⟨t, m⟩ := y
        rw [hres] at h
        cases h
        simp [RefR, tokC, zTok]
    · rw [if_neg h2] at hone
      by_cases h3 : s[i].toNat = 39
      · rw [if_pos h3] at hone
        rw [hone]
        simp [h2, h3, hw1]
        refine (w62' _).use ?_
        rintro e S1 ⟨h, rfl⟩
        have h' : RefR i (Lx.text (s.drop i)) e := by rw [hdrop]; exact h.text
        clear h
        cases hres : Lx.text (s.drop i) with
        | error x =>
          rw [hres] at h'
          obtain ⟨k, rfl⟩ := h'
          simp [RefR, tokC, zTok]
          exact ⟨k, rfl⟩
        | ok y =>
          obtain ⟨t, m⟩ := y
          rw [hres] at h'
          cases h'
          simp [RefR, tokC, zTok]
      · rw [if_neg h3] at hone
        rw [hone, hsign]
        have h3' : ((s[i].toNat : Int) == 39) = false := by simp; omega
        simp [h2, h3', hw1]
        refine (w58' _).use ?_
        rintro e S1 ⟨rfl, rfl⟩
        have hb : ∀ (c : UInt8) (k : Nat), ((c.toNat : Int) == (k : Int)) = decide (c.toNat = k) := fun c k => by
          rw [Bool.eq_iff_iff]; simp; omega
        have c60 := hb s[i] 60
        have c62 := hb s[i] 62
        have c124 := hb s[i] 124
        have d62 := hb (s[i + 1]?.getD 0) 62
        have d61 := hb (s[i + 1]?.getD 0) 61
        have d124 := hb (s[i + 1]?.getD 0) 124
        simp only [Int.cast_ofNat_Int] at c60 c62 c124 d62 d61 d124
        generalize hd : s[i + 1]?.getD 0 = d at *
        rcases two_cases s[i] d with ⟨ht, hcs⟩ | ⟨ht, hcs⟩
        · have hlt2 := hsl ht
          rw [if_pos ht]
          have hA : i + 2 ≤ s.length := by omega
          have hA0 : (0 : Int) ≤ (i : Int) + 2 := by omega
          have hAn : ((i : Int) + 2).toNat = i + 2 := by omega
          have hAi : (i : Int) + 2 ≤ (s.length : Int) := by omega
          have hsub : (s.take (i + 2)).drop i = (s.drop i).take 2 := by rw [List.drop_take, Nat.add_sub_cancel_left]
          rcases hcs with ⟨h4, h5⟩ | ⟨h4, h5⟩ | ⟨h4, h5⟩ | ⟨h4, h5⟩
          all_goals
            simp [c60, c62, c124, d62, d61, d124, h4, h5, hw2, sslcR, bound, hA, hA0, hAn, hAi, hsub, RefR, tokC, zTok]
        · rw [ht]
          rcases hcs with ⟨h4, h5, h6⟩ | ⟨h4, h5⟩ | ⟨h4, h5⟩ | ⟨h4, h5, h6⟩
          all_goals
            first
            | simp [c60, c62, c124, d62, d61, d124, h4, h5, h6]
            | simp [c60, c62, c124, d62, d61, d124, h4, h5]
            clear c60 c62 c124 d62 d61 d124 hb
            refine mwp_loop (I := fun q a S' => ∃ k : Nat, q = 12 - k ∧ k ≤ 12 ∧ get a 0 = .str s ∧ get a 1 = .int i ∧ get a 4 = .ptr S.length 0 0 ∧ get a 7 = .atom (.int .u8 (s[i].toNat : Nat)) ∧ get a 10 = .str ones ∧ get a 11 = .int k ∧
              S' = S ++ [.cells 4 [[.int 0, .str [], .int 0, .int 0]] (some 1)] ∧ s[i] ∉ ones.take k) (n := 12) ?_ ?_
            · exact ⟨0, rfl, by omega, rfl, rfl, rfl, by first | rfl | simp [h4], rfl, rfl, rfl, by simp⟩
            rintro q a S1 ⟨k, rfl, hk, a0, a1, a4, a7, a10, a11, rfl, hnot⟩
            have hol : ones.length = 12 := rfl
            by_cases hlt : k < 12
            · have hlt' : k < ones.length := by omega
              have hwk := wrapS k (by omega)
              have hi12 : (k : Int) < 12 := by omega
              by_cases hx : ones[k] = s[i]
              · have hmem : s[i] ∈ ones := hx ▸ List.getElem_mem hlt'
                have hA : i + 1 ≤ s.length := by omega
                have hA0 : (0 : Int) ≤ (i : Int) + 1 := by omega
                have hAn : ((i : Int) + 1).toNat = i + 1 := by omega
                have hAi : (i : Int) + 1 ≤ (s.length : Int) := by omega
                have hsub : (s.take (i + 1)).drop i = [s[i]] := by rw [List.drop_take, Nat.add_sub_cancel_left, hdrop]; rfl
                simp [f27b1, a0, a1, a4, a7, a10, a11, hlt, hlt', hi12, hol, hx, hw1, sslcR, bound, hA, hA0, hAn, hAi, hsub, RefR, tokC, zTok, hmem]
              · have hx' : ((ones[k].toNat : Int) == (s[i].toNat : Int)) = false := by
                  rw [beq_eq_false_iff_ne]
                  intro e
                  exact hx (UInt8.toNat_inj.1 (by omega))
                simp [f27b1, a0, a1, a4, a7, a10, a11, hlt, hlt', hi12, hol, hx', hwk]
                exact ⟨12 - (k + 1), by omega, k + 1, rfl, by omega, by simp, not_mem_take_succ hnot hlt' hx⟩
            · obtain rfl : k = 12 := by omega
              have hno : s[i] ∉ ones := hnot
              simp [f27b1, a0, a1, a4, a7, a10, a11, hol, hno, RefR, tokC, zTok]
              exact ⟨i, rfl⟩
end Go.Abs
set_option linter.unusedSimpArgs false
set_option linter.unusedVariables false
namespace Go.Abs
open Go Go.RowKit Go.Proofs Go.Lx
variable {w0 : World}

/-- What the document's Tokens answers. -/
inductive RTokR (S : Heap) : Except Int (List Tok) → AEnd → Heap → Prop
  | ok (ts : List Tok) (u : AVal) (S' : Heap) (ho : Own S.length S S' [(u, 4, toksV ts)]) : RTokR S (.ok ts) (.ret (.tuple [u, .int 0])) S'
  | err (e : Int) (he : e ≠ 0) (S' : Heap) (hl : S.length ≤ S'.length) (ht : ∀ j, j < S.length → S'[j]? = S[j]?) : RTokR S (.error e) (.ret (.tuple [.list .full [], .int e])) S'

theorem isB_cases (c : UInt8) : (isB c = true ∧ (c.toNat = 32 ∨ c.toNat = 9 ∨ c.toNat = 10 ∨ c.toNat = 13)) ∨ (isB c = false ∧ ¬ c.toNat = 32 ∧ ¬ c.toNat = 9 ∧ ¬ c.toNat = 10 ∧ ¬ c.toNat = 13) := by
  simp [isB]; omega

set_option maxHeartbeats 2000000 in
theorem w12 (s : Bs) (S : Heap) : ACalls Tryz.prog (B0 w0) 12 [.str s] S fun e S' => RTokR S (Lx.tokens s) e S' := by
  refine fn_sound tryOrd (f12_c _) (by simp [f12]) ?_
  by_cases hl : 4000 < s.length
  · have hl' : (4000 : Int) < (s.length : Int) := by omega
    simp [f12, f12m, hl, hl']
    rw [Lx.tokens, if_pos hl]
    exact .err 1 (by decide) S (Nat.le_refl _) (fun _ _ => rfl)
  have hl' : ¬ (4000 : Int) < (s.length : Int) := by omega
  simp [f12, f12m, hl, hl']
  rw [Lx.tokens, if_neg hl]
  refine mwp_loop (I := fun q a S' => ∃ (k : Nat) (u : AVal) (acc : List Tok), q = s.length - k ∧ k ≤ s.length ∧ get a 0 = .str s ∧ get a 4 = .list .full [] ∧ get a 5 = u ∧ get a 6 = .int k ∧ Own S.length S S' [(u, 4, toksV acc)] ∧ acc.length ≤ k ∧
    toks s = catT acc (toks (s.drop k))) (n := s.length) ?_ ?_
  · refine ⟨0, _, [], rfl, Nat.zero_le _, rfl, rfl, rfl, rfl, (Own.start S).add0 4 .full (.inr rfl), by simp, ?_⟩
    rw [List.drop_zero]
    cases toks s <;> rfl
  rintro q a S1 ⟨k, u, acc, rfl, hk, a0, a4, a5, a6, ho, hlen, hspec⟩
  by_cases hlt : k < s.length
  · have hdrop := List.drop_eq_getElem_cons hlt
    have hwk := wrapS k (by omega)
    have hb : ∀ (c : UInt8) (k : Nat), ((c.toNat : Int) == (k : Int)) = decide (c.toNat = k) := fun c k => by
      rw [Bool.eq_iff_iff]; simp; omega
    have c32 := hb s[k] 32
    have c9 := hb s[k] 9
    have c10 := hb s[k] 10
    have c13 := hb s[k] 13
    simp only [Int.cast_ofNat_Int] at c32 c9 c10 c13
    have w27' := fun S => w27 (w0 := w0) s k hlt (by omega) S
    rcases isB_cases s[k] with ⟨hB, hcs⟩ | ⟨hB, h1, h2, h3, h4⟩
    · rw [hdrop, toks_blank hB] at hspec
      rcases hcs with h | h | h | h
      all_goals
        simp [f12b0, a0, a4, a5, a6, hlt, c32, c9, c10, c13, h, hwk]
        exact ⟨s.length - (k + 1), by omega, k + 1, rfl, by omega, by simp, acc, ho, by omega, hspec⟩
    · simp [f12b0, a0, a4, a5, a6, hlt, c32, c9, c10, c13, h1, h2, h3, h4]
      refine (w27' _).use ?_
      rintro e S2 ⟨hR, rfl⟩
      cases hres : Lx.one (s.drop k) with
      | error x =>
        rw [hres] at hR
        obtain ⟨p, rfl⟩ := hR
        have hne := one_err hres
        have hne' : (x != 0) = true := by simp; omega
        rw [hdrop] at hres hspec
        rw [toks_err hB hres] at hspec
        simp [tokC, zTok, hne', a0, a4, a5, a6]
        rw [hspec]
        refine .err x (by omega) _ ?_ ?_
        · have := ho.le; simp; omega
        · intro j hj
          rw [List.getElem?_append_left (by have := ho.le; omega)]
          exact ho.low j hj
      | ok y =>
        obtain ⟨t, n⟩ := y
        rw [hres] at hR
        cases hR
        rw [hdrop] at hres hspec
        have hn := one_len hres
        rw [toks_tok hB hres, List.drop_drop] at hspec
        rw [List.length_drop] at hn
        obtain ⟨S4, happ, ho4, hlt4⟩ := (ho.more [.cells 4 [tokC t] (some 1)]).app 0 rfl (y := .list .full [tokC t]) (ys := [tokC t]) (bytes := 40) rfl (by simp [tokC]) (by decide) (by simp; omega) (by simp; omega)
        simp only [tokC] at happ
        simp [-appendR, tokC, a0, a4, a5, a6, happ]
        have hkn : k + n ≤ s.length := by omega
        refine ⟨s.length - (k + n), by omega, k + n, rfl, hkn, by simp, acc ++ [t], by simpa [toksV] using ho4, by simp; omega, ?_⟩
        rw [hspec, catT_cat, show k + 1 + (n - 1) = k + n by omega]
        cases toks (s.drop (k + n)) <;> rfl
  · obtain rfl : k = s.length := by omega
    rw [List.drop_length, toks_nil] at hspec
    simp [f12b0, a0, a4, a5, a6]
    rw [hspec, catT, List.append_nil]
    exact .ok _ _ _ ho

end Go.Abs
