/- Walks of the document's lexer: bytes at places, numbers, texts. Conditions: none but the lengths; definitions and lemmas. -/
import Derived.Test.YtjoehmgnapdhaaaDoorL6
set_option linter.unusedSimpArgs false
set_option linter.unusedVariables false
namespace Go.Abs
open Go Go.RowKit Go.Proofs Go.Lx
variable {w0 : World}

/-- The document's answer for a token at a place. -/
def RefR (i : Nat) : Res → AEnd → Prop
  | .ok (t, n), e => e = .ret (.tuple [.agg (tokC t), .int (i + n : Nat), .int 0])
  | .error x, e => ∃ k : Nat, e = .ret (.tuple [.agg (tokC zTok), .int k, .int x])

theorem RefR.flat {i : Nat} {r : Res} {e : AEnd} (h : RefR i r e) (n : Nat) : e.sc n = true := by
  cases r with
  | error x => obtain ⟨k, rfl⟩ := h; simp [AEnd.sc, tokC]
  | ok y => obtain ⟨t, m⟩ := y; cases h; simp [AEnd.sc, tokC]

theorem w61 (s : Bs) (i : Nat) (S : Heap) : ACalls Tryd.prog (B0 w0) 61 [.str s, .int i] S fun e S' => e = .ret (bv (s[i]?.getD 0)) ∧ S' = S := by
  refine fn_sound tryOrd (f61_c _) (by simp [f61]) ?_
  by_cases h : i < s.length
  · simp [f61, f61m, h]
  · simp [f61, f61m, h]

theorem run_at {p : UInt8 → Bool} (hp0 : p 0 = false) (s : Bs) (i n : Nat) (hn : n ≤ run p (s.drop i)) : (p (s[i + n]?.getD 0) = true ↔ n < run p (s.drop i)) ∧ (n < run p (s.drop i) → i + n < s.length) := by
  have hle := run_le p (s.drop i)
  rw [List.length_drop] at hle
  by_cases h : i + n < s.length
  · have h' : n < (s.drop i).length := by rw [List.length_drop]; omega
    have := run_le_iff (p := p) h' hn
    rw [List.getElem_drop] at this
    rw [List.getElem?_eq_getElem h, Option.getD_some]
    exact ⟨this, fun _ => h⟩
  · rw [List.getElem?_eq_none (by omega), Option.getD_none, hp0]
    exact ⟨⟨fun h => (by cases h), fun h => (by omega)⟩, fun h => (by omega)⟩
theorem take_at (s : Bs) (i n : Nat) (h : i + n < s.length) : (s.drop i).take (n + 1) = (s.drop i).take n ++ [s[i + n]?.getD 0] := by
  rw [List.take_add_one, List.getElem?_drop, List.getElem?_eq_getElem h]; rfl

theorem val_app (l : Bs) (c : UInt8) : val (l ++ [c]) = val l * 10 + dig c := by rw [val, valA_append]; rfl
theorem val19 (l : Bs) (h : ∀ c ∈ l, isD c = true) (n : Nat) (hn : n ≤ 19) : val (l.take n) < 10 ^ n := by
  have h1 := val_lt (l.take n) (fun c hc => h c (List.mem_of_mem_take hc))
  refine Nat.lt_of_lt_of_le h1 (Nat.pow_le_pow_right (by omega) ?_)
  rw [List.length_take]; omega

theorem wrapU (n : Nat) (h : n < 18446744073709551616) : IntKind.u64.wrap (n : Int) = (n : Int) := by
  simp [IntKind.wrap, IntKind.bits, IntKind.signed]; omega
theorem dig_wrap {c : UInt8} (h : isD c = true) : IntKind.u8.wrap ((c.toNat : Int) - 48) = (dig c : Int) := by
  obtain ⟨e1, e2⟩ := isD_dig h
  rw [e1]; simp [IntKind.wrap, IntKind.bits, IntKind.signed, IntKind.max]; omega

theorem part_at (s : Bs) (j : Nat) : Lx.part (s.drop j) = if (s[j]?.getD 0).toNat = 46 then run isD (s.drop (j + 1)) else 0 := by
  by_cases h : j < s.length
  · rw [List.drop_eq_getElem_cons h, part_cons, List.getElem?_eq_getElem h, Option.getD_some]
  · rw [List.drop_of_length_le (by omega), List.getElem?_eq_none (by omega), Lx.part, Option.getD_none]; rfl

set_option maxHeartbeats 4000000 in
/-- number. -/
theorem w62 (s : Bs) (i : Nat) (hi : i ≤ s.length) (hl : s.length ≤ 4194304) (S : Heap) : ACalls Tryd.prog (B0 w0) 62 [.str s, .int i] S fun e S' => RefR i (Lx.number (s.drop i)) e ∧ S' = S := by
  refine ACalls.close (R := fun e S' => RefR i (Lx.number (s.drop i)) e ∧ S'.take S.length = S) ?_ ?_
  rotate_left 1
  · rintro e S' ⟨h, ht⟩
    exact .flat ht (h.flat _) ⟨h, rfl⟩
  have hspec : Lx.number (s.drop i) = Lx.number (s.drop i) := rfl
  conv at hspec => rhs; unfold Lx.number
  have hrle := run_le isD (s.drop i)
  have hra := run_at (p := isD) (by rfl) s i
  have hT : ∀ c ∈ (s.drop i).take (run isD (s.drop i)), isD c = true := fun c hc => mem_take_run c hc
  have hR := realD (s.drop i)
  rw [List.length_drop] at hrle
  rw [List.drop_drop, List.drop_drop] at hspec hR
  generalize hw : run isD (s.drop i) = w at *
  have hpa := part_at s (i + w)
  have hra2 := run_at (p := isD) (by rfl) s (i + w + 1)
  have hple := part_le (s.drop (i + w))
  rw [List.length_drop] at hple
  rw [← Nat.add_assoc] at hspec hR
  generalize hpt : Lx.part (s.drop (i + w)) = pt at *
  generalize Lx.number (s.drop i) = out at *
  refine fn_sound tryOrd (f62_c _) (by simp [f62]) ?_
  simp [f62, f62m]
  refine mwp_loop (I := fun q a S' => ∃ n j : Nat, q = w - n ∧ n ≤ w ∧ j = i + n ∧ get a 0 = .str s ∧ get a 1 = .int j ∧ get a 4 = .ptr S.length 0 0 ∧ get a 7 = .atom (.int .u64 (val ((s.drop i).take (min n 19)) : Nat)) ∧ get a 8 = .int n ∧
    S' = S ++ [.cells 4 [[.int 0, .str [], .int 0, .int 0]] (some 1)]) (n := w) ?_ ?_
  · exact ⟨0, i, rfl, Nat.zero_le _, rfl, rfl, rfl, rfl, by simp [val, valA], rfl, rfl⟩
  rintro q a S' ⟨n, j, rfl, hn, hj, a0, a1, a4, a7, a8, rfl⟩
  obtain ⟨hiff, hin⟩ := hra n hn
  rw [← hj] at hiff hin
  have w61' := fun S => w61 (w0 := w0) s j S
  have w36' := fun S => w36 (w0 := w0) (s[j]?.getD 0) S
  simp [f62b0, a0, a1, a4, a7, a8]
  refine (w61' _).use ?_
  rintro e S1 ⟨rfl, rfl⟩
  simp
  refine (w36' _).use ?_
  rintro e S1 ⟨rfl, rfl⟩
  by_cases hlt : n < w
  · have hd := hiff.2 hlt
    have hs := hin hlt
    have hta := take_at s i n (by omega)
    rw [← hj] at hta
    have hdw := dig_wrap hd
    have hd9 := (isD_dig hd).2
    rw [List.getElem?_eq_getElem hs, Option.getD_some] at hd hta hdw hd9
    have hC := wrapU (dig s[j]) (by omega)
    have hw1 := wrapS n (by omega)
    have hw2 := wrapS j (by omega)
    by_cases h18 : n ≤ 18
    · have h18' : ((n + 1 : Nat) : Int) < 20 := by omega
      have hm1 : min n 19 = n := by omega
      have hm2 : min (n + 1) 19 = n + 1 := by omega
      have hV : val ((s.drop i).take n) < 10 ^ n := by
        have h1 := val_lt ((s.drop i).take n) (fun c hc => hT c (by
          have := List.take_take (l := s.drop i) (i := n) (j := w)
          rw [Nat.min_eq_left hn] at this
          rw [← this] at hc
          exact List.mem_of_mem_take hc))
        refine Nat.lt_of_lt_of_le h1 (Nat.pow_le_pow_right (by omega) ?_)
        rw [List.length_take]; omega
      have hV2 : val ((s.drop i).take n) < 10 ^ 18 := Nat.lt_of_lt_of_le hV (Nat.pow_le_pow_right (by omega) h18)
      have hvs : val ((s.drop i).take (n + 1)) = val ((s.drop i).take n) * 10 + dig s[j] := by rw [hta, val_app]
      rw [hm1] at a7
      generalize val ((s.drop i).take n) = V at *
      have hA := wrapU (V * 10) (by omega)
      have hD := wrapU (V * 10 + dig s[j]) (by omega)
      simp only [Int.natCast_mul, Int.natCast_add, Int.cast_ofNat_Int] at hA hD h18' hw1 hw2
      simp [hd, hs, a0, a1, a4, a7, a8, hw1, hw2, h18', hA, hC, hD, hdw]
      refine ⟨w - (n + 1), by omega, n + 1, rfl, by omega, by omega, ?_, by simp⟩
      rw [hm2, hvs]; simp
    · have h18' : ¬ ((n + 1 : Nat) : Int) < 20 := by omega
      have hm1 : min n 19 = 19 := by omega
      have hm2 : min (n + 1) 19 = 19 := by omega
      rw [hm1] at a7
      simp only [Int.natCast_add, Int.cast_ofNat_Int] at h18' hw1 hw2
      simp [hd, hs, a0, a1, a4, a7, a8, hw1, hw2, h18']
      refine ⟨w - (n + 1), by omega, n + 1, rfl, by omega, by omega, ?_, by simp⟩
      rw [hm2]
  · have hd : isD (s[j]?.getD 0) = false := by simpa using mt hiff.1 hlt
    have hnw : w = n := by omega
    subst hnw
    have hVw : w ≤ 19 → val ((s.drop i).take (min w 19)) = val ((s.drop i).take w) := fun h => by rw [Nat.min_eq_left h]
    have hVb : val ((s.drop i).take (min w 19)) < 10 ^ 19 := by
      have h1 := val_lt ((s.drop i).take (min w 19)) (fun c hc => hT c (by
        have := List.take_take (l := s.drop i) (i := min w 19) (j := w)
        rw [Nat.min_eq_left (Nat.min_le_left _ _)] at this
        rw [← this] at hc
        exact List.mem_of_mem_take hc))
      refine Nat.lt_of_lt_of_le h1 (Nat.pow_le_pow_right (by omega) ?_)
      rw [List.length_take]; omega
    rw [← hj] at hpa hra2 hR hspec hple
    have hds : pt = 0 ∨ (0 < pt ∧ (s[j]?.getD 0).toNat = 46 ∧ pt = run isD (s.drop (j + 1)) ∧ isD (s[j + 1]?.getD 0) = true) := by
      rcases Nat.eq_zero_or_pos pt with h | h
      · exact .inl h
      · by_cases h46 : (s[j]?.getD 0).toNat = 46
        · rw [if_pos h46] at hpa
          exact .inr ⟨h, h46, hpa, (hra2 0 (Nat.zero_le _)).1.2 (by omega)⟩
        · rw [if_neg h46] at hpa; omega
    generalize val ((s.drop i).take (min w 19)) = V at *
    have hr1 : j + 1 = i + w + 1 := by omega
    have w61b := fun S => w61 (w0 := w0) s (j + 1) S
    have w36b := fun S => w36 (w0 := w0) (s[j + 1]?.getD 0) S
    have hw1 := wrapS j (by omega)
    simp only [Int.natCast_add, Int.cast_ofNat_Int] at hw1 w61b
    have hgreat : (19 < w ∧ (19 < w ∨ 9223372036854775807 < val ((s.drop i).take w))) ∨ (¬ 19 < w ∧ 9223372036854775807 < V ∧ (19 < w ∨ 9223372036854775807 < val ((s.drop i).take w))) ∨
        (¬ 19 < w ∧ ¬ 9223372036854775807 < V ∧ ¬ (19 < w ∨ 9223372036854775807 < val ((s.drop i).take w))) := by
      by_cases h19 : 19 < w
      · exact .inl ⟨h19, .inl h19⟩
      · have := hVw (by omega)
        by_cases hb : 9223372036854775807 < V
        · exact .inr (.inl ⟨h19, hb, .inr (by omega)⟩)
        · exact .inr (.inr ⟨h19, hb, by omega⟩)
    rcases hds with hp0 | ⟨hp, h46, hptr, hdg⟩
    · rw [if_pos hp0] at hspec
      have hnot : (s[j]?.getD 0).toNat = 46 → isD (s[j + 1]?.getD 0) = false := fun h => by
        rw [if_pos h] at hpa
        cases hq : isD (s[j + 1]?.getD 0) with
        | false => rfl
        | true => have := (hra2 0 (Nat.zero_le _)).1.1 (by simpa using hq); omega
      clear hra2 hpa hra hR hple
      rcases hgreat with ⟨h19, hg⟩ | ⟨h19, hb, hg⟩ | ⟨h19, hb, hg⟩
      all_goals
        have hi19 : ((19 : Int) < (w : Int)) ↔ 19 < w := by omega
        have hge2 : (9223372036854775808 ≤ (V : Int)) ↔ (9223372036854775807 < V) := by omega
        first
        | rw [if_pos hg] at hspec
        | rw [if_neg hg] at hspec
        first
        | simp [hd, a0, a1, a4, a7, a8, h19, hi19, hge2, hb]
        | simp [hd, a0, a1, a4, a7, a8, h19, hi19, hge2]
        refine (w61' _).use ?_
        rintro e S1 ⟨rfl, rfl⟩
        by_cases h46 : (s[j]?.getD 0).toNat = 46
        · have h46b : (((s[j]?.getD 0).toNat : Int) == 46) = true := by simp; omega
          have hnd := hnot h46
          simp [h46, h46b, bne, a0, a1, a4, a7, a8, hw1]
          refine (w61b _).use ?_
          rintro e S1 ⟨rfl, rfl⟩
          simp
          refine (w36b _).use ?_
          rintro e S1 ⟨rfl, rfl⟩
          simp [hnd, a0, a1, a4, a7, a8]
          rw [hspec]
          first
          | exact ⟨j, by simp [tokC, zTok]⟩
          | have hVe := hVw (by omega)
            have hwv : IntKind.i64.wrap (V : Int) = (V : Int) := by rw [wrap64_in (by omega) (by omega)]
            simp [RefR, tokC, hwv]
            omega
        · have h46b : (((s[j]?.getD 0).toNat : Int) == 46) = false := by simp; omega
          simp [h46, h46b, bne, a0, a1, a4, a7, a8, hw1]
          rw [hspec]
          first
          | exact ⟨j, by simp [tokC, zTok]⟩
          | have hVe := hVw (by omega)
            have hwv : IntKind.i64.wrap (V : Int) = (V : Int) := by rw [wrap64_in (by omega) (by omega)]
            simp [RefR, tokC, hwv]
            omega
    · rw [if_neg (by omega)] at hspec
      have h46b : (((s[j]?.getD 0).toNat : Int) == 46) = true := by simp; omega
      rcases hgreat with ⟨h19, hg⟩ | ⟨h19, hb, hg⟩ | ⟨h19, hb, hg⟩
      all_goals
        have hi19 : ((19 : Int) < (w : Int)) ↔ 19 < w := by omega
        have hge2 : (9223372036854775808 ≤ (V : Int)) ↔ (9223372036854775807 < V) := by omega
        first
        | simp [hd, a0, a1, a4, a7, a8, h19, hi19, hge2, hb]
        | simp [hd, a0, a1, a4, a7, a8, h19, hi19, hge2]
        refine (w61' _).use ?_
        rintro e S1 ⟨rfl, rfl⟩
        simp [h46, h46b, bne, a0, a1, a4, a7, a8, hw1]
        refine (w61b _).use ?_
        rintro e S1 ⟨rfl, rfl⟩
        simp
        refine (w36b _).use ?_
        rintro e S1 ⟨rfl, rfl⟩
        simp [hdg, a0, a1, a4, a7, a8, hw1]
        clear hw1 w61b w36b w61' w36' hra hiff hin
        refine mwp_loop (I := fun q a S' => ∃ m k M : Nat, q = pt - m ∧ m ≤ pt ∧ k = j + 1 + m ∧ get a 0 = .str s ∧ get a 1 = .int k ∧ get a 4 = .ptr S.length 0 0 ∧ get a 7 = .atom (.int .u64 (M : Nat)) ∧ get a 8 = .int w ∧ get a 10 = .int m ∧
          (w + m ≤ 15 → M = val ((s.drop i).take w ++ (s.drop (j + 1)).take m)) ∧ S' = S ++ [.cells 4 [[.int 0, .str [], .int 0, .int 0]] (some 1)]) (n := pt) ?_ ?_
        · refine ⟨0, j + 1, V, rfl, Nat.zero_le _, rfl, by simp [a0], by simp, by simp [a4], by simp [a7], by simp [a8], rfl, fun h => ?_, rfl⟩
          rw [hVw (by omega)]; simp
        rintro q a S' ⟨m, k, M, rfl, hm, hk, a0, a1, a4, a7, a8, a10, hM, rfl⟩
        obtain ⟨hiff, hin⟩ := hra2 m (by omega)
        rw [← hk, ← hptr] at hiff hin
        have w61' := fun S => w61 (w0 := w0) s k S
        have w36' := fun S => w36 (w0 := w0) (s[k]?.getD 0) S
        simp [f62b1, a0, a1, a4, a7, a8, a10]
        refine (w61' _).use ?_
        rintro e S1 ⟨rfl, rfl⟩
        simp
        refine (w36' _).use ?_
        rintro e S1 ⟨rfl, rfl⟩
        by_cases hlt : m < pt
        · have hd := hiff.2 hlt
          have hs := hin hlt
          have hta := take_at s (j + 1) m (by omega)
          rw [← hk] at hta
          have hdw := dig_wrap hd
          have hd9 := (isD_dig hd).2
          rw [List.getElem?_eq_getElem hs, Option.getD_some] at hd hta hdw hd9
          have hC := wrapU (dig s[k]) (by omega)
          have hw1 := wrapS m (by omega)
          have hw2 := wrapS k (by omega)
          have hw3 : IntKind.i64.wrap ((w : Int) + ((m + 1 : Nat) : Int)) = ((w + (m + 1) : Nat) : Int) := by rw [wrap64_in (by omega) (by omega)]; simp
          by_cases h15 : w + (m + 1) < 16
          · have h15' : (w : Int) + ((m : Int) + 1) < 16 := by omega
            have hMe := hM (by omega)
            have hMb : M < 10 ^ 15 := by
              rw [hMe]
              have h1 := val_lt ((s.drop i).take w ++ (s.drop (j + 1)).take m) (fun c hc => hR c (by
                simp only [List.mem_append] at hc ⊢
                rcases hc with hc | hc
                · exact .inl hc
                · refine .inr ?_
                  have := List.take_take (l := s.drop (j + 1)) (i := m) (j := pt)
                  rw [Nat.min_eq_left hm] at this
                  rw [← this] at hc
                  exact List.mem_of_mem_take hc))
              refine Nat.lt_of_lt_of_le h1 (Nat.pow_le_pow_right (by omega) ?_)
              rw [List.length_append, List.length_take, List.length_take]; omega
            have hvs : val ((s.drop i).take w ++ (s.drop (j + 1)).take (m + 1)) = M * 10 + dig s[k] := by rw [hta, ← List.append_assoc, val_app, hMe]
            have hA := wrapU (M * 10) (by omega)
            have hD := wrapU (M * 10 + dig s[k]) (by omega)
            simp only [Int.natCast_mul, Int.natCast_add, Int.cast_ofNat_Int] at hA hD hw1 hw2 hw3
            simp [hd, hs, a0, a1, a4, a7, a8, a10, hw1, hw2, hw3, h15', hA, hC, hD, hdw]
            refine ⟨pt - (m + 1), by omega, m + 1, rfl, by omega, by omega, M * 10 + dig s[k], by simp, by simp, fun _ => hvs.symm⟩
          · have h15' : ¬ (w : Int) + ((m : Int) + 1) < 16 := by omega
            simp only [Int.natCast_add, Int.cast_ofNat_Int] at hw1 hw2 hw3
            simp [hd, hs, a0, a1, a4, a7, a8, a10, hw1, hw2, hw3, h15']
            refine ⟨pt - (m + 1), by omega, m + 1, rfl, by omega, by omega, M, rfl, by simp, fun h => by omega⟩
        · have hd : isD (s[k]?.getD 0) = false := by simpa using mt hiff.1 hlt
          have hmp : m = pt := by omega
          subst hmp
          have hw3 : IntKind.i64.wrap ((w : Int) + (m : Int)) = (w : Int) + (m : Int) := by rw [wrap64_in (by omega) (by omega)]
          by_cases h15 : 15 < w + m
          · have h15' : (15 : Int) < (w : Int) + (m : Int) := by omega
            rw [if_pos h15] at hspec
            simp [hd, a0, a1, a4, a7, a8, a10, hw3, h15']
            rw [hspec]
            exact ⟨k, by simp [tokC, zTok]⟩
          · have h15' : ¬ (15 : Int) < (w : Int) + (m : Int) := by omega
            rw [if_neg h15] at hspec
            have hMe := hM (by omega)
            have hMb : M < 10 ^ 15 := by
              rw [hMe]
              have h1 := val_lt _ hR
              refine Nat.lt_of_lt_of_le h1 (Nat.pow_le_pow_right (by omega) ?_)
              rw [List.length_append, List.length_take, List.length_take]; omega
            have hwv : IntKind.i64.wrap (M : Int) = (M : Int) := by rw [wrap64_in (by omega) (by omega)]
            rw [← hMe] at hspec
            simp [hd, a0, a1, a4, a7, a8, a10, hw3, h15', hwv]
            rw [hspec]
            simp [RefR, tokC]
            omega
end Go.Abs
