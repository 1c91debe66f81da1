/- The walk of the document's one token. Conditions: none but the lengths; definitions and lemmas. -/
import Derived.Test.YtjoehmgnapdhaaaDoorL10
set_option linter.unusedSimpArgs false
set_option linter.unusedVariables false
namespace Go.Abs
open Go Go.RowKit Go.Proofs Go.Lx
variable {w0 : World}

theorem sign_at (s : Bs) (i : Nat) (hi : i < s.length) : Lx.sign (s.drop i) = (if two s[i] (s[i + 1]?.getD 0) then .ok (⟨5, (s.drop i).take 2, 0, 0⟩, 2) else if s[i] ∈ ones then .ok (⟨5, [s[i]], 0, 0⟩, 1) else .error 120) ∧
    (two s[i] (s[i + 1]?.getD 0) = true → i + 1 < s.length) := by
  have h0 : ∀ c : UInt8, two c 0 = false := fun c => by simp [two]
  by_cases h : i + 1 < s.length
  · rw [List.drop_eq_getElem_cons hi, List.drop_eq_getElem_cons h, List.getElem?_eq_getElem h, Option.getD_some, Lx.sign]
    exact ⟨rfl, fun _ => h⟩
  · rw [List.drop_eq_getElem_cons hi, List.drop_of_length_le (by omega), List.getElem?_eq_none (by omega), Option.getD_none, Lx.sign, h0]
    simp

theorem two_cases (c d : UInt8) : (two c d = true ∧ ((c.toNat = 60 ∧ d.toNat = 62) ∨ (c.toNat = 60 ∧ d.toNat = 61) ∨ (c.toNat = 62 ∧ d.toNat = 61) ∨ (c.toNat = 124 ∧ d.toNat = 124))) ∨
    (two c d = false ∧ ((c.toNat = 60 ∧ ¬ d.toNat = 62 ∧ ¬ d.toNat = 61) ∨ (c.toNat = 62 ∧ ¬ d.toNat = 61) ∨ (c.toNat = 124 ∧ ¬ d.toNat = 124) ∨ (¬ c.toNat = 60 ∧ ¬ c.toNat = 62 ∧ ¬ c.toNat = 124))) := by
  simp [two]; omega

theorem RefR.text {i : Nat} {c : UInt8} {r : Bs} {e : AEnd} (h : RefR (i + 1) (txtR (txt r)) e) : RefR i (Lx.text (c :: r)) e := by
  have : Lx.text (c :: r) = match txt r with
    | none => .error 121
    | some (b, n) => if 200 < b.length then .error 1 else .ok (⟨4, b, 0, 0⟩, n + 1) := rfl
  rw [this]
  cases hx : txt r with
  | none => rw [hx] at h; exact h
  | some x =>
    obtain ⟨b, n⟩ := x
    rw [hx] at h
    simp only [txtR] at h ⊢
    split
    · rename_i h2; rw [if_pos h2] at h; exact h
    · rename_i h2
      rw [if_neg h2] at h
      simp only [RefR] at h ⊢
      rw [h, show i + 1 + n = i + (n + 1) by omega]

set_option maxHeartbeats 4000000 in
/-- one. -/
theorem w30 (s : Bs) (i : Nat) (hi : i < s.length) (hl : s.length ≤ 4194304) (S : Heap) : ACalls Tryd.prog (B0 w0) 30 [.str s, .int i] S fun e S' => RefR i (Lx.one (s.drop i)) e ∧ S' = S := by
  refine ACalls.close (R := fun e S' => RefR i (Lx.one (s.drop i)) e ∧ S'.take S.length = S) ?_ ?_
  rotate_left 1
  · rintro e S' ⟨h, ht⟩
    exact .flat ht (h.flat _) ⟨h, rfl⟩
  have hdrop := List.drop_eq_getElem_cons hi
  have w34' := fun S => w34 (w0 := w0) s[i] S
  have w36' := fun S => w36 (w0 := w0) s[i] S
  have w62' := fun S => w62 (w0 := w0) s i (by omega) hl S
  have w63' := fun S => w63 (w0 := w0) s (i + 1) (by omega) hl S
  have w61' := fun S => w61 (w0 := w0) s (i + 1) S
  obtain ⟨hsign, hsl⟩ := sign_at s i hi
  have hra := run_at (p := isW) (by rfl) s i
  have hword : Lx.word (s.drop i) = if 32 < run isW (s.drop i) then .error 122 else .ok (⟨1, ((s.drop i).take (run isW (s.drop i))).map Lib.lowerB, 0, 0⟩, run isW (s.drop i)) := by rw [Lx.word]
  have hrle := run_le isW (s.drop i)
  rw [List.length_drop] at hrle
  have hone : Lx.one (s.drop i) = if Lx.isL s[i] then Lx.word (s.drop i) else if isD s[i] then Lx.number (s.drop i) else if s[i].toNat = 39 then Lx.text (s.drop i) else Lx.sign (s.drop i) := by
    rw [hdrop, Lx.one]
  have hw1 := wrapS i (by omega)
  have hw2 : IntKind.i64.wrap ((i : Int) + 2) = ((i + 2 : Nat) : Int) := by rw [wrap64_in (by omega) (by omega)]; simp
  have htext : RefR (i + 1) (txtR (txt (s.drop (i + 1)))) = RefR (i + 1) (txtR (txt (s.drop (i + 1)))) := rfl
  simp only [Int.natCast_add, Int.cast_ofNat_Int] at hw1 hw2 w61' w63'
  refine fn_sound tryOrd (f30_c _) (by simp [f30]) ?_
  simp [f30, f30m, hi]
  refine (w34' _).use ?_
  rintro e S1 ⟨rfl, rfl⟩
  by_cases h1 : Lx.isL s[i] = true
  · rw [if_pos h1] at hone
    rw [hone, hword]
    clear hword hone
    generalize hw : run isW (s.drop i) = w at *
    simp [h1]
    refine mwp_loop (I := fun q a S' => ∃ (n k : Nat) (u : AVal), q = w - n ∧ n ≤ w ∧ k = i + n ∧ get a 0 = .str s ∧ get a 1 = .int k ∧ get a 4 = .ptr S.length 0 0 ∧ get a 8 = u ∧
      Own (S.length + 1) (S ++ [.cells 4 [[.int 0, .str [], .int 0, .int 0]] (some 1)]) S' [(u, 1, (((s.drop i).take n).map Lib.lowerB).map u8)]) (n := w) ?_ ?_
    · refine ⟨0, i, _, rfl, Nat.zero_le _, rfl, rfl, rfl, rfl, rfl, ?_⟩
      have := (Own.start (S ++ [.cells 4 [[.int 0, .str [], .int 0, .int 0]] (some 1)])).add0 1 .full (.inr rfl)
      simpa using this
    rintro q a S1 ⟨n, k, u, rfl, hn, hk, a0, a1, a4, a8, ho⟩
    obtain ⟨hiff, hin⟩ := hra n hn
    rw [← hk] at hiff hin
    have hbox : S1[S.length]? = some (.cells 4 [[.int 0, .str [], .int 0, .int 0]] (some 1)) := by rw [ho.low S.length (by omega)]; simp
    have hset := fun x => ho.takeSet (x := x) (by omega)
    have hidx : S.length < S1.length := by have := ho.le; omega
    have hget := fun x => List.getElem?_set_self (a := x) hidx
    have w61k := fun S => w61 (w0 := w0) s k S
    have w34k := fun S => w34 (w0 := w0) (s[k]?.getD 0) S
    have w36k := fun S => w36 (w0 := w0) (s[k]?.getD 0) S
    simp [f30b0, a0, a1, a4, a8]
    refine (w61k _).use ?_
    rintro e S2 ⟨rfl, rfl⟩
    simp
    refine (w34k _).use ?_
    rintro e S3 ⟨rfl, rfl⟩
    by_cases hlt : n < w
    · have hW := hiff.2 hlt
      have hs := hin hlt
      have hta := take_at s i n (by omega)
      rw [← hk] at hta
      rw [List.getElem?_eq_getElem hs, Option.getD_some] at hta hW w34k w36k w61k
      have w35k := fun S => w35 (w0 := w0) s[k] S
      have hwk := wrapS k (by omega)
      obtain ⟨S4, happ, ho4, hlt4⟩ := ho.app 0 rfl (y := .list .full [[bv (Lib.lowerB s[k])]]) (ys := [u8 (Lib.lowerB s[k])]) (bytes := 1) rfl (by simp [u8]) (by decide) (by simp; omega) (by simp; omega)
      simp [-appendR] at happ
      have hcase : Lx.isL s[k] = true ∨ (¬ Lx.isL s[k] = true ∧ isD s[k] = true) := by
        by_cases hL : Lx.isL s[k] = true
        · exact .inl hL
        · refine .inr ⟨hL, ?_⟩
          simp only [isW, Bool.or_eq_true] at hW
          exact hW.resolve_left hL
      rw [List.getElem?_eq_getElem hs, Option.getD_some]
      rcases hcase with hL | ⟨hL, hD⟩
      · simp [-appendR, hL, hs, a0, a1, a4, a8]
        refine (w35k _).use ?_
        rintro e S2 ⟨rfl, rfl⟩
        simp [-appendR, hs, a0, a1, a4, a8, happ, hwk]
        refine ⟨w - (n + 1), by omega, n + 1, rfl, by omega, by omega, ?_⟩
        have e1 : ((s.drop i).map (u8 ∘ Lib.lowerB)).take (n + 1) = ((s.drop i).take n).map (u8 ∘ Lib.lowerB) ++ [u8 (Lib.lowerB s[k])] := by
          rw [← List.map_take, hta]; simp
        rw [← List.map_drop, e1]
        simpa using ho4
      · simp [-appendR, hL, hs, a0, a1, a4, a8]
        refine (w61k _).use ?_
        rintro e S2 ⟨rfl, rfl⟩
        simp [-appendR]
        refine (w36k _).use ?_
        rintro e S2 ⟨rfl, rfl⟩
        simp [-appendR, hD, hs, a0, a1, a4, a8]
        refine (w35k _).use ?_
        rintro e S2 ⟨rfl, rfl⟩
        simp [-appendR, hs, a0, a1, a4, a8, happ, hwk]
        refine ⟨w - (n + 1), by omega, n + 1, rfl, by omega, by omega, ?_⟩
        have e1 : ((s.drop i).map (u8 ∘ Lib.lowerB)).take (n + 1) = ((s.drop i).take n).map (u8 ∘ Lib.lowerB) ++ [u8 (Lib.lowerB s[k])] := by
          rw [← List.map_take, hta]; simp
        rw [← List.map_drop, e1]
        simpa using ho4
    · have hW : isW (s[k]?.getD 0) = false := by simpa using mt hiff.1 hlt
      simp only [isW, Bool.or_eq_false_iff] at hW
      have hnw : n = w := by omega
      subst hnw
      have hlenS := (ho.rk 0 rfl).lenR
      have hmin : min n (s.length - i) = n := by omega
      simp [hmin] at hlenS
      have hstr := conv_bytesStr (ho.rk 0 rfl).elems
      simp [hW.1, a0, a1]
      refine (w61k _).use ?_
      rintro e S2 ⟨rfl, rfl⟩
      simp
      refine (w36k _).use ?_
      rintro e S2 ⟨rfl, rfl⟩
      by_cases h32 : 32 < n
      · have h32' : (32 : Int) < (n : Int) := by omega
        rw [if_pos h32]
        simp [hW.2, a0, a1, a4, a8, hlenS, h32', hbox, hset, hget, RefR, tokC, zTok]
        exact ⟨k, rfl⟩
      · have h32' : ¬ (32 : Int) < (n : Int) := by omega
        rw [if_neg h32]
        simp [hW.2, a0, a1, a4, a8, hlenS, hstr, h32', hbox, hset, hget, RefR, tokC, zTok]
        omega
  · rw [if_neg h1] at hone
    simp [h1]
    refine (w36' _).use ?_
    rintro e S1 ⟨rfl, rfl⟩
    by_cases h2 : isD s[i] = true
    · rw [if_pos h2] at hone
      rw [hone]
      simp [h2]
      refine (w62' _).use ?_
      rintro e S1 ⟨h, rfl⟩
      cases hres : Lx.number (s.drop i) with
      | error x =>
        rw [hres] at h
        obtain ⟨k, rfl⟩ := h
        simp [RefR, tokC, zTok]
        exact ⟨k, rfl⟩
      | ok y =>
        obtain ⟨t, m⟩ := y
        rw [hres] at h
        cases h
        simp [RefR, tokC, zTok]
    · rw [if_neg h2] at hone
      by_cases h3 : s[i].toNat = 39
      · rw [if_pos h3] at hone
        rw [hone]
        simp [h2, h3, hw1]
        refine (w63' _).use ?_
        rintro e S1 ⟨h, rfl⟩
        have h' : RefR i (Lx.text (s.drop i)) e := by rw [hdrop]; exact h.text
        clear h
        cases hres : Lx.text (s.drop i) with
        | error x =>
          rw [hres] at h'
          obtain ⟨k, rfl⟩ := h'
          simp [RefR, tokC, zTok]
          exact ⟨k, rfl⟩
        | ok y =>
          obtain ⟨t, m⟩ := y
          rw [hres] at h'
          cases h'
          simp [RefR, tokC, zTok]
      · rw [if_neg h3] at hone
        rw [hone, hsign]
        have h3' : ((s[i].toNat : Int) == 39) = false := by simp; omega
        simp [h2, h3', hw1]
        refine (w61' _).use ?_
        rintro e S1 ⟨rfl, rfl⟩
        have hb : ∀ (c : UInt8) (k : Nat), ((c.toNat : Int) == (k : Int)) = decide (c.toNat = k) := fun c k => by
          rw [Bool.eq_iff_iff]; simp; omega
        have c60 := hb s[i] 60
        have c62 := hb s[i] 62
        have c124 := hb s[i] 124
        have d62 := hb (s[i + 1]?.getD 0) 62
        have d61 := hb (s[i + 1]?.getD 0) 61
        have d124 := hb (s[i + 1]?.getD 0) 124
        simp only [Int.cast_ofNat_Int] at c60 c62 c124 d62 d61 d124
        generalize hd : s[i + 1]?.getD 0 = d at *
        rcases two_cases s[i] d with ⟨ht, hcs⟩ | ⟨ht, hcs⟩
        · have hlt2 := hsl ht
          rw [if_pos ht]
          have hA : i + 2 ≤ s.length := by omega
          have hA0 : (0 : Int) ≤ (i : Int) + 2 := by omega
          have hAn : ((i : Int) + 2).toNat = i + 2 := by omega
          have hAi : (i : Int) + 2 ≤ (s.length : Int) := by omega
          have hsub : (s.take (i + 2)).drop i = (s.drop i).take 2 := by rw [List.drop_take, Nat.add_sub_cancel_left]
          rcases hcs with ⟨h4, h5⟩ | ⟨h4, h5⟩ | ⟨h4, h5⟩ | ⟨h4, h5⟩
          all_goals
            simp [c60, c62, c124, d62, d61, d124, h4, h5, hw2, sslcR, bound, hA, hA0, hAn, hAi, hsub, RefR, tokC, zTok]
        · rw [ht]
          rcases hcs with ⟨h4, h5, h6⟩ | ⟨h4, h5⟩ | ⟨h4, h5⟩ | ⟨h4, h5, h6⟩
          all_goals
            first
            | simp [c60, c62, c124, d62, d61, d124, h4, h5, h6]
            | simp [c60, c62, c124, d62, d61, d124, h4, h5]
            clear c60 c62 c124 d62 d61 d124 hb
            refine mwp_loop (I := fun q a S' => ∃ k : Nat, q = 12 - k ∧ k ≤ 12 ∧ get a 0 = .str s ∧ get a 1 = .int i ∧ get a 4 = .ptr S.length 0 0 ∧ get a 7 = .atom (.int .u8 (s[i].toNat : Nat)) ∧ get a 10 = .str ones ∧ get a 11 = .int k ∧
              S' = S ++ [.cells 4 [[.int 0, .str [], .int 0, .int 0]] (some 1)] ∧ s[i] ∉ ones.take k) (n := 12) ?_ ?_
            · exact ⟨0, rfl, by omega, rfl, rfl, rfl, by first | rfl | simp [h4], rfl, rfl, rfl, by simp⟩
            rintro q a S1 ⟨k, rfl, hk, a0, a1, a4, a7, a10, a11, rfl, hnot⟩
            have hol : ones.length = 12 := rfl
            by_cases hlt : k < 12
            · have hlt' : k < ones.length := by omega
              have hwk := wrapS k (by omega)
              have hi12 : (k : Int) < 12 := by omega
              by_cases hx : ones[k] = s[i]
              · have hmem : s[i] ∈ ones := hx ▸ List.getElem_mem hlt'
                have hA : i + 1 ≤ s.length := by omega
                have hA0 : (0 : Int) ≤ (i : Int) + 1 := by omega
                have hAn : ((i : Int) + 1).toNat = i + 1 := by omega
                have hAi : (i : Int) + 1 ≤ (s.length : Int) := by omega
                have hsub : (s.take (i + 1)).drop i = [s[i]] := by rw [List.drop_take, Nat.add_sub_cancel_left, hdrop]; rfl
                simp [f30b1, a0, a1, a4, a7, a10, a11, hlt, hlt', hi12, hol, hx, hw1, sslcR, bound, hA, hA0, hAn, hAi, hsub, RefR, tokC, zTok, hmem]
              · have hx' : ((ones[k].toNat : Int) == (s[i].toNat : Int)) = false := by
                  rw [beq_eq_false_iff_ne]
                  intro e
                  exact hx (UInt8.toNat_inj.1 (by omega))
                simp [f30b1, a0, a1, a4, a7, a10, a11, hlt, hlt', hi12, hol, hx', hwk]
                exact ⟨12 - (k + 1), by omega, k + 1, rfl, by omega, by simp, not_mem_take_succ hnot hlt' hx⟩
            · obtain rfl : k = 12 := by omega
              have hno : s[i] ∉ ones := hnot
              simp [f30b1, a0, a1, a4, a7, a10, a11, hol, hno, RefR, tokC, zTok]
              exact ⟨i, rfl⟩
end Go.Abs
