/- The walks of the reserved words and of names. Conditions: none; definitions and lemmas. -/
import Derived.Test.YtjoehmgnapdhaaaDoorL6
set_option linter.unusedSimpArgs false
set_option linter.unusedVariables false
namespace Go.Abs
open Go Go.RowKit Go.Proofs Go.Lx
variable {w0 : World}

def resv : List Bs := [[97, 110, 100], [97, 115], [98, 101, 103, 105, 110], [98, 111, 111, 108], [98, 121], [99, 111, 109, 109, 105, 116], [99, 114, 101, 97, 116, 101], [100, 101, 108, 101, 116, 101], [100, 101, 115, 99], [100, 114, 111, 112],
  [102, 97, 108, 115, 101], [102, 114, 111, 109], [105, 110, 100, 101, 120], [105, 110, 102, 105, 110, 105, 116, 121], [105, 110, 110, 101, 114], [105, 110, 115, 101, 114, 116], [105, 110, 116], [105, 110, 116, 111], [105, 115], [106, 111, 105, 110],
  [110, 97, 110], [110, 111, 116], [110, 117, 108, 108], [111, 110], [111, 114], [111, 114, 100, 101, 114], [114, 101, 97, 108], [114, 111, 108, 108, 98, 97, 99, 107], [115, 101, 108, 101, 99, 116], [115, 101, 116], [116, 97, 98, 108, 101], [116, 101, 120, 116],
  [116, 114, 117, 101], [117, 110, 105, 113, 117, 101], [117, 112, 100, 97, 116, 101], [118, 97, 108, 117, 101, 115], [119, 104, 101, 114, 101]]

set_option maxRecDepth 100000 in
set_option maxHeartbeats 4000000 in
/-- lex.Reserved. -/
theorem w13 (x : Bs) (S : Heap) : ACalls Tryd.prog (B0 w0) 13 [.str x] S fun e S' => e = .ret (.bool (decide (x ∈ resv))) ∧ S' = S := by
  by_cases h : x ∈ resv
  · rw [decide_eq_true h]
    simp only [resv, List.mem_cons, List.mem_nil_iff, or_false] at h
    refine fn_sound tryOrd (f13_c _) (by simp [f13]) ?_
    rcases h with rfl | rfl | rfl | rfl | rfl | rfl | rfl | rfl | rfl | rfl | rfl | rfl | rfl | rfl | rfl | rfl | rfl | rfl | rfl | rfl | rfl | rfl | rfl | rfl | rfl | rfl | rfl | rfl | rfl | rfl | rfl | rfl | rfl | rfl | rfl | rfl | rfl
    all_goals simp [f13, f13m]
  · rw [decide_eq_false h]
    simp only [resv, List.mem_cons, List.mem_nil_iff, or_false, not_or] at h
    refine fn_sound tryOrd (f13_c _) (by simp [f13]) ?_
    simp [f13, f13m, h]

theorem resv_len : resv.length = 37 := rfl
set_option maxHeartbeats 4000000 in
/-- The document's Reserved. -/
theorem w14 (x : Bs) (S : Heap) : ACalls Tryd.prog (B0 w0) 14 [.str x] S fun e S' => e = .ret (.bool (decide (x ∈ resv))) ∧ S' = S := by
  refine ACalls.close (R := fun e S' => e = .ret (.bool (decide (x ∈ resv))) ∧ S'.take S.length = S) ?_ ?_
  rotate_left 1
  · rintro e S' ⟨rfl, ht⟩
    exact .flat ht rfl ⟨rfl, rfl⟩
  refine fn_sound tryOrd (f14_c _) (by simp [f14]) ?_
  simp [f14, f14m]
  refine mwp_loop (I := fun q a S' => ∃ i : Nat, q = 37 - i ∧ i ≤ 37 ∧ get a 0 = .str x ∧ get a 3 = .ptr S.length 0 0 ∧ get a 4 = .int i ∧ S' = S ++ [.cells 37 [resv.map .str] (some 1)] ∧ x ∉ resv.take i) (n := 37) ?_ ?_
  · exact ⟨0, rfl, by omega, rfl, rfl, rfl, rfl, by simp⟩
  rintro q a S1 ⟨i, rfl, hi, a0, a3, a4, rfl, hnot⟩
  by_cases hlt : i < 37
  · have hlt' : i < resv.length := by rw [resv_len]; exact hlt
    have hi37 : (i : Int) < 37 := by omega
    have hwi := wrapS i (by omega)
    by_cases hx : resv[i] = x
    · have hm : x ∈ resv := hx ▸ List.getElem_mem hlt'
      simp [f14b0, a0, a3, a4, hlt, hlt', hi37, resv_len, hx, hm]
      omega
    · simp [f14b0, a0, a3, a4, hlt, hlt', hi37, resv_len, hx, hwi]
      exact ⟨by omega, 37 - (i + 1), by omega, i + 1, rfl, by omega, by simp, not_mem_take_succ hnot hlt' hx⟩
  · obtain rfl : i = 37 := by omega
    have hm : x ∉ resv := hnot
    simp [f14b0, a0, a3, a4, hm]

def nameB (x : Bs) : Bool := decide (1 ≤ x.length) && decide (x.length ≤ 32) && Lx.isL (x[0]?.getD 0) && x.all (fun c => isW c && decide (Lib.lowerB c = c)) && !decide (x ∈ resv)

theorem run_eq_len {p : UInt8 → Bool} : ∀ {l : Bs}, run p l = l.length ↔ l.all p = true
  | [] => by simp [run]
  | c :: r => by
    rw [run_cons]
    have ih := run_eq_len (p := p) (l := r)
    by_cases h : p c = true
    · simp only [h, if_true, List.length_cons, List.all_cons, Bool.true_and]; rw [← ih]; omega
    · have h' : p c = false := by simpa using h
      simp [h']
theorem map_lower_eq : ∀ {l : Bs}, l.map Lib.lowerB = l ↔ l.all (fun c => decide (Lib.lowerB c = c)) = true
  | [] => by simp
  | c :: r => by
    have ih := map_lower_eq (l := r)
    simp only [List.map_cons, List.cons.injEq, List.all_cons, Bool.and_eq_true, decide_eq_true_eq]
    rw [ih]
theorem all_and {l : Bs} {p q : UInt8 → Bool} : l.all (fun c => p c && q c) = (l.all p && l.all q) := by
  induction l with
  | nil => rfl
  | cons c r ih => simp only [List.all_cons, ih]; cases p c <;> cases q c <;> cases r.all p <;> cases r.all q <;> rfl

set_option maxHeartbeats 1000000 in
/-- lex.Name. -/
theorem w15 (x : Bs) (S : Heap) : ACalls Tryd.prog (B0 w0) 15 [.str x] S fun e S' => e = .ret (.bool (nameB x)) ∧ S' = S := by
  have hnm : nameB x = (decide (1 ≤ x.length) && decide (x.length ≤ 32) && Lx.isL (x[0]?.getD 0) && (decide (run isW x = x.length) && decide (x.map Lib.lowerB = x)) && !decide (x ∈ resv)) := by
    rw [nameB, all_and]
    have e1 : x.all isW = decide (run isW x = x.length) := by rw [Bool.eq_iff_iff, decide_eq_true_eq]; exact run_eq_len.symm
    have e2 : (x.all fun c => decide (Lib.lowerB c = c)) = decide (x.map Lib.lowerB = x) := by rw [Bool.eq_iff_iff, decide_eq_true_eq]; exact map_lower_eq.symm
    rw [e1, e2]
  refine fn_sound tryOrd (f15_c _) (by simp [f15]) ?_
  cases x with
  | nil => simp [f15, f15m, hnm]
  | cons c r =>
    by_cases hlen : (c :: r).length ≤ 32
    rotate_left 1
    · have h' : ¬ ((r.length : Int) + 1 ≤ 32) := by simp at hlen; omega
      have h'' : ¬ (r.length + 1 ≤ 32) := by simp at hlen; omega
      simp [f15, f15m, hnm, h', h'']
    have h' : ((r.length : Int) + 1 ≤ 32) := by simp at hlen; omega
    have h'' : (r.length + 1 ≤ 32) := by simp at hlen; omega
    simp [f15, f15m, h']
    refine (w25 c _).use ?_
    rintro e S1 ⟨rfl, rfl⟩
    by_cases hL : Lx.isL c = true
    rotate_left 1
    · simp [hL, hnm]
    have w31' := fun S => w31 (q := 32) (p := isW) w32 (c :: r) (w0 := w0) (by simp; omega) S
    simp [hL]
    refine (w31' _).use ?_
    rintro e S1 ⟨rfl, rfl⟩
    by_cases hr : run isW (c :: r) = (c :: r).length
    rotate_left 1
    · have hr' : ((run isW (c :: r) : Int) == (r.length : Int) + 1) = false := by
        rw [beq_eq_false_iff_ne]; simp at hr; omega
      have hr'' : ¬ run isW (c :: r) = r.length + 1 := by simpa using hr
      simp [hr', hr'', hnm]
    have hr' : ((run isW (c :: r) : Int) == (r.length : Int) + 1) = true := by simp at hr ⊢; omega
    have hall := run_eq_len.1 hr
    have hext := ext_ok (β := B0 w0) 33 [.str (c :: r)] (.str ((c :: r).map Lib.lowerB)) (by
      have : ((c :: r).all (fun b => decide (b.toNat < 128)) && decide ((c :: r).length ≤ 140737488355328)) = true := by
        simp only [Bool.and_eq_true, decide_eq_true_eq, List.all_eq_true]
        refine ⟨fun d hd => ?_, by omega⟩
        have := List.all_eq_true.1 hall d hd
        simp [isW, Lx.isL, isD] at this
        omega
      simp only [ext, this, if_true]; rfl)
    simp [hr']
    refine (hext _).use ?_
    rintro e S1 ⟨rfl, rfl⟩
    by_cases hlow : (c :: r).map Lib.lowerB = c :: r
    rotate_left 1
    · have hl2 : ¬ (c :: r) = (c :: r).map Lib.lowerB := fun e => hlow e.symm
      rw [hnm, decide_eq_false hlow]
      simp only [List.map_cons] at hl2
      simp [hl2]
    · have w13' := fun S => w13 (w0 := w0) (c :: r) S
      rw [hnm, decide_eq_true hlow, decide_eq_true hr, decide_eq_true hlen]
      rw [List.map_cons] at hlow
      simp [hlow]
      refine (w13' _).use ?_
      rintro e S1 ⟨rfl, rfl⟩
      simp [hL]

set_option maxHeartbeats 2000000 in
/-- The document's Name. -/
theorem w16 (x : Bs) (S : Heap) : ACalls Tryd.prog (B0 w0) 16 [.str x] S fun e S' => e = .ret (.bool (nameB x)) ∧ S' = S := by
  have w14' := fun S => w14 (w0 := w0) x S
  refine fn_sound tryOrd (f16_c _) (by simp [f16]) ?_
  by_cases h1 : 1 ≤ x.length
  rotate_left 1
  · have h1' : (x.length : Int) < 1 := by omega
    simp [f16, f16m, h1', nameB, h1]
  have h1' : ¬ (x.length : Int) < 1 := by omega
  by_cases h2 : x.length ≤ 32
  rotate_left 1
  · have h2' : (32 : Int) < (x.length : Int) := by omega
    simp [f16, f16m, h1', h2', nameB, h2]
  have h2' : ¬ (32 : Int) < (x.length : Int) := by omega
  have h0 : 0 < x.length := by omega
  simp [f16, f16m, h1', h2']
  refine (w14' _).use ?_
  rintro e S1 ⟨rfl, rfl⟩
  by_cases hm : x ∈ resv
  · simp [hm, nameB]
  have w34' := fun S => w34 (w0 := w0) x[0] S
  simp [hm, h0]
  refine (w34' _).use ?_
  rintro e S1 ⟨rfl, rfl⟩
  by_cases hL : Lx.isL x[0] = true
  rotate_left 1
  · simp [hL, nameB, h0]
  have hnm : nameB x = x.all fun c => isW c && decide (Lib.lowerB c = c) := by
    simp [nameB, hm, h1, h2, h0, hL]
  rw [hnm]
  simp [hL]
  refine mwp_loop (I := fun q a S' => ∃ i : Nat, q = x.length - i ∧ i ≤ x.length ∧ get a 0 = .str x ∧ get a 3 = .int i ∧ S' = S1 ∧ (x.take i).all (fun c => isW c && decide (Lib.lowerB c = c)) = true) (n := x.length) ?_ ?_
  · exact ⟨0, rfl, Nat.zero_le _, rfl, rfl, rfl, by simp⟩
  rintro q a S2 ⟨i, rfl, hi, a0, a3, rfl, hall⟩
  by_cases hlt : i < x.length
  · have w35' := fun S => w35 (w0 := w0) x[i] S
    have w34' := fun S => w34 (w0 := w0) x[i] S
    have w36' := fun S => w36 (w0 := w0) x[i] S
    have hwi := wrapS i (by omega)
    have hmem : x[i] ∈ x := List.getElem_mem hlt
    simp [f16b0, a0, a3, hlt]
    refine (w35' _).use ?_
    rintro e S1 ⟨rfl, rfl⟩
    by_cases hlow : Lib.lowerB x[i] = x[i]
    rotate_left 1
    · have hlow' : (((Lib.lowerB x[i]).toNat : Int) != (x[i].toNat : Int)) = true := by
        rw [bne_iff_ne]; intro e; exact hlow (UInt8.toNat_inj.1 (by omega))
      have hf : (x.all fun c => isW c && decide (Lib.lowerB c = c)) = false := by
        rw [List.all_eq_false]
        exact ⟨x[i], hmem, by simp [hlow]⟩
      simp [a0, a3, hlt, hlow', hf]
    · have hstep : isW x[i] = true → (x.take (i + 1)).all (fun c => isW c && decide (Lib.lowerB c = c)) = true := fun h => by
        rw [List.take_add_one, List.getElem?_eq_getElem hlt, Option.toList_some, List.all_append, hall]
        simp [h, hlow]
      simp [a0, a3, hlt, hlow]
      refine (w34' _).use ?_
      rintro e S1 ⟨rfl, rfl⟩
      by_cases hL2 : Lx.isL x[i] = true
      · simp [a0, a3, hlt, hL2, hwi]
        have := hstep (by simp [isW, hL2])
        refine ⟨x.length - (i + 1), by omega, i + 1, rfl, by omega, by simp, by simpa using this⟩
      · simp [a0, a3, hlt, hL2]
        refine (w36' _).use ?_
        rintro e S1 ⟨rfl, rfl⟩
        by_cases hD : isD x[i] = true
        · simp [a0, a3, hD, hwi]
          have := hstep (by simp [isW, hD])
          refine ⟨x.length - (i + 1), by omega, i + 1, rfl, by omega, by simp, by simpa using this⟩
        · have hf : (x.all fun c => isW c && decide (Lib.lowerB c = c)) = false := by
            rw [List.all_eq_false]
            exact ⟨x[i], hmem, by simp [isW, hL2, hD]⟩
          simp [a0, a3, hD, hf]
  · obtain rfl : i = x.length := by omega
    rw [List.take_length] at hall
    simp [f16b0, a0, a3, hall]

theorem name_token {x : Bs} (h : nameB x = true) : Lx.tokens x = .ok [⟨1, x, 0, 0⟩] := by
  simp only [nameB, Bool.and_eq_true, decide_eq_true_eq] at h
  obtain ⟨⟨⟨⟨h1, h2⟩, h3⟩, h4⟩, h5⟩ := h
  rw [Lx.tokens, if_neg (by omega)]
  cases x with
  | nil => simp at h1
  | cons c r =>
    have hw : ∀ d ∈ c :: r, isW d = true ∧ Lib.lowerB d = d := fun d hd => by
      have := List.all_eq_true.1 h4 d hd
      simpa using this
    obtain ⟨c', r', e, hb, ho⟩ := ok_one (OkT.word c r (by simpa using h3) (fun d hd => (hw d hd).1) (fun d hd => (hw d hd).2) (by simp at h2; omega))
    have e' : wordOf ⟨1, c :: r, 0, 0⟩ = c :: r := by simp [wordOf]
    rw [e'] at e
    cases e
    rw [toks_tok hb ho]
    simp [toks_nil]

set_option maxHeartbeats 1000000 in
/-- LexWords. -/
theorem w5 (x : Bs) : ACalls Tryd.prog (B0 w0) 5 [.str x] [] fun e _ => e = .ret (.bool true) := by
  have w13' := fun S => w13 (w0 := w0) x S
  have w14' := fun S => w14 (w0 := w0) x S
  have w15' := fun S => w15 (w0 := w0) x S
  have w16' := fun S => w16 (w0 := w0) x S
  have w10' := fun S => w10f (w0 := w0) x S
  refine fn_sound tryOrd (f5_c _) (by simp [f5]) ?_
  simp [f5, f5m]
  refine (speaks9 w0 _).use ?_
  rintro e S1 ⟨rfl, rfl⟩
  simp
  refine (w13' _).use ?_
  rintro e S1 ⟨rfl, rfl⟩
  simp
  refine (w14' _).use ?_
  rintro e S1 ⟨rfl, rfl⟩
  simp
  refine (w15' _).use ?_
  rintro e S1 ⟨rfl, rfl⟩
  simp
  refine (w16' _).use ?_
  rintro e S1 ⟨rfl, rfl⟩
  simp
  refine (w10' _).use ?_
  rintro e S1 ⟨rfl, he⟩
  by_cases hn : nameB x = true
  · rw [name_token hn] at he
    obtain ⟨fl, rfl⟩ := he
    simp
    refine (w15' _).use ?_
    rintro e S1 ⟨rfl, rfl⟩
    simp [hn, toksV, tokC]
  · cases hres : Lx.tokens x with
    | error n =>
      rw [hres] at he
      obtain ⟨hne, rfl⟩ := he
      simp
      refine (w15' _).use ?_
      rintro e S1 ⟨rfl, rfl⟩
      simp [hn]
    | ok ts =>
      rw [hres] at he
      obtain ⟨fl, rfl⟩ := he
      simp
      refine (w15' _).use ?_
      rintro e S1 ⟨rfl, rfl⟩
      simp [hn]
end Go.Abs
