/- Walks of the lexer: numbers, texts, signs. Conditions: none but the lengths; definitions and lemmas. -/
import Derived.Test.YtjoehmgnapdhaaaDoorL2
set_option linter.unusedSimpArgs false
set_option linter.unusedVariables false
namespace Go.Abs
open Go Go.RowKit Go.Proofs Go.Lx
variable {w0 : World}

theorem realD (l : Bs) : ∀ x ∈ l.take (run isD l) ++ (l.drop (run isD l + 1)).take (Lx.part (l.drop (run isD l))), isD x = true := by
  intro x hx
  simp only [List.mem_append] at hx
  rcases hx with hx | hx
  · exact mem_take_run x hx
  · generalize run isD l = q at *
    have e : l.drop (q + 1) = (l.drop q).drop 1 := by rw [List.drop_drop]
    rw [e] at hx
    generalize l.drop q = l at *
    cases l with
    | nil => simp at hx
    | cons a l =>
      rw [part_cons] at hx
      split at hx
      · exact mem_take_run x hx
      · simp at hx

theorem u8_eq {c d : UInt8} : c = d ↔ c.toNat = d.toNat := ⟨fun h => by rw [h], fun h => UInt8.toNat_inj.1 h⟩

set_option maxHeartbeats 1000000 in
theorem w28 (l : Bs) (hl : l.length ≤ 4194304) (S : Heap) : ACalls Tryd.prog (B0 w0) 28 [.str l] S fun e S' => e = .ret (lexV (Lx.number l)) ∧ S' = S := by
  refine ACalls.close (R := fun e S' => e = .ret (lexV (Lx.number l)) ∧ S'.take S.length = S) ?_ ?_
  rotate_left 1
  · rintro e S' ⟨rfl, ht⟩
    refine .flat ht ?_ ⟨rfl, rfl⟩
    unfold lexV; split <;> simp [AEnd.sc, tokC]
  have hle := run_le isD l
  have hpl := part_le (l.drop (run isD l))
  rw [List.length_drop] at hpl
  have hT : ∀ c ∈ l.take (run isD l), isD c = true := fun c hc => mem_take_run c hc
  have hR := realD l
  have hspec : Lx.number l = Lx.number l := rfl
  conv at hspec => rhs; unfold Lx.number
  have hpart : ∀ r : Bs, Lx.part r = if r.head? = some 46 then run isD (r.drop 1) else 0 := by
    intro r
    cases r with
    | nil => rfl
    | cons c r =>
      rw [part_cons]
      have : (c.toNat = 46) ↔ c = 46 := (u8_eq (c := c) (d := 46)).symm
      simp [this]
  have hpart := hpart (l.drop (run isD l))
  refine fn_sound tryOrd (f28_c _) (by simp [f28]) ?_
  simp [f28, f28m]
  refine (w31 (q := 27) (p := isD) w27 l hl _).use ?_
  rintro e S1 ⟨rfl, rfl⟩
  have hn : (0 : Int) ≤ (run isD l : Int) := by omega
  simp [sslcR, bound, hn, hle]
  have hr1 : l.drop (run isD l + 1) = (l.drop (run isD l)).drop 1 := by rw [List.drop_drop]
  have hrl : (l.drop (run isD l)).length = l.length - run isD l := List.length_drop
  generalize hw : run isD l = w at *
  generalize hr : l.drop w = r at *
  refine (w59 r 46 _).use ?_
  rintro e S1 ⟨rfl, rfl⟩
  generalize hpt : Lx.part r = pt at *
  generalize Lx.number l = out at *
  by_cases hp0 : pt = 0
  · subst hp0
    rw [if_pos rfl] at hspec
    by_cases hp : r.head? = some 46
    all_goals
      first
      | rw [if_pos hp] at hpart
        obtain ⟨r', rfl⟩ : ∃ r', r = 46 :: r' := by
          cases r with
          | nil => cases hp
          | cons c r' => simp at hp; exact ⟨r', by rw [hp]⟩
        simp at hpart hrl
        simp [sslcR, bound]
        refine (w31 (q := 27) (p := isD) w27 r' (by omega) _).use ?_
        rintro e S1 ⟨rfl, rfl⟩
        simp [hn, hle, ← hpart, sslcR, bound]
      | have hg : (r.head? == some 46) = false := beq_eq_false_iff_ne.2 hp
        simp [hg, hn, hle, sslcR, bound]
    all_goals
      refine (w60 (l.take w) (by rw [List.length_take]; omega) hT _).use ?_
      rintro e S1 ⟨rfl, rfl⟩
      by_cases hv : val (l.take w) ≤ 9223372036854775807
      · by_cases h19 : 19 < w
        · have h19' : (19 : Int) < (w : Int) := by omega
          rw [if_pos (.inl h19)] at hspec
          simp [hv, h19, h19', hspec, lexV, tokC, zTok]
        · have h19' : ¬ (19 : Int) < (w : Int) := by omega
          rw [if_neg (by omega)] at hspec
          simp [hv, h19, h19', hspec, lexV, tokC, zTok]
      · rw [if_pos (.inr (by omega))] at hspec
        by_cases h19 : 19 < w
        · have h19' : (19 : Int) < (w : Int) := by omega
          simp [hv, h19, h19', hspec, lexV, tokC, zTok]
        · have h19' : ¬ (19 : Int) < (w : Int) := by omega
          simp [hv, h19, h19', hspec, lexV, tokC, zTok]
  · rw [if_neg hp0] at hspec
    by_cases hp : r.head? = some 46
    rotate_left 1
    · rw [if_neg hp] at hpart; exact absurd hpart hp0
    rw [if_pos hp] at hpart
    obtain ⟨r', rfl⟩ : ∃ r', r = 46 :: r' := by
      cases r with
      | nil => cases hp
      | cons c r' => simp at hp; exact ⟨r', by rw [hp]⟩
    simp at hpart hrl
    simp [sslcR, bound]
    refine (w31 (q := 27) (p := isD) w27 r' (by omega) _).use ?_
    rintro e S1 ⟨rfl, rfl⟩
    rw [← hpart]
    have hp0' : ¬ (pt : Int) = 0 := by omega
    have hg : ((pt : Int) == 0) = false := beq_eq_false_iff_ne.2 hp0'
    have hw1 : IntKind.i64.wrap ((w : Int) + (pt : Int)) = ((w + pt : Nat) : Int) := by rw [wrap64_in (by omega) (by omega)]; simp
    have hw2 : IntKind.i64.wrap ((w : Int) + 1) = ((w + 1 : Nat) : Int) := by rw [wrap64_in (by omega) (by omega)]; simp
    have hw3 : IntKind.i64.wrap (((w + 1 : Nat) : Int) + (pt : Int)) = ((w + 1 + pt : Nat) : Int) := by rw [wrap64_in (by omega) (by omega)]; simp
    generalize hA : w + pt = A at *
    generalize hB : w + 1 = B at *
    generalize hC : B + pt = C at *
    by_cases h15 : 15 < A
    · rw [if_pos h15] at hspec
      have h15' : (15 : Int) < (A : Int) := by omega
      simp [hn, hle, hg, hw1, h15, h15', hspec, lexV, tokC, zTok]
    · rw [if_neg h15] at hspec
      have h15' : ¬ (15 : Int) < (A : Int) := by omega
      have hB0 : (0 : Int) ≤ (B : Int) := by omega
      have hC0 : (0 : Int) ≤ (C : Int) := by omega
      have hBC : B ≤ C := by omega
      have hCl : C ≤ l.length := by omega
      have e1 : C - B = pt := by omega
      have e2 : (l.take C).drop B = (l.drop B).take pt := by rw [List.drop_take, e1]
      have hlen : (l.take w).length + ((l.drop B).take pt).length ≤ 9223372036854775807 := by simp; omega
      have hlen2 : (l.take w ++ (l.drop B).take pt).length ≤ 15 := by simp; omega
      have hv := val_lt _ hR
      have hv2 : val (l.take w ++ (l.drop B).take pt) < 10 ^ 15 := Nat.lt_of_lt_of_le hv (Nat.pow_le_pow_right (by omega) hlen2)
      have hv3 : val (l.take w ++ (l.drop B).take pt) ≤ 9223372036854775807 := by
        have : (10 : Nat) ^ 15 ≤ 9223372036854775807 := by decide
        omega
      have w60' := fun S => w60 (w0 := w0) (l.take w ++ (l.drop B).take pt) (by omega) hR S
      clear hr1 hr hrl
      simp [hn, hle, hg, hw1, hw2, hw3, h15, h15', sslcR, bound, hB0, hC0, hBC, hCl]
      refine ⟨by omega, ?_⟩
      rw [e2]
      generalize l.take w ++ (l.drop B).take pt = ds at *
      refine (w60' _).use ?_
      rintro e S1 ⟨rfl, rfl⟩
      simp [hv3, hw1, hw2, hw3, hspec, lexV, tokC]

/-! ### Texts -/
theorem txt_pre (b : Bs) : ∀ (a : Bs), (∀ c ∈ a, ¬ c.toNat = 39) → txt (a ++ b) = (txt b).map fun x => (a ++ x.1, x.2 + a.length)
  | [], _ => by cases h : txt b <;> simp [h]
  | c :: r, h => by
    rw [List.cons_append, txt_other (h c (by simp)), txt_pre b r fun x hx => h x (by simp [hx])]
    cases txt b <;> simp [Nat.add_assoc]
theorem indexByte_spec : ∀ (r : Bs), (Lib.indexByte r 39 = -1 ∧ ∀ c ∈ r, ¬ c.toNat = 39) ∨ ∃ a b, r = a ++ 39 :: b ∧ (∀ c ∈ a, ¬ c.toNat = 39) ∧ Lib.indexByte r 39 = a.length
  | [] => .inl ⟨rfl, by simp⟩
  | c :: r => by
    by_cases hc : c = 39
    · subst hc
      exact .inr ⟨[], r, rfl, by simp, by simp [Lib.indexByte]⟩
    · have hc' : ¬ c.toNat = 39 := fun h => hc (UInt8.toNat_inj.1 h)
      have hb : (c == 39) = false := beq_eq_false_iff_ne.2 hc
      rcases indexByte_spec r with ⟨h1, h2⟩ | ⟨a, b, rfl, h2, h3⟩
      · refine .inl ⟨by simp [Lib.indexByte, hb, h1], ?_⟩
        intro x hx
        simp only [List.mem_cons] at hx
        rcases hx with rfl | hx
        · exact hc'
        · exact h2 x hx
      · refine .inr ⟨c :: a, b, rfl, ?_, ?_⟩
        · intro x hx
          simp only [List.mem_cons] at hx
          rcases hx with rfl | hx
          · exact hc'
          · exact h2 x hx
        · have hne : ¬ ((a.length : Int) = -1) := by omega
          simp [Lib.indexByte, hb, h3, hne]
theorem w58 (l : Bs) (c : UInt8) (S : Heap) : ACalls Tryd.prog (B0 w0) 58 [.str l, bv c] S fun e S' => e = .ret (.int (Lib.indexByte l c)) ∧ S' = S :=
  ext_ok 58 [.str l, bv c] _ (by simp [ext]) S

def txtV (x : Option (Bs × Nat)) : Res :=
  match x with
  | none => .error 121
  | some (b, n) => if 200 < b.length then .error 1 else .ok (⟨4, b, 0, 0⟩, n + 1)

set_option maxHeartbeats 1000000 in
theorem w29 (c : UInt8) (l : Bs) (hl : l.length ≤ 4194304) (S : Heap) : ACalls Tryd.prog (B0 w0) 29 [.str (c :: l)] S fun e S' => e = .ret (lexV (Lx.text (c :: l))) ∧ S' = S := by
  refine ACalls.close (R := fun e S' => e = .ret (lexV (Lx.text (c :: l))) ∧ S'.take S.length = S) ?_ ?_
  rotate_left 1
  · rintro e S' ⟨rfl, ht⟩
    refine .flat ht ?_ ⟨rfl, rfl⟩
    unfold lexV; split <;> simp [AEnd.sc, tokC]
  have hspec : Lx.text (c :: l) = txtV (txt l) := rfl
  rw [hspec]
  refine fn_sound tryOrd (f29_c _) (by simp [f29]) ?_
  simp [f29, f29m]
  refine mwp_loop (I := fun n a S' => ∃ (o b : Bs) (k : Nat), n = b.length ∧ get a 0 = .str (c :: l) ∧ get a 2 = .ptr S.length 0 0 ∧ get a 5 = .str o ∧ get a 6 = .int k ∧ 1 ≤ k ∧ (c :: l).drop k = b ∧ b.length + k = l.length + 1 ∧ o.length ≤ k ∧
    txt l = (txt b).map (fun x => (o ++ x.1, x.2 + (k - 1))) ∧ S' = S ++ [.cells 4 [[.int 0, .str [], .int 0, .int 0]] (some 1)]) (n := l.length) ?_ ?_
  · refine ⟨[], l, 1, rfl, rfl, rfl, rfl, rfl, by omega, rfl, by omega, by simp, ?_, rfl⟩
    cases txt l <;> simp
  rintro n a S' ⟨o, b, k, rfl, a0, a2, a5, a6, hk, hdrop, hlen, ho, ht, rfl⟩
  have hk0 : (0 : Int) ≤ (k : Int) := by omega
  have hkl : k ≤ l.length + 1 := by omega
  have w58' := fun S => w58 (w0 := w0) b 39 S
  simp [f29b0, a0, a2, a5, a6, sslcR, bound, hk0, hkl, hdrop]
  refine (w58' _).use ?_
  rintro e S1 ⟨rfl, rfl⟩
  rcases indexByte_spec b with ⟨h1, h2⟩ | ⟨p, q, rfl, h2, h3⟩
  · have hnone : txt b = none := by
      have := txt_pre [] b h2
      rw [List.append_nil, txt_nil] at this; exact this
    rw [hnone] at ht
    simp [h1, ht, a2, txtV, lexV, tokC, zTok]
  · rw [txt_pre _ _ h2] at ht
    simp only [List.length_append, List.length_cons] at hlen
    have hm0 : ¬ (p.length : Int) < 0 := by omega
    have hw1 : IntKind.i64.wrap ((k : Int) + (p.length : Int)) = ((k + p.length : Nat) : Int) := by rw [wrap64_in (by omega) (by omega)]; simp
    have hw2 : IntKind.i64.wrap ((p.length : Int) + 1) = ((p.length + 1 : Nat) : Int) := by rw [wrap64_in (by omega) (by omega)]; simp
    have hw3 : IntKind.i64.wrap ((k : Int) + ((p.length + 1 : Nat) : Int)) = ((k + (p.length + 1) : Nat) : Int) := by rw [wrap64_in (by omega) (by omega)]; simp
    have e1 : ((c :: l).take (k + p.length)).drop k = p := by
      rw [List.drop_take, Nat.add_sub_cancel_left, hdrop, List.take_left]
    have e2 : (c :: l).drop (k + (p.length + 1)) = q := by
      rw [← List.drop_drop, hdrop]
      simp
    have hA : k ≤ k + p.length := by omega
    have hB : k + p.length ≤ l.length + 1 := by omega
    have hC : k + (p.length + 1) ≤ l.length + 1 := by omega
    have hD0 : (0 : Int) ≤ ((k + p.length : Nat) : Int) := by omega
    have hE0 : (0 : Int) ≤ ((k + (p.length + 1) : Nat) : Int) := by omega
    have hol : (o ++ p).length ≤ k + p.length := by simp; omega
    have hob : o.length + p.length ≤ 9223372036854775807 := by omega
    have w59' := fun S => w59 (w0 := w0) q 39 S
    generalize hm : p.length = m at *
    generalize hD : k + m = D at *
    generalize hF : m + 1 = F at *
    generalize hG : k + F = G at *
    have hop : (o ++ p).length = o.length + m := by simp [hm]
    simp [h3, hm0, hw1, hw2, hw3, a0, a2, a5, a6, sslcR, bound, hA, hB, hC, hD0, hE0, hk0, e1, e2, hob, hm]
    refine (w59' _).use ?_
    rintro e S1 ⟨rfl, rfl⟩
    generalize hopp : o ++ p = op at *
    by_cases hq : q.head? = some 39
    · obtain ⟨q', rfl⟩ : ∃ q', q = 39 :: q' := by
        cases q with
        | nil => cases hq
        | cons d q' => simp at hq; exact ⟨q', by rw [hq]⟩
      rw [txt_two rfl rfl] at ht
      simp only [List.length_cons] at hlen
      have hw4 : IntKind.i64.wrap ((G : Int) + 1) = ((G + 1 : Nat) : Int) := by rw [wrap64_in (by omega) (by omega)]; simp
      have hop1 : op.length + 1 ≤ 9223372036854775807 := by omega
      simp [a0, a2, a5, a6, hw4, hop1]
      refine ⟨q'.length, by omega, op ++ [39], q', rfl, rfl, G + 1, by simp, by omega, ?_, by omega, by simp; omega, ?_⟩
      · rw [← List.drop_drop, e2]; rfl
      · rw [ht]
        cases txt q' with
        | none => rfl
        | some x =>
          simp only [Option.map_some, Option.some.injEq, Prod.mk.injEq]
          exact ⟨by rw [← hopp]; simp, by omega⟩
    · have hg : (q.head? == some 39) = false := beq_eq_false_iff_ne.2 hq
      rw [txt_end rfl (fun d r' e => by
        intro h
        rw [e] at hq
        simp at hq
        exact hq (UInt8.toNat_inj.1 h))] at ht
      have hfin : txt l = some (op, G - 1) := by
        rw [ht]
        simp only [Option.map_some, Option.some.injEq, Prod.mk.injEq]
        exact ⟨by rw [← hopp]; simp, by omega⟩
      rw [hfin]
      by_cases h2 : 200 < op.length
      · have h2' : (200 : Int) < (op.length : Int) := by omega
        simp [hg, a0, a2, a5, a6, h2, h2', txtV, lexV, tokC, zTok]
      · have h2' : ¬ (200 : Int) < (op.length : Int) := by omega
        have e3 : G - 1 + 1 = G := by omega
        simp [hg, a0, a2, a5, a6, h2, h2', txtV, lexV, tokC, zTok]
        omega
end Go.Abs
