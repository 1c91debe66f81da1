/- Walks of the document's lexer. Conditions: none but the lengths; definitions and lemmas. -/
import Derived.Test.YtcogkenmdbaiiaaGreatDoorMW
set_option linter.unusedSimpArgs false
set_option linter.unusedVariables false
namespace Go.Abs
open Go Go.RowKit Go.Proofs Go.Lx
variable {w0 : World}

end Go.Abs
set_option linter.unusedSimpArgs false
set_option linter.unusedVariables false
namespace Go.Abs
open Go Go.RowKit Go.Proofs Go.Lx
variable {w0 : World}

@[simp] theorem conv_byte1 {S : Heap} {fl : Fl} (c : UInt8) : convR .bytesStr (.list fl [[.atom (.int .u8 (c.toNat : Int))]]) S = .ok true (.str [c]) S :=
  conv_bytesStr (l := [c]) rfl

theorem digit_wrap {k : Nat} (h : k ≤ 9) : IntKind.u8.wrap (48 + (k : Int)) = ((UInt8.ofNat (48 + k)).toNat : Int) := by
  rw [digit_nat h]
  simp [IntKind.wrap, IntKind.bits, IntKind.signed, IntKind.max]; omega

/-- Digits. -/
theorem w28 (n : Nat) (hn : n ≤ 9223372036854775807) (S : Heap) : ACalls Tryz.prog (B0 w0) 28 [.int n] S fun e S' => e = .ret (.str (digs n)) ∧ S' = S := by
  refine fn_sound tryOrd (f28_c _) (by simp [f28]) ?_
  simp [f28, f28m]
  refine mwp_loop (I := fun q a S' => ∃ (s : Bs), get a 0 = .int q ∧ get a 3 = .str s ∧ S' = S ∧ digs n = digs q ++ s ∧ s.length + q ≤ n) (n := n) ?_ ?_
  · exact ⟨[], rfl, rfl, rfl, by simp, by simp⟩
  rintro q a S' ⟨s, a0, a3, rfl, hs, hlen⟩
  have hk : IntKind.u8.wrap (IntKind.i64.wrap (48 + (q : Int).tmod 10)) = ((UInt8.ofNat (48 + q % 10)).toNat : Int) := by
    rw [Int.tmod_eq_emod_of_nonneg (by omega), wrap64_in (by omega) (by omega)]
    have := digit_wrap (k := q % 10) (by omega)
    simpa using this
  have hk0 : q ≤ 9 → IntKind.u8.wrap (IntKind.i64.wrap (48 + (q : Int))) = ((UInt8.ofNat (48 + q)).toNat : Int) := fun h => by
    rw [wrap64_in (by omega) (by omega)]
    exact digit_wrap h
  have hq : IntKind.i64.wrap ((q : Int).tdiv 10) = (q : Int) / 10 := by
    rw [Int.tdiv_eq_ediv_of_nonneg (by omega), wrap64_in (by omega) (by omega)]
  by_cases h9 : q ≤ 9
  · have h9' : ¬ (9 : Int) < (q : Int) := by omega
    have hk0 := hk0 h9
    rw [digs_one h9] at hs
    generalize UInt8.ofNat (48 + q) = c at *
    have hl' : 1 + s.length ≤ 9223372036854775807 := by
      have := congrArg List.length hs
      have h1 : (digs n).length ≤ 19 := digs_le 18 n (by simp; omega)
      simp at this; omega
    simp [f28b0, a0, a3, h9', hk0, hl', hs]
  · have h9' : (9 : Int) < (q : Int) := by omega
    rw [digs_more h9] at hs
    generalize UInt8.ofNat (48 + q % 10) = c at *
    have hl' : 1 + s.length ≤ 9223372036854775807 := by omega
    simp [f28b0, a0, a3, h9', hk, hq, hl']
    refine ⟨q / 10, by omega, ?_, by simpa using hs, by omega⟩
    rw [wrap64_in (by omega) (by omega)]; simp

theorem dbl_app : ∀ (l : Bs) (c : UInt8), dbl (l ++ [c]) = dbl l ++ (if c.toNat = 39 then [c, 39] else [c])
  | [], c => by simp [dbl]
  | d :: l, c => by
    have ih := dbl_app l c
    rw [List.cons_append, dbl, dbl, ih]
    split <;> simp
theorem dbl_len : ∀ b : Bs, (dbl b).length ≤ 2 * b.length
  | [] => by simp [dbl]
  | c :: r => by have := dbl_len r; rw [dbl]; split <;> simp <;> omega
theorem Own.takeN {N : Nat} {S g S' : Heap} {L : List (AVal × Nat × List (List AVal))} (h : Own N (S ++ g) S' L) (hN : S.length ≤ N) : S'.take S.length = S := by
  refine List.ext_getElem? fun j => ?_
  have := h.le
  rcases Nat.lt_or_ge j S.length with hj | hj
  · rw [List.getElem?_take_of_lt hj, h.low j (by omega), List.getElem?_append_left hj]
  · rw [List.getElem?_eq_none (by simp; omega), List.getElem?_eq_none hj]

set_option maxHeartbeats 1000000 in
/-- Word. -/
theorem w13 {t : Tok} (ht : OkT t) (S : Heap) : ACalls Tryz.prog (B0 w0) 13 [.agg (tokC t)] S fun e S' => e = .ret (.str (wordOf t)) ∧ S' = S := by
  refine ACalls.close (R := fun e S' => e = .ret (.str (wordOf t)) ∧ S'.take S.length = S) ?_ ?_
  rotate_left 1
  · rintro e S' ⟨rfl, ht⟩
    exact .flat ht rfl ⟨rfl, rfl⟩
  refine fn_sound tryOrd (f13_c _) (by simp [f13]) ?_
  cases ht with
  | word c r h hw hl hn => simp [f13, f13m, tokC, wordOf]
  | sign1 c h => simp [f13, f13m, tokC, wordOf]
  | sign2 c d h => simp [f13, f13m, tokC, wordOf]
  | int n h =>
    simp [f13, f13m, tokC]
    refine (w28 n h _).use ?_
    rintro e S1 ⟨rfl, rfl⟩
    simp [wordOf]
  | real n k hk hk' h =>
    have hdl := digs_le 14 n (by simp; omega)
    have hw : wordOf ⟨3, [], n, k⟩ = (padz (digs n) k).take ((padz (digs n) k).length - k) ++ 46 :: (padz (digs n) k).drop ((padz (digs n) k).length - k) := by simp [wordOf]
    rw [hw]
    clear hw
    have w28' := fun S => w28 (w0 := w0) n (by omega) S
    simp [f13, f13m, tokC]
    refine (w28' _).use ?_
    rintro e S1 ⟨rfl, rfl⟩
    simp
    generalize digs n = ds at *
    refine mwp_loop (I := fun q a S' => ∃ j : Nat, q = k + 1 - (j + ds.length) ∧ get a 3 = .str (List.replicate j 48 ++ ds) ∧ get a 1 = .ptr S.length 0 0 ∧ S' = S ++ [.cells 4 [[.int 3, .str [], .int n, .int k]] (some 1)] ∧ (j = 0 ∨ j + ds.length ≤ k + 1)) (n := k + 1 - ds.length) ?_ ?_
    · exact ⟨0, by omega, rfl, rfl, rfl, .inl rfl⟩
    rintro q a S' ⟨j, rfl, a3, a1, rfl, hj⟩
    by_cases hlt : j + ds.length ≤ k
    · have hlt' : (j : Int) + (ds.length : Int) ≤ (k : Int) := by omega
      have hl2 : 1 + (j + ds.length) ≤ 9223372036854775807 := by omega
      simp [f13b0, a3, a1, hlt, hlt', hl2]
      exact ⟨k + 1 - (j + 1 + ds.length), by omega, j + 1, rfl, by simp [List.replicate_succ], by omega⟩
    · have hlt' : ¬ (j : Int) + (ds.length : Int) ≤ (k : Int) := by omega
      have ej : j = k + 1 - ds.length := by omega
      have hpad : List.replicate j 48 ++ ds = padz ds k := by rw [padz, ej]
      have hL : (padz ds k).length = j + ds.length := by rw [← hpad]; simp
      have hw1 : IntKind.i64.wrap ((j : Int) + (ds.length : Int) - (k : Int)) = ((j + ds.length - k : Nat) : Int) := by rw [wrap64_in (by omega) (by omega)]; omega
      rw [hpad] at a3
      generalize padz ds k = p at *
      generalize hM : p.length - k = M at *
      have hw2 : IntKind.i64.wrap ((p.length : Int) - (k : Int)) = (M : Int) := by rw [wrap64_in (by omega) (by omega)]; omega
      have hgt : ¬ (p.length : Int) ≤ (k : Int) := by omega
      have hM0 : (0 : Int) ≤ (M : Int) := by omega
      have hMl : M ≤ p.length := by omega
      have hb1 : M + 1 ≤ 9223372036854775807 := by omega
      have hb2 : M + 1 + (p.length - M) ≤ 9223372036854775807 := by omega
      simp [f13b0, a3, a1, hgt, hw2, sslcR, bound, hM0, hMl, hb1, hb2]
  | text b h =>
    have hdl := dbl_len b
    simp [f13, f13m, tokC]
    refine mwp_loop (I := fun q a S' => ∃ (i : Nat) (u : AVal), q = b.length - i ∧ i ≤ b.length ∧ get a 1 = .ptr S.length 0 0 ∧ get a 4 = u ∧ get a 5 = .int i ∧
      Own (S.length + 1) (S ++ [.cells 4 [[.int 4, .str b, .int 0, .int 0]] (some 1)]) S' [(u, 1, (39 :: dbl (b.take i)).map u8)]) (n := b.length) ?_ ?_
    · refine ⟨0, _, rfl, Nat.zero_le _, rfl, rfl, rfl, ?_⟩
      have h0 := (Own.start (S ++ [.cells 4 [[.int 4, .str b, .int 0, .int 0]] (some 1)])).add 1 [u8 39] (some 1)
      simp [dbl] at h0 ⊢
      exact h0
    rintro q a S1 ⟨i, u, rfl, hi, a1, a4, a5, ho⟩
    have hbox : S1[S.length]? = some (.cells 4 [[.int 4, .str b, .int 0, .int 0]] (some 1)) := by rw [ho.low S.length (by omega)]; simp
    have hdi := dbl_len (b.take i)
    have hil : (b.take i).length ≤ 200 := by rw [List.length_take]; omega
    by_cases hlt : i < b.length
    · have hda := dbl_app (b.take i) b[i]
      have e1 : b.take i ++ [b[i]] = b.take (i + 1) := by rw [List.take_add_one, List.getElem?_eq_getElem hlt]; rfl
      rw [e1] at hda
      obtain ⟨S2, happ, ho2, hlt2⟩ := ho.app 0 rfl (y := .list .full [[.atom (.int .u8 b[i].toNat)]]) (ys := [u8 b[i]]) (bytes := 1) rfl (by simp [u8]) (by decide) (by simp; omega) (by simp; omega)
      have hbox2 : S2[S.length]? = some (.cells 4 [[.int 4, .str b, .int 0, .int 0]] (some 1)) := by rw [ho2.low S.length (by omega)]; simp
      by_cases h39 : b[i].toNat = 39
      · rw [if_pos h39] at hda
        obtain ⟨S3, happ3, ho3, hlt3⟩ := ho2.app 0 rfl (y := .list .full [[.atom (.int .u8 39)]]) (ys := [u8 39]) (bytes := 1) rfl (by simp [u8]) (by decide) (by simp; omega) (by simp; omega)
        simp [-appendR, h39] at happ happ3
        simp [-appendR, f13b1, hbox, hbox2, a1, a4, a5, hlt, happ, happ3, h39, wrapS i (by omega)]
        refine ⟨b.length - (i + 1), by omega, i + 1, rfl, by omega, by simp, ?_⟩
        rw [hda]
        have e2 : u8 b[i] = u8 39 := by simp [u8, h39]
        simp only [List.length_map, List.length_cons, List.set_cons_zero] at ho3
        simpa [e2] using ho3
      · rw [if_neg h39] at hda
        simp [-appendR] at happ
        have h39' : ((b[i].toNat : Int) == 39) = false := beq_eq_false_iff_ne.2 (by omega)
        simp [-appendR, f13b1, hbox, hbox2, a1, a4, a5, hlt, happ, h39, h39', wrapS i (by omega)]
        refine ⟨b.length - (i + 1), by omega, i + 1, rfl, by omega, by simp, ?_⟩
        rw [hda]
        simpa using ho2
    · obtain rfl : i = b.length := by omega
      rw [List.take_length] at ho
      obtain ⟨S2, happ, ho2, hlt2⟩ := ho.app 0 rfl (y := .list .full [[.atom (.int .u8 39)]]) (ys := [u8 39]) (bytes := 1) rfl (by simp [u8]) (by decide) (by simp; omega) (by simp; omega)
      have hel := (ho2.rk 0 rfl).elems
      have hb := conv_bytesStr (S := S2) (l := 39 :: (dbl b ++ [39])) (side := true) (v := .row S1.length 0 ((dbl b).length + 1 + 1)) (by simpa using hel)
      simp [-appendR] at happ
      simp [-appendR, f13b1, hbox, a1, a4, a5, happ, hb, wordOf]
      exact ho2.takeN (by omega)
end Go.Abs
set_option linter.unusedSimpArgs false
set_option linter.unusedVariables false
namespace Go.Abs
open Go Go.RowKit Go.Proofs Go.Lx
variable {w0 : World}

/-- The document's answer for a token at a place. -/
def RefR (i : Nat) : Res → AEnd → Prop
  | .ok (t, n), e => e = .ret (.tuple [.agg (tokC t), .int (i + n : Nat), .int 0])
  | .error x, e => ∃ k : Nat, e = .ret (.tuple [.agg (tokC zTok), .int k, .int x])

theorem RefR.flat {i : Nat} {r : Res} {e : AEnd} (h : RefR i r e) (n : Nat) : e.sc n = true := by
  cases r with
  | error x => obtain ⟨k, rfl⟩ := h; simp [AEnd.sc, tokC]
  | ok y => obtain ⟨t, m⟩ := y; cases h; simp [AEnd.sc, tokC]

end Go.Abs
set_option linter.unusedSimpArgs false
set_option linter.unusedVariables false
namespace Go.Abs
open Go Go.RowKit Go.Proofs Go.Lx
variable {w0 : World}

def txtR : Option (Bs × Nat) → Res
  | none => .error 121
  | some (b, n) => if 200 < b.length then .error 1 else .ok (⟨4, b, 0, 0⟩, n)

end Go.Abs
set_option linter.unusedSimpArgs false
set_option linter.unusedVariables false
namespace Go.Abs
open Go Go.RowKit Go.Proofs Go.Lx
variable {w0 : World}

theorem RefR.text {i : Nat} {c : UInt8} {r : Bs} {e : AEnd} (h : RefR (i + 1) (txtR (txt r)) e) : RefR i (Lx.text (c :: r)) e := by
  have : Lx.text (c :: r) = match txt r with
    | none => .error 121
    | some (b, n) => if 200 < b.length then .error 1 else .ok (⟨4, b, 0, 0⟩, n + 1) := rfl
  rw [this]
  cases hx : txt r with
  | none => rw [hx] at h; exact h
  | some x =>
    obtain ⟨b, n⟩ := x
    rw [hx] at h
    simp only [txtR] at h ⊢
    split
    · rename_i h2; rw [if_pos h2] at h; exact h
    · rename_i h2
      rw [if_neg h2] at h
      simp only [RefR] at h ⊢
      rw [h, show i + 1 + n = i + (n + 1) by omega]

end Go.Abs
set_option linter.unusedSimpArgs false
set_option linter.unusedVariables false
namespace Go.Abs
open Go Go.RowKit Go.Proofs Go.Lx
variable {w0 : World}

/-- What the document's Tokens answers. -/
inductive RTokR (S : Heap) : Except Int (List Tok) → AEnd → Heap → Prop
  | ok (ts : List Tok) (u : AVal) (S' : Heap) (ho : Own S.length S S' [(u, 4, toksV ts)]) : RTokR S (.ok ts) (.ret (.tuple [u, .int 0])) S'
  | err (e : Int) (he : e ≠ 0) (S' : Heap) (hl : S.length ≤ S'.length) (ht : ∀ j, j < S.length → S'[j]? = S[j]?) : RTokR S (.error e) (.ret (.tuple [.list .full [], .int e])) S'

end Go.Abs
