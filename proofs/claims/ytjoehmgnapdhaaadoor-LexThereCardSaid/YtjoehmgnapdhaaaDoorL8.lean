/- The walk of LexThere. Conditions: none; definitions and lemmas. -/
import Derived.Test.YtjoehmgnapdhaaaDoorL7
set_option linter.unusedSimpArgs false
set_option linter.unusedVariables false
namespace Go.Abs
open Go Go.RowKit Go.Proofs Go.Lx
variable {w0 : World}

theorem byte_of {z : Int} (h : (Lit.int .u8 z).wf = true) : ∃ c : UInt8, z = (c.toNat : Int) := by
  have : 0 ≤ z ∧ z < 256 := by
    simp [Lit.wf, IntKind.min, IntKind.max, IntKind.bits, IntKind.signed] at h
    omega
  refine ⟨UInt8.ofNat z.toNat, ?_⟩
  simp; omega
theorem and3 (c : UInt8) : IntKind.u8.wrap (((BitVec.ofInt IntKind.u8.bits (c.toNat : Int) &&& BitVec.ofInt IntKind.u8.bits 3).toNat : Nat) : Int) = ((c.toNat % 4 : Nat) : Int) := by
  have : ∀ n : Fin 256, IntKind.u8.wrap (((BitVec.ofInt IntKind.u8.bits (n.val : Int) &&& BitVec.ofInt IntKind.u8.bits 3).toNat : Nat) : Int) = ((n.val % 4 : Nat) : Int) := by decide +kernel
  exact this ⟨c.toNat, c.toNat_lt⟩
def blankOf (n : Nat) : UInt8 := [32, 9, 10, 13].getD n 0
theorem blankOf_B (n : Nat) (h : n < 4) : isB (blankOf n) = true := by
  have : n = 0 ∨ n = 1 ∨ n = 2 ∨ n = 3 := by omega
  rcases this with rfl | rfl | rfl | rfl <;> rfl
theorem spread_app (z : UInt8) (a b : List Tok) : spread z (a ++ b) = spread z a ++ spread z b := by simp [spread]
theorem spread_one (z : UInt8) (t : Tok) : spread z [t] = z :: wordOf t := by simp [spread]
theorem spread_len (z : UInt8) : ∀ (s : List Tok), (∀ t ∈ s, OkT t) → (spread z s).length ≤ s.length * 1001
  | [], _ => by simp [spread]
  | t :: s, h => by
    have h1 := wordOf_len (h t (by simp))
    have h2 := spread_len z s (fun x hx => h x (by simp [hx]))
    have : spread z (t :: s) = z :: wordOf t ++ spread z s := by simp [spread]
    rw [this]
    simp; omega
theorem bin_and8 {S : Heap} {t : EqT} (c : UInt8) : binR .and t (.atom (.int .u8 (c.toNat : Int))) (.atom (.int .u8 3)) S = .ok true (.atom (.int .u8 ((c.toNat % 4 : Nat) : Int))) S := by
  simp only [binR, and3]; rfl

set_option maxHeartbeats 1000000 in
theorem w6 (l : Bs) (z0 : Int) (hz : (Lit.int .u8 z0).wf = true) : ACalls Tryd.prog (B0 w0) 6 [.str l, .atom (.int .u8 z0)] [] fun e _ => e = .ret (.bool true) := by
  obtain ⟨c, rfl⟩ := byte_of hz
  have hc4 : c.toNat % 4 < 4 := by omega
  have hblank := blankOf_B (c.toNat % 4) hc4
  have hand := fun S => bin_and8 (S := S) (t := .int) c
  generalize hm : c.toNat % 4 = m at *
  generalize hzz : blankOf m = z at *
  have hget : ([32, 9, 10, 13] : List UInt8)[m]?.getD 0 = z := by rw [← hzz, blankOf, List.getD_eq_getElem?_getD]
  have hget2 : ∀ h, ([32, 9, 10, 13] : List UInt8)[m]'h = z := fun h => by
    rw [List.getElem?_eq_getElem h, Option.getD_some] at hget; exact hget
  refine fn_sound tryOrd (f6_c _) (by simp [f6]) ?_
  simp [f6, f6m]
  refine (speaks9 w0 _).use ?_
  rintro e S1 ⟨rfl, rfl⟩
  simp
  refine (w10f l _).use ?_
  rintro e S1 ⟨rfl, he⟩
  cases hl : Lx.tokens l with
  | error n =>
    rw [hl] at he
    obtain ⟨hn, rfl⟩ := he
    have hne : (n != 0) = true := by simpa using hn
    simp [hne]
  | ok ts =>
    rw [hl] at he
    obtain ⟨fl, rfl⟩ := he
    obtain ⟨hll, htl, htsl⟩ := tokens_ok hl
    have hok := toks_ok _ l ts (Nat.le_refl _) htl
    have hsl := spread_len z ts hok
    simp
    refine mwp_loop (I := fun q a S' => ∃ (i : Nat) (u : AVal), q = ts.length - i ∧ i ≤ ts.length ∧ get a 1 = .atom (.int .u8 (c.toNat : Int)) ∧ get a 5 = .list fl (toksV ts) ∧ get a 7 = .str [32, 9, 10, 13] ∧ get a 8 = u ∧ get a 26 = .list fl (toksV ts) ∧ get a 27 = .int ts.length ∧ get a 28 = .int i ∧
      Own 0 [] S' [(u, 1, (spread z (ts.take i)).map u8)]) (n := ts.length) ?_ ?_
    · exact ⟨0, _, rfl, Nat.zero_le _, rfl, rfl, rfl, rfl, rfl, rfl, rfl, (Own.start []).add0 1 .full (.inr rfl)⟩
    rintro q a S' ⟨i, u, rfl, hi, a1, a5, a7, a8, a26, a27, a28, ho⟩
    by_cases hlt : i < ts.length
    · have hti := hok ts[i] (List.getElem_mem hlt)
      have hwl := wordOf_len hti
      have hsli := spread_len z (ts.take i) (fun t ht => hok t (List.mem_of_mem_take ht))
      have hil : (ts.take i).length = i := by rw [List.length_take]; omega
      rw [hil] at hsli
      obtain ⟨p, q1, q2⟩ := (frozen_toks fl ts S').tok hlt
      have w17' := fun S => w17 (w0 := w0) hti S
      generalize hti' : ts[i] = t at *
      obtain ⟨S2, happ, ho2, hlt2, hkeep⟩ := (ho.more [.cells 4 [tokC t] (some 1)]).app2 0 rfl (y := .list .full [[.atom (.int .u8 z.toNat)]]) (ys := [u8 z]) (bytes := 1) rfl (by simp [u8]) (by decide) (by simp; omega) (by simp; omega)
      have hbox2 : S2[S'.length]? = some (.cells 4 [tokC t] (some 1)) := by
        rw [hkeep S'.length (by simp) ?_]
        · simp
        · intro o l e
          subst e
          have := (ho.idlt (i := 0) rfl).2
          omega
      obtain ⟨S3, happ3, ho3, hlt3⟩ := (ho2.more [.cells 1 ((wordOf t).map u8) none]).app 0 rfl (y := .row S2.length 0 (wordOf t).length) (ys := (wordOf t).map u8) (bytes := 1) (by simp; rw [List.take_of_length_le (by simp)]) (u8_k _) (by decide) (by simp; omega) (by simp; omega)
      simp [-appendR] at happ happ3
      have hm0 : (0 : Int) ≤ (m : Int) := by omega
      have hm4 : (m : Int) < 4 := by omega
      simp only [tokC] at happ hbox2 q2 w17'
      simp [-appendR, f6b0, a1, a5, a7, a8, a26, a27, a28, hlt, q1, q2, tokC, hand, hget, hget2, hm0, hm4, hc4, happ, hbox2]
      refine (w17' _).use ?_
      rintro e S4 ⟨rfl, rfl⟩
      simp [-appendR, a1, a5, a7, a26, a27, a28, happ3, wrapS i (by omega)]
      refine ⟨ts.length - (i + 1), by omega, i + 1, rfl, by omega, by simp, ?_⟩
      have e1 : ts.take (i + 1) = ts.take i ++ [t] := by rw [List.take_add_one, List.getElem?_eq_getElem hlt, hti']; rfl
      rw [e1, spread_app, spread_one]
      simpa using ho3
    · have : i = ts.length := by omega
      subst this
      rw [List.take_length] at ho
      have hb := conv_bytesStr (ho.rk 0 rfl).elems
      have hblen := (ho.rk 0 rfl).lenR
      have w10j := fun S => w10f (w0 := w0) (spread z ts) S
      simp at hblen
      simp [f6b0, a1, a5, a7, a8, a26, a27, a28, hb]
      refine (w10j _).use ?_
      rintro e S1 ⟨rfl, he⟩
      by_cases h4 : 4000 < (spread z ts).length
      · have h4' : (4000 : Int) < ((spread z ts).length : Int) := by omega
        cases hs : Lx.tokens (spread z ts) with
        | error n =>
          rw [hs] at he
          obtain ⟨hn, rfl⟩ := he
          simp [hblen, h4, h4', a8, a5]
        | ok t2 =>
          rw [hs] at he
          obtain ⟨fl2, rfl⟩ := he
          simp [hblen, h4, h4', a8, a5]
      · have h4' : ¬ (4000 : Int) < ((spread z ts).length : Int) := by omega
        have hs : Lx.tokens (spread z ts) = .ok ts := by rw [Lx.tokens, if_neg h4]; exact toks_spread hblank ts hok
        rw [hs] at he
        obtain ⟨fl2, rfl⟩ := he
        simp [hblen, h4, h4', a8, a5]
        refine (w12 (frozen_toks fl ts _) (frozen_toks fl2 ts _) (by omega)).use ?_
        rintro e S1 ⟨rfl, rfl⟩
        simp
end Go.Abs
