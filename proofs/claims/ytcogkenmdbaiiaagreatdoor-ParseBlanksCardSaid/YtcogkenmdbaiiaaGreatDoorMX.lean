/- Walks of the statements' functions. Conditions: none but the lengths; definitions and lemmas. -/
import Derived.Test.YtcogkenmdbaiiaaGreatDoorMT
import Derived.Test.YtcogkenmdbaiiaaGreatDoorMU
set_option linter.unusedSimpArgs false
set_option linter.unusedVariables false
namespace Go.Abs
open Go Go.RowKit Go.Proofs Go.Lx Go.Pz
variable {w0 : World}

theorem byte_of {z : Int} (h : (Lit.int .u8 z).wf = true) : ∃ c : UInt8, z = (c.toNat : Int) := by
  have : 0 ≤ z ∧ z < 256 := by
    simp [Lit.wf, IntKind.min, IntKind.max, IntKind.bits, IntKind.signed] at h
    omega
  refine ⟨UInt8.ofNat z.toNat, ?_⟩
  simp; omega
theorem and3 (c : UInt8) : IntKind.u8.wrap (((BitVec.ofInt IntKind.u8.bits (c.toNat : Int) &&& BitVec.ofInt IntKind.u8.bits 3).toNat : Nat) : Int) = ((c.toNat % 4 : Nat) : Int) := by
  have : ∀ n : _root_.Fin 256, IntKind.u8.wrap (((BitVec.ofInt IntKind.u8.bits (n.val : Int) &&& BitVec.ofInt IntKind.u8.bits 3).toNat : Nat) : Int) = ((n.val % 4 : Nat) : Int) := by decide +kernel
  exact this ⟨c.toNat, c.toNat_lt⟩
def blankOf (n : Nat) : UInt8 := [32, 9, 10, 13].getD n 0
theorem blankOf_B (n : Nat) (h : n < 4) : isB (blankOf n) = true := by
  have : n = 0 ∨ n = 1 ∨ n = 2 ∨ n = 3 := by omega
  rcases this with rfl | rfl | rfl | rfl <;> rfl
theorem bin_and8 {S : Heap} {t : EqT} (c : UInt8) : binR .and t (.atom (.int .u8 (c.toNat : Int))) (.atom (.int .u8 3)) S = .ok true (.atom (.int .u8 ((c.toNat % 4 : Nat) : Int))) S := by
  simp only [binR, and3]; rfl
/-- The tokens, a blank behind each. -/
def spreadB (z : UInt8) (s : List Tok) : Bs := s.flatMap fun t => wordOf t ++ [z]
theorem spreadB_app (z : UInt8) (a b : List Tok) : spreadB z (a ++ b) = spreadB z a ++ spreadB z b := by simp [spreadB]
theorem spreadB_one (z : UInt8) (t : Tok) : spreadB z [t] = wordOf t ++ [z] := by simp [spreadB]
theorem spreadB_len (z : UInt8) : ∀ (s : List Tok), (∀ t ∈ s, OkT t) → (spreadB z s).length ≤ s.length * 1001
  | [], _ => by simp [spreadB]
  | t :: s, h => by
    have h1 := wordOf_len (h t (by simp))
    have h2 := spreadB_len z s (fun x hx => h x (by simp [hx]))
    have : spreadB z (t :: s) = wordOf t ++ [z] ++ spreadB z s := by simp [spreadB]
    rw [this]
    simp; omega
theorem toks_spreadB {z : UInt8} (hz : isB z = true) : ∀ (s : List Tok), (∀ t ∈ s, OkT t) → toks (spreadB z s) = .ok s
  | [], _ => toks_nil
  | t :: s, h => by
    obtain ⟨c, r, e, hb, ho⟩ := ok_one (h t (by simp))
    have ih := toks_spreadB hz s fun x hx => h x (by simp [hx])
    have hx : Stop (z :: spreadB z s) := fun y w e => by cases e; exact hz
    have es : spreadB z (t :: s) = c :: (r ++ z :: spreadB z s) := by
      have : spreadB z (t :: s) = wordOf t ++ z :: spreadB z s := by simp [spreadB]
      rw [this, e]; rfl
    rw [es, toks_tok hb (one_app hx ho)]
    simp only [Nat.add_sub_cancel, List.drop_left, toks_blank hz, ih]

set_option maxRecDepth 10000 in
set_option maxHeartbeats 4000000 in
theorem w5 (l : Bs) (z0 : Int) (hz : (Lit.int .u8 z0).wf = true) : ACalls Tryz.prog (B0 w0) 5 [.str l, .atom (.int .u8 z0)] [] fun e _ => e = .ret (.bool true) := by
  obtain ⟨c, rfl⟩ := byte_of hz
  have hc4 : c.toNat % 4 < 4 := by omega
  have hblank := blankOf_B (c.toNat % 4) hc4
  have hand := fun S => bin_and8 (S := S) (t := .int) c
  generalize hm : c.toNat % 4 = m at *
  generalize hzz : blankOf m = z at *
  have hget : ([32, 9, 10, 13] : List UInt8)[m]?.getD 0 = z := by rw [← hzz, blankOf, List.getD_eq_getElem?_getD]
  have hget2 : ∀ h, ([32, 9, 10, 13] : List UInt8)[m]'h = z := fun h => by
    rw [List.getElem?_eq_getElem h, Option.getD_some] at hget; exact hget
  refine fn_sound tryOrd (f5_c _) (by simp [f5]) ?_
  simp [f5, f5m]
  refine (w8 _).use ?_
  rintro e S1 ⟨rfl, rfl⟩
  simp
  refine (w12f l _).use ?_
  rintro e S1 ⟨rfl, he⟩
  cases hl : Lx.tokens l with
  | error n =>
    rw [hl] at he
    obtain ⟨hn, rfl⟩ := he
    have hne : (n != 0) = true := by simpa using hn
    simp [hne]
  | ok ts =>
    rw [hl] at he
    obtain ⟨fl, rfl⟩ := he
    obtain ⟨hll, htl, htsl⟩ := tokens_ok hl
    have hok := toks_ok _ l ts (Nat.le_refl _) htl
    have hsl := spreadB_len z ts hok
    simp
    refine mwp_loop (I := fun q a S' => ∃ (i : Nat) (u : AVal), q = ts.length - i ∧ i ≤ ts.length ∧ get a 0 = .str l ∧ get a 1 = .atom (.int .u8 (c.toNat : Int)) ∧ get a 7 = .str [32, 9, 10, 13] ∧ get a 8 = u ∧ get a 25 = .list fl (toksV ts) ∧ get a 26 = .int ts.length ∧ get a 27 = .int i ∧
      Own 0 [] S' [(u, 1, (spreadB z (ts.take i)).map u8)]) (n := ts.length) ?_ ?_
    · exact ⟨0, _, rfl, Nat.zero_le _, rfl, rfl, rfl, rfl, rfl, rfl, rfl, (Own.start []).add0 1 .full (.inr rfl)⟩
    rintro q a S' ⟨i, u, rfl, hi, a0, a1, a7, a8, a25, a26, a27, ho⟩
    by_cases hlt : i < ts.length
    · have hti := hok ts[i] (List.getElem_mem hlt)
      have hwl := wordOf_len hti
      have hsli := spreadB_len z (ts.take i) (fun t ht => hok t (List.mem_of_mem_take ht))
      have hil : (ts.take i).length = i := by rw [List.length_take]; omega
      rw [hil] at hsli
      obtain ⟨p, q1, q2⟩ := (frozen_toks fl ts S').tok hlt
      have w13' := fun S => w13 (w0 := w0) hti S
      generalize hti' : ts[i] = t at *
      obtain ⟨S2, happ, ho2, hlt2, hkeep⟩ := ((ho.more [.cells 4 [tokC t] (some 1)]).more [.cells 1 ((wordOf t).map u8) none]).app2 0 rfl (y := .row (S'.length + 1) 0 (wordOf t).length) (ys := (wordOf t).map u8) (bytes := 1) (by simp; rw [List.take_of_length_le (by simp)]) (u8_k _) (by decide) (by simp; omega) (by simp; omega)
      obtain ⟨S3, happ3, ho3, hlt3⟩ := ho2.app 0 rfl (y := .list .full [[.atom (.int .u8 z.toNat)]]) (ys := [u8 z]) (bytes := 1) rfl (by simp [u8]) (by decide) (by simp; omega) (by simp; omega)
      simp [-appendR] at happ happ3
      have hm0 : (0 : Int) ≤ (m : Int) := by omega
      have hm4 : (m : Int) < 4 := by omega
      simp only [tokC] at happ q2 w13'
      simp [-appendR, f5b0, a0, a1, a7, a8, a25, a26, a27, hlt, q1, q2, tokC]
      refine (w13' _).use ?_
      rintro e S4 ⟨rfl, rfl⟩
      simp [-appendR, a0, a1, a7, a8, a25, a26, a27, happ, hand, hget, hget2, hm0, hm4, hc4, happ3, wrapS i (by omega)]
      refine ⟨ts.length - (i + 1), by omega, i + 1, rfl, by omega, by simp, ?_⟩
      have e1 : ts.take (i + 1) = ts.take i ++ [t] := by rw [List.take_add_one, List.getElem?_eq_getElem hlt, hti']; rfl
      rw [e1, spreadB_app, spreadB_one]
      simpa using ho3
    · have : i = ts.length := by omega
      subst this
      rw [List.take_length] at ho
      have hblen := (ho.rk 0 rfl).lenR
      simp at hblen
      simp [f5b0, a0, a1, a7, a8, a25, a26, a27]
      generalize hB : spreadB z ts = B at *
      by_cases h4 : 4000 < B.length
      · have h4' : (4000 : Int) < (B.length : Int) := by omega
        simp [hblen, h4, h4', a8]
      · have h4' : ¬ (4000 : Int) < (B.length : Int) := by omega
        have hpB : Pz.parse resv B = Pz.parse resv l := by
          have hs : Lx.tokens B = .ok ts := by rw [← hB, Lx.tokens, if_neg (by rw [hB]; exact h4)]; exact toks_spreadB hblank ts hok
          unfold Pz.parse
          rw [hs, hl]
        simp [hblen, h4, h4', a8, a0]
        refine (w9 l _).use ?_
        rintro e S1 h1
        obtain ⟨rfl, d, rfl, hd, hb⟩ := h1.two
        have hconv := conv_bytesStr ((ho.more [.cells 18 [d] (some 1)]).rk 0 rfl).elems
        simp [-appendR, hd.len.1, hd.len.2, a8, hconv]
        refine (w9 B _).use ?_
        rintro e S2 h2
        obtain ⟨rfl, c2, rfl, hc2, hb2⟩ := h2.two
        rw [hpB] at hc2
        simp [-appendR, hc2.len.1, hc2.len.2, hpB, hd.len.1]
        refine (w11 hb hd hc2 _).use ?_
        rintro e S3 ⟨rfl, rfl⟩
        simp
end Go.Abs
