/- WaitsFinds answers true at every input that holds at most 1048576 values and letters, and leaves its arguments as they were. Conditions: that bound, which is the statement's own. -/
import Derived.Test.YtjoehmgnapdhaaaB3
import Derived.Test.YtjoehmgnapdhaaaA30
import Derived.Test.YtjoehmgnapdhaaaW19
namespace Go.Abs
open Go Go.RowKit Go.Proofs Go.Proofs.Ytjoehmgnapdhaaa Go.ChangeShapes Go.WideShapes Go.ChangeAt
set_option linter.unusedVariables false

theorem own3 : ownKnob Try.prog.godebug = none := by kernel_rfl
theorem laid3 : laidOutB Try.prog = true := by kernel_rfl

theorem sim3 (W : World) : Sim ⟨W, fun _ => .top⟩ (F0 W) (fun _ => none) [] W :=
  ⟨Below.refl _ _, fun _ => .top _, fun b x v h => h, fun id o h => by simp at h, fun id id' o o' p p' h => by simp at h, fun _ _ => rfl⟩

theorem contract3 (H : Type) (enc : TypeId × Value → H) (W : World) (base : Nat) (args : Array Value) (ds gs : List (DataW H)) (before : List MemPlace)
    (hval : ∀ (j : Nat) t v, Try.f3.params[j]? = some t → args[j]? = some v → Value.okWide Try.prog W .any base t v)
    (hW : DataW.Whole enc Try.prog Try.f3.params.toList Rows.waitsFindsSpec.vars false W args.toList ds gs before) (hk : Rows.uptoSmall H (ds ++ gs) = true) :
    Calls Try.prog 3 args W fun e W' => ∃ v, e = .returned v ∧ Rows.waitsFindsSpec.post enc Try.prog Try.f3 false true false false W args v W' := by
  have hW' := hW
  obtain ⟨p, q, hA0, hV, rfl, hfz, hnd⟩ := hW
  have hA : DataW.TrodAll enc Try.prog W 0 (fun _ => true) true Try.f3.params.toList args.toList ds p := hA0
  rw [Try.params3] at hA hval
  obtain ⟨v0, v1, d0, d1, p0, p1, rfl, rfl, rfl, h0, h1⟩ := trodAll_two hA
  obtain ⟨rfl, rfl⟩ := trodVars_none hV
  have hsz := of_decide_eq_true hk
  simp only [List.append_nil, Rows.uptoBulkAll] at hsz
  obtain ⟨fu0, hr0⟩ := id h0
  obtain ⟨fu1, hr1⟩ := id h1
  have ok0 := hval 0 22 v0 rfl rfl
  have ok1 := hval 1 3 v1 rfl rfl
  have e0 : v0.oneCell' = true := by
    unfold Value.okWide at ok0; rw [Try.underlying22] at ok0
    cases v0 <;> first | rfl | (simp [Cell.okWide, Cell.ok] at ok0; done)
  have e1 : v1.oneCell' = true := by
    unfold Value.okWide at ok1; rw [Try.underlying3] at ok1
    cases v1 <;> first | rfl | (simp [Cell.okWide, Cell.ok] at ok1; done)
  have c0 : v0.cells.toList = [v0] := by cases v0 <;> first | rfl | cases e0
  have c1 : v1.cells.toList = [v1] := by cases v1 <;> first | rfl | cases e1
  rw [c0] at hr0
  rw [c1] at hr1
  obtain ⟨n, hn⟩ := read3 hr1
  simp only [List.cons.injEq, and_true] at hn
  subst hn
  cases fu0 with
  | zero => simp [DataW.trod] at hr0
  | succ fu0 =>
  obtain ⟨E, a0, hv, rel0, _, z0⟩ := read22 hr0
  have hcalls := (law3 (β := ⟨W, fun _ => .top⟩) (z := n) hv (by omega)).2 (F0 W) (fun _ => none) W #[v0, .int .i64 n] (sim3 W) ⟨rfl, fun i hi => by
    have : i = 0 ∨ i = 1 := by simp at hi; omega
    rcases this with rfl | rfl
    · exact rel0
    · exact .atom _⟩
  refine hcalls.mono fun e W' ⟨ae, F', m', S', he, hs, hrel, hR⟩ => ?_
  subst hR
  cases e with
  | returned u =>
    have hu := (show Rel F' m' (.bool true) u from hrel).bool_inv
    subst hu
    have hb : Below W.heap.size W W' := hs.below
    have hlt0 : ∀ x ∈ p0, x.block < W.heap.size := fun x hx => by simpa using hW'.lt x (by simp [hx])
    have hlt1 : ∀ x ∈ p1, x.block < W.heap.size := fun x hx => by simpa using hW'.lt x (by simp [hx])
    refine ⟨_, rfl, post_below (pa := p0 ++ p1) (pv := []) hW' (fun _ _ _ => (trodAll_cons_mk (shut_bool Try.underlying4 _) trodAll_mk0)) (fun sp hsp => ?_) (fun _ _ => rfl) rfl hb (ok_one (by kernel_rfl) rfl (okWide_bool_mk Try.underlying4 _))⟩
    exact trodAll_mk2 (WideElems.Trod_stays laid3 (by kernel_rfl) (of_decide_eq_true (by kernel_rfl)) h0 (fun x hx => hb.same (hlt0 x hx)) (fun p hp => hsp p (by simp [hp])))
      (WideElems.Trod_stays laid3 (by kernel_rfl) (of_decide_eq_true (by kernel_rfl)) h1 (fun x hx => hb.same (hlt1 x hx)) (fun p hp => hsp p (by simp [hp])))
  | _ => exact hrel.elim

set_option maxRecDepth 100000 in
theorem lifted3 (os : Os) (started : os.Started) (H : Type) (enc : TypeId × Value → H) (F : Stop.Interp) :
    ReturnsInHanded {} Try.checked os 3 .any ((Rows.OpenSpec.upto Rows.waitsFindsSpec).pre6 enc Try.prog Try.f3 Rows.waitsFindsUptoRow.domain false) (((Rows.OpenSpec.upto Rows.waitsFindsSpec).at F).post enc Try.prog Try.f3 false true false false) := by
  refine returnsInHanded_of_cond (C := Try.checked) (s := Rows.OpenSpec.upto Rows.waitsFindsSpec) (k := Rows.uptoSmall) rfl own3 started (by kernel_rfl) Try.func3
    (OpenSpec.witness (enc := enc) (C := Try.checked) (s := Rows.OpenSpec.upto Rows.waitsFindsSpec) (k := Rows.uptoSmall) rfl false ⟨#[], #[.slice none 0 0, .int .i64 0], []⟩ 8 (by kernel_rfl) (by kernel_rfl) (by kernel_rfl)
      (x := ([.nil, .lit (.int .i64 0)], [], [])) (by kernel_rfl) rfl (by kernel_rfl)) ?_
  intro W base args ds gs before hval hW _ hk _
  exact contract3 H enc W base args ds gs before hval hW hk

theorem over3 : Rows.waitsFindsUptoRow.holds Try.pinned (Rows.OpenSpec.upto Rows.waitsFindsSpec) :=
  OpenClaim.holds_of_cond 3 Try.f3 rfl rfl rfl rfl rfl rfl rfl ⟨rfl, rfl, rfl, rfl, rfl⟩ rfl rfl rfl rfl rfl (by kernel_rfl) Try.func3 (by kernel_rfl)
    (of_decide_eq_true (by kernel_rfl)) (by unfold Func.isWrapper; first | (rw [if_pos (by decide +kernel)]; kernel_rfl) | (rw [if_neg (by decide +kernel)]; exact ⟨rfl, rfl⟩))
    (fun os started H enc _ F => lifted3 os started H enc F)
end Go.Abs

namespace Go.Proofs.Ytjoehmgnapdhaaa
theorem waitsFinds_proved : Rows.WaitsFindsUptoSaid := Go.Abs.over3
end Go.Proofs.Ytjoehmgnapdhaaa
