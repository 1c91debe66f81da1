/- NormJoins answers true at every input that holds at most 1048576 values and letters, and leaves its arguments as they were. Conditions: that bound, which is the statement's own. -/
import Derived.Test.YtjoehmgnapdhaaaB1
import Derived.Test.YtjoehmgnapdhaaaN5
import Derived.Test.YtjoehmgnapdhaaaA30
namespace Go.Abs
open Go Go.RowKit Go.Proofs Go.Proofs.Ytjoehmgnapdhaaa Go.ChangeShapes Go.WideShapes Go.ChangeAt
set_option linter.unusedVariables false

theorem tryOwn : ownKnob Try.prog.godebug = none := by kernel_rfl
theorem tryLaidOut : laidOutB Try.prog = true := by kernel_rfl

theorem sim0 (W : World) : Sim ⟨W, fun _ => .top⟩ (F0 W) (fun _ => none) [] W :=
  ⟨Below.refl _ _, fun _ => .top _, fun b x v h => h, fun id o h => by simp at h, fun id id' o o' p p' h => by simp at h, fun _ _ => rfl⟩

theorem normJoins_contract (H : Type) (enc : TypeId × Value → H) (W : World) (base : Nat) (args : Array Value) (ds gs : List (DataW H)) (before : List MemPlace)
    (hval : ∀ (j : Nat) t v, Try.f7.params[j]? = some t → args[j]? = some v → Value.okWide Try.prog W .any base t v)
    (hW : DataW.Whole enc Try.prog Try.f7.params.toList Rows.normJoinsSpec.vars false W args.toList ds gs before) (hk : Rows.uptoSmall H (ds ++ gs) = true) :
    Calls Try.prog 7 args W fun e W' => ∃ v, e = .returned v ∧ Rows.normJoinsSpec.post enc Try.prog Try.f7 false true false false W args v W' := by
  have hW' := hW
  obtain ⟨p, q, hA0, hV, rfl, hfz, hnd⟩ := hW
  have hA : DataW.TrodAll enc Try.prog W 0 (fun _ => true) true Try.f7.params.toList args.toList ds p := hA0
  rw [Try.params7] at hA hval
  obtain ⟨v0, v1, d0, d1, p0, p1, rfl, rfl, rfl, h0, h1⟩ := trodAll_two hA
  obtain ⟨rfl, rfl⟩ := trodVars_none hV
  have hsz := of_decide_eq_true hk
  simp only [List.append_nil, Rows.uptoBulkAll] at hsz
  obtain ⟨fu0, hr0⟩ := id h0
  obtain ⟨fu1, hr1⟩ := id h1
  obtain ⟨c0, a0, rep0, rel0, z0⟩ := read37 fu0 hr0
  obtain ⟨c1, a1, rep1, rel1, z1⟩ := read37 fu1 hr1
  have ok0 := hval 0 37 v0 rfl rfl
  have ok1 := hval 1 37 v1 rfl rfl
  have e0 : ∃ cs, v0 = .agg cs := by
    unfold Value.okWide at ok0; rw [Try.underlying37] at ok0; obtain ⟨cs, h, _⟩ := ok0; exact ⟨cs, h⟩
  have e1 : ∃ cs, v1 = .agg cs := by
    unfold Value.okWide at ok1; rw [Try.underlying37] at ok1; obtain ⟨cs, h, _⟩ := ok1; exact ⟨cs, h⟩
  obtain ⟨cs0, rfl⟩ := e0
  obtain ⟨cs1, rfl⟩ := e1
  have toRel : ∀ (cs : Array Value) (av : List AVal), RdC W (Value.agg cs).cells.toList av → Rel (F0 W) (fun _ => none) (.agg av) (.agg cs) := fun cs av ⟨hl, h⟩ => by
    have hl : cs.size = av.length := by simpa [Value.cells] using hl
    have hg : ∀ i, i < av.length → (Value.agg cs).cells.toList.getD i undef = cs.getD i undef := fun i hi => by simp [Value.cells]
    exact .agg _ _ hl.symm (fun i hi => by have := (h i hi).1; rwa [hg i hi] at this) (fun i hi => by have := (h i hi).2; rwa [hg i hi] at this)
  have hcalls := (w7 (β := ⟨W, fun _ => .top⟩) rep0 rep1 (by omega) (speaks17 W)).2 (F0 W) (fun _ => none) W #[.agg cs0, .agg cs1] (sim0 W) ⟨rfl, fun i hi => by
    have : i = 0 ∨ i = 1 := by simp at hi; omega
    rcases this with rfl | rfl
    · exact toRel cs0 a0 rel0
    · exact toRel cs1 a1 rel1⟩
  refine hcalls.mono fun e W' ⟨ae, F', m', S', he, hs, hrel, hR⟩ => ?_
  subst hR
  cases e with
  | returned u =>
    have hu := (show Rel F' m' (.bool true) u from hrel).bool_inv
    subst hu
    have hb : Below W.heap.size W W' := hs.below
    have hlt0 : ∀ x ∈ p0, x.block < W.heap.size := fun x hx => by simpa using hW'.lt x (by simp [hx])
    have hlt1 : ∀ x ∈ p1, x.block < W.heap.size := fun x hx => by simpa using hW'.lt x (by simp [hx])
    refine ⟨_, rfl, post_below (pa := p0 ++ p1) (pv := []) hW' (fun _ _ _ => (trodAll_cons_mk (shut_bool Try.underlying4 _) trodAll_mk0)) (fun sp hsp => ?_) (fun _ _ => rfl) rfl hb (ok_one (by kernel_rfl) rfl (okWide_bool_mk Try.underlying4 _))⟩
    exact trodAll_mk2 (WideElems.Trod_stays tryLaidOut (by kernel_rfl) (of_decide_eq_true (by kernel_rfl)) h0 (fun x hx => hb.same (hlt0 x hx)) (fun p hp => hsp p (by simp [hp])))
      (WideElems.Trod_stays tryLaidOut (by kernel_rfl) (of_decide_eq_true (by kernel_rfl)) h1 (fun x hx => hb.same (hlt1 x hx)) (fun p hp => hsp p (by simp [hp])))
  | _ => exact hrel.elim

set_option maxRecDepth 100000 in
theorem normJoins_lifted (os : Os) (started : os.Started) (H : Type) (enc : TypeId × Value → H) (F : Stop.Interp) :
    ReturnsInHanded {} Try.checked os 7 .any ((Rows.OpenSpec.upto Rows.normJoinsSpec).pre6 enc Try.prog Try.f7 Rows.normJoinsUptoRow.domain false) (((Rows.OpenSpec.upto Rows.normJoinsSpec).at F).post enc Try.prog Try.f7 false true false false) := by
  refine returnsInHanded_of_cond (C := Try.checked) (s := Rows.OpenSpec.upto Rows.normJoinsSpec) (k := Rows.uptoSmall) rfl tryOwn started (by kernel_rfl) Try.func7
    (OpenSpec.witness (enc := enc) (C := Try.checked) (s := Rows.OpenSpec.upto Rows.normJoinsSpec) (k := Rows.uptoSmall) rfl false ⟨#[], #[.agg #[.int .i64 0, .int .i64 0, .slice none 0 0, .int .i64 0, .int .i64 0, .string ⟨#[]⟩, .int .i64 0, .int .i64 0], .agg #[.int .i64 0, .int .i64 0, .slice none 0 0, .int .i64 0, .int .i64 0, .string ⟨#[]⟩, .int .i64 0, .int .i64 0]], []⟩ 8 (by kernel_rfl) (by kernel_rfl) (by kernel_rfl)
      (x := ([.agg [.lit (.int .i64 0), .lit (.int .i64 0), .nil, .agg [.lit (.int .i64 0), .lit (.int .i64 0), .lit (.string [])], .lit (.int .i64 0), .lit (.int .i64 0)], .agg [.lit (.int .i64 0), .lit (.int .i64 0), .nil, .agg [.lit (.int .i64 0), .lit (.int .i64 0), .lit (.string [])], .lit (.int .i64 0), .lit (.int .i64 0)]], [], [])) (by kernel_rfl) rfl (by kernel_rfl)) ?_
  intro W base args ds gs before hval hW _ hk _
  exact normJoins_contract H enc W base args ds gs before hval hW hk

theorem normJoins_over : Rows.normJoinsUptoRow.holds Try.pinned (Rows.OpenSpec.upto Rows.normJoinsSpec) :=
  OpenClaim.holds_of_cond 7 Try.f7 rfl rfl rfl rfl rfl rfl rfl ⟨rfl, rfl, rfl, rfl, rfl⟩ rfl rfl rfl rfl rfl (by kernel_rfl) Try.func7 (by kernel_rfl)
    (of_decide_eq_true (by kernel_rfl)) (by unfold Func.isWrapper; first | (rw [if_pos (by decide +kernel)]; kernel_rfl) | (rw [if_neg (by decide +kernel)]; exact ⟨rfl, rfl⟩))
    (fun os started H enc _ F => normJoins_lifted os started H enc F)

end Go.Abs

namespace Go.Proofs.Ytjoehmgnapdhaaa
theorem normJoins_proved : Rows.NormJoinsUptoSaid := Go.Abs.normJoins_over
end Go.Proofs.Ytjoehmgnapdhaaa
