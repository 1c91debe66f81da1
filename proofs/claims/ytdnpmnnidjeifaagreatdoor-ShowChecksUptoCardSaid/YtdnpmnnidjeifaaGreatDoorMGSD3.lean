/- ShowChecks answers true where what it reads is of bulk at most 1048576, its tables laid as the program's text lays them. Conditions: none beyond the statement's own. -/
import Derived.Test.YtdnpmnnidjeifaaGreatDoorMC
import Derived.Test.YtdnpmnnidjeifaaGreatDoorA30
import Derived.Test.YtdnpmnnidjeifaaGreatDoorCards
import Derived.Test.YtdnpmnnidjeifaaGreatDoorTie
import Derived.ProofKit
import Derived.OpenShut
import Derived.LaidMore
import Derived.Lay
import Derived.SevenTiedAt
import Derived.Stop.Joined
import Derived.Deep.DeepHandedRow
import Derived.Shelf.Vars
import Derived.Lib.LaidTab
import Derived.Test.YtdnpmnnidjeifaaGreatDoorMD
namespace Go.Abs
open Go Go.RowKit Go.Lx Go.Proofs Go.Proofs.YtdnpmnnidjeifaaGreatDoor Go.ChangeShapes Go.WideShapes Go.ChangeAt Go.ChangeMaps
set_option linter.unusedVariables false

theorem own3 : ownKnob Tryz.prog.godebug = none := by kernel_rfl
theorem laidOut0 : laidOutB Tryz.prog = true := by kernel_rfl
def tabs : List (String × DataW Unit) := [("math/bits.deBruijn32tab", Rows.laid_math_bits_deBruijn32tab), ("math/bits.deBruijn64tab", Rows.laid_math_bits_deBruijn64tab), ("internal/strconv.uint64pow10", Rows.laid_internal_strconv_uint64pow10), ("unicode/utf8.acceptRanges", Rows.laid_unicode_utf8_acceptRanges), ("unicode.CaseRanges", Rows.laid_unicode_CaseRanges), ("unicode/utf8.first", Rows.laid_unicode_utf8_first)]
set_option maxRecDepth 100000 in
theorem tabs_met (os : Os) (args : Array Value) : laidMetH Tryz.prog tabs ((World.laidAll Tryz.prog os tabs).forCall (fun _ _ => 0) ⟨#[], args, []⟩).memory := by
  rw [MakeChecks.laidMetH_plain _ _ _ (by kernel_rfl)]; exact laidMet_laidAll _ (by kernel_rfl) (by kernel_rfl)

theorem sim0 (W : World) : Sim ⟨W, fun _ => .top⟩ (WF W) (fun _ => none) [] W :=
  ⟨Below.refl _ _, fun _ => .top _, fun b x v h => h, fun id o h => by simp at h, fun id id' o o' p p' h => by simp at h, fun _ _ => rfl⟩
theorem witness_row_shaped {H : Type} {enc : TypeId × Value → H} {C : Checked} {os : Os} {f : FuncId} {fn : Func} {s : OpenSpec} {conds : List PathCond} {apart : Bool} {laid : List (String × DataW Unit)} (modest : Bool) (w0 : World) (args : Array Value) (hos : w0.os = os)
    (hsh : (w0.forCall (fun _ _ => 0) ⟨#[], args, []⟩).Shaped C.prog)
    (hok : Input.okWideB C.prog (w0.forCall (fun _ _ => 0) ⟨#[], args, []⟩) f ⟨#[], args, []⟩ = true)
    (hrow : s.preRow enc C.prog fn conds apart laid (w0.forCall (fun _ _ => 0) ⟨#[], args, []⟩).memory args) :
    ∃ (w : World) (tape : Tape) (i : Input), w.os = os ∧ (w.forCall tape i).Shaped C.prog ∧ i.vars = [] ∧ Input.okWide C.prog (w.forCall tape i) .any w.heap.size f i ∧
      s.preRow enc C.prog fn conds apart laid (w.forCall tape i).memory i.args ∧ ({ modest := modest } : Assume).holds C.prog (lone (Frame.enter C.prog f i.args .normal) [] (w.forCall tape i)) :=
  ⟨w0, fun _ _ => 0, ⟨#[], args, []⟩, hos, hsh, (Input.okWide_of_okWideB (base := 0) hok).1, (Input.okWide_of_okWideB hok).2, hrow, by
    simp only [Assume.holds]
    exact ⟨by simp, by simp, fun _ => Modest.zero, by simp, by simp⟩⟩
/-! ### What a reading holds -/
section
variable {H : Type}
theorem weightsAll_mem {P : Program} {e : TypeId} : ∀ {l : List (DataW H)} {d : DataW H}, d ∈ l → ∀ x ∈ d.weights P e, x ∈ DataW.weightsAll P e l
  | a :: r, d, h, x, hx => by
    rw [DataW.weightsAll]
    rcases List.mem_cons.1 h with rfl | h
    · exact List.mem_append_left _ hx
    · exact List.mem_append_right _ (weightsAll_mem h x hx)
theorem weightsEach_mem {P : Program} : ∀ {ts : List TypeId} {l : List (DataW H)} {i : Nat} (hi : i < ts.length) (hx : i < l.length), ∀ x ∈ (l[i]).weights P ts[i], x ∈ DataW.weightsEach P ts l
  | t :: ts, d :: l, 0, _, _, x, hx => by rw [DataW.weightsEach]; exact List.mem_append_left _ hx
  | t :: ts, d :: l, i + 1, hi, hl, x, hx => by
    rw [DataW.weightsEach]
    exact List.mem_append_right _ (weightsEach_mem (i := i) (by simpa using hi) (by simpa using hl) x (by simpa using hx))

/-- A bound of each part's weight: what every form gives. -/
theorem measS (P : Program) : Meas (H := H) P reachBytes (fun t d => Small (d.weights P t)) where
  str := fun {t bs} h => h _ (by simp [DataW.weights])
  sl := fun {t e xs ys} hu h0 h => by
    have h1 : (xs.length + ys.length) * P.bytesOf e ≤ reachBytes := h _ (by simp [DataW.weights, hu])
    have h2 : xs.length * P.bytesOf e ≤ (xs.length + ys.length) * P.bytesOf e := Nat.mul_le_mul_right _ (by omega)
    have h3 : xs.length ≤ xs.length * P.bytesOf e := Nat.le_mul_of_pos_right _ h0
    refine ⟨by omega, by omega, fun x hx y hy => h y ?_⟩
    simp only [DataW.weights, hu]
    exact List.mem_cons_of_mem _ (List.mem_append_left _ (weightsAll_mem hx y hy))
  ag := fun {t fs xs} hu h i hi hx y hy => h y (by
    simp only [DataW.weights, hu]
    exact weightsEach_mem (i := i) (by simpa using hi) hx y (by simpa using hy))

open Rows in
theorem bulk_one (d : DataW H) : 1 ≤ uptoBulk d := by
  cases d with
  | lit l => cases l <;> simp [uptoBulk]
  | _ => simp [uptoBulk]
open Rows in
theorem bulk_mem {d : DataW H} {l : List (DataW H)} (h : d ∈ l) : uptoBulk d ≤ uptoBulkAll l := by
  induction l with
  | nil => cases h
  | cons x r ih =>
    simp only [uptoBulkAll]
    cases List.mem_cons.1 h with
    | inl e => subst e; omega
    | inr e => have := ih e; omega
open Rows in
theorem bulk_len (l : List (DataW H)) : l.length ≤ uptoBulkAll l := by
  induction l with
  | nil => simp [uptoBulkAll]
  | cons x r ih => have := bulk_one x; simp only [uptoBulkAll, List.length_cons]; omega

/-- ... and a bound of the whole: what the second form gives. -/
theorem measU (P : Program) (N : Nat) : Meas (H := H) P N (fun t d => Small (d.weights P t) ∧ Rows.uptoBulk d ≤ N) where
  str := fun {t bs} h => by
    have := h.2
    simp only [Rows.uptoBulk] at this
    omega
  sl := fun {t e xs ys} hu h0 h => by
    have h2 := h.2
    simp only [Rows.uptoBulk] at h2
    have h3 := bulk_len xs
    refine ⟨((measS P).sl hu h0 h.1).1, by omega, fun x hx => ⟨((measS P).sl hu h0 h.1).2.2 x hx, ?_⟩⟩
    have := bulk_mem hx
    omega
  ag := fun {t fs xs} hu h i hi hx => ⟨(measS P).ag hu h.1 i hi hx, by
    have h2 := h.2
    simp only [Rows.uptoBulk] at h2
    have := bulk_mem (List.getElem_mem hx)
    omega⟩
end

theorem bulk_sum {H : Type} (l : List (DataW H)) : (l.map Rows.uptoBulk).sum = Rows.uptoBulkAll l := by
  induction l with
  | nil => rfl
  | cons x r ih => simp only [List.map_cons, List.sum_cons, Rows.uptoBulkAll, ih]
theorem bulkU {H : Type} : Bulk (H := H) Rows.uptoBulk :=
  ⟨bulk_one, fun xs ys => by rw [bulk_sum]; simp only [Rows.uptoBulk]; omega, fun xs => by rw [bulk_sum]; simp only [Rows.uptoBulk]; omega⟩

/-! ### The tables that the walks read -/
theorem laidVars_tail {P : Program} {W : World} {x : String × DataW Unit} {l : List (String × DataW Unit)} {ps : List MemPlace} (h : DataW.LaidVars P W (x :: l) ps) : ∃ q, DataW.LaidVars P W l q := by
  obtain ⟨_, _, _, _, p, q, _, _, _, _, h, _⟩ := h
  exact ⟨q, h⟩
theorem tabIs_of_vars {P : Program} {W : World} {name : String} {k : IntKind} {zs : List Int} {rest : List (String × DataW Unit)} {g : Nat} {t e : TypeId} {n : Nat} {ps : List MemPlace}
    (hg : P.globalNamed name = some g) (hty : (P.globals[g]?).map (·.type) = some t) (ht : P.underlying t = some (.array n e)) (he : P.underlying e = some (.int k)) (hce : P.cellsOf e = 1) (hct : P.cellsOf t = n)
    (h : DataW.LaidVars P W ((name, Lib.tabData k zs) :: rest) ps) : Lib.TabIs P W name k zs := by
  obtain ⟨g', t', cs, fuel, p, q, hg', ht', hvar, hd, _, _⟩ := h
  obtain rfl := Option.some.inj (hg.symm.trans hg')
  obtain rfl := Option.some.inj (hty.symm.trans ht')
  unfold Lib.TabIs
  rw [hvar, ← Lib.cells_of_tab ht he hce hct hd]
theorem tb_of {W : World} (h : laidMetH Tryz.prog tabs W) (hs : W.ShapedOpen Tryz.prog) : Tb W := by
  rw [MakeChecks.laidMetH_plain _ _ _ (by kernel_rfl)] at h
  obtain ⟨ps, hv, _⟩ := h
  obtain ⟨q1, h1⟩ := laidVars_tail hv
  obtain ⟨q2, h2⟩ := laidVars_tail h1
  refine ⟨tabIs_of_vars (g := 4) (t := 200) (e := 182) (n := 20) (by kernel_rfl) (by kernel_rfl) (by kernel_rfl) (by kernel_rfl) (by kernel_rfl) (by kernel_rfl) (show DataW.LaidVars Tryz.prog W (("internal/strconv.uint64pow10", Lib.tabData .u64 Lib.pow10Tab) :: _) q2 from h2), ?_⟩
  exact cell_of_shapedOpen_int hs (t := 3) (zero := #[.int .i64 0]) (of_decide_eq_true (by kernel_rfl)) (by kernel_rfl) rfl (by kernel_rfl) (by kernel_rfl) (by kernel_rfl)
end Go.Abs
namespace Go.Abs
open Go Go.RowKit Go.Lx Go.Proofs Go.Proofs.YtdnpmnnidjeifaaGreatDoor Go.ChangeShapes Go.WideShapes Go.ChangeAt Go.ChangeMaps
set_option linter.unusedVariables false

set_option maxRecDepth 100000 in
theorem contract3 (H : Type) (enc : TypeId × Value → H) (W : World) (base : Nat) (args : Array Value) (ds gs : List (DataW H)) (before : List MemPlace)
    (hval : ∀ (j : Nat) t v, Tryz.f3.params[j]? = some t → args[j]? = some v → Value.okWide Tryz.prog W .any base t v)
    (hW : DataW.Whole enc Tryz.prog Tryz.f3.params.toList Rows.showChecksSpec.vars false W args.toList ds gs before)
    (hk : Rows.uptoSmall H (ds ++ gs) = true)
    (hwt : (DataW.weightsEach Tryz.prog (Tryz.f3.params.toList ++ Rows.showChecksSpec.plain.varTypes Tryz.prog) (ds ++ gs)).all (· ≤ reachBytes) = true)
    (hT : Tb W) :
    Calls Tryz.prog 3 args W fun e W' => ∃ v, e = .returned v ∧ Rows.showChecksSpec.post enc Tryz.prog Tryz.f3 false true false false W args v W' := by
  have hW' := hW
  obtain ⟨p, q, hA0, hV, rfl, hfz, hnd⟩ := hW
  have hA : DataW.TrodAll enc Tryz.prog W 0 (fun _ => true) true Tryz.f3.params.toList args.toList ds p := hA0
  rw [Tryz.params3] at hA hval hwt
  obtain ⟨v0, d0, rfl, rfl, h0⟩ := trodAll_one hA
  obtain ⟨rfl, rfl⟩ := trodVars_none hV
  have hsm : ∀ x, x ∈ (DataW.weightsEach Tryz.prog ([33] ++ Rows.showChecksSpec.plain.varTypes Tryz.prog) ([d0] ++ [])) → x ≤ reachBytes := fun x hx => by simpa using List.all_eq_true.1 hwt x hx
  have hbk : Rows.uptoBulk d0 ≤ 1048576 := by
    have h := of_decide_eq_true hk
    simp only [List.append_nil, Rows.uptoBulkAll] at h
    omega
  obtain ⟨x0, av0, ht0, hm0, hr0⟩ := arg_stm bulkU (hval 0 33 v0 rfl rfl) h0 (measU Tryz.prog 1048576) ⟨fun x hx => hsm x (by simp [DataW.weightsEach, hx]), hbk⟩ hbk
  have hcalls := (w3 (w0 := W) hT hm0 ht0).2 (WF W) (fun _ => none) W #[v0] (sim0 W) ⟨rfl, fun i hi => by
    have : i = 0 := by simp at hi; omega
    subst this
    exact hr0⟩
  refine hcalls.mono fun e W' ⟨ae, F', m', S', he, hs, hrel, hR⟩ => ?_
  subst hR
  cases e with
  | returned u =>
    have hu := (show Rel F' m' (.bool true) u from hrel).bool_inv
    subst hu
    have hb : Below W.heap.size W W' := hs.below
    have hlt0 : ∀ x ∈ p, x.block < W.heap.size := fun x hx => by simpa using hW'.lt x (by simp [hx])
    refine ⟨_, rfl, post_below (pa := p) (pv := []) hW' (fun _ _ _ => (trodAll_cons_mk (shut_bool Tryz.underlying4 _) trodAll_mk0)) (fun sp hsp => ?_) (fun _ _ => rfl) rfl hb (ok_one (by kernel_rfl) rfl (okWide_bool_mk Tryz.underlying4 _))⟩
    exact trodAll_mk1 (WideElems.Trod_stays laidOut0 (by kernel_rfl) (of_decide_eq_true (by kernel_rfl)) h0 (fun x hx => hb.same (hlt0 x hx)) (fun p hp => hsp p (by simp [hp])))
  | _ => exact hrel.elim

set_option maxRecDepth 100000 in
theorem lifted3 (os : Os) (started : os.Started) (H : Type) (enc : TypeId × Value → H) (F : Stop.Interp) :
    ReturnsInHanded {} Tryz.checked os 3 .any ((Rows.OpenSpec.upto Rows.showChecksSpec).preRow enc Tryz.prog Tryz.f3 Rows.showChecksUptoRow.domain false Rows.showChecksUptoRow.laid) (((Rows.OpenSpec.upto Rows.showChecksSpec).at F).post enc Tryz.prog Tryz.f3 false true false false) := by
  have hx : ∃ places, DataW.whole enc Tryz.prog ((World.laidAll Tryz.prog os tabs).forCall (fun _ _ => 0) ⟨#[], #[.agg #[.int .i64 0, .string ⟨#[]⟩, .string ⟨#[]⟩, .slice none 0 0, .slice none 0 0, .bool false, .slice none 0 0, .slice none 0 0, .slice none 0 0, .int .i64 0, .slice none 0 0, .int .i64 0, .int .i64 0, .int .i64 0, .string ⟨#[]⟩, .string ⟨#[]⟩, .slice none 0 0, .slice none 0 0]], []⟩).memory Tryz.f3.params.toList Rows.showChecksSpec.vars false #[Value.agg #[.int .i64 0, .string ⟨#[]⟩, .string ⟨#[]⟩, .slice none 0 0, .slice none 0 0, .bool false, .slice none 0 0, .slice none 0 0, .slice none 0 0, .int .i64 0, .slice none 0 0, .int .i64 0, .int .i64 0, .int .i64 0, .string ⟨#[]⟩, .string ⟨#[]⟩, .slice none 0 0, .slice none 0 0]].toList 8 = some ([.agg [.lit (.int .i64 0), .lit (.string []), .lit (.string []), .nil, .nil, .lit (.bool false), .nil, .nil, .nil, .agg [.lit (.int .i64 0), .nil, .lit (.int .i64 0), .lit (.int .i64 0), .lit (.int .i64 0), .lit (.string []), .lit (.string [])], .nil, .nil]], [], places) := ⟨[], by kernel_rfl⟩
  obtain ⟨places, hx⟩ := hx
  refine returnsInHanded_of_row (C := Tryz.checked) (s := Rows.OpenSpec.upto Rows.showChecksSpec) own3 started (by kernel_rfl) Tryz.func3
    (witness_row_shaped (enc := enc) (C := Tryz.checked) false (World.laidAll Tryz.prog os tabs) #[.agg #[.int .i64 0, .string ⟨#[]⟩, .string ⟨#[]⟩, .slice none 0 0, .slice none 0 0, .bool false, .slice none 0 0, .slice none 0 0, .slice none 0 0, .int .i64 0, .slice none 0 0, .int .i64 0, .int .i64 0, .int .i64 0, .string ⟨#[]⟩, .string ⟨#[]⟩, .slice none 0 0, .slice none 0 0]] (World.laidAll_os _ _ _) (World.shaped_of_ZipB (by kernel_rfl) (by kernel_rfl)) (by kernel_rfl)
      (OpenSpec.preRow_of_cond 8 hx (by kernel_rfl) (fun k hk => by cases hk; kernel_rfl) (by kernel_rfl) (tabs_met os _))) ?_
  intro W base args ds gs before hval hW _ hcond hwt hlaid hshape _
  exact contract3 H enc W base args ds gs before hval hW (hcond _ rfl) hwt (tb_of hlaid hshape)

theorem said3 : Rows.ShowChecksUptoSaid :=
  OpenClaim.holds_of_cond 3 Tryz.f3 rfl rfl rfl rfl rfl rfl rfl ⟨rfl, rfl, rfl, rfl, rfl⟩ rfl rfl rfl rfl rfl (by kernel_rfl) Tryz.func3 (by kernel_rfl)
    (of_decide_eq_true (by kernel_rfl)) (by unfold Func.isWrapper; first | (rw [if_pos (by decide +kernel)]; kernel_rfl) | (rw [if_neg (by decide +kernel)]; exact ⟨rfl, rfl⟩))
    (fun os started H enc _ F => by rw [OpenClaim.pre_eq_preRow]; exact lifted3 os started H enc F)

theorem plain3 (f : FuncId) (fn : Func) (hf : Tryz.pinned.checked.prog.funcNamed "hasp/hasplaw14.ShowChecks" = some f) (hfn : Tryz.pinned.checked.prog.funcs[f]? = some fn) :
    true = Tryz.pinned.checked.prog.looks [] ∧ ∀ (j : Nat) t, fn.params[j]? = some t → Tryz.pinned.checked.prog.wantsStandIn t = false := by
  obtain rfl : f = 3 := Option.some.inj ((show Tryz.prog.funcNamed "hasp/hasplaw14.ShowChecks" = some 3 by kernel_rfl).symm.trans hf) |>.symm
  obtain rfl : fn = Tryz.f3 := (Option.some.inj (Tryz.func3.symm.trans hfn)).symm
  refine ⟨by kernel_rfl, fun j t ht => ?_⟩
  rw [Tryz.params3] at ht
  have hm : t ∈ [33] := by simpa using Array.mem_of_getElem? ht
  have hall : ([33].all fun u => !Tryz.prog.wantsStandIn u) = true := by kernel_rfl
  exact (show Tryz.prog.wantsStandIn t = false by simpa using List.all_eq_true.1 hall t hm)
end Go.Abs
namespace Go.Proofs.YtdnpmnnidjeifaaGreatDoor
theorem showChecks_proved : Rows.ShowChecksUptoCardSaid :=
  Claim7.holds_tied_plain_at .later [] _ _ _ _ Go.Abs.said3 (fun _ h => by cases h) (by kernel_rfl) (fun _ h => by cases h) showChecksUpto_row_tie rfl ⟨rfl, rfl⟩ (by kernel_rfl) rfl Go.Abs.plain3 (by kernel_rfl)
end Go.Proofs.YtdnpmnnidjeifaaGreatDoor
