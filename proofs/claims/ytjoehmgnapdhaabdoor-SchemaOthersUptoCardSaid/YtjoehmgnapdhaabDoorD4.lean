/- SchemaOthers answers true where what it reads is of bulk at most 1048576, its tables laid as the program's text lays them. Conditions: none beyond the statement's own. -/
import Derived.Test.YtjoehmgnapdhaabDoorT13
import Derived.Test.YtjoehmgnapdhaabDoorGA
namespace Go.Abs
open Go Go.RowKit Go.Lx Go.Proofs Go.Proofs.YtjoehmgnapdhaabDoor Go.ChangeShapes Go.WideShapes Go.ChangeAt Go.ChangeMaps
set_option linter.unusedVariables false

def tblTypes4 : List TypeId := 36 :: tblTypes
theorem tblTypes4_closed : closedB Tryd.prog tblTypes4 = true := by kernel_rfl
theorem RdC.single {W : World} {v : Value} {av : AVal} (h : RdC W [v] [av]) : Rel (WF W) (fun _ => none) av v := (h.2 0 (by simp)).2

set_option maxRecDepth 100000 in
/-- An argument that is a list of descriptions. -/
theorem arg_tbls {H : Type} {enc : TypeId × Value → H} {W : World} {sp : Nat → Bool} {held : Bool} {r : Reach} {base : Nat} {v : Value} {d : DataW H} {p : List MemPlace} {Q : TypeId → DataW H → Prop} {B : Nat} (hok : Value.okWide Tryd.prog W r base 36 v)
    (h : DataW.Trod enc Tryd.prog W 0 sp held 36 v d p) (hQ : Meas Tryd.prog B Q) (hw : Q 36 d) : ∃ (Ts : List Tbl) (av : AVal) (es : List (List AVal)), Rk 3 [] av es ∧ TblsV [] Ts es ∧ Ts.length ≤ B ∧ Rel (WF W) (fun _ => none) av v := by
  have hc : v.cells.toList = [v] := by
    unfold Value.okWide at hok; rw [Tryd.underlying36] at hok
    cases v <;> first | rfl | (simp [Cell.okWide, Cell.ok] at hok; done)
  obtain ⟨fuel, hf⟩ := h
  obtain ⟨av, hav, hrd⟩ := read_all tblTypes4_closed hQ fuel (by simp [tblTypes4]) hf hw
  rw [hc] at hrd
  obtain ⟨u, es, rfl, hu, hes, _, hB⟩ := hav.at_slice Tryd.underlying36
  obtain ⟨Ts, h1, h2⟩ := choose_list (p := fun i (T : Tbl) => TblV [] T (es.getD i [])) es.length fun i hi => by
    obtain ⟨T, ht, _⟩ := okv_tbl (hes i hi)
    exact ⟨T, ht⟩
  exact ⟨Ts, u, es, (rs_any (k := 3) (S := []) hu).rk, ⟨h1.symm, h2⟩, by omega, hrd.single⟩

set_option maxRecDepth 100000 in
theorem contract4 (H : Type) (enc : TypeId × Value → H) (W : World) (base : Nat) (args : Array Value) (ds gs : List (DataW H)) (before : List MemPlace)
    (hval : ∀ (j : Nat) t v, Tryd.f4.params[j]? = some t → args[j]? = some v → Value.okWide Tryd.prog W .any base t v)
    (hW : DataW.Whole enc Tryd.prog Tryd.f4.params.toList Rows.schemaOthersSpec.vars false W args.toList ds gs before)
    (hk : Rows.uptoSmall H (ds ++ gs) = true)
    (hwt : (DataW.weightsEach Tryd.prog (Tryd.f4.params.toList ++ Rows.schemaOthersSpec.plain.varTypes Tryd.prog) (ds ++ gs)).all (· ≤ reachBytes) = true) :
    Calls Tryd.prog 4 args W fun e W' => ∃ v, e = .returned v ∧ Rows.schemaOthersSpec.post enc Tryd.prog Tryd.f4 false true false false W args v W' := by
  have hW' := hW
  obtain ⟨p, q, hA0, hV, rfl, hfz, hnd⟩ := hW
  have hA : DataW.TrodAll enc Tryd.prog W 0 (fun _ => true) true Tryd.f4.params.toList args.toList ds p := hA0
  rw [Tryd.params4] at hA hval hwt
  obtain ⟨v0, v1, d0, d1, p0, p1, rfl, rfl, rfl, h0, h1⟩ := trodAll_two hA
  obtain ⟨rfl, rfl⟩ := trodVars_none hV
  have hsm : ∀ x, x ∈ (DataW.weightsEach Tryd.prog ([25, 36] ++ Rows.schemaOthersSpec.plain.varTypes Tryd.prog) ([d0, d1] ++ [])) → x ≤ reachBytes := fun x hx => by simpa using List.all_eq_true.1 hwt x hx
  have hbk : Rows.uptoBulk d0 ≤ 1048576 ∧ Rows.uptoBulk d1 ≤ 1048576 := by
    have h := of_decide_eq_true hk
    simp only [List.append_nil, Rows.uptoBulkAll] at h
    omega
  obtain ⟨T0, av0, ht0, hz0, hb0, hr0⟩ := arg_tbl (hval 0 25 v0 rfl rfl) h0 (measU Tryd.prog 1048576) ⟨fun x hx => hsm x (by simp [DataW.weightsEach, hx]), hbk.1⟩
  obtain ⟨Ts, av1, es1, hk1, hts1, hl1, hr1⟩ := arg_tbls (hval 1 36 v1 rfl rfl) h1 (measU Tryd.prog 1048576) ⟨fun x hx => hsm x (by simp [DataW.weightsEach, hx]), hbk.2⟩
  have hcalls := (w4 (w0 := W) ht0 hk1 hts1 (by omega)).2 (WF W) (fun _ => none) W #[v0, v1] (sim0 W) ⟨rfl, fun i hi => by
    have : i = 0 ∨ i = 1 := by simp at hi; omega
    rcases this with rfl | rfl
    · exact hr0
    · exact hr1⟩
  refine hcalls.mono fun e W' ⟨ae, F', m', S', he, hs, hrel, hR⟩ => ?_
  obtain ⟨rfl, rfl⟩ := hR
  cases e with
  | returned u =>
    have hu := (show Rel F' m' (.bool true) u from hrel).bool_inv
    subst hu
    have hb : Below W.heap.size W W' := hs.below
    have hlt0 : ∀ x ∈ p0, x.block < W.heap.size := fun x hx => by simpa using hW'.lt x (by simp [hx])
    have hlt1 : ∀ x ∈ p1, x.block < W.heap.size := fun x hx => by simpa using hW'.lt x (by simp [hx])
    refine ⟨_, rfl, post_below (pa := p0 ++ p1) (pv := []) hW' (fun _ _ _ => (trodAll_cons_mk (shut_bool Tryd.underlying4 _) trodAll_mk0)) (fun sp hsp => ?_) (fun _ _ => rfl) rfl hb (ok_one (by kernel_rfl) rfl (okWide_bool_mk Tryd.underlying4 _))⟩
    exact trodAll_mk2 (WideElems.Trod_stays laidOut0 (by kernel_rfl) (of_decide_eq_true (by kernel_rfl)) h0 (fun x hx => hb.same (hlt0 x hx)) (fun p hp => hsp p (by simp [hp]))) (WideElems.Trod_stays laidOut0 (by kernel_rfl) (of_decide_eq_true (by kernel_rfl)) h1 (fun x hx => hb.same (hlt1 x hx)) (fun p hp => hsp p (by simp [hp])))
  | _ => exact hrel.elim

set_option maxRecDepth 100000 in
theorem lifted4 (os : Os) (started : os.Started) (H : Type) (enc : TypeId × Value → H) (F : Stop.Interp) :
    ReturnsInHanded {} Tryd.checked os 4 .any ((Rows.OpenSpec.upto Rows.schemaOthersSpec).preRow enc Tryd.prog Tryd.f4 Rows.schemaOthersUptoRow.domain false Rows.schemaOthersUptoRow.laid) (((Rows.OpenSpec.upto Rows.schemaOthersSpec).at F).post enc Tryd.prog Tryd.f4 false true false false) := by
  have hx : ∃ places, DataW.whole enc Tryd.prog ((World.laidAll Tryd.prog os tabs).forCall (fun _ _ => 0) ⟨#[], #[.agg #[.string ⟨#[]⟩, .slice none 0 0, .slice none 0 0], .slice none 0 0], []⟩).memory Tryd.f4.params.toList Rows.schemaOthersSpec.vars false #[Value.agg #[.string ⟨#[]⟩, .slice none 0 0, .slice none 0 0], Value.slice none 0 0].toList 8 = some ([.agg [.lit (.string []), .nil, .nil], .nil], [], places) := ⟨[], by kernel_rfl⟩
  obtain ⟨places, hx⟩ := hx
  refine returnsInHanded_of_row (C := Tryd.checked) (s := Rows.OpenSpec.upto Rows.schemaOthersSpec) own3 started (by kernel_rfl) Tryd.func4
    (witness_row_shaped (enc := enc) (C := Tryd.checked) false (World.laidAll Tryd.prog os tabs) #[.agg #[.string ⟨#[]⟩, .slice none 0 0, .slice none 0 0], .slice none 0 0] (World.laidAll_os _ _ _) (World.shaped_of_ZipB (by kernel_rfl) (by kernel_rfl)) (by kernel_rfl)
      (OpenSpec.preRow_of_cond 8 hx (by kernel_rfl) (fun k hk => by cases hk; kernel_rfl) (by kernel_rfl) (tabs_met os _))) ?_
  intro W base args ds gs before hval hW _ hcond hwt _ _ _
  exact contract4 H enc W base args ds gs before hval hW (hcond _ rfl) hwt

theorem said4 : Rows.SchemaOthersUptoSaid :=
  OpenClaim.holds_of_cond 4 Tryd.f4 rfl rfl rfl rfl rfl rfl rfl ⟨rfl, rfl, rfl, rfl, rfl⟩ rfl rfl rfl rfl rfl (by kernel_rfl) Tryd.func4 (by kernel_rfl)
    (of_decide_eq_true (by kernel_rfl)) (by unfold Func.isWrapper; first | (rw [if_pos (by decide +kernel)]; kernel_rfl) | (rw [if_neg (by decide +kernel)]; exact ⟨rfl, rfl⟩))
    (fun os started H enc _ F => by rw [OpenClaim.pre_eq_preRow]; exact lifted4 os started H enc F)

theorem plain4 (f : FuncId) (fn : Func) (hf : Tryd.pinned.checked.prog.funcNamed "hasp/hasplaw15.SchemaOthers" = some f) (hfn : Tryd.pinned.checked.prog.funcs[f]? = some fn) :
    false = Tryd.pinned.checked.prog.looks [] ∧ ∀ (j : Nat) t, fn.params[j]? = some t → Tryd.pinned.checked.prog.wantsStandIn t = false := by
  obtain rfl : f = 4 := Option.some.inj ((show Tryd.prog.funcNamed "hasp/hasplaw15.SchemaOthers" = some 4 by kernel_rfl).symm.trans hf) |>.symm
  obtain rfl : fn = Tryd.f4 := (Option.some.inj (Tryd.func4.symm.trans hfn)).symm
  refine ⟨by kernel_rfl, fun j t ht => ?_⟩
  rw [Tryd.params4] at ht
  have hm : t ∈ [25, 36] := by simpa using Array.mem_of_getElem? ht
  have hall : ([25, 36].all fun u => !Tryd.prog.wantsStandIn u) = true := by kernel_rfl
  exact (show Tryd.prog.wantsStandIn t = false by simpa using List.all_eq_true.1 hall t hm)
end Go.Abs
namespace Go.Proofs.YtjoehmgnapdhaabDoor
theorem schemaOthers_proved : Rows.SchemaOthersUptoCardSaid :=
  Claim7.holds_tied_plain_at .later [] _ _ _ _ Go.Abs.said4 (fun _ h => by cases h) (by kernel_rfl) (fun _ h => by cases h) schemaOthersUpto_row_tie rfl ⟨rfl, rfl⟩ (by kernel_rfl) rfl Go.Abs.plain4 (by kernel_rfl)
end Go.Proofs.YtjoehmgnapdhaabDoor
