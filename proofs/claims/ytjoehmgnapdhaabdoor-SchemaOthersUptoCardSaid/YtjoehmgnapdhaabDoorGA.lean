/- What bridges of this seat share: the tables, and what the bounds give. Conditions: none; definitions and lemmas. -/
import Derived.Test.YtjoehmgnapdhaabDoorEA
import Derived.Test.YtjoehmgnapdhaabDoorA30
import Derived.Test.YtjoehmgnapdhaabDoorCards
import Derived.Test.YtjoehmgnapdhaabDoorTie
import Derived.ProofKit
import Derived.OpenShut
import Derived.LaidMore
import Derived.Lay
import Derived.SevenTiedAt
import Derived.Stop.Joined
import Derived.Deep.DeepHandedRow
namespace Go.Abs
open Go Go.RowKit Go.Lx Go.Proofs Go.Proofs.YtjoehmgnapdhaabDoor Go.ChangeShapes Go.WideShapes Go.ChangeAt Go.ChangeMaps
set_option linter.unusedVariables false

theorem own3 : ownKnob Tryd.prog.godebug = none := by kernel_rfl
theorem laidOut0 : laidOutB Tryd.prog = true := by kernel_rfl
theorem rel_text {F : Frz} {m : Pls} (s : ByteArray) : Rel F m (.str s.data.toList) (.string s) := by
  have := Rel.str (F := F) (m := m) s.data.toList
  simpa using this
def tabs : List (String × DataW Unit) := [("unicode/utf8.acceptRanges", Rows.laid_unicode_utf8_acceptRanges), ("unicode.CaseRanges", Rows.laid_unicode_CaseRanges), ("unicode/utf8.first", Rows.laid_unicode_utf8_first)]
set_option maxRecDepth 100000 in
theorem tabs_met (os : Os) (args : Array Value) : laidMetH Tryd.prog tabs ((World.laidAll Tryd.prog os tabs).forCall (fun _ _ => 0) ⟨#[], args, []⟩).memory := by
  rw [MakeChecks.laidMetH_plain _ _ _ (by kernel_rfl)]; exact laidMet_laidAll _ (by kernel_rfl) (by kernel_rfl)

theorem sim0 (W : World) : Sim ⟨W, fun _ => .top⟩ (WF W) (fun _ => none) [] W :=
  ⟨Below.refl _ _, fun _ => .top _, fun b x v h => h, fun id o h => by simp at h, fun id id' o o' p p' h => by simp at h, fun _ _ => rfl⟩
theorem witness_row_shaped {H : Type} {enc : TypeId × Value → H} {C : Checked} {os : Os} {f : FuncId} {fn : Func} {s : OpenSpec} {conds : List PathCond} {apart : Bool} {laid : List (String × DataW Unit)} (modest : Bool) (w0 : World) (args : Array Value) (hos : w0.os = os)
    (hsh : (w0.forCall (fun _ _ => 0) ⟨#[], args, []⟩).Shaped C.prog)
    (hok : Input.okWideB C.prog (w0.forCall (fun _ _ => 0) ⟨#[], args, []⟩) f ⟨#[], args, []⟩ = true)
    (hrow : s.preRow enc C.prog fn conds apart laid (w0.forCall (fun _ _ => 0) ⟨#[], args, []⟩).memory args) :
    ∃ (w : World) (tape : Tape) (i : Input), w.os = os ∧ (w.forCall tape i).Shaped C.prog ∧ i.vars = [] ∧ Input.okWide C.prog (w.forCall tape i) .any w.heap.size f i ∧
      s.preRow enc C.prog fn conds apart laid (w.forCall tape i).memory i.args ∧ ({ modest := modest } : Assume).holds C.prog (lone (Frame.enter C.prog f i.args .normal) [] (w.forCall tape i)) :=
  ⟨w0, fun _ _ => 0, ⟨#[], args, []⟩, hos, hsh, (Input.okWide_of_okWideB (base := 0) hok).1, (Input.okWide_of_okWideB hok).2, hrow, by
    simp only [Assume.holds]
    exact ⟨by simp, by simp, fun _ => Modest.zero, by simp, by simp⟩⟩
/-! ### What a reading holds -/
section
variable {H : Type}
theorem weightsAll_mem {P : Program} {e : TypeId} : ∀ {l : List (DataW H)} {d : DataW H}, d ∈ l → ∀ x ∈ d.weights P e, x ∈ DataW.weightsAll P e l
  | a :: r, d, h, x, hx => by
    rw [DataW.weightsAll]
    rcases List.mem_cons.1 h with rfl | h
    · exact List.mem_append_left _ hx
    · exact List.mem_append_right _ (weightsAll_mem h x hx)
theorem weightsEach_mem {P : Program} : ∀ {ts : List TypeId} {l : List (DataW H)} {i : Nat} (hi : i < ts.length) (hx : i < l.length), ∀ x ∈ (l[i]).weights P ts[i], x ∈ DataW.weightsEach P ts l
  | t :: ts, d :: l, 0, _, _, x, hx => by rw [DataW.weightsEach]; exact List.mem_append_left _ hx
  | t :: ts, d :: l, i + 1, hi, hl, x, hx => by
    rw [DataW.weightsEach]
    exact List.mem_append_right _ (weightsEach_mem (i := i) (by simpa using hi) (by simpa using hl) x (by simpa using hx))

/-- A bound of each part's weight: what every form gives. -/
theorem measS (P : Program) : Meas (H := H) P reachBytes (fun t d => Small (d.weights P t)) where
  str := fun {t bs} h => h _ (by simp [DataW.weights])
  sl := fun {t e xs ys} hu h0 h => by
    have h1 : (xs.length + ys.length) * P.bytesOf e ≤ reachBytes := h _ (by simp [DataW.weights, hu])
    have h2 : xs.length * P.bytesOf e ≤ (xs.length + ys.length) * P.bytesOf e := Nat.mul_le_mul_right _ (by omega)
    have h3 : xs.length ≤ xs.length * P.bytesOf e := Nat.le_mul_of_pos_right _ h0
    refine ⟨by omega, by omega, fun x hx y hy => h y ?_⟩
    simp only [DataW.weights, hu]
    exact List.mem_cons_of_mem _ (List.mem_append_left _ (weightsAll_mem hx y hy))
  ag := fun {t fs xs} hu h i hi hx y hy => h y (by
    simp only [DataW.weights, hu]
    exact weightsEach_mem (i := i) (by simpa using hi) hx y (by simpa using hy))

open Rows in
theorem bulk_one (d : DataW H) : 1 ≤ uptoBulk d := by
  cases d with
  | lit l => cases l <;> simp [uptoBulk]
  | _ => simp [uptoBulk]
open Rows in
theorem bulk_mem {d : DataW H} {l : List (DataW H)} (h : d ∈ l) : uptoBulk d ≤ uptoBulkAll l := by
  induction l with
  | nil => cases h
  | cons x r ih =>
    simp only [uptoBulkAll]
    cases List.mem_cons.1 h with
    | inl e => subst e; omega
    | inr e => have := ih e; omega
open Rows in
theorem bulk_len (l : List (DataW H)) : l.length ≤ uptoBulkAll l := by
  induction l with
  | nil => simp [uptoBulkAll]
  | cons x r ih => have := bulk_one x; simp only [uptoBulkAll, List.length_cons]; omega

/-- ... and a bound of the whole: what the second form gives. -/
theorem measU (P : Program) (N : Nat) : Meas (H := H) P N (fun t d => Small (d.weights P t) ∧ Rows.uptoBulk d ≤ N) where
  str := fun {t bs} h => by
    have := h.2
    simp only [Rows.uptoBulk] at this
    omega
  sl := fun {t e xs ys} hu h0 h => by
    have h2 := h.2
    simp only [Rows.uptoBulk] at h2
    have h3 := bulk_len xs
    refine ⟨((measS P).sl hu h0 h.1).1, by omega, fun x hx => ⟨((measS P).sl hu h0 h.1).2.2 x hx, ?_⟩⟩
    have := bulk_mem hx
    omega
  ag := fun {t fs xs} hu h i hi hx => ⟨(measS P).ag hu h.1 i hi hx, by
    have h2 := h.2
    simp only [Rows.uptoBulk] at h2
    have := bulk_mem (List.getElem_mem hx)
    omega⟩
end

end Go.Abs
