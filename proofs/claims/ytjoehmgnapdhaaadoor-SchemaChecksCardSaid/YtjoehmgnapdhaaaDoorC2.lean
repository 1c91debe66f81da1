/- The example of the document speaks true; so does LexNames. Conditions: none; lemmas. -/
import Derived.Test.YtjoehmgnapdhaaaDoorC1
set_option linter.unusedVariables false
namespace Go.Abs
open Go Go.RowKit Go.Proofs
set_option maxRecDepth 100000
theorem run9 (G : Nat → AVal) : callY ext (tbl G) 200 9 [] [] = some [(.ret (.bool true), [])] := by kernel_rfl
theorem run3 (G : Nat → AVal) : callY ext (tbl G) 200 3 [] [] = some [(.ret (.bool true), [])] := by kernel_rfl

theorem speaks9 (w0 : World) : ∀ S, ACalls Tryd.prog ⟨w0, fun _ => .top⟩ 9 [] S fun e S' => e = .ret (.bool true) ∧ S' = S := fun S =>
  ACalls.frame (fun _ => rfl) rfl fun w1 => callY_sound tryOrd ext_ok (tbl_c _) 200 9 [] [] _ (run9 _) _ (fun o ho => by
    rw [List.mem_singleton.1 ho]; exact ⟨rfl, rfl⟩)
theorem names3 (w0 : World) : ACalls Tryd.prog ⟨w0, fun _ => .top⟩ 3 [] [] fun e _ => e = .ret (.bool true) :=
  callY_sound tryOrd ext_ok (tbl_c _) 200 3 [] [] _ (run3 _) _ (fun o ho => by
    rw [List.mem_singleton.1 ho])
end Go.Abs
