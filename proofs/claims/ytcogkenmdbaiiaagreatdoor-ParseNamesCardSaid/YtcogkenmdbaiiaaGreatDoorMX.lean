/- Walks of the statements' functions. Conditions: none but the lengths; definitions and lemmas. -/
import Derived.Test.YtcogkenmdbaiiaaGreatDoorMW
set_option linter.unusedSimpArgs false
set_option linter.unusedVariables false
namespace Go.Abs
open Go Go.RowKit Go.Proofs Go.Lx Go.Pz
variable {w0 : World}
theorem w3 : ACalls Tryz.prog (B0 w0) 3 [] [] fun e S' => e = .ret (.bool true) := by
  refine fn_sound tryOrd (f3_c _) (by simp [f3]) ?_
  simp [f3, f3m]
  refine (w8 _).use ?_
  rintro e S1 ⟨rfl, rfl⟩
  simp
end Go.Abs
