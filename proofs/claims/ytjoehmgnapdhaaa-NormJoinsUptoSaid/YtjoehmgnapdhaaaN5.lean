/- The example of the document (speaks) answers true over any memory. Conditions: none. -/
import Derived.Test.YtjoehmgnapdhaaaN4
import Derived.KernelRfl
namespace Go.Abs
open Go Go.RowKit Go.Proofs
def tbl (G : Nat → AVal) : FuncId → Option AFn
  | 17 => some (f17 G) | 18 => some (f18 G) | 19 => some (f19 G) | 20 => some (f20 G) | 29 => some (f29 G) | 30 => some (f30 G) | 31 => some (f31 G) | 32 => some (f32 G) | 33 => some (f33 G) | 34 => some (f34 G)
  | 35 => some (f35 G) | 36 => some (f36 G) | 37 => some (f37 G) | 39 => some (f39 G) | 40 => some (f40 G) | 41 => some (f41 G) | 42 => some (f42 G) | 43 => some (f43 G) | 44 => some (f44 G) | 45 => some (f45 G) | 46 => some (f46 G)
  | 52 => some (f52 G) | 55 => some (f55 G) | 56 => some (f56 G) | 62 => some (f62 G) | 11 => some (f11 G)
  | _ => none

theorem tbl_c (G : Nat → AVal) : ∀ f fn, tbl G f = some fn → ∃ rows, cmpFn Try.prog G rows f = some fn := by
  intro f fn h
  unfold tbl at h
  split at h
  · simp only [Option.some.injEq] at h; rw [← h]; exact ⟨_, f17_c G⟩
  · simp only [Option.some.injEq] at h; rw [← h]; exact ⟨_, f18_c G⟩
  · simp only [Option.some.injEq] at h; rw [← h]; exact ⟨_, f19_c G⟩
  · simp only [Option.some.injEq] at h; rw [← h]; exact ⟨_, f20_c G⟩
  · simp only [Option.some.injEq] at h; rw [← h]; exact ⟨_, f29_c G⟩
  · simp only [Option.some.injEq] at h; rw [← h]; exact ⟨_, f30_c G⟩
  · simp only [Option.some.injEq] at h; rw [← h]; exact ⟨_, f31_c G⟩
  · simp only [Option.some.injEq] at h; rw [← h]; exact ⟨_, f32_c G⟩
  · simp only [Option.some.injEq] at h; rw [← h]; exact ⟨_, f33_c G⟩
  · simp only [Option.some.injEq] at h; rw [← h]; exact ⟨_, f34_c G⟩
  · simp only [Option.some.injEq] at h; rw [← h]; exact ⟨_, f35_c G⟩
  · simp only [Option.some.injEq] at h; rw [← h]; exact ⟨_, f36_c G⟩
  · simp only [Option.some.injEq] at h; rw [← h]; exact ⟨_, f37_c G⟩
  · simp only [Option.some.injEq] at h; rw [← h]; exact ⟨_, f39_c G⟩
  · simp only [Option.some.injEq] at h; rw [← h]; exact ⟨_, f40_c G⟩
  · simp only [Option.some.injEq] at h; rw [← h]; exact ⟨_, f41_c G⟩
  · simp only [Option.some.injEq] at h; rw [← h]; exact ⟨_, f42_c G⟩
  · simp only [Option.some.injEq] at h; rw [← h]; exact ⟨_, f43_c G⟩
  · simp only [Option.some.injEq] at h; rw [← h]; exact ⟨_, f44_c G⟩
  · simp only [Option.some.injEq] at h; rw [← h]; exact ⟨_, f45_c G⟩
  · simp only [Option.some.injEq] at h; rw [← h]; exact ⟨_, f46_c G⟩
  · simp only [Option.some.injEq] at h; rw [← h]; exact ⟨_, f52_c G⟩
  · simp only [Option.some.injEq] at h; rw [← h]; exact ⟨_, f55_c G⟩
  · simp only [Option.some.injEq] at h; rw [← h]; exact ⟨_, f56_c G⟩
  · simp only [Option.some.injEq] at h; rw [← h]; exact ⟨_, f62_c G⟩
  · simp only [Option.some.injEq] at h; rw [← h]; exact ⟨_, f11_c G⟩
  · cases h
set_option maxRecDepth 100000
theorem run17 (G : Nat → AVal) : callX (tbl G) 60 17 [] [] = some [(.ret (.bool true), [])] := by kernel_rfl
theorem speaks17 (w0 : World) : ∀ S, ACalls Try.prog ⟨w0, fun _ => .top⟩ 17 [] S fun e S' => e = .ret (.bool true) ∧ S' = S := fun S =>
  ACalls.frame (fun _ => rfl) rfl fun w1 => callX_sound tryOrders (tbl := tbl fun _ => .top) (tbl_c _) 60 17 [] [] _ (run17 _) _ (fun o ho => by
    rw [List.mem_singleton.1 ho]; exact ⟨rfl, rfl⟩)
end Go.Abs
