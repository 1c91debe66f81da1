/- The lexer, run: the example of the document. Conditions: none; definitions and lemmas. -/
import Derived.Test.YtjoehmgnapdhaabDoorF1
import Derived.Test.YtjoehmgnapdhaabDoorV1
import Derived.Test.YtjoehmgnapdhaabDoorA32
import Derived.KernelRfl
set_option linter.unusedSimpArgs false
set_option linter.unusedVariables false
namespace Go.Abs
open Go Go.RowKit Go.Proofs
def tbl (G : Nat → AVal) : FuncId → Option AFn
  | 54 => some (f54 G)
  | 32 => some (f32 G)
  | 50 => some (f50 G)
  | 67 => some (f67 G)
  | 51 => some (f51 G)
  | 52 => some (f52 G)
  | 65 => some (f65 G)
  | 66 => some (f66 G)
  | 26 => some (f26 G)
  | _ => none

theorem tbl_c (G : Nat → AVal) : ∀ f fn, tbl G f = some fn → ∃ rows, cmpFn Tryd.prog G rows f = some fn := by
  intro f fn h
  unfold tbl at h
  split at h
  · simp only [Option.some.injEq] at h; rw [← h]; exact ⟨_, f54_c G⟩
  · simp only [Option.some.injEq] at h; rw [← h]; exact ⟨_, f32_c G⟩
  · simp only [Option.some.injEq] at h; rw [← h]; exact ⟨_, f50_c G⟩
  · simp only [Option.some.injEq] at h; rw [← h]; exact ⟨_, f67_c G⟩
  · simp only [Option.some.injEq] at h; rw [← h]; exact ⟨_, f51_c G⟩
  · simp only [Option.some.injEq] at h; rw [← h]; exact ⟨_, f52_c G⟩
  · simp only [Option.some.injEq] at h; rw [← h]; exact ⟨_, f65_c G⟩
  · simp only [Option.some.injEq] at h; rw [← h]; exact ⟨_, f66_c G⟩
  · simp only [Option.some.injEq] at h; rw [← h]; exact ⟨_, f26_c G⟩
  · cases h

/-- The calls whose contracts are known. -/
def ext : FuncId → List AVal → Option AVal
  | 53, [.str l] => if l.all (fun b => decide (b.toNat < 128)) && decide (l.length ≤ 140737488355328) then some (.str (Lib.toLowerA l)) else none
  | _, _ => none

theorem vs_one {F m} {x : AVal} {vs : Array Value} (h : RelL F m [x] vs) : ∃ v, vs = #[v] ∧ Rel F m x v := by
  obtain ⟨hl, hg⟩ := h
  obtain ⟨l⟩ := vs
  match l, hl with
  | [v], _ => exact ⟨v, rfl, hg 0 (by simp)⟩
theorem vs_two {F m} {x y : AVal} {vs : Array Value} (h : RelL F m [x, y] vs) : ∃ u v, vs = #[u, v] ∧ Rel F m x u ∧ Rel F m y v := by
  obtain ⟨hl, hg⟩ := h
  obtain ⟨l⟩ := vs
  match l, hl with
  | [u, v], _ => exact ⟨u, v, rfl, hg 0 (by simp), hg 1 (by simp)⟩

theorem ext_ok {β : Base} : ∀ f args v, ext f args = some v → ∀ S, ACalls Tryd.prog β f args S fun e S' => e = .ret v ∧ S' = S := by
  intro f args v h S
  unfold ext at h
  split at h
  · rename_i l
    split at h
    · rename_i hc
      simp only [Bool.and_eq_true, decide_eq_true_eq, List.all_eq_true] at hc
      simp only [Option.some.injEq] at h
      subst h
      refine ACalls.lift (by kernel_rfl) fun F m vs w hv => ?_
      obtain ⟨u, rfl, hu⟩ := vs_one hv
      obtain rfl := hu.str_inv
      refine (Tryd.strings_ToLower_ascii ⟨l.toArray⟩ w (by simpa [ByteArray.size] using hc.2) (fun j b hb => hc.1 b (by simpa using List.mem_of_getElem? hb))).mono fun e w' ⟨he, hb⟩ => ?_
      exact ⟨_, he, .str _, hb⟩
    · cases h
  · cases h

theorem tryOrd : Tryd.prog.follows .mixedOrders = true := by kernel_rfl
end Go.Abs
