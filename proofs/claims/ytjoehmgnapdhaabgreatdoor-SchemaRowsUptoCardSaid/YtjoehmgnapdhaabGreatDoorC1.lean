/- The lexer, run: the example of the document. Conditions: none; definitions and lemmas. -/
import Derived.Test.YtjoehmgnapdhaabGreatDoorF1
import Derived.Test.YtjoehmgnapdhaabGreatDoorV1
import Derived.Test.YtjoehmgnapdhaabGreatDoorA32
import Derived.KernelRfl
set_option linter.unusedSimpArgs false
set_option linter.unusedVariables false
namespace Go.Abs
open Go Go.RowKit Go.Proofs
def tbl (G : Nat → AVal) : FuncId → Option AFn
  | 67 => some (f67 G)
  | 55 => some (f55 G)
  | 26 => some (f26 G)
  | 84 => some (f84 G)
  | 85 => some (f85 G)
  | 51 => some (f51 G)
  | 86 => some (f86 G)
  | 78 => some (f78 G)
  | 87 => some (f87 G)
  | 88 => some (f88 G)
  | 52 => some (f52 G)
  | 53 => some (f53 G)
  | 109 => some (f109 G)
  | 110 => some (f110 G)
  | 111 => some (f111 G)
  | 113 => some (f113 G)
  | 115 => some (f115 G)
  | 116 => some (f116 G)
  | 76 => some (f76 G)
  | 77 => some (f77 G)
  | 47 => some (f47 G)
  | 138 => some (f138 G)
  | 141 => some (f141 G)
  | _ => none

theorem tbl_c (G : Nat → AVal) : ∀ f fn, tbl G f = some fn → ∃ rows, cmpFn Tryz.prog G rows f = some fn := by
  intro f fn h
  unfold tbl at h
  split at h
  · simp only [Option.some.injEq] at h; rw [← h]; exact ⟨_, f67_c G⟩
  · simp only [Option.some.injEq] at h; rw [← h]; exact ⟨_, f55_c G⟩
  · simp only [Option.some.injEq] at h; rw [← h]; exact ⟨_, f26_c G⟩
  · simp only [Option.some.injEq] at h; rw [← h]; exact ⟨_, f84_c G⟩
  · simp only [Option.some.injEq] at h; rw [← h]; exact ⟨_, f85_c G⟩
  · simp only [Option.some.injEq] at h; rw [← h]; exact ⟨_, f51_c G⟩
  · simp only [Option.some.injEq] at h; rw [← h]; exact ⟨_, f86_c G⟩
  · simp only [Option.some.injEq] at h; rw [← h]; exact ⟨_, f78_c G⟩
  · simp only [Option.some.injEq] at h; rw [← h]; exact ⟨_, f87_c G⟩
  · simp only [Option.some.injEq] at h; rw [← h]; exact ⟨_, f88_c G⟩
  · simp only [Option.some.injEq] at h; rw [← h]; exact ⟨_, f52_c G⟩
  · simp only [Option.some.injEq] at h; rw [← h]; exact ⟨_, f53_c G⟩
  · simp only [Option.some.injEq] at h; rw [← h]; exact ⟨_, f109_c G⟩
  · simp only [Option.some.injEq] at h; rw [← h]; exact ⟨_, f110_c G⟩
  · simp only [Option.some.injEq] at h; rw [← h]; exact ⟨_, f111_c G⟩
  · simp only [Option.some.injEq] at h; rw [← h]; exact ⟨_, f113_c G⟩
  · simp only [Option.some.injEq] at h; rw [← h]; exact ⟨_, f115_c G⟩
  · simp only [Option.some.injEq] at h; rw [← h]; exact ⟨_, f116_c G⟩
  · simp only [Option.some.injEq] at h; rw [← h]; exact ⟨_, f76_c G⟩
  · simp only [Option.some.injEq] at h; rw [← h]; exact ⟨_, f77_c G⟩
  · simp only [Option.some.injEq] at h; rw [← h]; exact ⟨_, f47_c G⟩
  · simp only [Option.some.injEq] at h; rw [← h]; exact ⟨_, f138_c G⟩
  · simp only [Option.some.injEq] at h; rw [← h]; exact ⟨_, f141_c G⟩
  · cases h

/-- The calls whose contracts are known. -/
def ext : FuncId → List AVal → Option AVal
  | 54, [.str l] => if l.all (fun b => decide (b.toNat < 128)) && decide (l.length ≤ 140737488355328) then some (.str (Lib.toLowerA l)) else none
  | 114, [.str l, .atom (.int .u8 c)] => some (.int (Lib.indexByte l c.toNat.toUInt8))
  | _, _ => none

theorem vs_one {F m} {x : AVal} {vs : Array Value} (h : RelL F m [x] vs) : ∃ v, vs = #[v] ∧ Rel F m x v := by
  obtain ⟨hl, hg⟩ := h
  obtain ⟨l⟩ := vs
  match l, hl with
  | [v], _ => exact ⟨v, rfl, hg 0 (by simp)⟩
theorem vs_two {F m} {x y : AVal} {vs : Array Value} (h : RelL F m [x, y] vs) : ∃ u v, vs = #[u, v] ∧ Rel F m x u ∧ Rel F m y v := by
  obtain ⟨hl, hg⟩ := h
  obtain ⟨l⟩ := vs
  match l, hl with
  | [u, v], _ => exact ⟨u, v, rfl, hg 0 (by simp), hg 1 (by simp)⟩

theorem ext_ok {β : Base} : ∀ f args v, ext f args = some v → ∀ S, ACalls Tryz.prog β f args S fun e S' => e = .ret v ∧ S' = S := by
  intro f args v h S
  unfold ext at h
  split at h
  · rename_i l
    split at h
    · rename_i hc
      simp only [Bool.and_eq_true, decide_eq_true_eq, List.all_eq_true] at hc
      simp only [Option.some.injEq] at h
      subst h
      refine ACalls.lift (by kernel_rfl) fun F m vs w hv => ?_
      obtain ⟨u, rfl, hu⟩ := vs_one hv
      obtain rfl := hu.str_inv
      refine (Tryz.strings_ToLower_ascii ⟨l.toArray⟩ w (by simpa [ByteArray.size] using hc.2) (fun j b hb => hc.1 b (by simpa using List.mem_of_getElem? hb))).mono fun e w' ⟨he, hb⟩ => ?_
      exact ⟨_, he, .str _, hb⟩
    · cases h
  · rename_i l c
    simp only [Option.some.injEq] at h
    subst h
    refine ACalls.lift (by kernel_rfl) fun F m vs w hv => ?_
    obtain ⟨u1, u2, rfl, h1, h2⟩ := vs_two hv
    obtain rfl := h1.str_inv
    obtain rfl := h2.int_inv
    refine (Tryz.strings_IndexByte ⟨l.toArray⟩ c w).mono fun e w' ⟨he, hw⟩ => ?_
    subst hw
    exact ⟨_, he, .atom _, Below.refl _ _⟩
  · cases h

theorem tryOrd : Tryz.prog.follows .mixedOrders = true := by kernel_rfl
end Go.Abs
