/- A reading of edges and a number as the abstract machine's values. Conditions: none; lemmas. -/
import Derived.Test.YtjoehmgnapdhaaaW1
import Derived.Test.YtjoehmgnapdhaaaRows
import Derived.WalkKit
import Derived.ProofKit
import Derived.OpenShut
import Derived.JoinedCond
set_option linter.unusedSimpArgs false
set_option linter.unusedVariables false
namespace Go.Abs
open Go Go.RowKit Go.Proofs Go.Proofs.Ytjoehmgnapdhaaa

def F0 (W : World) : Frz := fun b x => W.cell? ⟨b, x, none⟩

section
variable {H : Type} {enc : TypeId × Value → H} {W : World} {base : Nat} {sp : Nat → Bool} {held : Bool}

theorem cells_spec {b : Nat} {a : Addr} {n : Nat} {cs : List Value} (h : W.cells? b a n = some cs) : cs.length = n ∧ ∀ i, i < n → W.cell? (a.add i) = some (cs.getD i undef) := by
  unfold World.cells? at h
  split at h
  · have h1 := mapM_some_length h
    have h2 := mapM_some_get h
    simp at h1
    refine ⟨h1, fun i hi => ?_⟩
    rw [h2 i i (by simp [hi]), List.getD_eq_getElem?_getD, List.getElem?_eq_getElem (by omega)]; rfl
  · cases h


theorem read3 {fuel : Nat} {cs : List Value} {d : DataW H} {ps : List MemPlace} (h : DataW.trod enc Try.prog W base sp held fuel 3 cs = some (d, ps)) : ∃ n : Int, cs = [.int .i64 n] := by
  cases fuel with
  | zero => simp [DataW.trod] at h
  | succ f =>
    simp only [DataW.trod, Try.underlying3] at h
    split at h <;> simp_all
theorem cellsOf3 : Try.prog.cellsOf 3 = 1 := by kernel_rfl
theorem bulk_pos (d : DataW H) : 1 ≤ Rows.uptoBulk d := by
  cases d with
  | lit l => cases l <;> simp [Rows.uptoBulk]
  | _ => simp [Rows.uptoBulk]


theorem cellsOf27 : Try.prog.cellsOf 27 = 2 := by kernel_rfl
theorem read27 {fuel : Nat} {cs : List Value} {d : DataW H} {ps : List MemPlace} (h : DataW.trod enc Try.prog W base sp held fuel 27 cs = some (d, ps)) : ∃ a b : Int, cs = [.int .i64 a, .int .i64 b] ∧ 2 ≤ Rows.uptoBulk d := by
  cases fuel with
  | zero => simp [DataW.trod] at h
  | succ f =>
    simp only [DataW.trod, Try.underlying27] at h
    split at h <;> try (simp_all; done)
    rename_i hlen
    rw [cellsOf27] at hlen
    simp only [Option.map_eq_some_iff] at h
    obtain ⟨xs, hx, he⟩ := h
    have hxl := mapM_some_length hx
    have g := mapM_some_get hx
    obtain ⟨x0, x1, rfl⟩ : ∃ x0 x1, xs = [x0, x1] := by
      match xs, hxl with
      | [a, b], _ => exact ⟨a, b, rfl⟩
    obtain ⟨c0, c1, rfl⟩ : ∃ c0 c1, cs = [c0, c1] := by
      match cs, hlen with
      | [a, b], _ => exact ⟨a, b, rfl⟩
    have g0 := g 0 _ rfl
    have g1 := g 1 _ rfl
    simp [cellsOf3] at g0 g1
    obtain ⟨k, h0⟩ := read3 g0
    obtain ⟨n, h1⟩ := read3 g1
    simp at h0 h1
    refine ⟨k, n, by rw [h0, h1], ?_⟩
    simp only [Prod.mk.injEq] at he
    rw [← he.1]
    have b0 := bulk_pos x0.1
    have b1 := bulk_pos x1.1
    simp only [Rows.uptoBulk, Rows.uptoBulkAll, List.map_cons, List.map_nil]
    omega

theorem elems27 {f : Nat} {a : Addr} : ∀ (is : List Nat) {xs : List (DataW H × List MemPlace)},
    is.mapM (fun i => (W.cells? 0 (a.add (i * 2)) 2).bind (DataW.trod enc Try.prog W 0 sp held f 27)) = some xs →
    ∃ (E : List (Int × Int)), E.length = is.length ∧ 2 * E.length ≤ Rows.uptoBulkAll (xs.map (·.1)) ∧
      ∀ (j : Nat) (hj : j < is.length) (hj1 : j < E.length), ∀ q, q < 2 → ∃ v, W.cell? ((a.add (is[j] * 2)).add q) = some v ∧ v.oneCell' = true ∧ Rel (F0 W) (fun _ => none) (cellAt (edgs E) j q) v
  | [], xs, h => by
    simp at h; subst h
    exact ⟨[], rfl, by simp [Rows.uptoBulkAll], fun j hj => by simp at hj⟩
  | i :: r, xs, h => by
    simp only [List.mapM_cons, Option.bind_eq_bind, Option.bind_eq_some_iff, Option.pure_def, Option.some.injEq] at h
    obtain ⟨x, ⟨cs, hcs, hx⟩, ys, hys, rfl⟩ := h
    obtain ⟨d, ps⟩ := x
    obtain ⟨p, q, rfl, hsz⟩ := read27 hx
    obtain ⟨E, e1, e3, e4⟩ := elems27 r hys
    obtain ⟨hcl, hcell⟩ := cells_spec hcs
    refine ⟨(p, q) :: E, by simp [e1], by simp only [List.length_cons, List.map_cons, Rows.uptoBulkAll]; omega, fun j hj hj1 => ?_⟩
    cases j with
    | zero =>
      intro u hu
      match u, hu with
      | 0, _ => exact ⟨_, hcell 0 (by omega), rfl, .atom _⟩
      | 1, _ => exact ⟨_, hcell 1 (by omega), rfl, .atom _⟩
    | succ j => exact e4 j (by simpa using hj) (by simpa using hj1)

/-- A slice of edges. -/
theorem read22 {f : Nat} {c2 : Value} {d : DataW H} {ps : List MemPlace}
    (h : DataW.trod enc Try.prog W 0 sp held (f + 1) 22 [c2] = some (d, ps)) : ∃ (E : List (Int × Int)) (v : AVal), (v = .nilS ∧ E = [] ∨ v = .list .any (edgs E)) ∧
      Rel (F0 W) (fun _ => none) v c2 ∧ c2.oneCell' = true ∧ 2 * E.length ≤ Rows.uptoBulk d := by
  simp only [DataW.trod, Try.underlying22] at h
  split at h <;> try (simp_all; done)
  · rename_i hc
    simp only [List.cons.injEq, and_true] at hc
    subst hc
    exact ⟨[], .nilS, .inl ⟨rfl, rfl⟩, .nil 0 rfl, rfl, by simp⟩
  · rename_i e hu a len cap hu' hc
    simp only [List.cons.injEq, and_true] at hc
    subst hc
    simp only [Option.some.injEq, TypeDesc.slice.injEq] at hu'
    subst hu'
    rw [cellsOf27] at h
    split at h
    rotate_left 1
    · cases h
    rename_i hcond
    simp only [Option.bind_eq_some_iff, Option.map_eq_some_iff] at h
    obtain ⟨xs, hxs, rest, hrest, he⟩ := h
    obtain ⟨E, e1, e3, e4⟩ := elems27 (enc := enc) (sp := sp) (held := held) _ hxs
    simp only [List.length_range] at e1 e4
    have hrow : ∀ (j q : Nat), j < len → q < 2 → ∃ v, W.cell? ((a.add (j * 2)).add q) = some v ∧ v.oneCell' = true ∧ Rel (F0 W) (fun _ => none) (cellAt (edgs E) j q) v := fun j q hj hq => by
      have := e4 j hj (by omega) q hq
      simpa using this
    have hadd : ∀ j q, 0 < len → j < len → q < 2 → a.spot = none ∧ (a.add (j * 2)).add q = ⟨a.block, a.off + (j * 2 + q), none⟩ := fun j q h0 hj hq => by
      obtain ⟨v, hv, _⟩ := hrow 0 0 h0 (by omega)
      have hs : a.spot = none := by
        simp [Addr.add, World.cell?] at hv
        split at hv
        · split at hv
          · cases hv
          · rename_i hh; simpa using hh
        · cases hv
      refine ⟨hs, ?_⟩
      obtain ⟨ab, ao, as'⟩ := a
      simp only at hs
      subst hs
      unfold Addr.add
      by_cases h1 : j * 2 = 0 <;> by_cases h2 : q = 0 <;> simp [h1, h2] <;> omega
    let vs : Nat → Nat → Value := fun j q => (W.cell? ⟨a.block, a.off + (j * 2 + q), none⟩).getD undef
    have hvs : ∀ j q, j < len → q < 2 → W.cell? ⟨a.block, a.off + (j * 2 + q), none⟩ = some (vs j q) ∧ (vs j q).oneCell' = true ∧ Rel (F0 W) (fun _ => none) (cellAt (edgs E) j q) (vs j q) := fun j q hj hq => by
      obtain ⟨v, hv, h1, hr⟩ := hrow j q hj hq
      rw [(hadd j q (by omega) hj hq).2] at hv
      have : vs j q = v := by simp [vs, hv]
      rw [this]; exact ⟨hv, h1, hr⟩
    refine ⟨E, .list .any (edgs E), .inr rfl, ?_, rfl, ?_⟩
    · refine .list .any (edgs E) (some a) len cap a.block a.off 2 vs (by simp) (by simp; omega) hcond.2.1 (by simp [Fl.isFull]) (fun e he => ?_) (by omega) (fun _ => rfl) (fun h => by cases h) (fun hne => ?_) (fun j q hj hq => (hvs j q (by simp at hj; omega) hq).2.1) (fun j q hj hq => (hvs j q (by simp at hj; omega) hq).1) (fun j q hj hq => (hvs j q (by simp at hj; omega) hq).2.2)
      · simp only [edgs, List.mem_map] at he
        obtain ⟨i, _, rfl⟩ := he
        rfl
      · have h0 : 0 < len := by
          have : (edgs E).length ≠ 0 := fun h => hne (List.eq_nil_of_length_eq_zero h)
          simp at this
          have : E.length ≠ 0 := fun h => this (List.eq_nil_of_length_eq_zero h)
          omega
        have := (hadd 0 0 h0 h0 (by omega)).1
        obtain ⟨ab, ao, as'⟩ := a
        simp only at this
        subst this
        rfl
    · simp only [Prod.mk.injEq] at he
      rw [← he.1]
      simp only [Rows.uptoBulk]
      omega
end
end Go.Abs
