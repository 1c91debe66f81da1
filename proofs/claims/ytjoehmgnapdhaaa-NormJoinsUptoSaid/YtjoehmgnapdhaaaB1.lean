/- A reading of an api.Code as the abstract machine's value. Conditions: none; lemmas. -/
import Derived.Test.YtjoehmgnapdhaaaN4
import Derived.Test.YtjoehmgnapdhaaaRows
import Derived.WalkKit
import Derived.ProofKit
import Derived.OpenShut
import Derived.JoinedCond
namespace Go.Abs
open Go Go.RowKit Go.Proofs Go.Proofs.Ytjoehmgnapdhaaa

def F0 (W : World) : Frz := fun b x => W.cell? ⟨b, x, none⟩

def RdC (W : World) (cs : List Value) (av : List AVal) : Prop := cs.length = av.length ∧ ∀ i, i < av.length → (cs.getD i undef).oneCell' = true ∧ Rel (F0 W) (fun _ => none) (av.getD i .top) (cs.getD i undef)

section
variable {H : Type} {enc : TypeId × Value → H} {W : World} {base : Nat} {sp : Nat → Bool} {held : Bool}

theorem cells_spec {b : Nat} {a : Addr} {n : Nat} {cs : List Value} (h : W.cells? b a n = some cs) : cs.length = n ∧ ∀ i, i < n → W.cell? (a.add i) = some (cs.getD i undef) := by
  unfold World.cells? at h
  split at h
  · have h1 := mapM_some_length h
    have h2 := mapM_some_get h
    simp at h1
    refine ⟨h1, fun i hi => ?_⟩
    rw [h2 i i (by simp [hi]), List.getD_eq_getElem?_getD, List.getElem?_eq_getElem (by omega)]; rfl
  · cases h

theorem read3 {fuel : Nat} {cs : List Value} {d : DataW H} {ps : List MemPlace} (h : DataW.trod enc Try.prog W base sp held fuel 3 cs = some (d, ps)) : ∃ n : Int, cs = [.int .i64 n] := by
  cases fuel with
  | zero => simp [DataW.trod] at h
  | succ f =>
    simp only [DataW.trod, Try.underlying3] at h
    split at h <;> simp_all
theorem read2 {fuel : Nat} {cs : List Value} {d : DataW H} {ps : List MemPlace} (h : DataW.trod enc Try.prog W base sp held fuel 2 cs = some (d, ps)) : ∃ n : Int, cs = [.int .i64 n] := by
  cases fuel with
  | zero => simp [DataW.trod] at h
  | succ f =>
    simp only [DataW.trod, Try.underlying2] at h
    split at h <;> simp_all
theorem read9 {fuel : Nat} {cs : List Value} {d : DataW H} {ps : List MemPlace} (h : DataW.trod enc Try.prog W base sp held fuel 9 cs = some (d, ps)) : ∃ s : ByteArray, cs = [.string s] := by
  cases fuel with
  | zero => simp [DataW.trod] at h
  | succ f =>
    simp only [DataW.trod, Try.underlying9] at h
    split at h <;> simp_all
theorem cellsOf3 : Try.prog.cellsOf 3 = 1 := by kernel_rfl
theorem cellsOf2 : Try.prog.cellsOf 2 = 1 := by kernel_rfl
theorem cellsOf9 : Try.prog.cellsOf 9 = 1 := by kernel_rfl
theorem cellsOf33 : Try.prog.cellsOf 33 = 1 := by kernel_rfl
theorem cellsOf35 : Try.prog.cellsOf 35 = 3 := by kernel_rfl
theorem cellsOf37 : Try.prog.cellsOf 37 = 8 := by kernel_rfl
theorem read35 {fuel : Nat} {cs : List Value} {d : DataW H} {ps : List MemPlace} (h : DataW.trod enc Try.prog W base sp held fuel 35 cs = some (d, ps)) : ∃ (k n : Int) (s : ByteArray), cs = [.int .i64 k, .int .i64 n, .string s] := by
  cases fuel with
  | zero => simp [DataW.trod] at h
  | succ f =>
    simp only [DataW.trod, Try.underlying35] at h
    split at h <;> try (simp_all; done)
    rename_i hlen
    rw [cellsOf35] at hlen
    simp only [Option.map_eq_some_iff] at h
    obtain ⟨xs, hx, he⟩ := h
    have hxl := mapM_some_length hx
    have g := mapM_some_get hx
    obtain ⟨x0, x1, x2, rfl⟩ : ∃ x0 x1 x2, xs = [x0, x1, x2] := by
      match xs, hxl with
      | [a, b, c], _ => exact ⟨a, b, c, rfl⟩
    obtain ⟨c0, c1, c2, rfl⟩ : ∃ c0 c1 c2, cs = [c0, c1, c2] := by
      match cs, hlen with
      | [a, b, c], _ => exact ⟨a, b, c, rfl⟩
    have g0 := g 0 _ rfl
    have g1 := g 1 _ rfl
    have g2 := g 2 _ rfl
    simp [cellsOf3, cellsOf2, cellsOf9] at g0 g1 g2
    obtain ⟨k, h0⟩ := read3 g0
    obtain ⟨n, h1⟩ := read2 g1
    obtain ⟨t, h2⟩ := read9 g2
    simp at h0 h1 h2
    exact ⟨k, n, t, by rw [h0, h1, h2]⟩

theorem bulk_pos (d : DataW H) : 1 ≤ Rows.uptoBulk d := by
  cases d with
  | lit l => cases l <;> simp [Rows.uptoBulk]
  | _ => simp [Rows.uptoBulk]

/-- What one reading of a code gives. -/
def R37 (W : World) (cs : List Value) (n : Nat) : Prop := ∃ c av, Rep true c av ∧ RdC W cs av ∧ c.size + 1 ≤ n

theorem elems37 {f : Nat} {a : Addr} (ih : ∀ {cs : List Value} {d : DataW H} {ps : List MemPlace}, DataW.trod enc Try.prog W 0 sp held f 37 cs = some (d, ps) → R37 W cs (Rows.uptoBulk d)) : ∀ (is : List Nat) {xs : List (DataW H × List MemPlace)},
    is.mapM (fun i => (W.cells? 0 (a.add (i * 8)) 8).bind (DataW.trod enc Try.prog W 0 sp held f 37)) = some xs →
    ∃ (cl : List Cd) (es : List (List AVal)), cl.length = is.length ∧ es.length = is.length ∧ sizes cl ≤ Rows.uptoBulkAll (xs.map (·.1)) ∧
      ∀ (j : Nat) (hj : j < is.length) (hj1 : j < cl.length), Rep true cl[j] (es.getD j []) ∧ ∀ q, q < 8 → ∃ v, W.cell? ((a.add (is[j] * 8)).add q) = some v ∧ v.oneCell' = true ∧ Rel (F0 W) (fun _ => none) (cellAt es j q) v
  | [], xs, h => by
    simp at h; subst h
    exact ⟨[], [], rfl, rfl, by simp [sizes, Rows.uptoBulkAll], fun j hj => by simp at hj⟩
  | i :: r, xs, h => by
    simp only [List.mapM_cons, Option.bind_eq_bind, Option.bind_eq_some_iff, Option.pure_def, Option.some.injEq] at h
    obtain ⟨x, ⟨cs, hcs, hx⟩, ys, hys, rfl⟩ := h
    obtain ⟨d, ps⟩ := x
    obtain ⟨c, av, hrep, ⟨hl, hrel⟩, hsz⟩ := ih hx
    obtain ⟨cl, es, e1, e2, e3, e4⟩ := elems37 ih r hys
    obtain ⟨hcl, hcell⟩ := cells_spec hcs
    have h8 := hrep.len
    refine ⟨c :: cl, av :: es, by simp [e1], by simp [e2], by simp only [sizes, List.map_cons, Rows.uptoBulkAll]; omega, fun j hj hj1 => ?_⟩
    cases j with
    | zero => exact ⟨hrep, fun q hq => ⟨_, hcell q hq, (hrel q (by omega)).1, (hrel q (by omega)).2⟩⟩
    | succ j => exact e4 j (by simpa using hj) (by simpa using hj1)

/-- A slice of codes. -/
theorem read33 {f : Nat} (ih : ∀ {cs : List Value} {d : DataW H} {ps : List MemPlace}, DataW.trod enc Try.prog W 0 sp held f 37 cs = some (d, ps) → R37 W cs (Rows.uptoBulk d)) {c2 : Value} {d : DataW H} {ps : List MemPlace}
    (h : DataW.trod enc Try.prog W 0 sp held (f + 1) 33 [c2] = some (d, ps)) : ∃ (cl : List Cd) (es : List (List AVal)) (v : AVal), Fr true v es ∧ es.length = cl.length ∧ (∀ (i : Nat) (hi : i < cl.length), Rep true cl[i] (es.getD i [])) ∧
      Rel (F0 W) (fun _ => none) v c2 ∧ c2.oneCell' = true ∧ sizes cl ≤ Rows.uptoBulk d := by
  simp only [DataW.trod, Try.underlying33] at h
  split at h <;> try (simp_all; done)
  · rename_i hc
    simp only [List.cons.injEq, and_true] at hc
    subst hc
    exact ⟨[], [], .nilS, .nil, rfl, fun i hi => by simp at hi, .nil 0 rfl, rfl, by simp [sizes]⟩
  · rename_i e hu a len cap hu' hc
    simp only [List.cons.injEq, and_true] at hc
    subst hc
    simp only [Option.some.injEq, TypeDesc.slice.injEq] at hu'
    subst hu'
    rw [cellsOf37] at h
    split at h
    rotate_left 1
    · cases h
    rename_i hcond
    simp only [Option.bind_eq_some_iff, Option.map_eq_some_iff] at h
    obtain ⟨xs, hxs, rest, hrest, he⟩ := h
    obtain ⟨cl, es, e1, e2, e3, e4⟩ := elems37 (enc := enc) (sp := sp) (held := held) ih _ hxs
    simp only [List.length_range] at e1 e2 e4
    have hrow : ∀ (j q : Nat), j < len → q < 8 → ∃ v, W.cell? ((a.add (j * 8)).add q) = some v ∧ v.oneCell' = true ∧ Rel (F0 W) (fun _ => none) (cellAt es j q) v := fun j q hj hq => by
      have := (e4 j hj (by omega)).2 q hq
      simpa using this
    have hadd : ∀ j q, 0 < len → j < len → q < 8 → a.spot = none ∧ (a.add (j * 8)).add q = ⟨a.block, a.off + (j * 8 + q), none⟩ := fun j q h0 hj hq => by
      obtain ⟨v, hv, _⟩ := hrow 0 0 h0 (by omega)
      have hs : a.spot = none := by
        simp [Addr.add, World.cell?] at hv
        split at hv
        · split at hv
          · cases hv
          · rename_i hh; simpa using hh
        · cases hv
      refine ⟨hs, ?_⟩
      obtain ⟨ab, ao, as'⟩ := a
      simp only at hs
      subst hs
      unfold Addr.add
      by_cases h1 : j * 8 = 0 <;> by_cases h2 : q = 0 <;> simp [h1, h2] <;> omega
    let vs : Nat → Nat → Value := fun j q => (W.cell? ⟨a.block, a.off + (j * 8 + q), none⟩).getD undef
    have hvs : ∀ j q, j < len → q < 8 → W.cell? ⟨a.block, a.off + (j * 8 + q), none⟩ = some (vs j q) ∧ (vs j q).oneCell' = true ∧ Rel (F0 W) (fun _ => none) (cellAt es j q) (vs j q) := fun j q hj hq => by
      obtain ⟨v, hv, h1, hr⟩ := hrow j q hj hq
      rw [(hadd j q (by omega) hj hq).2] at hv
      have : vs j q = v := by simp [vs, hv]
      rw [this]; exact ⟨hv, h1, hr⟩
    refine ⟨cl, es, .list .any es, .list .any es (by simp) (by simp), by omega, fun i hi => (e4 i (by omega) hi).1, ?_, rfl, ?_⟩
    · refine .list .any es (some a) len cap a.block a.off 8 vs (by simp) (by omega) hcond.2.1 (by simp [Fl.isFull]) (fun e he => ?_) (by omega) (fun _ => rfl) (fun h => by cases h) (fun hne => ?_) (fun j q hj hq => (hvs j q (by omega) hq).2.1) (fun j q hj hq => (hvs j q (by omega) hq).1) (fun j q hj hq => (hvs j q (by omega) hq).2.2)
      · obtain ⟨i, hi, rfl⟩ := List.getElem_of_mem he
        have := (e4 i (by omega) (by omega)).1.len
        rwa [getD_eq _ _ _ hi] at this
      · have h0 : 0 < len := by
          have : es.length ≠ 0 := fun h => hne (List.eq_nil_of_length_eq_zero h)
          omega
        have := (hadd 0 0 h0 h0 (by omega)).1
        obtain ⟨ab, ao, as'⟩ := a
        simp only at this
        subst this
        rfl
    · simp only [Prod.mk.injEq] at he
      rw [← he.1]
      simp only [Rows.uptoBulk]
      omega

/-- A code, read. -/
theorem read37 : ∀ (fuel : Nat) {cs : List Value} {d : DataW H} {ps : List MemPlace}, DataW.trod enc Try.prog W 0 sp held fuel 37 cs = some (d, ps) → R37 W cs (Rows.uptoBulk d)
  | 0, cs, d, ps, h => by simp [DataW.trod] at h
  | f + 1, cs, d, ps, h => by
    simp only [DataW.trod, Try.underlying37] at h
    split at h <;> try (simp_all; done)
    rename_i hlen
    rw [cellsOf37] at hlen
    simp only [Option.map_eq_some_iff] at h
    obtain ⟨xs, hx, he⟩ := h
    have hxl := mapM_some_length hx
    have g := mapM_some_get hx
    obtain ⟨x0, x1, x2, x3, x4, x5, rfl⟩ : ∃ x0 x1 x2 x3 x4 x5, xs = [x0, x1, x2, x3, x4, x5] := by
      match xs, hxl with
      | [a, b, c, d, e, f], _ => exact ⟨a, b, c, d, e, f, rfl⟩
    obtain ⟨c0, c1, c2, c3, c4, c5, c6, c7, rfl⟩ : ∃ c0 c1 c2 c3 c4 c5 c6 c7, cs = [c0, c1, c2, c3, c4, c5, c6, c7] := by
      match cs, hlen with
      | [a, b, c, d, e, f, g, h], _ => exact ⟨a, b, c, d, e, f, g, h, rfl⟩
    have g0 := g 0 _ rfl
    have g1 := g 1 _ rfl
    have g2 := g 2 _ rfl
    have g3 := g 3 _ rfl
    have g4 := g 4 _ rfl
    have g5 := g 5 _ rfl
    simp [cellsOf3, cellsOf33, cellsOf35] at g0 g1 g2 g3 g4 g5
    obtain ⟨op, h0⟩ := read3 g0
    obtain ⟨ty, h1⟩ := read3 g1
    obtain ⟨kind, num, t, h3⟩ := read35 g3
    obtain ⟨tab, h4⟩ := read3 g4
    obtain ⟨col, h5⟩ := read3 g5
    simp at h0 h1 h3 h4 h5
    cases f with
    | zero => simp [DataW.trod] at g2
    | succ f =>
      obtain ⟨cl, es, v, k1, k2, k3, k4, k5, k6⟩ := read33 (read37 f) g2
      obtain ⟨h3a, h3b, h3c⟩ := h3
      subst h0 h1 h3a h3b h3c h4 h5
      refine ⟨.mk op ty cl kind num t.data.toList tab col, _, .mk op ty cl kind num t.data.toList tab col v es k1 k2 k3, ⟨rfl, fun i hi => ?_⟩, ?_⟩
      · have hi : i < 8 := hi
        match i, hi with
        | 0, _ => exact ⟨rfl, .atom _⟩
        | 1, _ => exact ⟨rfl, .atom _⟩
        | 2, _ => exact ⟨k5, k4⟩
        | 3, _ => exact ⟨rfl, .atom _⟩
        | 4, _ => exact ⟨rfl, .atom _⟩
        | 5, _ => exact ⟨rfl, by
            have := Rel.str (F := F0 W) (m := fun _ => none) t.data.toList
            simpa [strV] using this⟩
        | 6, _ => exact ⟨rfl, .atom _⟩
        | 7, _ => exact ⟨rfl, .atom _⟩
      · simp only [Prod.mk.injEq] at he
        rw [← he.1]
        simp only [List.map_cons, List.map_nil, Rows.uptoBulk, Rows.uptoBulkAll, Cd.size]
        have := bulk_pos x0.1
        omega
end
end Go.Abs
