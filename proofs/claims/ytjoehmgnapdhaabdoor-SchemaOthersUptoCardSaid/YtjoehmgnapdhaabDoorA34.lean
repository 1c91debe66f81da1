/- The abstract machine, part 34: a reading of plain data (bools, ints, texts, slices, structs) as abstract values. Conditions: none; definitions and lemmas. -/
import Derived.Test.YtjoehmgnapdhaabDoorA31
import Derived.WalkKit
import Derived.ProofKit
import Derived.OpenShut
import Derived.JoinedCond
set_option linter.unusedVariables false
namespace Go.Abs
open Go Go.RowKit

/-- Cells of a type, as the abstract machine has them. -/
inductive Okv (P : Program) (B : Nat) : TypeId → List AVal → Prop
  | bool {t} (h : P.underlying t = some .bool) (b : Bool) : Okv P B t [.bool b]
  | int {t k} (h : P.underlying t = some (.int k)) (n : Int) (hn : (Lit.int k n).wf = true) : Okv P B t [.atom (.int k n)]
  | str {t} (h : P.underlying t = some .string) (s : List UInt8) (hs : s.length ≤ B) : Okv P B t [.str s]
  | nils {t e} (h : P.underlying t = some (.slice e)) : Okv P B t [.nilS]
  | slice {t e} (h : P.underlying t = some (.slice e)) (es : List (List AVal)) (hes : ∀ i, i < es.length → Okv P B e (es.getD i [])) (hk : ∀ i, i < es.length → (es.getD i []).length = P.cellsOf e) (hb : es.length * P.bytesOf e ≤ reachBytes) (hB : es.length ≤ B) : Okv P B t [.list .any es]
  | struct {t fs} (h : P.underlying t = some (.struct fs)) (parts : List (List AVal)) (hl : parts.length = fs.toList.length) (hp : ∀ i (hi : i < fs.toList.length), Okv P B (fs.toList[i]).type (parts.getD i [])) : Okv P B t parts.flatten

def tileB (P : Program) (n : Nat) : Nat → List Field → Bool
  | o, [] => decide (o = n)
  | o, f :: r => decide (f.offset = o) && tileB P n (o + P.cellsOf f.type) r
def closedB (P : Program) (ts : List TypeId) : Bool := ts.all fun t => match P.underlying t with
  | some .bool | some (.int _) | some .string => decide (P.cellsOf t = 1)
  | some (.slice e) => decide (P.cellsOf t = 1) && ts.contains e && decide (0 < P.cellsOf e) && decide (0 < P.bytesOf e)
  | some (.struct fs) => (fs.toList.all fun f => ts.contains f.type) && tileB P (P.cellsOf t) 0 fs.toList
  | _ => false

def WF (W : World) : Frz := fun b x => W.cell? ⟨b, x, none⟩
def RdC (W : World) (cs : List Value) (av : List AVal) : Prop := cs.length = av.length ∧ ∀ i, i < av.length → (cs.getD i undef).oneCell' = true ∧ Rel (WF W) (fun _ => none) (av.getD i .top) (cs.getD i undef)

theorem RdC.nil {W : World} : RdC W [] [] := ⟨rfl, fun i hi => by simp at hi⟩
theorem RdC.app {W : World} {c1 c2 : List Value} {a1 a2 : List AVal} (h1 : RdC W c1 a1) (h2 : RdC W c2 a2) : RdC W (c1 ++ c2) (a1 ++ a2) := by
  obtain ⟨l1, r1⟩ := h1
  obtain ⟨l2, r2⟩ := h2
  refine ⟨by simp [l1, l2], fun i hi => ?_⟩
  rcases Nat.lt_or_ge i a1.length with h | h
  · have e1 : (c1 ++ c2).getD i undef = c1.getD i undef := by simp [List.getD_eq_getElem?_getD, List.getElem?_append_left (show i < c1.length by omega)]
    have e2 : (a1 ++ a2).getD i .top = a1.getD i .top := by simp [List.getD_eq_getElem?_getD, List.getElem?_append_left h]
    rw [e1, e2]; exact r1 i h
  · have e1 : (c1 ++ c2).getD i undef = c2.getD (i - a1.length) undef := by simp [List.getD_eq_getElem?_getD, List.getElem?_append_right (show c1.length ≤ i by omega), l1]
    have e2 : (a1 ++ a2).getD i .top = a2.getD (i - a1.length) .top := by simp [List.getD_eq_getElem?_getD, List.getElem?_append_right h]
    rw [e1, e2]; exact r2 _ (by simp at hi; omega)
theorem RdC.one {W : World} {v : Value} {a : AVal} (h1 : v.oneCell' = true) (h : Rel (WF W) (fun _ => none) a v) : RdC W [v] [a] :=
  ⟨rfl, fun i hi => by
    have : i = 0 := by simp at hi; omega
    subst this
    exact ⟨h1, h⟩⟩

def Rd (P : Program) (B : Nat) (W : World) (t : TypeId) (cs : List Value) : Prop := ∃ av, Okv P B t av ∧ RdC W cs av

/-- What is known of the data, part by part. -/
structure Meas {H : Type} (P : Program) (B : Nat) (Q : TypeId → DataW H → Prop) : Prop where
  str : ∀ {t bs}, Q t (.lit (.string bs)) → bs.length ≤ B
  sl : ∀ {t e} {xs ys : List (DataW H)}, P.underlying t = some (.slice e) → 0 < P.bytesOf e → Q t (.slice xs ys) → xs.length * P.bytesOf e ≤ reachBytes ∧ xs.length ≤ B ∧ ∀ x ∈ xs, Q e x
  ag : ∀ {t fs} {xs : List (DataW H)}, P.underlying t = some (.struct fs) → Q t (.agg xs) → ∀ i (hi : i < fs.toList.length) (hx : i < xs.length), Q (fs.toList[i]).type xs[i]

section
variable {H : Type} {enc : TypeId × Value → H} {P : Program} {W : World} {sp : Nat → Bool} {held : Bool}

theorem cells_spec {b : Nat} {a : Addr} {n : Nat} {cs : List Value} (h : W.cells? b a n = some cs) : cs.length = n ∧ ∀ i, i < n → W.cell? (a.add i) = some (cs.getD i undef) := by
  unfold World.cells? at h
  split at h
  · have h1 := mapM_some_length h
    have h2 := mapM_some_get h
    simp at h1
    refine ⟨h1, fun i hi => ?_⟩
    rw [h2 i i (by simp [hi]), List.getD_eq_getElem?_getD, List.getElem?_eq_getElem (by omega)]; rfl
  · cases h

abbrev Small (l : List Nat) : Prop := ∀ x ∈ l, x ≤ reachBytes

variable {B : Nat} {Q : TypeId → DataW H → Prop}
theorem elems_rd {e k f : Nat} {a : Addr} (ih : ∀ {cs : List Value} {d : DataW H} {ps : List MemPlace}, DataW.trod enc P W 0 sp held f e cs = some (d, ps) → Q e d → Rd P B W e cs) : ∀ (is : List Nat) {xs : List (DataW H × List MemPlace)},
    is.mapM (fun i => (W.cells? 0 (a.add (i * k)) k).bind (DataW.trod enc P W 0 sp held f e)) = some xs → (∀ x ∈ xs.map (·.1), Q e x) →
    ∃ es : List (List AVal), es.length = is.length ∧
      ∀ (j : Nat) (hj : j < is.length), Okv P B e (es.getD j []) ∧ (es.getD j []).length = k ∧ ∀ q, q < k → ∃ v, W.cell? ((a.add (is[j] * k)).add q) = some v ∧ v.oneCell' = true ∧ Rel (WF W) (fun _ => none) (cellAt es j q) v
  | [], xs, h, _ => ⟨[], rfl, fun j hj => by simp at hj⟩
  | i :: r, xs, h, hw => by
    simp only [List.mapM_cons, Option.bind_eq_bind, Option.bind_eq_some_iff, Option.pure_def, Option.some.injEq] at h
    obtain ⟨x, ⟨cs, hcs, hx⟩, ys, hys, rfl⟩ := h
    obtain ⟨d, ps⟩ := x
    obtain ⟨av, hok, hl, hrel⟩ := ih hx (hw d (by simp))
    obtain ⟨es, e1, e4⟩ := elems_rd ih r hys (fun x hx => hw x (by simp only [List.map_cons]; exact List.mem_cons_of_mem _ hx))
    obtain ⟨hcl, hcell⟩ := cells_spec hcs
    refine ⟨av :: es, by simp [e1], fun j hj => ?_⟩
    cases j with
    | zero => exact ⟨hok, by simp; omega, fun q hq => ⟨_, hcell q hq, (hrel q (by omega)).1, (hrel q (by omega)).2⟩⟩
    | succ j => exact e4 j (by simpa using hj)

theorem fields_rd {ts : List TypeId} {f : Nat} (ih : ∀ {t : TypeId} {cs : List Value} {d : DataW H} {ps : List MemPlace}, t ∈ ts → DataW.trod enc P W 0 sp held f t cs = some (d, ps) → Q t d → Rd P B W t cs) {cs : List Value} : ∀ (fl : List Field) (o : Nat) {xs : List (DataW H × List MemPlace)},
    (∀ g ∈ fl, g.type ∈ ts) → tileB P cs.length o fl = true →
    (fl.mapM fun g => DataW.trod enc P W 0 sp held f g.type ((cs.drop g.offset).take (P.cellsOf g.type))) = some xs → (∀ i (hi : i < fl.length) (hx : i < (xs.map (·.1)).length), Q (fl[i]).type (xs.map (·.1))[i]) →
    ∃ parts : List (List AVal), parts.length = fl.length ∧ (∀ i (hi : i < fl.length), Okv P B (fl[i]).type (parts.getD i [])) ∧ RdC W (cs.drop o) parts.flatten
  | [], o, xs, hts, ht, h, _ => by
    simp only [tileB, decide_eq_true_eq] at ht
    exact ⟨[], rfl, fun i hi => by simp at hi, by subst ht; rw [List.drop_length]; exact RdC.nil⟩
  | g :: r, o, xs, hts, ht, h, hw => by
    simp only [tileB, Bool.and_eq_true, decide_eq_true_eq] at ht
    obtain ⟨ho, ht⟩ := ht
    simp only [List.mapM_cons, Option.bind_eq_bind, Option.bind_eq_some_iff, Option.pure_def, Option.some.injEq] at h
    obtain ⟨x, hx, ys, hys, rfl⟩ := h
    obtain ⟨d, ps⟩ := x
    obtain ⟨av, hok, hrd⟩ := ih (hts g (by simp)) hx (hw 0 (by simp) (by simp))
    obtain ⟨parts, e1, e2, e3⟩ := fields_rd ih r (o + P.cellsOf g.type) (fun g' hg => hts g' (by simp [hg])) ht hys (fun i hi hx => by
      have := hw (i + 1) (by simpa using hi) (by simpa using hx)
      simpa using this)
    refine ⟨av :: parts, by simp [e1], fun i hi => ?_, ?_⟩
    · cases i with
      | zero => exact hok
      | succ i => exact e2 i (by simpa using hi)
    · have := hrd.app e3
      rw [ho, ← List.drop_drop, List.take_append_drop] at this
      simpa using this

theorem read_all {ts : List TypeId} (hts : closedB P ts = true) (hQ : Meas P B Q) : ∀ (fuel : Nat) {t : TypeId} {cs : List Value} {d : DataW H} {ps : List MemPlace}, t ∈ ts → DataW.trod enc P W 0 sp held fuel t cs = some (d, ps) → Q t d → Rd P B W t cs
  | 0, t, cs, d, ps, _, h, _ => by simp [DataW.trod] at h
  | f + 1, t, cs, d, ps, ht, h, hw => by
    have hc := List.all_eq_true.1 hts t ht
    cases hu : P.underlying t with
    | none => simp [hu] at hc
    | some td =>
      rw [hu] at hc
      cases td with
      | bool =>
        simp only [DataW.trod, hu] at h
        split at h <;> try (simp_all; done)
        all_goals (try (simp at *; done))
        rename_i b hcs
        exact ⟨_, .bool hu b, RdC.one rfl (.atom _)⟩
      | int k =>
        simp only [DataW.trod, hu] at h
        split at h <;> try (simp_all; done)
        rename_i k1 k2 n hk
        simp only [Option.some.injEq, TypeDesc.int.injEq] at hk
        subst hk
        split at h
        · rename_i hkw
          obtain ⟨rfl, hn⟩ := hkw
          exact ⟨_, .int hu n hn, RdC.one rfl (.atom _)⟩
        · cases h
      | string =>
        simp only [DataW.trod, hu] at h
        split at h <;> try (simp_all; done)
        rename_i s hcs
        split at h
        · simp only [Option.some.injEq, Prod.mk.injEq] at h
          obtain ⟨rfl, _⟩ := h
          have := hQ.str hw
          refine ⟨_, .str hu s.data.toList this, RdC.one rfl ?_⟩
          have := Rel.str (F := WF W) (m := fun _ => none) s.data.toList
          simpa using this
        · cases h
      | slice e =>
        simp only [Bool.and_eq_true, decide_eq_true_eq, List.contains_iff_mem] at hc
        obtain ⟨⟨⟨_, hmem⟩, hk0⟩, hb0⟩ := hc
        simp only [DataW.trod, hu] at h
        split at h <;> try (simp_all; done)
        · exact ⟨_, .nils hu, RdC.one rfl (.nil 0 rfl)⟩
        · rename_i e' a len cap he'
          simp only [Option.some.injEq, TypeDesc.slice.injEq] at he'
          subst he'
          split at h
          rotate_left 1
          · cases h
          rename_i hcond
          simp only [Option.bind_eq_some_iff, Option.map_eq_some_iff] at h
          obtain ⟨xs, hxs, rest, hrest, he⟩ := h
          simp only [Prod.mk.injEq] at he
          rw [← he.1] at hw
          obtain ⟨hwl, hwB, hwe⟩ := hQ.sl hu hb0 hw
          have hxl := mapM_some_length hxs
          simp only [List.length_range] at hxl
          obtain ⟨es, e1, e4⟩ := elems_rd (enc := enc) (sp := sp) (held := held) (Q := Q) (B := B) (fun h hw => read_all hts hQ f hmem h hw) _ hxs hwe
          simp only [List.length_range] at e1 e4
          generalize hkk : P.cellsOf e = k at *
          have hrow : ∀ (j q : Nat), j < len → q < k → ∃ v, W.cell? ((a.add (j * k)).add q) = some v ∧ v.oneCell' = true ∧ Rel (WF W) (fun _ => none) (cellAt es j q) v := fun j q hj hq => by
            have := (e4 j hj).2.2 q hq
            simpa using this
          have hadd : ∀ j q, 0 < len → j < len → q < k → a.spot = none ∧ (a.add (j * k)).add q = ⟨a.block, a.off + (j * k + q), none⟩ := fun j q h0 hj hq => by
            obtain ⟨v, hv, _⟩ := hrow 0 0 h0 (by omega)
            have hs : a.spot = none := by
              simp [Addr.add, World.cell?] at hv
              split at hv
              · split at hv
                · cases hv
                · rename_i hh; simpa using hh
              · cases hv
            refine ⟨hs, ?_⟩
            obtain ⟨ab, ao, as'⟩ := a
            simp only at hs
            subst hs
            unfold Addr.add
            by_cases h1 : j * k = 0 <;> by_cases h2 : q = 0 <;> simp [h1, h2] <;> omega
          let vs : Nat → Nat → Value := fun j q => (W.cell? ⟨a.block, a.off + (j * k + q), none⟩).getD undef
          have hvs : ∀ j q, j < len → q < k → W.cell? ⟨a.block, a.off + (j * k + q), none⟩ = some (vs j q) ∧ (vs j q).oneCell' = true ∧ Rel (WF W) (fun _ => none) (cellAt es j q) (vs j q) := fun j q hj hq => by
            obtain ⟨v, hv, h1, hr⟩ := hrow j q hj hq
            rw [(hadd j q (by omega) hj hq).2] at hv
            have : vs j q = v := by simp [vs, hv]
            rw [this]; exact ⟨hv, h1, hr⟩
          refine ⟨[.list .any es], .slice hu es (fun i hi => (e4 i (by omega)).1) (fun i hi => by rw [hkk]; exact (e4 i (by omega)).2.1) ?_ (by rw [List.length_map] at hwB; omega), RdC.one rfl ?_⟩
          · refine Nat.le_trans (Nat.mul_le_mul_right _ ?_) hwl
            simp; omega
          · refine .list .any es (some a) len cap a.block a.off k vs (by simp) (by omega) hcond.2.1 (by simp [Fl.isFull]) (fun e he => ?_) hk0 (fun _ => rfl) (fun h => by cases h) (fun hne => ?_) (fun j q hj hq => (hvs j q (by omega) hq).2.1) (fun j q hj hq => (hvs j q (by omega) hq).1) (fun j q hj hq => (hvs j q (by omega) hq).2.2)
            · obtain ⟨i, hi, rfl⟩ := List.getElem_of_mem he
              have := (e4 i (by omega)).2.1
              rwa [getD_eq _ _ _ hi] at this
            · have h0 : 0 < len := by
                have : es.length ≠ 0 := fun h => hne (List.eq_nil_of_length_eq_zero h)
                omega
              have := (hadd 0 0 h0 h0 (by omega)).1
              obtain ⟨ab, ao, as'⟩ := a
              simp only at this
              subst this
              rfl
      | struct fs =>
        simp only [Bool.and_eq_true, List.all_eq_true, List.contains_iff_mem] at hc
        simp only [DataW.trod, hu] at h
        split at h
        rotate_left 1
        · cases h
        rename_i hlen
        simp only [Option.map_eq_some_iff] at h
        obtain ⟨xs, hx, he⟩ := h
        simp only [Prod.mk.injEq] at he
        rw [← he.1] at hw
        obtain ⟨parts, e1, e2, e3⟩ := fields_rd (ts := ts) (Q := Q) (B := B) (fun ht h hw => read_all hts hQ f ht h hw) fs.toList 0 (fun g hg => hc.1 g (by simpa using hg)) (by rw [hlen]; exact hc.2) hx (hQ.ag hu hw)
        exact ⟨parts.flatten, .struct hu parts e1 e2, by simpa using e3⟩
      | _ => simp at hc
end

section
variable {P : Program} {B : Nat}
theorem Okv.at_bool {t av} (h : Okv P B t av) (hu : P.underlying t = some .bool) : ∃ b, av = [.bool b] := by
  cases h <;> simp_all
theorem Okv.at_int {t av k} (h : Okv P B t av) (hu : P.underlying t = some (.int k)) : ∃ n, av = [.atom (.int k n)] ∧ (Lit.int k n).wf = true := by
  cases h with
  | int h n hn => rw [hu] at h; cases h; exact ⟨n, rfl, hn⟩
  | _ => simp_all
theorem Okv.at_str {t av} (h : Okv P B t av) (hu : P.underlying t = some .string) : ∃ s, av = [.str s] ∧ s.length ≤ B := by
  cases h with
  | str h s hs => exact ⟨s, rfl, hs⟩
  | _ => simp_all
/-- A slice's elements. -/
theorem Okv.at_slice {t av e} (h : Okv P B t av) (hu : P.underlying t = some (.slice e)) : ∃ v es, av = [v] ∧ (v = .nilS ∧ es = [] ∨ v = .list .any es) ∧ (∀ i, i < es.length → Okv P B e (es.getD i [])) ∧ es.length * P.bytesOf e ≤ reachBytes ∧ es.length ≤ B := by
  cases h with
  | nils h => exact ⟨_, [], rfl, .inl ⟨rfl, rfl⟩, fun i hi => by simp at hi, by simp, by simp⟩
  | slice h es hes hk hb hB => rw [hu] at h; cases h; exact ⟨_, es, rfl, .inr rfl, hes, hb, hB⟩
  | _ => simp_all
theorem Okv.at_struct {t av fs} (h : Okv P B t av) (hu : P.underlying t = some (.struct fs)) : ∃ parts : List (List AVal), av = parts.flatten ∧ parts.length = fs.toList.length ∧ ∀ i (hi : i < fs.toList.length), Okv P B (fs.toList[i]).type (parts.getD i []) := by
  cases h with
  | struct h parts hl hp => rw [hu] at h; cases h; exact ⟨parts, rfl, hl, hp⟩
  | _ => simp_all

/-- One for each. -/
theorem choose_list {α : Type} {p : Nat → α → Prop} : ∀ (n : Nat), (∀ i, i < n → ∃ x, p i x) → ∃ xs : List α, xs.length = n ∧ ∀ i (h : i < xs.length), p i xs[i]
  | 0, _ => ⟨[], rfl, fun i h => by simp at h⟩
  | n + 1, h => by
    obtain ⟨xs, h1, h2⟩ := choose_list n (fun i hi => h i (by omega))
    obtain ⟨x, hx⟩ := h n (by omega)
    refine ⟨xs ++ [x], by simp [h1], fun i hi => ?_⟩
    rcases Nat.lt_or_ge i xs.length with hlt | hge
    · rw [List.getElem_append_left hlt]; exact h2 i hlt
    · have : i = n := by simp at hi; omega
      subst this
      rw [List.getElem_append_right (by omega)]
      simpa [h1] using hx
theorem choose_map {α : Type} {f : α → List AVal} {es : List (List AVal)} (h : ∀ i, i < es.length → ∃ c, es.getD i [] = f c) : ∃ cs : List α, es = cs.map f := by
  obtain ⟨xs, h1, h2⟩ := choose_list (p := fun i c => es.getD i [] = f c) es.length h
  refine ⟨xs, List.ext_getElem (by simp [h1]) fun i hi hi' => ?_⟩
  have := h2 i (by omega)
  rw [getD_eq _ _ _ hi] at this
  rw [this]; simp

theorem agg_of_okWide {W : World} {r : Reach} {base : Nat} {t : TypeId} {fs : Array Field} {v : Value} (hu : P.underlying t = some (.struct fs)) (h : Value.okWide P W r base t v) : ∃ cs, v = .agg cs := by
  unfold Value.okWide at h; rw [hu] at h; obtain ⟨cs, h, _⟩ := h; exact ⟨cs, h⟩
theorem RdC.agg {W : World} {cs : Array Value} {av : List AVal} (h : RdC W (Value.agg cs).cells.toList av) : Rel (WF W) (fun _ => none) (.agg av) (.agg cs) := by
  obtain ⟨hl, h⟩ := h
  have hl : cs.size = av.length := by simpa [Value.cells] using hl
  have hg : ∀ i, i < av.length → (Value.agg cs).cells.toList.getD i undef = cs.getD i undef := fun i hi => by simp [Value.cells]
  exact .agg _ _ hl.symm (fun i hi => by have := (h i hi).1; rwa [hg i hi] at this) (fun i hi => by have := (h i hi).2; rwa [hg i hi] at this)
end
end Go.Abs
