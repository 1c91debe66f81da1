/- Expressions that came in, their forms, and how these are read. Conditions: none but the lengths; definitions and lemmas. -/
import Derived.Test.YtcogkenmdbaiiaaGreatDoorA34
import Derived.Test.YtcogkenmdbaiiaaGreatDoorMT
import Derived.Test.YtcogkenmdbaiiaaGreatDoorMH
import Derived.Test.YtcogkenmdbaiiaaGreatDoorMU
set_option linter.unusedVariables false
namespace Go.Abs
open Go Go.RowKit

mutual
def szV : AVal → Nat
  | .list _ es => 1 + szLL es
  | _ => 0
def szL : List AVal → Nat
  | [] => 0
  | v :: r => szV v + szL r
def szLL : List (List AVal) → Nat
  | [] => 0
  | e :: r => 1 + szL e + szLL r
end
theorem szL_app : ∀ (a b : List AVal), szL (a ++ b) = szL a + szL b
  | [], b => by simp [szL]
  | v :: r, b => by simp only [List.cons_append, szL, szL_app r b]; omega
/-- A measure of data. -/
structure Bulk {H : Type} (μ : DataW H → Nat) : Prop where
  pos : ∀ d, 1 ≤ μ d
  sl : ∀ xs ys, (xs.map μ).sum + 1 ≤ μ (.slice xs ys)
  ag : ∀ xs, (xs.map μ).sum + 1 ≤ μ (.agg xs)
def Rd2 {H : Type} (P : Program) (B : Nat) (W : World) (μ : DataW H → Nat) (t : TypeId) (d : DataW H) (cs : List Value) : Prop := ∃ av, Okv P B t av ∧ RdC W cs av ∧ szL av + 1 ≤ 2 * μ d

section
variable {H : Type} {enc : TypeId × Value → H} {P : Program} {W : World} {sp : Nat → Bool} {held : Bool}
variable {B : Nat} {Q : TypeId → DataW H → Prop} {μ : DataW H → Nat}
theorem elems_rd2 {e k f : Nat} {a : Addr} (ih : ∀ {cs : List Value} {d : DataW H} {ps : List MemPlace}, DataW.trod enc P W 0 sp held f e cs = some (d, ps) → Q e d → Rd2 P B W μ e d cs) : ∀ (is : List Nat) {xs : List (DataW H × List MemPlace)},
    is.mapM (fun i => (W.cells? 0 (a.add (i * k)) k).bind (DataW.trod enc P W 0 sp held f e)) = some xs → (∀ x ∈ xs.map (·.1), Q e x) →
    ∃ es : List (List AVal), es.length = is.length ∧ szLL es ≤ 2 * ((xs.map (·.1)).map μ).sum ∧
      ∀ (j : Nat) (hj : j < is.length), Okv P B e (es.getD j []) ∧ (es.getD j []).length = k ∧ ∀ q, q < k → ∃ v, W.cell? ((a.add (is[j] * k)).add q) = some v ∧ v.oneCell' = true ∧ Rel (WF W) (fun _ => none) (cellAt es j q) v
  | [], xs, h, _ => ⟨[], rfl, by simp [szLL], fun j hj => by simp at hj⟩
  | i :: r, xs, h, hw => by
    simp only [List.mapM_cons, Option.bind_eq_bind, Option.bind_eq_some_iff, Option.pure_def, Option.some.injEq] at h
    obtain ⟨x, ⟨cs, hcs, hx⟩, ys, hys, rfl⟩ := h
    obtain ⟨d, ps⟩ := x
    obtain ⟨av, hok, ⟨hl, hrel⟩, hz⟩ := ih hx (hw d (by simp))
    obtain ⟨es, e1, ez, e4⟩ := elems_rd2 ih r hys (fun x hx => hw x (by simp only [List.map_cons]; exact List.mem_cons_of_mem _ hx))
    obtain ⟨hcl, hcell⟩ := cells_spec hcs
    refine ⟨av :: es, by simp [e1], by simp only [szLL, List.map_cons, List.sum_cons]; omega, fun j hj => ?_⟩
    cases j with
    | zero => exact ⟨hok, by simp; omega, fun q hq => ⟨_, hcell q hq, (hrel q (by omega)).1, (hrel q (by omega)).2⟩⟩
    | succ j => exact e4 j (by simpa using hj)

theorem fields_rd2 {ts : List TypeId} {f : Nat} (ih : ∀ {t : TypeId} {cs : List Value} {d : DataW H} {ps : List MemPlace}, t ∈ ts → DataW.trod enc P W 0 sp held f t cs = some (d, ps) → Q t d → Rd2 P B W μ t d cs) {cs : List Value} : ∀ (fl : List Field) (o : Nat) {xs : List (DataW H × List MemPlace)},
    (∀ g ∈ fl, g.type ∈ ts) → tileB P cs.length o fl = true →
    (fl.mapM fun g => DataW.trod enc P W 0 sp held f g.type ((cs.drop g.offset).take (P.cellsOf g.type))) = some xs → (∀ i (hi : i < fl.length) (hx : i < (xs.map (·.1)).length), Q (fl[i]).type (xs.map (·.1))[i]) →
    ∃ parts : List (List AVal), parts.length = fl.length ∧ (∀ i (hi : i < fl.length), Okv P B (fl[i]).type (parts.getD i [])) ∧ RdC W (cs.drop o) parts.flatten ∧ szL parts.flatten ≤ 2 * ((xs.map (·.1)).map μ).sum
  | [], o, xs, hts, ht, h, _ => by
    simp only [tileB, decide_eq_true_eq] at ht
    exact ⟨[], rfl, fun i hi => by simp at hi, by subst ht; rw [List.drop_length]; exact RdC.nil, by simp [szL]⟩
  | g :: r, o, xs, hts, ht, h, hw => by
    simp only [tileB, Bool.and_eq_true, decide_eq_true_eq] at ht
    obtain ⟨ho, ht⟩ := ht
    simp only [List.mapM_cons, Option.bind_eq_bind, Option.bind_eq_some_iff, Option.pure_def, Option.some.injEq] at h
    obtain ⟨x, hx, ys, hys, rfl⟩ := h
    obtain ⟨d, ps⟩ := x
    obtain ⟨av, hok, hrd, hz⟩ := ih (hts g (by simp)) hx (hw 0 (by simp) (by simp))
    obtain ⟨parts, e1, e2, e3, ez⟩ := fields_rd2 ih r (o + P.cellsOf g.type) (fun g' hg => hts g' (by simp [hg])) ht hys (fun i hi hx => by
      have := hw (i + 1) (by simpa using hi) (by simpa using hx)
      simpa using this)
    refine ⟨av :: parts, by simp [e1], fun i hi => ?_, ?_, by simp only [List.flatten_cons, szL_app, List.map_cons, List.sum_cons]; omega⟩
    · cases i with
      | zero => exact hok
      | succ i => exact e2 i (by simpa using hi)
    · have := hrd.app e3
      rw [ho, ← List.drop_drop, List.take_append_drop] at this
      simpa using this

variable (hB : Bulk μ)
include hB
theorem read_all2 {ts : List TypeId} (hts : closedB P ts = true) (hQ : Meas P B Q) : ∀ (fuel : Nat) {t : TypeId} {cs : List Value} {d : DataW H} {ps : List MemPlace}, t ∈ ts → DataW.trod enc P W 0 sp held fuel t cs = some (d, ps) → Q t d → Rd2 P B W μ t d cs
  | 0, t, cs, d, ps, _, h, _ => by simp [DataW.trod] at h
  | f + 1, t, cs, d, ps, ht, h, hw => by
    have hc := List.all_eq_true.1 hts t ht
    cases hu : P.underlying t with
    | none => simp [hu] at hc
    | some td =>
      rw [hu] at hc
      cases td with
      | bool =>
        simp only [DataW.trod, hu] at h
        split at h <;> try (simp_all; done)
        all_goals (try (simp at *; done))
        rename_i b hcs
        exact ⟨_, .bool hu b, RdC.one rfl (.atom _), by have := hB.pos d; simp [szL, szV]; omega⟩
      | int k =>
        simp only [DataW.trod, hu] at h
        split at h <;> try (simp_all; done)
        rename_i k1 k2 n hk
        simp only [Option.some.injEq, TypeDesc.int.injEq] at hk
        subst hk
        split at h
        · rename_i hkw
          obtain ⟨rfl, hn⟩ := hkw
          exact ⟨_, .int hu n hn, RdC.one rfl (.atom _), by have := hB.pos d; simp [szL, szV]; omega⟩
        · cases h
      | string =>
        simp only [DataW.trod, hu] at h
        split at h <;> try (simp_all; done)
        rename_i s hcs
        split at h
        · simp only [Option.some.injEq, Prod.mk.injEq] at h
          obtain ⟨rfl, _⟩ := h
          have := hQ.str hw
          refine ⟨_, .str hu s.data.toList this, RdC.one rfl ?_, by have := hB.pos (.lit (.string s.data.toList)); simp only [szL, szV]; omega⟩
          have := Rel.str (F := WF W) (m := fun _ => none) s.data.toList
          simpa using this
        · cases h
      | slice e =>
        simp only [Bool.and_eq_true, decide_eq_true_eq, List.contains_iff_mem] at hc
        obtain ⟨⟨⟨_, hmem⟩, hk0⟩, hb0⟩ := hc
        simp only [DataW.trod, hu] at h
        split at h <;> try (simp_all; done)
        · exact ⟨_, .nils hu, RdC.one rfl (.nil 0 rfl), by have := hB.pos d; simp [szL, szV, szLL]; omega⟩
        · rename_i e' a len cap he'
          simp only [Option.some.injEq, TypeDesc.slice.injEq] at he'
          subst he'
          split at h
          rotate_left 1
          · cases h
          rename_i hcond
          simp only [Option.bind_eq_some_iff, Option.map_eq_some_iff] at h
          obtain ⟨xs, hxs, rest, hrest, he⟩ := h
          simp only [Prod.mk.injEq] at he
          rw [← he.1] at hw
          obtain ⟨hwl, hwB, hwe⟩ := hQ.sl hu hb0 hw
          have hxl := mapM_some_length hxs
          simp only [List.length_range] at hxl
          obtain ⟨es, e1, ez, e4⟩ := elems_rd2 (enc := enc) (sp := sp) (held := held) (Q := Q) (B := B) (fun h hw => read_all2 hts hQ f hmem h hw) _ hxs hwe
          simp only [List.length_range] at e1 e4
          generalize hkk : P.cellsOf e = k at *
          have hrow : ∀ (j q : Nat), j < len → q < k → ∃ v, W.cell? ((a.add (j * k)).add q) = some v ∧ v.oneCell' = true ∧ Rel (WF W) (fun _ => none) (cellAt es j q) v := fun j q hj hq => by
            have := (e4 j hj).2.2 q hq
            simpa using this
          have hadd : ∀ j q, 0 < len → j < len → q < k → a.spot = none ∧ (a.add (j * k)).add q = ⟨a.block, a.off + (j * k + q), none⟩ := fun j q h0 hj hq => by
            obtain ⟨v, hv, _⟩ := hrow 0 0 h0 (by omega)
            have hs : a.spot = none := by
              simp [Addr.add, World.cell?] at hv
              split at hv
              · split at hv
                · cases hv
                · rename_i hh; simpa using hh
              · cases hv
            refine ⟨hs, ?_⟩
            obtain ⟨ab, ao, as'⟩ := a
            simp only at hs
            subst hs
            unfold Addr.add
            by_cases h1 : j * k = 0 <;> by_cases h2 : q = 0 <;> simp [h1, h2] <;> omega
          let vs : Nat → Nat → Value := fun j q => (W.cell? ⟨a.block, a.off + (j * k + q), none⟩).getD undef
          have hvs : ∀ j q, j < len → q < k → W.cell? ⟨a.block, a.off + (j * k + q), none⟩ = some (vs j q) ∧ (vs j q).oneCell' = true ∧ Rel (WF W) (fun _ => none) (cellAt es j q) (vs j q) := fun j q hj hq => by
            obtain ⟨v, hv, h1, hr⟩ := hrow j q hj hq
            rw [(hadd j q (by omega) hj hq).2] at hv
            have : vs j q = v := by simp [vs, hv]
            rw [this]; exact ⟨hv, h1, hr⟩
          refine ⟨[.list .any es], .slice hu es (fun i hi => (e4 i (by omega)).1) (fun i hi => by rw [hkk]; exact (e4 i (by omega)).2.1) ?_ (by rw [List.length_map] at hwB; omega), RdC.one rfl ?_, ?_⟩
          · refine Nat.le_trans (Nat.mul_le_mul_right _ ?_) hwl
            simp; omega
          · refine .list .any es (some a) len cap a.block a.off k vs (by simp) (by omega) hcond.2.1 (by simp [Fl.isFull]) (fun e he => ?_) hk0 (fun _ => rfl) (fun h => by cases h) (fun hne => ?_) (fun j q hj hq => (hvs j q (by omega) hq).2.1) (fun j q hj hq => (hvs j q (by omega) hq).1) (fun j q hj hq => (hvs j q (by omega) hq).2.2)
            · obtain ⟨i, hi, rfl⟩ := List.getElem_of_mem he
              have := (e4 i (by omega)).2.1
              rwa [getD_eq _ _ _ hi] at this
            · have h0 : 0 < len := by
                have : es.length ≠ 0 := fun h => hne (List.eq_nil_of_length_eq_zero h)
                omega
              have := (hadd 0 0 h0 h0 (by omega)).1
              obtain ⟨ab, ao, as'⟩ := a
              simp only at this
              subst this
              rfl
          · have := hB.sl (xs.map (·.1)) (rest.map (·.1))
            rw [← he.1]
            simp only [szL, szV]
            omega
      | struct fs =>
        simp only [Bool.and_eq_true, List.all_eq_true, List.contains_iff_mem] at hc
        simp only [DataW.trod, hu] at h
        split at h
        rotate_left 1
        · cases h
        rename_i hlen
        simp only [Option.map_eq_some_iff] at h
        obtain ⟨xs, hx, he⟩ := h
        simp only [Prod.mk.injEq] at he
        rw [← he.1] at hw
        obtain ⟨parts, e1, e2, e3, ez⟩ := fields_rd2 (ts := ts) (Q := Q) (B := B) (fun ht h hw => read_all2 hts hQ f ht h hw) fs.toList 0 (fun g hg => hc.1 g (by simpa using hg)) (by rw [hlen]; exact hc.2) hx (hQ.ag hu hw)
        exact ⟨parts.flatten, .struct hu parts e1 e2, by simpa using e3, by have := hB.ag (xs.map (·.1)); rw [← he.1]; omega⟩
      | _ => simp at hc
end

end Go.Abs
set_option linter.unusedSimpArgs false
set_option linter.unusedVariables false
namespace Go.Abs
open Go Go.RowKit Go.Proofs Go.Lx Go.Pz
variable {w0 : World}

mutual
/-- An expression's cells, however its lists are kept. -/
def ExV : Ex → List AVal → Prop
  | .mk op args kind num scale text qual, av => ∃ fl es, av = [.int op, .list fl es, .int kind, .int num, .int scale, .str text, .str qual] ∧ ExsV args es
def ExsV : List Ex → List (List AVal) → Prop
  | [], es => es = []
  | x :: r, es => ∃ e es', es = e :: es' ∧ ExV x e ∧ ExsV r es'
end
theorem ExV_mk {op : Int} {args : List Ex} {kind num scale : Int} {text qual : Bs} {av : List AVal} : ExV (.mk op args kind num scale text qual) av ↔ ∃ fl es, av = [.int op, .list fl es, .int kind, .int num, .int scale, .str text, .str qual] ∧ ExsV args es := by rw [ExV]
theorem ExsV_nil {es : List (List AVal)} : ExsV [] es ↔ es = [] := by rw [ExsV]
theorem ExsV_cons {x : Ex} {r : List Ex} {es : List (List AVal)} : ExsV (x :: r) es ↔ ∃ e es', es = e :: es' ∧ ExV x e ∧ ExsV r es' := by rw [ExsV]
theorem ExsV_len : ∀ {l : List Ex} {es : List (List AVal)}, ExsV l es → es.length = l.length
  | [], es, h => by rw [ExsV_nil] at h; subst h; rfl
  | x :: r, es, h => by
    rw [ExsV_cons] at h
    obtain ⟨e, es', rfl, _, h2⟩ := h
    simp [ExsV_len h2]
theorem ExsV_get : ∀ {l : List Ex} {es : List (List AVal)}, ExsV l es → ∀ i (h : i < l.length), ExV l[i] (es.getD i [])
  | [], es, h, i, hi => by simp at hi
  | x :: r, es, h, i, hi => by
    rw [ExsV_cons] at h
    obtain ⟨e, es', rfl, h1, h2⟩ := h
    cases i with
    | zero => simpa using h1
    | succ i => simpa using ExsV_get h2 i (by simpa using hi)
theorem ExsV_of : ∀ {l : List Ex} {es : List (List AVal)}, es.length = l.length → (∀ i (h : i < l.length), ExV l[i] (es.getD i [])) → ExsV l es
  | [], es, h, _ => by rw [ExsV_nil]; exact List.eq_nil_of_length_eq_zero h
  | x :: r, [], h, _ => by simp at h
  | x :: r, e :: es, h, hg => by
    rw [ExsV_cons]
    exact ⟨e, es, rfl, hg 0 (by simp), ExsV_of (by simpa using h) fun i hi => hg (i + 1) (by simpa using hi)⟩
theorem ExV_len {x : Ex} {av : List AVal} (h : ExV x av) : av.length = 7 := by
  obtain ⟨op, args, kind, num, scale, text, qual⟩ := x
  rw [ExV_mk] at h
  obtain ⟨fl, es, rfl, _⟩ := h
  rfl
theorem ExV_one {x : Ex} {av : List AVal} (h : ExV x av) : av.all AVal.one = true := by
  obtain ⟨op, args, kind, num, scale, text, qual⟩ := x
  rw [ExV_mk] at h
  obtain ⟨fl, es, rfl, _⟩ := h
  simp

theorem szLL_mem : ∀ {es : List (List AVal)} {i : Nat}, i < es.length → szL (es.getD i []) + 1 ≤ szLL es
  | [], i, h => by simp at h
  | e :: r, 0, _ => by simp [szLL]; omega
  | e :: r, i + 1, h => by
    have := szLL_mem (es := r) (i := i) (by simpa using h)
    simp only [szLL, List.getD_cons_succ]; omega
theorem wL_sz : ∀ {l : List Ex} {es : List (List AVal)}, es.length = l.length → (∀ i (h : i < l.length), (l[i]).w ≤ szL (es.getD i [])) → wL l ≤ szLL es
  | [], es, h, _ => by rw [wL_nil]; omega
  | x :: r, [], h, _ => by simp at h
  | x :: r, e :: es, h, hg => by
    have h0 : x.w ≤ szL e := hg 0 (by simp)
    have h1 := wL_sz (l := r) (es := es) (by simpa using h) fun i hi => hg (i + 1) (by simpa using hi)
    rw [wL_cons]
    simp only [szLL]; omega
variable {B : Nat}
theorem okv_ex : ∀ (n : Nat) {av : List AVal}, szL av ≤ n → Okv Tryz.prog B 30 av → ∃ x : Ex, ExV x av ∧ x.w ≤ szL av := by
  intro n
  induction n using Nat.strongRecOn with
  | _ n ih =>
    intro av hn h
    obtain ⟨parts, rfl, hl, hp⟩ := h.at_struct Tryz.underlying30
    obtain ⟨p0, p1, p2, p3, p4, p5, p6, rfl⟩ : ∃ p0 p1 p2 p3 p4 p5 p6, parts = [p0, p1, p2, p3, p4, p5, p6] := by
      match parts, hl with
      | [a, b, c, d, e, f, g], _ => exact ⟨a, b, c, d, e, f, g, rfl⟩
    obtain ⟨op, rfl, _⟩ := (show Okv Tryz.prog B 3 p0 from hp 0 (by decide)).at_int Tryz.underlying3
    obtain ⟨v, es, rfl, hv, hes, _, _⟩ := (show Okv Tryz.prog B 28 p1 from hp 1 (by decide)).at_slice Tryz.underlying28
    obtain ⟨kind, rfl, _⟩ := (show Okv Tryz.prog B 3 p2 from hp 2 (by decide)).at_int Tryz.underlying3
    obtain ⟨num, rfl, _⟩ := (show Okv Tryz.prog B 2 p3 from hp 3 (by decide)).at_int Tryz.underlying2
    obtain ⟨scale, rfl, _⟩ := (show Okv Tryz.prog B 3 p4 from hp 4 (by decide)).at_int Tryz.underlying3
    obtain ⟨text, rfl, _⟩ := (show Okv Tryz.prog B 9 p5 from hp 5 (by decide)).at_str Tryz.underlying9
    obtain ⟨qual, rfl, _⟩ := (show Okv Tryz.prog B 9 p6 from hp 6 (by decide)).at_str Tryz.underlying9
    obtain ⟨fl, hv2⟩ : ∃ fl, v = .list fl es := by
      rcases hv with ⟨rfl, rfl⟩ | rfl
      · exact ⟨.nil, rfl⟩
      · exact ⟨.any, rfl⟩
    subst hv2
    have hsz : szL ([[AVal.int op], [.list fl es], [.int kind], [.int num], [.int scale], [.str text], [.str qual]] : List (List AVal)).flatten = 1 + szLL es := by simp [szL, szV]
    rw [show ([[.atom (.int .i64 op)], [.list fl es], [.atom (.int .i64 kind)], [.atom (.int .i64 num)], [.atom (.int .i64 scale)], [.str text], [.str qual]] : List (List AVal)).flatten = ([[AVal.int op], [.list fl es], [.int kind], [.int num], [.int scale], [.str text], [.str qual]] : List (List AVal)).flatten from rfl, hsz] at hn
    obtain ⟨xs, h1, h2⟩ := choose_list (p := fun i (x : Ex) => ExV x (es.getD i []) ∧ x.w ≤ szL (es.getD i [])) es.length fun i hi => by
      have := szLL_mem hi
      exact ih (szL (es.getD i [])) (by omega) (Nat.le_refl _) (hes i hi)
    refine ⟨.mk op xs kind num scale text qual, ?_, ?_⟩
    · rw [ExV_mk]
      exact ⟨fl, es, rfl, ExsV_of h1.symm fun i hi => (h2 i hi).1⟩
    · rw [w_mk]
      have := wL_sz h1.symm fun i hi => (h2 i hi).2
      show _ ≤ szL ([[AVal.int op], [.list fl es], [.int kind], [.int num], [.int scale], [.str text], [.str qual]] : List (List AVal)).flatten
      rw [hsz]; omega

def exTypes : List TypeId := [2, 3, 9, 28, 30]
theorem exTypes_closed : closedB Tryz.prog exTypes = true := by kernel_rfl
set_option maxRecDepth 100000 in
/-- An argument that is an expression. -/
theorem arg_ex {H : Type} {enc : TypeId × Value → H} {W : World} {sp : Nat → Bool} {held : Bool} {r : Reach} {base : Nat} {v : Value} {d : DataW H} {p : List MemPlace} {Q : TypeId → DataW H → Prop} {μ : DataW H → Nat} (hB : Bulk μ) (hok : Value.okWide Tryz.prog W r base 30 v)
    (h : DataW.Trod enc Tryz.prog W 0 sp held 30 v d p) (hQ : Meas Tryz.prog B Q) (hw : Q 30 d) : ∃ (x : Ex) (av : List AVal), ExV x av ∧ x.w ≤ 2 * μ d ∧ Rel (WF W) (fun _ => none) (.agg av) v := by
  obtain ⟨cs, rfl⟩ := agg_of_okWide Tryz.underlying30 hok
  obtain ⟨fuel, hf⟩ := h
  obtain ⟨av, hav, hrd, hz⟩ := read_all2 hB exTypes_closed hQ fuel (by simp [exTypes]) hf hw
  obtain ⟨x, h1, h2⟩ := okv_ex (szL av) (Nat.le_refl _) hav
  exact ⟨x, av, h1, by omega, hrd.agg⟩
end Go.Abs
set_option linter.unusedSimpArgs false
set_option linter.unusedVariables false
namespace Go.Abs
open Go Go.RowKit Go.Proofs Go.Lx Go.Pz
variable {w0 : World}

def DIv (H : Heap) (b : Nat) (args : List Ex) (m : Nat) (a : Tmps) (S' : Heap) : Prop := ∃ (i : Nat), m = args.length - i ∧ i ≤ args.length ∧ S' = H ∧ get a 1 = .ptr b 0 0 ∧ get a 4 = .int i ∧ get a 3 = .int (depthL (args.take i))
theorem r15v : ∀ (n : Nat), n < 4000000000000000000 → ∀ (x : Ex), x.w ≤ n → ∀ (av : List AVal), ExV x av → ∀ (S : Heap), ACalls Tryz.prog (B0 w0) 15 [.agg av] S fun e S' => e = .ret (.int x.depth) ∧ S' = S := by
  intro n
  induction n using Nat.strongRecOn with
  | _ n ih =>
    intro hn x hx av hav S
    obtain ⟨op, args, kind, num, scale, text, qual⟩ := x
    rw [depth_mk]
    rw [w_mk] at hx
    rw [ExV_mk] at hav
    obtain ⟨fl, es, rfl, hes⟩ := hav
    have hal := wL_len args
    have hdl := depthL_le args
    have hel := ExsV_len hes
    refine ACalls.close (R := fun e S' => e = .ret (.int (depthL args)) ∧ S'.take S.length = S) ?_ ?_
    rotate_left 1
    · rintro e S' ⟨rfl, ht⟩
      exact .flat ht rfl ⟨rfl, rfl⟩
    refine fn_sound tryOrd (f15_c _) (by simp [f15]) ?_
    simp [f15, f15m]
    obtain ⟨H, hH⟩ : ∃ H, H = S ++ [AObj.cells 7 [[.int op, .list fl es, .int kind, .int num, .int scale, .str text, .str qual]] (some 1)] := ⟨_, rfl⟩
    have hg : H[S.length]? = some (.cells 7 [[.int op, .list fl es, .int kind, .int num, .int scale, .str text, .str qual]] (some 1)) := by rw [hH]; simp
    have ht : H.take S.length = S := by rw [hH]; simp
    rw [← hH]
    refine mwp_loop (I := DIv H S.length args) (n := args.length)
      ⟨0, rfl, Nat.zero_le _, rfl, rfl, rfl, by simp [depthL_nil]⟩ ?_
    rintro m a S' ⟨i, rfl, hi, rfl, a1, a4, a3⟩
    by_cases hlt : i < args.length
    · have hltI : (i : Int) < (args.length : Int) := by omega
      have hv := ExsV_get hes i hlt
      have hlt2 : i < es.length := by omega
      have hltE : (i : Int) < (es.length : Int) := by omega
      have q1 := li_addr (k := 7) (es := es) hlt2 rfl (ExV_len hv)
      have q2 := li_load (k := 7) (es := es) hlt2 rfl (ExV_len hv) true 7 0 (by omega)
      have hmem := w_mem (List.getElem_mem hlt)
      have hd := ih (args[i].w) (by omega) (by omega) args[i] (Nat.le_refl _) _ hv
      have hl7 := ExV_len hv
      generalize es.getD i [] = ev at *
      have htk2 : takeAt true 7 ev 0 = .agg ev := by simp [takeAt, List.take_of_length_le, hl7]
      rw [htk2] at q2
      have hdw := depth_le args[i]
      have htk : depthL (args.take (i + 1)) = max (depthL (args.take i)) (args[i].depth + 1) := by
        rw [List.take_add_one, List.getElem?_eq_getElem hlt, depthL_append, Option.toList_some, depthL_cons, depthL_nil]; omega
      have hw : IntKind.i64.wrap ((args[i].depth : Int) + 1) = ((args[i].depth + 1 : Nat) : Int) := wrapS _ (by omega)
      have hw2 := wrapS i (by omega)
      generalize args[i] = y at *
      simp [f15b0, a1, a4, a3, hg, hltE, q1, q2]
      refine (hd _).use ?_
      rintro e S1 ⟨rfl, rfl⟩
      by_cases hgt2 : depthL (args.take i) < y.depth + 1
      · have hgtI : (depthL (args.take i) : Int) < (y.depth : Int) + 1 := by omega
        simp [a1, a4, a3, hw, hw2, hgtI]
        refine ⟨args.length - (i + 1), by omega, i + 1, rfl, by omega, rfl, by simp [a1], by simp, ?_⟩
        rw [htk, Nat.max_eq_right (by omega)]
        simp
      · have hgtI : ¬ (depthL (args.take i) : Int) < (y.depth : Int) + 1 := by omega
        simp [a1, a4, a3, hw, hw2, hgtI]
        refine ⟨args.length - (i + 1), by omega, i + 1, rfl, by omega, rfl, by simp [a1], by simp, ?_⟩
        rw [htk, Nat.max_eq_left (by omega)]
        simp [a3]
    · have hie : i = args.length := by omega
      subst hie
      rw [List.take_length] at a3
      simp [f15b0, a1, a4, a3, hg, ht, hel]

theorem w25v {l : List Ex} {es : List (List AVal)} (hl : l.length < 4000000000000000000) (hes : ExsV l es) (h17 : ∀ x ∈ l, ∀ av, ExV x av → ∀ S, ACalls Tryz.prog (B0 w0) 17 [.agg (exC x), .agg av] S (TrueR S)) (fl fl' : Fl) (S : Heap) :
    ACalls Tryz.prog (B0 w0) 25 [.list fl (exlC l), .list fl' es] S (TrueR S) := by
  have hel := ExsV_len hes
  refine fn_sound tryOrd (f25_c _) (by simp [f25]) ?_
  simp [f25, f25m, hel]
  refine mwp_loop (I := SaI S l (.list fl (exlC l)) (.list fl' es)) (n := l.length) ⟨0, rfl, Nat.zero_le _, rfl, rfl, rfl, rfl⟩ ?_
  rintro m a S' ⟨i, rfl, hi, rfl, a0, a1, a5⟩
  by_cases hlt : i < l.length
  · have hltI : (i : Int) < (l.length : Int) := by omega
    have hg : (exlC l).getD i [] = exC l[i] := by rw [getD_eq _ _ _ (by simpa using hlt)]; simp [exlC]
    have q1 := li_addr (k := 7) (es := exlC l) (by simpa using hlt) hg (by simp)
    have q2 := li_load (k := 7) (es := exlC l) (by simpa using hlt) hg (by simp) true 7 0 (by omega)
    have hv := ExsV_get hes i hlt
    have hlt2 : i < es.length := by omega
    have p1 := li_addr (k := 7) (es := es) hlt2 rfl (ExV_len hv)
    have p2 := li_load (k := 7) (es := es) hlt2 rfl (ExV_len hv) true 7 0 (by omega)
    have hw := wrapS i (by omega)
    have h := h17 l[i] (List.getElem_mem hlt) _ hv
    have hl7 := ExV_len hv
    generalize es.getD i [] = ev at *
    have htk2 : takeAt true 7 ev 0 = .agg ev := by simp [takeAt, List.take_of_length_le, hl7]
    rw [htk2] at p2
    have ht : takeAt true 7 (exC l[i]) 0 = .agg (exC l[i]) := by simp [takeAt, List.take_of_length_le]
    rw [ht] at q2
    generalize l[i] = y at *
    simp [f25b0, a0, a1, a5, hltI, q1, q2, p1, p2]
    refine (h _).use ?_
    rintro e S1 ⟨rfl, rfl⟩
    simp [a0, a1, a5, hw]
    exact ⟨l.length - (i + 1), by omega, i + 1, rfl, by omega, rfl, by simp [a0], by simp [a1], by simp⟩
  · have hie : i = l.length := by omega
    subst hie
    simp [f25b0, a0, a1, a5]
    exact ⟨rfl, rfl⟩

theorem w17v : ∀ (n : Nat), n < 4000000000000000000 → ∀ (x : Ex), x.w ≤ n → ∀ (av : List AVal), ExV x av → ∀ (S : Heap), ACalls Tryz.prog (B0 w0) 17 [.agg (exC x), .agg av] S (TrueR S) := by
  intro n
  induction n using Nat.strongRecOn with
  | _ n ih =>
    intro hn x hx av hav S
    obtain ⟨op, args, kind, num, scale, text, qual⟩ := x
    rw [w_mk] at hx
    rw [ExV_mk] at hav
    obtain ⟨fl', es, rfl, hes⟩ := hav
    have hal := wL_len args
    refine ACalls.close (R := fun e S' => e = .ret (.bool true) ∧ S'.take S.length = S) ?_ ?_
    rotate_left 1
    · rintro e S' ⟨rfl, ht⟩
      exact .flat ht rfl ⟨rfl, rfl⟩
    obtain ⟨fl, hfl⟩ := exsV_list args
    rw [exC_eq, hfl]
    refine fn_sound tryOrd (f17_c _) (by simp [f17]) ?_
    simp [f17, f17m]
    refine (w25v (by omega) hes (fun y hy av hv S => ih y.w (by have := w_mem hy; omega) (by have := w_mem hy; omega) y (Nat.le_refl _) av hv S) _ _ _).use ?_
    rintro e S1 ⟨rfl, rfl⟩
    simp
end Go.Abs
set_option linter.unusedSimpArgs false
set_option linter.unusedVariables false
namespace Go.Abs
open Go Go.RowKit Go.Proofs Go.Lx Go.Pz
variable {w0 : World}

def opTab : List Int := [-1, 2, 2, 2, 2, 2, 2, 2, 2, 2, 2, 2, 2, 1, 1, 1, 1, 2, 2, 1, 1, 0, 0]
def opnds (op : Int) : Int := if op < 1 ∨ 22 < op then -1 else opTab.getD op.toNat 0
set_option maxHeartbeats 2000000 in
theorem w29 (op : Int) (S : Heap) : ACalls Tryz.prog (B0 w0) 29 [.int op] S fun e S' => e = .ret (.int (opnds op)) ∧ S' = S := by
  refine ACalls.close (R := fun e S' => e = .ret (.int (opnds op)) ∧ S'.take S.length = S) ?_ ?_
  rotate_left 1
  · rintro e S' ⟨rfl, ht⟩
    exact .flat ht rfl ⟨rfl, rfl⟩
  refine fn_sound tryOrd (f29_c _) (by simp [f29]) ?_
  by_cases h1 : op < 1
  · simp [f29, f29m, h1, opnds]
  by_cases h2 : 22 < op
  · simp [f29, f29m, h1, h2, opnds]
  obtain ⟨n, hn⟩ : ∃ n : Nat, op = n := ⟨op.toNat, by omega⟩
  have hc : n = 1 ∨ n = 2 ∨ n = 3 ∨ n = 4 ∨ n = 5 ∨ n = 6 ∨ n = 7 ∨ n = 8 ∨ n = 9 ∨ n = 10 ∨ n = 11 ∨ n = 12 ∨ n = 13 ∨ n = 14 ∨ n = 15 ∨ n = 16 ∨ n = 17 ∨ n = 18 ∨ n = 19 ∨ n = 20 ∨ n = 21 ∨ n = 22 := by omega
  subst hn
  rcases hc with rfl | rfl | rfl | rfl | rfl | rfl | rfl | rfl | rfl | rfl | rfl | rfl | rfl | rfl | rfl | rfl | rfl | rfl | rfl | rfl | rfl | rfl
  all_goals simp [f29, f29m, opnds, opTab]

def mostN (kind : Int) : Int := if kind = 1 then 1 else if kind = 2 then 9223372036854775807 else 0
def constB (kind num scale : Int) (text qual : Bs) : Bool :=
  decide (qual = []) && (if kind = 0 ∨ kind = 1 ∨ kind = 2 then decide (0 ≤ num) && decide (num ≤ mostN kind) && decide (scale = 0) && decide (text = [])
    else if kind = 3 then (if scale = -1 ∨ scale = -2 then decide (num = 0) && decide (text = []) else decide (text = []) && decide (1 ≤ scale) && decide (scale ≤ 14) && decide (0 ≤ num) && decide (num < 1000000000000000))
    else if kind = 4 then decide (num = 0) && decide (scale = 0) && decide (text.length < 201) else false)
set_option maxHeartbeats 8000000 in
theorem w30 (v : AVal) (hv : v.one = true) (op kind num scale : Int) (text qual : Bs) (S : Heap) : ACalls Tryz.prog (B0 w0) 30 [.agg [.int op, v, .int kind, .int num, .int scale, .str text, .str qual]] S fun e S' => e = .ret (.bool (constB kind num scale text qual)) ∧ S' = S := by
  refine ACalls.close (R := fun e S' => e = .ret (.bool (constB kind num scale text qual)) ∧ S'.take S.length = S) ?_ ?_
  rotate_left 1
  · rintro e S' ⟨rfl, ht⟩
    exact .flat ht rfl ⟨rfl, rfl⟩
  refine fn_sound tryOrd (f30_c _) (by simp [f30]) ?_
  by_cases hq : qual = []
  rotate_left 1
  · simp [f30, f30m, hv, hq, constB]
  subst hq
  by_cases h0 : kind = 0 ∨ kind = 1 ∨ kind = 2
  · by_cases hn : 0 ≤ num
    rotate_left 1
    · rcases h0 with rfl | rfl | rfl <;> simp [f30, f30m, hv, hn, constB]
    by_cases hm : num ≤ mostN kind
    rotate_left 1
    · rcases h0 with rfl | rfl | rfl <;> simp [mostN] at hm <;> have hm' := Int.not_le.2 hm <;> simp [f30, f30m, hv, hn, hm', constB, mostN]
    by_cases hs : scale = 0
    rotate_left 1
    · have hs' : (scale == 0) = false := beq_eq_false_iff_ne.2 hs
      rcases h0 with rfl | rfl | rfl <;> simp [mostN] at hm <;> simp [f30, f30m, hv, hn, hm, hs, hs', constB, mostN]
    subst hs
    by_cases ht : text = []
    · rcases h0 with rfl | rfl | rfl <;> simp [mostN] at hm <;> simp [f30, f30m, hv, hn, hm, ht, constB, mostN]
    · rcases h0 with rfl | rfl | rfl <;> simp [mostN] at hm <;> simp [f30, f30m, hv, hn, hm, ht, constB, mostN]
  simp only [not_or] at h0
  obtain ⟨k0, k1, k2⟩ := h0
  have b0 : (kind == 0) = false := beq_eq_false_iff_ne.2 k0
  have b1 : (kind == 1) = false := beq_eq_false_iff_ne.2 k1
  have b2 : (kind == 2) = false := beq_eq_false_iff_ne.2 k2
  by_cases k3 : kind = 3
  · subst k3
    by_cases hs : scale = -1 ∨ scale = -2
    · by_cases hn : num = 0
      · by_cases ht : text = []
        · rcases hs with rfl | rfl <;> simp [f30, f30m, hv, hn, ht, constB]
        · rcases hs with rfl | rfl <;> simp [f30, f30m, hv, hn, ht, constB]
      · have hn' : (num == 0) = false := beq_eq_false_iff_ne.2 hn
        rcases hs with rfl | rfl <;> simp [f30, f30m, hv, hn, hn', constB]
    simp only [not_or] at hs
    obtain ⟨s1, s2⟩ := hs
    have c1 : (scale == -1) = false := beq_eq_false_iff_ne.2 s1
    have c2 : (scale == -2) = false := beq_eq_false_iff_ne.2 s2
    by_cases ht : text = []
    rotate_left 1
    · simp [f30, f30m, hv, c1, c2, s1, s2, ht, constB]
    by_cases h1 : scale < 1
    · have h1' : ¬ 1 ≤ scale := by omega
      simp [f30, f30m, hv, c1, c2, s1, s2, ht, h1, h1', constB]
    have h1' : 1 ≤ scale := by omega
    by_cases h2 : 14 < scale
    · have h2' : ¬ scale ≤ 14 := by omega
      simp [f30, f30m, hv, c1, c2, s1, s2, ht, h1, h1', h2, h2', constB]
    have h2' : scale ≤ 14 := by omega
    by_cases h3 : num < 0
    · have h3' : ¬ 0 ≤ num := by omega
      simp [f30, f30m, hv, c1, c2, s1, s2, ht, h1, h1', h2, h2', h3, h3', constB]
    have h3' : 0 ≤ num := by omega
    simp [f30, f30m, hv, c1, c2, s1, s2, ht, h1, h1', h2, h2', h3, h3', constB]
  have b3 : (kind == 3) = false := beq_eq_false_iff_ne.2 k3
  by_cases k4 : kind = 4
  · subst k4
    by_cases hn : num = 0
    rotate_left 1
    · have hn' : (num == 0) = false := beq_eq_false_iff_ne.2 hn
      simp [f30, f30m, hv, hn, hn', constB]
    by_cases hs : scale = 0
    rotate_left 1
    · have hs' : (scale == 0) = false := beq_eq_false_iff_ne.2 hs
      simp [f30, f30m, hv, hn, hs, hs', constB]
    by_cases ht : text.length < 201
    · have ht' : (text.length : Int) < 201 := by omega
      simp [f30, f30m, hv, hn, hs, ht, ht', constB]
    · have ht' : ¬ (text.length : Int) < 201 := by omega
      simp [f30, f30m, hv, hn, hs, ht, ht', constB]
  have b4 : (kind == 4) = false := beq_eq_false_iff_ne.2 k4
  simp [f30, f30m, hv, b0, b1, b2, b3, b4, k0, k1, k2, k3, k4, constB]

mutual
/-- A right expression. -/
def okE : Ex → Bool
  | .mk op args kind num scale text qual => decide ((args.length : Int) = opnds op) && (if op = 21 then constB kind num scale text qual
    else decide (kind = 0) && decide (num = 0) && decide (scale = 0) && (if op = 22 then nameB text && (decide (qual = []) || nameB qual) else okL args && decide (text = []) && decide (qual = [])))
def okL : List Ex → Bool
  | [] => true
  | x :: r => okE x && okL r
end
theorem okE_mk {op : Int} {args : List Ex} {kind num scale : Int} {text qual : Bs} : okE (.mk op args kind num scale text qual) = (decide ((args.length : Int) = opnds op) && (if op = 21 then constB kind num scale text qual
    else decide (kind = 0) && decide (num = 0) && decide (scale = 0) && (if op = 22 then nameB text && (decide (qual = []) || nameB qual) else okL args && decide (text = []) && decide (qual = [])))) := by rw [okE]
theorem okL_nil : okL [] = true := by rw [okL]
theorem okL_cons {x : Ex} {r : List Ex} : okL (x :: r) = (okE x && okL r) := by rw [okL]
theorem okL_iff : ∀ {l : List Ex}, okL l = true ↔ ∀ x ∈ l, okE x = true
  | [] => by simp [okL_nil]
  | x :: r => by rw [okL_cons, Bool.and_eq_true, okL_iff]; simp

def OkI (H : Heap) (b : Nat) (args : List Ex) (m : Nat) (a : Tmps) (S' : Heap) : Prop := ∃ (i : Nat), m = args.length - i ∧ i ≤ args.length ∧ S' = H ∧ get a 1 = .ptr b 0 0 ∧ get a 3 = .int i ∧ okL (args.take i) = true
end Go.Abs
set_option linter.unusedSimpArgs false
set_option linter.unusedVariables false
namespace Go.Abs
open Go Go.RowKit Go.Proofs Go.Lx Go.Pz
variable {w0 : World}

def OkP (S H : Heap) (b : Nat) (args : List Ex) : AExit → Tmps → Heap → Prop
  | .normal, a, S' => S' = H ∧ get a 1 = .ptr b 0 0 ∧ okL args = true
  | .ret, a, S' => S' = H ∧ get a 2 = .bool false ∧ okL args = false
  | _, _, _ => False
theorem okL_take {l : List Ex} {i : Nat} (h : i < l.length) : okL (l.take (i + 1)) = (okL (l.take i) && okE l[i]) := by
  rw [Bool.eq_iff_iff, Bool.and_eq_true, okL_iff, okL_iff, List.take_add_one, List.getElem?_eq_getElem h]
  simp only [Option.toList_some, List.mem_append, List.mem_singleton]
  constructor
  · intro hh
    exact ⟨fun x hx => hh x (.inl hx), hh _ (.inr rfl)⟩
  · rintro ⟨h1, h2⟩ x (hx | rfl)
    · exact h1 x hx
    · exact h2
set_option maxHeartbeats 2000000 in
theorem w14l {S H : Heap} {b : Nat} {c : List AVal} {args : List Ex} {fl : Fl} {es : List (List AVal)} (hal : args.length < 4000000000000000000) (hes : ExsV args es) {op kind num scale : Int} {text qual : Bs} (hg : H[b]? = some (.cells 7 [[.int op, .list fl es, .int kind, .int num, .int scale, .str text, .str qual]] (some 1)))
    (h14 : ∀ x ∈ args, ∀ av, ExV x av → ∀ S, ACalls Tryz.prog (B0 w0) 14 [.agg av] S fun e S' => e = .ret (.bool (okE x)) ∧ S' = S) {G : Nat → AVal} {m : Nat} {a : Tmps} {S' : Heap} (h : OkI H b args m a S') :
    mwp (ACalls Tryz.prog (B0 w0)) (.block 0 (.loop (f14b0 G))) (OkP S H b args) a S' := by
  have hel := ExsV_len hes
  simp only [mwp_block]
  refine mwp_loop (I := OkI H b args) h ?_
  clear h
  rintro m a S' ⟨i, rfl, hi, rfl, a1, a3, hok⟩
  by_cases hlt : i < args.length
  · have hv := ExsV_get hes i hlt
    have hlt2 : i < es.length := by omega
    have hltE : (i : Int) < (es.length : Int) := by omega
    have q1 := li_addr (k := 7) (es := es) hlt2 rfl (ExV_len hv)
    have q2 := li_load (k := 7) (es := es) hlt2 rfl (ExV_len hv) true 7 0 (by omega)
    have hd := h14 args[i] (List.getElem_mem hlt) _ hv
    have hl7 := ExV_len hv
    generalize es.getD i [] = ev at *
    have htk2 : takeAt true 7 ev 0 = .agg ev := by simp [takeAt, List.take_of_length_le, hl7]
    rw [htk2] at q2
    have hw2 := wrapS i (by omega)
    have htk := okL_take hlt
    have hmem := List.getElem_mem hlt
    generalize args[i] = y at *
    simp [f14b0, a1, a3, hg, hltE, q1, q2]
    refine (hd _).use ?_
    rintro e S1 ⟨rfl, rfl⟩
    cases hy : okE y with
    | true =>
      simp [a1, a3, hw2]
      rw [hok, hy] at htk
      exact ⟨args.length - (i + 1), by omega, i + 1, rfl, by omega, rfl, by simp [a1], by simp, by simpa using htk⟩
    | false =>
      have hL : okL args = false := by
        cases hLL : okL args with
        | false => rfl
        | true => have := okL_iff.1 hLL y hmem; rw [hy] at this; cases this
      simp [a1, a3]
      exact ⟨rfl, by simp, hL⟩
  · have hie : i = args.length := by omega
    subst hie
    rw [List.take_length] at hok
    simp [f14b0, a1, a3, hg, hel]
    exact ⟨rfl, by simp [a1], hok⟩

set_option maxHeartbeats 4000000 in
theorem w14 : ∀ (n : Nat), n < 4000000000000000000 → ∀ (x : Ex), x.w ≤ n → ∀ (av : List AVal), ExV x av → ∀ (S : Heap), ACalls Tryz.prog (B0 w0) 14 [.agg av] S fun e S' => e = .ret (.bool (okE x)) ∧ S' = S := by
  intro n
  induction n using Nat.strongRecOn with
  | _ n ih =>
    intro hn x hx av hav S
    obtain ⟨op, args, kind, num, scale, text, qual⟩ := x
    rw [w_mk] at hx
    rw [ExV_mk] at hav
    obtain ⟨fl, es, rfl, hes⟩ := hav
    have hal := wL_len args
    have hel := ExsV_len hes
    refine ACalls.close (R := fun e S' => e = .ret (.bool (okE (.mk op args kind num scale text qual))) ∧ S'.take S.length = S) ?_ ?_
    rotate_left 1
    · rintro e S' ⟨rfl, ht⟩
      exact .flat ht rfl ⟨rfl, rfl⟩
    rw [okE_mk]
    refine fn_sound tryOrd (f14_c _) (by simp [f14]) ?_
    rw [f14, f14m, mwp_seq]
    simp [-mwp_seq, -mwp_block]
    obtain ⟨H, hH⟩ : ∃ H, H = S ++ [AObj.cells 7 [[.int op, .list fl es, .int kind, .int num, .int scale, .str text, .str qual]] (some 1)] := ⟨_, rfl⟩
    have hg : H[S.length]? = some (.cells 7 [[.int op, .list fl es, .int kind, .int num, .int scale, .str text, .str qual]] (some 1)) := by rw [hH]; simp
    have ht : H.take S.length = S := by rw [hH]; simp
    rw [← hH]
    rw [mwp_seq, mwp_seq]
    simp [-mwp_seq, -mwp_block, hg]
    refine (w29 op _).use ?_
    rintro e S1 ⟨rfl, rfl⟩
    by_cases hl : (args.length : Int) = opnds op
    rotate_left 1
    · have hb : ((es.length : Int) != opnds op) = true := by simp; omega
      simp [hb, hl, ht, hg]
    have hb : ((es.length : Int) != opnds op) = false := by simp; omega
    simp [-mwp_seq, -mwp_block, hb, hl]
    rw [mwp_seq, mwp_seq]
    by_cases h21 : op = 21
    · simp [-mwp_block, hg, h21]
      refine (w30 _ rfl _ _ _ _ _ _ _).use ?_
      rintro e S1 ⟨rfl, rfl⟩
      simp [ht, h21]
    have b21 : (op == 21) = false := beq_eq_false_iff_ne.2 h21
    simp [-mwp_seq, -mwp_block, hg, b21, h21]
    rw [mwp_seq, mwp_seq]
    by_cases hk : kind = 0
    rotate_left 1
    · have hk' : (kind != 0) = true := by simp [hk]
      simp [-mwp_block, hg, hk', hk, ht]
    by_cases hnm : num = 0
    rotate_left 1
    · have hk' : (num != 0) = true := by simp [hnm]
      simp [-mwp_block, hg, hk, hk', hnm, ht]
    by_cases hsc : scale = 0
    rotate_left 1
    · have hk' : (scale != 0) = true := by simp [hsc]
      simp [-mwp_block, hg, hk, hk', hnm, hsc, ht]
    simp [-mwp_seq, -mwp_block, hg, hk, hnm, hsc]
    rw [mwp_seq, mwp_seq]
    by_cases h22 : op = 22
    · simp [-mwp_block, hg, h22]
      refine (w31 text _).use ?_
      rintro e S1 ⟨rfl, rfl⟩
      cases htx : nameB text with
      | false => simp [hg, ht, h22]
      | true =>
        by_cases hq : qual = []
        · simp [hg, hq, ht, h22]
        · simp [hg, hq]
          refine (w31 qual _).use ?_
          rintro e S1 ⟨rfl, rfl⟩
          simp [ht, h22, hq]
    have b22 : (op == 22) = false := beq_eq_false_iff_ne.2 h22
    simp [-mwp_seq, -mwp_block, hg, b22, h22]
    rw [mwp_seq, mwp_seq]
    simp [-mwp_seq, -mwp_block, hg]
    refine mwp_mono _ _ (fun _ _ _ _ _ hr h => h.mono hr) ?_ (w14l (w0 := w0) (S := S) (c := []) (by omega) hes (op := op) (kind := kind) (num := num) (scale := scale) (text := text) (qual := qual) (by rw [hk, hnm, hsc] at hg ⊢; exact hg) (fun y hy av hv S => ih y.w (by have := w_mem hy; omega) (by have := w_mem hy; omega) y (Nat.le_refl _) av hv S)
      (m := args.length) ⟨0, rfl, Nat.zero_le _, rfl, by simp, by simp, by simp [okL_nil]⟩)
    intro e a2 S2 hJ
    cases e <;> first | exact hJ.elim | skip
    · obtain ⟨rfl, a1, hL⟩ := hJ
      by_cases htx : text = []
      · simp [hg, a1, hL, htx, ht]
      · simp [hg, a1, hL, htx, ht]
    · obtain ⟨rfl, a2', hL⟩ := hJ
      simp [a2', hL, ht]
end Go.Abs
set_option linter.unusedSimpArgs false
set_option linter.unusedVariables false
namespace Go.Abs
open Go Go.RowKit Go.Proofs Go.Lx Go.Pz
variable {w0 : World}

def aheadT : List Bs := [[], [], [], [], [], [], [], [], [], [], [], [], [], [40, 45, 32], [73, 78, 84, 40], [82, 69, 65, 76, 40], [40, 78, 79, 84, 32], [], [], [40], [40], [], []]
def behindT : List Bs := [[], [], [], [], [], [], [], [], [], [], [], [], [], [41], [41], [41], [41], [], [], [32, 73, 83, 32, 78, 85, 76, 76, 41], [32, 73, 83, 32, 78, 79, 84, 32, 78, 85, 76, 76, 41], [], []]
def signT : List Bs := [[], [61], [60, 62], [60], [60, 61], [62], [62, 61], [43], [45], [42], [47], [37], [124, 124], [], [], [], [], [65, 78, 68], [79, 82], [], [], [], []]
def constT (kind num scale : Int) (text : Bs) : Bs :=
  if kind = 0 then [78, 85, 76, 76] else if kind = 1 then (if num = 0 then [70, 65, 76, 83, 69] else [84, 82, 85, 69])
  else if kind = 3 ∧ scale = -1 then [78, 65, 78] else if kind = 3 ∧ scale = -2 then [73, 78, 70, 73, 78, 73, 84, 89] else wordOf ⟨kind, text, num, scale⟩
def shapeT (op kind num scale : Int) (text qual : Bs) (l : List Bs) : Bs :=
  if op = 21 then constT kind num scale text else if op = 22 then (if qual = [] then text else qual ++ 46 :: text)
  else match l with
    | [a] => aheadT.getD op.toNat [] ++ a ++ behindT.getD op.toNat []
    | [a, b] => 40 :: a ++ 32 :: (signT.getD op.toNat [] ++ 32 :: (b ++ [41]))
    | _ => []
mutual
def textE : Ex → Bs
  | .mk op args kind num scale text qual => shapeT op kind num scale text qual (textsE args)
def textsE : List Ex → List Bs
  | [] => []
  | x :: r => textE x :: textsE r
end
theorem textE_mk {op : Int} {args : List Ex} {kind num scale : Int} {text qual : Bs} : textE (.mk op args kind num scale text qual) = shapeT op kind num scale text qual (textsE args) := by rw [textE]
theorem textsE_nil : textsE [] = [] := by rw [textsE]
theorem textsE_cons {x : Ex} {r : List Ex} : textsE (x :: r) = textE x :: textsE r := by rw [textsE]

section
variable {op kind num scale : Int} {text qual : Bs} {l : List Bs} {a b : Bs}
theorem shapeT_const (h : op = 21) : shapeT op kind num scale text qual l = constT kind num scale text := by unfold shapeT; rw [if_pos h]
theorem shapeT_col (h : op = 22) : shapeT op kind num scale text qual l = if qual = [] then text else qual ++ 46 :: text := by unfold shapeT; rw [if_neg (by omega), if_pos h]
theorem shapeT_one (h1 : op ≠ 21) (h2 : op ≠ 22) : shapeT op kind num scale text qual [a] = aheadT.getD op.toNat [] ++ a ++ behindT.getD op.toNat [] := by unfold shapeT; rw [if_neg h1, if_neg h2]
theorem shapeT_two (h1 : op ≠ 21) (h2 : op ≠ 22) : shapeT op kind num scale text qual [a, b] = 40 :: a ++ 32 :: (signT.getD op.toNat [] ++ 32 :: (b ++ [41])) := by unfold shapeT; rw [if_neg h1, if_neg h2]
end
theorem length_two {α : Type} {l : List α} (h : l.length = 2) : ∃ a b, l = [a, b] := by
  match l, h with
  | [a, b], _ => exact ⟨a, b, rfl⟩

/-- Which operators take one operand, which two. -/
theorem op_one {op : Int} (h : opnds op = 1) : op = 13 ∨ op = 14 ∨ op = 15 ∨ op = 16 ∨ op = 19 ∨ op = 20 := by
  unfold opnds at h
  split at h
  · cases h
  · obtain ⟨n, rfl⟩ : ∃ n : Nat, op = n := ⟨op.toNat, by omega⟩
    have hc : n = 1 ∨ n = 2 ∨ n = 3 ∨ n = 4 ∨ n = 5 ∨ n = 6 ∨ n = 7 ∨ n = 8 ∨ n = 9 ∨ n = 10 ∨ n = 11 ∨ n = 12 ∨ n = 13 ∨ n = 14 ∨ n = 15 ∨ n = 16 ∨ n = 17 ∨ n = 18 ∨ n = 19 ∨ n = 20 ∨ n = 21 ∨ n = 22 := by omega
    rcases hc with rfl | rfl | rfl | rfl | rfl | rfl | rfl | rfl | rfl | rfl | rfl | rfl | rfl | rfl | rfl | rfl | rfl | rfl | rfl | rfl | rfl | rfl <;> first | (exfalso; revert h; decide) | simp
theorem op_two {op : Int} (h : opnds op = 2) : op = 1 ∨ op = 2 ∨ op = 3 ∨ op = 4 ∨ op = 5 ∨ op = 6 ∨ op = 7 ∨ op = 8 ∨ op = 9 ∨ op = 10 ∨ op = 11 ∨ op = 12 ∨ op = 17 ∨ op = 18 := by
  unfold opnds at h
  split at h
  · cases h
  · obtain ⟨n, rfl⟩ : ∃ n : Nat, op = n := ⟨op.toNat, by omega⟩
    have hc : n = 1 ∨ n = 2 ∨ n = 3 ∨ n = 4 ∨ n = 5 ∨ n = 6 ∨ n = 7 ∨ n = 8 ∨ n = 9 ∨ n = 10 ∨ n = 11 ∨ n = 12 ∨ n = 13 ∨ n = 14 ∨ n = 15 ∨ n = 16 ∨ n = 17 ∨ n = 18 ∨ n = 19 ∨ n = 20 ∨ n = 21 ∨ n = 22 := by omega
    rcases hc with rfl | rfl | rfl | rfl | rfl | rfl | rfl | rfl | rfl | rfl | rfl | rfl | rfl | rfl | rfl | rfl | rfl | rfl | rfl | rfl | rfl | rfl <;> first | (exfalso; revert h; decide) | simp
theorem op_none {op : Int} {n : Nat} (h : (n : Int) = opnds op) (h1 : op ≠ 21) (h2 : op ≠ 22) : n = 1 ∨ n = 2 := by
  unfold opnds at h
  split at h
  · omega
  · obtain ⟨k, rfl⟩ : ∃ k : Nat, op = k := ⟨op.toNat, by omega⟩
    have hc : k = 1 ∨ k = 2 ∨ k = 3 ∨ k = 4 ∨ k = 5 ∨ k = 6 ∨ k = 7 ∨ k = 8 ∨ k = 9 ∨ k = 10 ∨ k = 11 ∨ k = 12 ∨ k = 13 ∨ k = 14 ∨ k = 15 ∨ k = 16 ∨ k = 17 ∨ k = 18 ∨ k = 19 ∨ k = 20 := by omega
    rcases hc with rfl | rfl | rfl | rfl | rfl | rfl | rfl | rfl | rfl | rfl | rfl | rfl | rfl | rfl | rfl | rfl | rfl | rfl | rfl | rfl <;> simp [opTab] at h <;> omega

/-- What a right constant is. -/
theorem const_tok {kind num scale : Int} {text qual : Bs} (h : constB kind num scale text qual = true) : (kind = 0 ∧ num = 0 ∧ scale = 0 ∧ text = []) ∨ (kind = 1 ∧ (num = 0 ∨ num = 1) ∧ scale = 0 ∧ text = []) ∨ (kind = 3 ∧ (scale = -1 ∨ scale = -2) ∧ num = 0 ∧ text = []) ∨
    (kind ≠ 0 ∧ kind ≠ 1 ∧ ¬ (kind = 3 ∧ scale = -1) ∧ ¬ (kind = 3 ∧ scale = -2) ∧ OkT ⟨kind, text, num, scale⟩ ∧ (kind = 2 ∨ kind = 3 ∨ kind = 4)) := by
  unfold constB at h
  simp only [Bool.and_eq_true, decide_eq_true_eq] at h
  obtain ⟨_, h⟩ := h
  split at h
  · rename_i hk
    simp only [Bool.and_eq_true, decide_eq_true_eq] at h
    obtain ⟨⟨⟨h0, h1⟩, rfl⟩, rfl⟩ := h
    rcases hk with rfl | rfl | rfl
    · simp [mostN] at h1
      exact .inl ⟨rfl, by omega, rfl, rfl⟩
    · simp [mostN] at h1
      exact .inr (.inl ⟨rfl, by omega, rfl, rfl⟩)
    · simp [mostN] at h1
      refine .inr (.inr (.inr ⟨by decide, by decide, by simp, by simp, ?_, .inl rfl⟩))
      obtain ⟨n, rfl⟩ : ∃ n : Nat, num = n := ⟨num.toNat, by omega⟩
      exact .int n (by omega)
  · split at h
    · rename_i hk
      subst hk
      split at h
      · rename_i hs
        simp only [Bool.and_eq_true, decide_eq_true_eq] at h
        exact .inr (.inr (.inl ⟨rfl, hs, h.1, h.2⟩))
      · rename_i hs
        simp only [Bool.and_eq_true, decide_eq_true_eq] at h
        obtain ⟨⟨⟨⟨rfl, h1⟩, h2⟩, h3⟩, h4⟩ := h
        refine .inr (.inr (.inr ⟨by decide, by decide, by omega, by omega, ?_, .inr (.inl rfl)⟩))
        obtain ⟨n, rfl⟩ : ∃ n : Nat, num = n := ⟨num.toNat, by omega⟩
        obtain ⟨k, rfl⟩ : ∃ k : Nat, scale = k := ⟨scale.toNat, by omega⟩
        exact .real n k (by omega) (by omega) (by omega)
    · split at h
      · rename_i hk
        subst hk
        simp only [Bool.and_eq_true, decide_eq_true_eq] at h
        obtain ⟨⟨rfl, rfl⟩, h3⟩ := h
        exact .inr (.inr (.inr ⟨by decide, by decide, by simp, by simp, .text text (by omega), .inr (.inr rfl)⟩))
      · cases h
theorem const_len {kind num scale : Int} {text qual : Bs} (h : constB kind num scale text qual = true) : (constT kind num scale text).length ≤ 1000 := by
  unfold constT
  rcases const_tok h with ⟨rfl, _⟩ | ⟨rfl, h1, _⟩ | ⟨rfl, h1, _⟩ | ⟨h1, h2, h3, h4, h5, _⟩
  · simp
  · rcases h1 with rfl | rfl <;> simp
  · rcases h1 with rfl | rfl <;> simp
  · rw [if_neg h1, if_neg h2, if_neg h3, if_neg h4]
    exact wordOf_len h5
theorem nameB_len {x : Bs} (h : nameB x = true) : x.length ≤ 32 := by
  unfold nameB at h
  simp only [Bool.and_eq_true, decide_eq_true_eq] at h
  exact h.1.1.1.2
theorem textE_len : ∀ (n : Nat) (x : Ex), x.w ≤ n → okE x = true → (textE x).length ≤ 1100 * (x.w + 1) := by
  intro n
  induction n using Nat.strongRecOn with
  | _ n ih =>
    intro x hx ho
    obtain ⟨op, args, kind, num, scale, text, qual⟩ := x
    rw [okE_mk, Bool.and_eq_true, decide_eq_true_eq] at ho
    obtain ⟨hl, ho⟩ := ho
    rw [w_mk] at hx ⊢
    rw [textE_mk]
    by_cases h21 : op = 21
    · rw [if_pos h21] at ho
      rw [shapeT_const h21]
      have := const_len ho
      omega
    rw [if_neg h21] at ho
    simp only [Bool.and_eq_true, decide_eq_true_eq] at ho
    obtain ⟨_, ho⟩ := ho
    by_cases h22 : op = 22
    · rw [if_pos h22] at ho
      rw [shapeT_col h22]
      simp only [Bool.and_eq_true, Bool.or_eq_true, decide_eq_true_eq] at ho
      have h1 := nameB_len ho.1
      split
      · omega
      · rename_i hq
        have h2 := nameB_len (ho.2.resolve_left hq)
        simp; omega
    rw [if_neg h22] at ho
    simp only [Bool.and_eq_true, decide_eq_true_eq] at ho
    obtain ⟨⟨hL, _⟩, _⟩ := ho
    rcases op_none hl h21 h22 with hn | hn
    · obtain ⟨a, rfl⟩ : ∃ a, args = [a] := List.length_eq_one_iff.1 hn
      have hw : wL [a] = a.w + 1 := by rw [wL_cons, wL_nil]
      have h1 := ih a.w (by omega) a (Nat.le_refl _) (okL_iff.1 hL a (by simp))
      rw [textsE_cons, textsE_nil, shapeT_one h21 h22]
      have hop := op_one (op := op) (by simpa using hl.symm)
      simp only [List.length_append]
      have h2 : (aheadT.getD op.toNat []).length ≤ 5 ∧ (behindT.getD op.toNat []).length ≤ 13 := by
        rcases hop with rfl | rfl | rfl | rfl | rfl | rfl <;> decide
      omega
    · obtain ⟨a, b, rfl⟩ : ∃ a b, args = [a, b] := length_two hn
      have hw : wL [a, b] = a.w + b.w + 2 := by rw [wL_cons, wL_cons, wL_nil]; omega
      have h1 := ih a.w (by omega) a (Nat.le_refl _) (okL_iff.1 hL a (by simp))
      have h2 := ih b.w (by omega) b (Nat.le_refl _) (okL_iff.1 hL b (by simp))
      rw [textsE_cons, textsE_cons, textsE_nil, shapeT_two h21 h22]
      have hop := op_two (op := op) (by simpa using hl.symm)
      have h3 : (signT.getD op.toNat []).length ≤ 3 := by
        rcases hop with rfl | rfl | rfl | rfl | rfl | rfl | rfl | rfl | rfl | rfl | rfl | rfl | rfl | rfl <;> decide
      simp only [List.cons_append, List.length_append, List.length_cons, List.length_nil]
      omega
end Go.Abs
set_option linter.unusedSimpArgs false
set_option linter.unusedVariables false
namespace Go.Abs
open Go Go.RowKit Go.Proofs Go.Lx Go.Pz
variable {w0 : World}

set_option maxHeartbeats 16000000 in
theorem w16 : ∀ (n : Nat), n < 1000000000000 → ∀ (x : Ex), x.w ≤ n → okE x = true → ∀ (av : List AVal), ExV x av → ∀ (S : Heap), ACalls Tryz.prog (B0 w0) 16 [.agg av] S fun e S' => e = .ret (.str (textE x)) ∧ S' = S := by
  intro n
  induction n using Nat.strongRecOn with
  | _ n ih =>
    intro hn x hx ho av hav S
    obtain ⟨op, args, kind, num, scale, text, qual⟩ := x
    rw [okE_mk, Bool.and_eq_true, decide_eq_true_eq] at ho
    obtain ⟨hl, ho⟩ := ho
    rw [w_mk] at hx
    rw [ExV_mk] at hav
    obtain ⟨fl, es, rfl, hes⟩ := hav
    have hel := ExsV_len hes
    refine ACalls.close (R := fun e S' => e = .ret (.str (textE (.mk op args kind num scale text qual))) ∧ S'.take S.length = S) ?_ ?_
    rotate_left 1
    · rintro e S' ⟨rfl, ht⟩
      exact .flat ht rfl ⟨rfl, rfl⟩
    rw [textE_mk]
    refine fn_sound tryOrd (f16_c _) (by simp [f16]) ?_
    rw [f16, f16m, mwp_seq]
    simp [-mwp_seq, -mwp_block]
    obtain ⟨H, hH⟩ : ∃ H, H = S ++ [AObj.cells 7 [[.int op, .list fl es, .int kind, .int num, .int scale, .str text, .str qual]] (some 1)] := ⟨_, rfl⟩
    have hg : ∀ g, (H ++ g)[S.length]? = some (.cells 7 [[.int op, .list fl es, .int kind, .int num, .int scale, .str text, .str qual]] (some 1)) := fun g => by rw [hH]; simp
    have hg0 := hg []
    rw [List.append_nil] at hg0
    have ht : ∀ g, (H ++ g).take S.length = S := fun g => by rw [hH]; simp
    have ht0 := ht []
    rw [List.append_nil] at ht0
    rw [← hH]
    rw [mwp_seq, mwp_seq]
    by_cases h21 : op = 21
    · rw [if_pos h21] at ho
      rw [shapeT_const h21]
      have htk := const_tok ho
      unfold constT
      rcases htk with ⟨rfl, _⟩ | ⟨rfl, h1, _⟩ | ⟨rfl, h1, _⟩ | ⟨h1, h2, h3, h4, h5, h6⟩
      · simp [hg0, hg, h21, ht]
      · rcases h1 with rfl | rfl <;> simp [hg0, hg, h21, ht]
      · rcases h1 with rfl | rfl <;> simp [hg0, hg, h21, ht]
      · have b0 : (kind == 0) = false := beq_eq_false_iff_ne.2 h1
        have b1 : (kind == 1) = false := beq_eq_false_iff_ne.2 h2
        have hw := fun S => w13 (w0 := w0) h5 S
        simp only [tokC] at hw
        rw [if_neg h1, if_neg h2, if_neg h3, if_neg h4]
        by_cases k3 : kind = 3
        · have s1 : (scale == -1) = false := beq_eq_false_iff_ne.2 (fun h => h3 ⟨k3, h⟩)
          have s2 : (scale == -2) = false := beq_eq_false_iff_ne.2 (fun h => h4 ⟨k3, h⟩)
          simp [hg0, hg, h21, b0, b1, k3, s1, s2]
          rw [k3] at hw
          refine (hw _).use ?_
          rintro e S1 ⟨rfl, rfl⟩
          simp [ht, k3]
        · have b3 : (kind == 3) = false := beq_eq_false_iff_ne.2 k3
          simp [hg0, hg, h21, b0, b1, b3]
          refine (hw _).use ?_
          rintro e S1 ⟨rfl, rfl⟩
          simp [ht]
    rw [if_neg h21] at ho
    simp only [Bool.and_eq_true, decide_eq_true_eq] at ho
    obtain ⟨⟨⟨rfl, rfl⟩, rfl⟩, ho⟩ := ho
    have b21 : (op == 21) = false := beq_eq_false_iff_ne.2 h21
    simp [-mwp_seq, -mwp_block, hg0, b21]
    rw [mwp_seq, mwp_seq]
    by_cases h22 : op = 22
    · rw [if_pos h22] at ho
      rw [shapeT_col h22]
      simp only [Bool.and_eq_true, Bool.or_eq_true, decide_eq_true_eq] at ho
      have h1 := nameB_len ho.1
      by_cases hq : qual = []
      · simp [hg0, h22, hq, ht0]
      · have h2 := nameB_len (ho.2.resolve_left hq)
        simp [hg0, h22, hq, ht0]
        omega
    rw [if_neg h22] at ho
    have b22 : (op == 22) = false := beq_eq_false_iff_ne.2 h22
    simp only [Bool.and_eq_true, decide_eq_true_eq] at ho
    obtain ⟨⟨hL, rfl⟩, rfl⟩ := ho
    simp [-mwp_seq, -mwp_block, hg0, b22]
    rw [mwp_seq]
    simp [-mwp_seq, -mwp_block]
    rw [mwp_seq]
    simp [-mwp_seq, -mwp_block]
    rw [mwp_seq, mwp_seq]
    have hHl : H.length = S.length + 1 := by rw [hH]; simp
    rcases op_none hl h21 h22 with hn1 | hn1
    · obtain ⟨y, rfl⟩ : ∃ y, args = [y] := List.length_eq_one_iff.1 hn1
      have hv : ExV y (es.getD 0 []) := ExsV_get hes 0 (by simp)
      have he1 : es.length = 1 := hel
      have q1 := li_addr (k := 7) (es := es) (i := 0) (by omega) rfl (ExV_len hv)
      have q2 := li_load (k := 7) (es := es) (i := 0) (by omega) rfl (ExV_len hv) true 7 0 (by omega)
      have hw : wL [y] = y.w + 1 := by rw [wL_cons, wL_nil]
      have hoy := okL_iff.1 hL y (by simp)
      have hd := ih y.w (by omega) (by omega) y (Nat.le_refl _) hoy _ hv
      have hlen := textE_len y.w y (Nat.le_refl _) hoy
      have hl7 := ExV_len hv
      have z0 : ∀ h : 0 < es.length, (es[0]'h).length = 7 := fun h => by rw [← hl7, getD_eq _ _ _ h]
      generalize es.getD 0 [] = ev at *
      have htk2 : takeAt true 7 ev 0 = .agg ev := by simp [takeAt, List.take_of_length_le, hl7]
      rw [htk2] at q2
      rw [textsE_cons, textsE_nil, shapeT_one h21 h22]
      have hop := op_one (op := op) (by simpa using hl.symm)
      generalize textE y = ty at *
      rcases hop with rfl | rfl | rfl | rfl | rfl | rfl
      all_goals
        simp [-mwp_seq, -mwp_block, hg, he1]
        simp [hg, he1, q1, q2, z0]
        refine (hd _).use ?_
        rintro e S1 ⟨rfl, rfl⟩
        simp [hg, ht, aheadT, behindT]
        omega
    · obtain ⟨y, z, rfl⟩ : ∃ y z, args = [y, z] := length_two hn1
      have hv : ExV y (es.getD 0 []) := ExsV_get hes 0 (by simp)
      have hvz : ExV z (es.getD 1 []) := ExsV_get hes 1 (by simp)
      have he1 : es.length = 2 := hel
      have q1 := li_addr (k := 7) (es := es) (i := 0) (by omega) rfl (ExV_len hv)
      have q2 := li_load (k := 7) (es := es) (i := 0) (by omega) rfl (ExV_len hv) true 7 0 (by omega)
      have p1 := li_addr (k := 7) (es := es) (i := 1) (by omega) rfl (ExV_len hvz)
      have p2 := li_load (k := 7) (es := es) (i := 1) (by omega) rfl (ExV_len hvz) true 7 0 (by omega)
      have hw : wL [y, z] = y.w + z.w + 2 := by rw [wL_cons, wL_cons, wL_nil]; omega
      have hoy := okL_iff.1 hL y (by simp)
      have hoz := okL_iff.1 hL z (by simp)
      have hd := ih y.w (by omega) (by omega) y (Nat.le_refl _) hoy _ hv
      have hdz := ih z.w (by omega) (by omega) z (Nat.le_refl _) hoz _ hvz
      have hlen := textE_len y.w y (Nat.le_refl _) hoy
      have hlenz := textE_len z.w z (Nat.le_refl _) hoz
      have hl7 := ExV_len hv
      have hl7z := ExV_len hvz
      have z0 : ∀ h : 0 < es.length, (es[0]'h).length = 7 := fun h => by rw [← hl7, getD_eq _ _ _ h]
      have z1 : ∀ h : 1 < es.length, (es[1]'h).length = 7 := fun h => by rw [← hl7z, getD_eq _ _ _ h]
      generalize es.getD 0 [] = ev at *
      generalize es.getD 1 [] = ez at *
      have htk2 : takeAt true 7 ev 0 = .agg ev := by simp [takeAt, List.take_of_length_le, hl7]
      have htk3 : takeAt true 7 ez 0 = .agg ez := by simp [takeAt, List.take_of_length_le, hl7z]
      rw [htk2] at q2
      rw [htk3] at p2
      rw [textsE_cons, textsE_cons, textsE_nil, shapeT_two h21 h22]
      have hop := op_two (op := op) (by simpa using hl.symm)
      generalize textE y = ty at *
      generalize textE z = tz at *
      rcases hop with rfl | rfl | rfl | rfl | rfl | rfl | rfl | rfl | rfl | rfl | rfl | rfl | rfl | rfl
      all_goals
        simp [-mwp_seq, -mwp_block, hg, he1]
        simp [hg, he1, q1, q2, p1, p2, z0, z1]
        refine (hd _).use ?_
        rintro e S1 ⟨rfl, rfl⟩
        simp [hg]
        refine ⟨by omega, by omega, by omega, by omega, ?_⟩
        refine (hdz _).use ?_
        rintro e S1 ⟨rfl, rfl⟩
        simp [hg, ht, signT]
        omega
end Go.Abs
set_option linter.unusedSimpArgs false
set_option linter.unusedVariables false
namespace Go.Lx
open Go.Lib

/-- What stands behind: nothing, a blank, or a closing parenthesis. -/
def Stp (x : Bs) : Prop := ∀ z y, x = z :: y → isB z = true ∨ z = 41
theorem stp_nat {z : UInt8} (h : isB z = true ∨ z = 41) : z.toNat = 32 ∨ z.toNat = 9 ∨ z.toNat = 10 ∨ z.toNat = 13 ∨ z.toNat = 41 := by
  rcases h with h | rfl
  · have := isB_nat h; omega
  · exact .inr (.inr (.inr (.inr rfl)))
theorem stp_D {z : UInt8} (h : isB z = true ∨ z = 41) : isD z = false := by have := stp_nat h; simp [isD]; omega
theorem stp_L {z : UInt8} (h : isB z = true ∨ z = 41) : isL z = false := by have := stp_nat h; simp [isL]; omega
theorem stp_W {z : UInt8} (h : isB z = true ∨ z = 41) : isW z = false := by simp [isW, stp_D h, stp_L h]
theorem Stp.nil : Stp [] := fun z y h => by cases h
theorem Stp.blank (y : Bs) : Stp (32 :: y) := fun z y' h => by cases h; exact .inl rfl
theorem Stp.close (y : Bs) : Stp (41 :: y) := fun z y' h => by cases h; exact .inr rfl

theorem run_app2 {p : UInt8 → Bool} (hp : ∀ z, (isB z = true ∨ z = 41) → p z = false) : ∀ (l : Bs) {x : Bs}, Stp x → run p (l ++ x) = run p l
  | [], x, hx => by
    cases x with
    | nil => rfl
    | cons z y => rw [List.nil_append, run_cons, hp z (hx z y rfl)]; rfl
  | c :: r, x, hx => by
    rw [List.cons_append, run_cons, run_cons, run_app2 hp r hx]
theorem part_app2 (l : Bs) {x : Bs} (hx : Stp x) : part (l ++ x) = part l := by
  cases l with
  | nil =>
    cases x with
    | nil => rfl
    | cons z y =>
      have := stp_nat (hx z y rfl)
      rw [List.nil_append, part_cons, if_neg (by omega)]; rfl
  | cons c r => rw [List.cons_append, part_cons, part_cons, run_app2 (fun z h => stp_D h) r hx]
theorem word_app2 {l x : Bs} (hx : Stp x) : word (l ++ x) = word l := by
  have h := run_app2 (p := isW) (fun z h => stp_W h) l hx
  rw [word, word, h, List.take_append_of_le_length (run_le _ _)]
theorem number_app2 {l x : Bs} (hx : Stp x) : number (l ++ x) = number l := by
  have h := run_app2 (p := isD) (fun z h => stp_D h) l hx
  have hle := run_le isD l
  have hp : part ((l ++ x).drop (run isD l)) = part (l.drop (run isD l)) := by
    rw [List.drop_append_of_le_length hle, part_app2 _ hx]
  rw [number, number, h, hp, List.take_append_of_le_length hle]
  by_cases h0 : part (l.drop (run isD l)) = 0
  · rw [if_pos h0, if_pos h0]
  · rw [if_neg h0, if_neg h0]
    have h1 := part_le (l.drop (run isD l))
    rw [List.length_drop] at h1
    rw [List.drop_append_of_le_length (by omega), List.take_append_of_le_length (by rw [List.length_drop]; omega)]
theorem txt_app2 {x : Bs} (hx : Stp x) : ∀ (l b : Bs) (n : Nat), txt l = some (b, n) → txt (l ++ x) = some (b, n) := by
  refine txt_ind ?_ ?_ ?_ ?_
  · intro b n h; rw [txt_nil] at h; cases h
  · intro c r hc ih b n h
    rw [txt_other hc] at h
    simp only [Option.map_eq_some_iff, Prod.mk.injEq] at h
    obtain ⟨⟨b', n'⟩, h, rfl, rfl⟩ := h
    rw [List.cons_append, txt_other hc, ih b' n' h]; rfl
  · intro c r hc h2 b n h
    rw [txt_end hc h2] at h
    rw [List.cons_append, txt_end hc (fun d r' e => ?_), h]
    cases r with
    | nil => have := stp_nat (hx d r' (by simpa using e)); omega
    | cons d' r'' => simp only [List.cons_append, List.cons.injEq] at e; exact e.1 ▸ h2 d' r'' rfl
  · intro c d r hc hd ih b n h
    rw [txt_two hc hd] at h
    simp only [Option.map_eq_some_iff, Prod.mk.injEq] at h
    obtain ⟨⟨b', n'⟩, h, rfl, rfl⟩ := h
    rw [List.cons_append, List.cons_append, txt_two hc hd, ih b' n' h]; rfl
theorem sign_app2 {c : UInt8} {r x : Bs} (hx : Stp x) : sign (c :: (r ++ x)) = sign (c :: r) := by
  cases r with
  | nil =>
    cases x with
    | nil => rfl
    | cons z y =>
      have := stp_nat (hx z y rfl)
      have h2 : two c z = false := by simp [two]; omega
      rw [List.nil_append, sign, sign, h2]; simp
  | cons d r => rw [List.cons_append, sign, sign]
theorem one_app2 {c : UInt8} {r x : Bs} {t : Tok} {n : Nat} (hx : Stp x) (h : one (c :: r) = .ok (t, n)) : one (c :: (r ++ x)) = .ok (t, n) := by
  rw [one] at h ⊢
  split at h
  · rename_i hl
    rw [if_pos hl, ← List.cons_append, word_app2 hx, h]
  · rename_i hl
    rw [if_neg hl]
    split at h
    · rename_i hd
      rw [if_pos hd, ← List.cons_append, number_app2 hx, h]
    · rename_i hd
      rw [if_neg hd]
      split at h
      · rename_i hq
        rw [if_pos hq]
        rw [text] at h ⊢
        simp only [List.drop_succ_cons, List.drop_zero] at h ⊢
        cases ht : txt r with
        | none => rw [ht] at h; cases h
        | some y => obtain ⟨b, m⟩ := y; rw [ht] at h; rw [txt_app2 hx _ _ _ ht, h]
      · rename_i hq
        rw [if_neg hq, sign_app2 hx, h]
/-- A token, and what stands behind. -/
theorem toks_one {c : UInt8} {r y : Bs} {t : Tok} {ts : List Tok} (hb : isB c = false) (h : one (c :: r) = .ok (t, r.length + 1)) (hy : Stp y) (ht : toks y = .ok ts) : toks (c :: r ++ y) = .ok (t :: ts) := by
  rw [List.cons_append, toks_tok hb (one_app2 hy h)]
  simp [ht]
theorem toks_okt {t : Tok} {y : Bs} {ts : List Tok} (h : OkT t) (hy : Stp y) (ht : toks y = .ok ts) : toks (wordOf t ++ y) = .ok (t :: ts) := by
  obtain ⟨c, r, e, hb, ho⟩ := ok_one h
  rw [e]
  exact toks_one hb ho hy ht
abbrev wT (s : Bs) : Tok := ⟨1, s, 0, 0⟩
abbrev sT (s : Bs) : Tok := ⟨5, s, 0, 0⟩
/-- A sign of one byte that begins no longer one. -/
theorem toks_s1 {c : UInt8} {y : Bs} {ts : List Tok} (hc : c = 40 ∨ c = 41 ∨ c = 46 ∨ c = 45) (ht : toks y = .ok ts) : toks (c :: y) = .ok (sT [c] :: ts) := by
  have ho : one (c :: y) = .ok (sT [c], 1) := by
    cases y with
    | nil => rcases hc with rfl | rfl | rfl | rfl <;> rfl
    | cons d y =>
      have h2 : two c d = false := by rcases hc with rfl | rfl | rfl | rfl <;> simp [two]
      have h3 : c ∈ ones := by rcases hc with rfl | rfl | rfl | rfl <;> decide
      have h4 : isL c = false ∧ isD c = false ∧ ¬ c.toNat = 39 := by rcases hc with rfl | rfl | rfl | rfl <;> decide
      rw [one, if_neg (by simp [h4.1]), if_neg (by simp [h4.2.1]), if_neg h4.2.2, sign, h2]
      simp [h3]
  rw [toks_tok (by rcases hc with rfl | rfl | rfl | rfl <;> rfl) ho]
  simp [ht]
theorem toks_word {c : UInt8} {r y : Bs} {ts : List Tok} (hl : isL c = true) (hw : ∀ z ∈ c :: r, isW z = true) (hn : r.length < 32) (hy : ∀ z y', y = z :: y' → isW z = false) (ht : toks y = .ok ts) : toks (c :: r ++ y) = .ok (wT ((c :: r).map lowerB) :: ts) := by
  have hrun : run isW (c :: r ++ y) = r.length + 1 := by
    cases y with
    | nil => rw [List.append_nil]; simpa using run_all hw
    | cons z y => simpa using run_some (r := y) hw (hy z y rfl)
  have ho : one (c :: (r ++ y)) = .ok (wT ((c :: r).map lowerB), r.length + 1) := by
    rw [List.cons_append] at hrun
    rw [one, if_pos hl, word, hrun, if_neg (by omega)]
    congr 4
    simp
  rw [List.cons_append, toks_tok (isL_notB hl) ho]
  simp [ht]
theorem toks_sp {y : Bs} {ts : List Tok} (ht : toks y = .ok ts) : toks (32 :: y) = .ok ts := by rw [toks_blank rfl, ht]

end Go.Lx
namespace Go.Abs
open Go.Lx Go.Pz

def constK (kind num scale : Int) (text : Bs) : List Tok :=
  if kind = 0 then [wT [110, 117, 108, 108]] else if kind = 1 then (if num = 0 then [wT [102, 97, 108, 115, 101]] else [wT [116, 114, 117, 101]])
  else if kind = 3 ∧ scale = -1 then [wT [110, 97, 110]] else if kind = 3 ∧ scale = -2 then [wT [105, 110, 102, 105, 110, 105, 116, 121]] else [⟨kind, text, num, scale⟩]
def aheadK (op : Int) : List Tok := if op = 13 then [sT [40], sT [45]] else if op = 14 then [wT [105, 110, 116], sT [40]] else if op = 15 then [wT [114, 101, 97, 108], sT [40]] else if op = 16 then [sT [40], wT [110, 111, 116]] else [sT [40]]
def behindK (op : Int) : List Tok := if op = 19 then [wT [105, 115], wT [110, 117, 108, 108], sT [41]] else if op = 20 then [wT [105, 115], wT [110, 111, 116], wT [110, 117, 108, 108], sT [41]] else [sT [41]]
def signK (op : Int) : Tok := if op = 17 then wT [97, 110, 100] else if op = 18 then wT [111, 114] else sT (signT.getD op.toNat [])
def shapeK (op kind num scale : Int) (text qual : Bs) (l : List (List Tok)) : List Tok :=
  if op = 21 then constK kind num scale text else if op = 22 then (if qual = [] then [wT text] else [wT qual, sT [46], wT text])
  else match l with
    | [a] => aheadK op ++ a ++ behindK op
    | [a, b] => sT [40] :: a ++ signK op :: (b ++ [sT [41]])
    | _ => []
mutual
def tokE : Ex → List Tok
  | .mk op args kind num scale text qual => shapeK op kind num scale text qual (toksE args)
def toksE : List Ex → List (List Tok)
  | [] => []
  | x :: r => tokE x :: toksE r
end
theorem tokE_mk {op : Int} {args : List Ex} {kind num scale : Int} {text qual : Bs} : tokE (.mk op args kind num scale text qual) = shapeK op kind num scale text qual (toksE args) := by rw [tokE]
theorem toksE_nil : toksE [] = [] := by rw [toksE]
theorem toksE_cons {x : Ex} {r : List Ex} : toksE (x :: r) = tokE x :: toksE r := by rw [toksE]
section
variable {op kind num scale : Int} {text qual : Bs} {l : List (List Tok)} {a b : List Tok}
theorem shapeK_const (h : op = 21) : shapeK op kind num scale text qual l = constK kind num scale text := by unfold shapeK; rw [if_pos h]
theorem shapeK_col (h : op = 22) : shapeK op kind num scale text qual l = if qual = [] then [wT text] else [wT qual, sT [46], wT text] := by unfold shapeK; rw [if_neg (by omega), if_pos h]
theorem shapeK_one (h1 : op ≠ 21) (h2 : op ≠ 22) : shapeK op kind num scale text qual [a] = aheadK op ++ a ++ behindK op := by unfold shapeK; rw [if_neg h1, if_neg h2]
theorem shapeK_two (h1 : op ≠ 21) (h2 : op ≠ 22) : shapeK op kind num scale text qual [a, b] = sT [40] :: a ++ signK op :: (b ++ [sT [41]]) := by unfold shapeK; rw [if_neg h1, if_neg h2]
end
end Go.Abs
set_option linter.unusedSimpArgs false
set_option linter.unusedVariables false
namespace Go.Abs
open Go.Lx Go.Pz

theorem kw {c : UInt8} {r y : Bs} {ts : List Tok} {s : Bs} (hl : Lx.isL c = true) (hw : (c :: r).all isW = true) (hn : r.length < 32) (hs : (c :: r).map Lib.lowerB = s) (hy : ∀ z y', y = z :: y' → isW z = false) (ht : toks y = .ok ts) : toks (c :: r ++ y) = .ok (wT s :: ts) := by
  rw [← hs]
  exact toks_word hl (List.all_eq_true.1 hw) hn hy ht
theorem nw_sp (y : Bs) : ∀ z y', (32 :: y : Bs) = z :: y' → isW z = false := fun z y' h => by cases h; rfl
theorem nw_open (y : Bs) : ∀ z y', (40 :: y : Bs) = z :: y' → isW z = false := fun z y' h => by cases h; rfl
theorem nw_close (y : Bs) : ∀ z y', (41 :: y : Bs) = z :: y' → isW z = false := fun z y' h => by cases h; rfl
theorem nw_dot (y : Bs) : ∀ z y', (46 :: y : Bs) = z :: y' → isW z = false := fun z y' h => by cases h; rfl
theorem nw_stp {y : Bs} (h : Stp y) : ∀ z y', y = z :: y' → isW z = false := fun z y' e => stp_W (h z y' e)

theorem name_word {x : Bs} (h : nameB x = true) {y : Bs} {ts : List Tok} (hy : ∀ z y', y = z :: y' → isW z = false) (ht : toks y = .ok ts) : toks (x ++ y) = .ok (wT x :: ts) := by
  unfold nameB at h
  simp only [Bool.and_eq_true, decide_eq_true_eq] at h
  obtain ⟨⟨⟨⟨h1, h2⟩, h3⟩, h4⟩, _⟩ := h
  cases x with
  | nil => simp at h1
  | cons c r =>
    have hall := List.all_eq_true.1 h4
    have hlow : (c :: r).map Lib.lowerB = c :: r := (List.map_congr_left fun z hz => by have := hall z hz; simp only [Bool.and_eq_true, decide_eq_true_eq] at this; exact this.2).trans (List.map_id _)
    refine kw (by simpa using h3) (List.all_eq_true.2 fun z hz => by have := hall z hz; simp only [Bool.and_eq_true] at this; exact this.1) (by simp at h2; omega) hlow hy ht

theorem const_toks {kind num scale : Int} {text qual : Bs} (h : constB kind num scale text qual = true) {y : Bs} {t : List Tok} (hy : Stp y) (ht : toks y = .ok t) : toks (constT kind num scale text ++ y) = .ok (constK kind num scale text ++ t) := by
  have hn := nw_stp hy
  unfold constT constK
  rcases const_tok h with ⟨rfl, _⟩ | ⟨rfl, h1, _⟩ | ⟨rfl, h1, _⟩ | ⟨h1, h2, h3, h4, h5, _⟩
  · simpa using kw (c := 78) (r := [85, 76, 76]) (s := [110, 117, 108, 108]) rfl rfl (by decide) rfl hn ht
  · rcases h1 with rfl | rfl
    · simpa using kw (c := 70) (r := [65, 76, 83, 69]) (s := [102, 97, 108, 115, 101]) rfl rfl (by decide) rfl hn ht
    · simpa using kw (c := 84) (r := [82, 85, 69]) (s := [116, 114, 117, 101]) rfl rfl (by decide) rfl hn ht
  · rcases h1 with rfl | rfl
    · simpa using kw (c := 78) (r := [65, 78]) (s := [110, 97, 110]) rfl rfl (by decide) rfl hn ht
    · simpa using kw (c := 73) (r := [78, 70, 73, 78, 73, 84, 89]) (s := [105, 110, 102, 105, 110, 105, 116, 121]) rfl rfl (by decide) rfl hn ht
  · rw [if_neg h1, if_neg h2, if_neg h3, if_neg h4, if_neg h1, if_neg h2, if_neg h3, if_neg h4]
    exact toks_okt h5 hy ht

theorem ahead_toks {op : Int} (h : op = 13 ∨ op = 14 ∨ op = 15 ∨ op = 16 ∨ op = 19 ∨ op = 20) {z : Bs} {t : List Tok} (ht : toks z = .ok t) : toks (aheadT.getD op.toNat [] ++ z) = .ok (aheadK op ++ t) := by
  rcases h with rfl | rfl | rfl | rfl | rfl | rfl
  · exact toks_s1 (.inl rfl) (toks_s1 (c := 45) (by simp) (toks_sp ht))
  · exact kw (c := 73) (r := [78, 84]) (s := [105, 110, 116]) rfl rfl (by decide) rfl (nw_open _) (toks_s1 (.inl rfl) ht)
  · exact kw (c := 82) (r := [69, 65, 76]) (s := [114, 101, 97, 108]) rfl rfl (by decide) rfl (nw_open _) (toks_s1 (.inl rfl) ht)
  · exact toks_s1 (.inl rfl) (kw (c := 78) (r := [79, 84]) (s := [110, 111, 116]) (y := 32 :: z) rfl rfl (by decide) rfl (nw_sp _) (toks_sp ht))
  · exact toks_s1 (.inl rfl) ht
  · exact toks_s1 (.inl rfl) ht
theorem behind_toks {op : Int} (h : op = 13 ∨ op = 14 ∨ op = 15 ∨ op = 16 ∨ op = 19 ∨ op = 20) {z : Bs} {t : List Tok} (ht : toks z = .ok t) : toks (behindT.getD op.toNat [] ++ z) = .ok (behindK op ++ t) ∧ Stp (behindT.getD op.toNat [] ++ z) := by
  have h41 := toks_s1 (c := 41) (by simp) ht
  have hnull : toks ([78, 85, 76, 76] ++ 41 :: z) = .ok (wT [110, 117, 108, 108] :: sT [41] :: t) := kw (c := 78) (r := [85, 76, 76]) rfl rfl (by decide) rfl (nw_close _) h41
  rcases h with rfl | rfl | rfl | rfl | rfl | rfl
  · exact ⟨h41, Stp.close _⟩
  · exact ⟨h41, Stp.close _⟩
  · exact ⟨h41, Stp.close _⟩
  · exact ⟨h41, Stp.close _⟩
  · exact ⟨toks_sp (kw (c := 73) (r := [83]) (y := 32 :: ([78, 85, 76, 76] ++ 41 :: z)) (s := [105, 115]) rfl rfl (by decide) rfl (nw_sp _) (toks_sp hnull)), Stp.blank _⟩
  · exact ⟨toks_sp (kw (c := 73) (r := [83]) (y := 32 :: ([78, 79, 84] ++ 32 :: ([78, 85, 76, 76] ++ 41 :: z))) (s := [105, 115]) rfl rfl (by decide) rfl (nw_sp _) (toks_sp (kw (c := 78) (r := [79, 84]) (s := [110, 111, 116]) rfl rfl (by decide) rfl (nw_sp _) (toks_sp hnull)))), Stp.blank _⟩
theorem sign_toks {op : Int} (h : op = 1 ∨ op = 2 ∨ op = 3 ∨ op = 4 ∨ op = 5 ∨ op = 6 ∨ op = 7 ∨ op = 8 ∨ op = 9 ∨ op = 10 ∨ op = 11 ∨ op = 12 ∨ op = 17 ∨ op = 18) {z : Bs} {t : List Tok} (ht : toks z = .ok t) : toks (signT.getD op.toNat [] ++ 32 :: z) = .ok (signK op :: t) := by
  have hs := toks_sp ht
  have hb := Stp.blank z
  rcases h with rfl | rfl | rfl | rfl | rfl | rfl | rfl | rfl | rfl | rfl | rfl | rfl | rfl | rfl
  · exact toks_one (c := 61) (r := []) rfl rfl hb hs
  · exact toks_one (c := 60) (r := [62]) rfl rfl hb hs
  · exact toks_one (c := 60) (r := []) rfl rfl hb hs
  · exact toks_one (c := 60) (r := [61]) rfl rfl hb hs
  · exact toks_one (c := 62) (r := []) rfl rfl hb hs
  · exact toks_one (c := 62) (r := [61]) rfl rfl hb hs
  · exact toks_one (c := 43) (r := []) rfl rfl hb hs
  · exact toks_one (c := 45) (r := []) rfl rfl hb hs
  · exact toks_one (c := 42) (r := []) rfl rfl hb hs
  · exact toks_one (c := 47) (r := []) rfl rfl hb hs
  · exact toks_one (c := 37) (r := []) rfl rfl hb hs
  · exact toks_one (c := 124) (r := [124]) rfl rfl hb hs
  · exact kw (c := 65) (r := [78, 68]) rfl rfl (by decide) rfl (nw_sp _) hs
  · exact kw (c := 79) (r := [82]) rfl rfl (by decide) rfl (nw_sp _) hs

/-- An expression's form is its tokens. -/
theorem toks_text : ∀ (n : Nat) (x : Ex), x.w ≤ n → okE x = true → ∀ {y : Bs} {t : List Tok}, Stp y → toks y = .ok t → toks (textE x ++ y) = .ok (tokE x ++ t) := by
  intro n
  induction n using Nat.strongRecOn with
  | _ n ih =>
    intro x hx ho y t hy ht
    obtain ⟨op, args, kind, num, scale, text, qual⟩ := x
    rw [okE_mk, Bool.and_eq_true, decide_eq_true_eq] at ho
    obtain ⟨hl, ho⟩ := ho
    rw [w_mk] at hx
    rw [textE_mk, tokE_mk]
    by_cases h21 : op = 21
    · rw [if_pos h21] at ho
      rw [shapeT_const h21, shapeK_const h21]
      exact const_toks ho hy ht
    rw [if_neg h21] at ho
    simp only [Bool.and_eq_true, decide_eq_true_eq] at ho
    obtain ⟨_, ho⟩ := ho
    by_cases h22 : op = 22
    · rw [if_pos h22] at ho
      rw [shapeT_col h22, shapeK_col h22]
      simp only [Bool.and_eq_true, Bool.or_eq_true, decide_eq_true_eq] at ho
      by_cases hq : qual = []
      · rw [if_pos hq, if_pos hq]
        exact name_word ho.1 (nw_stp hy) ht
      · rw [if_neg hq, if_neg hq, List.append_assoc]
        exact name_word (ho.2.resolve_left hq) (nw_dot _) (toks_s1 (c := 46) (by simp) (name_word ho.1 (nw_stp hy) ht))
    rw [if_neg h22] at ho
    simp only [Bool.and_eq_true, decide_eq_true_eq] at ho
    obtain ⟨⟨hL, _⟩, _⟩ := ho
    rcases op_none hl h21 h22 with hn | hn
    · obtain ⟨a, rfl⟩ : ∃ a, args = [a] := List.length_eq_one_iff.1 hn
      have hw : wL [a] = a.w + 1 := by rw [wL_cons, wL_nil]
      have hop := op_one (op := op) (by simpa using hl.symm)
      rw [textsE_cons, textsE_nil, shapeT_one h21 h22, toksE_cons, toksE_nil, shapeK_one h21 h22]
      obtain ⟨hb1, hb2⟩ := behind_toks hop ht
      have := ahead_toks hop (ih a.w (by omega) a (Nat.le_refl _) (okL_iff.1 hL a (by simp)) hb2 hb1)
      simpa [List.append_assoc] using this
    · obtain ⟨a, b, rfl⟩ : ∃ a b, args = [a, b] := length_two hn
      have hw : wL [a, b] = a.w + b.w + 2 := by rw [wL_cons, wL_cons, wL_nil]; omega
      have hop := op_two (op := op) (by simpa using hl.symm)
      rw [textsE_cons, textsE_cons, textsE_nil, shapeT_two h21 h22, toksE_cons, toksE_cons, toksE_nil, shapeK_two h21 h22]
      have h41 := toks_s1 (c := 41) (by simp) ht
      have hb := ih b.w (by omega) b (Nat.le_refl _) (okL_iff.1 hL b (by simp)) (Stp.close y) h41
      have hs := toks_sp (sign_toks hop hb)
      have ha := ih a.w (by omega) a (Nat.le_refl _) (okL_iff.1 hL a (by simp)) (Stp.blank _) hs
      have := toks_s1 (c := 40) (by simp) ha
      simpa [List.append_assoc] using this
end Go.Abs
set_option linter.unusedSimpArgs false
set_option linter.unusedVariables false
namespace Go.Abs
open Go.Lx Go.Pz

section
variable {f : List Tok → Pz.Res Ex} {o : List Tok → Option (Int × List Tok)} {l r r2 r3 : List Tok} {a b : Ex} {op k : Int} {s : Bs}
theorem chain_one (hf : f l = .ok (a, r)) (ho : o r = none) : chain f o l = .ok (a, r) := by
  rw [chain, hf]
  simp only
  rw [chainF, ho]
theorem chain_two (hf : f l = .ok (a, r)) (ho : o r = some (op, r2)) (hf2 : f r2 = .ok (b, r3)) (ho2 : o r3 = none) (hr : 1 ≤ r.length) : chain f o l = .ok (.bin op a b, r3) := by
  rw [chain, hf]
  simp only
  rw [chainF, ho]
  simp only
  rw [hf2]
  simp only
  obtain ⟨m, hm⟩ : ∃ m, r.length = m + 1 := ⟨r.length - 1, by omega⟩
  rw [hm, chainF, ho2]
theorem ahead_zero (h0 : stripN k s l = 0) (hf : f l = .ok (a, r)) : aheadP op k s f l = .ok (a, r) := by
  rw [aheadP, h0, List.drop_zero, hf]
  rfl
theorem ahead_one (h0 : stripN k s l = 1) (hf : f (l.drop 1) = .ok (a, r)) : aheadP op k s f l = .ok (.un op a, r) := by
  rw [aheadP, h0, hf]
  rfl
end

/-- Nothing, or a closing parenthesis. -/
def Clo (r : List Tok) : Prop := r = [] ∨ ∃ r', r = sT [41] :: r'
section
variable {r : List Tok} (h : Clo r)
include h
theorem Clo.mul : opMul r = none := by
  rcases h with rfl | ⟨r', rfl⟩ <;> simp [opMul, operS, isT]
theorem Clo.sum : opSum r = none := by
  rcases h with rfl | ⟨r', rfl⟩ <;> simp [opSum, operS, isT]
theorem Clo.test : opTest r = none := by
  rcases h with rfl | ⟨r', rfl⟩ <;> simp [opTest, operS, isT]
theorem Clo.is : isT 1 [105, 115] r = false := by
  rcases h with rfl | ⟨r', rfl⟩ <;> simp [isT]
theorem Clo.and : opAnd r = none := by
  rcases h with rfl | ⟨r', rfl⟩ <;> simp [opAnd, isT]
theorem Clo.or : opOr r = none := by
  rcases h with rfl | ⟨r', rfl⟩ <;> simp [opOr, isT]
theorem Clo.dot : isT 5 [46] r = false := by
  rcases h with rfl | ⟨r', rfl⟩ <;> simp [isT]
end
theorem clo_close (r : List Tok) : Clo (sT [41] :: r) := .inr ⟨r, rfl⟩

section
variable {E : Nat → List Tok → Pz.Res Ex} {k : Nat} {l r : List Tok} {a : Ex}
theorem lv_minus (h : oneP resv E k l = .ok (a, r)) (hs : stripN 5 [45] l = 0) : minusP resv E k l = .ok (a, r) := by
  rw [minusP]; exact ahead_zero hs h
theorem lv_term (h : minusP resv E k l = .ok (a, r)) (ho : opMul r = none) : termP resv E k l = .ok (a, r) := by
  rw [termP]; exact chain_one h ho
theorem lv_sum (h : termP resv E k l = .ok (a, r)) (ho : opSum r = none) : sumP resv E k l = .ok (a, r) := by
  rw [sumP]; exact chain_one h ho
theorem lv_test (h : sumP resv E k l = .ok (a, r)) (ho : opTest r = none) (hi : isT 1 [105, 115] r = false) : testP resv E k l = .ok (a, r) := by
  rw [testP, h]
  simp only
  rw [ho]
  simp only
  rw [if_neg (by simp [hi])]
theorem lv_not (h : testP resv E k l = .ok (a, r)) (hs : stripN 1 [110, 111, 116] l = 0) : notP resv E k l = .ok (a, r) := by
  rw [notP]; exact ahead_zero hs h
theorem lv_both (h : notP resv E k l = .ok (a, r)) (ho : opAnd r = none) : bothP resv E k l = .ok (a, r) := by
  rw [bothP]; exact chain_one h ho
theorem lv_either (h : bothP resv E k l = .ok (a, r)) (ho : opOr r = none) : eitherP resv E k l = .ok (a, r) := by
  rw [eitherP]; exact chain_one h ho
/-- From a sum up. -/
theorem up_sum (h : sumP resv E k l = .ok (a, r)) (hn : stripN 1 [110, 111, 116] l = 0) (hc : Clo r) : eitherP resv E k l = .ok (a, r) :=
  lv_either (lv_both (lv_not (lv_test h hc.test hc.is) hn) hc.and) hc.or
/-- From one operand up. -/
theorem up_one (h : oneP resv E k l = .ok (a, r)) (hs : stripN 5 [45] l = 0) (hn : stripN 1 [110, 111, 116] l = 0) (hc : Clo r) : eitherP resv E k l = .ok (a, r) :=
  up_sum (lv_sum (lv_term (lv_minus h hs) hc.mul) hc.sum) hn hc
end

theorem resv_words : ([110, 117, 108, 108] : Bs) ∈ resv ∧ ([116, 114, 117, 101] : Bs) ∈ resv ∧ ([102, 97, 108, 115, 101] : Bs) ∈ resv ∧ ([110, 97, 110] : Bs) ∈ resv ∧ ([105, 110, 102, 105, 110, 105, 116, 121] : Bs) ∈ resv ∧ ([105, 110, 116] : Bs) ∈ resv ∧ ([114, 101, 97, 108] : Bs) ∈ resv ∧ ([110, 111, 116] : Bs) ∈ resv := by decide
theorem nameB_resv {x : Bs} (h : nameB x = true) : x ∉ resv := by
  unfold nameB at h
  simp only [Bool.and_eq_true, Bool.not_eq_true', decide_eq_false_iff_not] at h
  exact h.2
theorem nameB_not {x w : Bs} (h : nameB x = true) (hw : w ∈ resv) : x ≠ w := fun e => nameB_resv h (e ▸ hw)

/-- How an expression's tokens begin. -/
theorem tokE_head {x : Ex} (ho : okE x = true) (r : List Tok) : stripN 5 [45] (tokE x ++ r) = 0 ∧ stripN 1 [110, 111, 116] (tokE x ++ r) = 0 := by
  obtain ⟨op, args, kind, num, scale, text, qual⟩ := x
  rw [okE_mk, Bool.and_eq_true, decide_eq_true_eq] at ho
  obtain ⟨hl, ho⟩ := ho
  rw [tokE_mk]
  by_cases h21 : op = 21
  · rw [if_pos h21] at ho
    rw [shapeK_const h21]
    unfold constK
    rcases const_tok ho with ⟨rfl, _⟩ | ⟨rfl, h1, _⟩ | ⟨rfl, h1, _⟩ | ⟨h1, h2, h3, h4, h5, h6⟩
    · simp [stripN]
    · rcases h1 with rfl | rfl <;> simp [stripN]
    · rcases h1 with rfl | rfl <;> simp [stripN]
    · rw [if_neg h1, if_neg h2, if_neg h3, if_neg h4]
      rcases h6 with rfl | rfl | rfl <;> simp [stripN]
  rw [if_neg h21] at ho
  simp only [Bool.and_eq_true, decide_eq_true_eq] at ho
  obtain ⟨_, ho⟩ := ho
  by_cases h22 : op = 22
  · rw [if_pos h22] at ho
    rw [shapeK_col h22]
    simp only [Bool.and_eq_true, Bool.or_eq_true, decide_eq_true_eq] at ho
    have h8 := resv_words.2.2.2.2.2.2.2
    by_cases hq : qual = []
    · rw [if_pos hq]
      have := nameB_not ho.1 h8
      simp [stripN, this]
    · rw [if_neg hq]
      have := nameB_not (ho.2.resolve_left hq) h8
      simp [stripN, this]
  rw [if_neg h22] at ho
  rcases op_none hl h21 h22 with hn | hn
  · obtain ⟨a, rfl⟩ : ∃ a, args = [a] := List.length_eq_one_iff.1 hn
    have hop := op_one (op := op) (by simpa using hl.symm)
    rw [toksE_cons, toksE_nil, shapeK_one h21 h22]
    rcases hop with rfl | rfl | rfl | rfl | rfl | rfl <;> simp [stripN, aheadK]
  · obtain ⟨a, b, rfl⟩ : ∃ a b, args = [a, b] := length_two hn
    rw [toksE_cons, toksE_cons, toksE_nil, shapeK_two h21 h22]
    simp [stripN]
theorem opIs {r : List Tok} : opMul (wT [105, 115] :: r) = none ∧ opSum (wT [105, 115] :: r) = none ∧ opTest (wT [105, 115] :: r) = none := by
  simp [opMul, opSum, opTest, operS, isT]
/-- An expression in parentheses. -/
theorem inner_ok {E : Nat → List Tok → Pz.Res Ex} {k : Nat} {l r : List Tok} {x : Ex} (hk : k < 40) (h : E (k + 1) l = .ok (x, sT [41] :: r)) : inner E k (sT [40] :: l) = .ok (x, r) := by
  have h1 : isT 5 [40] (sT [40] :: l) = true := by simp [isT]
  rw [inner, if_neg (by omega), if_pos h1, List.tail_cons, h]
  simp [isT]
theorem oneP_open {E : Nat → List Tok → Pz.Res Ex} {k : Nat} {l : List Tok} : oneP resv E k (sT [40] :: l) = inner E k (sT [40] :: l) := by
  rw [oneP]
  simp
end Go.Abs
set_option linter.unusedSimpArgs false
set_option linter.unusedVariables false
namespace Go.Abs
open Go.Lx Go.Pz

theorem named_kw {E : Nat → List Tok → Pz.Res Ex} {k : Nat} {w : Bs} {l : List Tok} : oneP resv E k (wT w :: l) = named resv E k w (wT w :: l) := by
  rw [oneP]
  simp
theorem named_col {E : Nat → List Tok → Pz.Res Ex} {k : Nat} {w : Bs} {l : List Tok} (hw : nameB w = true) : named resv E k w (wT w :: l) = if isT 5 [46] l then (match nameR resv l.tail with
        | .error c => .error c
        | .ok (m, l2) => .ok (.col m w, l2)) else .ok (.col w [], l) := by
  obtain ⟨r1, r2, r3, r4, r5, r6, r7, _⟩ := resv_words
  have hnr := nameB_resv hw
  rw [named, if_neg (nameB_not hw r1), if_neg (nameB_not hw r2), if_neg (nameB_not hw r3), if_neg (nameB_not hw r4), if_neg (nameB_not hw r5), if_neg (by simp [nameB_not hw r6, nameB_not hw r7])]
  rw [nameR, if_pos ⟨rfl, hnr⟩]
  rfl
theorem nameR_ok {w : Bs} {l : List Tok} (hw : nameB w = true) : nameR resv (wT w :: l) = .ok (w, l) := by
  rw [nameR, if_pos ⟨rfl, nameB_resv hw⟩]

section
variable {E : Nat → List Tok → Pz.Res Ex} {k : Nat} {r : List Tok}
/-- One operand ahead of which an operator stands, in parentheses. -/
theorem body_one {op : Int} {a : Ex} {ta : List Tok} (hop : op = 13 ∨ op = 14 ∨ op = 15 ∨ op = 16 ∨ op = 19 ∨ op = 20) (ha : ∀ r, isT 5 [46] r = false → oneP resv E k (ta ++ r) = .ok (a, r)) (hh : ∀ r, stripN 5 [45] (ta ++ r) = 0 ∧ stripN 1 [110, 111, 116] (ta ++ r) = 0) :
    ∃ b, (aheadK op ++ ta ++ behindK op ++ r = (if op = 14 then wT [105, 110, 116] :: sT [40] :: (b ++ sT [41] :: r) else if op = 15 then wT [114, 101, 97, 108] :: sT [40] :: (b ++ sT [41] :: r) else sT [40] :: (b ++ sT [41] :: r))) ∧
      eitherP resv E k (b ++ sT [41] :: r) = .ok ((if op = 14 ∨ op = 15 then a else .un op a), sT [41] :: r) := by
  have hc := clo_close r
  rcases hop with rfl | rfl | rfl | rfl | rfl | rfl
  · refine ⟨sT [45] :: ta, by simp [aheadK, behindK], ?_⟩
    have h1 : minusP resv E k (sT [45] :: ta ++ sT [41] :: r) = .ok (.un 13 a, sT [41] :: r) := by
      rw [minusP]
      refine ahead_one ?_ ?_
      · have := (hh (sT [41] :: r)).1
        rw [List.cons_append, stripN]
        simp [this]
      · simpa using ha (sT [41] :: r) hc.dot
    exact up_sum (lv_sum (lv_term h1 hc.mul) hc.sum) (by simp [stripN]) hc
  · exact ⟨ta, by simp [aheadK, behindK], up_one (ha _ hc.dot) (hh _).1 (hh _).2 hc⟩
  · exact ⟨ta, by simp [aheadK, behindK], up_one (ha _ hc.dot) (hh _).1 (hh _).2 hc⟩
  · refine ⟨wT [110, 111, 116] :: ta, by simp [aheadK, behindK], ?_⟩
    have h1 : testP resv E k (ta ++ sT [41] :: r) = .ok (a, sT [41] :: r) := lv_test (lv_sum (lv_term (lv_minus (ha _ hc.dot) (hh _).1) hc.mul) hc.sum) hc.test hc.is
    have h2 : notP resv E k (wT [110, 111, 116] :: ta ++ sT [41] :: r) = .ok (.un 16 a, sT [41] :: r) := by
      rw [notP]
      refine ahead_one ?_ (by simpa using h1)
      have := (hh (sT [41] :: r)).2
      rw [List.cons_append, stripN]
      simp [this]
    exact lv_either (lv_both h2 hc.and) hc.or
  · refine ⟨ta ++ [wT [105, 115], wT [110, 117, 108, 108]], by simp [aheadK, behindK], ?_⟩
    obtain ⟨o1, o2, o3⟩ := opIs (r := wT [110, 117, 108, 108] :: sT [41] :: r)
    have h0 := ha (wT [105, 115] :: wT [110, 117, 108, 108] :: sT [41] :: r) (by simp [isT])
    have h1 := lv_sum (lv_term (lv_minus h0 (hh _).1) o1) o2
    have h2 : testP resv E k (ta ++ wT [105, 115] :: wT [110, 117, 108, 108] :: sT [41] :: r) = .ok (.un 19 a, sT [41] :: r) := by
      rw [testP, h1]
      simp only
      rw [o3]
      simp [isT]
    have h3 := lv_either (lv_both (lv_not h2 (hh _).2) hc.and) hc.or
    simpa using h3
  · refine ⟨ta ++ [wT [105, 115], wT [110, 111, 116], wT [110, 117, 108, 108]], by simp [aheadK, behindK], ?_⟩
    obtain ⟨o1, o2, o3⟩ := opIs (r := wT [110, 111, 116] :: wT [110, 117, 108, 108] :: sT [41] :: r)
    have h0 := ha (wT [105, 115] :: wT [110, 111, 116] :: wT [110, 117, 108, 108] :: sT [41] :: r) (by simp [isT])
    have h1 := lv_sum (lv_term (lv_minus h0 (hh _).1) o1) o2
    have h2 : testP resv E k (ta ++ wT [105, 115] :: wT [110, 111, 116] :: wT [110, 117, 108, 108] :: sT [41] :: r) = .ok (.un 20 a, sT [41] :: r) := by
      rw [testP, h1]
      simp only
      rw [o3]
      simp [isT]
    have h3 := lv_either (lv_both (lv_not h2 (hh _).2) hc.and) hc.or
    simpa using h3
theorem body_two {op : Int} {a b : Ex} {ta tb : List Tok} (hop : op = 1 ∨ op = 2 ∨ op = 3 ∨ op = 4 ∨ op = 5 ∨ op = 6 ∨ op = 7 ∨ op = 8 ∨ op = 9 ∨ op = 10 ∨ op = 11 ∨ op = 12 ∨ op = 17 ∨ op = 18) (ha : ∀ r, isT 5 [46] r = false → oneP resv E k (ta ++ r) = .ok (a, r)) (hh : ∀ r, stripN 5 [45] (ta ++ r) = 0 ∧ stripN 1 [110, 111, 116] (ta ++ r) = 0)
    (hb : ∀ r, isT 5 [46] r = false → oneP resv E k (tb ++ r) = .ok (b, r)) (hhb : ∀ r, stripN 5 [45] (tb ++ r) = 0 ∧ stripN 1 [110, 111, 116] (tb ++ r) = 0) :
    eitherP resv E k (ta ++ signK op :: (tb ++ sT [41] :: r)) = .ok (.bin op a b, sT [41] :: r) := by
  have hc := clo_close r
  have hdot : isT 5 [46] (signK op :: (tb ++ sT [41] :: r)) = false := by
    rcases hop with rfl | rfl | rfl | rfl | rfl | rfl | rfl | rfl | rfl | rfl | rfl | rfl | rfl | rfl <;> simp [isT, signK, signT]
  have am := lv_minus (ha _ hdot) (hh _).1
  have bm := lv_minus (hb _ hc.dot) (hhb (sT [41] :: r)).1
  have bt := lv_term bm hc.mul
  have bs := lv_sum bt hc.sum
  have btt := lv_test bs hc.test hc.is
  have bn := lv_not btt (hhb _).2
  have bb := lv_both bn hc.and
  rcases hop with rfl | rfl | rfl | rfl | rfl | rfl | rfl | rfl | rfl | rfl | rfl | rfl | rfl | rfl
  iterate 6
    · have asu := lv_sum (lv_term am (by simp [opMul, operS, isT, signK, signT])) (by simp [opSum, operS, isT, signK, signT])
      refine lv_either (lv_both (lv_not ?_ (hh _).2) hc.and) hc.or
      rw [testP, asu]
      simp only
      simp only [opTest, operS, isT, signK, signT]
      simp [bs]
  · exact up_sum (by rw [sumP]; exact chain_two (lv_term am (by simp [opMul, operS, isT, signK, signT])) (by simp [opSum, operS, isT, signK, signT]) bt hc.sum (by simp)) (hh _).2 hc
  · exact up_sum (by rw [sumP]; exact chain_two (lv_term am (by simp [opMul, operS, isT, signK, signT])) (by simp [opSum, operS, isT, signK, signT]) bt hc.sum (by simp)) (hh _).2 hc
  · exact up_sum (lv_sum (by rw [termP]; exact chain_two am (by simp [opMul, operS, isT, signK, signT]) bm hc.mul (by simp)) hc.sum) (hh _).2 hc
  · exact up_sum (lv_sum (by rw [termP]; exact chain_two am (by simp [opMul, operS, isT, signK, signT]) bm hc.mul (by simp)) hc.sum) (hh _).2 hc
  · exact up_sum (lv_sum (by rw [termP]; exact chain_two am (by simp [opMul, operS, isT, signK, signT]) bm hc.mul (by simp)) hc.sum) (hh _).2 hc
  · exact up_sum (by rw [sumP]; exact chain_two (lv_term am (by simp [opMul, operS, isT, signK, signT])) (by simp [opSum, operS, isT, signK, signT]) bt hc.sum (by simp)) (hh _).2 hc
  · have an := lv_not (lv_test (lv_sum (lv_term am (by simp [opMul, operS, isT, signK])) (by simp [opSum, operS, isT, signK])) (by simp [opTest, operS, isT, signK]) (by simp [isT, signK])) (hh _).2
    exact lv_either (by rw [bothP]; exact chain_two an (by simp [opAnd, isT, signK]) bn hc.and (by simp)) hc.or
  · have ab := lv_both (lv_not (lv_test (lv_sum (lv_term am (by simp [opMul, operS, isT, signK])) (by simp [opSum, operS, isT, signK])) (by simp [opTest, operS, isT, signK]) (by simp [isT, signK])) (hh _).2) (by simp [opAnd, isT, signK])
    rw [eitherP]
    exact chain_two ab (by simp [opOr, isT, signK]) bb hc.or (by simp)
end
end Go.Abs
set_option linter.unusedSimpArgs false
set_option linter.unusedVariables false
namespace Go.Abs
open Go.Lx Go.Pz

theorem depthL_one {a : Ex} : depthL [a] = a.depth + 1 := by rw [depthL_cons, depthL_nil]; omega
theorem depthL_two {a b : Ex} : depthL [a, b] = max (a.depth + 1) (b.depth + 1) := by rw [depthL_cons, depthL_cons, depthL_nil]; omega
theorem const_one {E : Nat → List Tok → Pz.Res Ex} {k : Nat} {kind num scale : Int} {text qual : Bs} (h : constB kind num scale text qual = true) {r : List Tok} : oneP resv E k (constK kind num scale text ++ r) = .ok (.const kind num scale text, r) := by
  unfold constK
  rcases const_tok h with ⟨rfl, rfl, rfl, rfl⟩ | ⟨rfl, h1, rfl, rfl⟩ | ⟨rfl, h1, rfl, rfl⟩ | ⟨h1, h2, h3, h4, h5, h6⟩
  · show oneP resv E k (wT [110, 117, 108, 108] :: r) = _
    rw [named_kw]; rfl
  · rcases h1 with rfl | rfl
    · show oneP resv E k (wT [102, 97, 108, 115, 101] :: r) = _
      rw [named_kw]; rfl
    · show oneP resv E k (wT [116, 114, 117, 101] :: r) = _
      rw [named_kw]; rfl
  · rcases h1 with rfl | rfl
    · show oneP resv E k (wT [110, 97, 110] :: r) = _
      rw [named_kw]; rfl
    · show oneP resv E k (wT [105, 110, 102, 105, 110, 105, 116, 121] :: r) = _
      rw [named_kw]; rfl
  · rw [if_neg h1, if_neg h2, if_neg h3, if_neg h4, List.cons_append, List.nil_append, oneP]
    cases h5 with
    | word => simp at h6
    | int n h => simp
    | real n k hk hk' h => simp
    | text b h => simp
    | sign1 => simp at h6
    | sign2 => simp at h6

theorem one_text : ∀ (w : Nat) (x : Ex), x.w ≤ w → okE x = true → ∀ (n k : Nat), x.depth ≤ n → k + x.depth ≤ 40 → ∀ r, isT 5 [46] r = false → oneP resv (Pz.either resv n) k (tokE x ++ r) = .ok (x, r) := by
  intro w
  induction w using Nat.strongRecOn with
  | _ w ih =>
    intro x hx ho n k hn hk r hr
    obtain ⟨op, args, kind, num, scale, text, qual⟩ := x
    rw [okE_mk, Bool.and_eq_true, decide_eq_true_eq] at ho
    obtain ⟨hl, ho⟩ := ho
    rw [w_mk] at hx
    rw [depth_mk] at hn hk
    rw [tokE_mk]
    by_cases h21 : op = 21
    · rw [if_pos h21] at ho
      rw [shapeK_const h21, const_one ho]
      subst h21
      have hl0 : args = [] := List.eq_nil_of_length_eq_zero (by have : opnds 21 = 0 := by decide
                                                                omega)
      have hq : qual = [] := by unfold constB at ho; simp only [Bool.and_eq_true, decide_eq_true_eq] at ho; exact ho.1
      subst hl0 hq
      rfl
    rw [if_neg h21] at ho
    simp only [Bool.and_eq_true, decide_eq_true_eq] at ho
    obtain ⟨⟨⟨rfl, rfl⟩, rfl⟩, ho⟩ := ho
    by_cases h22 : op = 22
    · rw [if_pos h22] at ho
      rw [shapeK_col h22]
      subst h22
      simp only [Bool.and_eq_true, Bool.or_eq_true, decide_eq_true_eq] at ho
      have hl0 : args = [] := List.eq_nil_of_length_eq_zero (by have : opnds 22 = 0 := by decide
                                                                omega)
      subst hl0
      by_cases hq : qual = []
      · subst hq
        rw [if_pos rfl, List.cons_append, List.nil_append, named_kw, named_col ho.1, if_neg (by simp [hr])]
      · rw [if_neg hq]
        show oneP resv (Pz.either resv n) k (wT qual :: sT [46] :: wT text :: r) = _
        rw [named_kw, named_col (ho.2.resolve_left hq), if_pos (by simp [isT]), List.tail_cons, nameR_ok ho.1]
    rw [if_neg h22] at ho
    simp only [Bool.and_eq_true, decide_eq_true_eq] at ho
    obtain ⟨⟨hL, rfl⟩, rfl⟩ := ho
    rcases op_none hl h21 h22 with hn1 | hn1
    · obtain ⟨a, rfl⟩ : ∃ a, args = [a] := List.length_eq_one_iff.1 hn1
      have hw : wL [a] = a.w + 1 := by rw [wL_cons, wL_nil]
      rw [depthL_one] at hn hk
      obtain ⟨n, rfl⟩ : ∃ m, n = m + 1 := ⟨n - 1, by omega⟩
      have hoa := okL_iff.1 hL a (by simp)
      have hop := op_one (op := op) (by simpa using hl.symm)
      rw [toksE_cons, toksE_nil, shapeK_one h21 h22]
      obtain ⟨b, hb1, hb2⟩ := body_one (r := r) hop (ih a.w (by omega) a (Nat.le_refl _) hoa n (k + 1) (by omega) (by omega)) (fun r => tokE_head hoa r)
      rw [hb1]
      have hE : Pz.either resv (n + 1) (k + 1) (b ++ sT [41] :: r) = .ok ((if op = 14 ∨ op = 15 then a else .un op a), sT [41] :: r) := hb2
      have hin := inner_ok (E := Pz.either resv (n + 1)) (k := k) (by omega) hE
      by_cases h14 : op = 14
      · subst h14
        rw [if_pos rfl, named_kw, named, if_neg (by decide), if_neg (by decide), if_neg (by decide), if_neg (by decide), if_neg (by decide), if_pos (by simp), List.tail_cons, hin]
        rfl
      · by_cases h15 : op = 15
        · subst h15
          rw [if_neg (by decide), if_pos rfl, named_kw, named, if_neg (by decide), if_neg (by decide), if_neg (by decide), if_neg (by decide), if_neg (by decide), if_pos (by simp), List.tail_cons, hin]
          rfl
        · rw [if_neg h14, if_neg h15, oneP_open, hin, if_neg (by omega)]
    · obtain ⟨a, b, rfl⟩ : ∃ a b, args = [a, b] := length_two hn1
      have hw : wL [a, b] = a.w + b.w + 2 := by rw [wL_cons, wL_cons, wL_nil]; omega
      rw [depthL_two] at hn hk
      obtain ⟨n, rfl⟩ : ∃ m, n = m + 1 := ⟨n - 1, by omega⟩
      have hoa := okL_iff.1 hL a (by simp)
      have hob := okL_iff.1 hL b (by simp)
      have hop := op_two (op := op) (by simpa using hl.symm)
      rw [toksE_cons, toksE_cons, toksE_nil, shapeK_two h21 h22]
      have hb := body_two (r := r) hop (ih a.w (by omega) a (Nat.le_refl _) hoa n (k + 1) (by omega) (by omega)) (fun r => tokE_head hoa r) (ih b.w (by omega) b (Nat.le_refl _) hob n (k + 1) (by omega) (by omega)) (fun r => tokE_head hob r)
      have hE : Pz.either resv (n + 1) (k + 1) (tokE a ++ signK op :: (tokE b ++ sT [41] :: r)) = .ok (.bin op a b, sT [41] :: r) := hb
      have hin := inner_ok (E := Pz.either resv (n + 1)) (k := k) (by omega) hE
      have := (oneP_open (E := Pz.either resv (n + 1)) (k := k) (l := tokE a ++ signK op :: (tokE b ++ sT [41] :: r))).trans hin
      simpa [List.append_assoc] using this

/-- In m parentheses. -/
def wrapK (m : Nat) (l : List Tok) : List Tok := List.replicate m (sT [40]) ++ l ++ List.replicate m (sT [41])
theorem wrap_one {x : Ex} (ho : okE x = true) : ∀ (m n k : Nat), x.depth + m ≤ n → k + x.depth + m ≤ 40 → ∀ r, isT 5 [46] r = false → oneP resv (Pz.either resv n) k (wrapK m (tokE x) ++ r) = .ok (x, r)
  | 0, n, k, hn, hk, r, hr => by
    have := one_text x.w x (Nat.le_refl _) ho n k (by omega) (by omega) r hr
    simpa [wrapK] using this
  | m + 1, n, k, hn, hk, r, hr => by
    obtain ⟨n, rfl⟩ : ∃ n', n = n' + 1 := ⟨n - 1, by omega⟩
    have h1 := wrap_one ho m n (k + 1) (by omega) (by omega) (sT [41] :: r) (by simp [isT])
    have hh : stripN 5 [45] (wrapK m (tokE x) ++ sT [41] :: r) = 0 ∧ stripN 1 [110, 111, 116] (wrapK m (tokE x) ++ sT [41] :: r) = 0 := by
      cases m with
      | zero => simpa [wrapK] using tokE_head ho (sT [41] :: r)
      | succ m => simp [wrapK, List.replicate_succ, stripN]
    have hE : Pz.either resv (n + 1) (k + 1) (wrapK m (tokE x) ++ sT [41] :: r) = .ok (x, sT [41] :: r) := up_one h1 hh.1 hh.2 (clo_close r)
    have hin := inner_ok (E := Pz.either resv (n + 1)) (k := k) (by omega) hE
    have := (oneP_open (E := Pz.either resv (n + 1)) (k := k) (l := wrapK m (tokE x) ++ sT [41] :: r)).trans hin
    have e : wrapK (m + 1) (tokE x) ++ r = sT [40] :: (wrapK m (tokE x) ++ sT [41] :: r) := by
      simp only [wrapK, List.replicate_succ, List.cons_append, List.append_assoc]
      congr 3
      rw [show sT [41] :: (List.replicate m (sT [41]) ++ r) = List.replicate (m + 1) (sT [41]) ++ r from by rw [List.replicate_succ]; rfl, List.replicate_succ', List.append_assoc]
      rfl
    rw [e]
    exact this
theorem wrap_all {x : Ex} (ho : okE x = true) {m n : Nat} (hn : x.depth + m ≤ n) (hk : x.depth + m ≤ 40) : Pz.either resv (n + 1) 0 (wrapK m (tokE x)) = .ok (x, []) := by
  have h1 := wrap_one ho m n 0 hn (by omega) [] rfl
  have hh : stripN 5 [45] (wrapK m (tokE x) ++ []) = 0 ∧ stripN 1 [110, 111, 116] (wrapK m (tokE x) ++ []) = 0 := by
    cases m with
    | zero => simpa [wrapK] using tokE_head ho []
    | succ m => simp [wrapK, List.replicate_succ, stripN]
  have := up_one h1 hh.1 hh.2 (.inl rfl)
  rwa [List.append_nil] at this
end Go.Abs
set_option linter.unusedSimpArgs false
set_option linter.unusedVariables false
namespace Go.Abs
open Go.Lx Go.Pz

theorem tokE_depth : ∀ (w : Nat) (x : Ex), x.w ≤ w → okE x = true → x.depth ≤ (tokE x).length := by
  intro w
  induction w using Nat.strongRecOn with
  | _ w ih =>
    intro x hx ho
    obtain ⟨op, args, kind, num, scale, text, qual⟩ := x
    rw [okE_mk, Bool.and_eq_true, decide_eq_true_eq] at ho
    obtain ⟨hl, ho⟩ := ho
    rw [w_mk] at hx
    rw [depth_mk, tokE_mk]
    by_cases h21 : op = 21
    · subst h21
      have hl0 : args = [] := List.eq_nil_of_length_eq_zero (by have : opnds 21 = 0 := by decide
                                                                omega)
      subst hl0
      rw [depthL_nil]; omega
    by_cases h22 : op = 22
    · subst h22
      have hl0 : args = [] := List.eq_nil_of_length_eq_zero (by have : opnds 22 = 0 := by decide
                                                                omega)
      subst hl0
      rw [depthL_nil]; omega
    rw [if_neg h21] at ho
    simp only [Bool.and_eq_true, decide_eq_true_eq] at ho
    obtain ⟨_, ho⟩ := ho
    rw [if_neg h22] at ho
    simp only [Bool.and_eq_true, decide_eq_true_eq] at ho
    obtain ⟨⟨hL, _⟩, _⟩ := ho
    rcases op_none hl h21 h22 with hn1 | hn1
    · obtain ⟨a, rfl⟩ : ∃ a, args = [a] := List.length_eq_one_iff.1 hn1
      have hw : wL [a] = a.w + 1 := by rw [wL_cons, wL_nil]
      have h1 := ih a.w (by omega) a (Nat.le_refl _) (okL_iff.1 hL a (by simp))
      rw [depthL_one, toksE_cons, toksE_nil, shapeK_one h21 h22]
      have hop := op_one (op := op) (by simpa using hl.symm)
      have h2 : 1 ≤ (aheadK op).length := by rcases hop with rfl | rfl | rfl | rfl | rfl | rfl <;> simp [aheadK]
      simp only [List.length_append]
      omega
    · obtain ⟨a, b, rfl⟩ : ∃ a b, args = [a, b] := length_two hn1
      have hw : wL [a, b] = a.w + b.w + 2 := by rw [wL_cons, wL_cons, wL_nil]; omega
      have h1 := ih a.w (by omega) a (Nat.le_refl _) (okL_iff.1 hL a (by simp))
      have h2 := ih b.w (by omega) b (Nat.le_refl _) (okL_iff.1 hL b (by simp))
      rw [depthL_two, toksE_cons, toksE_cons, toksE_nil, shapeK_two h21 h22]
      simp only [List.cons_append, List.length_append, List.length_cons, List.length_nil]
      omega

/-- «DELETE FROM t WHERE ». -/
def headW : Bs := [68, 69, 76, 69, 84, 69, 32, 70, 82, 79, 77, 32, 116, 32, 87, 72, 69, 82, 69, 32]
def formW (m : Nat) (x : Ex) : Bs := headW ++ (List.replicate m 40 ++ (textE x ++ List.replicate m 41))
def headK (l : List Tok) : List Tok := wT [100, 101, 108, 101, 116, 101] :: wT [102, 114, 111, 109] :: wT [116] :: wT [119, 104, 101, 114, 101] :: l
theorem toks_head {y : Bs} {ts : List Tok} (ht : toks y = .ok ts) : toks (headW ++ y) = .ok (headK ts) :=
  kw (c := 68) (r := [69, 76, 69, 84, 69]) (y := 32 :: ([70, 82, 79, 77] ++ 32 :: ([116] ++ 32 :: ([87, 72, 69, 82, 69] ++ 32 :: y)))) rfl rfl (by decide) rfl (nw_sp _) (toks_sp
    (kw (c := 70) (r := [82, 79, 77]) (y := 32 :: ([116] ++ 32 :: ([87, 72, 69, 82, 69] ++ 32 :: y))) rfl rfl (by decide) rfl (nw_sp _) (toks_sp
      (kw (c := 116) (r := []) (y := 32 :: ([87, 72, 69, 82, 69] ++ 32 :: y)) rfl rfl (by decide) rfl (nw_sp _) (toks_sp
        (kw (c := 87) (r := [72, 69, 82, 69]) (y := 32 :: y) rfl rfl (by decide) rfl (nw_sp _) (toks_sp ht)))))))
theorem toks_shut : ∀ m, toks (List.replicate m 41) = .ok (List.replicate m (sT [41]))
  | 0 => toks_nil
  | m + 1 => by rw [List.replicate_succ, List.replicate_succ]; exact toks_s1 (c := 41) (by simp) (toks_shut m)
theorem stp_shut (m : Nat) : Stp (List.replicate m 41) := by
  cases m with
  | zero => exact Stp.nil
  | succ m => rw [List.replicate_succ]; exact Stp.close _
theorem toks_open {y : Bs} {ts : List Tok} (ht : toks y = .ok ts) : ∀ m, toks (List.replicate m 40 ++ y) = .ok (List.replicate m (sT [40]) ++ ts)
  | 0 => ht
  | m + 1 => by rw [List.replicate_succ, List.replicate_succ]; exact toks_s1 (c := 40) (by simp) (toks_open ht m)
theorem toks_form {x : Ex} (ho : okE x = true) (m : Nat) : toks (formW m x) = .ok (headK (wrapK m (tokE x))) := by
  have h1 := toks_text x.w x (Nat.le_refl _) ho (stp_shut m) (toks_shut m)
  have := toks_head (toks_open h1 m)
  rw [wrapK, List.append_assoc]
  exact this
theorem form_len (m : Nat) (x : Ex) : (formW m x).length = 20 + 2 * m + (textE x).length := by
  simp only [formW, headW, List.length_append, List.length_replicate, List.length_cons, List.length_nil]; omega
set_option maxRecDepth 4000 in
theorem parse_form {x : Ex} (ho : okE x = true) {m : Nat} (hd : x.depth ≤ 20) (hm : m ≤ 15) (hl : (textE x).length ≤ 3000) : Pz.parse resv (formW m x) = .ok { kind := 8, table := [116], wher := x } := by
  have hlen := form_len m x
  have htk : Lx.tokens (formW m x) = .ok (headK (wrapK m (tokE x))) := by rw [Lx.tokens, if_neg (by omega)]; exact toks_form ho m
  have hdl := tokE_depth x.w x (Nat.le_refl _) ho
  have hlw : (headK (wrapK m (tokE x))).length = 4 + 2 * m + (tokE x).length := by
    simp only [headK, wrapK, List.length_append, List.length_replicate, List.length_cons]; omega
  have hE := wrap_all ho (m := m) (n := (headK (wrapK m (tokE x))).length) (by omega) (by omega)
  have ht : nameR resv (wT [116] :: wT [119, 104, 101, 114, 101] :: wrapK m (tokE x)) = .ok ([116], wT [119, 104, 101, 114, 101] :: wrapK m (tokE x)) := nameR_ok (by decide)
  rw [Pz.parse, htk]
  simp only
  rw [parseT]
  generalize hN : (headK (wrapK m (tokE x))).length = N at *
  have hst : stmtS resv (N + 1) ⟨headK (wrapK m (tokE x)), 0⟩ = .ok ({ kind := 8, table := [116], wher := x }, ⟨[], max 0 x.depth⟩) := by
    rw [stmtS]
    simp only [headK, isT]
    simp only [true_and, decide_eq_true_eq]
    rw [if_neg (by decide), if_neg (by decide), if_neg (by decide), if_neg (by decide), if_neg (by decide), if_pos (by decide)]
    simp only [List.tail_cons]
    rw [deleteS, needS]
    rw [if_pos (by simp [isT]), thenS_ok]
    simp only [List.tail_cons]
    rw [nameS]
    simp only
    rw [ht]
    simp only [bindS_ok]
    rw [whereS, if_pos (by simp [isT])]
    simp only [List.tail_cons]
    rw [whole]
    simp only
    rw [hE]
    rfl
  rw [hst]
  simp only
  rw [if_neg (by simp), if_neg (by omega)]
end Go.Abs
set_option linter.unusedSimpArgs false
set_option linter.unusedVariables false
namespace Go.Abs
open Go Go.RowKit Go.Proofs Go.Lx Go.Pz
variable {w0 : World}

theorem and15 (n : Int) : ∃ m : Nat, m ≤ 15 ∧ ∀ S : Heap, binR .and .int (.int n) (.int 15) S = .ok true (.int (m : Int)) S := by
  refine ⟨(BitVec.ofInt IntKind.i64.bits n &&& BitVec.ofInt IntKind.i64.bits 15).toNat, ?_, fun S => ?_⟩
  · rw [BitVec.toNat_and]
    exact Nat.and_le_right
  · have h : (BitVec.ofInt IntKind.i64.bits n &&& BitVec.ofInt IntKind.i64.bits 15).toNat ≤ 15 := by
      rw [BitVec.toNat_and]
      exact Nat.and_le_right
    show ORes.ok true (.int (IntKind.i64.wrap (((BitVec.ofInt IntKind.i64.bits n &&& BitVec.ofInt IntKind.i64.bits 15).toNat : Nat) : Int))) S = _
    rw [wrap64_in (by omega) (by omega)]
def PaI (H : Heap) (tx : Bs) (n : Int) (M : Nat) (k : Nat) (a : Tmps) (S' : Heap) : Prop :=
  ∃ i : Nat, k = M - i ∧ i ≤ M ∧ S' = H ∧ get a 1 = .int n ∧ get a 2 = .ptr 0 0 0 ∧ get a 5 = .str tx ∧ get a 6 = .str (List.replicate i 40) ∧ get a 7 = .str (List.replicate i 41) ∧ get a 8 = .int i
def PaP (H : Heap) (tx : Bs) (M : Nat) : AExit → Tmps → Heap → Prop
  | .normal, a, S' => S' = H ∧ get a 2 = .ptr 0 0 0 ∧ get a 5 = .str tx ∧ get a 6 = .str (List.replicate M 40) ∧ get a 7 = .str (List.replicate M 41)
  | _, _, _ => False
set_option maxHeartbeats 2000000 in
theorem w7l {H : Heap} {tx : Bs} {n : Int} {M : Nat} (hM : M ≤ 15) (hn : ∀ S : Heap, binR .and .int (.int n) (.int 15) S = .ok true (.int (M : Int)) S) {G : Nat → AVal} {k : Nat} {a : Tmps} {S' : Heap} (h : PaI H tx n M k a S') :
    mwp (ACalls Tryz.prog (B0 w0)) (.block 0 (.loop (f7b0 G))) (PaP H tx M) a S' := by
  simp only [mwp_block]
  refine mwp_loop (I := PaI H tx n M) h ?_
  clear h
  rintro k a S' ⟨i, rfl, hi, rfl, a1, a2, a5, a6, a7, a8⟩
  by_cases hlt : i < M
  · have hltI : (i : Int) < (M : Int) := by omega
    have hw := wrapM i (by omega)
    simp [f7b0, a1, a2, a5, a6, a7, a8, hn, hltI, hw]
    exact ⟨by omega, M - (i + 1), by omega, i + 1, rfl, by omega, rfl, by simp [a1], by simp [a2], by simp [a5], by simp [List.replicate_succ'], by simp [List.replicate_succ'], by simp⟩
  · have hie : i = M := by omega
    subst hie
    simp [f7b0, a1, a2, a5, a6, a7, a8, hn]
    exact ⟨rfl, by simp [a2], by simp [a5], by simp [a6], by simp [a7]⟩

set_option maxHeartbeats 4000000 in
/-- ParseParens. -/
theorem w7 {x : Ex} {av : List AVal} (hav : ExV x av) (hx : x.w ≤ 4194304) (n : Int) : ACalls Tryz.prog (B0 w0) 7 [.agg av, .int n] [] fun e S' => e = .ret (.bool true) := by
  have ho14 := fun S => w14 (w0 := w0) 4194304 (by decide) x hx av hav S
  have ho15 := fun S => r15v (w0 := w0) 4194304 (by decide) x hx av hav S
  have h17 := fun S => w17v (w0 := w0) 4194304 (by decide) x hx av hav S
  have hl7 := ExV_len hav
  have ha1 := ExV_one hav
  refine fn_sound tryOrd (f7_c _) (by simp [f7]) ?_
  rw [f7, f7m, mwp_seq]
  simp [-appendR, -mwp_seq, -mwp_block, hl7, ha1]
  rw [mwp_seq, mwp_seq]
  simp [-appendR, -mwp_seq, -mwp_block]
  refine (w8 _).use ?_
  rintro e S1 ⟨rfl, rfl⟩
  simp [-appendR, -mwp_seq, -mwp_block]
  rw [mwp_seq, mwp_seq]
  simp [-appendR, -mwp_seq, -mwp_block, hl7, ha1]
  refine (ho14 _).use ?_
  rintro e S1 ⟨rfl, rfl⟩
  cases ho : okE x with
  | false => simp [-appendR, -mwp_block]
  | true =>
    simp [-appendR, -mwp_seq, -mwp_block, hl7, ha1]
    refine (ho15 _).use ?_
    rintro e S1 ⟨rfl, rfl⟩
    by_cases hd : 20 < x.depth
    · have hdI : (20 : Int) < (x.depth : Int) := by omega
      simp [-appendR, -mwp_block, hdI]
    have hdI : ¬ (20 : Int) < (x.depth : Int) := by omega
    simp [-appendR, -mwp_seq, -mwp_block, hdI]
    rw [mwp_seq]
    simp [-appendR, -mwp_seq, -mwp_block, hl7, ha1]
    refine (w16 4194304 (by decide) x hx ho av hav _).use ?_
    rintro e S1 ⟨rfl, rfl⟩
    simp [-appendR, -mwp_seq, -mwp_block]
    rw [mwp_seq, mwp_seq]
    by_cases hl : 3000 < (textE x).length
    · have hlI : (3000 : Int) < ((textE x).length : Int) := by omega
      simp [-appendR, -mwp_block, hlI]
    have hlI : ¬ (3000 : Int) < ((textE x).length : Int) := by omega
    simp [-appendR, -mwp_seq, -mwp_block, hlI]
    rw [mwp_seq]
    simp [-appendR, -mwp_seq, -mwp_block]
    rw [mwp_seq, mwp_seq]
    simp [-appendR, -mwp_seq, -mwp_block]
    obtain ⟨M, hM, hn⟩ := and15 n
    refine mwp_mono _ _ (fun _ _ _ _ _ hr h => h.mono hr) ?_ (w7l (w0 := w0) (H := [AObj.cells 7 [av] (some 1)]) (tx := textE x) hM hn (k := M) ⟨0, rfl, Nat.zero_le _, rfl, by simp, by simp, by simp, by simp, by simp, by simp⟩)
    intro e a2 S2 hJ
    cases e <;> first | exact hJ.elim | skip
    obtain ⟨rfl, b2, b5, b6, b7⟩ := hJ
    simp [-appendR, -mwp_seq, -mwp_block]
    rw [mwp_seq]
    simp [-appendR, -mwp_seq, -mwp_block, b5]
    refine ⟨by omega, ?_⟩
    have p1 := parse_form ho (m := 0) (by omega) (by omega) (by omega)
    have p2 := parse_form ho (m := M) (by omega) hM (by omega)
    simp [formW, headW] at p1 p2
    refine (w9 _ _).use ?_
    rintro e S1 h1
    obtain ⟨rfl, c1, rfl, hc1, hb1⟩ := h1.two
    rw [p1] at hc1 hb1
    have hk1 := hc1.len
    simp [-appendR, -mwp_seq, -mwp_block, p1, hk1.1, hk1.2, cdOf]
    rw [mwp_seq]
    simp [-appendR, -mwp_seq, -mwp_block, b5, b6, b7]
    refine ⟨by omega, by omega, by omega, ?_⟩
    refine (w9 _ _).use ?_
    rintro e S2 h2
    obtain ⟨rfl, c2, rfl, hc2, hb2⟩ := h2.two
    rw [p2] at hc2 hb2
    have hk2 := hc2.len
    have h11 := fun S => w11 (w0 := w0) hb1 hc1 hc2 S
    clear h1 h2 hb1 hb2 hc2
    obtain ⟨vC, vN, vR, vI, vF, vO, vS, rfl, ⟨f1, rfl⟩, ⟨f2, rfl⟩, ⟨f3, rfl⟩, ⟨f4, rfl⟩, ⟨f5, rfl⟩, ⟨f6, rfl⟩, ⟨f7, rfl⟩⟩ := hc1
    obtain ⟨op, vv, kind, num, scale, text, qual, hxx, o1, o2⟩ := exC_shape x
    simp only [stOf, hxx, List.cons_append, List.nil_append] at h11 h17 ⊢
    simp [-appendR, b2, p2, hk2.1, hk2.2, cdOf, o1, hl7, ha1]
    refine (h11 _).use ?_
    rintro e S3 ⟨rfl, rfl⟩
    simp [-appendR, b2, o1, hl7, ha1]
    refine (h17 _).use ?_
    rintro e S3 ⟨rfl, rfl⟩
    simp
end Go.Abs
