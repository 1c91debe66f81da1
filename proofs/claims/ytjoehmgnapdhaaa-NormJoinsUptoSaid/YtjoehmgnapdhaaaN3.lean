/- The walk of Conjuncts: the parts that AND joins, in order, in new memory. Conditions: none; lemmas. -/
import Derived.Test.YtjoehmgnapdhaaaN2
namespace Go.Abs
open Go Go.RowKit Go.Proofs
variable {β : Base}

def conj (c : Cd) : List Cd :=
  match _hc : c with
  | .mk op _ [x, y] _ _ _ _ _ => if op = 17 then conj x ++ conj y else [c]
  | _ => [c]
termination_by c.size
decreasing_by
  all_goals (simp only [Cd.size, sizes]; omega)

theorem conj_and {op ty kind num : Int} {str : List UInt8} {tab col : Int} {x y : Cd} (h : op = 17) : conj (.mk op ty [x, y] kind num str tab col) = conj x ++ conj y := by
  rw [conj]; simp [h]
theorem conj_op {op ty kind num : Int} {args : List Cd} {str : List UInt8} {tab col : Int} (h : op ≠ 17) : conj (.mk op ty args kind num str tab col) = [.mk op ty args kind num str tab col] := by
  rcases args with _ | ⟨x, _ | ⟨y, _ | ⟨z, r⟩⟩⟩ <;> rw [conj] <;> simp [h]
theorem conj_len {op ty kind num : Int} {args : List Cd} {str : List UInt8} {tab col : Int} (h : args.length ≠ 2) : conj (.mk op ty args kind num str tab col) = [.mk op ty args kind num str tab col] := by
  rcases args with _ | ⟨x, _ | ⟨y, _ | ⟨z, r⟩⟩⟩ <;> first | (exfalso; exact h rfl) | (rw [conj]; simp)

theorem conj_ne (c : Cd) : conj c ≠ [] := by
  match c with
  | .mk op ty [x, y] kind num str tab col =>
    by_cases h : op = 17
    · rw [conj_and h]; simp [conj_ne x]
    · rw [conj_op h]; simp
  | .mk op ty [] kind num str tab col => rw [conj_len (by simp)]; simp
  | .mk op ty [x] kind num str tab col => rw [conj_len (by simp)]; simp
  | .mk op ty (x :: y :: z :: r) kind num str tab col => rw [conj_len (by simp)]; simp
termination_by c.size
decreasing_by
  simp only [Cd.size, sizes]; omega

def Out (S S' : Heap) (q : Nat) (v : AVal) (outs : List Cd) : Prop :=
  (outs = [] ∧ v = .nilS) ∨ ∃ r oes, v = .row r 0 outs.length ∧ S.length ≤ r ∧ r ≠ q ∧ S'[r]? = some (.cells 8 oes none) ∧ oes.length = outs.length ∧ ∀ (i : Nat) (h : i < outs.length), Rep false outs[i] (oes.getD i [])

def ConjI (c : Cd) (S : Heap) (n : Nat) (a : Tmps) (S' : Heap) : Prop :=
  ∃ (outs ws : List Cd) (wes : List (List AVal)) (cap : Option Nat) (q : Nat), n = sizes ws ∧ get a 3 = .row q 0 ws.length ∧ S'.take S.length = S ∧ S.length ≤ q ∧ S'[q]? = some (.cells 8 wes cap) ∧ ws.length ≤ wes.length ∧
    (∀ (i : Nat) (h : i < ws.length), Rep true ws[i] (wes.getD i [])) ∧ Out S S' q (get a 2) outs ∧ outs ++ ws.reverse.flatMap conj = conj c ∧ outs.length + sizes ws ≤ c.size

theorem sizes_append : ∀ {a b : List Cd}, sizes (a ++ b) = sizes a + sizes b
  | [], b => by simp [sizes]
  | x :: r, b => by simp only [List.cons_append, sizes, sizes_append (a := r)]; omega

theorem w18 (c : Cd) (S : Heap) (cs : List AVal) (hrep : Rep true c cs) (hsize : c.size ≤ 1048576) :
    ACalls Try.prog β 18 [.agg cs] S fun e S' => ∃ es, es.length = (conj c).length ∧ (∀ (i : Nat) (h : i < (conj c).length), Rep false (conj c)[i] (es.getD i [])) ∧ e = .ret (.row S.length 0 es.length) ∧ S' = S ++ [.cells 8 es none] := by
  refine ACalls.close (R := fun e S' => ∃ r es, S.length ≤ r ∧ S'.take S.length = S ∧ S'[r]? = some (.cells 8 es none) ∧ es.length = (conj c).length ∧ (∀ (i : Nat) (h : i < (conj c).length), Rep false (conj c)[i] (es.getD i [])) ∧ e = .ret (.row r 0 es.length)) ?_ ?_
  rotate_left 1
  · rintro e S' ⟨r, es, hr, ht, hS, hl, hes, rfl⟩
    refine .row r 0 es.length 8 es none ht hr hS ?_ ⟨es, hl, hes, rfl, rfl⟩
    refine scLL_iff.2 fun e he => ?_
    obtain ⟨i, hi, rfl⟩ := List.getElem_of_mem he
    have := (hes i (by omega)).sc S.length
    rwa [getD_eq _ _ _ hi] at this
  · refine fn_sound tryOrders (f18_c β.G) (by simp [f18]) ?_
    have l8 := hrep.len
    have o8 := hrep.ones
    simp [f18, f18m, l8, o8]
    refine mwp_loop (I := ConjI c S) (n := c.size) ?_ ?_
    · refine ⟨[], [c], [cs], some 1, S.length + 1, by simp [sizes], by simp, by simp, by omega, by simp, by simp, fun i h => ?_, .inl ⟨rfl, by simp⟩, by simp, by simp [sizes]⟩
      have : i = 0 := by simpa using h
      subst this
      exact hrep
    rintro n a S' ⟨outs, ws, wes, cap, q, rfl, a3, ht, hq, hSq, hlw, hws, hout, hconj, hsz⟩
    have hqlt : q < S'.length := (List.getElem?_eq_some_iff.1 hSq).1
    rcases List.eq_nil_or_concat ws with rfl | ⟨ws', t, rfl⟩
    · simp [f18b0, a3]
      simp at hconj
      subst hconj
      rcases hout with ⟨h0, _⟩ | ⟨r, oes, h2, h3, h4, h5, h6, h7⟩
      · exact absurd h0 (conj_ne c)
      · exact ⟨r, h3, ht, oes, h5, h6, h7, by rw [h2, h6]⟩
    · simp only [List.concat_eq_append] at *
      have a3' : get a 3 = .row q 0 (ws'.length + 1) := by simpa using a3
      have hlw' : ws'.length < wes.length := by simp at hlw; omega
      have hrt := hws ws'.length (by simp)
      simp only [List.getElem_append_right (Nat.le_refl _), Nat.sub_self, List.getElem_cons_zero] at hrt
      rw [getD_eq _ _ _ hlw'] at hrt
      generalize hte : wes[ws'.length] = te at hrt
      have t8 := hrt.len
      have t1 := hrt.ones
      have hbig : sizes ws' + t.size ≤ 1048576 := by
        rw [sizes_append] at hsz; simp only [sizes] at hsz; omega
      have hwl := sizes_len ws'
      have hw : IntKind.i64.wrap (ws'.length : Int) = (ws'.length : Int) := wrap64_in (by omega) (by omega)
      have hpos : (0 : Int) < (ws'.length : Int) + 1 := by omega
      have hlow' : ∀ l : Heap, (S' ++ l)[q]? = some (.cells 8 wes cap) := fun l => by rw [List.getElem?_append_left hqlt]; exact hSq
      have htk : ∀ l : Heap, (S' ++ l).take S.length = S := fun l => by rw [List.take_append_of_le_length (by omega)]; exact ht
      have htk2 : ∀ (X l : Heap) (r : Nat), S.length ≤ r → (((S' ++ X).set r .dead) ++ l).take S.length = S := fun X l r hr => by
        rw [List.take_append_of_le_length (by simp; omega), List.take_set, htk, List.set_eq_of_length_le hr]
      have hlow2 : ∀ (X l : Heap) (r : Nat), r ≠ q → (((S' ++ X).set r .dead) ++ l)[q]? = some (.cells 8 wes cap) := fun X l r hr => by
        rw [List.getElem?_append_left (by simp; omega), List.getElem?_set_ne hr, hlow']
      cases hrt with
      | mk op ty args kind num str tab col v es hv hl h =>
        have hv1 := hv.one
        have hlen : ∀ S, lenR S v = .ok true (.int es.length) S := fun S => (hv.rd (S := S)).lenR
        by_cases hand : op = 17 ∧ args.length = 2
        rotate_left 1
        · have hcj : conj (.mk op ty args kind num str tab col) = [.mk op ty args kind num str tab col] := by
            by_cases h17 : op = 17
            · exact conj_len fun h2 => hand ⟨h17, h2⟩
            · exact conj_op h17
          have hcase : (op == 17) = false ∨ (op = 17 ∧ ((es.length : Int) == 2) = false) := by
            by_cases h17 : op = 17
            · exact .inr ⟨h17, beq_eq_false_iff_ne.2 fun h2 => hand ⟨h17, by omega⟩⟩
            · exact .inl (beq_eq_false_iff_ne.2 h17)
          rcases hcase with g | ⟨rfl, g⟩
          · simp [f18b0, a3', hpos, hw, hSq, hlow', hte, hlw', hv1, g]
            refine ⟨by omega, by omega, ?_⟩
            refine ACalls.use (w33 _ _ _ (.mk op ty args kind num str tab col v es hv hl h) (by omega)) ?_
            rintro e S2 ⟨es', hr', rfl, rfl⟩
            have k1 := hr'.ones
            have k2 := hr'.len
            rcases hout with ⟨rfl, ho⟩ | ⟨r, oes, ho, b1, b2, b3, b4, b5⟩
            · simp [k1, k2, ho]
              refine ⟨sizes ws', by rw [sizes_append]; simp only [sizes, Cd.size]; omega, [.mk op ty args kind num str tab col], ws', wes, cap, q, rfl, by simp, htk _, hq, by simpa using hlow' _, by omega, fun i hi => ?_, .inr ⟨S'.length + 1, [es'], by simp, by omega, by omega, by simp, rfl, fun i hi => ?_⟩, ?_, ?_⟩
              · have := hws i (by simp; omega)
                rwa [List.getElem_append_left hi] at this
              · have : i = 0 := by simpa using hi
                subst this
                simpa using hr'
              · simpa [hcj] using hconj
              · rw [sizes_append] at hsz; simp only [sizes, Cd.size, List.length_nil, List.length_singleton] at hsz ⊢; omega
            · have b3' : ∀ l : Heap, (S' ++ l)[r]? = some (.cells 8 oes none) := fun l => by rw [List.getElem?_append_left (List.getElem?_eq_some_iff.1 b3).1]; exact b3
              have hol : outs.length ≤ 1048576 := by omega
              simp [k1, k2, ho, b3', b4]
              have ho8 : ∀ X : AObj, (((S' ++ [X]).set r .dead ++ [.cells 8 (oes.take outs.length ++ [es']) none])[S'.length + 1]?) = some (.cells 8 (oes.take outs.length ++ [es']) none) := fun X => by
                rw [List.getElem?_append_right (by simp)]; simp
              have hto : oes.take outs.length = oes := List.take_of_length_le (by omega)
              refine ⟨⟨by omega, by omega⟩, sizes ws', by rw [sizes_append]; simp only [sizes, Cd.size]; omega, outs ++ [.mk op ty args kind num str tab col], ws', wes, cap, q, rfl, by simp, htk2 _ _ _ b1, hq, hlow2 _ _ _ b2, by omega, fun i hi => ?_, .inr ⟨S'.length + 1, oes ++ [es'], by simp, by omega, by omega, by simp [hto], by simp [b4], fun i hi => ?_⟩, ?_, ?_⟩
              · have := hws i (by simp; omega)
                rwa [List.getElem_append_left hi] at this
              · rcases Nat.lt_or_ge i outs.length with hh | hh
                · rw [List.getElem_append_left hh, List.getD_eq_getElem?_getD, List.getElem?_append_left (by omega), ← List.getD_eq_getElem?_getD]
                  exact b5 i hh
                · have : i = outs.length := by simp at hi; omega
                  subst this
                  rw [List.getElem_append_right (Nat.le_refl _), List.getD_eq_getElem?_getD, List.getElem?_append_right (by omega), b4]
                  simpa using hr'
              · simpa [hcj] using hconj
              · rw [sizes_append] at hsz; simp only [sizes, Cd.size, List.length_append, List.length_singleton] at hsz ⊢; omega
          · simp [f18b0, a3', hpos, hw, hSq, hlow', hte, hlw', hv1, g, hlen]
            refine ⟨by omega, by omega, ?_⟩
            refine ACalls.use (w33 _ _ _ (.mk 17 ty args kind num str tab col v es hv hl h) (by omega)) ?_
            rintro e S2 ⟨es', hr', rfl, rfl⟩
            have k1 := hr'.ones
            have k2 := hr'.len
            rcases hout with ⟨rfl, ho⟩ | ⟨r, oes, ho, b1, b2, b3, b4, b5⟩
            · simp [k1, k2, ho]
              refine ⟨sizes ws', by rw [sizes_append]; simp only [sizes, Cd.size]; omega, [.mk 17 ty args kind num str tab col], ws', wes, cap, q, rfl, by simp, htk _, hq, by simpa using hlow' _, by omega, fun i hi => ?_, .inr ⟨S'.length + 1, [es'], by simp, by omega, by omega, by simp, rfl, fun i hi => ?_⟩, ?_, ?_⟩
              · have := hws i (by simp; omega)
                rwa [List.getElem_append_left hi] at this
              · have : i = 0 := by simpa using hi
                subst this
                simpa using hr'
              · simpa [hcj] using hconj
              · rw [sizes_append] at hsz; simp only [sizes, Cd.size, List.length_nil, List.length_singleton] at hsz ⊢; omega
            · have b3' : ∀ l : Heap, (S' ++ l)[r]? = some (.cells 8 oes none) := fun l => by rw [List.getElem?_append_left (List.getElem?_eq_some_iff.1 b3).1]; exact b3
              have hol : outs.length ≤ 1048576 := by omega
              simp [k1, k2, ho, b3', b4]
              have ho8 : ∀ X : AObj, (((S' ++ [X]).set r .dead ++ [.cells 8 (oes.take outs.length ++ [es']) none])[S'.length + 1]?) = some (.cells 8 (oes.take outs.length ++ [es']) none) := fun X => by
                rw [List.getElem?_append_right (by simp)]; simp
              have hto : oes.take outs.length = oes := List.take_of_length_le (by omega)
              refine ⟨⟨by omega, by omega⟩, sizes ws', by rw [sizes_append]; simp only [sizes, Cd.size]; omega, outs ++ [.mk 17 ty args kind num str tab col], ws', wes, cap, q, rfl, by simp, htk2 _ _ _ b1, hq, hlow2 _ _ _ b2, by omega, fun i hi => ?_, .inr ⟨S'.length + 1, oes ++ [es'], by simp, by omega, by omega, by simp [hto], by simp [b4], fun i hi => ?_⟩, ?_, ?_⟩
              · have := hws i (by simp; omega)
                rwa [List.getElem_append_left hi] at this
              · rcases Nat.lt_or_ge i outs.length with hh | hh
                · rw [List.getElem_append_left hh, List.getD_eq_getElem?_getD, List.getElem?_append_left (by omega), ← List.getD_eq_getElem?_getD]
                  exact b5 i hh
                · have : i = outs.length := by simp at hi; omega
                  subst this
                  rw [List.getElem_append_right (Nat.le_refl _), List.getD_eq_getElem?_getD, List.getElem?_append_right (by omega), b4]
                  simpa using hr'
              · simpa [hcj] using hconj
              · rw [sizes_append] at hsz; simp only [sizes, Cd.size, List.length_append, List.length_singleton] at hsz ⊢; omega
        · obtain ⟨rfl, h2⟩ := hand
          obtain ⟨x, y, rfl⟩ : ∃ x y, args = [x, y] := by
            match args, h2 with
            | [x, y], _ => exact ⟨x, y, rfl⟩
          obtain ⟨ex, ey, rfl⟩ : ∃ ex ey, es = [ex, ey] := by
            match es, hl with
            | [x, y], _ => exact ⟨x, y, rfl⟩
          have hx := h 0 (by simp)
          have hy := h 1 (by simp)
          simp at hx hy
          have x8 := hx.len
          have y8 := hy.len
          have x1 := hx.ones
          have y1 := hy.ones
          cases hv with
          | list fl _ hf hf' =>
            simp [f18b0, a3', hpos, hw, hSq, hlow', hte, hlw', x8, y8, x1, y1]
            simp only [sizes_append, sizes, Cd.size] at hbig hsz
            refine ⟨by omega, by omega, ⟨⟨by omega, by omega⟩, by omega⟩, sizes (ws' ++ [y, x]), by simp only [sizes_append, sizes, Cd.size]; omega, outs, ws' ++ [y, x], wes.take ws'.length ++ [ey, ex], none, S'.length + 1, rfl, by simp, htk2 _ _ _ hq, by omega, ?_, by simp; omega, fun i hi => ?_, ?_, ?_, by simp only [sizes_append, sizes]; omega⟩
            · rw [List.getElem?_append_right (by simp)]; simp
            · have hl1 : (wes.take ws'.length).length = ws'.length := by simp; omega
              rcases Nat.lt_or_ge i ws'.length with hh | hh
              · have := hws i (by simp; omega)
                rw [List.getElem_append_left hh] at this ⊢
                rw [List.getD_eq_getElem?_getD, List.getElem?_append_left (by omega), List.getElem?_take_of_lt hh, ← List.getD_eq_getElem?_getD]
                exact this
              · rw [List.getElem_append_right hh, List.getD_eq_getElem?_getD, List.getElem?_append_right (by omega), hl1]
                have hi2 : i - ws'.length = 0 ∨ i - ws'.length = 1 := by simp at hi; omega
                rcases hi2 with h0 | h0
                · simp only [h0]; simpa using hy
                · simp only [h0]; simpa using hx
            · rcases hout with ⟨rfl, ho⟩ | ⟨r, oes, ho, b1, b2, b3, b4, b5⟩
              · exact .inl ⟨rfl, by simpa using ho⟩
              · have hrlt : r < S'.length := (List.getElem?_eq_some_iff.1 b3).1
                refine .inr ⟨r, oes, by simpa using ho, b1, by omega, ?_, b4, b5⟩
                rw [List.getElem?_append_left (by simp; omega), List.getElem?_set_ne (Ne.symm b2), List.getElem?_append_left hrlt]
                exact b3
            · rw [← hconj]
              simp [conj_and]
end Go.Abs
