/- The walks of two and NormJoins: the answer is true at every pair of conditions whose sizes fit. Conditions: the sizes' sum, and that the example speaks true. -/
import Derived.Test.YtjoehmgnapdhaaaN3
namespace Go.Abs
open Go Go.RowKit Go.Proofs
variable {β : Base}

theorem w19 {S : Heap} {op : Int} {a b : Cd} {ca cb : List AVal} (ha : Rep true a ca) (hb : Rep true b cb) : ACalls Try.prog β 19 [.int op, .agg ca, .agg cb] S fun e S' => (∃ cs, Rep true (.mk op 0 [a, b] 0 0 [] 0 0) cs ∧ e = .ret (.agg cs)) ∧ S' = S := by
  refine ACalls.close (R := fun e S' => e = .ret (.agg [.int op, .int 0, .list .full [ca, cb], .int 0, .int 0, .str [], .int 0, .int 0]) ∧ S'.take S.length = S) ?_ ?_
  · refine fn_sound tryOrders (f19_c β.G) (by simp [f19]) ?_
    have a8 := ha.len
    have b8 := hb.len
    have a1 := ha.ones
    have b1 := hb.ones
    simp [f19, f19m, a8, b8, a1, b1]
  · rintro e S' ⟨rfl, ht⟩
    have sa := ha.sc S.length
    have sb := hb.sc S.length
    refine .flat ht (by simp [sa, sb]) ⟨⟨_, .mk op 0 [a, b] 0 0 [] 0 0 _ [ca, cb] (.list .full _ (by simp) (by simp)) rfl ?_, rfl⟩, rfl⟩
    intro i hi
    have : i = 0 ∨ i = 1 := by simp at hi; omega
    rcases this with rfl | rfl
    · simpa using ha
    · simpa using hb

def isAnd : Cd → Prop
  | .mk op _ args _ _ _ _ _ => op = 17 ∧ args.length = 2
theorem conj_not (c : Cd) : ∀ d ∈ conj c, ¬ isAnd d := by
  match c with
  | .mk op ty [x, y] kind num str tab col =>
    intro d hd
    by_cases h : op = 17
    · rw [conj_and h] at hd
      rcases List.mem_append.1 hd with hd | hd
      · exact conj_not x d hd
      · exact conj_not y d hd
    · rw [conj_op h] at hd
      simp at hd; subst hd; simp [isAnd, h]
  | .mk op ty [] kind num str tab col => intro d hd; rw [conj_len (by simp)] at hd; simp at hd; subst hd; simp [isAnd]
  | .mk op ty [x] kind num str tab col => intro d hd; rw [conj_len (by simp)] at hd; simp at hd; subst hd; simp [isAnd]
  | .mk op ty (x :: y :: z :: r) kind num str tab col => intro d hd; rw [conj_len (by simp)] at hd; simp at hd; subst hd; simp [isAnd]
termination_by c.size
decreasing_by
  all_goals (simp only [Cd.size, sizes]; omega)

theorem conj_size (c : Cd) : (conj c).length ≤ c.size ∧ ∀ d ∈ conj c, d.size ≤ c.size := by
  match c with
  | .mk op ty [x, y] kind num str tab col =>
    by_cases h : op = 17
    · rw [conj_and h]
      have hx := conj_size x
      have hy := conj_size y
      simp only [Cd.size, sizes, List.length_append]
      refine ⟨by omega, fun d hd => ?_⟩
      rcases List.mem_append.1 hd with hd | hd
      · have := hx.2 d hd; omega
      · have := hy.2 d hd; omega
    · rw [conj_op h]; simp; simp only [Cd.size]; omega
  | .mk op ty [] kind num str tab col => rw [conj_len (by simp)]; simp; simp only [Cd.size]; omega
  | .mk op ty [x] kind num str tab col => rw [conj_len (by simp)]; simp; simp only [Cd.size]; omega
  | .mk op ty (x :: y :: z :: r) kind num str tab col => rw [conj_len (by simp)]; simp; simp only [Cd.size]; omega
termination_by c.size
decreasing_by
  all_goals (simp only [Cd.size, sizes]; omega)

theorem w7 {a b : Cd} {ca cb : List AVal} (ha : Rep true a ca) (hb : Rep true b cb) (hsz : 1 + (a.size + b.size) ≤ 1048576) (h17 : ∀ S, ACalls Try.prog β 17 [] S fun e S' => e = .ret (.bool true) ∧ S' = S) :
    ACalls Try.prog β 7 [.agg ca, .agg cb] [] fun e _ => e = .ret (.bool true) := by
  refine fn_sound tryOrders (f7_c β.G) (by simp [f7]) ?_
  have a8 := ha.len
  have b8 := hb.len
  have a1 := ha.ones
  have b1 := hb.ones
  simp [f7, f7m, a8, b8, a1, b1]
  refine ACalls.use (h17 _) ?_
  rintro e S' ⟨rfl, rfl⟩
  simp [a8, b8]
  refine ACalls.use (w19 ha hb) ?_
  rintro e S' ⟨⟨cc, hcc, rfl⟩, rfl⟩
  simp
  refine ACalls.use (w18 _ _ _ hcc (by simp only [Cd.size, sizes]; omega)) ?_
  rintro e S' ⟨es, hl, hes, rfl, rfl⟩
  simp
  generalize hcl : conj (.mk 17 0 [a, b] 0 0 [] 0 0) = cl at hl hes
  have hconj : cl = conj a ++ conj b := by rw [← hcl]; exact conj_and rfl
  have hnot : ∀ d ∈ cl, ¬ isAnd d := by rw [← hcl]; exact conj_not _
  have hcs := conj_size (.mk 17 0 [a, b] 0 0 [] 0 0)
  rw [hcl] at hcs
  simp only [Cd.size, sizes] at hcs
  have h8 : ∀ e ∈ es, e.length = 8 := fun e he => by
    obtain ⟨i, hi, rfl⟩ := List.getElem_of_mem he
    have := (hes i (by omega)).len
    rwa [getD_eq _ _ _ hi] at this
  refine mwp_loop (I := fun n x S' => ∃ (i : Nat) (g : Heap), n = es.length - i ∧ i ≤ es.length ∧ get x 2 = .ptr 0 0 0 ∧ get x 3 = .ptr 1 0 0 ∧ get x 5 = .row 2 0 es.length ∧ get x 14 = .row 2 0 es.length ∧ get x 15 = .int es.length ∧ get x 16 = .int i ∧
    S' = [.cells 8 [ca] (some 1), .cells 8 [cb] (some 1), .cells 8 es none] ++ g) (n := es.length) ?_ ?_
  · exact ⟨0, [], rfl, Nat.zero_le _, rfl, rfl, rfl, rfl, rfl, rfl, rfl⟩
  rintro n x S' ⟨i, g, rfl, hi, x2, x3, x5, x14, x15, x16, rfl⟩
  by_cases hlt : i < es.length
  · have hri := hes i (by omega)
    have hni := hnot _ (List.getElem_mem (by omega : i < cl.length))
    rw [getD_eq _ _ _ hlt] at hri
    generalize hte : es[i] = te at hri
    generalize cl[i]'(by omega) = d at hri hni
    have hw : IntKind.i64.wrap ((i : Int) + 1) = ((i + 1 : Nat) : Int) := by rw [wrap64_in (by omega) (by omega)]; simp
    cases hri with
    | mk op ty args kind num str tab col v vs hv hvl h =>
      have hv1 := hv.one
      have hlen : ∀ S, lenR S v = .ok true (.int vs.length) S := fun S => (hv.rd (S := S)).lenR
      have hcase : (op == 17) = false ∨ (op = 17 ∧ ((vs.length : Int) == 2) = false) := by
        by_cases h17 : op = 17
        · exact .inr ⟨h17, beq_eq_false_iff_ne.2 fun h2 => hni ⟨h17, by omega⟩⟩
        · exact .inl (beq_eq_false_iff_ne.2 h17)
      rcases hcase with gg | ⟨rfl, gg⟩
      · simp [f7b0, x2, x3, x5, x14, x15, x16, hlt, hte, hv1, gg, hw]
        refine ⟨es.length - (i + 1), by omega, i + 1, rfl, by omega, ?_⟩
        simp
      · simp [f7b0, x2, x3, x5, x14, x15, x16, hlt, hte, hv1, gg, hw, hlen]
        refine ⟨es.length - (i + 1), by omega, i + 1, rfl, by omega, ?_⟩
        simp
  · simp [f7b0, x2, x3, x5, x15, x16, hlt, a8, b8]
    refine ACalls.use (w18 a _ ca ha (by omega)) ?_
    rintro e S' ⟨ea, hla, hea, rfl, rfl⟩
    simp [b8]
    refine ACalls.use (w18 b _ cb hb (by omega)) ?_
    rintro e S' ⟨eb, hlb, heb, rfl, rfl⟩
    simp
    have hcla : (conj a).length + (conj b).length = cl.length := by rw [hconj]; simp
    have h8b : ∀ e ∈ eb, e.length = 8 := fun e he => by
      obtain ⟨i, hi, rfl⟩ := List.getElem_of_mem he
      have := (heb i (by omega)).len
      rwa [getD_eq _ _ _ hi] at this
    refine ⟨⟨⟨h8b, by omega⟩, by omega⟩, ?_⟩
    have r1 : Rd (AObj.cells 8 [ca] (some 1) :: AObj.cells 8 [cb] (some 1) :: AObj.cells 8 es none :: (g ++ [AObj.dead, AObj.cells 8 eb none, AObj.cells 8 (ea ++ eb) none])) (.row 2 0 es.length) es := by
      have := Rd.row (S := AObj.cells 8 [ca] (some 1) :: AObj.cells 8 [cb] (some 1) :: AObj.cells 8 es none :: (g ++ [AObj.dead, AObj.cells 8 eb none, AObj.cells 8 (ea ++ eb) none])) 2 0 es.length es none (by simp) (by simp)
      simpa using this
    have r2 : Rd (AObj.cells 8 [ca] (some 1) :: AObj.cells 8 [cb] (some 1) :: AObj.cells 8 es none :: (g ++ [AObj.dead, AObj.cells 8 eb none, AObj.cells 8 (ea ++ eb) none])) (.row (g.length + 2 + 1 + 1 + 1) 0 (ea.length + eb.length)) (ea ++ eb) := by
      have := Rd.row (S := AObj.cells 8 [ca] (some 1) :: AObj.cells 8 [cb] (some 1) :: AObj.cells 8 es none :: (g ++ [AObj.dead, AObj.cells 8 eb none, AObj.cells 8 (ea ++ eb) none])) (g.length + 2 + 1 + 1 + 1) 0 (ea.length + eb.length) (ea ++ eb) none (by simp) (by simp)
      have e1 : (ea ++ eb).take (ea.length + eb.length) = ea ++ eb := List.take_of_length_le (by simp)
      simpa [e1] using this
    refine ACalls.use (w20 cl (fun c hc => by have := hcs.2 c hc; omega) (conj a ++ conj b) _ _ _ es (ea ++ eb) (by omega) r1 r2 hl (by simp [hla, hlb]) hes (fun i hi => ?_)) ?_
    · rcases Nat.lt_or_ge i (conj a).length with hh | hh
      · rw [List.getElem_append_left hh, List.getD_eq_getElem?_getD, List.getElem?_append_left (by omega), ← List.getD_eq_getElem?_getD]
        exact hea i hh
      · have hib : i - (conj a).length < (conj b).length := by simp at hi; omega
        rw [List.getElem_append_right hh, List.getD_eq_getElem?_getD, List.getElem?_append_right (by omega), hla, ← List.getD_eq_getElem?_getD]
        exact heb _ hib
    · rintro e S' ⟨rfl, bb, rfl, hbb⟩
      simp
      exact hbb.2 hconj
end Go.Abs
