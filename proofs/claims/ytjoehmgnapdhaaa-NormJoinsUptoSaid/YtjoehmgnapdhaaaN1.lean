/- The walk of slices.Clone over a row of codes, and the words in which conditions are spoken of. Conditions: none; definitions and lemmas. -/
import Derived.Test.YtjoehmgnapdhaaaF1
import Derived.Test.YtjoehmgnapdhaaaA27
namespace Go.Abs
open Go Go.RowKit Go.Proofs

inductive Cd where
  | mk (op ty : Int) (args : List Cd) (kind num : Int) (str : List UInt8) (tab col : Int)

/-- A frozen slice of elements. -/
inductive Fr (b : Bool) : AVal → List (List AVal) → Prop
  | nil : Fr b .nilS []
  | list (fl : Fl) (es : List (List AVal)) (h : b = true → fl.non = true) (h' : fl ≠ .nil) : Fr b (.list fl es) es

/-- A code's cells (true: every slice is nil or is not, for sure). -/
inductive Rep (b : Bool) : Cd → List AVal → Prop
  | mk (op ty : Int) (args : List Cd) (kind num : Int) (str : List UInt8) (tab col : Int) (v : AVal) (es : List (List AVal)) (hv : Fr b v es) (hl : es.length = args.length)
      (h : ∀ (i : Nat) (hi : i < args.length), Rep b args[i] (es.getD i [])) : Rep b (.mk op ty args kind num str tab col) [.int op, .int ty, v, .int kind, .int num, .str str, .int tab, .int col]

theorem Fr.one {b v es} (h : Fr b v es) : v.one = true := by cases h <;> rfl
theorem Rep.len {b c cs} (h : Rep b c cs) : cs.length = 8 := by cases h; rfl
theorem Fr.weak {b v es} (h : Fr b v es) : Fr false v es := by
  cases h with
  | nil => exact .nil
  | list fl es h h' => exact .list _ _ (by simp) h'
theorem Rep.ones {b c cs} (h : Rep b c cs) : cs.all AVal.one = true := by
  cases h with
  | mk op ty args kind num str tab col v es hv hl _ => simp [hv.one]
theorem Rep.weak {b c cs} (h : Rep b c cs) : Rep false c cs := by
  induction h with
  | mk op ty args kind num str tab col v es hv hl _ ih => exact .mk _ _ _ _ _ _ _ _ v es hv.weak hl ih
theorem Rep.sc {b c cs} (h : Rep b c cs) (n : Nat) : scL n cs = true := by
  induction h with
  | mk op ty args kind num str tab col v es hv hl _ ih =>
    have : v.sc n = true := by
      cases hv with
      | nil => simp
      | list fl es h h' =>
        simp only [AVal.sc]
        refine scLL_iff.2 fun x hx => ?_
        obtain ⟨i, hi, rfl⟩ := List.getElem_of_mem hx
        have := ih i (by omega)
        rwa [getD_eq _ _ _ hi] at this
    simp [this]

mutual
def Cd.size : Cd → Nat
  | .mk _ _ args _ _ _ _ _ => 1 + sizes args
def sizes : List Cd → Nat
  | [] => 0
  | c :: r => c.size + sizes r
end
theorem sizes_len : ∀ (l : List Cd), l.length ≤ sizes l
  | [] => Nat.le_refl _
  | .mk .. :: r => by have := sizes_len r; simp only [List.length_cons, sizes, Cd.size]; omega
theorem sizes_get : ∀ (l : List Cd) (i : Nat) (h : i < l.length), l[i].size ≤ sizes l
  | c :: r, 0, _ => by simp [sizes]
  | c :: r, i + 1, h => by have := sizes_get r i (by simpa using h); simp only [List.getElem_cons_succ, sizes]; omega

variable {β : Base}
theorem tryOrders : Try.prog.follows .mixedOrders = true := by kernel_rfl

def zc : List AVal := [.int 0, .int 0, .nilS, .int 0, .int 0, .str [], .int 0, .int 0]

/-- slices.Clone. -/
theorem w42 {S : Heap} {v : AVal} {es : List (List AVal)} (hv : Fr true v es) (h8 : ∀ e ∈ es, e.length = 8) (hsc : scLL S.length es = true) (hlen : es.length ≤ 1048576) :
    ACalls Try.prog β 42 [v] S fun e S' => (e = .ret .nilS ∧ es = [] ∧ S' = S) ∨ (e = .ret (.row S.length 0 es.length) ∧ S' = S ++ [.cells 8 es none]) := by
  cases hv with
  | nil =>
    refine (fn_sound tryOrders (f42_c β.G) (by simp [f42]) ?_)
    simp [f42, f42m]
  | list fl es h h' =>
    have hn := h rfl
    have hnil : isNil .slice (.list fl es) = some false := by
      cases fl <;> simp_all [isNil]
    refine (fn_sound tryOrders (f42_c β.G) (by simp [f42]) ?_)
    simp [f42, f42m, hnil]
    exact ⟨⟨h8, by omega⟩, by omega⟩

def Cd.args : Cd → List Cd
  | .mk _ _ args _ _ _ _ _ => args

def Spec33 (β : Base) (c : Cd) : Prop := ∀ S cs, Rep true c cs → c.size ≤ 1048576 → ACalls Try.prog β 33 [.agg cs] S fun e S' => ∃ es', Rep false c es' ∧ e = .ret (.agg es') ∧ S' = S

theorem w33_of (c : Cd) (ih : ∀ d ∈ c.args, Spec33 β d) : Spec33 β c := by
  intro S cs hrep hsize
  cases hrep with
  | mk op ty args kind num str tab col v es hv hl h =>
    have h8 : ∀ e ∈ es, e.length = 8 := fun e he => by
      obtain ⟨i, hi, rfl⟩ := List.getElem_of_mem he
      have := (h i (by omega)).len
      rwa [getD_eq _ _ _ hi] at this
    have hsc : ∀ n, scLL n es = true := fun n => scLL_iff.2 fun e he => by
      obtain ⟨i, hi, rfl⟩ := List.getElem_of_mem he
      have := (h i (by omega)).sc n
      rwa [getD_eq _ _ _ hi] at this
    have hlen : es.length ≤ 1048576 := by
      have := sizes_len args
      simp only [Cd.size] at hsize; omega
    refine ACalls.close (R := fun e S' => (es = [] ∧ e = .ret (.agg [.int op, .int ty, .nilS, .int kind, .int num, .str str, .int tab, .int col]) ∧ ∃ g, S' = S ++ g) ∨
      (∃ es' o1 o2, es'.length = es.length ∧ (∀ (j : Nat) (hj : j < args.length), Rep false args[j] (es'.getD j [])) ∧ e = .ret (.agg [.int op, .int ty, .row (S.length + 2) 0 es.length, .int kind, .int num, .str str, .int tab, .int col]) ∧ S' = S ++ [o1, o2, .cells 8 es' none])) ?_ ?_
    · refine fn_sound tryOrders (f33_c β.G) (by simp [f33]) ?_
      have hv1 := hv.one
      simp [f33, f33m, hv1]
      refine ACalls.use (w42 hv h8 (hsc _) hlen) ?_
      rintro e S' (⟨rfl, rfl, rfl⟩ | ⟨rfl, rfl⟩)
      · simp
        refine mwp_loop (I := fun n a S' => n = 0 ∧ get a 1 = .ptr S.length 0 0 ∧ get a 2 = .ptr (S.length + 1) 0 0 ∧ get a 10 = .int 0 ∧ get a 11 = .int 0 ∧ S' = S ++ [.cells 8 [[.int op, .int ty, .nilS, .int kind, .int num, .str str, .int tab, .int col]] (some 1), .cells 8 [zc] (some 1)]) (n := 0) ?_ ?_
        · simp [zc]
        rintro n a S' ⟨rfl, a1, a2, a10, a11, rfl⟩
        simp [f33b0, a1, a2, a10, a11, zc]
      · simp
        refine mwp_loop (I := fun n a S' => ∃ (i : Nat) (es' : List (List AVal)), n = es.length - i ∧ i ≤ es.length ∧ get a 1 = .ptr S.length 0 0 ∧ get a 2 = .ptr (S.length + 1) 0 0 ∧ get a 10 = .int es.length ∧ get a 11 = .int i ∧ es'.length = es.length ∧
          (∀ (j : Nat) (hj : j < args.length), Rep false args[j] (es'.getD j [])) ∧ (∀ j, i ≤ j → es'.getD j [] = es.getD j []) ∧
          S' = S ++ [.cells 8 [[.int op, .int ty, .row (S.length + 2) 0 es.length, .int kind, .int num, .str str, .int tab, .int col]] (some 1), .cells 8 [zc] (some 1), .cells 8 es' none]) (n := es.length) ?_ ?_
        · simp [zc]
          exact ⟨0, rfl, Nat.zero_le _, rfl, es, rfl, fun j hj => by simpa using (h j hj).weak, fun _ _ => rfl, rfl⟩
        rintro n a S' ⟨i, es', rfl, hi, a1, a2, a10, a11, hlen', hrep', hsame, rfl⟩
        by_cases hlt : i < es.length
        · have hi' : i < args.length := by omega
          have hri := h i hi'
          have e1 : es'[i]?.getD [] = es[i]?.getD [] := by simpa using hsame i (Nat.le_refl _)
          simp at hri
          have l8 := hri.len
          have hw : IntKind.i64.wrap ((i : Int) + 1) = ((i + 1 : Nat) : Int) := by rw [wrap64_in (by omega) (by omega)]; simp
          have hlt' : i < es'.length := by omega
          have e2 : es'[i] = es[i]?.getD [] := by rw [← e1, List.getElem?_eq_getElem hlt']; rfl
          simp [f33b0, a1, a10, a11, zc, hlt, hlt', e2]
          simp only [List.getElem?_eq_getElem hlt, Option.getD_some] at l8 hri
          simp [l8]
          have hsz := sizes_get args i hi'
          refine ACalls.use (ih args[i] (List.getElem_mem hi') _ _ hri (by simp only [Cd.size] at hsize; omega)) ?_
          rintro e S' ⟨es1, hr1, rfl, rfl⟩
          have h1 := hr1.ones
          have h2 := hr1.len
          simp [h1, h2, hlt, hlen', a1, a2, a10, a11]
          refine ⟨es.length - (i + 1), by omega, i + 1, rfl, by omega, hw, es'.set i es1, by simp [hlen'], fun j hj => ?_, fun j hj => ?_, rfl⟩
          · by_cases hij : i = j
            · subst hij; simpa [hlen', hlt] using hr1
            · have := hrep' j hj
              simpa [hij] using this
          · have : i ≠ j := by omega
            have := hsame j (by omega)
            simpa [‹i ≠ j›] using this
        · simp [f33b0, a1, a2, a10, a11, zc, hlt]
          exact ⟨hlen', fun j hj => by simpa using hrep' j hj⟩
    · rintro e S' (⟨rfl, rfl, g, rfl⟩ | ⟨es', o1, o2, hlen', hrep', rfl, rfl⟩)
      · refine .flat (by simp) (by simp) ⟨_, .mk op ty args kind num str tab col .nilS [] .nil hl ?_, rfl, rfl⟩
        intro i hi
        simp at hl; omega
      · have ht : es'.take es.length = es' := List.take_of_length_le (by omega)
        refine .frz (S.length + 2) 8 es' none (by simp) ?_
        refine .flat (by simp) ?_ ⟨_, .mk op ty args kind num str tab col (.list .unk es') es' (.list _ _ (by simp) (by simp)) (by omega) hrep', ?_, ?_⟩
        · simp [hlen', ht]
          refine scLL_iff.2 fun e he => ?_
          obtain ⟨i, hi, rfl⟩ := List.getElem_of_mem he
          have := (hrep' i (by omega)).sc S.length
          rwa [getD_eq _ _ _ hi] at this
        · simp [hlen', ht]
        · simp
end Go.Abs
