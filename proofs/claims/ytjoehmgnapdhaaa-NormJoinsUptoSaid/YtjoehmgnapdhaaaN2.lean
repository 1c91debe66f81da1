/- The walks of copied, SameCode and SameCodes: a copy is new memory that reads the same; two codes are told alike just if they are. Conditions: none; lemmas. -/
import Derived.Test.YtjoehmgnapdhaaaN1
namespace Go.Abs
open Go Go.RowKit Go.Proofs
variable {β : Base}

theorem sizes_mem : ∀ {l : List Cd} {c : Cd}, c ∈ l → c.size ≤ sizes l
  | d :: r, c, h => by
    rcases List.mem_cons.1 h with h | h
    · subst h; simp [sizes]
    · have := sizes_mem h; simp only [sizes]; omega

theorem w33 (c : Cd) : Spec33 β c := w33_of c fun d _hd => w33 d
termination_by c.size
decreasing_by
  cases c
  have := sizes_mem _hd
  simp only [Cd.size, Cd.args] at *
  omega

/-- A slice that can be read, frozen or an object. -/
inductive Rd (S : Heap) : AVal → List (List AVal) → Prop
  | list (fl : Fl) (es : List (List AVal)) : Rd S (.list fl es) es
  | row (id off len : Nat) (es : List (List AVal)) (cap : Option Nat) (h : S[id]? = some (.cells 8 es cap)) (hl : off + len ≤ es.length) : Rd S (.row id off len) ((es.drop off).take len)

theorem Fr.rd {b v es S} (h : Fr b v es) : Rd S v es := by
  cases h <;> exact .list _ _

theorem Rd.lenR {S v es} (h : Rd S v es) : lenR S v = .ok true (.int es.length) S := by
  cases h with
  | list fl => rfl
  | row id off len es cap h hl => have : ((es.drop off).take len).length = len := by simp; omega
                                  rw [this]; rfl

theorem Rd.elem {S v es} (h : Rd S v es) (h8 : ∀ e ∈ es, e.length = 8) {i : Nat} (hi : i < es.length) :
    ∃ p, iaddrR 8 S v (.int i) = .ok true p S ∧ loadR true 8 S p = .ok true (.agg (es.getD i [])) S := by
  cases h with
  | list fl =>
    have l8 : es[i].length = 8 := h8 _ (List.getElem_mem hi)
    refine ⟨.fptr es i 0, ?_, ?_⟩
    · simp [hi, l8]
    · simp [hi, l8]
  | row id off len es cap h hl =>
    have hlen : ((es.drop off).take len).length = len := by simp; omega
    have e1 : ((es.drop off).take len).getD i [] = es.getD (off + i) [] := by
      rw [getD_eq _ _ _ (by omega), getD_eq _ _ _ (by omega)]; simp
    have l8 : (es.getD (off + i) []).length = 8 := by
      rw [← e1, getD_eq _ _ _ hi]; exact h8 _ (List.getElem_mem hi)
    rw [e1]
    have h1 : off + i < es.length := by omega
    rw [getD_eq _ _ _ h1] at l8
    refine ⟨.ptr id (off + i) 0, ?_, ?_⟩
    · simp [h]; omega
    · simp [h, l8, h1]

def Spec34 (β : Base) (c : Cd) : Prop := ∀ d S cs ds, Rep false c cs → Rep false d ds → ACalls Try.prog β 34 [.agg cs, .agg ds] S fun e S' => S' = S ∧ ∃ b, e = .ret (.bool b) ∧ (b = true ↔ c = d)
def Spec20 (β : Base) (l : List Cd) : Prop := ∀ l' S v1 v2 es1 es2, l.length ≤ 1048576 → Rd S v1 es1 → Rd S v2 es2 → es1.length = l.length → es2.length = l'.length → (∀ (i : Nat) (h : i < l.length), Rep false l[i] (es1.getD i [])) → (∀ (i : Nat) (h : i < l'.length), Rep false l'[i] (es2.getD i [])) →
  ACalls Try.prog β 20 [v1, v2] S fun e S' => S' = S ∧ ∃ b, e = .ret (.bool b) ∧ (b = true ↔ l = l')

set_option maxHeartbeats 4000000 in
set_option maxRecDepth 20000 in
theorem w34_of (c : Cd) (hsz : c.args.length ≤ 1048576) (ih : Spec20 β c.args) : Spec34 β c := by
  intro d S cs ds hc hd
  cases hc with
  | mk op ty args kind num str tab col v es hv hl h =>
    cases hd with
    | mk op' ty' args' kind' num' str' tab' col' v' es' hv' hl' h' =>
      refine ACalls.close (R := fun e S' => (∃ g, S' = S ++ g) ∧ ∃ b, e = .ret (.bool b) ∧ (b = true ↔ Cd.mk op ty args kind num str tab col = Cd.mk op' ty' args' kind' num' str' tab' col')) ?_ ?_
      · refine fn_sound tryOrders (f34_c β.G) (by simp [f34]) ?_
        have hv1 := hv.one
        have hv2 := hv'.one
        by_cases h1 : op = op'
        rotate_left 1
        · have g : (op == op') = false := beq_eq_false_iff_ne.2 h1
          simp [f34, f34m, hv1, hv2, bne, g, h1]
        subst h1
        by_cases h2 : ty = ty'
        rotate_left 1
        · have g : (ty == ty') = false := beq_eq_false_iff_ne.2 h2
          simp [f34, f34m, hv1, hv2, bne, g, h2]
        subst h2
        by_cases h3 : kind = kind'
        rotate_left 1
        · have g : (kind == kind') = false := beq_eq_false_iff_ne.2 h3
          simp [f34, f34m, hv1, hv2, bne, g, h3]
        subst h3
        by_cases h4 : num = num'
        rotate_left 1
        · have g : (num == num') = false := beq_eq_false_iff_ne.2 h4
          simp [f34, f34m, hv1, hv2, bne, g, h4]
        subst h4
        by_cases h5 : str = str'
        rotate_left 1
        · simp [f34, f34m, hv1, hv2, h5]
        subst h5
        by_cases h6 : tab = tab'
        rotate_left 1
        · have g : (tab == tab') = false := beq_eq_false_iff_ne.2 h6
          simp [f34, f34m, hv1, hv2, bne, g, h6]
        subst h6
        by_cases h7 : col = col'
        rotate_left 1
        · have g : (col == col') = false := beq_eq_false_iff_ne.2 h7
          simp [f34, f34m, hv1, hv2, bne, g, h7]
        subst h7
        simp [f34, f34m, hv1, hv2]
        refine ACalls.use (ih args' _ v v' es es' hsz hv.rd hv'.rd hl hl' h h') ?_
        rintro e S' ⟨rfl, b, rfl, hb⟩
        simp only [Cd.args] at hb
        simp
        cases b <;> simp_all
      · rintro e S' ⟨⟨g, rfl⟩, b, rfl, hb⟩
        exact .flat (by simp) (by simp) ⟨rfl, b, rfl, hb⟩

theorem w20_of (l : List Cd) (ih : ∀ c ∈ l, Spec34 β c) : Spec20 β l := by
  intro l' S v1 v2 es1 es2 hlen r1 r2 hl1 hl2 h1 h2
  have h81 : ∀ e ∈ es1, e.length = 8 := fun e he => by
    obtain ⟨i, hi, rfl⟩ := List.getElem_of_mem he
    have := (h1 i (by omega)).len
    rwa [getD_eq _ _ _ hi] at this
  have h82 : ∀ e ∈ es2, e.length = 8 := fun e he => by
    obtain ⟨i, hi, rfl⟩ := List.getElem_of_mem he
    have := (h2 i (by omega)).len
    rwa [getD_eq _ _ _ hi] at this
  refine fn_sound tryOrders (f20_c β.G) (by simp [f20]) ?_
  by_cases hlen' : es1.length = es2.length
  rotate_left 1
  · have g : ((es1.length : Int) == (es2.length : Int)) = false := beq_eq_false_iff_ne.2 (by omega)
    simp [f20, f20m, r1.lenR, r2.lenR, bne, g]
    intro he
    subst he
    omega
  simp [f20, f20m, r1.lenR, r2.lenR, hlen']
  refine mwp_loop (I := fun n a S' => ∃ i : Nat, n = l.length - i ∧ i ≤ l.length ∧ get a 0 = v1 ∧ get a 1 = v2 ∧ get a 5 = .int i ∧ S' = S ∧ ∀ (j : Nat) (hj : j < i) (hj' : j < l.length) (hj2 : j < l'.length), l[j] = l'[j]) (n := l.length) ?_ ?_
  · exact ⟨0, rfl, Nat.zero_le _, rfl, rfl, rfl, rfl, fun j hj => by omega⟩
  rintro n a S' ⟨i, rfl, hi, a0, a1, a5, rfl, hsame⟩
  by_cases hlt : i < l.length
  · have hlt1 : i < es1.length := by omega
    have hlt2 : i < es2.length := by omega
    obtain ⟨p1, q1, q2⟩ := r1.elem h81 hlt1
    obtain ⟨p2, q3, q4⟩ := r2.elem h82 hlt2
    simp [f20b0, a0, a1, a5, r1.lenR, hlt1, hlt2, q1, q2, q3, q4]
    have k1 := h1 i hlt
    have k2 := h2 i (by omega)
    simp only [getD_eq _ _ _ hlt1, getD_eq _ _ _ hlt2] at k1 k2
    refine ACalls.use (ih l[i] (List.getElem_mem hlt) l'[i] _ _ _ k1 k2) ?_
    rintro e S2 ⟨rfl, b, rfl, hb⟩
    cases b with
    | false =>
      simp
      intro he
      subst he
      simp at hb
    | true =>
      have hw : IntKind.i64.wrap ((i : Int) + 1) = ((i + 1 : Nat) : Int) := by rw [wrap64_in (by omega) (by omega)]; simp
      simp [a0, a1, a5, hw]
      refine ⟨l.length - (i + 1), by omega, i + 1, rfl, by omega, by simp, fun j hj hj' hj2 => ?_⟩
      rcases Nat.lt_or_ge j i with h | h
      · exact hsame j h hj' hj2
      · have : j = i := by omega
        subst this
        exact hb.1 rfl
  · have hge : ¬ i < es1.length := by omega
    simp [f20b0, a0, a5, r1.lenR, hge]
    refine List.ext_getElem (by omega) fun j hj hj2 => hsame j (by omega) hj hj2

theorem w34 (c : Cd) (hc : c.size ≤ 1048576) : Spec34 β c := by
  have hl : c.args.length ≤ 1048576 := by
    cases c with
    | mk op ty args kind num str tab col => have := sizes_len args; simp only [Cd.size, Cd.args] at *; omega
  exact w34_of c hl (w20_of _ fun d hd => w34 d (by
    cases c with
    | mk op ty args kind num str tab col => have := sizes_mem hd; simp only [Cd.size, Cd.args] at *; omega))
termination_by c.size
decreasing_by
  cases c
  have := sizes_mem hd
  simp only [Cd.size, Cd.args] at *
  omega

theorem w20 (l : List Cd) (hl : ∀ c ∈ l, c.size ≤ 1048576) : Spec20 β l := w20_of l fun c hc => w34 c (hl c hc)
end Go.Abs
