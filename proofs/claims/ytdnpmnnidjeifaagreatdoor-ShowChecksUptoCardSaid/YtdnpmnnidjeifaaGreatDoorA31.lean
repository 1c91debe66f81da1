/- The abstract machine, part 31: slices that can be read; rows of one's own. Conditions: none; definitions and lemmas. -/
import Derived.Test.YtdnpmnnidjeifaaGreatDoorA27
namespace Go.Abs
open Go Go.RowKit
def ints (l : List Int) : List (List AVal) := l.map fun i => [.int i]
@[simp] theorem ints_len (l : List Int) : (ints l).length = l.length := by simp [ints]
theorem ints_get (l : List Int) (i : Nat) (h : i < l.length) : (ints l).getD i [] = [.int l[i]] := by
 rw [getD_eq _ _ _ (by simpa using h)]; simp [ints]
inductive Rk (k : Nat) (S : Heap) : AVal → List (List AVal) → Prop
 | list (fl : Fl) (es : List (List AVal)) : Rk k S (.list fl es) es
 | nils : Rk k S .nilS []
 | row (id off len : Nat) (es : List (List AVal)) (cap : Option Nat) (h : S[id]? = some (.cells k es cap)) (hl : off + len ≤ es.length) : Rk k S (.row id off len) ((es.drop off).take len)
theorem Rk.lenR {k S v es} (h : Rk k S v es) : lenR S v = .ok true (.int es.length) S := by
 cases h with
 | list fl => rfl
 | nils => rfl
 | row id off len es cap h hl => have : ((es.drop off).take len).length = len := by simp; omega
                                 rw [this]; rfl
theorem Rk.more {k S v es} (h : Rk k S v es) (g : Heap) : Rk k (S ++ g) v es := by
 cases h with
 | list fl => exact .list _ _
 | nils => exact .nils
 | row id off len es cap h hl =>
   have hlt : id < S.length := by
    rcases Nat.lt_or_ge id S.length with h' | h'
    ·exact h'
    ·simp [List.getElem?_eq_none h'] at h
   exact .row _ _ _ _ cap (by rw [List.getElem?_append_left hlt]; exact h) hl
theorem Rk.elem {k S v es} (h : Rk k S v es) {i : Nat} (hi : i < es.length) (hk : (es.getD i []).length = k) :
  ∃ p, iaddrR k S v (.int i) = .ok true p S ∧ (∀ agg m, m ≤ k → loadR agg m S p = .ok true (takeAt agg m (es.getD i []) 0) S) ∧
   ∀ off, ∃ p', addOff off S p = .ok true p' S ∧ ∀ agg m, off + m ≤ k → loadR agg m S p' = .ok true (takeAt agg m (es.getD i []) off) S := by
 cases h with
 | list fl =>
   have hk' : es[i].length = k := by rwa [getD_eq _ _ _ hi] at hk
   refine ⟨.fptr es i 0, by simp [hi, hk'], fun agg m hm => by simp [hi, hk', hm], fun off => ⟨.fptr es i (0 + off), by simp, fun agg m hm => by simp [hi, hk', hm]⟩⟩
 | nils => simp at hi
 | row id off len es cap h hl =>
   have hlen : ((es.drop off).take len).length = len := by simp; omega
   have e1 : ((es.drop off).take len).getD i [] = es.getD (off + i) [] := by
    rw [getD_eq _ _ _ (by omega), getD_eq _ _ _ (by omega)]; simp
   rw [e1] at hk ⊢
   have h1 : off + i < es.length := by omega
   have hk' : es[off + i].length = k := by rwa [getD_eq _ _ _ h1] at hk
   refine ⟨.ptr id (off + i) 0, ?_, fun agg m hm => by simp [h, h1, hk', hm], fun o => ⟨.ptr id (off + i) (0 + o), by simp, fun agg m hm => by simp [h, h1, hk', hm]⟩⟩
   simp [h]; omega
theorem wrapS (i : Nat) (h : i < 4611686018427387904) : IntKind.i64.wrap ((i : Int) + 1) = ((i + 1 : Nat) : Int) := by rw [wrap64_in (by omega) (by omega)]; simp
theorem not_mem_take_succ {α : Type} {l : List α} {i : Nat} {x : α} (h : x ∉ l.take i) (hi : i < l.length) (hx : l[i] ≠ x) : x ∉ l.take (i + 1) := by
 rw [List.take_add_one, List.getElem?_eq_getElem hi]
 simp only [Option.toList_some, List.mem_append, List.mem_singleton, not_or]
 exact ⟨h, fun e => hx e.symm⟩
inductive Ap (N k : Nat) (S : Heap) : AVal → List (List AVal) → Prop
 | none (fl : Fl) (h : fl = .nil ∨ fl = .full) : Ap N k S (.list fl []) []
 | row (id off len : Nat) (es : List (List AVal)) (cap : Option Nat) (hN : N ≤ id) (h : S[id]? = some (.cells k es cap)) (hl : off + len ≤ es.length) : Ap N k S (.row id off len) ((es.drop off).take len)
theorem Ap.rk {N k S v es} (h : Ap N k S v es) : Rk k S v es := by
 cases h with
 | none fl h => exact .list _ _
 | row id off len es cap hN h hl => exact .row _ _ _ _ cap h hl
theorem lt_of_some {S : Heap} {id : Nat} {o : AObj} (h : S[id]? = some o) : id < S.length := (List.getElem?_eq_some_iff.1 h).1
structure Own (N : Nat) (S0 S : Heap) (L : List (AVal × Nat × List (List AVal))) : Prop where
 le : N ≤ S.length
 low : ∀ j, j < N → S[j]? = S0[j]?
 ap : ∀ (i : Nat) v k es, L[i]? = some (v, k, es) → Ap N k S v es
 sep : ∀ (i j : Nat) id o l o' l' k es k' es', L[i]? = some (.row id o l, k, es) → L[j]? = some (.row id o' l', k', es') → i = j
section
variable {N : Nat} {S0 S : Heap} {L : List (AVal × Nat × List (List AVal))}
theorem Own.rk (h : Own N S0 S L) (i : Nat) {v k es} (hi : L[i]? = some (v, k, es)) : Rk k S v es := (h.ap i v k es hi).rk
theorem Own.start (S : Heap) : Own S.length S S [] := ⟨Nat.le_refl _, fun _ _ => rfl, fun i v k es h => by simp at h, fun i j id o l o' l' k es k' es' h => by simp at h⟩
theorem Ap.more {k v es} (h : Ap N k S v es) (g : Heap) : Ap N k (S ++ g) v es := by
 cases h with
 | none fl h => exact .none fl h
 | row id off len es cap hN h hl => exact .row id off len es cap hN (by rw [List.getElem?_append_left (lt_of_some h)]; exact h) hl
theorem Own.more (h : Own N S0 S L) (g : Heap) : Own N S0 (S ++ g) L :=
 ⟨by have := h.le; simp; omega, fun j hj => by rw [List.getElem?_append_left (by have := h.le; omega)]; exact h.low j hj, fun i v k es hi => (h.ap i v k es hi).more g, h.sep⟩
theorem Own.add (h : Own N S0 S L) (k : Nat) (es : List (List AVal)) (cap : Option Nat) : Own N S0 (S ++ [.cells k es cap]) (L ++ [(.row S.length 0 es.length, k, es)]) := by
 have hm := h.more [.cells k es cap]
 refine ⟨hm.le, hm.low, fun i v k' es' hi => ?_, fun i j id o l o' l' k1 es1 k2 es2 hi hj => ?_⟩
 ·rcases Nat.lt_or_ge i L.length with hlt | hge
  ·rw [List.getElem?_append_left hlt] at hi; exact hm.ap i v k' es' hi
  ·rw [List.getElem?_append_right hge] at hi
   rcases Nat.eq_zero_or_pos (i - L.length) with h0 | h0
   ·rw [h0] at hi
    simp only [List.getElem?_cons_zero, Option.some.injEq, Prod.mk.injEq] at hi
    obtain ⟨rfl, rfl, rfl⟩ := hi
    have := Ap.row (N := N) (k := k) (S := S ++ [.cells k es cap]) S.length 0 es.length es cap h.le (by simp) (by simp)
    simpa using this
   ·rw [List.getElem?_eq_none (by simp; omega)] at hi; cases hi
 ·have old : ∀ (q : Nat) o l kk ee, L[q]? = some (.row id o l, kk, ee) → id < S.length := fun q o l kk ee hq => by
   cases h.ap q _ _ _ hq with
   | row _ _ _ es cap hN h hl => exact lt_of_some h
  rcases Nat.lt_or_ge i L.length with h1 | h1 <;> rcases Nat.lt_or_ge j L.length with h2 | h2
  ·rw [List.getElem?_append_left h1] at hi; rw [List.getElem?_append_left h2] at hj
   exact h.sep i j id o l o' l' _ _ _ _ hi hj
  ·rw [List.getElem?_append_left h1] at hi; rw [List.getElem?_append_right h2] at hj
   rcases Nat.eq_zero_or_pos (j - L.length) with h0 | h0
   ·rw [h0] at hj
    simp only [List.getElem?_cons_zero, Option.some.injEq, Prod.mk.injEq, AVal.row.injEq] at hj
    have := old i _ _ _ _ hi
    omega
   ·rw [List.getElem?_eq_none (by simp; omega)] at hj; cases hj
  ·rw [List.getElem?_append_right h1] at hi; rw [List.getElem?_append_left h2] at hj
   rcases Nat.eq_zero_or_pos (i - L.length) with h0 | h0
   ·rw [h0] at hi
    simp only [List.getElem?_cons_zero, Option.some.injEq, Prod.mk.injEq, AVal.row.injEq] at hi
    have := old j _ _ _ _ hj
    omega
   ·rw [List.getElem?_eq_none (by simp; omega)] at hi; cases hi
  ·rw [List.getElem?_append_right h1] at hi; rw [List.getElem?_append_right h2] at hj
   have e1 : i - L.length = 0 := by
    rcases Nat.eq_zero_or_pos (i - L.length) with h0 | h0
    ·exact h0
    ·rw [List.getElem?_eq_none (by simp; omega)] at hi; cases hi
   have e2 : j - L.length = 0 := by
    rcases Nat.eq_zero_or_pos (j - L.length) with h0 | h0
    ·exact h0
    ·rw [List.getElem?_eq_none (by simp; omega)] at hj; cases hj
   omega
theorem Own.add0 (h : Own N S0 S L) (k : Nat) (fl : Fl) (hfl : fl = .nil ∨ fl = .full) : Own N S0 S (L ++ [(.list fl [], k, [])]) := by
 refine ⟨h.le, h.low, fun i v k' es' hi => ?_, fun i j id o l o' l' k1 es1 k2 es2 hi hj => ?_⟩
 ·rcases Nat.lt_or_ge i L.length with hlt | hge
  ·rw [List.getElem?_append_left hlt] at hi; exact h.ap i v k' es' hi
  ·rw [List.getElem?_append_right hge] at hi
   rcases Nat.eq_zero_or_pos (i - L.length) with h0 | h0
   ·rw [h0] at hi
    simp only [List.getElem?_cons_zero, Option.some.injEq, Prod.mk.injEq] at hi
    obtain ⟨rfl, rfl, rfl⟩ := hi
    exact .none fl hfl
   ·rw [List.getElem?_eq_none (by simp; omega)] at hi; cases hi
 ·have inL : ∀ (q : Nat) o l kk ee, (L ++ [(AVal.list fl [], k, ([] : List (List AVal)))])[q]? = some (.row id o l, kk, ee) → L[q]? = some (.row id o l, kk, ee) := fun q o l kk ee hq => by
   rcases Nat.lt_or_ge q L.length with hlt | hge
   ·rwa [List.getElem?_append_left hlt] at hq
   ·rw [List.getElem?_append_right hge] at hq
    rcases Nat.eq_zero_or_pos (q - L.length) with h0 | h0
    ·rw [h0] at hq; simp at hq
    ·rw [List.getElem?_eq_none (by simp; omega)] at hq; cases hq
  exact h.sep i j id o l o' l' _ _ _ _ (inL _ _ _ _ _ hi) (inL _ _ _ _ _ hj)
theorem Own.turn (h : Own N S0 S L) {i : Nat} {v k es} (hi : L[i]? = some (v, k, es)) {S' : Heap} {v' : AVal} {es' : List (List AVal)} (hle : S.length ≤ S'.length)
  (hsame : ∀ j, j < S.length → (∀ o l, v ≠ .row j o l) → S'[j]? = S[j]?) (hap : Ap N k S' v' es') (hv' : ∀ id o l, v' = .row id o l → S.length ≤ id ∨ ∃ o l, v = .row id o l) : Own N S0 S' (L.set i (v', k, es')) := by
 have hiL : i < L.length := by
  rcases Nat.lt_or_ge i L.length with h' | h'
  ·exact h'
  ·rw [List.getElem?_eq_none h'] at hi; cases hi
 have hcase : ∀ (q : Nat) x, (L.set i (v', k, es'))[q]? = some x → (q = i ∧ x = (v', k, es')) ∨ (q ≠ i ∧ L[q]? = some x) := fun q x hq => by
  by_cases hqi : i = q
  ·subst hqi
   rw [List.getElem?_set_self hiL] at hq
   exact .inl ⟨rfl, (Option.some.inj hq).symm⟩
  ·rw [List.getElem?_set_ne hqi] at hq
   exact .inr ⟨fun e => hqi e.symm, hq⟩
 have hrow : ∀ (q : Nat) id o l kk ee, L[q]? = some (.row id o l, kk, ee) → N ≤ id ∧ id < S.length := fun q id o l kk ee hq => by
  cases h.ap q _ _ _ hq with
  | row _ _ _ es cap hN h hl => exact ⟨hN, lt_of_some h⟩
 refine ⟨Nat.le_trans h.le hle, fun j hj => ?_, fun q u kk ee hq => ?_, fun p q id o l o' l' k1 e1 k2 e2 hp hq => ?_⟩
 ·rw [hsame j (by have := h.le; omega) fun o l e => ?_]
  ·exact h.low j hj
  ·subst e; have := (hrow i _ _ _ _ _ hi).1; omega
 ·rcases hcase q _ hq with ⟨rfl, hx⟩ | ⟨hne, hx⟩
  ·simp only [Prod.mk.injEq] at hx
   obtain ⟨rfl, rfl, rfl⟩ := hx
   exact hap
  ·have := h.ap q u kk ee hx
   cases this with
   | none fl hf => exact .none fl hf
   | row id off len es0 cap hN hS hl =>
     refine .row id off len es0 cap hN ?_ hl
     rw [hsame id (lt_of_some hS) fun o l e => ?_]
     ·exact hS
     ·subst e; exact hne (h.sep q i id _ _ _ _ _ _ _ _ hx hi)
 ·rcases hcase p _ hp with ⟨rfl, hx⟩ | ⟨hne, hx⟩ <;> rcases hcase q _ hq with ⟨rfl, hy⟩ | ⟨hne', hy⟩
  ·rfl
  ·simp only [Prod.mk.injEq] at hx
   rcases hv' id o l hx.1.symm with hge | ⟨o2, l2, e⟩
   ·have := (hrow q _ _ _ _ _ hy).2; omega
   ·subst e; exact absurd (h.sep q p id _ _ _ _ _ _ _ _ hy hi) hne'
  ·simp only [Prod.mk.injEq] at hy
   rcases hv' id o' l' hy.1.symm with hge | ⟨o2, l2, e⟩
   ·have := (hrow p _ _ _ _ _ hx).2; omega
   ·subst e; exact absurd (h.sep p q id _ _ _ _ _ _ _ _ hx hi) hne
  ·exact h.sep p q id o l o' l' _ _ _ _ hx hy
theorem Own.app (h : Own N S0 S L) (i : Nat) {v k es} (hi : L[i]? = some (v, k, es)) {y : AVal} {ys : List (List AVal)} {bytes : Nat} (hy : srcOf S y = some (true, ys)) (hk : ∀ e ∈ ys, e.length = k) (hk0 : 0 < k)
  (hb : (es.length + ys.length) * bytes ≤ 140737488355328) (hb' : es.length + ys.length ≤ 4611686018427387903) :
  ∃ S', appendR k bytes S v y = .ok true (.row S.length 0 (es.length + ys.length)) S' ∧ Own N S0 S' (L.set i (.row S.length 0 (es.length + ys.length), k, es ++ ys)) ∧ S.length < S'.length := by
 have hap := h.ap i v k es hi
 cases hap with
 | none fl hf =>
   refine ⟨S ++ [.cells k ys none], ?_, ?_, by simp⟩
   ·simp only [List.length_nil, Nat.zero_add] at hb hb'
    simp only [appendR, hy]
    rcases hf with rfl | rfl <;> simp [hk0, hb, hb'] <;> exact fun e he => hk e he
   ·refine h.turn hi (by simp) (fun j hj _ => by rw [List.getElem?_append_left hj]) ?_ (fun id o l e => .inl (by simp only [AVal.row.injEq] at e; omega))
    have := Ap.row (N := N) (k := k) (S := S ++ [.cells k ys none]) S.length 0 ys.length ys none h.le (by simp) (by simp)
    simpa using this
 | row id off len es0 cap hN hS hl =>
   have hlen : ((es0.drop off).take len).length = len := by simp; omega
   rw [hlen] at hb hb' ⊢
   refine ⟨S.set id .dead ++ [.cells k ((es0.drop off).take len ++ ys) none], ?_, ?_, by simp⟩
   ·simp only [appendR, hy, hS]
    simp [hk0, hb, hb', hl]
    exact fun e he => hk e he
   ·refine h.turn hi (by simp) (fun j hj hne => ?_) ?_ (fun id' o l e => .inl (by simp only [AVal.row.injEq] at e; omega))
    ·rw [List.getElem?_append_left (by simpa using hj), List.getElem?_set_ne (fun e => hne off len (by rw [e]))]
    ·have hl' : ((es0.drop off).take len ++ ys).length = len + ys.length := by rw [List.length_append, hlen]
     have := Ap.row (N := N) (k := k) (S := S.set id .dead ++ [.cells k ((es0.drop off).take len ++ ys) none]) S.length 0 (len + ys.length) ((es0.drop off).take len ++ ys) none h.le (by rw [List.getElem?_append_right (by simp)]; simp) (by omega)
     rw [List.drop_zero, ← hl', List.take_length] at this
     rw [← hl']; exact this
end
end Go.Abs
