/- The abstract machine, part 34: a reading of plain data (bools, ints, texts, slices, structs) as abstract values. Conditions: none; definitions and lemmas. -/
import Derived.Test.YtdnpmnnidjeifaaGreatDoorA31
import Derived.WalkKit
import Derived.ProofKit
import Derived.OpenShut
import Derived.JoinedCond
set_option linter.unusedVariables false
namespace Go.Abs
open Go Go.RowKit
inductive Okv (P : Program) (B : Nat) : TypeId → List AVal → Prop
 | bool {t} (h : P.underlying t = some .bool) (b : Bool) : Okv P B t [.bool b]
 | int {t k} (h : P.underlying t = some (.int k)) (n : Int) (hn : (Lit.int k n).wf = true) : Okv P B t [.atom (.int k n)]
 | str {t} (h : P.underlying t = some .string) (s : List UInt8) (hs : s.length ≤ B) : Okv P B t [.str s]
 | nils {t e} (h : P.underlying t = some (.slice e)) : Okv P B t [.nilS]
 | slice {t e} (h : P.underlying t = some (.slice e)) (es : List (List AVal)) (hes : ∀ i, i < es.length → Okv P B e (es.getD i [])) (hk : ∀ i, i < es.length → (es.getD i []).length = P.cellsOf e) (hb : es.length * P.bytesOf e ≤ reachBytes) (hB : es.length ≤ B) : Okv P B t [.list .any es]
 | struct {t fs} (h : P.underlying t = some (.struct fs)) (parts : List (List AVal)) (hl : parts.length = fs.toList.length) (hp : ∀ i (hi : i < fs.toList.length), Okv P B (fs.toList[i]).type (parts.getD i [])) : Okv P B t parts.flatten
def tileB (P : Program) (n : Nat) : Nat → List Field → Bool
 | o, [] => decide (o = n)
 | o, f :: r => decide (f.offset = o) && tileB P n (o + P.cellsOf f.type) r
def closedB (P : Program) (ts : List TypeId) : Bool := ts.all fun t => match P.underlying t with
 | some .bool | some (.int _) | some .string => decide (P.cellsOf t = 1)
 | some (.slice e) => decide (P.cellsOf t = 1) && ts.contains e && decide (0 < P.cellsOf e) && decide (0 < P.bytesOf e)
 | some (.struct fs) => (fs.toList.all fun f => ts.contains f.type) && tileB P (P.cellsOf t) 0 fs.toList
 | _ => false
def WF (W : World) : Frz := fun b x => W.cell? ⟨b, x, none⟩
def RdC (W : World) (cs : List Value) (av : List AVal) : Prop := cs.length = av.length ∧ ∀ i, i < av.length → (cs.getD i undef).oneCell' = true ∧ Rel (WF W) (fun _ => none) (av.getD i .top) (cs.getD i undef)
theorem RdC.nil {W : World} : RdC W [] [] := ⟨rfl, fun i hi => by simp at hi⟩
theorem RdC.app {W : World} {c1 c2 : List Value} {a1 a2 : List AVal} (h1 : RdC W c1 a1) (h2 : RdC W c2 a2) : RdC W (c1 ++ c2) (a1 ++ a2) := by
 obtain ⟨l1, r1⟩ := h1
 obtain ⟨l2, r2⟩ := h2
 refine ⟨by simp [l1, l2], fun i hi => ?_⟩
 rcases Nat.lt_or_ge i a1.length with h | h
 ·have e1 : (c1 ++ c2).getD i undef = c1.getD i undef := by simp [List.getD_eq_getElem?_getD, List.getElem?_append_left (show i < c1.length by omega)]
  have e2 : (a1 ++ a2).getD i .top = a1.getD i .top := by simp [List.getD_eq_getElem?_getD, List.getElem?_append_left h]
  rw [e1, e2]; exact r1 i h
 ·have e1 : (c1 ++ c2).getD i undef = c2.getD (i - a1.length) undef := by simp [List.getD_eq_getElem?_getD, List.getElem?_append_right (show c1.length ≤ i by omega), l1]
  have e2 : (a1 ++ a2).getD i .top = a2.getD (i - a1.length) .top := by simp [List.getD_eq_getElem?_getD, List.getElem?_append_right h]
  rw [e1, e2]; exact r2 _ (by simp at hi; omega)
theorem RdC.one {W : World} {v : Value} {a : AVal} (h1 : v.oneCell' = true) (h : Rel (WF W) (fun _ => none) a v) : RdC W [v] [a] :=
 ⟨rfl, fun i hi => by
  have : i = 0 := by simp at hi; omega
  subst this
  exact ⟨h1, h⟩⟩
structure Meas {H : Type} (P : Program) (B : Nat) (Q : TypeId → DataW H → Prop) : Prop where
 str : ∀ {t bs}, Q t (.lit (.string bs)) → bs.length ≤ B
 sl : ∀ {t e} {xs ys : List (DataW H)}, P.underlying t = some (.slice e) → 0 < P.bytesOf e → Q t (.slice xs ys) → xs.length * P.bytesOf e ≤ reachBytes ∧ xs.length ≤ B ∧ ∀ x ∈ xs, Q e x
 ag : ∀ {t fs} {xs : List (DataW H)}, P.underlying t = some (.struct fs) → Q t (.agg xs) → ∀ i (hi : i < fs.toList.length) (hx : i < xs.length), Q (fs.toList[i]).type xs[i]
section
variable {H : Type} {enc : TypeId × Value → H} {P : Program} {W : World} {sp : Nat → Bool} {held : Bool}
theorem cells_spec {b : Nat} {a : Addr} {n : Nat} {cs : List Value} (h : W.cells? b a n = some cs) : cs.length = n ∧ ∀ i, i < n → W.cell? (a.add i) = some (cs.getD i undef) := by
 unfold World.cells? at h
 split at h
 ·have h1 := mapM_some_length h
  have h2 := mapM_some_get h
  simp at h1
  refine ⟨h1, fun i hi => ?_⟩
  rw [h2 i i (by simp [hi]), List.getD_eq_getElem?_getD, List.getElem?_eq_getElem (by omega)]; rfl
 ·cases h
abbrev Small (l : List Nat) : Prop := ∀ x ∈ l, x ≤ reachBytes
variable {B : Nat} {Q : TypeId → DataW H → Prop}
end
section
variable {P : Program} {B : Nat}
theorem Okv.at_bool {t av} (h : Okv P B t av) (hu : P.underlying t = some .bool) : ∃ b, av = [.bool b] := by
 cases h <;> simp_all
theorem Okv.at_int {t av k} (h : Okv P B t av) (hu : P.underlying t = some (.int k)) : ∃ n, av = [.atom (.int k n)] ∧ (Lit.int k n).wf = true := by
 cases h with
 | int h n hn => rw [hu] at h; cases h; exact ⟨n, rfl, hn⟩
 | _ => simp_all
theorem Okv.at_str {t av} (h : Okv P B t av) (hu : P.underlying t = some .string) : ∃ s, av = [.str s] ∧ s.length ≤ B := by
 cases h with
 | str h s hs => exact ⟨s, rfl, hs⟩
 | _ => simp_all
theorem Okv.at_slice {t av e} (h : Okv P B t av) (hu : P.underlying t = some (.slice e)) : ∃ v es, av = [v] ∧ (v = .nilS ∧ es = [] ∨ v = .list .any es) ∧ (∀ i, i < es.length → Okv P B e (es.getD i [])) ∧ es.length * P.bytesOf e ≤ reachBytes ∧ es.length ≤ B := by
 cases h with
 | nils h => exact ⟨_, [], rfl, .inl ⟨rfl, rfl⟩, fun i hi => by simp at hi, by simp, by simp⟩
 | slice h es hes hk hb hB => rw [hu] at h; cases h; exact ⟨_, es, rfl, .inr rfl, hes, hb, hB⟩
 | _ => simp_all
theorem Okv.at_struct {t av fs} (h : Okv P B t av) (hu : P.underlying t = some (.struct fs)) : ∃ parts : List (List AVal), av = parts.flatten ∧ parts.length = fs.toList.length ∧ ∀ i (hi : i < fs.toList.length), Okv P B (fs.toList[i]).type (parts.getD i []) := by
 cases h with
 | struct h parts hl hp => rw [hu] at h; cases h; exact ⟨parts, rfl, hl, hp⟩
 | _ => simp_all
theorem choose_list {α : Type} {p : Nat → α → Prop} : ∀ (n : Nat), (∀ i, i < n → ∃ x, p i x) → ∃ xs : List α, xs.length = n ∧ ∀ i (h : i < xs.length), p i xs[i]
 | 0, _ => ⟨[], rfl, fun i h => by simp at h⟩
 | n + 1, h => by
   obtain ⟨xs, h1, h2⟩ := choose_list n (fun i hi => h i (by omega))
   obtain ⟨x, hx⟩ := h n (by omega)
   refine ⟨xs ++ [x], by simp [h1], fun i hi => ?_⟩
   rcases Nat.lt_or_ge i xs.length with hlt | hge
   ·rw [List.getElem_append_left hlt]; exact h2 i hlt
   ·have : i = n := by simp at hi; omega
    subst this
    rw [List.getElem_append_right (by omega)]
    simpa [h1] using hx
theorem agg_of_okWide {W : World} {r : Reach} {base : Nat} {t : TypeId} {fs : Array Field} {v : Value} (hu : P.underlying t = some (.struct fs)) (h : Value.okWide P W r base t v) : ∃ cs, v = .agg cs := by
 unfold Value.okWide at h; rw [hu] at h; obtain ⟨cs, h, _⟩ := h; exact ⟨cs, h⟩
theorem RdC.agg {W : World} {cs : Array Value} {av : List AVal} (h : RdC W (Value.agg cs).cells.toList av) : Rel (WF W) (fun _ => none) (.agg av) (.agg cs) := by
 obtain ⟨hl, h⟩ := h
 have hl : cs.size = av.length := by simpa [Value.cells] using hl
 have hg : ∀ i, i < av.length → (Value.agg cs).cells.toList.getD i undef = cs.getD i undef := fun i hi => by simp [Value.cells]
 exact .agg _ _ hl.symm (fun i hi => by have := (h i hi).1; rwa [hg i hi] at this) (fun i hi => by have := (h i hi).2; rwa [hg i hi] at this)
end
end Go.Abs
