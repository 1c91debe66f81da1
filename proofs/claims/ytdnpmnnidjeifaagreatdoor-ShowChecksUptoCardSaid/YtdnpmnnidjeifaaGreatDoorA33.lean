/- The abstract machine, part 33: a closed call that gives a value without slices, over any heap. Conditions: none; definitions and lemmas. -/
import Derived.Test.YtdnpmnnidjeifaaGreatDoorA31
import Derived.Test.YtdnpmnnidjeifaaGreatDoorA32
namespace Go.Abs
open Go Go.RowKit
mutual
def AVal.solid : AVal → Bool
 | .atom _ => true
 | .str _ => true
 | .agg cs => solidL cs
 | .tuple cs => solidL cs
 | .iface _ v => v.solid
 | _ => false
def solidL : List AVal → Bool
 | [] => true
 | x :: r => x.solid && solidL r
end
theorem solidL_iff : ∀ {l : List AVal}, solidL l = true ↔ ∀ x ∈ l, x.solid = true
 | [] => by simp [solidL]
 | x :: r => by simp [solidL, solidL_iff (l := r)]
theorem solidL_get {l : List AVal} (h : solidL l = true) (i : Nat) (hi : i < l.length) : (l.getD i .top).solid = true := by
 rw [getD_eq _ _ _ hi]; exact solidL_iff.1 h _ (List.getElem_mem hi)
theorem Rel.solid {F m F' m'} {a : AVal} {v : Value} (h : Rel F m a v) (hs : a.solid = true) : Rel F' m' a v := by
 induction h with
 | atom v => exact .atom v
 | str l => exact .str l
 | agg cs vs hl h1 _ ih => exact .agg cs vs hl h1 fun i hi => ih i hi (solidL_get (by simpa [AVal.solid] using hs) i hi)
 | tuple cs vs hl _ ih => exact .tuple cs vs hl fun i hi => ih i hi (solidL_get (by simpa [AVal.solid] using hs) i hi)
 | iface t a v _ ih => exact .iface t a v (ih (by simpa [AVal.solid] using hs))
 | _ => simp [AVal.solid] at hs
section
variable {P : Program} {β : Base}
theorem ACalls.frameV {f args S} {v : AVal} (hG : ∀ g, (β.G g).sc 0 = true) (ha : scL 0 args = true) (hv : v.solid = true) (h : ∀ w0, ACalls P ⟨w0, β.G⟩ f args [] fun e S' => e = .ret v ∧ S' = []) :
  ACalls P β f args S fun e S' => e = .ret v ∧ S' = S := by
 refine ⟨(h default).1, fun F m w vs hs hv' => ?_⟩
 have hs0 : Sim ⟨w, β.G⟩ F (fun _ => none) [] w :=
  ⟨Below.refl _ _, fun g => (hs.glob g).cut (n := 0) (fun id p h => absurd h (by omega)) (hG g), hs.agree, fun id o h => by simp at h, fun id id' o o' p p' h => by simp at h, fun _ _ => rfl⟩
 have hv0 : RelL F (fun _ => none) args vs := ⟨hv'.1, fun i hi => (hv'.2 i hi).cut (n := 0) (fun id p h => absurd h (by omega)) (scL_get.1 ha i hi)⟩
 refine ((h w).2 F _ w vs hs0 hv0).mono fun e w' ⟨ae, F', m', S', he, hs', hrel, hR⟩ => ?_
 obtain ⟨rfl, rfl⟩ := hR
 have hb : Below w.heap.size w w' := hs'.below
 refine ⟨.ret v, F, m, S, Ext.refl F m, hs.more hb, ?_, rfl, rfl⟩
 cases e with
 | returned u => exact (show Rel F' m' v u from hrel).solid hv
 | _ => exact hrel.elim
end
section
variable {S : Heap} {a : Tmps} {x y : MOpd} {k n : Nat} {t : EqT} {p q : Int} {kd kd' : IntKind}
@[simp] theorem run_iaddrA : (MOp.iaddrA n k x y).run S a = (match asI (ev a y) with
  | some q => match addOff (q.toNat * k) S (ev a x) with
    | .ok s v S' => .ok (s && decide (0 ≤ q ∧ q < n)) v S'
    | r => r
  | none => .fail) := (rfl)
@[simp] theorem bin_addK : binR .add t (.atom (.int kd p)) (.atom (.int kd q)) S = .ok true (.atom (.int kd (kd.wrap (p + q)))) S := by simp [binR]
@[simp] theorem bin_subK : binR .sub t (.atom (.int kd p)) (.atom (.int kd q)) S = .ok true (.atom (.int kd (kd.wrap (p - q)))) S := by simp [binR]
@[simp] theorem bin_mulK : binR .mul t (.atom (.int kd p)) (.atom (.int kd q)) S = .ok true (.atom (.int kd (kd.wrap (p * q)))) S := by simp [binR]
@[simp] theorem conv_toInt : convR (.toInt kd) (.atom (.int kd' p)) S = .ok true (.atom (.int kd (kd.wrap p))) S := (rfl)
@[simp] theorem conv_strBytes {l : List UInt8} : convR .strBytes (.str l) S = .ok true (.row S.length 0 l.length) (S ++ [.cells 1 (l.map u8) none]) := (rfl)
theorem bytesOf_map : ∀ (l : List UInt8), bytesOf (l.map u8) = some l
 | [] => rfl
 | b :: r => by
   have : byteOf (u8 b) = some b := by simp [u8, byteOf]
   rw [List.map_cons, bytesOf, this, bytesOf_map r]
theorem conv_bytesStr {v : AVal} {side : Bool} {l : List UInt8} (h : elemsOf S v = some (side, l.map u8)) : convR .bytesStr v S = .ok side (.str l) S := by
 simp only [convR, h, bytesOf_map]
theorem u8_get (l : List UInt8) (i : Nat) (h : i < l.length) : (l.map u8).getD i [] = [.atom (.int .u8 l[i].toNat)] := by
 rw [getD_eq _ _ _ (by simpa using h)]; simp [u8]
theorem Rk.byte {S v} {l : List UInt8} (h : Rk 1 S v (l.map u8)) {i : Nat} (hi : i < l.length) : ∃ p, iaddrR 1 S v (.int i) = .ok true p S ∧ loadR false 1 S p = .ok true (.atom (.int .u8 l[i].toNat)) S := by
 obtain ⟨p, h1, h2, _⟩ := h.elem (i := i) (by simpa using hi) (by rw [u8_get _ _ hi]; rfl)
 refine ⟨p, h1, ?_⟩
 rw [h2 false 1 (Nat.le_refl _), u8_get _ _ hi]; rfl
theorem Rk.elems {k S v es} (h : Rk k S v es) : elemsOf S v = some (true, es) := by
 cases h with
 | list fl => rfl
 | nils => rfl
 | row id off len es cap h hl => simp [h]; omega
end
section
variable {N : Nat} {S0 S : Heap} {L : List (AVal × Nat × List (List AVal))}
end
end Go.Abs
