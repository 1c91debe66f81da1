/- The abstract machine, part 27: a closed call over any heap. Conditions: none; definitions and lemmas. -/
import Derived.Test.YtdnpmnnidjeifaaGreatDoorA26
namespace Go.Abs
open Go Go.RowKit
section
variable {P : Program} {β : Base}
theorem ACalls.frame {f args S} {v : Value} (hG : ∀ g,(β.G g).sc 0 = true) (ha : scL 0 args = true) (h : ∀ w0,ACalls P ⟨w0,β.G⟩ f args [] fun e S' => e = .ret (.atom v) ∧ S' = []) :
  ACalls P β f args S fun e S' => e = .ret (.atom v) ∧ S' = S := by
 refine ⟨(h default).1,fun F m w vs hs hv => ?_⟩
 have hs0 : Sim ⟨w,β.G⟩ F (fun _ => none) [] w :=
  ⟨Below.refl _ _,fun g => (hs.glob g).cut (n := 0) (fun id p h => absurd h (by omega)) (hG g),hs.agree,fun id o h => by simp at h,fun id id' o o' p p' h => by simp at h,fun _ _ => rfl⟩
 have hv0 : RelL F (fun _ => none) args vs := ⟨hv.1,fun i hi => (hv.2 i hi).cut (n := 0) (fun id p h => absurd h (by omega)) (scL_get.1 ha i hi)⟩
 refine ((h w).2 F _ w vs hs0 hv0).mono fun e w' ⟨ae,F',m',S',he,hs',hrel,hR⟩ => ?_
 obtain ⟨rfl,rfl⟩ := hR
 have hb : Below w.heap.size w w' := hs'.below
 refine ⟨.ret (.atom v),F,m,S,Ext.refl F m,hs.more hb,?_,rfl,rfl⟩
 cases e with
 | returned u => have := (show Rel F' m' (.atom v) u from hrel).atom_eq; subst this; exact .atom _
 | _ => exact hrel.elim
end
end Go.Abs
