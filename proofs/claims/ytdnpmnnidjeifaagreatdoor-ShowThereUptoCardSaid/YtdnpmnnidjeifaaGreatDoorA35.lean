/- The abstract machine, part 35: it runs, with some calls known by their contracts, which may look at the heap. Conditions: none; definitions and lemmas. -/
import Derived.Test.YtdnpmnnidjeifaaGreatDoorA33
namespace Go.Abs
open Go Go.RowKit
theorem ACalls.liftS {P : Program} {β : Base} {f : FuncId} {args : List AVal} {S : Heap} {v : AVal} (hcal : callable P f = true)
  (h : ∀ (F : Frz) (m : Pls) (vs : Array Value) (w : World),Sim β F m S w → RelL F m args vs → Calls P f vs w fun e w' => ∃ u,e = .returned u ∧ Rel F m v u ∧ Below w.heap.size w w') :
  ACalls P β f args S fun e S' => e = .ret v ∧ S' = S :=
 ⟨hcal,fun F m w vs hs hv => (h F m vs w hs hv).mono fun e w' ⟨u,he,hr,hb⟩ => by
  subst he
  exact ⟨.ret v,F,m,S,Ext.refl F m,hs.more hb,hr,rfl,rfl⟩⟩
end Go.Abs
