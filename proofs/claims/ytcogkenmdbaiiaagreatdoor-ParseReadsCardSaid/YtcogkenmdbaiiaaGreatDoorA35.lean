/- The abstract machine, part 35: it runs, with some calls known by their contracts, which may look at the heap. Conditions: none; definitions and lemmas. -/
import Derived.Test.YtcogkenmdbaiiaaGreatDoorA33
namespace Go.Abs
open Go Go.RowKit

/-- A call, run; some are known. -/
def callZ (ext : FuncId → List AVal → Heap → Option AVal) (tbl : FuncId → Option AFn) : Nat → CallX
  | 0, _, _, _ => none
  | n + 1, f, args, S => match ext f args S with
    | some v => some [(.ret v, S)]
    | none => match tbl f with
      | none => none
      | some fn => if args.length ≤ fn.nt then match execC (callZ ext tbl n) n fn.mc (enum 0 args) S with
        | none => none
        | some l => (resAll fn.res S l).map onceX
        else none

/-- A call that leaves all that was there as it was; it may look at what is there. -/
theorem ACalls.liftS {P : Program} {β : Base} {f : FuncId} {args : List AVal} {S : Heap} {v : AVal} (hcal : callable P f = true)
    (h : ∀ (F : Frz) (m : Pls) (vs : Array Value) (w : World), Sim β F m S w → RelL F m args vs → Calls P f vs w fun e w' => ∃ u, e = .returned u ∧ Rel F m v u ∧ Below w.heap.size w w') :
    ACalls P β f args S fun e S' => e = .ret v ∧ S' = S :=
  ⟨hcal, fun F m w vs hs hv => (h F m vs w hs hv).mono fun e w' ⟨u, he, hr, hb⟩ => by
    subst he
    exact ⟨.ret v, F, m, S, Ext.refl F m, hs.more hb, hr, rfl, rfl⟩⟩
end Go.Abs
