/- The abstract machine, part 35: it runs, with some calls known by their contracts, which may look at the heap. Conditions: none; definitions and lemmas. -/
import Derived.Test.YtcogkenmdbaiiaaGreatDoorA33
namespace Go.Abs
open Go Go.RowKit

/-- A call, run; some are known. -/
def callZ (ext : FuncId → List AVal → Heap → Option AVal) (tbl : FuncId → Option AFn) : Nat → CallX
  | 0, _, _, _ => none
  | n + 1, f, args, S => match ext f args S with
    | some v => some [(.ret v, S)]
    | none => match tbl f with
      | none => none
      | some fn => if args.length ≤ fn.nt then match execC (callZ ext tbl n) n fn.mc (enum 0 args) S with
        | none => none
        | some l => (resAll fn.res S l).map onceX
        else none

end Go.Abs
