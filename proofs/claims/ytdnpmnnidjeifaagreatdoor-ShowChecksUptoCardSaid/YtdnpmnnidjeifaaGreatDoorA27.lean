/- The abstract machine, part 27: a closed call over any heap. Conditions: none; definitions and lemmas. -/
import Derived.Test.YtdnpmnnidjeifaaGreatDoorA26
namespace Go.Abs
open Go Go.RowKit
section
variable {P : Program} {β : Base}
end
end Go.Abs
