/- Written by Show.lean: functions of the seat Ytjoehmgnapdhaaa, translated; the checks. Conditions: none. -/
import Derived.Test.YtjoehmgnapdhaaaA25
import Derived.Test.YtjoehmgnapdhaaaProg
import Derived.KernelRfl
set_option linter.unusedVariables false
namespace Go.Abs
open Go Go.RowKit Go.Proofs

def f38b0 (G : Nat → AVal) : MC :=
  .seq (.ops [⟨some 9, none, .op (.bin .lss .int 8 7)⟩])
  (.seq (.cond 9
   (.skip)
   (.exit 0))
  (.seq (.block 1
   (.seq (.ops [⟨some 10, none, .op (.mv 8)⟩,
     ⟨some 5, none, .op (.mv 10)⟩])
   (.seq (.ops [⟨some 11, none, .op (.mv 1)⟩,
     ⟨some 12, none, .op (.mv 0)⟩,
     ⟨some 13, none, .op (.mv 5)⟩,
     ⟨some 14, none, .op (.iaddr 2 12 13)⟩,
     ⟨some 15, none, .op (.load true 2 14)⟩,
     ⟨some 16, none, .callV 11 [15]⟩])
   (.cond 16
    (.seq (.ops [⟨some 17, none, .op (.mv 5)⟩,
      ⟨some 4, none, .op (.mv 17)⟩])
    (.ret))
    (.skip)))))
  (.ops [⟨some 18, none, .op (.bin .add .int 8 (.val (.int 1)))⟩,
    ⟨some 8, none, .op (.mv 18)⟩])))

def f38m (G : Nat → AVal) : MC :=
  .seq (.ops [⟨some 4, none, .op (.mv (.val (.int 0)))⟩])
  (.seq (.seq (.ops [⟨some 6, none, .op (.mv 0)⟩,
    ⟨some 7, none, .op (.lenS 6)⟩,
    ⟨some 8, none, .op (.mv (.val (.int 0)))⟩])
  (.block 0
   (.loop (f38b0 G))))
  (.seq (.ops [⟨some 4, none, .op (.mv (.val (.int (-1))))⟩])
  (.ret)))
def f38 (G : Nat → AVal) : AFn := ⟨19, [.tmp 4], f38m G⟩

theorem f38_c (G : Nat → AVal) : cmpFn Try.prog G [] 38 = some (f38 G) := by kernel_rfl

end Go.Abs
