/- Written by Show.lean: functions of the seat YtjoehmgnapdhaabDoor, translated; the checks. Conditions: none. -/
import Derived.Test.YtjoehmgnapdhaabDoorA25
import Derived.Test.YtjoehmgnapdhaabDoorProg
import Derived.KernelRfl
set_option linter.unusedVariables false
namespace Go.Abs
open Go Go.RowKit Go.Proofs

def f3b0 (G : Nat → AVal) : MC :=
  .seq (.seq (.ops [⟨some 43, none, .op (.mv 9)⟩,
    ⟨some 44, none, .op (.bin .geq .int 43 (.val (.int 0)))⟩])
  (.cond 44
   (.skip)
   (.exit 0)))
  (.seq (.block 1
   (.seq (.ops [⟨some 47, none, .op (.mv 5)⟩,
     ⟨some 48, none, .op (.mv 7)⟩,
     ⟨some 49, none, .op (.mv 9)⟩,
     ⟨some 50, none, .op (.iaddr 1 48 49)⟩,
     ⟨some 51, none, .op (.load false 1 50)⟩,
     ⟨some 52, none, .op (.bslice false 1 1 [.nilS] [(0, 51)])⟩,
     ⟨some 53, none, .op (.append 1 24 47 52)⟩,
     ⟨some 5, none, .op (.mv 53)⟩])
   (.seq (.ops [⟨some 54, none, .op (.mv 9)⟩,
     ⟨some 55, none, .op (.mv 8)⟩,
     ⟨some 56, none, .op (.lenS 55)⟩,
     ⟨some 57, none, .op (.bin .lss .int 54 56)⟩])
   (.cond 57
    (.ops [⟨some 58, none, .op (.mv 5)⟩,
      ⟨some 59, none, .op (.mv 8)⟩,
      ⟨some 60, none, .op (.mv 9)⟩,
      ⟨some 61, none, .op (.iaddr 1 59 60)⟩,
      ⟨some 62, none, .op (.load false 1 61)⟩,
      ⟨some 63, none, .op (.bslice false 1 1 [.nilS] [(0, 62)])⟩,
      ⟨some 64, none, .op (.append 1 24 58 63)⟩,
      ⟨some 5, none, .op (.mv 64)⟩])
    (.skip)))))
  (.ops [⟨some 45, none, .op (.mv 9)⟩,
    ⟨some 46, none, .op (.bin .sub .int 45 (.val (.int 1)))⟩,
    ⟨some 9, none, .op (.mv 46)⟩]))

def f3b1 (G : Nat → AVal) : MC :=
  .seq (.seq (.ops [⟨some 67, none, .op (.mv 10)⟩,
    ⟨some 68, none, .op (.mv 8)⟩,
    ⟨some 69, none, .op (.lenS 68)⟩,
    ⟨some 70, none, .op (.bin .lss .int 67 69)⟩])
  (.cond 70
   (.skip)
   (.exit 2)))
  (.seq (.block 3
   (.ops [⟨some 73, none, .op (.mv 5)⟩,
     ⟨some 74, none, .op (.mv 8)⟩,
     ⟨some 75, none, .op (.mv 10)⟩,
     ⟨some 76, none, .op (.iaddr 1 74 75)⟩,
     ⟨some 77, none, .op (.load false 1 76)⟩,
     ⟨some 78, none, .op (.bslice false 1 1 [.nilS] [(0, 77)])⟩,
     ⟨some 79, none, .op (.append 1 24 73 78)⟩,
     ⟨some 5, none, .op (.mv 79)⟩]))
  (.ops [⟨some 71, none, .op (.mv 10)⟩,
    ⟨some 72, none, .op (.bin .add .int 71 (.val (.int 1)))⟩,
    ⟨some 10, none, .op (.mv 72)⟩]))

def f3b2 (G : Nat → AVal) : MC :=
  .seq (.ops [⟨some 84, none, .op (.bin .lss .int 83 82)⟩])
  (.seq (.cond 84
   (.skip)
   (.exit 4))
  (.seq (.block 5
   (.seq (.ops [⟨some 85, none, .op (.mv 83)⟩,
     ⟨some 11, none, .op (.mv 85)⟩])
   (.ops [⟨some 86, none, .op (.mv 6)⟩,
     ⟨some 87, none, .op (.load true 3 2)⟩,
     ⟨some 88, none, .op (.mv 11)⟩,
     ⟨some 89, none, .call 8 [87, 88]⟩,
     ⟨some 90, none, .op (.bslice false 1 1 [.nilS] [(0, 89)])⟩,
     ⟨some 91, none, .op (.append 1 24 86 90)⟩,
     ⟨some 6, none, .op (.mv 91)⟩])))
  (.ops [⟨some 92, none, .op (.bin .add .int 83 (.val (.int 1)))⟩,
    ⟨some 83, none, .op (.mv 92)⟩])))

def f3b3 (G : Nat → AVal) : MC :=
  .seq (.ops [⟨some 97, none, .op (.bin .lss .int 96 95)⟩])
  (.seq (.cond 97
   (.skip)
   (.exit 6))
  (.seq (.block 7
   (.seq (.ops [⟨some 98, none, .op (.mv 96)⟩,
     ⟨some 12, none, .op (.mv 98)⟩])
   (.ops [⟨some 99, none, .op (.mv 6)⟩,
     ⟨some 100, none, .op (.load true 3 3)⟩,
     ⟨some 101, none, .op (.mv 12)⟩,
     ⟨some 102, none, .call 8 [100, 101]⟩,
     ⟨some 103, none, .op (.bslice false 1 1 [.nilS] [(0, 102)])⟩,
     ⟨some 104, none, .op (.append 1 24 99 103)⟩,
     ⟨some 6, none, .op (.mv 104)⟩])))
  (.ops [⟨some 105, none, .op (.bin .add .int 96 (.val (.int 1)))⟩,
    ⟨some 96, none, .op (.mv 105)⟩])))

def f3m (G : Nat → AVal) : MC :=
  .seq (.ops [⟨some 2, none, .op (.box true 3 0)⟩,
    ⟨some 3, none, .op (.box true 3 1)⟩,
    ⟨some 4, none, .op (.mv (.val (.bool false)))⟩])
  (.seq (.seq (.ops [⟨some 17, none, .call 5 []⟩,
    ⟨some 18, none, .op (.un .not 17)⟩])
  (.cond 18
   (.seq (.ops [⟨some 4, none, .op (.mv (.val (.bool false)))⟩])
   (.ret))
   (.skip)))
  (.seq (.seq (.ops [⟨some 19, none, .op (.load true 3 2)⟩,
    ⟨some 20, none, .call 6 [19]⟩,
    ⟨some 21, none, .op (.bin .neq .int 20 (.val (.int 0)))⟩,
    ⟨some 22, none, .op (.mv 21)⟩,
    ⟨some 23, some (22, false), .op (.load true 3 3)⟩,
    ⟨some 24, some (22, false), .call 6 [23]⟩,
    ⟨some 25, some (22, false), .op (.bin .neq .int 24 (.val (.int 0)))⟩,
    ⟨some 26, none, .op (.pick 22 (.val (.bool true)) 25)⟩,
    ⟨some 27, none, .op (.mv 26)⟩,
    ⟨some 28, some (27, false), .op (.faddr 0 2)⟩,
    ⟨some 29, some (27, false), .op (.load false 1 28)⟩,
    ⟨some 30, some (27, false), .op (.faddr 0 3)⟩,
    ⟨some 31, some (27, false), .op (.load false 1 30)⟩,
    ⟨some 32, some (27, false), .op (.bin .eql .str 29 31)⟩,
    ⟨some 33, none, .op (.pick 27 (.val (.bool true)) 32)⟩])
  (.cond 33
   (.seq (.ops [⟨some 4, none, .op (.mv (.val (.bool true)))⟩])
   (.ret))
   (.skip)))
  (.seq (.ops [⟨some 34, none, .op (.bslice false 1 0 [.nilS] [])⟩,
    ⟨some 35, none, .op (.bslice false 1 0 [.nilS] [])⟩,
    ⟨some 5, none, .op (.mv 34)⟩,
    ⟨some 6, none, .op (.mv 35)⟩])
  (.seq (.draw (.rd [⟨0, ⟨some 36, none, .op (.load true 3 2)⟩, false, false⟩,
     ⟨2, ⟨some 38, none, .op (.load true 3 3)⟩, false, true⟩]
   (.ef ⟨1, ⟨some 37, none, .call 7 [36]⟩, true, false⟩ [2]
   (.ef ⟨3, ⟨some 39, none, .call 7 [38]⟩, true, false⟩ []
   (.rd [⟨4, ⟨some 7, none, .op (.mv 37)⟩, false, false⟩,
     ⟨5, ⟨some 8, none, .op (.mv 39)⟩, false, false⟩]
   (.nil))))))
  (.seq (.seq (.ops [⟨some 40, none, .op (.mv 7)⟩,
    ⟨some 41, none, .op (.lenS 40)⟩,
    ⟨some 42, none, .op (.bin .sub .int 41 (.val (.int 1)))⟩,
    ⟨some 9, none, .op (.mv 42)⟩])
  (.block 0
   (.loop (f3b0 G))))
  (.seq (.seq (.ops [⟨some 65, none, .op (.mv 7)⟩,
    ⟨some 66, none, .op (.lenS 65)⟩,
    ⟨some 10, none, .op (.mv 66)⟩])
  (.block 2
   (.loop (f3b1 G))))
  (.seq (.seq (.ops [⟨some 80, none, .op (.faddr 2 2)⟩,
    ⟨some 81, none, .op (.load false 1 80)⟩,
    ⟨some 82, none, .op (.lenS 81)⟩,
    ⟨some 83, none, .op (.mv (.val (.int 0)))⟩])
  (.block 4
   (.loop (f3b2 G))))
  (.seq (.seq (.ops [⟨some 93, none, .op (.faddr 2 3)⟩,
    ⟨some 94, none, .op (.load false 1 93)⟩,
    ⟨some 95, none, .op (.lenS 94)⟩,
    ⟨some 96, none, .op (.mv (.val (.int 0)))⟩])
  (.block 6
   (.loop (f3b3 G))))
  (.seq (.ops [⟨some 107, none, .op (.faddr 0 2)⟩,
    ⟨some 108, none, .op (.load false 1 107)⟩,
    ⟨some 109, none, .op (.mv 5)⟩,
    ⟨some 110, none, .op (.mv 6)⟩,
    ⟨some 111, none, .call 9 [108, 109, 110]⟩,
    ⟨some 106, none, .op (.mv 111)⟩,
    ⟨some 112, none, .op (.extract 106 0)⟩,
    ⟨some 113, none, .op (.extract 106 1)⟩,
    ⟨some 13, none, .op (.alloc 3 [.str [], .nilS, .nilS])⟩,
    ⟨none, none, .op (.store true 3 13 112)⟩,
    ⟨some 14, none, .op (.mv 113)⟩])
  (.seq (.ops [⟨some 115, none, .op (.faddr 0 3)⟩,
    ⟨some 116, none, .op (.load false 1 115)⟩,
    ⟨some 117, none, .op (.mv 5)⟩,
    ⟨some 118, none, .op (.mv 6)⟩,
    ⟨some 119, none, .call 9 [116, 117, 118]⟩,
    ⟨some 114, none, .op (.mv 119)⟩,
    ⟨some 120, none, .op (.extract 114 0)⟩,
    ⟨some 121, none, .op (.extract 114 1)⟩,
    ⟨some 15, none, .op (.alloc 3 [.str [], .nilS, .nilS])⟩,
    ⟨none, none, .op (.store true 3 15 120)⟩,
    ⟨some 16, none, .op (.mv 121)⟩])
  (.seq (.ops [⟨some 122, none, .op (.mv 14)⟩,
    ⟨some 123, none, .op (.bin .eql .int 122 (.val (.int 0)))⟩,
    ⟨some 124, none, .op (.mv 123)⟩,
    ⟨some 125, some (124, true), .op (.mv 16)⟩,
    ⟨some 126, some (124, true), .op (.bin .eql .int 125 (.val (.int 0)))⟩,
    ⟨some 127, none, .op (.pick 124 126 (.val (.bool false)))⟩,
    ⟨some 128, none, .op (.mv 127)⟩,
    ⟨some 129, some (128, true), .op (.load true 3 13)⟩,
    ⟨some 130, some (128, true), .op (.load true 3 2)⟩,
    ⟨some 131, some (128, true), .call 10 [129, 130]⟩,
    ⟨some 132, none, .op (.pick 128 131 (.val (.bool false)))⟩,
    ⟨some 133, none, .op (.mv 132)⟩,
    ⟨some 134, some (133, true), .op (.load true 3 15)⟩,
    ⟨some 135, some (133, true), .op (.load true 3 3)⟩,
    ⟨some 136, some (133, true), .call 10 [134, 135]⟩,
    ⟨some 137, none, .op (.pick 133 136 (.val (.bool false)))⟩,
    ⟨some 4, none, .op (.mv 137)⟩])
  (.ret))))))))))))
def f3 (G : Nat → AVal) : AFn := ⟨138, [.tmp 4], f3m G⟩

theorem f3_c (G : Nat → AVal) : cmpFn Tryd.prog G [] 3 = some (f3 G) := by kernel_rfl

def f4b0 (G : Nat → AVal) : MC :=
  .seq (.ops [⟨some 27, none, .op (.bin .lss .int 26 25)⟩])
  (.seq (.cond 27
   (.skip)
   (.exit 0))
  (.seq (.block 1
   (.seq (.ops [⟨some 28, none, .op (.mv 26)⟩,
     ⟨some 7, none, .op (.mv 28)⟩])
   (.ops [⟨some 29, none, .op (.mv 6)⟩,
     ⟨some 30, none, .op (.load true 3 2)⟩,
     ⟨some 31, none, .op (.mv 7)⟩,
     ⟨some 32, none, .call 8 [30, 31]⟩,
     ⟨some 33, none, .op (.bslice false 1 1 [.nilS] [(0, 32)])⟩,
     ⟨some 34, none, .op (.append 1 24 29 33)⟩,
     ⟨some 6, none, .op (.mv 34)⟩])))
  (.ops [⟨some 35, none, .op (.bin .add .int 26 (.val (.int 1)))⟩,
    ⟨some 26, none, .op (.mv 35)⟩])))

def f4b1 (G : Nat → AVal) : MC :=
  .seq (.ops [⟨some 68, none, .op (.bin .lss .int 67 66)⟩])
  (.seq (.cond 68
   (.skip)
   (.exit 4))
  (.seq (.block 5
   (.seq (.ops [⟨some 69, none, .op (.mv 67)⟩,
     ⟨some 12, none, .op (.mv 69)⟩])
   (.ops [⟨some 70, none, .op (.load true 3 11)⟩,
     ⟨some 71, none, .op (.mv 12)⟩,
     ⟨some 72, none, .call 8 [70, 71]⟩,
     ⟨some 73, none, .op (.bslice false 1 1 [.nilS] [(0, 72)])⟩,
     ⟨some 74, none, .op (.mv 6)⟩,
     ⟨some 75, none, .op (.append 1 24 73 74)⟩,
     ⟨some 6, none, .op (.mv 75)⟩])))
  (.ops [⟨some 76, none, .op (.bin .add .int 67 (.val (.int 1)))⟩,
    ⟨some 67, none, .op (.mv 76)⟩])))

def f4b2 (G : Nat → AVal) : MC :=
  .seq (.ops [⟨some 47, none, .op (.bin .lss .int 46 45)⟩])
  (.seq (.cond 47
   (.skip)
   (.exit 2))
  (.seq (.block 3
   (.seq (.ops [⟨some 48, none, .op (.iaddr 3 44 46)⟩,
     ⟨some 49, none, .op (.load true 3 48)⟩,
     ⟨some 11, none, .op (.alloc 3 [.str [], .nilS, .nilS])⟩,
     ⟨none, none, .op (.store true 3 11 49)⟩])
   (.seq (.seq (.ops [⟨some 50, none, .op (.load true 3 11)⟩,
     ⟨some 51, none, .call 6 [50]⟩,
     ⟨some 52, none, .op (.bin .neq .int 51 (.val (.int 0)))⟩,
     ⟨some 53, none, .op (.mv 52)⟩,
     ⟨some 54, some (53, false), .op (.faddr 0 11)⟩,
     ⟨some 55, some (53, false), .op (.load false 1 54)⟩,
     ⟨some 56, some (53, false), .op (.faddr 0 2)⟩,
     ⟨some 57, some (53, false), .op (.load false 1 56)⟩,
     ⟨some 58, some (53, false), .op (.bin .eql .str 55 57)⟩,
     ⟨some 59, none, .op (.pick 53 (.val (.bool true)) 58)⟩])
   (.cond 59
    (.seq (.ops [⟨some 4, none, .op (.mv (.val (.bool true)))⟩])
    (.ret))
    (.skip)))
   (.seq (.ops [⟨some 60, none, .op (.load true 3 11)⟩,
     ⟨some 61, none, .call 7 [60]⟩,
     ⟨some 62, none, .op (.mv 5)⟩,
     ⟨some 63, none, .op (.append 1 24 61 62)⟩,
     ⟨some 5, none, .op (.mv 63)⟩])
   (.seq (.ops [⟨some 64, none, .op (.faddr 2 11)⟩,
     ⟨some 65, none, .op (.load false 1 64)⟩,
     ⟨some 66, none, .op (.lenS 65)⟩,
     ⟨some 67, none, .op (.mv (.val (.int 0)))⟩])
   (.block 4
    (.loop (f4b1 G))))))))
  (.ops [⟨some 77, none, .op (.bin .add .int 46 (.val (.int 1)))⟩,
    ⟨some 46, none, .op (.mv 77)⟩])))

def f4m (G : Nat → AVal) : MC :=
  .seq (.ops [⟨some 2, none, .op (.box true 3 0)⟩,
    ⟨some 4, none, .op (.mv (.val (.bool false)))⟩])
  (.seq (.seq (.ops [⟨some 15, none, .call 5 []⟩,
    ⟨some 16, none, .op (.un .not 15)⟩])
  (.cond 16
   (.seq (.ops [⟨some 4, none, .op (.mv (.val (.bool false)))⟩])
   (.ret))
   (.skip)))
  (.seq (.seq (.ops [⟨some 17, none, .op (.load true 3 2)⟩,
    ⟨some 18, none, .call 6 [17]⟩,
    ⟨some 19, none, .op (.bin .neq .int 18 (.val (.int 0)))⟩])
  (.cond 19
   (.seq (.ops [⟨some 4, none, .op (.mv (.val (.bool true)))⟩])
   (.ret))
   (.skip)))
  (.seq (.ops [⟨some 20, none, .op (.load true 3 2)⟩,
    ⟨some 21, none, .call 7 [20]⟩,
    ⟨some 22, none, .op (.bslice false 1 0 [.nilS] [])⟩,
    ⟨some 5, none, .op (.mv 21)⟩,
    ⟨some 6, none, .op (.mv 22)⟩])
  (.seq (.seq (.ops [⟨some 23, none, .op (.faddr 2 2)⟩,
    ⟨some 24, none, .op (.load false 1 23)⟩,
    ⟨some 25, none, .op (.lenS 24)⟩,
    ⟨some 26, none, .op (.mv (.val (.int 0)))⟩])
  (.block 0
   (.loop (f4b0 G))))
  (.seq (.ops [⟨some 37, none, .op (.faddr 0 2)⟩,
    ⟨some 38, none, .op (.load false 1 37)⟩,
    ⟨some 39, none, .op (.mv 5)⟩,
    ⟨some 40, none, .op (.mv 6)⟩,
    ⟨some 41, none, .call 9 [38, 39, 40]⟩,
    ⟨some 36, none, .op (.mv 41)⟩,
    ⟨some 42, none, .op (.extract 36 0)⟩,
    ⟨some 43, none, .op (.extract 36 1)⟩,
    ⟨some 8, none, .op (.alloc 3 [.str [], .nilS, .nilS])⟩,
    ⟨none, none, .op (.store true 3 8 42)⟩,
    ⟨some 9, none, .op (.mv 43)⟩])
  (.seq (.seq (.ops [⟨some 44, none, .op (.mv 1)⟩,
    ⟨some 45, none, .op (.lenS 44)⟩,
    ⟨some 46, none, .op (.mv (.val (.int 0)))⟩])
  (.block 2
   (.loop (f4b2 G))))
  (.seq (.ops [⟨some 79, none, .op (.faddr 0 2)⟩,
    ⟨some 80, none, .op (.load false 1 79)⟩,
    ⟨some 81, none, .op (.mv 5)⟩,
    ⟨some 82, none, .op (.mv 6)⟩,
    ⟨some 83, none, .call 9 [80, 81, 82]⟩,
    ⟨some 78, none, .op (.mv 83)⟩,
    ⟨some 84, none, .op (.extract 78 0)⟩,
    ⟨some 85, none, .op (.extract 78 1)⟩,
    ⟨some 13, none, .op (.alloc 3 [.str [], .nilS, .nilS])⟩,
    ⟨none, none, .op (.store true 3 13 84)⟩,
    ⟨some 14, none, .op (.mv 85)⟩])
  (.seq (.ops [⟨some 86, none, .op (.mv 9)⟩,
    ⟨some 87, none, .op (.bin .eql .int 86 (.val (.int 0)))⟩,
    ⟨some 88, none, .op (.mv 87)⟩,
    ⟨some 89, some (88, true), .op (.mv 14)⟩,
    ⟨some 90, some (88, true), .op (.bin .eql .int 89 (.val (.int 0)))⟩,
    ⟨some 91, none, .op (.pick 88 90 (.val (.bool false)))⟩,
    ⟨some 92, none, .op (.mv 91)⟩,
    ⟨some 93, some (92, true), .op (.load true 3 8)⟩,
    ⟨some 94, some (92, true), .op (.load true 3 2)⟩,
    ⟨some 95, some (92, true), .call 10 [93, 94]⟩,
    ⟨some 96, none, .op (.pick 92 95 (.val (.bool false)))⟩,
    ⟨some 97, none, .op (.mv 96)⟩,
    ⟨some 98, some (97, true), .op (.load true 3 13)⟩,
    ⟨some 99, some (97, true), .op (.load true 3 2)⟩,
    ⟨some 100, some (97, true), .call 10 [98, 99]⟩,
    ⟨some 101, none, .op (.pick 97 100 (.val (.bool false)))⟩,
    ⟨some 4, none, .op (.mv 101)⟩])
  (.ret)))))))))
def f4 (G : Nat → AVal) : AFn := ⟨102, [.tmp 4], f4m G⟩

theorem f4_c (G : Nat → AVal) : cmpFn Tryd.prog G [] 4 = some (f4 G) := by kernel_rfl

end Go.Abs
