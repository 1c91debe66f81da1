/- Written by Show.lean: functions of the seat YtjoehmgnapdhaabDoor, translated; the checks. Conditions: none. -/
import Derived.Test.YtjoehmgnapdhaabDoorA25
import Derived.Test.YtjoehmgnapdhaabDoorProg
import Derived.KernelRfl
set_option linter.unusedVariables false
namespace Go.Abs
open Go Go.RowKit Go.Proofs

def f11b0 (G : Nat → AVal) : MC :=
  .seq (.ops [⟨some 57, none, .op (.bin .lss .int 56 55)⟩])
  (.seq (.cond 57
   (.skip)
   (.exit 3))
  (.seq (.block 4
   (.seq (.ops [⟨some 58, none, .op (.mv 56)⟩,
     ⟨some 59, none, .op (.iaddr 1 54 56)⟩,
     ⟨some 60, none, .op (.load false 1 59)⟩,
     ⟨some 6, none, .op (.mv 58)⟩,
     ⟨some 7, none, .op (.mv 60)⟩])
   (.seq (.seq (.ops [⟨some 61, none, .op (.mv 7)⟩,
     ⟨some 62, none, .op (.bin .lss .int 61 (.val (.int 0)))⟩,
     ⟨some 63, none, .op (.mv 62)⟩,
     ⟨some 64, some (63, false), .op (.mv 7)⟩,
     ⟨some 65, some (63, false), .op (.faddr 1 1)⟩,
     ⟨some 66, some (63, false), .op (.load false 1 65)⟩,
     ⟨some 67, some (63, false), .op (.lenS 66)⟩,
     ⟨some 68, some (63, false), .op (.bin .geq .int 64 67)⟩,
     ⟨some 69, none, .op (.pick 63 (.val (.bool true)) 68)⟩])
   (.cond 69
    (.seq (.ops [⟨some 2, none, .op (.mv (.val (.int 161)))⟩])
    (.ret))
    (.skip)))
   (.seq (.ops [⟨some 70, none, .op (.faddr 1 5)⟩,
     ⟨some 71, none, .op (.load false 1 70)⟩,
     ⟨some 72, none, .op (.mv 6)⟩,
     ⟨some 73, none, .op (.slc 1 71 none (some 72) none)⟩,
     ⟨some 74, none, .op (.mv 7)⟩,
     ⟨some 75, none, .call 36 [73, 74]⟩])
   (.cond 75
    (.seq (.ops [⟨some 2, none, .op (.mv (.val (.int 163)))⟩])
    (.ret))
    (.skip))))))
  (.ops [⟨some 76, none, .op (.bin .add .int 56 (.val (.int 1)))⟩,
    ⟨some 56, none, .op (.mv 76)⟩])))

def f11b1 (G : Nat → AVal) : MC :=
  .seq (.ops [⟨some 26, none, .op (.bin .lss .int 25 24)⟩])
  (.seq (.cond 26
   (.skip)
   (.exit 0))
  (.seq (.block 1
   (.seq (.ops [⟨some 27, none, .op (.mv 25)⟩,
     ⟨some 28, none, .op (.iaddr 3 23 25)⟩,
     ⟨some 29, none, .op (.load true 3 28)⟩,
     ⟨some 5, none, .op (.alloc 3 [.str [], .nilS, .bool false])⟩,
     ⟨some 4, none, .op (.mv 27)⟩,
     ⟨none, none, .op (.store true 3 5 29)⟩])
   (.seq (.block 2
    (.seq (.ops [⟨some 31, none, .op (.faddr 0 5)⟩,
      ⟨some 32, none, .op (.load false 1 31)⟩,
      ⟨some 33, none, .call 32 [32]⟩,
      ⟨some 34, none, .op (.un .not 33)⟩,
      ⟨some 30, none, .op (.mv 34)⟩])
    (.cond 30
     (.seq (.ops [⟨some 2, none, .op (.mv (.val (.int 150)))⟩])
     (.ret))
     (.seq (.ops [⟨some 36, none, .op (.faddr 2 1)⟩,
       ⟨some 37, none, .op (.load false 1 36)⟩,
       ⟨some 38, none, .op (.mv 4)⟩,
       ⟨some 39, none, .op (.slc 3 37 none (some 38) none)⟩,
       ⟨some 40, none, .op (.mkfn (.func 35) [] [5])⟩,
       ⟨some 41, none, .call 34 [39, 40]⟩,
       ⟨some 35, none, .op (.mv 41)⟩])
     (.cond 35
      (.seq (.ops [⟨some 2, none, .op (.mv (.val (.int 163)))⟩])
      (.ret))
      (.seq (.ops [⟨some 43, none, .op (.faddr 1 5)⟩,
        ⟨some 44, none, .op (.load false 1 43)⟩,
        ⟨some 45, none, .op (.lenS 44)⟩,
        ⟨some 46, none, .op (.bin .lss .int 45 (.val (.int 1)))⟩,
        ⟨some 47, none, .op (.mv 46)⟩,
        ⟨some 48, some (47, false), .op (.faddr 1 5)⟩,
        ⟨some 49, some (47, false), .op (.load false 1 48)⟩,
        ⟨some 50, some (47, false), .op (.lenS 49)⟩,
        ⟨some 51, some (47, false), .op (.bin .gtr .int 50 (.val (.int 4)))⟩,
        ⟨some 52, none, .op (.pick 47 (.val (.bool true)) 51)⟩,
        ⟨some 42, none, .op (.mv 52)⟩])
      (.cond 42
       (.seq (.ops [⟨some 2, none, .op (.mv (.val (.int 151)))⟩])
       (.ret))
       (.skip))))))))
   (.seq (.ops [⟨some 53, none, .op (.faddr 1 5)⟩,
     ⟨some 54, none, .op (.load false 1 53)⟩,
     ⟨some 55, none, .op (.lenS 54)⟩,
     ⟨some 56, none, .op (.mv (.val (.int 0)))⟩])
   (.block 3
    (.loop (f11b0 G)))))))
  (.ops [⟨some 77, none, .op (.bin .add .int 25 (.val (.int 1)))⟩,
    ⟨some 25, none, .op (.mv 77)⟩])))

def f11m (G : Nat → AVal) : MC :=
  .seq (.ops [⟨some 1, none, .op (.box true 3 0)⟩,
    ⟨some 2, none, .op (.mv (.val (.int 0)))⟩])
  (.seq (.seq (.ops [⟨some 8, none, .op (.faddr 0 1)⟩,
    ⟨some 9, none, .op (.load false 1 8)⟩,
    ⟨some 10, none, .call 32 [9]⟩,
    ⟨some 11, none, .op (.un .not 10)⟩])
  (.cond 11
   (.seq (.ops [⟨some 2, none, .op (.mv (.val (.int 150)))⟩])
   (.ret))
   (.skip)))
  (.seq (.seq (.ops [⟨some 12, none, .op (.faddr 1 1)⟩,
    ⟨some 13, none, .op (.load false 1 12)⟩,
    ⟨some 14, none, .call 33 [13]⟩,
    ⟨some 3, none, .op (.mv 14)⟩])
  (.seq (.ops [⟨some 15, none, .op (.mv 3)⟩,
    ⟨some 16, none, .op (.bin .neq .int 15 (.val (.int 0)))⟩])
  (.cond 16
   (.seq (.ops [⟨some 17, none, .op (.mv 3)⟩,
     ⟨some 2, none, .op (.mv 17)⟩])
   (.ret))
   (.skip))))
  (.seq (.seq (.ops [⟨some 18, none, .op (.faddr 2 1)⟩,
    ⟨some 19, none, .op (.load false 1 18)⟩,
    ⟨some 20, none, .op (.lenS 19)⟩,
    ⟨some 21, none, .op (.bin .gtr .int 20 (.val (.int 8)))⟩])
  (.cond 21
   (.seq (.ops [⟨some 2, none, .op (.mv (.val (.int 151)))⟩])
   (.ret))
   (.skip)))
  (.seq (.seq (.ops [⟨some 22, none, .op (.faddr 2 1)⟩,
    ⟨some 23, none, .op (.load false 1 22)⟩,
    ⟨some 24, none, .op (.lenS 23)⟩,
    ⟨some 25, none, .op (.mv (.val (.int 0)))⟩])
  (.block 0
   (.loop (f11b1 G))))
  (.seq (.ops [⟨some 2, none, .op (.mv (.val (.int 0)))⟩])
  (.ret))))))
def f11 (G : Nat → AVal) : AFn := ⟨78, [.tmp 2], f11m G⟩

theorem f11_c (G : Nat → AVal) : cmpFn Tryd.prog G [] 11 = some (f11 G) := by kernel_rfl

def f6b0 (G : Nat → AVal) : MC :=
  .seq (.seq (.ops [⟨some 20, none, .op (.mv 3)⟩,
    ⟨some 21, none, .op (.faddr 1 1)⟩,
    ⟨some 22, none, .op (.load false 1 21)⟩,
    ⟨some 23, none, .op (.lenS 22)⟩,
    ⟨some 24, none, .op (.bin .lss .int 20 23)⟩])
  (.cond 24
   (.skip)
   (.exit 0)))
  (.seq (.block 1
   (.seq (.seq (.ops [⟨some 27, none, .op (.faddr 1 1)⟩,
     ⟨some 28, none, .op (.load false 1 27)⟩,
     ⟨some 29, none, .op (.mv 3)⟩,
     ⟨some 30, none, .op (.iaddr 3 28 29)⟩,
     ⟨some 31, none, .op (.faddr 0 30)⟩,
     ⟨some 32, none, .op (.load false 1 31)⟩,
     ⟨some 33, none, .call 15 [32]⟩,
     ⟨some 34, none, .op (.un .not 33)⟩])
   (.cond 34
    (.seq (.ops [⟨some 2, none, .op (.mv (.val (.int 150)))⟩])
    (.ret))
    (.skip)))
   (.seq (.seq (.ops [⟨some 35, none, .op (.faddr 1 1)⟩,
     ⟨some 36, none, .op (.load false 1 35)⟩,
     ⟨some 37, none, .op (.mv 3)⟩,
     ⟨some 38, none, .op (.iaddr 3 36 37)⟩,
     ⟨some 39, none, .op (.faddr 1 38)⟩,
     ⟨some 40, none, .op (.load false 1 39)⟩,
     ⟨some 41, none, .op (.bin .lss .int 40 (.val (.int 1)))⟩,
     ⟨some 42, none, .op (.mv 41)⟩,
     ⟨some 43, some (42, false), .op (.faddr 1 1)⟩,
     ⟨some 44, some (42, false), .op (.load false 1 43)⟩,
     ⟨some 45, some (42, false), .op (.mv 3)⟩,
     ⟨some 46, some (42, false), .op (.iaddr 3 44 45)⟩,
     ⟨some 47, some (42, false), .op (.faddr 1 46)⟩,
     ⟨some 48, some (42, false), .op (.load false 1 47)⟩,
     ⟨some 49, some (42, false), .op (.bin .gtr .int 48 (.val (.int 4)))⟩,
     ⟨some 50, none, .op (.pick 42 (.val (.bool true)) 49)⟩])
   (.cond 50
    (.seq (.ops [⟨some 2, none, .op (.mv (.val (.int 30)))⟩])
    (.ret))
    (.skip)))
   (.seq (.draw (.rd [⟨0, ⟨some 51, none, .op (.faddr 1 1)⟩, false, false⟩,
      ⟨1, ⟨some 52, none, .op (.load false 1 51)⟩, false, false⟩,
      ⟨2, ⟨some 53, none, .op (.mv 3)⟩, false, false⟩,
      ⟨3, ⟨some 54, none, .op (.slc 3 52 none (some 53) none)⟩, false, false⟩,
      ⟨4, ⟨some 55, none, .op (.faddr 1 1)⟩, false, false⟩,
      ⟨5, ⟨some 56, none, .op (.load false 1 55)⟩, false, false⟩,
      ⟨6, ⟨some 57, none, .op (.mv 3)⟩, false, false⟩,
      ⟨7, ⟨some 58, none, .op (.iaddr 3 56 57)⟩, false, false⟩,
      ⟨8, ⟨some 59, none, .op (.faddr 0 58)⟩, false, false⟩,
      ⟨9, ⟨some 60, none, .op (.load false 1 59)⟩, false, false⟩]
    (.ef ⟨10, ⟨some 61, none, .call 16 [54, 60]⟩, true, false⟩ []
    (.rd [⟨11, ⟨some 62, none, .op (.bin .geq .int 61 (.val (.int 0)))⟩, false, false⟩]
    (.nil)))))
   (.cond 62
    (.seq (.ops [⟨some 2, none, .op (.mv (.val (.int 163)))⟩])
    (.ret))
    (.skip))))))
  (.ops [⟨some 25, none, .op (.mv 3)⟩,
    ⟨some 26, none, .op (.bin .add .int 25 (.val (.int 1)))⟩,
    ⟨some 3, none, .op (.mv 26)⟩]))

def f6b1 (G : Nat → AVal) : MC :=
  .seq (.seq (.ops [⟨some 67, none, .op (.mv 4)⟩,
    ⟨some 68, none, .op (.faddr 2 1)⟩,
    ⟨some 69, none, .op (.load false 1 68)⟩,
    ⟨some 70, none, .op (.lenS 69)⟩,
    ⟨some 71, none, .op (.bin .lss .int 67 70)⟩])
  (.cond 71
   (.skip)
   (.exit 2)))
  (.seq (.block 3
   (.seq (.ops [⟨some 74, none, .op (.load true 3 1)⟩,
     ⟨some 75, none, .op (.mv 4)⟩,
     ⟨some 76, none, .call 17 [74, 75]⟩,
     ⟨some 5, none, .op (.mv 76)⟩])
   (.seq (.ops [⟨some 77, none, .op (.mv 5)⟩,
     ⟨some 78, none, .op (.bin .neq .int 77 (.val (.int 0)))⟩])
   (.cond 78
    (.seq (.ops [⟨some 79, none, .op (.mv 5)⟩,
      ⟨some 2, none, .op (.mv 79)⟩])
    (.ret))
    (.skip)))))
  (.ops [⟨some 72, none, .op (.mv 4)⟩,
    ⟨some 73, none, .op (.bin .add .int 72 (.val (.int 1)))⟩,
    ⟨some 4, none, .op (.mv 73)⟩]))

def f6m (G : Nat → AVal) : MC :=
  .seq (.ops [⟨some 1, none, .op (.box true 3 0)⟩,
    ⟨some 2, none, .op (.mv (.val (.int 0)))⟩])
  (.seq (.seq (.ops [⟨some 6, none, .op (.faddr 0 1)⟩,
    ⟨some 7, none, .op (.load false 1 6)⟩,
    ⟨some 8, none, .call 15 [7]⟩,
    ⟨some 9, none, .op (.un .not 8)⟩])
  (.cond 9
   (.seq (.ops [⟨some 2, none, .op (.mv (.val (.int 150)))⟩])
   (.ret))
   (.skip)))
  (.seq (.seq (.ops [⟨some 10, none, .op (.faddr 1 1)⟩,
    ⟨some 11, none, .op (.load false 1 10)⟩,
    ⟨some 12, none, .op (.lenS 11)⟩,
    ⟨some 13, none, .op (.bin .eql .int 12 (.val (.int 0)))⟩,
    ⟨some 14, none, .op (.mv 13)⟩,
    ⟨some 15, some (14, false), .op (.faddr 1 1)⟩,
    ⟨some 16, some (14, false), .op (.load false 1 15)⟩,
    ⟨some 17, some (14, false), .op (.lenS 16)⟩,
    ⟨some 18, some (14, false), .op (.bin .gtr .int 17 (.val (.int 16)))⟩,
    ⟨some 19, none, .op (.pick 14 (.val (.bool true)) 18)⟩])
  (.cond 19
   (.seq (.ops [⟨some 2, none, .op (.mv (.val (.int 151)))⟩])
   (.ret))
   (.skip)))
  (.seq (.seq (.ops [⟨some 3, none, .op (.mv (.val (.int 0)))⟩])
  (.block 0
   (.loop (f6b0 G))))
  (.seq (.seq (.ops [⟨some 63, none, .op (.faddr 2 1)⟩,
    ⟨some 64, none, .op (.load false 1 63)⟩,
    ⟨some 65, none, .op (.lenS 64)⟩,
    ⟨some 66, none, .op (.bin .gtr .int 65 (.val (.int 8)))⟩])
  (.cond 66
   (.seq (.ops [⟨some 2, none, .op (.mv (.val (.int 151)))⟩])
   (.ret))
   (.skip)))
  (.seq (.seq (.ops [⟨some 4, none, .op (.mv (.val (.int 0)))⟩])
  (.block 2
   (.loop (f6b1 G))))
  (.seq (.ops [⟨some 2, none, .op (.mv (.val (.int 0)))⟩])
  (.ret)))))))
def f6 (G : Nat → AVal) : AFn := ⟨80, [.tmp 2], f6m G⟩

theorem f6_c (G : Nat → AVal) : cmpFn Tryd.prog G [] 6 = some (f6 G) := by kernel_rfl

def f10b0 (G : Nat → AVal) : MC :=
  .seq (.seq (.ops [⟨some 30, none, .op (.mv 5)⟩,
    ⟨some 31, none, .op (.faddr 2 2)⟩,
    ⟨some 32, none, .op (.load false 1 31)⟩,
    ⟨some 33, none, .op (.lenS 32)⟩,
    ⟨some 34, none, .op (.bin .lss .int 30 33)⟩])
  (.cond 34
   (.skip)
   (.exit 0)))
  (.seq (.block 1
   (.seq (.draw (.rd [⟨0, ⟨some 37, none, .op (.faddr 2 2)⟩, false, true⟩,
      ⟨1, ⟨some 38, none, .op (.load false 1 37)⟩, false, true⟩,
      ⟨2, ⟨some 39, none, .op (.mv 5)⟩, false, true⟩,
      ⟨3, ⟨some 40, none, .op (.iaddr 3 38 39)⟩, false, true⟩,
      ⟨4, ⟨some 41, none, .op (.load true 3 40)⟩, false, true⟩,
      ⟨5, ⟨some 42, none, .op (.faddr 2 3)⟩, false, true⟩,
      ⟨6, ⟨some 43, none, .op (.load false 1 42)⟩, false, true⟩,
      ⟨7, ⟨some 44, none, .op (.mv 5)⟩, false, true⟩,
      ⟨8, ⟨some 45, none, .op (.iaddr 3 43 44)⟩, false, true⟩,
      ⟨9, ⟨some 46, none, .op (.load true 3 45)⟩, false, true⟩]
    (.or (.ef ⟨10, ⟨some 6, none, .op (.alloc 3 [.str [], .nilS, .bool false])⟩, true, false⟩ [0, 1, 2, 3, 4, 5, 6, 7, 8, 9]
    (.ef ⟨11, ⟨some 7, none, .op (.alloc 3 [.str [], .nilS, .bool false])⟩, true, false⟩ [0, 1, 2, 3, 4, 5, 6, 7, 8, 9]
    (.ef ⟨12, ⟨none, none, .op (.store true 3 6 41)⟩, true, false⟩ [5, 6, 7, 8, 9]
    (.ef ⟨13, ⟨none, none, .op (.store true 3 7 46)⟩, true, false⟩ []
    (.nil)))))
    (.ef ⟨11, ⟨some 7, none, .op (.alloc 3 [.str [], .nilS, .bool false])⟩, true, false⟩ [0, 1, 2, 3, 4, 5, 6, 7, 8, 9]
    (.ef ⟨10, ⟨some 6, none, .op (.alloc 3 [.str [], .nilS, .bool false])⟩, true, false⟩ [0, 1, 2, 3, 4, 5, 6, 7, 8, 9]
    (.ef ⟨12, ⟨none, none, .op (.store true 3 6 41)⟩, true, false⟩ [5, 6, 7, 8, 9]
    (.ef ⟨13, ⟨none, none, .op (.store true 3 7 46)⟩, true, false⟩ []
    (.nil))))))))
   (.seq (.ops [⟨some 47, none, .op (.faddr 0 6)⟩,
     ⟨some 48, none, .op (.load false 1 47)⟩,
     ⟨some 49, none, .op (.faddr 0 7)⟩,
     ⟨some 50, none, .op (.load false 1 49)⟩,
     ⟨some 51, none, .op (.bin .neq .str 48 50)⟩,
     ⟨some 52, none, .op (.mv 51)⟩,
     ⟨some 53, some (52, false), .op (.faddr 2 6)⟩,
     ⟨some 54, some (52, false), .op (.load false 1 53)⟩,
     ⟨some 55, some (52, false), .op (.faddr 2 7)⟩,
     ⟨some 56, some (52, false), .op (.load false 1 55)⟩,
     ⟨some 57, some (52, false), .op (.bin .neq .bool 54 56)⟩,
     ⟨some 58, none, .op (.pick 52 (.val (.bool true)) 57)⟩,
     ⟨some 59, none, .op (.mv 58)⟩,
     ⟨some 60, some (59, false), .op (.faddr 1 6)⟩,
     ⟨some 61, some (59, false), .op (.load false 1 60)⟩,
     ⟨some 62, some (59, false), .op (.faddr 1 7)⟩,
     ⟨some 63, some (59, false), .op (.load false 1 62)⟩,
     ⟨some 64, some (59, false), .call 31 [61, 63]⟩,
     ⟨some 65, some (59, false), .op (.un .not 64)⟩,
     ⟨some 66, none, .op (.pick 59 (.val (.bool true)) 65)⟩])
   (.cond 66
    (.seq (.ops [⟨some 4, none, .op (.mv (.val (.bool false)))⟩])
    (.ret))
    (.skip)))))
  (.ops [⟨some 35, none, .op (.mv 5)⟩,
    ⟨some 36, none, .op (.bin .add .int 35 (.val (.int 1)))⟩,
    ⟨some 5, none, .op (.mv 36)⟩]))

def f10m (G : Nat → AVal) : MC :=
  .seq (.ops [⟨some 2, none, .op (.box true 3 0)⟩,
    ⟨some 3, none, .op (.box true 3 1)⟩,
    ⟨some 4, none, .op (.mv (.val (.bool false)))⟩])
  (.seq (.seq (.ops [⟨some 8, none, .op (.faddr 0 2)⟩,
    ⟨some 9, none, .op (.load false 1 8)⟩,
    ⟨some 10, none, .op (.faddr 0 3)⟩,
    ⟨some 11, none, .op (.load false 1 10)⟩,
    ⟨some 12, none, .op (.bin .neq .str 9 11)⟩,
    ⟨some 13, none, .op (.mv 12)⟩,
    ⟨some 14, some (13, false), .op (.faddr 1 2)⟩,
    ⟨some 15, some (13, false), .op (.load false 1 14)⟩,
    ⟨some 16, some (13, false), .op (.faddr 1 3)⟩,
    ⟨some 17, some (13, false), .op (.load false 1 16)⟩,
    ⟨some 18, some (13, false), .call 30 [15, 17]⟩,
    ⟨some 19, some (13, false), .op (.un .not 18)⟩,
    ⟨some 20, none, .op (.pick 13 (.val (.bool true)) 19)⟩,
    ⟨some 21, none, .op (.mv 20)⟩,
    ⟨some 22, some (21, false), .op (.faddr 2 2)⟩,
    ⟨some 23, some (21, false), .op (.load false 1 22)⟩,
    ⟨some 24, some (21, false), .op (.lenS 23)⟩,
    ⟨some 25, some (21, false), .op (.faddr 2 3)⟩,
    ⟨some 26, some (21, false), .op (.load false 1 25)⟩,
    ⟨some 27, some (21, false), .op (.lenS 26)⟩,
    ⟨some 28, some (21, false), .op (.bin .neq .int 24 27)⟩,
    ⟨some 29, none, .op (.pick 21 (.val (.bool true)) 28)⟩])
  (.cond 29
   (.seq (.ops [⟨some 4, none, .op (.mv (.val (.bool false)))⟩])
   (.ret))
   (.skip)))
  (.seq (.seq (.ops [⟨some 5, none, .op (.mv (.val (.int 0)))⟩])
  (.block 0
   (.loop (f10b0 G))))
  (.seq (.ops [⟨some 4, none, .op (.mv (.val (.bool true)))⟩])
  (.ret))))
def f10 (G : Nat → AVal) : AFn := ⟨67, [.tmp 4], f10m G⟩

theorem f10_c (G : Nat → AVal) : cmpFn Tryd.prog G [] 10 = some (f10 G) := by kernel_rfl

def f33b0 (G : Nat → AVal) : MC :=
  .seq (.ops [⟨some 16, none, .op (.bin .lss .int 15 14)⟩])
  (.seq (.cond 16
   (.skip)
   (.exit 0))
  (.seq (.block 1
   (.seq (.ops [⟨some 17, none, .op (.mv 15)⟩,
     ⟨some 18, none, .op (.iaddr 3 13 15)⟩,
     ⟨some 19, none, .op (.load true 3 18)⟩,
     ⟨some 4, none, .op (.alloc 3 [.str [], .int 0, .bool false])⟩,
     ⟨some 3, none, .op (.mv 17)⟩,
     ⟨none, none, .op (.store true 3 4 19)⟩])
   (.block 2
    (.seq (.ops [⟨some 21, none, .op (.faddr 0 4)⟩,
      ⟨some 22, none, .op (.load false 1 21)⟩,
      ⟨some 23, none, .call 32 [22]⟩,
      ⟨some 24, none, .op (.un .not 23)⟩,
      ⟨some 20, none, .op (.mv 24)⟩])
    (.cond 20
     (.seq (.ops [⟨some 2, none, .op (.mv (.val (.int 150)))⟩])
     (.ret))
     (.seq (.ops [⟨some 26, none, .op (.faddr 1 4)⟩,
       ⟨some 27, none, .op (.load false 1 26)⟩,
       ⟨some 28, none, .op (.bin .lss .int 27 (.val (.int 1)))⟩,
       ⟨some 29, none, .op (.mv 28)⟩,
       ⟨some 30, some (29, false), .op (.faddr 1 4)⟩,
       ⟨some 31, some (29, false), .op (.load false 1 30)⟩,
       ⟨some 32, some (29, false), .op (.bin .gtr .int 31 (.val (.int 4)))⟩,
       ⟨some 33, none, .op (.pick 29 (.val (.bool true)) 32)⟩,
       ⟨some 25, none, .op (.mv 33)⟩])
     (.cond 25
      (.seq (.ops [⟨some 2, none, .op (.mv (.val (.int 30)))⟩])
      (.ret))
      (.seq (.ops [⟨some 35, none, .op (.mv 0)⟩,
        ⟨some 36, none, .op (.mv 3)⟩,
        ⟨some 37, none, .op (.slc 3 35 none (some 36) none)⟩,
        ⟨some 38, none, .op (.mkfn (.func 56) [] [4])⟩,
        ⟨some 39, none, .call 55 [37, 38]⟩,
        ⟨some 34, none, .op (.mv 39)⟩])
      (.cond 34
       (.seq (.ops [⟨some 2, none, .op (.mv (.val (.int 163)))⟩])
       (.ret))
       (.skip))))))))))
  (.ops [⟨some 40, none, .op (.bin .add .int 15 (.val (.int 1)))⟩,
    ⟨some 15, none, .op (.mv 40)⟩])))

def f33m (G : Nat → AVal) : MC :=
  .seq (.ops [⟨some 2, none, .op (.mv (.val (.int 0)))⟩])
  (.seq (.seq (.ops [⟨some 5, none, .op (.mv 0)⟩,
    ⟨some 6, none, .op (.lenS 5)⟩,
    ⟨some 7, none, .op (.bin .lss .int 6 (.val (.int 1)))⟩,
    ⟨some 8, none, .op (.mv 7)⟩,
    ⟨some 9, some (8, false), .op (.mv 0)⟩,
    ⟨some 10, some (8, false), .op (.lenS 9)⟩,
    ⟨some 11, some (8, false), .op (.bin .gtr .int 10 (.val (.int 16)))⟩,
    ⟨some 12, none, .op (.pick 8 (.val (.bool true)) 11)⟩])
  (.cond 12
   (.seq (.ops [⟨some 2, none, .op (.mv (.val (.int 151)))⟩])
   (.ret))
   (.skip)))
  (.seq (.seq (.ops [⟨some 13, none, .op (.mv 0)⟩,
    ⟨some 14, none, .op (.lenS 13)⟩,
    ⟨some 15, none, .op (.mv (.val (.int 0)))⟩])
  (.block 0
   (.loop (f33b0 G))))
  (.seq (.ops [⟨some 2, none, .op (.mv (.val (.int 0)))⟩])
  (.ret))))
def f33 (G : Nat → AVal) : AFn := ⟨41, [.tmp 2], f33m G⟩

theorem f33_c (G : Nat → AVal) : cmpFn Tryd.prog G [] 33 = some (f33 G) := by kernel_rfl


def f34m (G : Nat → AVal) : MC :=
  .seq (.ops [⟨some 4, none, .op (.mv (.val (.bool false)))⟩])
  (.seq (.ops [⟨some 5, none, .op (.mv 0)⟩,
    ⟨some 6, none, .op (.mv 1)⟩,
    ⟨some 7, none, .call 57 [5, 6]⟩,
    ⟨some 8, none, .op (.bin .geq .int 7 (.val (.int 0)))⟩,
    ⟨some 4, none, .op (.mv 8)⟩])
  (.ret))
def f34 (G : Nat → AVal) : AFn := ⟨9, [.tmp 4], f34m G⟩

theorem f34_c (G : Nat → AVal) : cmpFn Tryd.prog G [] 34 = some (f34 G) := by kernel_rfl


def f35m (G : Nat → AVal) : MC :=
  .seq (.ops [⟨some 2, none, .op (.box true 3 0)⟩,
    ⟨some 3, none, .op (.mv (.val (.bool false)))⟩])
  (.seq (.ops [⟨some 4, none, .op (.faddr 0 2)⟩,
    ⟨some 5, none, .op (.load false 1 4)⟩,
    ⟨some 6, none, .op (.faddr 0 1)⟩,
    ⟨some 7, none, .op (.load false 1 6)⟩,
    ⟨some 8, none, .op (.bin .eql .str 5 7)⟩,
    ⟨some 3, none, .op (.mv 8)⟩])
  (.ret))
def f35 (G : Nat → AVal) : AFn := ⟨9, [.tmp 3], f35m G⟩

theorem f35_c (G : Nat → AVal) : cmpFn Tryd.prog G [] 35 = some (f35 G) := by kernel_rfl


def f36m (G : Nat → AVal) : MC :=
  .seq (.ops [⟨some 4, none, .op (.mv (.val (.bool false)))⟩])
  (.seq (.ops [⟨some 5, none, .op (.mv 0)⟩,
    ⟨some 6, none, .op (.mv 1)⟩,
    ⟨some 7, none, .call 58 [5, 6]⟩,
    ⟨some 8, none, .op (.bin .geq .int 7 (.val (.int 0)))⟩,
    ⟨some 4, none, .op (.mv 8)⟩])
  (.ret))
def f36 (G : Nat → AVal) : AFn := ⟨9, [.tmp 4], f36m G⟩

theorem f36_c (G : Nat → AVal) : cmpFn Tryd.prog G [] 36 = some (f36 G) := by kernel_rfl

def f16b0 (G : Nat → AVal) : MC :=
  .seq (.seq (.ops [⟨some 6, none, .op (.mv 5)⟩,
    ⟨some 7, none, .op (.mv 0)⟩,
    ⟨some 8, none, .op (.lenS 7)⟩,
    ⟨some 9, none, .op (.bin .lss .int 6 8)⟩])
  (.cond 9
   (.skip)
   (.exit 0)))
  (.seq (.block 1
   (.seq (.ops [⟨some 12, none, .op (.mv 0)⟩,
     ⟨some 13, none, .op (.mv 5)⟩,
     ⟨some 14, none, .op (.iaddr 3 12 13)⟩,
     ⟨some 15, none, .op (.faddr 0 14)⟩,
     ⟨some 16, none, .op (.load false 1 15)⟩,
     ⟨some 17, none, .op (.mv 1)⟩,
     ⟨some 18, none, .op (.bin .eql .str 16 17)⟩])
   (.cond 18
    (.seq (.ops [⟨some 19, none, .op (.mv 5)⟩,
      ⟨some 4, none, .op (.mv 19)⟩])
    (.ret))
    (.skip))))
  (.ops [⟨some 10, none, .op (.mv 5)⟩,
    ⟨some 11, none, .op (.bin .add .int 10 (.val (.int 1)))⟩,
    ⟨some 5, none, .op (.mv 11)⟩]))

def f16m (G : Nat → AVal) : MC :=
  .seq (.ops [⟨some 4, none, .op (.mv (.val (.int 0)))⟩])
  (.seq (.seq (.ops [⟨some 5, none, .op (.mv (.val (.int 0)))⟩])
  (.block 0
   (.loop (f16b0 G))))
  (.seq (.ops [⟨some 4, none, .op (.mv (.val (.int (-1))))⟩])
  (.ret)))
def f16 (G : Nat → AVal) : AFn := ⟨20, [.tmp 4], f16m G⟩

theorem f16_c (G : Nat → AVal) : cmpFn Tryd.prog G [] 16 = some (f16 G) := by kernel_rfl

def f17b0 (G : Nat → AVal) : MC :=
  .seq (.seq (.ops [⟨some 18, none, .op (.mv 6)⟩,
    ⟨some 19, none, .op (.mv 1)⟩,
    ⟨some 20, none, .op (.bin .lss .int 18 19)⟩])
  (.cond 20
   (.skip)
   (.exit 0)))
  (.seq (.block 1
   (.seq (.draw (.rd [⟨0, ⟨some 23, none, .op (.faddr 2 2)⟩, false, false⟩,
      ⟨1, ⟨some 24, none, .op (.load false 1 23)⟩, false, false⟩,
      ⟨2, ⟨some 25, none, .op (.mv 6)⟩, false, false⟩,
      ⟨3, ⟨some 26, none, .op (.iaddr 3 24 25)⟩, false, false⟩,
      ⟨4, ⟨some 27, none, .op (.faddr 0 26)⟩, false, false⟩,
      ⟨5, ⟨some 28, none, .op (.load false 1 27)⟩, false, false⟩,
      ⟨6, ⟨some 29, none, .op (.faddr 0 5)⟩, false, false⟩,
      ⟨7, ⟨some 30, none, .op (.load false 1 29)⟩, false, false⟩,
      ⟨8, ⟨some 31, none, .op (.bin .eql .str 28 30)⟩, false, false⟩]
    (.nil)))
   (.cond 31
    (.seq (.ops [⟨some 4, none, .op (.mv (.val (.int 163)))⟩])
    (.ret))
    (.skip))))
  (.ops [⟨some 21, none, .op (.mv 6)⟩,
    ⟨some 22, none, .op (.bin .add .int 21 (.val (.int 1)))⟩,
    ⟨some 6, none, .op (.mv 22)⟩]))

def f17b1 (G : Nat → AVal) : MC :=
  .seq (.seq (.ops [⟨some 66, none, .op (.mv 8)⟩,
    ⟨some 67, none, .op (.mv 7)⟩,
    ⟨some 68, none, .op (.bin .lss .int 66 67)⟩])
  (.cond 68
   (.skip)
   (.exit 4)))
  (.seq (.block 5
   (.seq (.draw (.rd [⟨0, ⟨some 71, none, .op (.faddr 1 5)⟩, false, false⟩,
      ⟨1, ⟨some 72, none, .op (.load false 1 71)⟩, false, false⟩,
      ⟨2, ⟨some 73, none, .op (.mv 8)⟩, false, false⟩,
      ⟨3, ⟨some 74, none, .op (.iaddr 1 72 73)⟩, false, false⟩,
      ⟨4, ⟨some 75, none, .op (.load false 1 74)⟩, false, false⟩,
      ⟨5, ⟨some 76, none, .op (.faddr 1 5)⟩, false, false⟩,
      ⟨6, ⟨some 77, none, .op (.load false 1 76)⟩, false, false⟩,
      ⟨7, ⟨some 78, none, .op (.mv 7)⟩, false, false⟩,
      ⟨8, ⟨some 79, none, .op (.iaddr 1 77 78)⟩, false, false⟩,
      ⟨9, ⟨some 80, none, .op (.load false 1 79)⟩, false, false⟩,
      ⟨10, ⟨some 81, none, .op (.bin .eql .int 75 80)⟩, false, false⟩]
    (.nil)))
   (.cond 81
    (.seq (.ops [⟨some 4, none, .op (.mv (.val (.int 163)))⟩])
    (.ret))
    (.skip))))
  (.ops [⟨some 69, none, .op (.mv 8)⟩,
    ⟨some 70, none, .op (.bin .add .int 69 (.val (.int 1)))⟩,
    ⟨some 8, none, .op (.mv 70)⟩]))

def f17b2 (G : Nat → AVal) : MC :=
  .seq (.seq (.ops [⟨some 42, none, .op (.mv 7)⟩,
    ⟨some 43, none, .op (.faddr 1 5)⟩,
    ⟨some 44, none, .op (.load false 1 43)⟩,
    ⟨some 45, none, .op (.lenS 44)⟩,
    ⟨some 46, none, .op (.bin .lss .int 42 45)⟩])
  (.cond 46
   (.skip)
   (.exit 2)))
  (.seq (.block 3
   (.seq (.seq (.draw (.rd [⟨0, ⟨some 49, none, .op (.faddr 1 5)⟩, false, false⟩,
      ⟨1, ⟨some 50, none, .op (.load false 1 49)⟩, false, false⟩,
      ⟨2, ⟨some 51, none, .op (.mv 7)⟩, false, false⟩,
      ⟨3, ⟨some 52, none, .op (.iaddr 1 50 51)⟩, false, false⟩,
      ⟨4, ⟨some 53, none, .op (.load false 1 52)⟩, false, false⟩,
      ⟨5, ⟨some 54, none, .op (.bin .lss .int 53 (.val (.int 0)))⟩, false, false⟩,
      ⟨6, ⟨some 55, none, .op (.mv 54)⟩, false, false⟩,
      ⟨7, ⟨some 56, some (55, false), .op (.faddr 1 5)⟩, false, false⟩,
      ⟨8, ⟨some 57, some (55, false), .op (.load false 1 56)⟩, false, false⟩,
      ⟨9, ⟨some 58, some (55, false), .op (.mv 7)⟩, false, false⟩,
      ⟨10, ⟨some 59, some (55, false), .op (.iaddr 1 57 58)⟩, false, false⟩,
      ⟨11, ⟨some 60, some (55, false), .op (.load false 1 59)⟩, false, false⟩,
      ⟨12, ⟨some 61, some (55, false), .op (.faddr 1 2)⟩, false, false⟩,
      ⟨13, ⟨some 62, some (55, false), .op (.load false 1 61)⟩, false, false⟩,
      ⟨14, ⟨some 63, some (55, false), .op (.lenS 62)⟩, false, false⟩,
      ⟨15, ⟨some 64, some (55, false), .op (.bin .geq .int 60 63)⟩, false, false⟩,
      ⟨16, ⟨some 65, none, .op (.pick 55 (.val (.bool true)) 64)⟩, false, false⟩]
    (.nil)))
   (.cond 65
    (.seq (.ops [⟨some 4, none, .op (.mv (.val (.int 161)))⟩])
    (.ret))
    (.skip)))
   (.seq (.ops [⟨some 8, none, .op (.mv (.val (.int 0)))⟩])
   (.block 4
    (.loop (f17b1 G))))))
  (.ops [⟨some 47, none, .op (.mv 7)⟩,
    ⟨some 48, none, .op (.bin .add .int 47 (.val (.int 1)))⟩,
    ⟨some 7, none, .op (.mv 48)⟩]))

def f17m (G : Nat → AVal) : MC :=
  .seq (.ops [⟨some 2, none, .op (.box true 3 0)⟩,
    ⟨some 4, none, .op (.mv (.val (.int 0)))⟩])
  (.seq (.ops [⟨some 9, none, .op (.faddr 2 2)⟩,
    ⟨some 10, none, .op (.load false 1 9)⟩,
    ⟨some 11, none, .op (.mv 1)⟩,
    ⟨some 12, none, .op (.iaddr 3 10 11)⟩,
    ⟨some 13, none, .op (.load true 3 12)⟩,
    ⟨some 5, none, .op (.alloc 3 [.str [], .nilS, .bool false])⟩,
    ⟨none, none, .op (.store true 3 5 13)⟩])
  (.seq (.seq (.ops [⟨some 14, none, .op (.faddr 0 5)⟩,
    ⟨some 15, none, .op (.load false 1 14)⟩,
    ⟨some 16, none, .call 15 [15]⟩,
    ⟨some 17, none, .op (.un .not 16)⟩])
  (.cond 17
   (.seq (.ops [⟨some 4, none, .op (.mv (.val (.int 150)))⟩])
   (.ret))
   (.skip)))
  (.seq (.seq (.ops [⟨some 6, none, .op (.mv (.val (.int 0)))⟩])
  (.block 0
   (.loop (f17b0 G))))
  (.seq (.seq (.ops [⟨some 32, none, .op (.faddr 1 5)⟩,
    ⟨some 33, none, .op (.load false 1 32)⟩,
    ⟨some 34, none, .op (.lenS 33)⟩,
    ⟨some 35, none, .op (.bin .eql .int 34 (.val (.int 0)))⟩,
    ⟨some 36, none, .op (.mv 35)⟩,
    ⟨some 37, some (36, false), .op (.faddr 1 5)⟩,
    ⟨some 38, some (36, false), .op (.load false 1 37)⟩,
    ⟨some 39, some (36, false), .op (.lenS 38)⟩,
    ⟨some 40, some (36, false), .op (.bin .gtr .int 39 (.val (.int 4)))⟩,
    ⟨some 41, none, .op (.pick 36 (.val (.bool true)) 40)⟩])
  (.cond 41
   (.seq (.ops [⟨some 4, none, .op (.mv (.val (.int 151)))⟩])
   (.ret))
   (.skip)))
  (.seq (.seq (.ops [⟨some 7, none, .op (.mv (.val (.int 0)))⟩])
  (.block 2
   (.loop (f17b2 G))))
  (.seq (.ops [⟨some 4, none, .op (.mv (.val (.int 0)))⟩])
  (.ret)))))))
def f17 (G : Nat → AVal) : AFn := ⟨82, [.tmp 4], f17m G⟩

theorem f17_c (G : Nat → AVal) : cmpFn Tryd.prog G [] 17 = some (f17 G) := by kernel_rfl

def f30b0 (G : Nat → AVal) : MC :=
  .seq (.seq (.ops [⟨some 11, none, .op (.mv 5)⟩,
    ⟨some 12, none, .op (.mv 0)⟩,
    ⟨some 13, none, .op (.lenS 12)⟩,
    ⟨some 14, none, .op (.bin .lss .int 11 13)⟩])
  (.cond 14
   (.skip)
   (.exit 0)))
  (.seq (.block 1
   (.seq (.draw (.rd [⟨0, ⟨some 17, none, .op (.mv 0)⟩, false, false⟩,
      ⟨1, ⟨some 18, none, .op (.mv 5)⟩, false, false⟩,
      ⟨2, ⟨some 19, none, .op (.iaddr 3 17 18)⟩, false, false⟩,
      ⟨3, ⟨some 20, none, .op (.load true 3 19)⟩, false, false⟩,
      ⟨4, ⟨some 21, none, .op (.mv 1)⟩, false, false⟩,
      ⟨5, ⟨some 22, none, .op (.mv 5)⟩, false, false⟩,
      ⟨6, ⟨some 23, none, .op (.iaddr 3 21 22)⟩, false, false⟩,
      ⟨7, ⟨some 24, none, .op (.load true 3 23)⟩, false, false⟩,
      ⟨8, ⟨some 25, none, .op (.bin .neq (.agg [(false, 0, 1, .str), (false, 1, 1, .int), (false, 2, 1, .bool)]) 20 24)⟩, false, false⟩]
    (.nil)))
   (.cond 25
    (.seq (.ops [⟨some 4, none, .op (.mv (.val (.bool false)))⟩])
    (.ret))
    (.skip))))
  (.ops [⟨some 15, none, .op (.mv 5)⟩,
    ⟨some 16, none, .op (.bin .add .int 15 (.val (.int 1)))⟩,
    ⟨some 5, none, .op (.mv 16)⟩]))

def f30m (G : Nat → AVal) : MC :=
  .seq (.ops [⟨some 4, none, .op (.mv (.val (.bool false)))⟩])
  (.seq (.seq (.ops [⟨some 6, none, .op (.mv 0)⟩,
    ⟨some 7, none, .op (.lenS 6)⟩,
    ⟨some 8, none, .op (.mv 1)⟩,
    ⟨some 9, none, .op (.lenS 8)⟩,
    ⟨some 10, none, .op (.bin .neq .int 7 9)⟩])
  (.cond 10
   (.seq (.ops [⟨some 4, none, .op (.mv (.val (.bool false)))⟩])
   (.ret))
   (.skip)))
  (.seq (.seq (.ops [⟨some 5, none, .op (.mv (.val (.int 0)))⟩])
  (.block 0
   (.loop (f30b0 G))))
  (.seq (.ops [⟨some 4, none, .op (.mv (.val (.bool true)))⟩])
  (.ret))))
def f30 (G : Nat → AVal) : AFn := ⟨26, [.tmp 4], f30m G⟩

theorem f30_c (G : Nat → AVal) : cmpFn Tryd.prog G [] 30 = some (f30 G) := by kernel_rfl

def f31b0 (G : Nat → AVal) : MC :=
  .seq (.seq (.ops [⟨some 11, none, .op (.mv 5)⟩,
    ⟨some 12, none, .op (.mv 0)⟩,
    ⟨some 13, none, .op (.lenS 12)⟩,
    ⟨some 14, none, .op (.bin .lss .int 11 13)⟩])
  (.cond 14
   (.skip)
   (.exit 0)))
  (.seq (.block 1
   (.seq (.draw (.rd [⟨0, ⟨some 17, none, .op (.mv 0)⟩, false, false⟩,
      ⟨1, ⟨some 18, none, .op (.mv 5)⟩, false, false⟩,
      ⟨2, ⟨some 19, none, .op (.iaddr 1 17 18)⟩, false, false⟩,
      ⟨3, ⟨some 20, none, .op (.load false 1 19)⟩, false, false⟩,
      ⟨4, ⟨some 21, none, .op (.mv 1)⟩, false, false⟩,
      ⟨5, ⟨some 22, none, .op (.mv 5)⟩, false, false⟩,
      ⟨6, ⟨some 23, none, .op (.iaddr 1 21 22)⟩, false, false⟩,
      ⟨7, ⟨some 24, none, .op (.load false 1 23)⟩, false, false⟩,
      ⟨8, ⟨some 25, none, .op (.bin .neq .int 20 24)⟩, false, false⟩]
    (.nil)))
   (.cond 25
    (.seq (.ops [⟨some 4, none, .op (.mv (.val (.bool false)))⟩])
    (.ret))
    (.skip))))
  (.ops [⟨some 15, none, .op (.mv 5)⟩,
    ⟨some 16, none, .op (.bin .add .int 15 (.val (.int 1)))⟩,
    ⟨some 5, none, .op (.mv 16)⟩]))

def f31m (G : Nat → AVal) : MC :=
  .seq (.ops [⟨some 4, none, .op (.mv (.val (.bool false)))⟩])
  (.seq (.seq (.ops [⟨some 6, none, .op (.mv 0)⟩,
    ⟨some 7, none, .op (.lenS 6)⟩,
    ⟨some 8, none, .op (.mv 1)⟩,
    ⟨some 9, none, .op (.lenS 8)⟩,
    ⟨some 10, none, .op (.bin .neq .int 7 9)⟩])
  (.cond 10
   (.seq (.ops [⟨some 4, none, .op (.mv (.val (.bool false)))⟩])
   (.ret))
   (.skip)))
  (.seq (.seq (.ops [⟨some 5, none, .op (.mv (.val (.int 0)))⟩])
  (.block 0
   (.loop (f31b0 G))))
  (.seq (.ops [⟨some 4, none, .op (.mv (.val (.bool true)))⟩])
  (.ret))))
def f31 (G : Nat → AVal) : AFn := ⟨26, [.tmp 4], f31m G⟩

theorem f31_c (G : Nat → AVal) : cmpFn Tryd.prog G [] 31 = some (f31 G) := by kernel_rfl


def f55m (G : Nat → AVal) : MC :=
  .seq (.ops [⟨some 4, none, .op (.mv (.val (.bool false)))⟩])
  (.seq (.ops [⟨some 5, none, .op (.mv 0)⟩,
    ⟨some 6, none, .op (.mv 1)⟩,
    ⟨some 7, none, .call 28 [5, 6]⟩,
    ⟨some 8, none, .op (.bin .geq .int 7 (.val (.int 0)))⟩,
    ⟨some 4, none, .op (.mv 8)⟩])
  (.ret))
def f55 (G : Nat → AVal) : AFn := ⟨9, [.tmp 4], f55m G⟩

theorem f55_c (G : Nat → AVal) : cmpFn Tryd.prog G [] 55 = some (f55 G) := by kernel_rfl


def f56m (G : Nat → AVal) : MC :=
  .seq (.ops [⟨some 2, none, .op (.box true 3 0)⟩,
    ⟨some 3, none, .op (.mv (.val (.bool false)))⟩])
  (.seq (.ops [⟨some 4, none, .op (.faddr 0 2)⟩,
    ⟨some 5, none, .op (.load false 1 4)⟩,
    ⟨some 6, none, .op (.faddr 0 1)⟩,
    ⟨some 7, none, .op (.load false 1 6)⟩,
    ⟨some 8, none, .op (.bin .eql .str 5 7)⟩,
    ⟨some 3, none, .op (.mv 8)⟩])
  (.ret))
def f56 (G : Nat → AVal) : AFn := ⟨9, [.tmp 3], f56m G⟩

theorem f56_c (G : Nat → AVal) : cmpFn Tryd.prog G [] 56 = some (f56 G) := by kernel_rfl

def f28b0 (G : Nat → AVal) : MC :=
  .seq (.ops [⟨some 9, none, .op (.bin .lss .int 8 7)⟩])
  (.seq (.cond 9
   (.skip)
   (.exit 0))
  (.seq (.block 1
   (.seq (.ops [⟨some 10, none, .op (.mv 8)⟩,
     ⟨some 5, none, .op (.mv 10)⟩])
   (.seq (.ops [⟨some 11, none, .op (.mv 1)⟩,
     ⟨some 12, none, .op (.mv 0)⟩,
     ⟨some 13, none, .op (.mv 5)⟩,
     ⟨some 14, none, .op (.iaddr 3 12 13)⟩,
     ⟨some 15, none, .op (.load true 3 14)⟩,
     ⟨some 16, none, .callV 11 [15]⟩])
   (.cond 16
    (.seq (.ops [⟨some 17, none, .op (.mv 5)⟩,
      ⟨some 4, none, .op (.mv 17)⟩])
    (.ret))
    (.skip)))))
  (.ops [⟨some 18, none, .op (.bin .add .int 8 (.val (.int 1)))⟩,
    ⟨some 8, none, .op (.mv 18)⟩])))

def f28m (G : Nat → AVal) : MC :=
  .seq (.ops [⟨some 4, none, .op (.mv (.val (.int 0)))⟩])
  (.seq (.seq (.ops [⟨some 6, none, .op (.mv 0)⟩,
    ⟨some 7, none, .op (.lenS 6)⟩,
    ⟨some 8, none, .op (.mv (.val (.int 0)))⟩])
  (.block 0
   (.loop (f28b0 G))))
  (.seq (.ops [⟨some 4, none, .op (.mv (.val (.int (-1))))⟩])
  (.ret)))
def f28 (G : Nat → AVal) : AFn := ⟨19, [.tmp 4], f28m G⟩

theorem f28_c (G : Nat → AVal) : cmpFn Tryd.prog G [] 28 = some (f28 G) := by kernel_rfl


def f29m (G : Nat → AVal) : MC :=
  .seq (.ops [⟨some 2, none, .op (.box true 3 0)⟩,
    ⟨some 3, none, .op (.mv (.val (.bool false)))⟩])
  (.seq (.ops [⟨some 4, none, .op (.faddr 0 2)⟩,
    ⟨some 5, none, .op (.load false 1 4)⟩,
    ⟨some 6, none, .op (.load false 1 1)⟩,
    ⟨some 7, none, .op (.bin .eql .str 5 6)⟩,
    ⟨some 3, none, .op (.mv 7)⟩])
  (.ret))
def f29 (G : Nat → AVal) : AFn := ⟨8, [.tmp 3], f29m G⟩

theorem f29_c (G : Nat → AVal) : cmpFn Tryd.prog G [] 29 = some (f29 G) := by kernel_rfl

def f57b0 (G : Nat → AVal) : MC :=
  .seq (.ops [⟨some 9, none, .op (.bin .lss .int 8 7)⟩])
  (.seq (.cond 9
   (.skip)
   (.exit 0))
  (.seq (.block 1
   (.seq (.ops [⟨some 10, none, .op (.mv 8)⟩,
     ⟨some 5, none, .op (.mv 10)⟩])
   (.seq (.ops [⟨some 11, none, .op (.mv 1)⟩,
     ⟨some 12, none, .op (.mv 0)⟩,
     ⟨some 13, none, .op (.mv 5)⟩,
     ⟨some 14, none, .op (.iaddr 3 12 13)⟩,
     ⟨some 15, none, .op (.load true 3 14)⟩,
     ⟨some 16, none, .callV 11 [15]⟩])
   (.cond 16
    (.seq (.ops [⟨some 17, none, .op (.mv 5)⟩,
      ⟨some 4, none, .op (.mv 17)⟩])
    (.ret))
    (.skip)))))
  (.ops [⟨some 18, none, .op (.bin .add .int 8 (.val (.int 1)))⟩,
    ⟨some 8, none, .op (.mv 18)⟩])))

def f57m (G : Nat → AVal) : MC :=
  .seq (.ops [⟨some 4, none, .op (.mv (.val (.int 0)))⟩])
  (.seq (.seq (.ops [⟨some 6, none, .op (.mv 0)⟩,
    ⟨some 7, none, .op (.lenS 6)⟩,
    ⟨some 8, none, .op (.mv (.val (.int 0)))⟩])
  (.block 0
   (.loop (f57b0 G))))
  (.seq (.ops [⟨some 4, none, .op (.mv (.val (.int (-1))))⟩])
  (.ret)))
def f57 (G : Nat → AVal) : AFn := ⟨19, [.tmp 4], f57m G⟩

theorem f57_c (G : Nat → AVal) : cmpFn Tryd.prog G [] 57 = some (f57 G) := by kernel_rfl

def f58b0 (G : Nat → AVal) : MC :=
  .seq (.ops [⟨some 9, none, .op (.bin .lss .int 8 7)⟩])
  (.seq (.cond 9
   (.skip)
   (.exit 0))
  (.seq (.block 1
   (.seq (.ops [⟨some 10, none, .op (.mv 8)⟩,
     ⟨some 5, none, .op (.mv 10)⟩])
   (.seq (.ops [⟨some 11, none, .op (.mv 1)⟩,
     ⟨some 12, none, .op (.mv 0)⟩,
     ⟨some 13, none, .op (.mv 5)⟩,
     ⟨some 14, none, .op (.iaddr 1 12 13)⟩,
     ⟨some 15, none, .op (.load false 1 14)⟩,
     ⟨some 16, none, .op (.bin .eql .int 11 15)⟩])
   (.cond 16
    (.seq (.ops [⟨some 17, none, .op (.mv 5)⟩,
      ⟨some 4, none, .op (.mv 17)⟩])
    (.ret))
    (.skip)))))
  (.ops [⟨some 18, none, .op (.bin .add .int 8 (.val (.int 1)))⟩,
    ⟨some 8, none, .op (.mv 18)⟩])))

def f58m (G : Nat → AVal) : MC :=
  .seq (.ops [⟨some 4, none, .op (.mv (.val (.int 0)))⟩])
  (.seq (.seq (.ops [⟨some 6, none, .op (.mv 0)⟩,
    ⟨some 7, none, .op (.lenS 6)⟩,
    ⟨some 8, none, .op (.mv (.val (.int 0)))⟩])
  (.block 0
   (.loop (f58b0 G))))
  (.seq (.ops [⟨some 4, none, .op (.mv (.val (.int (-1))))⟩])
  (.ret)))
def f58 (G : Nat → AVal) : AFn := ⟨19, [.tmp 4], f58m G⟩

theorem f58_c (G : Nat → AVal) : cmpFn Tryd.prog G [] 58 = some (f58 G) := by kernel_rfl

end Go.Abs
