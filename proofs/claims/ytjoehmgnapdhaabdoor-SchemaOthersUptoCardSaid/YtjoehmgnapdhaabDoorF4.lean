/- Written by Show.lean: functions of the seat YtjoehmgnapdhaabDoor, translated; the checks. Conditions: none. -/
import Derived.Test.YtjoehmgnapdhaabDoorA25
import Derived.Test.YtjoehmgnapdhaabDoorProg
import Derived.KernelRfl
set_option linter.unusedVariables false
namespace Go.Abs
open Go Go.RowKit Go.Proofs


def f5m (G : Nat → AVal) : MC :=
  .seq (.ops [⟨some 0, none, .op (.mv (.val (.bool false)))⟩])
  (.seq (.ops [⟨some 6, none, .op (.build [.str [], .int 0, .bool false] [(false, 0, 1, (.val (.str [97]))), (false, 1, 1, (.val (.int 2))), (false, 2, 1, (.val (.bool true)))])⟩,
    ⟨some 7, none, .op (.build [.str [], .int 0, .bool false] [(false, 0, 1, (.val (.str [98]))), (false, 1, 1, (.val (.int 4)))])⟩,
    ⟨some 8, none, .op (.bslice true 3 2 [.str [], .int 0, .bool false] [(0, 6), (1, 7)])⟩,
    ⟨some 9, none, .op (.bslice false 1 2 [.int 0] [(0, (.val (.int 1))), (1, (.val (.int 0)))])⟩,
    ⟨some 10, none, .op (.build [.str [], .nilS, .bool false] [(false, 0, 1, (.val (.str [105]))), (false, 1, 1, 9), (false, 2, 1, (.val (.bool true)))])⟩,
    ⟨some 11, none, .op (.bslice true 3 1 [.str [], .nilS, .bool false] [(0, 10)])⟩,
    ⟨some 12, none, .op (.build [.str [], .nilS, .nilS] [(false, 0, 1, (.val (.str [116]))), (false, 1, 1, 8), (false, 2, 1, 11)])⟩,
    ⟨some 1, none, .op (.alloc 3 [.str [], .nilS, .nilS])⟩,
    ⟨none, none, .op (.store true 3 1 12)⟩])
  (.seq (.draw (.rd [⟨0, ⟨some 13, none, .op (.load true 3 1)⟩, false, false⟩,
     ⟨2, ⟨some 15, none, .op (.load true 3 1)⟩, false, true⟩]
   (.ef ⟨1, ⟨some 14, none, .call 7 [13]⟩, true, false⟩ [2]
   (.ef ⟨3, ⟨some 16, none, .call 8 [15, (.val (.int 0))]⟩, true, false⟩ []
   (.rd [⟨4, ⟨some 2, none, .op (.mv 14)⟩, false, false⟩,
     ⟨5, ⟨some 3, none, .op (.mv 16)⟩, false, false⟩]
   (.nil))))))
  (.seq (.ops [⟨some 18, none, .op (.mv 2)⟩,
    ⟨some 19, none, .op (.mv 3)⟩,
    ⟨some 20, none, .op (.bslice false 1 1 [.nilS] [(0, 19)])⟩,
    ⟨some 21, none, .call 9 [(.val (.str [116])), 18, 20]⟩,
    ⟨some 17, none, .op (.mv 21)⟩,
    ⟨some 22, none, .op (.extract 17 0)⟩,
    ⟨some 23, none, .op (.extract 17 1)⟩,
    ⟨some 4, none, .op (.alloc 3 [.str [], .nilS, .nilS])⟩,
    ⟨none, none, .op (.store true 3 4 22)⟩,
    ⟨some 5, none, .op (.mv 23)⟩])
  (.seq (.ops [⟨some 24, none, .op (.load true 3 1)⟩,
    ⟨some 25, none, .call 11 [24]⟩,
    ⟨some 26, none, .op (.bin .eql .int 25 (.val (.int 0)))⟩,
    ⟨some 27, none, .op (.mv 26)⟩,
    ⟨some 28, some (27, true), .op (.mv 2)⟩,
    ⟨some 29, some (27, true), .op (.lenS 28)⟩,
    ⟨some 30, some (27, true), .op (.bin .eql .int 29 (.val (.int 2)))⟩,
    ⟨some 31, none, .op (.pick 27 30 (.val (.bool false)))⟩,
    ⟨some 32, none, .op (.mv 31)⟩,
    ⟨some 33, some (32, true), .op (.mv 3)⟩,
    ⟨some 34, some (32, true), .op (.lenS 33)⟩,
    ⟨some 35, some (32, true), .op (.bin .eql .int 34 (.val (.int 4)))⟩,
    ⟨some 36, none, .op (.pick 32 35 (.val (.bool false)))⟩,
    ⟨some 37, none, .op (.mv 36)⟩,
    ⟨some 38, some (37, true), .op (.mv 3)⟩,
    ⟨some 39, some (37, true), .op (.iaddr 3 38 (.val (.int 3)))⟩,
    ⟨some 40, some (37, true), .op (.faddr 2 39)⟩,
    ⟨some 41, some (37, true), .op (.load false 1 40)⟩,
    ⟨some 42, some (37, true), .op (.bin .eql .str 41 (.val (.str [98, 44, 97])))⟩,
    ⟨some 43, none, .op (.pick 37 42 (.val (.bool false)))⟩,
    ⟨some 44, none, .op (.mv 43)⟩,
    ⟨some 45, some (44, true), .op (.mv 5)⟩,
    ⟨some 46, some (44, true), .op (.bin .eql .int 45 (.val (.int 0)))⟩,
    ⟨some 47, none, .op (.pick 44 46 (.val (.bool false)))⟩,
    ⟨some 48, none, .op (.mv 47)⟩,
    ⟨some 49, some (48, true), .op (.load true 3 4)⟩,
    ⟨some 50, some (48, true), .op (.load true 3 1)⟩,
    ⟨some 51, some (48, true), .call 10 [49, 50]⟩,
    ⟨some 52, none, .op (.pick 48 51 (.val (.bool false)))⟩,
    ⟨some 53, none, .op (.mv 52)⟩,
    ⟨some 54, some (53, true), .call 12 []⟩,
    ⟨some 55, some (53, true), .op (.lenS 54)⟩,
    ⟨some 56, some (53, true), .op (.bin .eql .int 55 (.val (.int 3)))⟩,
    ⟨some 57, none, .op (.pick 53 56 (.val (.bool false)))⟩,
    ⟨some 58, none, .op (.mv 57)⟩,
    ⟨some 59, some (58, true), .call 13 [(.val (.str [115, 121, 115, 116, 97, 98, 108, 101, 115]))]⟩,
    ⟨some 60, none, .op (.pick 58 59 (.val (.bool false)))⟩,
    ⟨some 61, none, .op (.mv 60)⟩,
    ⟨some 62, some (61, true), .op (.load true 3 1)⟩,
    ⟨some 63, some (61, true), .call 14 [62]⟩,
    ⟨some 64, some (61, true), .op (.lenS 63)⟩,
    ⟨some 65, some (61, true), .op (.bin .eql .int 64 (.val (.int 1)))⟩,
    ⟨some 66, none, .op (.pick 61 65 (.val (.bool false)))⟩,
    ⟨some 0, none, .op (.mv 66)⟩])
  (.ret)))))
def f5 (G : Nat → AVal) : AFn := ⟨67, [.tmp 0], f5m G⟩

theorem f5_c (G : Nat → AVal) : cmpFn Tryd.prog G [] 5 = some (f5 G) := by kernel_rfl

def f7b0 (G : Nat → AVal) : MC :=
  .seq (.ops [⟨some 10, none, .op (.bin .lss .int 9 8)⟩])
  (.seq (.cond 10
   (.skip)
   (.exit 0))
  (.seq (.block 1
   (.seq (.ops [⟨some 11, none, .op (.mv 9)⟩,
     ⟨some 12, none, .op (.iaddr 3 7 9)⟩,
     ⟨some 13, none, .op (.load true 3 12)⟩,
     ⟨some 4, none, .op (.alloc 3 [.str [], .int 0, .bool false])⟩,
     ⟨some 3, none, .op (.mv 11)⟩,
     ⟨none, none, .op (.store true 3 4 13)⟩])
   (.seq (.ops [⟨some 5, none, .op (.mv (.val (.str [])))⟩])
   (.seq (.seq (.ops [⟨some 14, none, .op (.faddr 1 4)⟩,
     ⟨some 15, none, .op (.load false 1 14)⟩,
     ⟨some 16, none, .op (.bin .geq .int 15 (.val (.int 0)))⟩,
     ⟨some 17, none, .op (.mv 16)⟩,
     ⟨some 18, some (17, true), .op (.faddr 1 4)⟩,
     ⟨some 19, some (17, true), .op (.load false 1 18)⟩,
     ⟨some 20, some (17, true), .op (.bin .leq .int 19 (.val (.int 4)))⟩,
     ⟨some 21, none, .op (.pick 17 20 (.val (.bool false)))⟩])
   (.cond 21
    (.draw (.rd [⟨1, ⟨some 23, none, .op (.faddr 1 4)⟩, false, true⟩,
       ⟨2, ⟨some 24, none, .op (.load false 1 23)⟩, false, true⟩]
     (.ef ⟨0, ⟨some 22, none, .call 18 []⟩, true, false⟩ [1, 2]
     (.rd [⟨3, ⟨some 25, none, .op (.iaddr 1 22 24)⟩, false, false⟩,
       ⟨4, ⟨some 26, none, .op (.load false 1 25)⟩, false, false⟩,
       ⟨5, ⟨some 5, none, .op (.mv 26)⟩, false, false⟩]
     (.nil)))))
    (.skip)))
   (.draw (.rd [⟨0, ⟨some 27, none, .op (.mv 2)⟩, false, true⟩,
      ⟨1, ⟨some 28, none, .op (.faddr 0 1)⟩, false, false⟩,
      ⟨2, ⟨some 29, none, .op (.load false 1 28)⟩, false, false⟩,
      ⟨4, ⟨some 31, none, .op (.mv 3)⟩, false, true⟩,
      ⟨5, ⟨some 32, none, .op (.build [.int 0, .int 0, .str []] [(false, 0, 1, (.val (.int 2))), (false, 1, 1, 31)])⟩, false, true⟩,
      ⟨6, ⟨some 33, none, .op (.faddr 0 4)⟩, false, true⟩,
      ⟨7, ⟨some 34, none, .op (.load false 1 33)⟩, false, true⟩,
      ⟨9, ⟨some 36, none, .op (.mv 5)⟩, false, true⟩,
      ⟨11, ⟨some 38, none, .op (.faddr 2 4)⟩, false, true⟩,
      ⟨12, ⟨some 39, none, .op (.load false 1 38)⟩, false, true⟩]
    (.ef ⟨3, ⟨some 30, none, .call 19 [29]⟩, true, false⟩ [0, 4, 5, 6, 7, 9, 11, 12]
    (.ef ⟨8, ⟨some 35, none, .call 19 [34]⟩, true, false⟩ [0, 4, 5, 9, 11, 12]
    (.ef ⟨10, ⟨some 37, none, .call 19 [36]⟩, true, false⟩ [0, 4, 5, 11, 12]
    (.ef ⟨13, ⟨some 40, none, .call 20 [39]⟩, true, false⟩ [0, 4, 5]
    (.rd [⟨14, ⟨some 41, none, .op (.bslice true 3 5 [.int 0, .int 0, .str []] [(0, 30), (1, 32), (2, 35), (3, 37), (4, 40)])⟩, false, false⟩,
      ⟨15, ⟨some 42, none, .op (.bslice false 1 1 [.nilS] [(0, 41)])⟩, false, false⟩]
    (.ef ⟨16, ⟨some 43, none, .op (.append 1 24 27 42)⟩, true, false⟩ []
    (.rd [⟨17, ⟨some 2, none, .op (.mv 43)⟩, false, false⟩]
    (.nil))))))))))))))
  (.ops [⟨some 44, none, .op (.bin .add .int 9 (.val (.int 1)))⟩,
    ⟨some 9, none, .op (.mv 44)⟩])))

def f7m (G : Nat → AVal) : MC :=
  .seq (.ops [⟨some 1, none, .op (.box true 3 0)⟩,
    ⟨some 2, none, .op (.mv (.val .nilS))⟩])
  (.seq (.seq (.ops [⟨some 6, none, .op (.faddr 1 1)⟩,
    ⟨some 7, none, .op (.load false 1 6)⟩,
    ⟨some 8, none, .op (.lenS 7)⟩,
    ⟨some 9, none, .op (.mv (.val (.int 0)))⟩])
  (.block 0
   (.loop (f7b0 G))))
  (.seq (.ops [⟨some 45, none, .op (.mv 2)⟩,
    ⟨some 2, none, .op (.mv 45)⟩])
  (.ret)))
def f7 (G : Nat → AVal) : AFn := ⟨46, [.tmp 2], f7m G⟩

theorem f7_c (G : Nat → AVal) : cmpFn Tryd.prog G [] 7 = some (f7 G) := by kernel_rfl

def f8b0 (G : Nat → AVal) : MC :=
  .seq (.ops [⟨some 25, none, .op (.bin .lss .int 24 23)⟩])
  (.seq (.cond 25
   (.skip)
   (.exit 0))
  (.seq (.block 1
   (.seq (.ops [⟨some 26, none, .op (.iaddr 1 22 24)⟩,
     ⟨some 27, none, .op (.load false 1 26)⟩,
     ⟨some 7, none, .op (.mv 27)⟩])
   (.seq (.ops [⟨some 28, none, .op (.mv 7)⟩,
     ⟨some 29, none, .op (.bin .geq .int 28 (.val (.int 0)))⟩,
     ⟨some 30, none, .op (.mv 29)⟩,
     ⟨some 31, some (30, true), .op (.mv 7)⟩,
     ⟨some 32, some (30, true), .op (.faddr 1 2)⟩,
     ⟨some 33, some (30, true), .op (.load false 1 32)⟩,
     ⟨some 34, some (30, true), .op (.lenS 33)⟩,
     ⟨some 35, some (30, true), .op (.bin .lss .int 31 34)⟩,
     ⟨some 36, none, .op (.pick 30 35 (.val (.bool false)))⟩])
   (.cond 36
    (.ops [⟨some 37, none, .op (.mv 5)⟩,
      ⟨some 38, none, .op (.faddr 1 2)⟩,
      ⟨some 39, none, .op (.load false 1 38)⟩,
      ⟨some 40, none, .op (.mv 7)⟩,
      ⟨some 41, none, .op (.iaddr 3 39 40)⟩,
      ⟨some 42, none, .op (.faddr 0 41)⟩,
      ⟨some 43, none, .op (.load false 1 42)⟩,
      ⟨some 44, none, .op (.bslice false 1 1 [.str []] [(0, 43)])⟩,
      ⟨some 45, none, .op (.append 1 16 37 44)⟩,
      ⟨some 5, none, .op (.mv 45)⟩])
    (.skip)))))
  (.ops [⟨some 46, none, .op (.bin .add .int 24 (.val (.int 1)))⟩,
    ⟨some 24, none, .op (.mv 46)⟩])))

def f8m (G : Nat → AVal) : MC :=
  .seq (.ops [⟨some 2, none, .op (.box true 3 0)⟩,
    ⟨some 4, none, .op (.mv (.val .nilS))⟩])
  (.seq (.seq (.ops [⟨some 8, none, .op (.mv 1)⟩,
    ⟨some 9, none, .op (.bin .lss .int 8 (.val (.int 0)))⟩,
    ⟨some 10, none, .op (.mv 9)⟩,
    ⟨some 11, some (10, false), .op (.mv 1)⟩,
    ⟨some 12, some (10, false), .op (.faddr 2 2)⟩,
    ⟨some 13, some (10, false), .op (.load false 1 12)⟩,
    ⟨some 14, some (10, false), .op (.lenS 13)⟩,
    ⟨some 15, some (10, false), .op (.bin .geq .int 11 14)⟩,
    ⟨some 16, none, .op (.pick 10 (.val (.bool true)) 15)⟩])
  (.cond 16
   (.seq (.ops [⟨some 4, none, .op (.mv (.val .nilS))⟩])
   (.ret))
   (.skip)))
  (.seq (.ops [⟨some 5, none, .op (.mv (.val .nilS))⟩])
  (.seq (.seq (.ops [⟨some 17, none, .op (.faddr 2 2)⟩,
    ⟨some 18, none, .op (.load false 1 17)⟩,
    ⟨some 19, none, .op (.mv 1)⟩,
    ⟨some 20, none, .op (.iaddr 3 18 19)⟩,
    ⟨some 21, none, .op (.faddr 1 20)⟩,
    ⟨some 22, none, .op (.load false 1 21)⟩,
    ⟨some 23, none, .op (.lenS 22)⟩,
    ⟨some 24, none, .op (.mv (.val (.int 0)))⟩])
  (.block 0
   (.loop (f8b0 G))))
  (.seq (.draw (.rd [⟨0, ⟨some 47, none, .op (.faddr 2 2)⟩, false, false⟩,
     ⟨1, ⟨some 48, none, .op (.load false 1 47)⟩, false, false⟩,
     ⟨2, ⟨some 49, none, .op (.mv 1)⟩, false, false⟩,
     ⟨3, ⟨some 50, none, .op (.iaddr 3 48 49)⟩, false, false⟩,
     ⟨4, ⟨some 51, none, .op (.faddr 0 50)⟩, false, false⟩,
     ⟨5, ⟨some 52, none, .op (.load false 1 51)⟩, false, false⟩,
     ⟨7, ⟨some 54, none, .op (.faddr 0 2)⟩, false, true⟩,
     ⟨8, ⟨some 55, none, .op (.load false 1 54)⟩, false, true⟩,
     ⟨10, ⟨some 57, none, .op (.faddr 2 2)⟩, false, true⟩,
     ⟨11, ⟨some 58, none, .op (.load false 1 57)⟩, false, true⟩,
     ⟨12, ⟨some 59, none, .op (.mv 1)⟩, false, true⟩,
     ⟨13, ⟨some 60, none, .op (.iaddr 3 58 59)⟩, false, true⟩,
     ⟨14, ⟨some 61, none, .op (.faddr 2 60)⟩, false, true⟩,
     ⟨15, ⟨some 62, none, .op (.load false 1 61)⟩, false, true⟩,
     ⟨17, ⟨some 64, none, .op (.mv 5)⟩, false, true⟩]
   (.ef ⟨6, ⟨some 53, none, .call 19 [52]⟩, true, false⟩ [7, 8, 10, 11, 12, 13, 14, 15, 17]
   (.ef ⟨9, ⟨some 56, none, .call 19 [55]⟩, true, false⟩ [10, 11, 12, 13, 14, 15, 17]
   (.ef ⟨16, ⟨some 63, none, .call 20 [62]⟩, true, false⟩ [17]
   (.ef ⟨18, ⟨some 65, none, .call 21 [64, (.val (.str [44]))]⟩, true, false⟩ []
   (.ef ⟨19, ⟨some 66, none, .call 19 [65]⟩, true, false⟩ []
   (.rd [⟨20, ⟨some 67, none, .op (.bslice true 3 4 [.int 0, .int 0, .str []] [(0, 53), (1, 56), (2, 63), (3, 66)])⟩, false, false⟩,
     ⟨21, ⟨some 4, none, .op (.mv 67)⟩, false, false⟩]
   (.nil)))))))))
  (.ret)))))
def f8 (G : Nat → AVal) : AFn := ⟨68, [.tmp 4], f8m G⟩

theorem f8_c (G : Nat → AVal) : cmpFn Tryd.prog G [] 8 = some (f8 G) := by kernel_rfl

def f9b0 (G : Nat → AVal) : MC :=
  .seq (.ops [⟨some 43, none, .op (.bin .lss .int 42 41)⟩])
  (.seq (.cond 43
   (.skip)
   (.exit 0))
  (.seq (.block 1
   (.seq (.ops [⟨some 44, none, .op (.iaddr 1 40 42)⟩,
     ⟨some 45, none, .op (.load false 1 44)⟩,
     ⟨some 11, none, .op (.mv 45)⟩])
   (.seq (.ops [⟨some 46, none, .op (.mv 11)⟩,
     ⟨some 47, none, .op (.iaddr 3 46 (.val (.int 1)))⟩,
     ⟨some 48, none, .op (.faddr 1 47)⟩,
     ⟨some 49, none, .op (.load false 1 48)⟩,
     ⟨some 12, none, .op (.mv 49)⟩])
   (.seq (.draw (.rd [⟨1, ⟨some 51, none, .op (.mv 11)⟩, false, true⟩,
      ⟨2, ⟨some 52, none, .op (.iaddr 3 51 (.val (.int 3)))⟩, false, true⟩,
      ⟨3, ⟨some 53, none, .op (.faddr 2 52)⟩, false, true⟩,
      ⟨4, ⟨some 54, none, .op (.load false 1 53)⟩, false, true⟩]
    (.ef ⟨0, ⟨some 50, none, .call 18 []⟩, true, false⟩ [1, 2, 3, 4]
    (.ef ⟨5, ⟨some 55, none, .call 26 [50, 54]⟩, true, false⟩ []
    (.rd [⟨6, ⟨some 13, none, .op (.mv 55)⟩, false, false⟩]
    (.nil))))))
   (.seq (.seq (.ops [⟨some 56, none, .op (.mv 12)⟩,
     ⟨some 57, none, .op (.bin .lss .int 56 (.val (.int 0)))⟩,
     ⟨some 58, none, .op (.mv 57)⟩,
     ⟨some 59, some (58, false), .op (.mv 12)⟩,
     ⟨some 60, some (58, false), .op (.mv 9)⟩,
     ⟨some 61, some (58, false), .op (.lenS 60)⟩,
     ⟨some 62, some (58, false), .op (.bin .geq .int 59 61)⟩,
     ⟨some 63, none, .op (.pick 58 (.val (.bool true)) 62)⟩,
     ⟨some 64, none, .op (.mv 63)⟩,
     ⟨some 65, some (64, false), .op (.faddr 1 8)⟩,
     ⟨some 66, some (64, false), .op (.load false 1 65)⟩,
     ⟨some 67, some (64, false), .op (.mv 12)⟩,
     ⟨some 68, some (64, false), .op (.iaddr 3 66 67)⟩,
     ⟨some 69, some (64, false), .op (.faddr 1 68)⟩,
     ⟨some 70, some (64, false), .op (.load false 1 69)⟩,
     ⟨some 71, some (64, false), .op (.bin .neq .int 70 (.val (.int 0)))⟩,
     ⟨some 72, none, .op (.pick 64 (.val (.bool true)) 71)⟩,
     ⟨some 73, none, .op (.mv 72)⟩,
     ⟨some 74, some (73, false), .op (.mv 13)⟩,
     ⟨some 75, some (73, false), .op (.bin .lss .int 74 (.val (.int 1)))⟩,
     ⟨some 76, none, .op (.pick 73 (.val (.bool true)) 75)⟩])
   (.cond 76
    (.seq (.ops [⟨some 77, none, .op (.build [.str [], .nilS, .nilS] [])⟩,
      ⟨none, none, .op (.store true 3 6 77)⟩,
      ⟨some 7, none, .op (.mv (.val (.int 2)))⟩])
    (.ret))
    (.skip)))
   (.draw (.rd [⟨0, ⟨some 78, none, .op (.faddr 1 8)⟩, false, false⟩,
      ⟨1, ⟨some 79, none, .op (.load false 1 78)⟩, false, false⟩,
      ⟨2, ⟨some 80, none, .op (.mv 12)⟩, false, false⟩,
      ⟨3, ⟨some 81, none, .op (.mv 11)⟩, false, false⟩,
      ⟨4, ⟨some 82, none, .op (.iaddr 3 81 (.val (.int 2)))⟩, false, false⟩,
      ⟨5, ⟨some 83, none, .op (.faddr 2 82)⟩, false, false⟩,
      ⟨6, ⟨some 84, none, .op (.load false 1 83)⟩, false, false⟩,
      ⟨7, ⟨some 85, none, .op (.mv 13)⟩, false, false⟩,
      ⟨8, ⟨some 86, none, .op (.mv 11)⟩, false, false⟩,
      ⟨9, ⟨some 87, none, .op (.iaddr 3 86 (.val (.int 4)))⟩, false, false⟩,
      ⟨10, ⟨some 88, none, .op (.faddr 1 87)⟩, false, false⟩,
      ⟨11, ⟨some 89, none, .op (.load false 1 88)⟩, false, false⟩,
      ⟨12, ⟨some 90, none, .op (.bin .eql .int 89 (.val (.int 1)))⟩, false, false⟩,
      ⟨13, ⟨some 91, none, .op (.build [.str [], .int 0, .bool false] [(false, 0, 1, 84), (false, 1, 1, 85), (false, 2, 1, 90)])⟩, false, false⟩,
      ⟨14, ⟨some 92, none, .op (.iaddr 3 79 80)⟩, false, false⟩]
    (.ef ⟨15, ⟨none, none, .op (.store true 3 92 91)⟩, true, false⟩ []
    (.nil)))))))))
  (.ops [⟨some 93, none, .op (.bin .add .int 42 (.val (.int 1)))⟩,
    ⟨some 42, none, .op (.mv 93)⟩])))

def f9b1 (G : Nat → AVal) : MC :=
  .seq (.ops [⟨some 123, none, .op (.bin .lss .int 122 121)⟩])
  (.seq (.cond 123
   (.skip)
   (.exit 4))
  (.seq (.block 5
   (.seq (.ops [⟨some 124, none, .op (.iaddr 1 120 122)⟩,
     ⟨some 125, none, .op (.load false 1 124)⟩,
     ⟨some 18, none, .op (.alloc 1 [.str []])⟩,
     ⟨none, none, .op (.store false 1 18 125)⟩])
   (.seq (.ops [⟨some 126, none, .op (.faddr 1 8)⟩,
     ⟨some 127, none, .op (.load false 1 126)⟩,
     ⟨some 128, none, .op (.mkfn (.func 29) [] [18])⟩,
     ⟨some 129, none, .call 28 [127, 128]⟩,
     ⟨some 19, none, .op (.mv 129)⟩])
   (.seq (.seq (.ops [⟨some 130, none, .op (.mv 19)⟩,
     ⟨some 131, none, .op (.bin .lss .int 130 (.val (.int 0)))⟩])
   (.cond 131
    (.seq (.ops [⟨some 132, none, .op (.build [.str [], .nilS, .nilS] [])⟩,
      ⟨none, none, .op (.store true 3 6 132)⟩,
      ⟨some 7, none, .op (.mv (.val (.int 2)))⟩])
    (.ret))
    (.skip)))
   (.ops [⟨some 133, none, .op (.faddr 1 16)⟩,
     ⟨some 134, none, .op (.load false 1 133)⟩,
     ⟨some 135, none, .op (.mv 19)⟩,
     ⟨some 136, none, .op (.bslice false 1 1 [.int 0] [(0, 135)])⟩,
     ⟨some 137, none, .op (.append 1 8 134 136)⟩,
     ⟨some 138, none, .op (.faddr 1 16)⟩,
     ⟨none, none, .op (.store false 1 138 137)⟩])))))
  (.ops [⟨some 139, none, .op (.bin .add .int 122 (.val (.int 1)))⟩,
    ⟨some 122, none, .op (.mv 139)⟩])))

def f9b2 (G : Nat → AVal) : MC :=
  .seq (.ops [⟨some 97, none, .op (.bin .lss .int 96 95)⟩])
  (.seq (.cond 97
   (.skip)
   (.exit 2))
  (.seq (.block 3
   (.seq (.ops [⟨some 98, none, .op (.iaddr 1 94 96)⟩,
     ⟨some 99, none, .op (.load false 1 98)⟩,
     ⟨some 15, none, .op (.mv 99)⟩])
   (.seq (.seq (.draw (.rd [⟨0, ⟨some 100, none, .op (.mv 15)⟩, false, false⟩,
      ⟨1, ⟨some 101, none, .op (.iaddr 3 100 (.val (.int 1)))⟩, false, false⟩,
      ⟨2, ⟨some 102, none, .op (.faddr 2 101)⟩, false, false⟩,
      ⟨3, ⟨some 103, none, .op (.load false 1 102)⟩, false, false⟩,
      ⟨4, ⟨some 104, none, .op (.load false 1 3)⟩, false, false⟩,
      ⟨5, ⟨some 105, none, .op (.bin .neq .str 103 104)⟩, false, false⟩]
    (.nil)))
   (.cond 105
    (.exit 3)
    (.skip)))
   (.seq (.draw (.rd [⟨0, ⟨some 106, none, .op (.mv 15)⟩, false, true⟩,
      ⟨1, ⟨some 107, none, .op (.iaddr 3 106 (.val (.int 0)))⟩, false, true⟩,
      ⟨2, ⟨some 108, none, .op (.faddr 2 107)⟩, false, true⟩,
      ⟨3, ⟨some 109, none, .op (.load false 1 108)⟩, false, true⟩,
      ⟨4, ⟨some 110, none, .op (.mv 15)⟩, false, true⟩,
      ⟨5, ⟨some 111, none, .op (.iaddr 3 110 (.val (.int 2)))⟩, false, true⟩,
      ⟨6, ⟨some 112, none, .op (.faddr 1 111)⟩, false, true⟩,
      ⟨7, ⟨some 113, none, .op (.load false 1 112)⟩, false, true⟩,
      ⟨8, ⟨some 114, none, .op (.bin .eql .int 113 (.val (.int 1)))⟩, false, true⟩,
      ⟨9, ⟨some 115, none, .op (.build [.str [], .nilS, .bool false] [(false, 0, 1, 109), (false, 2, 1, 114)])⟩, false, true⟩]
    (.ef ⟨10, ⟨some 16, none, .op (.alloc 3 [.str [], .nilS, .bool false])⟩, true, false⟩ [0, 1, 2, 3, 4, 5, 6, 7, 8, 9]
    (.ef ⟨11, ⟨none, none, .op (.store true 3 16 115)⟩, true, false⟩ []
    (.nil)))))
   (.seq (.seq (.ops [⟨some 116, none, .op (.mv 15)⟩,
     ⟨some 117, none, .op (.iaddr 3 116 (.val (.int 3)))⟩,
     ⟨some 118, none, .op (.faddr 2 117)⟩,
     ⟨some 119, none, .op (.load false 1 118)⟩,
     ⟨some 120, none, .call 27 [119, (.val (.str [44]))]⟩,
     ⟨some 121, none, .op (.lenS 120)⟩,
     ⟨some 122, none, .op (.mv (.val (.int 0)))⟩])
   (.block 4
    (.loop (f9b1 G))))
   (.ops [⟨some 140, none, .op (.faddr 2 8)⟩,
     ⟨some 141, none, .op (.load false 1 140)⟩,
     ⟨some 142, none, .op (.load true 3 16)⟩,
     ⟨some 143, none, .op (.bslice true 3 1 [.str [], .nilS, .bool false] [(0, 142)])⟩,
     ⟨some 144, none, .op (.append 3 48 141 143)⟩,
     ⟨some 145, none, .op (.faddr 2 8)⟩,
     ⟨none, none, .op (.store false 1 145 144)⟩]))))))
  (.ops [⟨some 146, none, .op (.bin .add .int 96 (.val (.int 1)))⟩,
    ⟨some 96, none, .op (.mv 146)⟩])))

def f9m (G : Nat → AVal) : MC :=
  .seq (.ops [⟨some 3, none, .op (.box false 1 0)⟩,
    ⟨some 6, none, .op (.alloc 3 [.str [], .nilS, .nilS])⟩,
    ⟨some 7, none, .op (.mv (.val (.int 0)))⟩])
  (.seq (.seq (.ops [⟨some 21, none, .op (.mv 1)⟩,
    ⟨some 22, none, .call 22 [(.val (.int 1)), 21]⟩,
    ⟨some 23, none, .op (.un .not 22)⟩,
    ⟨some 24, none, .op (.mv 23)⟩,
    ⟨some 25, some (24, false), .op (.mv 2)⟩,
    ⟨some 26, some (24, false), .call 22 [(.val (.int 2)), 25]⟩,
    ⟨some 27, some (24, false), .op (.un .not 26)⟩,
    ⟨some 28, none, .op (.pick 24 (.val (.bool true)) 27)⟩])
  (.cond 28
   (.seq (.ops [⟨some 29, none, .op (.build [.str [], .nilS, .nilS] [])⟩,
     ⟨none, none, .op (.store true 3 6 29)⟩,
     ⟨some 7, none, .op (.mv (.val (.int 50)))⟩])
   (.ret))
   (.skip)))
  (.seq (.ops [⟨some 30, none, .op (.load false 1 3)⟩,
    ⟨some 31, none, .op (.build [.str [], .nilS, .nilS] [(false, 0, 1, 30)])⟩,
    ⟨some 8, none, .op (.alloc 3 [.str [], .nilS, .nilS])⟩,
    ⟨none, none, .op (.store true 3 8 31)⟩])
  (.seq (.ops [⟨some 32, none, .op (.mv 1)⟩,
    ⟨some 33, none, .call 24 [32]⟩,
    ⟨some 34, none, .op (.mkfn (.func 25) [] [3])⟩,
    ⟨some 35, none, .call 23 [33, 34]⟩,
    ⟨some 9, none, .op (.mv 35)⟩])
  (.seq (.ops [⟨some 36, none, .op (.mv 9)⟩,
    ⟨some 37, none, .op (.lenS 36)⟩,
    ⟨some 38, none, .op (.mkslice 3 32 [.str [], .int 0, .bool false] 37 37)⟩,
    ⟨some 39, none, .op (.faddr 1 8)⟩,
    ⟨none, none, .op (.store false 1 39 38)⟩])
  (.seq (.seq (.ops [⟨some 40, none, .op (.mv 9)⟩,
    ⟨some 41, none, .op (.lenS 40)⟩,
    ⟨some 42, none, .op (.mv (.val (.int 0)))⟩])
  (.block 0
   (.loop (f9b0 G))))
  (.seq (.seq (.ops [⟨some 94, none, .op (.mv 2)⟩,
    ⟨some 95, none, .op (.lenS 94)⟩,
    ⟨some 96, none, .op (.mv (.val (.int 0)))⟩])
  (.block 2
   (.loop (f9b2 G))))
  (.seq (.seq (.ops [⟨some 147, none, .op (.load true 3 8)⟩,
    ⟨some 148, none, .call 11 [147]⟩,
    ⟨some 20, none, .op (.mv 148)⟩])
  (.seq (.ops [⟨some 149, none, .op (.mv 20)⟩,
    ⟨some 150, none, .op (.bin .neq .int 149 (.val (.int 0)))⟩])
  (.cond 150
   (.seq (.ops [⟨some 151, none, .op (.build [.str [], .nilS, .nilS] [])⟩,
     ⟨some 152, none, .op (.mv 20)⟩,
     ⟨none, none, .op (.store true 3 6 151)⟩,
     ⟨some 7, none, .op (.mv 152)⟩])
   (.ret))
   (.skip))))
  (.seq (.ops [⟨some 153, none, .op (.load true 3 8)⟩,
    ⟨none, none, .op (.store true 3 6 153)⟩,
    ⟨some 7, none, .op (.mv (.val (.int 0)))⟩])
  (.ret)))))))))
def f9 (G : Nat → AVal) : AFn := ⟨154, [.cell 6 true 3, .tmp 7], f9m G⟩

theorem f9_c (G : Nat → AVal) : cmpFn Tryd.prog G [] 9 = some (f9 G) := by kernel_rfl


def f12m (G : Nat → AVal) : MC :=
  .seq (.ops [⟨some 0, none, .op (.mv (.val .nilS))⟩])
  (.seq (.ops [⟨some 1, none, .call 37 [(.val (.str [110, 97, 109, 101])), (.val (.int 4))]⟩,
    ⟨some 2, none, .op (.bslice true 3 1 [.str [], .int 0, .bool false] [(0, 1)])⟩,
    ⟨some 3, none, .op (.build [.str [], .nilS, .nilS] [(false, 0, 1, (.val (.str [115, 121, 115, 116, 97, 98, 108, 101, 115]))), (false, 1, 1, 2)])⟩,
    ⟨some 4, none, .call 37 [(.val (.str [116, 98, 108])), (.val (.int 4))]⟩,
    ⟨some 5, none, .call 37 [(.val (.str [112, 111, 115])), (.val (.int 2))]⟩,
    ⟨some 6, none, .call 37 [(.val (.str [110, 97, 109, 101])), (.val (.int 4))]⟩,
    ⟨some 7, none, .call 37 [(.val (.str [116, 121, 112, 101])), (.val (.int 4))]⟩,
    ⟨some 8, none, .call 37 [(.val (.str [114, 101, 113, 117, 105, 114, 101, 100])), (.val (.int 1))]⟩,
    ⟨some 9, none, .op (.bslice true 3 5 [.str [], .int 0, .bool false] [(0, 4), (1, 5), (2, 6), (3, 7), (4, 8)])⟩,
    ⟨some 10, none, .op (.build [.str [], .nilS, .nilS] [(false, 0, 1, (.val (.str [115, 121, 115, 99, 111, 108, 117, 109, 110, 115]))), (false, 1, 1, 9)])⟩,
    ⟨some 11, none, .call 37 [(.val (.str [110, 97, 109, 101])), (.val (.int 4))]⟩,
    ⟨some 12, none, .call 37 [(.val (.str [116, 98, 108])), (.val (.int 4))]⟩,
    ⟨some 13, none, .call 37 [(.val (.str [117, 110, 105, 113])), (.val (.int 1))]⟩,
    ⟨some 14, none, .call 37 [(.val (.str [99, 111, 108, 115])), (.val (.int 4))]⟩,
    ⟨some 15, none, .op (.bslice true 3 4 [.str [], .int 0, .bool false] [(0, 11), (1, 12), (2, 13), (3, 14)])⟩,
    ⟨some 16, none, .op (.build [.str [], .nilS, .nilS] [(false, 0, 1, (.val (.str [115, 121, 115, 105, 110, 100, 101, 120, 101, 115]))), (false, 1, 1, 15)])⟩,
    ⟨some 17, none, .op (.bslice true 3 3 [.str [], .nilS, .nilS] [(0, 3), (1, 10), (2, 16)])⟩,
    ⟨some 0, none, .op (.mv 17)⟩])
  (.ret))
def f12 (G : Nat → AVal) : AFn := ⟨18, [.tmp 0], f12m G⟩

theorem f12_c (G : Nat → AVal) : cmpFn Tryd.prog G [] 12 = some (f12 G) := by kernel_rfl


def f13m (G : Nat → AVal) : MC :=
  .seq (.ops [⟨some 2, none, .op (.mv (.val (.bool false)))⟩])
  (.seq (.ops [⟨some 3, none, .op (.mv 0)⟩,
    ⟨some 4, none, .op (.bin .eql .str 3 (.val (.str [115, 121, 115, 116, 97, 98, 108, 101, 115])))⟩,
    ⟨some 5, none, .op (.mv 4)⟩,
    ⟨some 6, some (5, false), .op (.mv 0)⟩,
    ⟨some 7, some (5, false), .op (.bin .eql .str 6 (.val (.str [115, 121, 115, 99, 111, 108, 117, 109, 110, 115])))⟩,
    ⟨some 8, none, .op (.pick 5 (.val (.bool true)) 7)⟩,
    ⟨some 9, none, .op (.mv 8)⟩,
    ⟨some 10, some (9, false), .op (.mv 0)⟩,
    ⟨some 11, some (9, false), .op (.bin .eql .str 10 (.val (.str [115, 121, 115, 105, 110, 100, 101, 120, 101, 115])))⟩,
    ⟨some 12, none, .op (.pick 9 (.val (.bool true)) 11)⟩,
    ⟨some 2, none, .op (.mv 12)⟩])
  (.ret))
def f13 (G : Nat → AVal) : AFn := ⟨13, [.tmp 2], f13m G⟩

theorem f13_c (G : Nat → AVal) : cmpFn Tryd.prog G [] 13 = some (f13 G) := by kernel_rfl


def f14m (G : Nat → AVal) : MC :=
  .seq (.ops [⟨some 1, none, .op (.box true 3 0)⟩,
    ⟨some 2, none, .op (.mv (.val .nilS))⟩])
  (.seq (.ops [⟨some 3, none, .op (.faddr 0 1)⟩,
    ⟨some 4, none, .op (.load false 1 3)⟩,
    ⟨some 5, none, .call 19 [4]⟩,
    ⟨some 6, none, .op (.bslice true 3 1 [.int 0, .int 0, .str []] [(0, 5)])⟩,
    ⟨some 2, none, .op (.mv 6)⟩])
  (.ret))
def f14 (G : Nat → AVal) : AFn := ⟨7, [.tmp 2], f14m G⟩

theorem f14_c (G : Nat → AVal) : cmpFn Tryd.prog G [] 14 = some (f14 G) := by kernel_rfl


def f18m (G : Nat → AVal) : MC :=
  .seq (.ops [⟨some 0, none, .op (.mv (.val .nilS))⟩])
  (.seq (.ops [⟨some 1, none, .op (.bslice false 1 5 [.str []] [(0, (.val (.str []))), (1, (.val (.str [66, 79, 79, 76]))), (2, (.val (.str [73, 78, 84]))), (3, (.val (.str [82, 69, 65, 76]))), (4, (.val (.str [84, 69, 88, 84])))])⟩,
    ⟨some 0, none, .op (.mv 1)⟩])
  (.ret))
def f18 (G : Nat → AVal) : AFn := ⟨2, [.tmp 0], f18m G⟩

theorem f18_c (G : Nat → AVal) : cmpFn Tryd.prog G [] 18 = some (f18 G) := by kernel_rfl


def f19m (G : Nat → AVal) : MC :=
  .seq (.ops [⟨some 2, none, .op (.alloc 3 [.int 0, .int 0, .str []])⟩])
  (.seq (.ops [⟨some 3, none, .op (.mv 0)⟩,
    ⟨some 4, none, .op (.build [.int 0, .int 0, .str []] [(false, 0, 1, (.val (.int 4))), (false, 2, 1, 3)])⟩,
    ⟨none, none, .op (.store true 3 2 4)⟩])
  (.ret))
def f19 (G : Nat → AVal) : AFn := ⟨5, [.cell 2 true 3], f19m G⟩

theorem f19_c (G : Nat → AVal) : cmpFn Tryd.prog G [] 19 = some (f19 G) := by kernel_rfl


def f20m (G : Nat → AVal) : MC :=
  .seq (.ops [⟨some 2, none, .op (.alloc 3 [.int 0, .int 0, .str []])⟩])
  (.seq (.seq (.ops [⟨some 3, none, .op (.mv 0)⟩])
  (.cond 3
   (.seq (.ops [⟨some 4, none, .op (.build [.int 0, .int 0, .str []] [(false, 0, 1, (.val (.int 1))), (false, 1, 1, (.val (.int 1)))])⟩,
     ⟨none, none, .op (.store true 3 2 4)⟩])
   (.ret))
   (.skip)))
  (.seq (.ops [⟨some 5, none, .op (.build [.int 0, .int 0, .str []] [(false, 0, 1, (.val (.int 1)))])⟩,
    ⟨none, none, .op (.store true 3 2 5)⟩])
  (.ret)))
def f20 (G : Nat → AVal) : AFn := ⟨6, [.cell 2 true 3], f20m G⟩

theorem f20_c (G : Nat → AVal) : cmpFn Tryd.prog G [] 20 = some (f20 G) := by kernel_rfl


def f22m (G : Nat → AVal) : MC :=
  .seq (.ops [⟨some 4, none, .op (.mv (.val (.bool false)))⟩])
  (.seq (.ops [⟨some 6, none, .call 12 []⟩,
    ⟨some 7, none, .op (.mv 0)⟩,
    ⟨some 8, none, .op (.iaddr 3 6 7)⟩,
    ⟨some 9, none, .op (.faddr 1 8)⟩,
    ⟨some 10, none, .op (.load false 1 9)⟩,
    ⟨some 5, none, .op (.alloc 1 [.nilS])⟩,
    ⟨none, none, .op (.store false 1 5 10)⟩])
  (.seq (.ops [⟨some 11, none, .op (.mv 1)⟩,
    ⟨some 12, none, .op (.mkfn (.func 46) [] [5])⟩,
    ⟨some 13, none, .call 45 [11, 12]⟩,
    ⟨some 14, none, .op (.un .not 13)⟩,
    ⟨some 4, none, .op (.mv 14)⟩])
  (.ret)))
def f22 (G : Nat → AVal) : AFn := ⟨15, [.tmp 4], f22m G⟩

theorem f22_c (G : Nat → AVal) : cmpFn Tryd.prog G [] 22 = some (f22 G) := by kernel_rfl

def f23b0 (G : Nat → AVal) : MC :=
  .seq (.seq (.ops [⟨some 16, none, .op (.mv 6)⟩,
    ⟨some 17, none, .op (.mv 0)⟩,
    ⟨some 18, none, .op (.lenS 17)⟩,
    ⟨some 19, none, .op (.bin .lss .int 16 18)⟩])
  (.cond 19
   (.skip)
   (.exit 0)))
  (.seq (.block 1
   (.seq (.ops [⟨some 22, none, .op (.mv 0)⟩,
     ⟨some 23, none, .op (.mv 6)⟩,
     ⟨some 24, none, .op (.iaddr 1 22 23)⟩,
     ⟨some 25, none, .op (.load false 1 24)⟩,
     ⟨some 7, none, .op (.mv 25)⟩])
   (.seq (.ops [⟨some 26, none, .op (.mv 1)⟩,
     ⟨some 27, none, .op (.mv 7)⟩,
     ⟨some 28, none, .callV 26 [27]⟩,
     ⟨some 29, none, .op (.un .not 28)⟩])
   (.cond 29
    (.seq (.ops [⟨some 30, none, .op (.mv 0)⟩,
      ⟨some 31, none, .op (.mv 5)⟩,
      ⟨some 32, none, .op (.mv 7)⟩,
      ⟨some 33, none, .op (.iaddr 1 30 31)⟩,
      ⟨none, none, .op (.store false 1 33 32)⟩])
    (.ops [⟨some 34, none, .op (.mv 5)⟩,
      ⟨some 35, none, .op (.bin .add .int 34 (.val (.int 1)))⟩,
      ⟨some 5, none, .op (.mv 35)⟩]))
    (.skip)))))
  (.ops [⟨some 20, none, .op (.mv 6)⟩,
    ⟨some 21, none, .op (.bin .add .int 20 (.val (.int 1)))⟩,
    ⟨some 6, none, .op (.mv 21)⟩]))

def f23m (G : Nat → AVal) : MC :=
  .seq (.ops [⟨some 4, none, .op (.mv (.val .nilS))⟩])
  (.seq (.ops [⟨some 8, none, .op (.mv 0)⟩,
    ⟨some 9, none, .op (.mv 1)⟩,
    ⟨some 10, none, .call 48 [8, 9]⟩,
    ⟨some 5, none, .op (.mv 10)⟩])
  (.seq (.seq (.ops [⟨some 11, none, .op (.mv 5)⟩,
    ⟨some 12, none, .op (.bin .eql .int 11 (.val (.int (-1))))⟩])
  (.cond 12
   (.seq (.ops [⟨some 13, none, .op (.mv 0)⟩,
     ⟨some 4, none, .op (.mv 13)⟩])
   (.ret))
   (.skip)))
  (.seq (.seq (.ops [⟨some 14, none, .op (.mv 5)⟩,
    ⟨some 15, none, .op (.bin .add .int 14 (.val (.int 1)))⟩,
    ⟨some 6, none, .op (.mv 15)⟩])
  (.block 0
   (.loop (f23b0 G))))
  (.seq (.ops [⟨some 36, none, .op (.mv 0)⟩,
    ⟨some 37, none, .op (.mv 5)⟩,
    ⟨some 38, none, .op (.slc 1 36 (some 37) none none)⟩,
    ⟨none, none, .op (.clearS 1 [.nilS] 38)⟩])
  (.seq (.ops [⟨some 39, none, .op (.mv 0)⟩,
    ⟨some 40, none, .op (.mv 5)⟩,
    ⟨some 41, none, .op (.slc 1 39 none (some 40) none)⟩,
    ⟨some 4, none, .op (.mv 41)⟩])
  (.ret))))))
def f23 (G : Nat → AVal) : AFn := ⟨42, [.tmp 4], f23m G⟩

theorem f23_c (G : Nat → AVal) : cmpFn Tryd.prog G [] 23 = some (f23 G) := by kernel_rfl


def f24m (G : Nat → AVal) : MC :=
  .seq (.ops [⟨some 2, none, .op (.mv (.val .nilS))⟩])
  (.seq (.seq (.ops [⟨some 3, none, .op (.mv 0)⟩,
    ⟨some 4, none, .op (.bin .eql (.nilP .slice) 3 (.val .nilS))⟩])
  (.cond 4
   (.seq (.ops [⟨some 2, none, .op (.mv (.val .nilS))⟩])
   (.ret))
   (.skip)))
  (.seq (.ops [⟨some 5, none, .op (.bslice false 1 0 [.nilS] [])⟩,
    ⟨some 6, none, .op (.mv 0)⟩,
    ⟨some 7, none, .op (.append 1 24 5 6)⟩,
    ⟨some 2, none, .op (.mv 7)⟩])
  (.ret)))
def f24 (G : Nat → AVal) : AFn := ⟨8, [.tmp 2], f24m G⟩

theorem f24_c (G : Nat → AVal) : cmpFn Tryd.prog G [] 24 = some (f24 G) := by kernel_rfl


def f25m (G : Nat → AVal) : MC :=
  .seq (.ops [⟨some 3, none, .op (.mv (.val (.bool false)))⟩])
  (.seq (.draw (.rd [⟨0, ⟨some 4, none, .op (.mv 0)⟩, false, false⟩,
     ⟨1, ⟨some 5, none, .op (.iaddr 3 4 (.val (.int 0)))⟩, false, false⟩,
     ⟨2, ⟨some 6, none, .op (.faddr 2 5)⟩, false, false⟩,
     ⟨3, ⟨some 7, none, .op (.load false 1 6)⟩, false, false⟩,
     ⟨4, ⟨some 8, none, .op (.load false 1 1)⟩, false, false⟩,
     ⟨5, ⟨some 9, none, .op (.bin .neq .str 7 8)⟩, false, false⟩,
     ⟨6, ⟨some 3, none, .op (.mv 9)⟩, false, false⟩]
   (.nil)))
  (.ret))
def f25 (G : Nat → AVal) : AFn := ⟨10, [.tmp 3], f25m G⟩

theorem f25_c (G : Nat → AVal) : cmpFn Tryd.prog G [] 25 = some (f25 G) := by kernel_rfl


def f27m (G : Nat → AVal) : MC :=
  .seq (.ops [⟨some 4, none, .op (.mv (.val .nilS))⟩])
  (.seq (.ops [⟨some 5, none, .op (.mv 0)⟩,
    ⟨some 6, none, .op (.mv 1)⟩,
    ⟨some 7, none, .call 49 [5, 6, (.val (.int 0)), (.val (.int (-1)))]⟩,
    ⟨some 4, none, .op (.mv 7)⟩])
  (.ret))
def f27 (G : Nat → AVal) : AFn := ⟨8, [.tmp 4], f27m G⟩

theorem f27_c (G : Nat → AVal) : cmpFn Tryd.prog G [] 27 = some (f27 G) := by kernel_rfl


def f37m (G : Nat → AVal) : MC :=
  .seq (.ops [⟨some 4, none, .op (.alloc 3 [.str [], .int 0, .bool false])⟩])
  (.seq (.ops [⟨some 5, none, .op (.mv 0)⟩,
    ⟨some 6, none, .op (.mv 1)⟩,
    ⟨some 7, none, .op (.build [.str [], .int 0, .bool false] [(false, 0, 1, 5), (false, 1, 1, 6), (false, 2, 1, (.val (.bool true)))])⟩,
    ⟨none, none, .op (.store true 3 4 7)⟩])
  (.ret))
def f37 (G : Nat → AVal) : AFn := ⟨8, [.cell 4 true 3], f37m G⟩

theorem f37_c (G : Nat → AVal) : cmpFn Tryd.prog G [] 37 = some (f37 G) := by kernel_rfl


def f45m (G : Nat → AVal) : MC :=
  .seq (.ops [⟨some 4, none, .op (.mv (.val (.bool false)))⟩])
  (.seq (.ops [⟨some 5, none, .op (.mv 0)⟩,
    ⟨some 6, none, .op (.mv 1)⟩,
    ⟨some 7, none, .call 48 [5, 6]⟩,
    ⟨some 8, none, .op (.bin .geq .int 7 (.val (.int 0)))⟩,
    ⟨some 4, none, .op (.mv 8)⟩])
  (.ret))
def f45 (G : Nat → AVal) : AFn := ⟨9, [.tmp 4], f45m G⟩

theorem f45_c (G : Nat → AVal) : cmpFn Tryd.prog G [] 45 = some (f45 G) := by kernel_rfl


def f46m (G : Nat → AVal) : MC :=
  .seq (.ops [⟨some 3, none, .op (.mv (.val (.bool false)))⟩])
  (.seq (.ops [⟨some 4, none, .op (.load false 1 1)⟩,
    ⟨some 5, none, .op (.mv 0)⟩,
    ⟨some 6, none, .call 47 [4, 5]⟩,
    ⟨some 7, none, .op (.bin .neq .int 6 (.val (.int 0)))⟩,
    ⟨some 3, none, .op (.mv 7)⟩])
  (.ret))
def f46 (G : Nat → AVal) : AFn := ⟨8, [.tmp 3], f46m G⟩

theorem f46_c (G : Nat → AVal) : cmpFn Tryd.prog G [] 46 = some (f46 G) := by kernel_rfl

def f47b0 (G : Nat → AVal) : MC :=
  .seq (.ops [⟨some 16, none, .op (.bin .lss .int 15 14)⟩])
  (.seq (.cond 16
   (.skip)
   (.exit 0))
  (.seq (.block 1
   (.seq (.ops [⟨some 17, none, .op (.mv 15)⟩,
     ⟨some 18, none, .op (.iaddr 3 13 15)⟩,
     ⟨some 19, none, .op (.load true 3 18)⟩,
     ⟨some 6, none, .op (.alloc 3 [.int 0, .int 0, .str []])⟩,
     ⟨some 5, none, .op (.mv 17)⟩,
     ⟨none, none, .op (.store true 3 6 19)⟩])
   (.seq (.seq (.ops [⟨some 20, none, .op (.load true 3 6)⟩,
     ⟨some 21, none, .call 61 [20]⟩,
     ⟨some 7, none, .op (.mv 21)⟩])
   (.seq (.ops [⟨some 22, none, .op (.mv 7)⟩,
     ⟨some 23, none, .op (.bin .neq .int 22 (.val (.int 0)))⟩])
   (.cond 23
    (.seq (.ops [⟨some 24, none, .op (.mv 7)⟩,
      ⟨some 4, none, .op (.mv 24)⟩])
    (.ret))
    (.skip))))
   (.block 2
    (.seq (.ops [⟨some 26, none, .op (.faddr 0 6)⟩,
      ⟨some 27, none, .op (.load false 1 26)⟩,
      ⟨some 28, none, .op (.bin .eql .int 27 (.val (.int 0)))⟩,
      ⟨some 29, none, .op (.mv 28)⟩,
      ⟨some 30, some (29, true), .op (.mv 0)⟩,
      ⟨some 31, some (29, true), .op (.mv 5)⟩,
      ⟨some 32, some (29, true), .op (.iaddr 3 30 31)⟩,
      ⟨some 33, some (29, true), .op (.faddr 2 32)⟩,
      ⟨some 34, some (29, true), .op (.load false 1 33)⟩,
      ⟨some 35, none, .op (.pick 29 34 (.val (.bool false)))⟩,
      ⟨some 25, none, .op (.mv 35)⟩])
    (.cond 25
     (.seq (.ops [⟨some 4, none, .op (.mv (.val (.int 60)))⟩])
     (.ret))
     (.seq (.draw (.rd [⟨0, ⟨some 37, none, .op (.faddr 0 6)⟩, false, false⟩,
        ⟨1, ⟨some 38, none, .op (.load false 1 37)⟩, false, false⟩,
        ⟨2, ⟨some 39, none, .op (.bin .neq .int 38 (.val (.int 0)))⟩, false, false⟩,
        ⟨3, ⟨some 40, none, .op (.mv 39)⟩, false, false⟩,
        ⟨4, ⟨some 41, some (40, true), .op (.faddr 0 6)⟩, false, false⟩,
        ⟨5, ⟨some 42, some (40, true), .op (.load false 1 41)⟩, false, false⟩,
        ⟨6, ⟨some 43, some (40, true), .op (.mv 0)⟩, false, false⟩,
        ⟨7, ⟨some 44, some (40, true), .op (.mv 5)⟩, false, false⟩,
        ⟨8, ⟨some 45, some (40, true), .op (.iaddr 3 43 44)⟩, false, false⟩,
        ⟨9, ⟨some 46, some (40, true), .op (.faddr 1 45)⟩, false, false⟩,
        ⟨10, ⟨some 47, some (40, true), .op (.load false 1 46)⟩, false, false⟩,
        ⟨11, ⟨some 48, some (40, true), .op (.bin .neq .int 42 47)⟩, false, false⟩,
        ⟨12, ⟨some 49, none, .op (.pick 40 48 (.val (.bool false)))⟩, false, false⟩,
        ⟨13, ⟨some 36, none, .op (.mv 49)⟩, false, false⟩]
      (.nil)))
     (.cond 36
      (.seq (.ops [⟨some 4, none, .op (.mv (.val (.int 30)))⟩])
      (.ret))
      (.skip)))))))))
  (.ops [⟨some 50, none, .op (.bin .add .int 15 (.val (.int 1)))⟩,
    ⟨some 15, none, .op (.mv 50)⟩])))

def f47m (G : Nat → AVal) : MC :=
  .seq (.ops [⟨some 4, none, .op (.mv (.val (.int 0)))⟩])
  (.seq (.seq (.ops [⟨some 8, none, .op (.mv 0)⟩,
    ⟨some 9, none, .op (.lenS 8)⟩,
    ⟨some 10, none, .op (.mv 1)⟩,
    ⟨some 11, none, .op (.lenS 10)⟩,
    ⟨some 12, none, .op (.bin .neq .int 9 11)⟩])
  (.cond 12
   (.seq (.ops [⟨some 4, none, .op (.mv (.val (.int 61)))⟩])
   (.ret))
   (.skip)))
  (.seq (.seq (.ops [⟨some 13, none, .op (.mv 1)⟩,
    ⟨some 14, none, .op (.lenS 13)⟩,
    ⟨some 15, none, .op (.mv (.val (.int 0)))⟩])
  (.block 0
   (.loop (f47b0 G))))
  (.seq (.ops [⟨some 4, none, .op (.mv (.val (.int 0)))⟩])
  (.ret))))
def f47 (G : Nat → AVal) : AFn := ⟨51, [.tmp 4], f47m G⟩

theorem f47_c (G : Nat → AVal) : cmpFn Tryd.prog G [] 47 = some (f47 G) := by kernel_rfl

def f48b0 (G : Nat → AVal) : MC :=
  .seq (.ops [⟨some 9, none, .op (.bin .lss .int 8 7)⟩])
  (.seq (.cond 9
   (.skip)
   (.exit 0))
  (.seq (.block 1
   (.seq (.ops [⟨some 10, none, .op (.mv 8)⟩,
     ⟨some 5, none, .op (.mv 10)⟩])
   (.seq (.ops [⟨some 11, none, .op (.mv 1)⟩,
     ⟨some 12, none, .op (.mv 0)⟩,
     ⟨some 13, none, .op (.mv 5)⟩,
     ⟨some 14, none, .op (.iaddr 1 12 13)⟩,
     ⟨some 15, none, .op (.load false 1 14)⟩,
     ⟨some 16, none, .callV 11 [15]⟩])
   (.cond 16
    (.seq (.ops [⟨some 17, none, .op (.mv 5)⟩,
      ⟨some 4, none, .op (.mv 17)⟩])
    (.ret))
    (.skip)))))
  (.ops [⟨some 18, none, .op (.bin .add .int 8 (.val (.int 1)))⟩,
    ⟨some 8, none, .op (.mv 18)⟩])))

def f48m (G : Nat → AVal) : MC :=
  .seq (.ops [⟨some 4, none, .op (.mv (.val (.int 0)))⟩])
  (.seq (.seq (.ops [⟨some 6, none, .op (.mv 0)⟩,
    ⟨some 7, none, .op (.lenS 6)⟩,
    ⟨some 8, none, .op (.mv (.val (.int 0)))⟩])
  (.block 0
   (.loop (f48b0 G))))
  (.seq (.ops [⟨some 4, none, .op (.mv (.val (.int (-1))))⟩])
  (.ret)))
def f48 (G : Nat → AVal) : AFn := ⟨19, [.tmp 4], f48m G⟩

theorem f48_c (G : Nat → AVal) : cmpFn Tryd.prog G [] 48 = some (f48 G) := by kernel_rfl

def f49b0 (G : Nat → AVal) : MC :=
  .seq (.seq (.ops [⟨some 34, none, .op (.mv 10)⟩,
    ⟨some 35, none, .op (.mv 3)⟩,
    ⟨some 36, none, .op (.bin .lss .int 34 35)⟩])
  (.cond 36
   (.skip)
   (.exit 0)))
  (.block 1
   (.seq (.ops [⟨some 37, none, .op (.mv 0)⟩,
     ⟨some 38, none, .op (.mv 1)⟩,
     ⟨some 39, none, .call 64 [37, 38]⟩,
     ⟨some 11, none, .op (.mv 39)⟩])
   (.seq (.seq (.ops [⟨some 40, none, .op (.mv 11)⟩,
     ⟨some 41, none, .op (.bin .lss .int 40 (.val (.int 0)))⟩])
   (.cond 41
    (.exit 0)
    (.skip)))
   (.seq (.ops [⟨some 42, none, .op (.mv 9)⟩,
     ⟨some 43, none, .op (.mv 10)⟩,
     ⟨some 44, none, .op (.mv 0)⟩,
     ⟨some 45, none, .op (.mv 11)⟩,
     ⟨some 46, none, .op (.mv 2)⟩,
     ⟨some 47, none, .op (.bin .add .int 45 46)⟩,
     ⟨some 48, none, .op (.sslc 44 none (some 47))⟩,
     ⟨some 49, none, .op (.iaddr 1 42 43)⟩,
     ⟨none, none, .op (.store false 1 49 48)⟩])
   (.seq (.ops [⟨some 50, none, .op (.mv 0)⟩,
     ⟨some 51, none, .op (.mv 11)⟩,
     ⟨some 52, none, .op (.mv 1)⟩,
     ⟨some 53, none, .op (.lenStr 52)⟩,
     ⟨some 54, none, .op (.bin .add .int 51 53)⟩,
     ⟨some 55, none, .op (.sslc 50 (some 54) none)⟩,
     ⟨some 0, none, .op (.mv 55)⟩])
   (.ops [⟨some 56, none, .op (.mv 10)⟩,
     ⟨some 57, none, .op (.bin .add .int 56 (.val (.int 1)))⟩,
     ⟨some 10, none, .op (.mv 57)⟩]))))))

def f49m (G : Nat → AVal) : MC :=
  .seq (.ops [⟨some 8, none, .op (.mv (.val .nilS))⟩])
  (.seq (.seq (.ops [⟨some 12, none, .op (.mv 3)⟩,
    ⟨some 13, none, .op (.bin .eql .int 12 (.val (.int 0)))⟩])
  (.cond 13
   (.seq (.ops [⟨some 8, none, .op (.mv (.val .nilS))⟩])
   (.ret))
   (.skip)))
  (.seq (.seq (.ops [⟨some 14, none, .op (.mv 1)⟩,
    ⟨some 15, none, .op (.bin .eql .str 14 (.val (.str [])))⟩])
  (.cond 15
   (.seq (.ops [⟨some 16, none, .op (.mv 0)⟩,
     ⟨some 17, none, .op (.mv 3)⟩,
     ⟨some 18, none, .call 62 [16, 17]⟩,
     ⟨some 8, none, .op (.mv 18)⟩])
   (.ret))
   (.skip)))
  (.seq (.seq (.ops [⟨some 19, none, .op (.mv 3)⟩,
    ⟨some 20, none, .op (.bin .lss .int 19 (.val (.int 0)))⟩])
  (.cond 20
   (.ops [⟨some 21, none, .op (.mv 0)⟩,
     ⟨some 22, none, .op (.mv 1)⟩,
     ⟨some 23, none, .call 63 [21, 22]⟩,
     ⟨some 24, none, .op (.bin .add .int 23 (.val (.int 1)))⟩,
     ⟨some 3, none, .op (.mv 24)⟩])
   (.skip)))
  (.seq (.ops [⟨some 25, none, .op (.mv 3)⟩,
    ⟨some 26, none, .op (.mv 0)⟩,
    ⟨some 27, none, .op (.lenStr 26)⟩,
    ⟨some 28, none, .op (.bin .add .int 27 (.val (.int 1)))⟩,
    ⟨some 29, none, .op (.mm false 25 28)⟩,
    ⟨some 3, none, .op (.mv 29)⟩])
  (.seq (.ops [⟨some 30, none, .op (.mv 3)⟩,
    ⟨some 31, none, .op (.mkslice 1 16 [.str []] 30 30)⟩,
    ⟨some 9, none, .op (.mv 31)⟩])
  (.seq (.ops [⟨some 32, none, .op (.mv 3)⟩,
    ⟨some 33, none, .op (.bin .sub .int 32 (.val (.int 1)))⟩,
    ⟨some 3, none, .op (.mv 33)⟩])
  (.seq (.ops [⟨some 10, none, .op (.mv (.val (.int 0)))⟩])
  (.seq (.block 0
   (.loop (f49b0 G)))
  (.seq (.ops [⟨some 58, none, .op (.mv 9)⟩,
    ⟨some 59, none, .op (.mv 10)⟩,
    ⟨some 60, none, .op (.mv 0)⟩,
    ⟨some 61, none, .op (.iaddr 1 58 59)⟩,
    ⟨none, none, .op (.store false 1 61 60)⟩])
  (.seq (.ops [⟨some 62, none, .op (.mv 9)⟩,
    ⟨some 63, none, .op (.mv 10)⟩,
    ⟨some 64, none, .op (.bin .add .int 63 (.val (.int 1)))⟩,
    ⟨some 65, none, .op (.slc 1 62 none (some 64) none)⟩,
    ⟨some 8, none, .op (.mv 65)⟩])
  (.ret)))))))))))
def f49 (G : Nat → AVal) : AFn := ⟨66, [.tmp 8], f49m G⟩

theorem f49_c (G : Nat → AVal) : cmpFn Tryd.prog G [] 49 = some (f49 G) := by kernel_rfl


def f61m (G : Nat → AVal) : MC :=
  .seq (.ops [⟨some 1, none, .op (.box true 3 0)⟩,
    ⟨some 2, none, .op (.mv (.val (.int 0)))⟩])
  (.seq (.ops [⟨some 3, none, .op (.mv (.val (.bool true)))⟩])
  (.seq (.seq (.ops [⟨some 4, none, .op (.faddr 0 1)⟩,
    ⟨some 5, none, .op (.load false 1 4)⟩])
  (.block 0
   (.seq (.seq (.ops [⟨some 7, none, .op (.bin .eql .int 5 (.val (.int 0)))⟩,
     ⟨some 6, none, .op (.mv 7)⟩])
   (.cond 6
    (.skip)
    (.ops [⟨some 8, none, .op (.bin .eql .int 5 (.val (.int 4)))⟩,
      ⟨some 6, none, .op (.mv 8)⟩])))
   (.cond 6
    (.ops [⟨some 9, none, .op (.faddr 1 1)⟩,
      ⟨some 10, none, .op (.load false 1 9)⟩,
      ⟨some 11, none, .op (.bin .eql .int 10 (.val (.int 0)))⟩,
      ⟨some 3, none, .op (.mv 11)⟩])
    (.seq (.ops [⟨some 13, none, .op (.bin .eql .int 5 (.val (.int 1)))⟩,
      ⟨some 12, none, .op (.mv 13)⟩])
    (.cond 12
     (.ops [⟨some 14, none, .op (.faddr 1 1)⟩,
       ⟨some 15, none, .op (.load false 1 14)⟩,
       ⟨some 16, none, .op (.bin .eql .int 15 (.val (.int 0)))⟩,
       ⟨some 17, none, .op (.mv 16)⟩,
       ⟨some 18, some (17, false), .op (.faddr 1 1)⟩,
       ⟨some 19, some (17, false), .op (.load false 1 18)⟩,
       ⟨some 20, some (17, false), .op (.bin .eql .int 19 (.val (.int 1)))⟩,
       ⟨some 21, none, .op (.pick 17 (.val (.bool true)) 20)⟩,
       ⟨some 3, none, .op (.mv 21)⟩])
     (.seq (.ops [⟨some 23, none, .op (.bin .eql .int 5 (.val (.int 2)))⟩,
       ⟨some 22, none, .op (.mv 23)⟩])
     (.cond 22
      (.skip)
      (.seq (.ops [⟨some 25, none, .op (.bin .eql .int 5 (.val (.int 3)))⟩,
        ⟨some 24, none, .op (.mv 25)⟩])
      (.cond 24
       (.draw (.rd [⟨0, ⟨some 26, none, .op (.faddr 1 1)⟩, false, true⟩,
          ⟨1, ⟨some 27, none, .op (.load false 1 26)⟩, false, true⟩,
          ⟨2, ⟨some 28, none, .op (.faddr 1 1)⟩, false, false⟩,
          ⟨3, ⟨some 29, none, .op (.load false 1 28)⟩, false, false⟩]
        (.ef ⟨4, ⟨some 30, none, .call 73 [29]⟩, true, false⟩ [0, 1]
        (.rd [⟨5, ⟨some 31, none, .op (.bin .eql .int 27 30)⟩, false, false⟩,
          ⟨6, ⟨some 3, none, .op (.mv 31)⟩, false, false⟩]
        (.nil)))))
       (.seq (.ops [⟨some 2, none, .op (.mv (.val (.int 50)))⟩])
       (.ret))))))))))))
  (.seq (.block 1
   (.seq (.seq (.ops [⟨some 33, none, .op (.mv 3)⟩,
     ⟨some 34, none, .op (.un .not 33)⟩,
     ⟨some 32, none, .op (.mv 34)⟩])
   (.cond 32
    (.skip)
    (.ops [⟨some 35, none, .op (.faddr 0 1)⟩,
      ⟨some 36, none, .op (.load false 1 35)⟩,
      ⟨some 37, none, .op (.bin .neq .int 36 (.val (.int 4)))⟩,
      ⟨some 38, none, .op (.mv 37)⟩,
      ⟨some 39, some (38, true), .op (.faddr 2 1)⟩,
      ⟨some 40, some (38, true), .op (.load false 1 39)⟩,
      ⟨some 41, some (38, true), .op (.bin .neq .str 40 (.val (.str [])))⟩,
      ⟨some 42, none, .op (.pick 38 41 (.val (.bool false)))⟩,
      ⟨some 32, none, .op (.mv 42)⟩])))
   (.cond 32
    (.seq (.ops [⟨some 2, none, .op (.mv (.val (.int 2)))⟩])
    (.ret))
    (.seq (.ops [⟨some 44, none, .op (.faddr 2 1)⟩,
      ⟨some 45, none, .op (.load false 1 44)⟩,
      ⟨some 46, none, .op (.lenStr 45)⟩,
      ⟨some 47, none, .op (.bin .gtr .int 46 (.val (.int 200)))⟩,
      ⟨some 43, none, .op (.mv 47)⟩])
    (.cond 43
     (.seq (.ops [⟨some 2, none, .op (.mv (.val (.int 1)))⟩])
     (.ret))
     (.skip))))))
  (.seq (.ops [⟨some 2, none, .op (.mv (.val (.int 0)))⟩])
  (.ret)))))
def f61 (G : Nat → AVal) : AFn := ⟨48, [.tmp 2], f61m G⟩

theorem f61_c (G : Nat → AVal) : cmpFn Tryd.prog G [] 61 = some (f61 G) := by kernel_rfl


def f64m (G : Nat → AVal) : MC :=
  .seq (.ops [⟨some 4, none, .op (.mv (.val (.int 0)))⟩])
  (.seq (.ops [⟨some 5, none, .op (.mv 0)⟩,
    ⟨some 6, none, .op (.mv 1)⟩,
    ⟨some 7, none, .call 77 [5, 6]⟩,
    ⟨some 4, none, .op (.mv 7)⟩])
  (.ret))
def f64 (G : Nat → AVal) : AFn := ⟨8, [.tmp 4], f64m G⟩

theorem f64_c (G : Nat → AVal) : cmpFn Tryd.prog G [] 64 = some (f64 G) := by kernel_rfl

def f77b0 (G : Nat → AVal) : MC :=
  .seq (.seq (.ops [⟨some 57, none, .op (.mv 8)⟩,
    ⟨some 58, none, .op (.mv 9)⟩,
    ⟨some 59, none, .op (.bin .lss .int 57 58)⟩])
  (.cond 59
   (.skip)
   (.exit 1)))
  (.block 2
   (.seq (.seq (.ops [⟨some 60, none, .op (.mv 0)⟩,
     ⟨some 61, none, .op (.mv 8)⟩,
     ⟨some 62, none, .op (.idxS 60 61)⟩,
     ⟨some 63, none, .op (.mv 6)⟩,
     ⟨some 64, none, .op (.bin .neq .int 62 63)⟩])
   (.cond 64
    (.seq (.ops [⟨some 65, none, .op (.mv 0)⟩,
      ⟨some 66, none, .op (.mv 8)⟩,
      ⟨some 67, none, .op (.bin .add .int 66 (.val (.int 1)))⟩,
      ⟨some 68, none, .op (.mv 9)⟩,
      ⟨some 69, none, .op (.sslc 65 (some 67) (some 68))⟩,
      ⟨some 70, none, .op (.mv 6)⟩,
      ⟨some 71, none, .call 85 [69, 70]⟩,
      ⟨some 11, none, .op (.mv 71)⟩])
    (.seq (.seq (.ops [⟨some 72, none, .op (.mv 11)⟩,
      ⟨some 73, none, .op (.bin .lss .int 72 (.val (.int 0)))⟩])
    (.cond 73
     (.seq (.ops [⟨some 4, none, .op (.mv (.val (.int (-1))))⟩])
     (.ret))
     (.skip)))
    (.ops [⟨some 74, none, .op (.mv 8)⟩,
      ⟨some 75, none, .op (.mv 11)⟩,
      ⟨some 76, none, .op (.bin .add .int 75 (.val (.int 1)))⟩,
      ⟨some 77, none, .op (.bin .add .int 74 76)⟩,
      ⟨some 8, none, .op (.mv 77)⟩])))
    (.skip)))
   (.seq (.seq (.ops [⟨some 78, none, .op (.mv 0)⟩,
     ⟨some 79, none, .op (.mv 8)⟩,
     ⟨some 80, none, .op (.bin .add .int 79 (.val (.int 1)))⟩,
     ⟨some 81, none, .op (.idxS 78 80)⟩,
     ⟨some 82, none, .op (.mv 7)⟩,
     ⟨some 83, none, .op (.bin .eql .int 81 82)⟩,
     ⟨some 84, none, .op (.mv 83)⟩,
     ⟨some 85, some (84, true), .op (.mv 0)⟩,
     ⟨some 86, some (84, true), .op (.mv 8)⟩,
     ⟨some 87, some (84, true), .op (.mv 8)⟩,
     ⟨some 88, some (84, true), .op (.mv 5)⟩,
     ⟨some 89, some (84, true), .op (.bin .add .int 87 88)⟩,
     ⟨some 90, some (84, true), .op (.sslc 85 (some 86) (some 89))⟩,
     ⟨some 91, some (84, true), .op (.mv 1)⟩,
     ⟨some 92, some (84, true), .op (.bin .eql .str 90 91)⟩,
     ⟨some 93, none, .op (.pick 84 92 (.val (.bool false)))⟩])
   (.cond 93
    (.seq (.ops [⟨some 94, none, .op (.mv 8)⟩,
      ⟨some 4, none, .op (.mv 94)⟩])
    (.ret))
    (.skip)))
   (.seq (.ops [⟨some 95, none, .op (.mv 8)⟩,
     ⟨some 96, none, .op (.bin .add .int 95 (.val (.int 1)))⟩,
     ⟨some 8, none, .op (.mv 96)⟩])
   (.seq (.ops [⟨some 97, none, .op (.mv 10)⟩,
     ⟨some 98, none, .op (.bin .add .int 97 (.val (.int 1)))⟩,
     ⟨some 10, none, .op (.mv 98)⟩])
   (.seq (.ops [⟨some 99, none, .op (.mv 5)⟩,
     ⟨some 100, none, .op (.load false 1 (.val (G 0)))⟩,
     ⟨some 101, none, .op (.bin .leq .int 99 100)⟩,
     ⟨some 102, none, .op (.mv 101)⟩,
     ⟨some 103, some (102, true), .op (.mv 10)⟩,
     ⟨some 104, some (102, true), .op (.mv 8)⟩,
     ⟨some 105, some (102, true), .call 87 [104]⟩,
     ⟨some 106, some (102, true), .op (.bin .gtr .int 103 105)⟩,
     ⟨some 107, none, .op (.pick 102 106 (.val (.bool false)))⟩])
   (.cond 107
    (.seq (.ops [⟨some 108, none, .op (.mv 0)⟩,
      ⟨some 109, none, .op (.mv 8)⟩,
      ⟨some 110, none, .op (.sslc 108 (some 109) none)⟩,
      ⟨some 111, none, .op (.mv 1)⟩,
      ⟨some 112, none, .op (.extract (.val .top) 0)⟩,
      ⟨some 12, none, .op (.mv 112)⟩])
    (.seq (.seq (.ops [⟨some 113, none, .op (.mv 12)⟩,
      ⟨some 114, none, .op (.bin .geq .int 113 (.val (.int 0)))⟩])
    (.cond 114
     (.seq (.ops [⟨some 115, none, .op (.mv 12)⟩,
       ⟨some 116, none, .op (.mv 8)⟩,
       ⟨some 117, none, .op (.bin .add .int 115 116)⟩,
       ⟨some 4, none, .op (.mv 117)⟩])
     (.ret))
     (.skip)))
    (.seq (.ops [⟨some 4, none, .op (.mv (.val (.int (-1))))⟩])
    (.ret))))
    (.seq (.ops [⟨some 118, none, .op (.mv 5)⟩,
      ⟨some 119, none, .op (.load false 1 (.val (G 0)))⟩,
      ⟨some 120, none, .op (.bin .gtr .int 118 119)⟩,
      ⟨some 121, none, .op (.mv 120)⟩,
      ⟨some 122, some (121, true), .op (.mv 10)⟩,
      ⟨some 123, some (121, true), .op (.mv 8)⟩,
      ⟨some 124, some (121, true), .op (.bin .shr .int 123 (.val (.atom (.int .u64 4))))⟩,
      ⟨some 125, some (121, true), .op (.bin .add .int (.val (.int 4)) 124)⟩,
      ⟨some 126, some (121, true), .op (.bin .geq .int 122 125)⟩,
      ⟨some 127, none, .op (.pick 121 126 (.val (.bool false)))⟩,
      ⟨some 128, none, .op (.mv 127)⟩,
      ⟨some 129, some (128, true), .op (.mv 8)⟩,
      ⟨some 130, some (128, true), .op (.mv 9)⟩,
      ⟨some 131, some (128, true), .op (.bin .lss .int 129 130)⟩,
      ⟨some 132, none, .op (.pick 128 131 (.val (.bool false)))⟩])
    (.cond 132
     (.seq (.ops [⟨some 133, none, .op (.mv 0)⟩,
       ⟨some 134, none, .op (.mv 8)⟩,
       ⟨some 135, none, .op (.sslc 133 (some 134) none)⟩,
       ⟨some 136, none, .op (.mv 1)⟩,
       ⟨some 137, none, .call 88 [135, 136]⟩,
       ⟨some 13, none, .op (.mv 137)⟩])
     (.seq (.seq (.ops [⟨some 138, none, .op (.mv 13)⟩,
       ⟨some 139, none, .op (.bin .lss .int 138 (.val (.int 0)))⟩])
     (.cond 139
      (.seq (.ops [⟨some 4, none, .op (.mv (.val (.int (-1))))⟩])
      (.ret))
      (.skip)))
     (.seq (.ops [⟨some 140, none, .op (.mv 8)⟩,
       ⟨some 141, none, .op (.mv 13)⟩,
       ⟨some 142, none, .op (.bin .add .int 140 141)⟩,
       ⟨some 4, none, .op (.mv 142)⟩])
     (.ret))))
     (.skip))))))))))

def f77m (G : Nat → AVal) : MC :=
  .seq (.ops [⟨some 4, none, .op (.mv (.val (.int 0)))⟩])
  (.seq (.ops [⟨some 14, none, .op (.mv 1)⟩,
    ⟨some 15, none, .op (.lenStr 14)⟩,
    ⟨some 5, none, .op (.mv 15)⟩])
  (.seq (.block 0
   (.seq (.ops [⟨some 17, none, .op (.mv 5)⟩,
     ⟨some 18, none, .op (.bin .eql .int 17 (.val (.int 0)))⟩,
     ⟨some 19, none, .op (.mv 18)⟩,
     ⟨some 20, some (19, false), .op (.mv 1)⟩,
     ⟨some 21, some (19, false), .op (.mv 0)⟩,
     ⟨some 22, some (19, false), .op (.bin .eql .str 20 21)⟩,
     ⟨some 23, none, .op (.pick 19 (.val (.bool true)) 22)⟩,
     ⟨some 16, none, .op (.mv 23)⟩])
   (.cond 16
    (.seq (.ops [⟨some 4, none, .op (.mv (.val (.int 0)))⟩])
    (.ret))
    (.seq (.ops [⟨some 25, none, .op (.mv 5)⟩,
      ⟨some 26, none, .op (.bin .eql .int 25 (.val (.int 1)))⟩,
      ⟨some 24, none, .op (.mv 26)⟩])
    (.cond 24
     (.seq (.ops [⟨some 27, none, .op (.mv 0)⟩,
       ⟨some 28, none, .op (.mv 1)⟩,
       ⟨some 29, none, .op (.idxS 28 (.val (.int 0)))⟩,
       ⟨some 30, none, .call 85 [27, 29]⟩,
       ⟨some 4, none, .op (.mv 30)⟩])
     (.ret))
     (.seq (.ops [⟨some 32, none, .op (.mv 5)⟩,
       ⟨some 33, none, .op (.mv 0)⟩,
       ⟨some 34, none, .op (.lenStr 33)⟩,
       ⟨some 35, none, .op (.bin .geq .int 32 34)⟩,
       ⟨some 31, none, .op (.mv 35)⟩])
     (.cond 31
      (.seq (.ops [⟨some 4, none, .op (.mv (.val (.int (-1))))⟩])
      (.ret))
      (.seq (.ops [⟨some 37, none, .op (.mv 5)⟩,
        ⟨some 38, none, .op (.load false 1 (.val (G 0)))⟩,
        ⟨some 39, none, .op (.bin .leq .int 37 38)⟩,
        ⟨some 40, none, .op (.mv 39)⟩,
        ⟨some 41, some (40, true), .op (.mv 0)⟩,
        ⟨some 42, some (40, true), .op (.lenStr 41)⟩,
        ⟨some 43, some (40, true), .op (.bin .leq .int 42 (.val (.int 64)))⟩,
        ⟨some 44, none, .op (.pick 40 43 (.val (.bool false)))⟩,
        ⟨some 36, none, .op (.mv 44)⟩])
      (.cond 36
       (.seq (.ops [⟨some 45, none, .op (.mv 0)⟩,
         ⟨some 46, none, .op (.mv 1)⟩,
         ⟨some 47, none, .op (.extract (.val .top) 0)⟩,
         ⟨some 4, none, .op (.mv 47)⟩])
       (.ret))
       (.skip))))))))))
  (.seq (.ops [⟨some 48, none, .op (.mv 1)⟩,
    ⟨some 49, none, .op (.idxS 48 (.val (.int 0)))⟩,
    ⟨some 6, none, .op (.mv 49)⟩])
  (.seq (.ops [⟨some 50, none, .op (.mv 1)⟩,
    ⟨some 51, none, .op (.idxS 50 (.val (.int 1)))⟩,
    ⟨some 7, none, .op (.mv 51)⟩])
  (.seq (.ops [⟨some 8, none, .op (.mv (.val (.int 0)))⟩])
  (.seq (.ops [⟨some 52, none, .op (.mv 0)⟩,
    ⟨some 53, none, .op (.lenStr 52)⟩,
    ⟨some 54, none, .op (.mv 5)⟩,
    ⟨some 55, none, .op (.bin .sub .int 53 54)⟩,
    ⟨some 56, none, .op (.bin .add .int 55 (.val (.int 1)))⟩,
    ⟨some 9, none, .op (.mv 56)⟩])
  (.seq (.ops [⟨some 10, none, .op (.mv (.val (.int 0)))⟩])
  (.seq (.block 1
   (.loop (f77b0 G)))
  (.seq (.ops [⟨some 4, none, .op (.mv (.val (.int (-1))))⟩])
  (.ret))))))))))
def f77 (G : Nat → AVal) : AFn := ⟨143, [.tmp 4], f77m G⟩

theorem f77_c (G : Nat → AVal) : cmpFn Tryd.prog G [] 77 = some (f77 G) := by kernel_rfl

end Go.Abs
