/- Written by Show.lean: functions of the seat YtjoehmgnapdhaabGreatDoor, translated; the checks. Conditions: none. -/
import Derived.Test.YtjoehmgnapdhaabGreatDoorA25
import Derived.Test.YtjoehmgnapdhaabGreatDoorProg
import Derived.KernelRfl
set_option linter.unusedVariables false
namespace Go.Abs
open Go Go.RowKit Go.Proofs

def f3b0 (G : Nat → AVal) : MC :=
  .seq (.ops [⟨some 15, none, .op (.bin .lss .int 14 13)⟩])
  (.seq (.cond 15
   (.skip)
   (.exit 0))
  (.seq (.block 1
   (.seq (.ops [⟨some 16, none, .op (.mv 14)⟩,
     ⟨some 7, none, .op (.mv 16)⟩])
   (.seq (.draw (.rd [⟨0, ⟨some 17, none, .op (.mv 5)⟩, false, false⟩,
      ⟨1, ⟨some 18, none, .op (.lenS 17)⟩, false, false⟩,
      ⟨2, ⟨some 19, none, .op (.bin .neq .int 18 (.val (.int 3)))⟩, false, false⟩,
      ⟨3, ⟨some 20, none, .op (.mv 19)⟩, false, false⟩,
      ⟨4, ⟨some 21, some (20, false), .op (.mv 5)⟩, false, false⟩,
      ⟨5, ⟨some 22, some (20, false), .op (.mv 7)⟩, false, false⟩,
      ⟨6, ⟨some 23, some (20, false), .op (.iaddr 3 21 22)⟩, false, false⟩,
      ⟨7, ⟨some 24, some (20, false), .op (.load true 3 23)⟩, false, false⟩,
      ⟨8, ⟨some 25, some (20, false), .op (.mv 6)⟩, false, false⟩,
      ⟨9, ⟨some 26, some (20, false), .op (.mv 7)⟩, false, false⟩,
      ⟨10, ⟨some 27, some (20, false), .op (.iaddr 3 25 26)⟩, false, false⟩,
      ⟨11, ⟨some 28, some (20, false), .op (.load true 3 27)⟩, false, false⟩]
    (.ef ⟨12, ⟨some 29, some (20, false), .call 8 [24, 28]⟩, true, false⟩ []
    (.rd [⟨13, ⟨some 30, some (20, false), .op (.un .not 29)⟩, false, false⟩,
      ⟨14, ⟨some 31, none, .op (.pick 20 (.val (.bool true)) 30)⟩, false, false⟩,
      ⟨15, ⟨some 32, none, .op (.mv 31)⟩, false, false⟩,
      ⟨16, ⟨some 33, some (32, false), .op (.mv 5)⟩, false, false⟩,
      ⟨17, ⟨some 34, some (32, false), .op (.mv 7)⟩, false, false⟩,
      ⟨18, ⟨some 35, some (32, false), .op (.iaddr 3 33 34)⟩, false, false⟩,
      ⟨19, ⟨some 36, some (32, false), .op (.load true 3 35)⟩, false, false⟩]
    (.ef ⟨20, ⟨some 37, some (32, false), .call 9 [36]⟩, true, false⟩ []
    (.rd [⟨21, ⟨some 38, some (32, false), .op (.bin .neq .int 37 (.val (.int 0)))⟩, false, false⟩,
      ⟨22, ⟨some 39, none, .op (.pick 32 (.val (.bool true)) 38)⟩, false, false⟩]
    (.nil)))))))
   (.cond 39
    (.seq (.ops [⟨some 4, none, .op (.mv (.val (.bool false)))⟩])
    (.ret))
    (.skip)))))
  (.ops [⟨some 40, none, .op (.bin .add .int 14 (.val (.int 1)))⟩,
    ⟨some 14, none, .op (.mv 40)⟩])))

def f3m (G : Nat → AVal) : MC :=
  .seq (.ops [⟨some 2, none, .op (.box true 3 0)⟩,
    ⟨some 4, none, .op (.mv (.val (.bool false)))⟩])
  (.seq (.seq (.ops [⟨some 8, none, .call 5 []⟩,
    ⟨some 9, none, .op (.un .not 8)⟩])
  (.cond 9
   (.seq (.ops [⟨some 4, none, .op (.mv (.val (.bool false)))⟩])
   (.ret))
   (.skip)))
  (.seq (.ops [⟨some 10, none, .call 6 []⟩,
    ⟨some 11, none, .call 7 []⟩,
    ⟨some 5, none, .op (.mv 10)⟩,
    ⟨some 6, none, .op (.mv 11)⟩])
  (.seq (.seq (.ops [⟨some 12, none, .op (.mv 6)⟩,
    ⟨some 13, none, .op (.lenS 12)⟩,
    ⟨some 14, none, .op (.mv (.val (.int 0)))⟩])
  (.block 0
   (.loop (f3b0 G))))
  (.seq (.seq (.draw (.rd [⟨0, ⟨some 41, none, .op (.faddr 0 2)⟩, false, false⟩,
     ⟨1, ⟨some 42, none, .op (.load false 1 41)⟩, false, false⟩,
     ⟨3, ⟨some 44, none, .op (.faddr 0 2)⟩, false, true⟩,
     ⟨4, ⟨some 45, none, .op (.load false 1 44)⟩, false, true⟩]
   (.ef ⟨2, ⟨some 43, none, .call 10 [42]⟩, true, false⟩ [3, 4]
   (.ef ⟨5, ⟨some 46, none, .call 11 [45]⟩, true, false⟩ []
   (.rd [⟨6, ⟨some 47, none, .op (.bin .neq .bool 43 46)⟩, false, false⟩]
   (.nil))))))
  (.cond 47
   (.seq (.ops [⟨some 4, none, .op (.mv (.val (.bool false)))⟩])
   (.ret))
   (.skip)))
  (.seq (.seq (.ops [⟨some 48, none, .op (.load true 3 2)⟩,
    ⟨some 49, none, .call 12 [48]⟩,
    ⟨some 50, none, .op (.bin .neq .int 49 (.val (.int 0)))⟩])
  (.cond 50
   (.seq (.ops [⟨some 51, none, .op (.load true 3 2)⟩,
     ⟨some 52, none, .call 13 [51]⟩])
   (.seq (.ops [⟨some 53, none, .op (.load true 3 2)⟩,
     ⟨some 54, none, .call 14 [53]⟩])
   (.seq (.ops [⟨some 55, none, .op (.load true 3 2)⟩,
     ⟨some 56, none, .op (.mv 1)⟩,
     ⟨some 57, none, .call 15 [55, 56]⟩])
   (.seq (.ops [⟨some 4, none, .op (.mv (.val (.bool true)))⟩])
   (.ret)))))
   (.skip)))
  (.seq (.draw (.rd [⟨0, ⟨some 58, none, .op (.load true 3 2)⟩, false, false⟩,
     ⟨2, ⟨some 60, none, .op (.load true 3 2)⟩, false, true⟩]
   (.ef ⟨1, ⟨some 59, none, .call 13 [58]⟩, true, false⟩ [2]
   (.ef ⟨3, ⟨some 61, none, .call 17 [60]⟩, true, false⟩ []
   (.ef ⟨4, ⟨some 62, none, .call 16 [59, 61]⟩, true, false⟩ []
   (.rd [⟨5, ⟨some 63, none, .op (.mv 62)⟩, false, false⟩,
     ⟨6, ⟨some 64, some (63, true), .op (.load true 3 2)⟩, false, false⟩,
     ⟨8, ⟨some 66, some (63, true), .op (.load true 3 2)⟩, false, true⟩]
   (.ef ⟨7, ⟨some 65, some (63, true), .call 14 [64]⟩, true, false⟩ [8]
   (.ef ⟨9, ⟨some 67, some (63, true), .call 19 [66]⟩, true, false⟩ []
   (.ef ⟨10, ⟨some 68, some (63, true), .call 18 [65, 67]⟩, true, false⟩ []
   (.rd [⟨11, ⟨some 69, none, .op (.pick 63 68 (.val (.bool false)))⟩, false, false⟩,
     ⟨12, ⟨some 70, none, .op (.mv 69)⟩, false, false⟩,
     ⟨13, ⟨some 71, some (70, true), .op (.load true 3 2)⟩, false, false⟩,
     ⟨14, ⟨some 72, some (70, true), .op (.mv 1)⟩, false, false⟩,
     ⟨16, ⟨some 74, some (70, true), .op (.load true 3 2)⟩, false, true⟩,
     ⟨17, ⟨some 75, some (70, true), .op (.mv 1)⟩, false, true⟩]
   (.ef ⟨15, ⟨some 73, some (70, true), .call 15 [71, 72]⟩, true, false⟩ [16, 17]
   (.ef ⟨18, ⟨some 76, some (70, true), .call 20 [74, 75]⟩, true, false⟩ []
   (.ef ⟨19, ⟨some 77, some (70, true), .call 16 [73, 76]⟩, true, false⟩ []
   (.rd [⟨20, ⟨some 78, none, .op (.pick 70 77 (.val (.bool false)))⟩, false, false⟩,
     ⟨21, ⟨some 4, none, .op (.mv 78)⟩, false, false⟩]
   (.nil)))))))))))))))
  (.ret)))))))
def f3 (G : Nat → AVal) : AFn := ⟨79, [.tmp 4], f3m G⟩

theorem f3_c (G : Nat → AVal) : cmpFn Tryz.prog G [] 3 = some (f3 G) := by kernel_rfl

def f7b0 (G : Nat → AVal) : MC :=
  .seq (.seq (.ops [⟨some 25, none, .op (.mv 8)⟩,
    ⟨some 26, none, .op (.mv 6)⟩,
    ⟨some 27, none, .op (.bin .add .int 26 (.val (.int 1)))⟩,
    ⟨some 28, none, .op (.iaddrA 4 1 4 27)⟩,
    ⟨some 29, none, .op (.load false 1 28)⟩,
    ⟨some 30, none, .op (.bin .lss .int 25 29)⟩])
  (.cond 30
   (.skip)
   (.exit 2)))
  (.seq (.block 3
   (.draw (.rd [⟨0, ⟨some 33, none, .op (.faddr 1 7)⟩, false, false⟩,
      ⟨1, ⟨some 34, none, .op (.load false 1 33)⟩, false, false⟩,
      ⟨2, ⟨some 35, none, .op (.mv 8)⟩, false, false⟩,
      ⟨3, ⟨some 36, none, .op (.iaddrA 10 1 2 35)⟩, false, false⟩,
      ⟨4, ⟨some 37, none, .op (.load false 1 36)⟩, false, false⟩,
      ⟨5, ⟨some 38, none, .op (.mv 8)⟩, false, false⟩,
      ⟨6, ⟨some 39, none, .op (.iaddrA 10 1 3 38)⟩, false, false⟩,
      ⟨7, ⟨some 40, none, .op (.load false 1 39)⟩, false, false⟩,
      ⟨8, ⟨some 41, none, .op (.build [.str [], .int 0, .bool false] [(false, 0, 1, 37), (false, 1, 1, 40), (false, 2, 1, (.val (.bool true)))])⟩, false, false⟩,
      ⟨9, ⟨some 42, none, .op (.bslice true 3 1 [.str [], .int 0, .bool false] [(0, 41)])⟩, false, false⟩]
    (.ef ⟨10, ⟨some 43, none, .op (.append 3 32 34 42)⟩, true, false⟩ []
    (.rd [⟨11, ⟨some 44, none, .op (.faddr 1 7)⟩, false, false⟩]
    (.ef ⟨12, ⟨none, none, .op (.store false 1 44 43)⟩, true, false⟩ []
    (.nil)))))))
  (.ops [⟨some 31, none, .op (.mv 8)⟩,
    ⟨some 32, none, .op (.bin .add .int 31 (.val (.int 1)))⟩,
    ⟨some 8, none, .op (.mv 32)⟩]))

def f7b1 (G : Nat → AVal) : MC :=
  .seq (.seq (.ops [⟨some 14, none, .op (.mv 6)⟩,
    ⟨some 15, none, .op (.bin .lss .int 14 (.val (.int 3)))⟩])
  (.cond 15
   (.skip)
   (.exit 0)))
  (.seq (.block 1
   (.seq (.ops [⟨some 18, none, .op (.mv 6)⟩,
     ⟨some 19, none, .op (.iaddrA 3 1 1 18)⟩,
     ⟨some 20, none, .op (.load false 1 19)⟩,
     ⟨some 21, none, .op (.build [.str [], .nilS, .nilS] [(false, 0, 1, 20)])⟩,
     ⟨some 7, none, .op (.alloc 3 [.str [], .nilS, .nilS])⟩,
     ⟨none, none, .op (.store true 3 7 21)⟩])
   (.seq (.seq (.ops [⟨some 22, none, .op (.mv 6)⟩,
     ⟨some 23, none, .op (.iaddrA 4 1 4 22)⟩,
     ⟨some 24, none, .op (.load false 1 23)⟩,
     ⟨some 8, none, .op (.mv 24)⟩])
   (.block 2
    (.loop (f7b0 G))))
   (.ops [⟨some 45, none, .op (.mv 5)⟩,
     ⟨some 46, none, .op (.load true 3 7)⟩,
     ⟨some 47, none, .op (.bslice true 3 1 [.str [], .nilS, .nilS] [(0, 46)])⟩,
     ⟨some 48, none, .op (.append 3 64 45 47)⟩,
     ⟨some 5, none, .op (.mv 48)⟩]))))
  (.ops [⟨some 16, none, .op (.mv 6)⟩,
    ⟨some 17, none, .op (.bin .add .int 16 (.val (.int 1)))⟩,
    ⟨some 6, none, .op (.mv 17)⟩]))

def f7m (G : Nat → AVal) : MC :=
  .seq (.ops [⟨some 0, none, .op (.mv (.val .nilS))⟩])
  (.seq (.ops [⟨some 9, none, .op (.build [.str [], .str [], .str []] [(false, 0, 1, (.val (.str [115, 121, 115, 116, 97, 98, 108, 101, 115]))), (false, 1, 1, (.val (.str [115, 121, 115, 99, 111, 108, 117, 109, 110, 115]))), (false, 2, 1, (.val (.str [115, 121, 115, 105, 110, 100, 101, 120, 101, 115])))])⟩,
    ⟨some 1, none, .op (.alloc 3 [.str [], .str [], .str []])⟩,
    ⟨none, none, .op (.store true 3 1 9)⟩])
  (.seq (.ops [⟨some 10, none, .op (.build [.str [], .str [], .str [], .str [], .str [], .str [], .str [], .str [], .str [], .str []] [(false, 0, 1, (.val (.str [110, 97, 109, 101]))), (false, 1, 1, (.val (.str [116, 98, 108]))), (false, 2, 1, (.val (.str [112, 111, 115]))), (false, 3, 1, (.val (.str [110, 97, 109, 101]))), (false, 4, 1, (.val (.str [116, 121, 112, 101]))), (false, 5, 1, (.val (.str [114, 101, 113, 117, 105, 114, 101, 100]))), (false, 6, 1, (.val (.str [110, 97, 109, 101]))), (false, 7, 1, (.val (.str [116, 98, 108]))), (false, 8, 1, (.val (.str [117, 110, 105, 113]))), (false, 9, 1, (.val (.str [99, 111, 108, 115])))])⟩,
    ⟨some 2, none, .op (.alloc 10 [.str [], .str [], .str [], .str [], .str [], .str [], .str [], .str [], .str [], .str []])⟩,
    ⟨none, none, .op (.store true 10 2 10)⟩])
  (.seq (.ops [⟨some 11, none, .op (.build [.int 0, .int 0, .int 0, .int 0, .int 0, .int 0, .int 0, .int 0, .int 0, .int 0] [(false, 0, 1, (.val (.int 4))), (false, 1, 1, (.val (.int 4))), (false, 2, 1, (.val (.int 2))), (false, 3, 1, (.val (.int 4))), (false, 4, 1, (.val (.int 4))), (false, 5, 1, (.val (.int 1))), (false, 6, 1, (.val (.int 4))), (false, 7, 1, (.val (.int 4))), (false, 8, 1, (.val (.int 1))), (false, 9, 1, (.val (.int 4)))])⟩,
    ⟨some 3, none, .op (.alloc 10 [.int 0, .int 0, .int 0, .int 0, .int 0, .int 0, .int 0, .int 0, .int 0, .int 0])⟩,
    ⟨none, none, .op (.store true 10 3 11)⟩])
  (.seq (.ops [⟨some 12, none, .op (.build [.int 0, .int 0, .int 0, .int 0] [(false, 0, 1, (.val (.int 0))), (false, 1, 1, (.val (.int 1))), (false, 2, 1, (.val (.int 6))), (false, 3, 1, (.val (.int 10)))])⟩,
    ⟨some 4, none, .op (.alloc 4 [.int 0, .int 0, .int 0, .int 0])⟩,
    ⟨none, none, .op (.store true 4 4 12)⟩])
  (.seq (.ops [⟨some 13, none, .op (.bslice true 3 0 [.str [], .nilS, .nilS] [])⟩,
    ⟨some 5, none, .op (.mv 13)⟩])
  (.seq (.seq (.ops [⟨some 6, none, .op (.mv (.val (.int 0)))⟩])
  (.block 0
   (.loop (f7b1 G))))
  (.seq (.ops [⟨some 49, none, .op (.mv 5)⟩,
    ⟨some 0, none, .op (.mv 49)⟩])
  (.ret))))))))
def f7 (G : Nat → AVal) : AFn := ⟨50, [.tmp 0], f7m G⟩

theorem f7_c (G : Nat → AVal) : cmpFn Tryz.prog G [] 7 = some (f7 G) := by kernel_rfl


def f11m (G : Nat → AVal) : MC :=
  .seq (.ops [⟨some 2, none, .op (.mv (.val (.bool false)))⟩])
  (.seq (.ops [⟨some 3, none, .op (.mv 0)⟩,
    ⟨some 4, none, .op (.bin .eql .str 3 (.val (.str [115, 121, 115, 116, 97, 98, 108, 101, 115])))⟩,
    ⟨some 5, none, .op (.mv 4)⟩,
    ⟨some 6, some (5, false), .op (.mv 0)⟩,
    ⟨some 7, some (5, false), .op (.bin .eql .str 6 (.val (.str [115, 121, 115, 99, 111, 108, 117, 109, 110, 115])))⟩,
    ⟨some 8, none, .op (.pick 5 (.val (.bool true)) 7)⟩,
    ⟨some 9, none, .op (.mv 8)⟩,
    ⟨some 10, some (9, false), .op (.mv 0)⟩,
    ⟨some 11, some (9, false), .op (.bin .eql .str 10 (.val (.str [115, 121, 115, 105, 110, 100, 101, 120, 101, 115])))⟩,
    ⟨some 12, none, .op (.pick 9 (.val (.bool true)) 11)⟩,
    ⟨some 2, none, .op (.mv 12)⟩])
  (.ret))
def f11 (G : Nat → AVal) : AFn := ⟨13, [.tmp 2], f11m G⟩

theorem f11_c (G : Nat → AVal) : cmpFn Tryz.prog G [] 11 = some (f11 G) := by kernel_rfl

def f16b0 (G : Nat → AVal) : MC :=
  .seq (.seq (.ops [⟨some 11, none, .op (.mv 5)⟩,
    ⟨some 12, none, .op (.mv 0)⟩,
    ⟨some 13, none, .op (.lenS 12)⟩,
    ⟨some 14, none, .op (.bin .lss .int 11 13)⟩])
  (.cond 14
   (.skip)
   (.exit 0)))
  (.seq (.block 1
   (.seq (.draw (.rd [⟨0, ⟨some 17, none, .op (.mv 0)⟩, false, false⟩,
      ⟨1, ⟨some 18, none, .op (.mv 5)⟩, false, false⟩,
      ⟨2, ⟨some 19, none, .op (.iaddr 3 17 18)⟩, false, false⟩,
      ⟨3, ⟨some 20, none, .op (.load true 3 19)⟩, false, false⟩,
      ⟨4, ⟨some 21, none, .op (.mv 1)⟩, false, false⟩,
      ⟨5, ⟨some 22, none, .op (.mv 5)⟩, false, false⟩,
      ⟨6, ⟨some 23, none, .op (.iaddr 3 21 22)⟩, false, false⟩,
      ⟨7, ⟨some 24, none, .op (.load true 3 23)⟩, false, false⟩,
      ⟨8, ⟨some 25, none, .op (.bin .neq (.agg [(false, 0, 1, .int), (false, 1, 1, .int), (false, 2, 1, .str)]) 20 24)⟩, false, false⟩]
    (.nil)))
   (.cond 25
    (.seq (.ops [⟨some 4, none, .op (.mv (.val (.bool false)))⟩])
    (.ret))
    (.skip))))
  (.ops [⟨some 15, none, .op (.mv 5)⟩,
    ⟨some 16, none, .op (.bin .add .int 15 (.val (.int 1)))⟩,
    ⟨some 5, none, .op (.mv 16)⟩]))

def f16m (G : Nat → AVal) : MC :=
  .seq (.ops [⟨some 4, none, .op (.mv (.val (.bool false)))⟩])
  (.seq (.seq (.ops [⟨some 6, none, .op (.mv 0)⟩,
    ⟨some 7, none, .op (.lenS 6)⟩,
    ⟨some 8, none, .op (.mv 1)⟩,
    ⟨some 9, none, .op (.lenS 8)⟩,
    ⟨some 10, none, .op (.bin .neq .int 7 9)⟩])
  (.cond 10
   (.seq (.ops [⟨some 4, none, .op (.mv (.val (.bool false)))⟩])
   (.ret))
   (.skip)))
  (.seq (.seq (.ops [⟨some 5, none, .op (.mv (.val (.int 0)))⟩])
  (.block 0
   (.loop (f16b0 G))))
  (.seq (.ops [⟨some 4, none, .op (.mv (.val (.bool true)))⟩])
  (.ret))))
def f16 (G : Nat → AVal) : AFn := ⟨26, [.tmp 4], f16m G⟩

theorem f16_c (G : Nat → AVal) : cmpFn Tryz.prog G [] 16 = some (f16 G) := by kernel_rfl


def f17m (G : Nat → AVal) : MC :=
  .seq (.ops [⟨some 1, none, .op (.box true 3 0)⟩,
    ⟨some 2, none, .op (.mv (.val .nilS))⟩])
  (.seq (.ops [⟨some 3, none, .op (.faddr 0 1)⟩,
    ⟨some 4, none, .op (.load false 1 3)⟩,
    ⟨some 5, none, .call 38 [4]⟩,
    ⟨some 6, none, .op (.bslice true 3 1 [.int 0, .int 0, .str []] [(0, 5)])⟩,
    ⟨some 2, none, .op (.mv 6)⟩])
  (.ret))
def f17 (G : Nat → AVal) : AFn := ⟨7, [.tmp 2], f17m G⟩

theorem f17_c (G : Nat → AVal) : cmpFn Tryz.prog G [] 17 = some (f17 G) := by kernel_rfl

def f18b0 (G : Nat → AVal) : MC :=
  .seq (.seq (.ops [⟨some 11, none, .op (.mv 5)⟩,
    ⟨some 12, none, .op (.mv 0)⟩,
    ⟨some 13, none, .op (.lenS 12)⟩,
    ⟨some 14, none, .op (.bin .lss .int 11 13)⟩])
  (.cond 14
   (.skip)
   (.exit 0)))
  (.seq (.block 1
   (.seq (.draw (.rd [⟨0, ⟨some 17, none, .op (.mv 0)⟩, false, false⟩,
      ⟨1, ⟨some 18, none, .op (.mv 5)⟩, false, false⟩,
      ⟨2, ⟨some 19, none, .op (.iaddr 1 17 18)⟩, false, false⟩,
      ⟨3, ⟨some 20, none, .op (.load false 1 19)⟩, false, false⟩,
      ⟨4, ⟨some 21, none, .op (.mv 1)⟩, false, false⟩,
      ⟨5, ⟨some 22, none, .op (.mv 5)⟩, false, false⟩,
      ⟨6, ⟨some 23, none, .op (.iaddr 1 21 22)⟩, false, false⟩,
      ⟨7, ⟨some 24, none, .op (.load false 1 23)⟩, false, false⟩]
    (.ef ⟨8, ⟨some 25, none, .call 16 [20, 24]⟩, true, false⟩ []
    (.rd [⟨9, ⟨some 26, none, .op (.un .not 25)⟩, false, false⟩]
    (.nil)))))
   (.cond 26
    (.seq (.ops [⟨some 4, none, .op (.mv (.val (.bool false)))⟩])
    (.ret))
    (.skip))))
  (.ops [⟨some 15, none, .op (.mv 5)⟩,
    ⟨some 16, none, .op (.bin .add .int 15 (.val (.int 1)))⟩,
    ⟨some 5, none, .op (.mv 16)⟩]))

def f18m (G : Nat → AVal) : MC :=
  .seq (.ops [⟨some 4, none, .op (.mv (.val (.bool false)))⟩])
  (.seq (.seq (.ops [⟨some 6, none, .op (.mv 0)⟩,
    ⟨some 7, none, .op (.lenS 6)⟩,
    ⟨some 8, none, .op (.mv 1)⟩,
    ⟨some 9, none, .op (.lenS 8)⟩,
    ⟨some 10, none, .op (.bin .neq .int 7 9)⟩])
  (.cond 10
   (.seq (.ops [⟨some 4, none, .op (.mv (.val (.bool false)))⟩])
   (.ret))
   (.skip)))
  (.seq (.seq (.ops [⟨some 5, none, .op (.mv (.val (.int 0)))⟩])
  (.block 0
   (.loop (f18b0 G))))
  (.seq (.ops [⟨some 4, none, .op (.mv (.val (.bool true)))⟩])
  (.ret))))
def f18 (G : Nat → AVal) : AFn := ⟨27, [.tmp 4], f18m G⟩

theorem f18_c (G : Nat → AVal) : cmpFn Tryz.prog G [] 18 = some (f18 G) := by kernel_rfl

def f19b0 (G : Nat → AVal) : MC :=
  .seq (.seq (.ops [⟨some 7, none, .op (.mv 4)⟩,
    ⟨some 8, none, .op (.faddr 1 1)⟩,
    ⟨some 9, none, .op (.load false 1 8)⟩,
    ⟨some 10, none, .op (.lenS 9)⟩,
    ⟨some 11, none, .op (.bin .lss .int 7 10)⟩])
  (.cond 11
   (.skip)
   (.exit 0)))
  (.seq (.block 1
   (.seq (.ops [⟨some 14, none, .op (.faddr 1 1)⟩,
     ⟨some 15, none, .op (.load false 1 14)⟩,
     ⟨some 16, none, .op (.mv 4)⟩,
     ⟨some 17, none, .op (.iaddr 3 15 16)⟩,
     ⟨some 18, none, .op (.load true 3 17)⟩,
     ⟨some 5, none, .op (.alloc 3 [.str [], .int 0, .bool false])⟩,
     ⟨none, none, .op (.store true 3 5 18)⟩])
   (.draw (.rd [⟨0, ⟨some 19, none, .op (.mv 3)⟩, false, true⟩,
      ⟨1, ⟨some 20, none, .op (.faddr 0 1)⟩, false, false⟩,
      ⟨2, ⟨some 21, none, .op (.load false 1 20)⟩, false, false⟩,
      ⟨4, ⟨some 23, none, .op (.mv 4)⟩, false, true⟩,
      ⟨5, ⟨some 24, none, .op (.build [.int 0, .int 0, .str []] [(false, 0, 1, (.val (.int 2))), (false, 1, 1, 23)])⟩, false, true⟩,
      ⟨6, ⟨some 25, none, .op (.faddr 0 5)⟩, false, true⟩,
      ⟨7, ⟨some 26, none, .op (.load false 1 25)⟩, false, true⟩,
      ⟨9, ⟨some 28, none, .op (.faddr 1 5)⟩, false, true⟩,
      ⟨10, ⟨some 29, none, .op (.load false 1 28)⟩, false, true⟩,
      ⟨13, ⟨some 32, none, .op (.faddr 2 5)⟩, false, true⟩,
      ⟨14, ⟨some 33, none, .op (.load false 1 32)⟩, false, true⟩]
    (.ef ⟨3, ⟨some 22, none, .call 38 [21]⟩, true, false⟩ [0, 4, 5, 6, 7, 9, 10, 13, 14]
    (.ef ⟨8, ⟨some 27, none, .call 38 [26]⟩, true, false⟩ [0, 4, 5, 9, 10, 13, 14]
    (.ef ⟨11, ⟨some 30, none, .call 39 [29]⟩, true, false⟩ [0, 4, 5, 13, 14]
    (.ef ⟨12, ⟨some 31, none, .call 38 [30]⟩, true, false⟩ [0, 4, 5, 13, 14]
    (.ef ⟨15, ⟨some 34, none, .call 40 [33]⟩, true, false⟩ [0, 4, 5]
    (.rd [⟨16, ⟨some 35, none, .op (.bslice true 3 5 [.int 0, .int 0, .str []] [(0, 22), (1, 24), (2, 27), (3, 31), (4, 34)])⟩, false, false⟩,
      ⟨17, ⟨some 36, none, .op (.bslice false 1 1 [.nilS] [(0, 35)])⟩, false, false⟩]
    (.ef ⟨18, ⟨some 37, none, .op (.append 1 24 19 36)⟩, true, false⟩ []
    (.rd [⟨19, ⟨some 3, none, .op (.mv 37)⟩, false, false⟩]
    (.nil)))))))))))))
  (.ops [⟨some 12, none, .op (.mv 4)⟩,
    ⟨some 13, none, .op (.bin .add .int 12 (.val (.int 1)))⟩,
    ⟨some 4, none, .op (.mv 13)⟩]))

def f19m (G : Nat → AVal) : MC :=
  .seq (.ops [⟨some 1, none, .op (.box true 3 0)⟩,
    ⟨some 2, none, .op (.mv (.val .nilS))⟩])
  (.seq (.ops [⟨some 6, none, .op (.bslice false 1 0 [.nilS] [])⟩,
    ⟨some 3, none, .op (.mv 6)⟩])
  (.seq (.seq (.ops [⟨some 4, none, .op (.mv (.val (.int 0)))⟩])
  (.block 0
   (.loop (f19b0 G))))
  (.seq (.ops [⟨some 38, none, .op (.mv 3)⟩,
    ⟨some 2, none, .op (.mv 38)⟩])
  (.ret))))
def f19 (G : Nat → AVal) : AFn := ⟨39, [.tmp 2], f19m G⟩

theorem f19_c (G : Nat → AVal) : cmpFn Tryz.prog G [] 19 = some (f19 G) := by kernel_rfl

def f20b0 (G : Nat → AVal) : MC :=
  .seq (.seq (.ops [⟨some 17, none, .op (.mv 6)⟩,
    ⟨some 18, none, .op (.faddr 2 2)⟩,
    ⟨some 19, none, .op (.load false 1 18)⟩,
    ⟨some 20, none, .op (.mv 1)⟩,
    ⟨some 21, none, .op (.iaddr 3 19 20)⟩,
    ⟨some 22, none, .op (.faddr 1 21)⟩,
    ⟨some 23, none, .op (.load false 1 22)⟩,
    ⟨some 24, none, .op (.lenS 23)⟩,
    ⟨some 25, none, .op (.bin .lss .int 17 24)⟩])
  (.cond 25
   (.skip)
   (.exit 0)))
  (.seq (.block 1
   (.seq (.seq (.ops [⟨some 28, none, .op (.mv 6)⟩,
     ⟨some 29, none, .op (.bin .gtr .int 28 (.val (.int 0)))⟩])
   (.cond 29
    (.ops [⟨some 30, none, .op (.mv 5)⟩,
      ⟨some 31, none, .op (.bin .add .int 30 (.val (.str [44])))⟩,
      ⟨some 5, none, .op (.mv 31)⟩])
    (.skip)))
   (.draw (.rd [⟨0, ⟨some 32, none, .op (.mv 5)⟩, false, false⟩,
      ⟨1, ⟨some 33, none, .op (.faddr 1 2)⟩, false, false⟩,
      ⟨2, ⟨some 34, none, .op (.load false 1 33)⟩, false, false⟩,
      ⟨3, ⟨some 35, none, .op (.faddr 2 2)⟩, false, false⟩,
      ⟨4, ⟨some 36, none, .op (.load false 1 35)⟩, false, false⟩,
      ⟨5, ⟨some 37, none, .op (.mv 1)⟩, false, false⟩,
      ⟨6, ⟨some 38, none, .op (.iaddr 3 36 37)⟩, false, false⟩,
      ⟨7, ⟨some 39, none, .op (.faddr 1 38)⟩, false, false⟩,
      ⟨8, ⟨some 40, none, .op (.load false 1 39)⟩, false, false⟩,
      ⟨9, ⟨some 41, none, .op (.mv 6)⟩, false, false⟩,
      ⟨10, ⟨some 42, none, .op (.iaddr 1 40 41)⟩, false, false⟩,
      ⟨11, ⟨some 43, none, .op (.load false 1 42)⟩, false, false⟩,
      ⟨12, ⟨some 44, none, .op (.iaddr 3 34 43)⟩, false, false⟩,
      ⟨13, ⟨some 45, none, .op (.faddr 0 44)⟩, false, false⟩,
      ⟨14, ⟨some 46, none, .op (.load false 1 45)⟩, false, false⟩,
      ⟨15, ⟨some 47, none, .op (.bin .add .int 32 46)⟩, false, false⟩,
      ⟨16, ⟨some 5, none, .op (.mv 47)⟩, false, false⟩]
    (.nil)))))
  (.ops [⟨some 26, none, .op (.mv 6)⟩,
    ⟨some 27, none, .op (.bin .add .int 26 (.val (.int 1)))⟩,
    ⟨some 6, none, .op (.mv 27)⟩]))

def f20m (G : Nat → AVal) : MC :=
  .seq (.ops [⟨some 2, none, .op (.box true 3 0)⟩,
    ⟨some 4, none, .op (.mv (.val .nilS))⟩])
  (.seq (.seq (.ops [⟨some 7, none, .op (.mv 1)⟩,
    ⟨some 8, none, .op (.bin .lss .int 7 (.val (.int 0)))⟩,
    ⟨some 9, none, .op (.mv 8)⟩,
    ⟨some 10, some (9, false), .op (.mv 1)⟩,
    ⟨some 11, some (9, false), .op (.faddr 2 2)⟩,
    ⟨some 12, some (9, false), .op (.load false 1 11)⟩,
    ⟨some 13, some (9, false), .op (.lenS 12)⟩,
    ⟨some 14, some (9, false), .op (.bin .geq .int 10 13)⟩,
    ⟨some 15, none, .op (.pick 9 (.val (.bool true)) 14)⟩])
  (.cond 15
   (.seq (.ops [⟨some 16, none, .op (.bslice true 3 0 [.int 0, .int 0, .str []] [])⟩,
     ⟨some 4, none, .op (.mv 16)⟩])
   (.ret))
   (.skip)))
  (.seq (.ops [⟨some 5, none, .op (.mv (.val (.str [])))⟩])
  (.seq (.seq (.ops [⟨some 6, none, .op (.mv (.val (.int 0)))⟩])
  (.block 0
   (.loop (f20b0 G))))
  (.seq (.draw (.rd [⟨0, ⟨some 48, none, .op (.faddr 2 2)⟩, false, false⟩,
     ⟨1, ⟨some 49, none, .op (.load false 1 48)⟩, false, false⟩,
     ⟨2, ⟨some 50, none, .op (.mv 1)⟩, false, false⟩,
     ⟨3, ⟨some 51, none, .op (.iaddr 3 49 50)⟩, false, false⟩,
     ⟨4, ⟨some 52, none, .op (.faddr 0 51)⟩, false, false⟩,
     ⟨5, ⟨some 53, none, .op (.load false 1 52)⟩, false, false⟩,
     ⟨7, ⟨some 55, none, .op (.faddr 0 2)⟩, false, true⟩,
     ⟨8, ⟨some 56, none, .op (.load false 1 55)⟩, false, true⟩,
     ⟨10, ⟨some 58, none, .op (.faddr 2 2)⟩, false, true⟩,
     ⟨11, ⟨some 59, none, .op (.load false 1 58)⟩, false, true⟩,
     ⟨12, ⟨some 60, none, .op (.mv 1)⟩, false, true⟩,
     ⟨13, ⟨some 61, none, .op (.iaddr 3 59 60)⟩, false, true⟩,
     ⟨14, ⟨some 62, none, .op (.faddr 2 61)⟩, false, true⟩,
     ⟨15, ⟨some 63, none, .op (.load false 1 62)⟩, false, true⟩,
     ⟨17, ⟨some 65, none, .op (.mv 5)⟩, false, true⟩]
   (.ef ⟨6, ⟨some 54, none, .call 38 [53]⟩, true, false⟩ [7, 8, 10, 11, 12, 13, 14, 15, 17]
   (.ef ⟨9, ⟨some 57, none, .call 38 [56]⟩, true, false⟩ [10, 11, 12, 13, 14, 15, 17]
   (.ef ⟨16, ⟨some 64, none, .call 40 [63]⟩, true, false⟩ [17]
   (.ef ⟨18, ⟨some 66, none, .call 38 [65]⟩, true, false⟩ []
   (.rd [⟨19, ⟨some 67, none, .op (.bslice true 3 4 [.int 0, .int 0, .str []] [(0, 54), (1, 57), (2, 64), (3, 66)])⟩, false, false⟩,
     ⟨20, ⟨some 4, none, .op (.mv 67)⟩, false, false⟩]
   (.nil))))))))
  (.ret)))))
def f20 (G : Nat → AVal) : AFn := ⟨68, [.tmp 4], f20m G⟩

theorem f20_c (G : Nat → AVal) : cmpFn Tryz.prog G [] 20 = some (f20 G) := by kernel_rfl


def f38m (G : Nat → AVal) : MC :=
  .seq (.ops [⟨some 2, none, .op (.alloc 3 [.int 0, .int 0, .str []])⟩])
  (.seq (.ops [⟨some 3, none, .op (.mv 0)⟩,
    ⟨some 4, none, .op (.build [.int 0, .int 0, .str []] [(false, 0, 1, (.val (.int 4))), (false, 2, 1, 3)])⟩,
    ⟨none, none, .op (.store true 3 2 4)⟩])
  (.ret))
def f38 (G : Nat → AVal) : AFn := ⟨5, [.cell 2 true 3], f38m G⟩

theorem f38_c (G : Nat → AVal) : cmpFn Tryz.prog G [] 38 = some (f38 G) := by kernel_rfl


def f39m (G : Nat → AVal) : MC :=
  .seq (.ops [⟨some 2, none, .op (.mv (.val (.str [])))⟩])
  (.seq (.ops [⟨some 4, none, .op (.build [.str [], .str [], .str [], .str [], .str []] [(false, 0, 1, (.val (.str []))), (false, 1, 1, (.val (.str [66, 79, 79, 76]))), (false, 2, 1, (.val (.str [73, 78, 84]))), (false, 3, 1, (.val (.str [82, 69, 65, 76]))), (false, 4, 1, (.val (.str [84, 69, 88, 84])))])⟩,
    ⟨some 3, none, .op (.alloc 5 [.str [], .str [], .str [], .str [], .str []])⟩,
    ⟨none, none, .op (.store true 5 3 4)⟩])
  (.seq (.ops [⟨some 5, none, .op (.mv 0)⟩,
    ⟨some 6, none, .op (.iaddrA 5 1 3 5)⟩,
    ⟨some 7, none, .op (.load false 1 6)⟩,
    ⟨some 2, none, .op (.mv 7)⟩])
  (.ret)))
def f39 (G : Nat → AVal) : AFn := ⟨8, [.tmp 2], f39m G⟩

theorem f39_c (G : Nat → AVal) : cmpFn Tryz.prog G [] 39 = some (f39 G) := by kernel_rfl


def f40m (G : Nat → AVal) : MC :=
  .seq (.ops [⟨some 2, none, .op (.alloc 3 [.int 0, .int 0, .str []])⟩])
  (.seq (.seq (.ops [⟨some 3, none, .op (.mv 0)⟩])
  (.cond 3
   (.seq (.ops [⟨some 4, none, .op (.build [.int 0, .int 0, .str []] [(false, 0, 1, (.val (.int 1))), (false, 1, 1, (.val (.int 1)))])⟩,
     ⟨none, none, .op (.store true 3 2 4)⟩])
   (.ret))
   (.skip)))
  (.seq (.ops [⟨some 5, none, .op (.build [.int 0, .int 0, .str []] [(false, 0, 1, (.val (.int 1)))])⟩,
    ⟨none, none, .op (.store true 3 2 5)⟩])
  (.ret)))
def f40 (G : Nat → AVal) : AFn := ⟨6, [.cell 2 true 3], f40m G⟩

theorem f40_c (G : Nat → AVal) : cmpFn Tryz.prog G [] 40 = some (f40 G) := by kernel_rfl

end Go.Abs
