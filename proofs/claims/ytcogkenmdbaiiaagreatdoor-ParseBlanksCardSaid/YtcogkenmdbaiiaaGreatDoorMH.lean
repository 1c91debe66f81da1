/- More of the seat's functions, translated; the checks. Conditions: none. -/
import Derived.Test.YtcogkenmdbaiiaaGreatDoorA25
import Derived.Test.YtcogkenmdbaiiaaGreatDoorProg
import Derived.KernelRfl
set_option linter.unusedVariables false
namespace Go.Abs
open Go Go.RowKit Go.Proofs


def f3m (G : Nat → AVal) : MC :=
  .seq (.ops [⟨some 0, none, .op (.mv (.val (.bool false)))⟩])
  (.seq (.seq (.ops [⟨some 1, none, .call 8 []⟩,
    ⟨some 2, none, .op (.un .not 1)⟩])
  (.cond 2
   (.seq (.ops [⟨some 0, none, .op (.mv (.val (.bool false)))⟩])
   (.ret))
   (.skip)))
  (.seq (.ops [⟨some 0, none, .op (.mv (.val (.bool true)))⟩])
  (.ret)))
def f3 (G : Nat → AVal) : AFn := ⟨3, [.tmp 0], f3m G⟩

theorem f3_c (G : Nat → AVal) : cmpFn Tryz.prog G [] 3 = some (f3 G) := by kernel_rfl


def f4m (G : Nat → AVal) : MC :=
  .seq (.ops [⟨some 2, none, .op (.mv (.val (.bool false)))⟩])
  (.seq (.seq (.ops [⟨some 7, none, .call 8 []⟩,
    ⟨some 8, none, .op (.un .not 7)⟩])
  (.cond 8
   (.seq (.ops [⟨some 2, none, .op (.mv (.val (.bool false)))⟩])
   (.ret))
   (.skip)))
  (.seq (.ops [⟨some 10, none, .op (.mv 0)⟩,
    ⟨some 11, none, .call 9 [10]⟩,
    ⟨some 9, none, .op (.mv 11)⟩,
    ⟨some 12, none, .op (.extract 9 0)⟩,
    ⟨some 13, none, .op (.extract 9 1)⟩,
    ⟨some 3, none, .op (.alloc 18 [.int 0, .str [], .str [], .nilS, .nilS, .bool false, .nilS, .nilS, .nilS, .int 0, .nilS, .int 0, .int 0, .int 0, .str [], .str [], .nilS, .nilS])⟩,
    ⟨none, none, .op (.store true 18 3 12)⟩,
    ⟨some 4, none, .op (.mv 13)⟩])
  (.seq (.ops [⟨some 15, none, .op (.mv 0)⟩,
    ⟨some 16, none, .call 10 [15]⟩,
    ⟨some 14, none, .op (.mv 16)⟩,
    ⟨some 17, none, .op (.extract 14 0)⟩,
    ⟨some 18, none, .op (.extract 14 1)⟩,
    ⟨some 5, none, .op (.alloc 18 [.int 0, .str [], .str [], .nilS, .nilS, .bool false, .nilS, .nilS, .nilS, .int 0, .nilS, .int 0, .int 0, .int 0, .str [], .str [], .nilS, .nilS])⟩,
    ⟨none, none, .op (.store true 18 5 17)⟩,
    ⟨some 6, none, .op (.mv 18)⟩])
  (.seq (.ops [⟨some 19, none, .op (.mv 4)⟩,
    ⟨some 20, none, .op (.mv 6)⟩,
    ⟨some 21, none, .op (.bin .eql .int 19 20)⟩,
    ⟨some 22, none, .op (.mv 21)⟩,
    ⟨some 23, some (22, true), .op (.load true 18 3)⟩,
    ⟨some 24, some (22, true), .op (.load true 18 5)⟩,
    ⟨some 25, some (22, true), .call 11 [23, 24]⟩,
    ⟨some 26, none, .op (.pick 22 25 (.val (.bool false)))⟩,
    ⟨some 2, none, .op (.mv 26)⟩])
  (.ret)))))
def f4 (G : Nat → AVal) : AFn := ⟨27, [.tmp 2], f4m G⟩

theorem f4_c (G : Nat → AVal) : cmpFn Tryz.prog G [] 4 = some (f4 G) := by kernel_rfl

def f5b0 (G : Nat → AVal) : MC :=
  .seq (.ops [⟨some 28, none, .op (.bin .lss .int 27 26)⟩])
  (.seq (.cond 28
   (.skip)
   (.exit 0))
  (.seq (.block 1
   (.seq (.ops [⟨some 29, none, .op (.iaddr 4 25 27)⟩,
     ⟨some 30, none, .op (.load true 4 29)⟩,
     ⟨some 10, none, .op (.alloc 4 [.int 0, .str [], .int 0, .int 0])⟩,
     ⟨none, none, .op (.store true 4 10 30)⟩])
   (.seq (.ops [⟨some 31, none, .op (.mv 8)⟩,
     ⟨some 32, none, .op (.load true 4 10)⟩,
     ⟨some 33, none, .call 13 [32]⟩,
     ⟨some 34, none, .op (.conv .strBytes 33)⟩,
     ⟨some 35, none, .op (.append 1 1 31 34)⟩,
     ⟨some 8, none, .op (.mv 35)⟩])
   (.ops [⟨some 36, none, .op (.mv 8)⟩,
     ⟨some 37, none, .op (.mv 7)⟩,
     ⟨some 38, none, .op (.mv 1)⟩,
     ⟨some 39, none, .op (.bin .and .int 38 (.val (.atom (.int .u8 3))))⟩,
     ⟨some 40, none, .op (.idxS 37 39)⟩,
     ⟨some 41, none, .op (.bslice false 1 1 [.atom (.int .u8 0)] [(0, 40)])⟩,
     ⟨some 42, none, .op (.append 1 1 36 41)⟩,
     ⟨some 8, none, .op (.mv 42)⟩]))))
  (.ops [⟨some 43, none, .op (.bin .add .int 27 (.val (.int 1)))⟩,
    ⟨some 27, none, .op (.mv 43)⟩])))

def f5m (G : Nat → AVal) : MC :=
  .seq (.ops [⟨some 4, none, .op (.mv (.val (.bool false)))⟩])
  (.seq (.seq (.ops [⟨some 15, none, .call 8 []⟩,
    ⟨some 16, none, .op (.un .not 15)⟩])
  (.cond 16
   (.seq (.ops [⟨some 4, none, .op (.mv (.val (.bool false)))⟩])
   (.ret))
   (.skip)))
  (.seq (.ops [⟨some 18, none, .op (.mv 0)⟩,
    ⟨some 19, none, .call 12 [18]⟩,
    ⟨some 17, none, .op (.mv 19)⟩,
    ⟨some 20, none, .op (.extract 17 0)⟩,
    ⟨some 21, none, .op (.extract 17 1)⟩,
    ⟨some 5, none, .op (.mv 20)⟩,
    ⟨some 6, none, .op (.mv 21)⟩])
  (.seq (.seq (.ops [⟨some 22, none, .op (.mv 6)⟩,
    ⟨some 23, none, .op (.bin .neq .int 22 (.val (.int 0)))⟩])
  (.cond 23
   (.seq (.ops [⟨some 4, none, .op (.mv (.val (.bool true)))⟩])
   (.ret))
   (.skip)))
  (.seq (.ops [⟨some 7, none, .op (.mv (.val (.str [32, 9, 10, 13])))⟩])
  (.seq (.ops [⟨some 24, none, .op (.bslice false 1 0 [.atom (.int .u8 0)] [])⟩,
    ⟨some 8, none, .op (.mv 24)⟩])
  (.seq (.seq (.ops [⟨some 25, none, .op (.mv 5)⟩,
    ⟨some 26, none, .op (.lenS 25)⟩,
    ⟨some 27, none, .op (.mv (.val (.int 0)))⟩])
  (.block 0
   (.loop (f5b0 G))))
  (.seq (.seq (.ops [⟨some 44, none, .op (.mv 8)⟩,
    ⟨some 45, none, .op (.lenS 44)⟩,
    ⟨some 46, none, .op (.bin .gtr .int 45 (.val (.int 4000)))⟩])
  (.cond 46
   (.seq (.ops [⟨some 4, none, .op (.mv (.val (.bool true)))⟩])
   (.ret))
   (.skip)))
  (.seq (.ops [⟨some 48, none, .op (.mv 0)⟩,
    ⟨some 49, none, .call 9 [48]⟩,
    ⟨some 47, none, .op (.mv 49)⟩,
    ⟨some 50, none, .op (.extract 47 0)⟩,
    ⟨some 51, none, .op (.extract 47 1)⟩,
    ⟨some 11, none, .op (.alloc 18 [.int 0, .str [], .str [], .nilS, .nilS, .bool false, .nilS, .nilS, .nilS, .int 0, .nilS, .int 0, .int 0, .int 0, .str [], .str [], .nilS, .nilS])⟩,
    ⟨none, none, .op (.store true 18 11 50)⟩,
    ⟨some 12, none, .op (.mv 51)⟩])
  (.seq (.ops [⟨some 53, none, .op (.mv 8)⟩,
    ⟨some 54, none, .op (.conv .bytesStr 53)⟩,
    ⟨some 55, none, .call 9 [54]⟩,
    ⟨some 52, none, .op (.mv 55)⟩,
    ⟨some 56, none, .op (.extract 52 0)⟩,
    ⟨some 57, none, .op (.extract 52 1)⟩,
    ⟨some 13, none, .op (.alloc 18 [.int 0, .str [], .str [], .nilS, .nilS, .bool false, .nilS, .nilS, .nilS, .int 0, .nilS, .int 0, .int 0, .int 0, .str [], .str [], .nilS, .nilS])⟩,
    ⟨none, none, .op (.store true 18 13 56)⟩,
    ⟨some 14, none, .op (.mv 57)⟩])
  (.seq (.ops [⟨some 58, none, .op (.mv 12)⟩,
    ⟨some 59, none, .op (.mv 14)⟩,
    ⟨some 60, none, .op (.bin .eql .int 58 59)⟩,
    ⟨some 61, none, .op (.mv 60)⟩,
    ⟨some 62, some (61, true), .op (.load true 18 11)⟩,
    ⟨some 63, some (61, true), .op (.load true 18 13)⟩,
    ⟨some 64, some (61, true), .call 11 [62, 63]⟩,
    ⟨some 65, none, .op (.pick 61 64 (.val (.bool false)))⟩,
    ⟨some 4, none, .op (.mv 65)⟩])
  (.ret)))))))))))
def f5 (G : Nat → AVal) : AFn := ⟨66, [.tmp 4], f5m G⟩

theorem f5_c (G : Nat → AVal) : cmpFn Tryz.prog G [] 5 = some (f5 G) := by kernel_rfl

def f6b0 (G : Nat → AVal) : MC :=
  .seq (.ops [⟨some 17, none, .op (.bin .lss .int 16 15)⟩])
  (.seq (.cond 17
   (.skip)
   (.exit 0))
  (.seq (.block 1
   (.seq (.ops [⟨some 18, none, .op (.mv 16)⟩,
     ⟨some 5, none, .op (.mv 18)⟩])
   (.seq (.seq (.ops [⟨some 19, none, .op (.mv 3)⟩,
     ⟨some 20, none, .op (.mv 5)⟩,
     ⟨some 21, none, .op (.iaddr 1 19 20)⟩,
     ⟨some 22, none, .op (.load false 1 21)⟩,
     ⟨some 23, none, .op (.bin .eql .int 22 (.val (.atom (.int .u8 39))))⟩])
   (.cond 23
    (.ops [⟨some 24, none, .op (.mv 4)⟩,
      ⟨some 25, none, .op (.un .not 24)⟩,
      ⟨some 4, none, .op (.mv 25)⟩])
    (.skip)))
   (.seq (.ops [⟨some 26, none, .op (.mv 4)⟩,
     ⟨some 27, none, .op (.un .not 26)⟩,
     ⟨some 28, none, .op (.mv 27)⟩,
     ⟨some 29, some (28, true), .op (.mv 3)⟩,
     ⟨some 30, some (28, true), .op (.mv 5)⟩,
     ⟨some 31, some (28, true), .op (.iaddr 1 29 30)⟩,
     ⟨some 32, some (28, true), .op (.load false 1 31)⟩,
     ⟨some 33, some (28, true), .op (.bin .geq .int 32 (.val (.atom (.int .u8 97))))⟩,
     ⟨some 34, none, .op (.pick 28 33 (.val (.bool false)))⟩,
     ⟨some 35, none, .op (.mv 34)⟩,
     ⟨some 36, some (35, true), .op (.mv 3)⟩,
     ⟨some 37, some (35, true), .op (.mv 5)⟩,
     ⟨some 38, some (35, true), .op (.iaddr 1 36 37)⟩,
     ⟨some 39, some (35, true), .op (.load false 1 38)⟩,
     ⟨some 40, some (35, true), .op (.bin .leq .int 39 (.val (.atom (.int .u8 122))))⟩,
     ⟨some 41, none, .op (.pick 35 40 (.val (.bool false)))⟩])
   (.cond 41
    (.ops [⟨some 42, none, .op (.mv 3)⟩,
      ⟨some 43, none, .op (.mv 5)⟩,
      ⟨some 44, none, .op (.iaddr 1 42 43)⟩,
      ⟨some 45, none, .op (.load false 1 44)⟩,
      ⟨some 46, none, .op (.bin .sub .int 45 (.val (.atom (.int .u8 32))))⟩,
      ⟨some 47, none, .op (.iaddr 1 42 43)⟩,
      ⟨none, none, .op (.store false 1 47 46)⟩])
    (.skip))))))
  (.ops [⟨some 48, none, .op (.bin .add .int 16 (.val (.int 1)))⟩,
    ⟨some 16, none, .op (.mv 48)⟩])))

def f6m (G : Nat → AVal) : MC :=
  .seq (.ops [⟨some 2, none, .op (.mv (.val (.bool false)))⟩])
  (.seq (.seq (.ops [⟨some 10, none, .call 8 []⟩,
    ⟨some 11, none, .op (.un .not 10)⟩])
  (.cond 11
   (.seq (.ops [⟨some 2, none, .op (.mv (.val (.bool false)))⟩])
   (.ret))
   (.skip)))
  (.seq (.ops [⟨some 12, none, .op (.mv 0)⟩,
    ⟨some 13, none, .op (.conv .strBytes 12)⟩,
    ⟨some 3, none, .op (.mv 13)⟩,
    ⟨some 4, none, .op (.mv (.val (.bool false)))⟩])
  (.seq (.seq (.ops [⟨some 14, none, .op (.mv 3)⟩,
    ⟨some 15, none, .op (.lenS 14)⟩,
    ⟨some 16, none, .op (.mv (.val (.int 0)))⟩])
  (.block 0
   (.loop (f6b0 G))))
  (.seq (.ops [⟨some 50, none, .op (.mv 0)⟩,
    ⟨some 51, none, .call 9 [50]⟩,
    ⟨some 49, none, .op (.mv 51)⟩,
    ⟨some 52, none, .op (.extract 49 0)⟩,
    ⟨some 53, none, .op (.extract 49 1)⟩,
    ⟨some 6, none, .op (.alloc 18 [.int 0, .str [], .str [], .nilS, .nilS, .bool false, .nilS, .nilS, .nilS, .int 0, .nilS, .int 0, .int 0, .int 0, .str [], .str [], .nilS, .nilS])⟩,
    ⟨none, none, .op (.store true 18 6 52)⟩,
    ⟨some 7, none, .op (.mv 53)⟩])
  (.seq (.ops [⟨some 55, none, .op (.mv 3)⟩,
    ⟨some 56, none, .op (.conv .bytesStr 55)⟩,
    ⟨some 57, none, .call 9 [56]⟩,
    ⟨some 54, none, .op (.mv 57)⟩,
    ⟨some 58, none, .op (.extract 54 0)⟩,
    ⟨some 59, none, .op (.extract 54 1)⟩,
    ⟨some 8, none, .op (.alloc 18 [.int 0, .str [], .str [], .nilS, .nilS, .bool false, .nilS, .nilS, .nilS, .int 0, .nilS, .int 0, .int 0, .int 0, .str [], .str [], .nilS, .nilS])⟩,
    ⟨none, none, .op (.store true 18 8 58)⟩,
    ⟨some 9, none, .op (.mv 59)⟩])
  (.seq (.ops [⟨some 60, none, .op (.mv 7)⟩,
    ⟨some 61, none, .op (.mv 9)⟩,
    ⟨some 62, none, .op (.bin .eql .int 60 61)⟩,
    ⟨some 63, none, .op (.mv 62)⟩,
    ⟨some 64, some (63, true), .op (.load true 18 6)⟩,
    ⟨some 65, some (63, true), .op (.load true 18 8)⟩,
    ⟨some 66, some (63, true), .call 11 [64, 65]⟩,
    ⟨some 67, none, .op (.pick 63 66 (.val (.bool false)))⟩,
    ⟨some 2, none, .op (.mv 67)⟩])
  (.ret)))))))
def f6 (G : Nat → AVal) : AFn := ⟨68, [.tmp 2], f6m G⟩

theorem f6_c (G : Nat → AVal) : cmpFn Tryz.prog G [] 6 = some (f6 G) := by kernel_rfl


def f8m (G : Nat → AVal) : MC :=
  .seq (.ops [⟨some 0, none, .op (.mv (.val (.bool false)))⟩])
  (.seq (.ops [⟨some 7, none, .call 9 [(.val (.str [68, 69, 76, 69, 84, 69, 32, 70, 82, 79, 77, 32, 116, 32, 87, 72, 69, 82, 69, 32, 78, 79, 84, 32, 97, 32, 61, 32, 45, 49, 32, 43, 32, 98, 32, 42, 32, 50]))]⟩,
    ⟨some 6, none, .op (.mv 7)⟩,
    ⟨some 8, none, .op (.extract 6 0)⟩,
    ⟨some 9, none, .op (.extract 6 1)⟩,
    ⟨some 1, none, .op (.alloc 18 [.int 0, .str [], .str [], .nilS, .nilS, .bool false, .nilS, .nilS, .nilS, .int 0, .nilS, .int 0, .int 0, .int 0, .str [], .str [], .nilS, .nilS])⟩,
    ⟨none, none, .op (.store true 18 1 8)⟩,
    ⟨some 2, none, .op (.mv 9)⟩])
  (.seq (.ops [⟨some 11, none, .call 9 [(.val (.str [83, 69, 76, 69, 67, 84, 32, 97, 32, 70, 82, 79, 77]))]⟩,
    ⟨some 10, none, .op (.mv 11)⟩,
    ⟨some 12, none, .op (.extract 10 0)⟩,
    ⟨some 13, none, .op (.extract 10 1)⟩,
    ⟨some 3, none, .op (.alloc 18 [.int 0, .str [], .str [], .nilS, .nilS, .bool false, .nilS, .nilS, .nilS, .int 0, .nilS, .int 0, .int 0, .int 0, .str [], .str [], .nilS, .nilS])⟩,
    ⟨none, none, .op (.store true 18 3 12)⟩,
    ⟨some 4, none, .op (.mv 13)⟩])
  (.seq (.ops [⟨some 14, none, .op (.faddr 9 1)⟩,
    ⟨some 15, none, .op (.load true 7 14)⟩,
    ⟨some 5, none, .op (.alloc 7 [.int 0, .nilS, .int 0, .int 0, .int 0, .str [], .str []])⟩,
    ⟨none, none, .op (.store true 7 5 15)⟩])
  (.seq (.seq (.ops [⟨some 16, none, .op (.mv 2)⟩,
    ⟨some 17, none, .op (.bin .neq .int 16 (.val (.int 0)))⟩,
    ⟨some 18, none, .op (.mv 17)⟩,
    ⟨some 19, some (18, false), .op (.mv 4)⟩,
    ⟨some 20, some (18, false), .op (.bin .neq .int 19 (.val (.int 130)))⟩,
    ⟨some 21, none, .op (.pick 18 (.val (.bool true)) 20)⟩,
    ⟨some 22, none, .op (.mv 21)⟩,
    ⟨some 23, some (22, false), .op (.faddr 0 1)⟩,
    ⟨some 24, some (22, false), .op (.load false 1 23)⟩,
    ⟨some 25, some (22, false), .op (.bin .neq .int 24 (.val (.int 8)))⟩,
    ⟨some 26, none, .op (.pick 22 (.val (.bool true)) 25)⟩,
    ⟨some 27, none, .op (.mv 26)⟩,
    ⟨some 28, some (27, false), .op (.faddr 1 1)⟩,
    ⟨some 29, some (27, false), .op (.load false 1 28)⟩,
    ⟨some 30, some (27, false), .op (.bin .neq .str 29 (.val (.str [116])))⟩,
    ⟨some 31, none, .op (.pick 27 (.val (.bool true)) 30)⟩,
    ⟨some 32, none, .op (.mv 31)⟩,
    ⟨some 33, some (32, false), .op (.faddr 0 5)⟩,
    ⟨some 34, some (32, false), .op (.load false 1 33)⟩,
    ⟨some 35, some (32, false), .op (.bin .neq .int 34 (.val (.int 16)))⟩,
    ⟨some 36, none, .op (.pick 32 (.val (.bool true)) 35)⟩,
    ⟨some 37, none, .op (.mv 36)⟩,
    ⟨some 38, some (37, false), .op (.faddr 1 5)⟩,
    ⟨some 39, some (37, false), .op (.load false 1 38)⟩,
    ⟨some 40, some (37, false), .op (.lenS 39)⟩,
    ⟨some 41, some (37, false), .op (.bin .neq .int 40 (.val (.int 1)))⟩,
    ⟨some 42, none, .op (.pick 37 (.val (.bool true)) 41)⟩,
    ⟨some 43, none, .op (.mv 42)⟩,
    ⟨some 44, some (43, false), .op (.faddr 1 5)⟩,
    ⟨some 45, some (43, false), .op (.load false 1 44)⟩,
    ⟨some 46, some (43, false), .op (.iaddr 7 45 (.val (.int 0)))⟩,
    ⟨some 47, some (43, false), .op (.faddr 0 46)⟩,
    ⟨some 48, some (43, false), .op (.load false 1 47)⟩,
    ⟨some 49, some (43, false), .op (.bin .neq .int 48 (.val (.int 1)))⟩,
    ⟨some 50, none, .op (.pick 43 (.val (.bool true)) 49)⟩,
    ⟨some 51, none, .op (.mv 50)⟩,
    ⟨some 52, some (51, false), .op (.faddr 1 5)⟩,
    ⟨some 53, some (51, false), .op (.load false 1 52)⟩,
    ⟨some 54, some (51, false), .op (.iaddr 7 53 (.val (.int 0)))⟩,
    ⟨some 55, some (51, false), .op (.faddr 1 54)⟩,
    ⟨some 56, some (51, false), .op (.load false 1 55)⟩,
    ⟨some 57, some (51, false), .op (.lenS 56)⟩,
    ⟨some 58, some (51, false), .op (.bin .neq .int 57 (.val (.int 2)))⟩,
    ⟨some 59, none, .op (.pick 51 (.val (.bool true)) 58)⟩])
  (.cond 59
   (.seq (.ops [⟨some 0, none, .op (.mv (.val (.bool false)))⟩])
   (.ret))
   (.skip)))
  (.seq (.ops [⟨some 60, none, .op (.faddr 1 5)⟩,
    ⟨some 61, none, .op (.load false 1 60)⟩,
    ⟨some 62, none, .op (.iaddr 7 61 (.val (.int 0)))⟩,
    ⟨some 63, none, .op (.faddr 1 62)⟩,
    ⟨some 64, none, .op (.load false 1 63)⟩,
    ⟨some 65, none, .op (.iaddr 7 64 (.val (.int 1)))⟩,
    ⟨some 66, none, .op (.faddr 0 65)⟩,
    ⟨some 67, none, .op (.load false 1 66)⟩,
    ⟨some 68, none, .op (.bin .eql .int 67 (.val (.int 7)))⟩,
    ⟨some 69, none, .op (.mv 68)⟩,
    ⟨some 70, some (69, true), .op (.load true 7 5)⟩,
    ⟨some 71, some (69, true), .call 18 [70]⟩,
    ⟨some 72, some (69, true), .op (.bin .eql .int 71 (.val (.int 4)))⟩,
    ⟨some 73, none, .op (.pick 69 72 (.val (.bool false)))⟩,
    ⟨some 0, none, .op (.mv 73)⟩])
  (.ret))))))
def f8 (G : Nat → AVal) : AFn := ⟨74, [.tmp 0], f8m G⟩

theorem f8_c (G : Nat → AVal) : cmpFn Tryz.prog G [] 8 = some (f8 G) := by kernel_rfl

def f11b0 (G : Nat → AVal) : MC :=
  .seq (.seq (.ops [⟨some 107, none, .op (.mv 5)⟩,
    ⟨some 108, none, .op (.faddr 3 2)⟩,
    ⟨some 109, none, .op (.load false 1 108)⟩,
    ⟨some 110, none, .op (.lenS 109)⟩,
    ⟨some 111, none, .op (.bin .lss .int 107 110)⟩])
  (.cond 111
   (.skip)
   (.exit 0)))
  (.seq (.block 1
   (.seq (.draw (.rd [⟨0, ⟨some 114, none, .op (.faddr 3 2)⟩, false, false⟩,
      ⟨1, ⟨some 115, none, .op (.load false 1 114)⟩, false, false⟩,
      ⟨2, ⟨some 116, none, .op (.mv 5)⟩, false, false⟩,
      ⟨3, ⟨some 117, none, .op (.iaddr 3 115 116)⟩, false, false⟩,
      ⟨4, ⟨some 118, none, .op (.load true 3 117)⟩, false, false⟩,
      ⟨5, ⟨some 119, none, .op (.faddr 3 3)⟩, false, false⟩,
      ⟨6, ⟨some 120, none, .op (.load false 1 119)⟩, false, false⟩,
      ⟨7, ⟨some 121, none, .op (.mv 5)⟩, false, false⟩,
      ⟨8, ⟨some 122, none, .op (.iaddr 3 120 121)⟩, false, false⟩,
      ⟨9, ⟨some 123, none, .op (.load true 3 122)⟩, false, false⟩,
      ⟨10, ⟨some 124, none, .op (.bin .neq (.agg [(false, 0, 1, .str), (false, 1, 1, .int), (false, 2, 1, .bool)]) 118 123)⟩, false, false⟩]
    (.nil)))
   (.cond 124
    (.seq (.ops [⟨some 4, none, .op (.mv (.val (.bool false)))⟩])
    (.ret))
    (.skip))))
  (.ops [⟨some 112, none, .op (.mv 5)⟩,
    ⟨some 113, none, .op (.bin .add .int 112 (.val (.int 1)))⟩,
    ⟨some 5, none, .op (.mv 113)⟩]))

def f11b1 (G : Nat → AVal) : MC :=
  .seq (.seq (.ops [⟨some 125, none, .op (.mv 6)⟩,
    ⟨some 126, none, .op (.faddr 4 2)⟩,
    ⟨some 127, none, .op (.load false 1 126)⟩,
    ⟨some 128, none, .op (.lenS 127)⟩,
    ⟨some 129, none, .op (.bin .lss .int 125 128)⟩])
  (.cond 129
   (.skip)
   (.exit 2)))
  (.seq (.block 3
   (.seq (.draw (.rd [⟨0, ⟨some 132, none, .op (.faddr 4 2)⟩, false, false⟩,
      ⟨1, ⟨some 133, none, .op (.load false 1 132)⟩, false, false⟩,
      ⟨2, ⟨some 134, none, .op (.mv 6)⟩, false, false⟩,
      ⟨3, ⟨some 135, none, .op (.iaddr 1 133 134)⟩, false, false⟩,
      ⟨4, ⟨some 136, none, .op (.load false 1 135)⟩, false, false⟩,
      ⟨5, ⟨some 137, none, .op (.faddr 4 3)⟩, false, false⟩,
      ⟨6, ⟨some 138, none, .op (.load false 1 137)⟩, false, false⟩,
      ⟨7, ⟨some 139, none, .op (.mv 6)⟩, false, false⟩,
      ⟨8, ⟨some 140, none, .op (.iaddr 1 138 139)⟩, false, false⟩,
      ⟨9, ⟨some 141, none, .op (.load false 1 140)⟩, false, false⟩,
      ⟨10, ⟨some 142, none, .op (.bin .neq .str 136 141)⟩, false, false⟩]
    (.nil)))
   (.cond 142
    (.seq (.ops [⟨some 4, none, .op (.mv (.val (.bool false)))⟩])
    (.ret))
    (.skip))))
  (.ops [⟨some 130, none, .op (.mv 6)⟩,
    ⟨some 131, none, .op (.bin .add .int 130 (.val (.int 1)))⟩,
    ⟨some 6, none, .op (.mv 131)⟩]))

def f11b2 (G : Nat → AVal) : MC :=
  .seq (.seq (.ops [⟨some 143, none, .op (.mv 7)⟩,
    ⟨some 144, none, .op (.faddr 6 2)⟩,
    ⟨some 145, none, .op (.load false 1 144)⟩,
    ⟨some 146, none, .op (.lenS 145)⟩,
    ⟨some 147, none, .op (.bin .lss .int 143 146)⟩])
  (.cond 147
   (.skip)
   (.exit 4)))
  (.seq (.block 5
   (.seq (.draw (.rd [⟨0, ⟨some 150, none, .op (.faddr 6 2)⟩, false, false⟩,
      ⟨1, ⟨some 151, none, .op (.load false 1 150)⟩, false, false⟩,
      ⟨2, ⟨some 152, none, .op (.mv 7)⟩, false, false⟩,
      ⟨3, ⟨some 153, none, .op (.iaddr 1 151 152)⟩, false, false⟩,
      ⟨4, ⟨some 154, none, .op (.load false 1 153)⟩, false, false⟩,
      ⟨5, ⟨some 155, none, .op (.faddr 6 3)⟩, false, false⟩,
      ⟨6, ⟨some 156, none, .op (.load false 1 155)⟩, false, false⟩,
      ⟨7, ⟨some 157, none, .op (.mv 7)⟩, false, false⟩,
      ⟨8, ⟨some 158, none, .op (.iaddr 1 156 157)⟩, false, false⟩,
      ⟨9, ⟨some 159, none, .op (.load false 1 158)⟩, false, false⟩]
    (.ef ⟨10, ⟨some 160, none, .call 25 [154, 159]⟩, true, false⟩ []
    (.rd [⟨11, ⟨some 161, none, .op (.un .not 160)⟩, false, false⟩]
    (.nil)))))
   (.cond 161
    (.seq (.ops [⟨some 4, none, .op (.mv (.val (.bool false)))⟩])
    (.ret))
    (.skip))))
  (.ops [⟨some 148, none, .op (.mv 7)⟩,
    ⟨some 149, none, .op (.bin .add .int 148 (.val (.int 1)))⟩,
    ⟨some 7, none, .op (.mv 149)⟩]))

def f11b3 (G : Nat → AVal) : MC :=
  .seq (.seq (.ops [⟨some 162, none, .op (.mv 8)⟩,
    ⟨some 163, none, .op (.faddr 7 2)⟩,
    ⟨some 164, none, .op (.load false 1 163)⟩,
    ⟨some 165, none, .op (.lenS 164)⟩,
    ⟨some 166, none, .op (.bin .lss .int 162 165)⟩])
  (.cond 166
   (.skip)
   (.exit 6)))
  (.seq (.block 7
   (.seq (.draw (.rd [⟨0, ⟨some 169, none, .op (.faddr 7 2)⟩, false, false⟩,
      ⟨1, ⟨some 170, none, .op (.load false 1 169)⟩, false, false⟩,
      ⟨2, ⟨some 171, none, .op (.mv 8)⟩, false, false⟩,
      ⟨3, ⟨some 172, none, .op (.iaddr 8 170 171)⟩, false, false⟩,
      ⟨4, ⟨some 173, none, .op (.faddr 7 172)⟩, false, false⟩,
      ⟨5, ⟨some 174, none, .op (.load false 1 173)⟩, false, false⟩,
      ⟨6, ⟨some 175, none, .op (.faddr 7 3)⟩, false, false⟩,
      ⟨7, ⟨some 176, none, .op (.load false 1 175)⟩, false, false⟩,
      ⟨8, ⟨some 177, none, .op (.mv 8)⟩, false, false⟩,
      ⟨9, ⟨some 178, none, .op (.iaddr 8 176 177)⟩, false, false⟩,
      ⟨10, ⟨some 179, none, .op (.faddr 7 178)⟩, false, false⟩,
      ⟨11, ⟨some 180, none, .op (.load false 1 179)⟩, false, false⟩,
      ⟨12, ⟨some 181, none, .op (.bin .neq .str 174 180)⟩, false, false⟩,
      ⟨13, ⟨some 182, none, .op (.mv 181)⟩, false, false⟩,
      ⟨14, ⟨some 183, some (182, false), .op (.faddr 7 2)⟩, false, false⟩,
      ⟨15, ⟨some 184, some (182, false), .op (.load false 1 183)⟩, false, false⟩,
      ⟨16, ⟨some 185, some (182, false), .op (.mv 8)⟩, false, false⟩,
      ⟨17, ⟨some 186, some (182, false), .op (.iaddr 8 184 185)⟩, false, false⟩,
      ⟨18, ⟨some 187, some (182, false), .op (.faddr 0 186)⟩, false, false⟩,
      ⟨19, ⟨some 188, some (182, false), .op (.load true 7 187)⟩, false, false⟩,
      ⟨20, ⟨some 189, some (182, false), .op (.faddr 7 3)⟩, false, false⟩,
      ⟨21, ⟨some 190, some (182, false), .op (.load false 1 189)⟩, false, false⟩,
      ⟨22, ⟨some 191, some (182, false), .op (.mv 8)⟩, false, false⟩,
      ⟨23, ⟨some 192, some (182, false), .op (.iaddr 8 190 191)⟩, false, false⟩,
      ⟨24, ⟨some 193, some (182, false), .op (.faddr 0 192)⟩, false, false⟩,
      ⟨25, ⟨some 194, some (182, false), .op (.load true 7 193)⟩, false, false⟩]
    (.ef ⟨26, ⟨some 195, some (182, false), .call 17 [188, 194]⟩, true, false⟩ []
    (.rd [⟨27, ⟨some 196, some (182, false), .op (.un .not 195)⟩, false, false⟩,
      ⟨28, ⟨some 197, none, .op (.pick 182 (.val (.bool true)) 196)⟩, false, false⟩]
    (.nil)))))
   (.cond 197
    (.seq (.ops [⟨some 4, none, .op (.mv (.val (.bool false)))⟩])
    (.ret))
    (.skip))))
  (.ops [⟨some 167, none, .op (.mv 8)⟩,
    ⟨some 168, none, .op (.bin .add .int 167 (.val (.int 1)))⟩,
    ⟨some 8, none, .op (.mv 168)⟩]))

def f11b4 (G : Nat → AVal) : MC :=
  .seq (.seq (.ops [⟨some 198, none, .op (.mv 9)⟩,
    ⟨some 199, none, .op (.faddr 8 2)⟩,
    ⟨some 200, none, .op (.load false 1 199)⟩,
    ⟨some 201, none, .op (.lenS 200)⟩,
    ⟨some 202, none, .op (.bin .lss .int 198 201)⟩])
  (.cond 202
   (.skip)
   (.exit 8)))
  (.seq (.block 9
   (.seq (.draw (.rd [⟨0, ⟨some 205, none, .op (.faddr 8 2)⟩, false, false⟩,
      ⟨1, ⟨some 206, none, .op (.load false 1 205)⟩, false, false⟩,
      ⟨2, ⟨some 207, none, .op (.mv 9)⟩, false, false⟩,
      ⟨3, ⟨some 208, none, .op (.iaddr 9 206 207)⟩, false, false⟩,
      ⟨4, ⟨some 209, none, .op (.faddr 0 208)⟩, false, false⟩,
      ⟨5, ⟨some 210, none, .op (.load false 1 209)⟩, false, false⟩,
      ⟨6, ⟨some 211, none, .op (.faddr 8 3)⟩, false, false⟩,
      ⟨7, ⟨some 212, none, .op (.load false 1 211)⟩, false, false⟩,
      ⟨8, ⟨some 213, none, .op (.mv 9)⟩, false, false⟩,
      ⟨9, ⟨some 214, none, .op (.iaddr 9 212 213)⟩, false, false⟩,
      ⟨10, ⟨some 215, none, .op (.faddr 0 214)⟩, false, false⟩,
      ⟨11, ⟨some 216, none, .op (.load false 1 215)⟩, false, false⟩,
      ⟨12, ⟨some 217, none, .op (.bin .neq .str 210 216)⟩, false, false⟩,
      ⟨13, ⟨some 218, none, .op (.mv 217)⟩, false, false⟩,
      ⟨14, ⟨some 219, some (218, false), .op (.faddr 8 2)⟩, false, false⟩,
      ⟨15, ⟨some 220, some (218, false), .op (.load false 1 219)⟩, false, false⟩,
      ⟨16, ⟨some 221, some (218, false), .op (.mv 9)⟩, false, false⟩,
      ⟨17, ⟨some 222, some (218, false), .op (.iaddr 9 220 221)⟩, false, false⟩,
      ⟨18, ⟨some 223, some (218, false), .op (.faddr 1 222)⟩, false, false⟩,
      ⟨19, ⟨some 224, some (218, false), .op (.load false 1 223)⟩, false, false⟩,
      ⟨20, ⟨some 225, some (218, false), .op (.faddr 8 3)⟩, false, false⟩,
      ⟨21, ⟨some 226, some (218, false), .op (.load false 1 225)⟩, false, false⟩,
      ⟨22, ⟨some 227, some (218, false), .op (.mv 9)⟩, false, false⟩,
      ⟨23, ⟨some 228, some (218, false), .op (.iaddr 9 226 227)⟩, false, false⟩,
      ⟨24, ⟨some 229, some (218, false), .op (.faddr 1 228)⟩, false, false⟩,
      ⟨25, ⟨some 230, some (218, false), .op (.load false 1 229)⟩, false, false⟩,
      ⟨26, ⟨some 231, some (218, false), .op (.bin .neq .str 224 230)⟩, false, false⟩,
      ⟨27, ⟨some 232, none, .op (.pick 218 (.val (.bool true)) 231)⟩, false, false⟩,
      ⟨28, ⟨some 233, none, .op (.mv 232)⟩, false, false⟩,
      ⟨29, ⟨some 234, some (233, false), .op (.faddr 8 2)⟩, false, false⟩,
      ⟨30, ⟨some 235, some (233, false), .op (.load false 1 234)⟩, false, false⟩,
      ⟨31, ⟨some 236, some (233, false), .op (.mv 9)⟩, false, false⟩,
      ⟨32, ⟨some 237, some (233, false), .op (.iaddr 9 235 236)⟩, false, false⟩,
      ⟨33, ⟨some 238, some (233, false), .op (.faddr 2 237)⟩, false, false⟩,
      ⟨34, ⟨some 239, some (233, false), .op (.load true 7 238)⟩, false, false⟩,
      ⟨35, ⟨some 240, some (233, false), .op (.faddr 8 3)⟩, false, false⟩,
      ⟨36, ⟨some 241, some (233, false), .op (.load false 1 240)⟩, false, false⟩,
      ⟨37, ⟨some 242, some (233, false), .op (.mv 9)⟩, false, false⟩,
      ⟨38, ⟨some 243, some (233, false), .op (.iaddr 9 241 242)⟩, false, false⟩,
      ⟨39, ⟨some 244, some (233, false), .op (.faddr 2 243)⟩, false, false⟩,
      ⟨40, ⟨some 245, some (233, false), .op (.load true 7 244)⟩, false, false⟩]
    (.ef ⟨41, ⟨some 246, some (233, false), .call 17 [239, 245]⟩, true, false⟩ []
    (.rd [⟨42, ⟨some 247, some (233, false), .op (.un .not 246)⟩, false, false⟩,
      ⟨43, ⟨some 248, none, .op (.pick 233 (.val (.bool true)) 247)⟩, false, false⟩]
    (.nil)))))
   (.cond 248
    (.seq (.ops [⟨some 4, none, .op (.mv (.val (.bool false)))⟩])
    (.ret))
    (.skip))))
  (.ops [⟨some 203, none, .op (.mv 9)⟩,
    ⟨some 204, none, .op (.bin .add .int 203 (.val (.int 1)))⟩,
    ⟨some 9, none, .op (.mv 204)⟩]))

def f11m (G : Nat → AVal) : MC :=
  .seq (.ops [⟨some 2, none, .op (.box true 18 0)⟩,
    ⟨some 3, none, .op (.box true 18 1)⟩,
    ⟨some 4, none, .op (.mv (.val (.bool false)))⟩])
  (.seq (.seq (.ops [⟨some 10, none, .op (.faddr 0 2)⟩,
    ⟨some 11, none, .op (.load false 1 10)⟩,
    ⟨some 12, none, .op (.faddr 0 3)⟩,
    ⟨some 13, none, .op (.load false 1 12)⟩,
    ⟨some 14, none, .op (.bin .neq .int 11 13)⟩,
    ⟨some 15, none, .op (.mv 14)⟩,
    ⟨some 16, some (15, false), .op (.faddr 1 2)⟩,
    ⟨some 17, some (15, false), .op (.load false 1 16)⟩,
    ⟨some 18, some (15, false), .op (.faddr 1 3)⟩,
    ⟨some 19, some (15, false), .op (.load false 1 18)⟩,
    ⟨some 20, some (15, false), .op (.bin .neq .str 17 19)⟩,
    ⟨some 21, none, .op (.pick 15 (.val (.bool true)) 20)⟩,
    ⟨some 22, none, .op (.mv 21)⟩,
    ⟨some 23, some (22, false), .op (.faddr 2 2)⟩,
    ⟨some 24, some (22, false), .op (.load false 1 23)⟩,
    ⟨some 25, some (22, false), .op (.faddr 2 3)⟩,
    ⟨some 26, some (22, false), .op (.load false 1 25)⟩,
    ⟨some 27, some (22, false), .op (.bin .neq .str 24 26)⟩,
    ⟨some 28, none, .op (.pick 22 (.val (.bool true)) 27)⟩,
    ⟨some 29, none, .op (.mv 28)⟩,
    ⟨some 30, some (29, false), .op (.faddr 5 2)⟩,
    ⟨some 31, some (29, false), .op (.load false 1 30)⟩,
    ⟨some 32, some (29, false), .op (.faddr 5 3)⟩,
    ⟨some 33, some (29, false), .op (.load false 1 32)⟩,
    ⟨some 34, some (29, false), .op (.bin .neq .bool 31 33)⟩,
    ⟨some 35, none, .op (.pick 29 (.val (.bool true)) 34)⟩,
    ⟨some 36, none, .op (.mv 35)⟩,
    ⟨some 37, some (36, false), .op (.faddr 3 2)⟩,
    ⟨some 38, some (36, false), .op (.load false 1 37)⟩,
    ⟨some 39, some (36, false), .op (.lenS 38)⟩,
    ⟨some 40, some (36, false), .op (.faddr 3 3)⟩,
    ⟨some 41, some (36, false), .op (.load false 1 40)⟩,
    ⟨some 42, some (36, false), .op (.lenS 41)⟩,
    ⟨some 43, some (36, false), .op (.bin .neq .int 39 42)⟩,
    ⟨some 44, none, .op (.pick 36 (.val (.bool true)) 43)⟩,
    ⟨some 45, none, .op (.mv 44)⟩,
    ⟨some 46, some (45, false), .op (.faddr 4 2)⟩,
    ⟨some 47, some (45, false), .op (.load false 1 46)⟩,
    ⟨some 48, some (45, false), .op (.lenS 47)⟩,
    ⟨some 49, some (45, false), .op (.faddr 4 3)⟩,
    ⟨some 50, some (45, false), .op (.load false 1 49)⟩,
    ⟨some 51, some (45, false), .op (.lenS 50)⟩,
    ⟨some 52, some (45, false), .op (.bin .neq .int 48 51)⟩,
    ⟨some 53, none, .op (.pick 45 (.val (.bool true)) 52)⟩,
    ⟨some 54, none, .op (.mv 53)⟩,
    ⟨some 55, some (54, false), .op (.faddr 6 2)⟩,
    ⟨some 56, some (54, false), .op (.load false 1 55)⟩,
    ⟨some 57, some (54, false), .op (.lenS 56)⟩,
    ⟨some 58, some (54, false), .op (.faddr 6 3)⟩,
    ⟨some 59, some (54, false), .op (.load false 1 58)⟩,
    ⟨some 60, some (54, false), .op (.lenS 59)⟩,
    ⟨some 61, some (54, false), .op (.bin .neq .int 57 60)⟩,
    ⟨some 62, none, .op (.pick 54 (.val (.bool true)) 61)⟩,
    ⟨some 63, none, .op (.mv 62)⟩,
    ⟨some 64, some (63, false), .op (.faddr 7 2)⟩,
    ⟨some 65, some (63, false), .op (.load false 1 64)⟩,
    ⟨some 66, some (63, false), .op (.lenS 65)⟩,
    ⟨some 67, some (63, false), .op (.faddr 7 3)⟩,
    ⟨some 68, some (63, false), .op (.load false 1 67)⟩,
    ⟨some 69, some (63, false), .op (.lenS 68)⟩,
    ⟨some 70, some (63, false), .op (.bin .neq .int 66 69)⟩,
    ⟨some 71, none, .op (.pick 63 (.val (.bool true)) 70)⟩,
    ⟨some 72, none, .op (.mv 71)⟩,
    ⟨some 73, some (72, false), .op (.faddr 8 2)⟩,
    ⟨some 74, some (72, false), .op (.load false 1 73)⟩,
    ⟨some 75, some (72, false), .op (.lenS 74)⟩,
    ⟨some 76, some (72, false), .op (.faddr 8 3)⟩,
    ⟨some 77, some (72, false), .op (.load false 1 76)⟩,
    ⟨some 78, some (72, false), .op (.lenS 77)⟩,
    ⟨some 79, some (72, false), .op (.bin .neq .int 75 78)⟩,
    ⟨some 80, none, .op (.pick 72 (.val (.bool true)) 79)⟩,
    ⟨some 81, none, .op (.mv 80)⟩,
    ⟨some 82, some (81, false), .op (.faddr 16 2)⟩,
    ⟨some 83, some (81, false), .op (.load false 1 82)⟩,
    ⟨some 84, some (81, false), .op (.lenS 83)⟩,
    ⟨some 85, some (81, false), .op (.faddr 16 3)⟩,
    ⟨some 86, some (81, false), .op (.load false 1 85)⟩,
    ⟨some 87, some (81, false), .op (.lenS 86)⟩,
    ⟨some 88, some (81, false), .op (.bin .neq .int 84 87)⟩,
    ⟨some 89, none, .op (.pick 81 (.val (.bool true)) 88)⟩,
    ⟨some 90, none, .op (.mv 89)⟩,
    ⟨some 91, some (90, false), .op (.faddr 17 2)⟩,
    ⟨some 92, some (90, false), .op (.load false 1 91)⟩,
    ⟨some 93, some (90, false), .op (.lenS 92)⟩,
    ⟨some 94, some (90, false), .op (.faddr 17 3)⟩,
    ⟨some 95, some (90, false), .op (.load false 1 94)⟩,
    ⟨some 96, some (90, false), .op (.lenS 95)⟩,
    ⟨some 97, some (90, false), .op (.bin .neq .int 93 96)⟩,
    ⟨some 98, none, .op (.pick 90 (.val (.bool true)) 97)⟩,
    ⟨some 99, none, .op (.mv 98)⟩,
    ⟨some 100, some (99, false), .op (.faddr 9 2)⟩,
    ⟨some 101, some (99, false), .op (.load true 7 100)⟩,
    ⟨some 102, some (99, false), .op (.faddr 9 3)⟩,
    ⟨some 103, some (99, false), .op (.load true 7 102)⟩,
    ⟨some 104, some (99, false), .call 17 [101, 103]⟩,
    ⟨some 105, some (99, false), .op (.un .not 104)⟩,
    ⟨some 106, none, .op (.pick 99 (.val (.bool true)) 105)⟩])
  (.cond 106
   (.seq (.ops [⟨some 4, none, .op (.mv (.val (.bool false)))⟩])
   (.ret))
   (.skip)))
  (.seq (.seq (.ops [⟨some 5, none, .op (.mv (.val (.int 0)))⟩])
  (.block 0
   (.loop (f11b0 G))))
  (.seq (.seq (.ops [⟨some 6, none, .op (.mv (.val (.int 0)))⟩])
  (.block 2
   (.loop (f11b1 G))))
  (.seq (.seq (.ops [⟨some 7, none, .op (.mv (.val (.int 0)))⟩])
  (.block 4
   (.loop (f11b2 G))))
  (.seq (.seq (.ops [⟨some 8, none, .op (.mv (.val (.int 0)))⟩])
  (.block 6
   (.loop (f11b3 G))))
  (.seq (.seq (.ops [⟨some 9, none, .op (.mv (.val (.int 0)))⟩])
  (.block 8
   (.loop (f11b4 G))))
  (.seq (.ops [⟨some 249, none, .op (.load true 18 2)⟩,
    ⟨some 250, none, .op (.load true 18 3)⟩,
    ⟨some 251, none, .call 26 [249, 250]⟩,
    ⟨some 4, none, .op (.mv 251)⟩])
  (.ret))))))))
def f11 (G : Nat → AVal) : AFn := ⟨252, [.tmp 4], f11m G⟩

theorem f11_c (G : Nat → AVal) : cmpFn Tryz.prog G [] 11 = some (f11 G) := by kernel_rfl


def f17m (G : Nat → AVal) : MC :=
  .seq (.ops [⟨some 2, none, .op (.box true 7 0)⟩,
    ⟨some 3, none, .op (.box true 7 1)⟩,
    ⟨some 4, none, .op (.mv (.val (.bool false)))⟩])
  (.seq (.seq (.ops [⟨some 5, none, .op (.faddr 0 2)⟩,
    ⟨some 6, none, .op (.load false 1 5)⟩,
    ⟨some 7, none, .op (.faddr 0 3)⟩,
    ⟨some 8, none, .op (.load false 1 7)⟩,
    ⟨some 9, none, .op (.bin .neq .int 6 8)⟩,
    ⟨some 10, none, .op (.mv 9)⟩,
    ⟨some 11, some (10, false), .op (.faddr 2 2)⟩,
    ⟨some 12, some (10, false), .op (.load false 1 11)⟩,
    ⟨some 13, some (10, false), .op (.faddr 2 3)⟩,
    ⟨some 14, some (10, false), .op (.load false 1 13)⟩,
    ⟨some 15, some (10, false), .op (.bin .neq .int 12 14)⟩,
    ⟨some 16, none, .op (.pick 10 (.val (.bool true)) 15)⟩,
    ⟨some 17, none, .op (.mv 16)⟩,
    ⟨some 18, some (17, false), .op (.faddr 3 2)⟩,
    ⟨some 19, some (17, false), .op (.load false 1 18)⟩,
    ⟨some 20, some (17, false), .op (.faddr 3 3)⟩,
    ⟨some 21, some (17, false), .op (.load false 1 20)⟩,
    ⟨some 22, some (17, false), .op (.bin .neq .int 19 21)⟩,
    ⟨some 23, none, .op (.pick 17 (.val (.bool true)) 22)⟩,
    ⟨some 24, none, .op (.mv 23)⟩,
    ⟨some 25, some (24, false), .op (.faddr 4 2)⟩,
    ⟨some 26, some (24, false), .op (.load false 1 25)⟩,
    ⟨some 27, some (24, false), .op (.faddr 4 3)⟩,
    ⟨some 28, some (24, false), .op (.load false 1 27)⟩,
    ⟨some 29, some (24, false), .op (.bin .neq .int 26 28)⟩,
    ⟨some 30, none, .op (.pick 24 (.val (.bool true)) 29)⟩,
    ⟨some 31, none, .op (.mv 30)⟩,
    ⟨some 32, some (31, false), .op (.faddr 5 2)⟩,
    ⟨some 33, some (31, false), .op (.load false 1 32)⟩,
    ⟨some 34, some (31, false), .op (.faddr 5 3)⟩,
    ⟨some 35, some (31, false), .op (.load false 1 34)⟩,
    ⟨some 36, some (31, false), .op (.bin .neq .str 33 35)⟩,
    ⟨some 37, none, .op (.pick 31 (.val (.bool true)) 36)⟩,
    ⟨some 38, none, .op (.mv 37)⟩,
    ⟨some 39, some (38, false), .op (.faddr 6 2)⟩,
    ⟨some 40, some (38, false), .op (.load false 1 39)⟩,
    ⟨some 41, some (38, false), .op (.faddr 6 3)⟩,
    ⟨some 42, some (38, false), .op (.load false 1 41)⟩,
    ⟨some 43, some (38, false), .op (.bin .neq .str 40 42)⟩,
    ⟨some 44, none, .op (.pick 38 (.val (.bool true)) 43)⟩])
  (.cond 44
   (.seq (.ops [⟨some 4, none, .op (.mv (.val (.bool false)))⟩])
   (.ret))
   (.skip)))
  (.seq (.ops [⟨some 45, none, .op (.faddr 1 2)⟩,
    ⟨some 46, none, .op (.load false 1 45)⟩,
    ⟨some 47, none, .op (.faddr 1 3)⟩,
    ⟨some 48, none, .op (.load false 1 47)⟩,
    ⟨some 49, none, .call 25 [46, 48]⟩,
    ⟨some 4, none, .op (.mv 49)⟩])
  (.ret)))
def f17 (G : Nat → AVal) : AFn := ⟨50, [.tmp 4], f17m G⟩

theorem f17_c (G : Nat → AVal) : cmpFn Tryz.prog G [] 17 = some (f17 G) := by kernel_rfl

def f25b0 (G : Nat → AVal) : MC :=
  .seq (.seq (.ops [⟨some 11, none, .op (.mv 5)⟩,
    ⟨some 12, none, .op (.mv 0)⟩,
    ⟨some 13, none, .op (.lenS 12)⟩,
    ⟨some 14, none, .op (.bin .lss .int 11 13)⟩])
  (.cond 14
   (.skip)
   (.exit 0)))
  (.seq (.block 1
   (.seq (.draw (.rd [⟨0, ⟨some 17, none, .op (.mv 0)⟩, false, false⟩,
      ⟨1, ⟨some 18, none, .op (.mv 5)⟩, false, false⟩,
      ⟨2, ⟨some 19, none, .op (.iaddr 7 17 18)⟩, false, false⟩,
      ⟨3, ⟨some 20, none, .op (.load true 7 19)⟩, false, false⟩,
      ⟨4, ⟨some 21, none, .op (.mv 1)⟩, false, false⟩,
      ⟨5, ⟨some 22, none, .op (.mv 5)⟩, false, false⟩,
      ⟨6, ⟨some 23, none, .op (.iaddr 7 21 22)⟩, false, false⟩,
      ⟨7, ⟨some 24, none, .op (.load true 7 23)⟩, false, false⟩]
    (.ef ⟨8, ⟨some 25, none, .call 17 [20, 24]⟩, true, false⟩ []
    (.rd [⟨9, ⟨some 26, none, .op (.un .not 25)⟩, false, false⟩]
    (.nil)))))
   (.cond 26
    (.seq (.ops [⟨some 4, none, .op (.mv (.val (.bool false)))⟩])
    (.ret))
    (.skip))))
  (.ops [⟨some 15, none, .op (.mv 5)⟩,
    ⟨some 16, none, .op (.bin .add .int 15 (.val (.int 1)))⟩,
    ⟨some 5, none, .op (.mv 16)⟩]))

def f25m (G : Nat → AVal) : MC :=
  .seq (.ops [⟨some 4, none, .op (.mv (.val (.bool false)))⟩])
  (.seq (.seq (.ops [⟨some 6, none, .op (.mv 0)⟩,
    ⟨some 7, none, .op (.lenS 6)⟩,
    ⟨some 8, none, .op (.mv 1)⟩,
    ⟨some 9, none, .op (.lenS 8)⟩,
    ⟨some 10, none, .op (.bin .neq .int 7 9)⟩])
  (.cond 10
   (.seq (.ops [⟨some 4, none, .op (.mv (.val (.bool false)))⟩])
   (.ret))
   (.skip)))
  (.seq (.seq (.ops [⟨some 5, none, .op (.mv (.val (.int 0)))⟩])
  (.block 0
   (.loop (f25b0 G))))
  (.seq (.ops [⟨some 4, none, .op (.mv (.val (.bool true)))⟩])
  (.ret))))
def f25 (G : Nat → AVal) : AFn := ⟨27, [.tmp 4], f25m G⟩

theorem f25_c (G : Nat → AVal) : cmpFn Tryz.prog G [] 25 = some (f25 G) := by kernel_rfl

def f26b0 (G : Nat → AVal) : MC :=
  .seq (.seq (.ops [⟨some 7, none, .op (.mv 5)⟩,
    ⟨some 8, none, .op (.faddr 16 2)⟩,
    ⟨some 9, none, .op (.load false 1 8)⟩,
    ⟨some 10, none, .op (.lenS 9)⟩,
    ⟨some 11, none, .op (.bin .lss .int 7 10)⟩])
  (.cond 11
   (.skip)
   (.exit 0)))
  (.seq (.block 1
   (.seq (.draw (.rd [⟨0, ⟨some 14, none, .op (.faddr 16 2)⟩, false, false⟩,
      ⟨1, ⟨some 15, none, .op (.load false 1 14)⟩, false, false⟩,
      ⟨2, ⟨some 16, none, .op (.mv 5)⟩, false, false⟩,
      ⟨3, ⟨some 17, none, .op (.iaddr 8 15 16)⟩, false, false⟩,
      ⟨4, ⟨some 18, none, .op (.faddr 7 17)⟩, false, false⟩,
      ⟨5, ⟨some 19, none, .op (.load false 1 18)⟩, false, false⟩,
      ⟨6, ⟨some 20, none, .op (.faddr 16 3)⟩, false, false⟩,
      ⟨7, ⟨some 21, none, .op (.load false 1 20)⟩, false, false⟩,
      ⟨8, ⟨some 22, none, .op (.mv 5)⟩, false, false⟩,
      ⟨9, ⟨some 23, none, .op (.iaddr 8 21 22)⟩, false, false⟩,
      ⟨10, ⟨some 24, none, .op (.faddr 7 23)⟩, false, false⟩,
      ⟨11, ⟨some 25, none, .op (.load false 1 24)⟩, false, false⟩,
      ⟨12, ⟨some 26, none, .op (.bin .neq .bool 19 25)⟩, false, false⟩,
      ⟨13, ⟨some 27, none, .op (.mv 26)⟩, false, false⟩,
      ⟨14, ⟨some 28, some (27, false), .op (.faddr 16 2)⟩, false, false⟩,
      ⟨15, ⟨some 29, some (27, false), .op (.load false 1 28)⟩, false, false⟩,
      ⟨16, ⟨some 30, some (27, false), .op (.mv 5)⟩, false, false⟩,
      ⟨17, ⟨some 31, some (27, false), .op (.iaddr 8 29 30)⟩, false, false⟩,
      ⟨18, ⟨some 32, some (27, false), .op (.faddr 0 31)⟩, false, false⟩,
      ⟨19, ⟨some 33, some (27, false), .op (.load true 7 32)⟩, false, false⟩,
      ⟨20, ⟨some 34, some (27, false), .op (.faddr 16 3)⟩, false, false⟩,
      ⟨21, ⟨some 35, some (27, false), .op (.load false 1 34)⟩, false, false⟩,
      ⟨22, ⟨some 36, some (27, false), .op (.mv 5)⟩, false, false⟩,
      ⟨23, ⟨some 37, some (27, false), .op (.iaddr 8 35 36)⟩, false, false⟩,
      ⟨24, ⟨some 38, some (27, false), .op (.faddr 0 37)⟩, false, false⟩,
      ⟨25, ⟨some 39, some (27, false), .op (.load true 7 38)⟩, false, false⟩]
    (.ef ⟨26, ⟨some 40, some (27, false), .call 17 [33, 39]⟩, true, false⟩ []
    (.rd [⟨27, ⟨some 41, some (27, false), .op (.un .not 40)⟩, false, false⟩,
      ⟨28, ⟨some 42, none, .op (.pick 27 (.val (.bool true)) 41)⟩, false, false⟩]
    (.nil)))))
   (.cond 42
    (.seq (.ops [⟨some 4, none, .op (.mv (.val (.bool false)))⟩])
    (.ret))
    (.skip))))
  (.ops [⟨some 12, none, .op (.mv 5)⟩,
    ⟨some 13, none, .op (.bin .add .int 12 (.val (.int 1)))⟩,
    ⟨some 5, none, .op (.mv 13)⟩]))

def f26b1 (G : Nat → AVal) : MC :=
  .seq (.seq (.ops [⟨some 43, none, .op (.mv 6)⟩,
    ⟨some 44, none, .op (.faddr 17 2)⟩,
    ⟨some 45, none, .op (.load false 1 44)⟩,
    ⟨some 46, none, .op (.lenS 45)⟩,
    ⟨some 47, none, .op (.bin .lss .int 43 46)⟩])
  (.cond 47
   (.skip)
   (.exit 2)))
  (.seq (.block 3
   (.seq (.draw (.rd [⟨0, ⟨some 50, none, .op (.faddr 17 2)⟩, false, false⟩,
      ⟨1, ⟨some 51, none, .op (.load false 1 50)⟩, false, false⟩,
      ⟨2, ⟨some 52, none, .op (.mv 6)⟩, false, false⟩,
      ⟨3, ⟨some 53, none, .op (.iaddr 8 51 52)⟩, false, false⟩,
      ⟨4, ⟨some 54, none, .op (.faddr 0 53)⟩, false, false⟩,
      ⟨5, ⟨some 55, none, .op (.load false 1 54)⟩, false, false⟩,
      ⟨6, ⟨some 56, none, .op (.faddr 17 3)⟩, false, false⟩,
      ⟨7, ⟨some 57, none, .op (.load false 1 56)⟩, false, false⟩,
      ⟨8, ⟨some 58, none, .op (.mv 6)⟩, false, false⟩,
      ⟨9, ⟨some 59, none, .op (.iaddr 8 57 58)⟩, false, false⟩,
      ⟨10, ⟨some 60, none, .op (.faddr 0 59)⟩, false, false⟩,
      ⟨11, ⟨some 61, none, .op (.load false 1 60)⟩, false, false⟩,
      ⟨12, ⟨some 62, none, .op (.bin .neq .str 55 61)⟩, false, false⟩,
      ⟨13, ⟨some 63, none, .op (.mv 62)⟩, false, false⟩,
      ⟨14, ⟨some 64, some (63, false), .op (.faddr 17 2)⟩, false, false⟩,
      ⟨15, ⟨some 65, some (63, false), .op (.load false 1 64)⟩, false, false⟩,
      ⟨16, ⟨some 66, some (63, false), .op (.mv 6)⟩, false, false⟩,
      ⟨17, ⟨some 67, some (63, false), .op (.iaddr 8 65 66)⟩, false, false⟩,
      ⟨18, ⟨some 68, some (63, false), .op (.faddr 1 67)⟩, false, false⟩,
      ⟨19, ⟨some 69, some (63, false), .op (.load true 7 68)⟩, false, false⟩,
      ⟨20, ⟨some 70, some (63, false), .op (.faddr 17 3)⟩, false, false⟩,
      ⟨21, ⟨some 71, some (63, false), .op (.load false 1 70)⟩, false, false⟩,
      ⟨22, ⟨some 72, some (63, false), .op (.mv 6)⟩, false, false⟩,
      ⟨23, ⟨some 73, some (63, false), .op (.iaddr 8 71 72)⟩, false, false⟩,
      ⟨24, ⟨some 74, some (63, false), .op (.faddr 1 73)⟩, false, false⟩,
      ⟨25, ⟨some 75, some (63, false), .op (.load true 7 74)⟩, false, false⟩]
    (.ef ⟨26, ⟨some 76, some (63, false), .call 17 [69, 75]⟩, true, false⟩ []
    (.rd [⟨27, ⟨some 77, some (63, false), .op (.un .not 76)⟩, false, false⟩,
      ⟨28, ⟨some 78, none, .op (.pick 63 (.val (.bool true)) 77)⟩, false, false⟩]
    (.nil)))))
   (.cond 78
    (.seq (.ops [⟨some 4, none, .op (.mv (.val (.bool false)))⟩])
    (.ret))
    (.skip))))
  (.ops [⟨some 48, none, .op (.mv 6)⟩,
    ⟨some 49, none, .op (.bin .add .int 48 (.val (.int 1)))⟩,
    ⟨some 6, none, .op (.mv 49)⟩]))

def f26m (G : Nat → AVal) : MC :=
  .seq (.ops [⟨some 2, none, .op (.box true 18 0)⟩,
    ⟨some 3, none, .op (.box true 18 1)⟩,
    ⟨some 4, none, .op (.mv (.val (.bool false)))⟩])
  (.seq (.seq (.ops [⟨some 5, none, .op (.mv (.val (.int 0)))⟩])
  (.block 0
   (.loop (f26b0 G))))
  (.seq (.seq (.ops [⟨some 6, none, .op (.mv (.val (.int 0)))⟩])
  (.block 2
   (.loop (f26b1 G))))
  (.seq (.ops [⟨some 4, none, .op (.mv (.val (.bool true)))⟩])
  (.ret))))
def f26 (G : Nat → AVal) : AFn := ⟨79, [.tmp 4], f26m G⟩

theorem f26_c (G : Nat → AVal) : cmpFn Tryz.prog G [] 26 = some (f26 G) := by kernel_rfl

end Go.Abs
