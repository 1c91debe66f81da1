/- Written by Show.lean: functions of the seat YtjoehmgnapdhaaaDoor, translated; the checks. Conditions: none. -/
import Derived.Test.YtjoehmgnapdhaaaDoorA25
import Derived.Test.YtjoehmgnapdhaaaDoorProg
import Derived.KernelRfl
set_option linter.unusedVariables false
namespace Go.Abs
open Go Go.RowKit Go.Proofs

def f4b0 (G : Nat → AVal) : MC :=
  .seq (.ops [⟨some 30, none, .op (.bin .lss .int 29 28)⟩])
  (.seq (.cond 30
   (.skip)
   (.exit 0))
  (.seq (.block 1
   (.seq (.ops [⟨some 31, none, .op (.mv 29)⟩,
     ⟨some 9, none, .op (.mv 31)⟩])
   (.ops [⟨some 32, none, .op (.mv 3)⟩,
     ⟨some 33, none, .op (.mv 9)⟩,
     ⟨some 34, none, .op (.iaddr 4 32 33)⟩,
     ⟨some 35, none, .op (.faddr 1 34)⟩,
     ⟨none, none, .op (.store false 1 35 (.val (.str [42])))⟩])))
  (.ops [⟨some 36, none, .op (.bin .add .int 29 (.val (.int 1)))⟩,
    ⟨some 29, none, .op (.mv 36)⟩])))

def f4m (G : Nat → AVal) : MC :=
  .seq (.ops [⟨some 2, none, .op (.mv (.val (.bool false)))⟩])
  (.seq (.seq (.ops [⟨some 10, none, .call 9 []⟩,
    ⟨some 11, none, .op (.un .not 10)⟩])
  (.cond 11
   (.seq (.ops [⟨some 2, none, .op (.mv (.val (.bool false)))⟩])
   (.ret))
   (.skip)))
  (.seq (.ops [⟨some 13, none, .op (.mv 0)⟩,
    ⟨some 14, none, .call 10 [13]⟩,
    ⟨some 12, none, .op (.mv 14)⟩,
    ⟨some 15, none, .op (.extract 12 0)⟩,
    ⟨some 16, none, .op (.extract 12 1)⟩,
    ⟨some 3, none, .op (.mv 15)⟩,
    ⟨some 4, none, .op (.mv 16)⟩])
  (.seq (.ops [⟨some 18, none, .op (.mv 0)⟩,
    ⟨some 19, none, .call 10 [18]⟩,
    ⟨some 17, none, .op (.mv 19)⟩,
    ⟨some 20, none, .op (.extract 17 0)⟩,
    ⟨some 21, none, .op (.extract 17 1)⟩,
    ⟨some 5, none, .op (.mv 20)⟩,
    ⟨some 6, none, .op (.mv 21)⟩])
  (.seq (.ops [⟨some 23, none, .op (.mv 0)⟩,
    ⟨some 24, none, .call 11 [23]⟩,
    ⟨some 22, none, .op (.mv 24)⟩,
    ⟨some 25, none, .op (.extract 22 0)⟩,
    ⟨some 26, none, .op (.extract 22 1)⟩,
    ⟨some 7, none, .op (.mv 25)⟩,
    ⟨some 8, none, .op (.mv 26)⟩])
  (.seq (.seq (.ops [⟨some 27, none, .op (.mv 3)⟩,
    ⟨some 28, none, .op (.lenS 27)⟩,
    ⟨some 29, none, .op (.mv (.val (.int 0)))⟩])
  (.block 0
   (.loop (f4b0 G))))
  (.seq (.ops [⟨some 37, none, .op (.mv 4)⟩,
    ⟨some 38, none, .op (.mv 8)⟩,
    ⟨some 39, none, .op (.bin .eql .int 37 38)⟩,
    ⟨some 40, none, .op (.mv 39)⟩,
    ⟨some 41, some (40, true), .op (.mv 5)⟩,
    ⟨some 42, some (40, true), .op (.mv 7)⟩,
    ⟨some 43, some (40, true), .call 12 [41, 42]⟩,
    ⟨some 44, none, .op (.pick 40 43 (.val (.bool false)))⟩,
    ⟨some 45, none, .op (.mv 44)⟩,
    ⟨some 46, some (45, true), .op (.mv 3)⟩,
    ⟨some 47, some (45, true), .op (.lenS 46)⟩,
    ⟨some 48, some (45, true), .op (.mv 7)⟩,
    ⟨some 49, some (45, true), .op (.lenS 48)⟩,
    ⟨some 50, some (45, true), .op (.bin .eql .int 47 49)⟩,
    ⟨some 51, none, .op (.pick 45 50 (.val (.bool false)))⟩,
    ⟨some 2, none, .op (.mv 51)⟩])
  (.ret)))))))
def f4 (G : Nat → AVal) : AFn := ⟨52, [.tmp 2], f4m G⟩

theorem f4_c (G : Nat → AVal) : cmpFn Tryd.prog G [] 4 = some (f4 G) := by kernel_rfl


def f5m (G : Nat → AVal) : MC :=
  .seq (.ops [⟨some 2, none, .op (.mv (.val (.bool false)))⟩])
  (.seq (.seq (.ops [⟨some 5, none, .call 9 []⟩,
    ⟨some 6, none, .op (.un .not 5)⟩])
  (.cond 6
   (.seq (.ops [⟨some 2, none, .op (.mv (.val (.bool false)))⟩])
   (.ret))
   (.skip)))
  (.seq (.seq (.ops [⟨some 7, none, .op (.mv 0)⟩,
    ⟨some 8, none, .call 13 [7]⟩,
    ⟨some 9, none, .op (.mv 0)⟩,
    ⟨some 10, none, .call 14 [9]⟩,
    ⟨some 11, none, .op (.bin .neq .bool 8 10)⟩,
    ⟨some 12, none, .op (.mv 11)⟩,
    ⟨some 13, some (12, false), .op (.mv 0)⟩,
    ⟨some 14, some (12, false), .call 15 [13]⟩,
    ⟨some 15, some (12, false), .op (.mv 0)⟩,
    ⟨some 16, some (12, false), .call 16 [15]⟩,
    ⟨some 17, some (12, false), .op (.bin .neq .bool 14 16)⟩,
    ⟨some 18, none, .op (.pick 12 (.val (.bool true)) 17)⟩])
  (.cond 18
   (.seq (.ops [⟨some 2, none, .op (.mv (.val (.bool false)))⟩])
   (.ret))
   (.skip)))
  (.seq (.ops [⟨some 20, none, .op (.mv 0)⟩,
    ⟨some 21, none, .call 10 [20]⟩,
    ⟨some 19, none, .op (.mv 21)⟩,
    ⟨some 22, none, .op (.extract 19 0)⟩,
    ⟨some 23, none, .op (.extract 19 1)⟩,
    ⟨some 3, none, .op (.mv 22)⟩,
    ⟨some 4, none, .op (.mv 23)⟩])
  (.seq (.ops [⟨some 24, none, .op (.mv 0)⟩,
    ⟨some 25, none, .call 15 [24]⟩,
    ⟨some 26, none, .op (.un .not 25)⟩,
    ⟨some 27, none, .op (.mv 26)⟩,
    ⟨some 28, some (27, false), .op (.mv 4)⟩,
    ⟨some 29, some (27, false), .op (.bin .eql .int 28 (.val (.int 0)))⟩,
    ⟨some 30, some (27, false), .op (.mv 29)⟩,
    ⟨some 31, some (30, true), .op (.mv 3)⟩,
    ⟨some 32, some (30, true), .op (.lenS 31)⟩,
    ⟨some 33, some (30, true), .op (.bin .eql .int 32 (.val (.int 1)))⟩,
    ⟨some 34, some (27, false), .op (.pick 30 33 (.val (.bool false)))⟩,
    ⟨some 35, some (27, false), .op (.mv 34)⟩,
    ⟨some 36, some (35, true), .op (.mv 3)⟩,
    ⟨some 37, some (35, true), .op (.iaddr 4 36 (.val (.int 0)))⟩,
    ⟨some 38, some (35, true), .op (.load true 4 37)⟩,
    ⟨some 39, some (35, true), .op (.mv 0)⟩,
    ⟨some 40, some (35, true), .op (.build [.int 0, .str [], .int 0, .int 0] [(false, 0, 1, (.val (.int 1))), (false, 1, 1, 39)])⟩,
    ⟨some 41, some (35, true), .op (.bin .eql (.agg [(false, 0, 1, .int), (false, 1, 1, .str), (false, 2, 1, .int), (false, 3, 1, .int)]) 38 40)⟩,
    ⟨some 42, some (27, false), .op (.pick 35 41 (.val (.bool false)))⟩,
    ⟨some 43, none, .op (.pick 27 (.val (.bool true)) 42)⟩,
    ⟨some 2, none, .op (.mv 43)⟩])
  (.ret)))))
def f5 (G : Nat → AVal) : AFn := ⟨44, [.tmp 2], f5m G⟩

theorem f5_c (G : Nat → AVal) : cmpFn Tryd.prog G [] 5 = some (f5 G) := by kernel_rfl

def f6b0 (G : Nat → AVal) : MC :=
  .seq (.ops [⟨some 29, none, .op (.bin .lss .int 28 27)⟩])
  (.seq (.cond 29
   (.skip)
   (.exit 0))
  (.seq (.block 1
   (.seq (.ops [⟨some 30, none, .op (.iaddr 4 26 28)⟩,
     ⟨some 31, none, .op (.load true 4 30)⟩,
     ⟨some 10, none, .op (.alloc 4 [.int 0, .str [], .int 0, .int 0])⟩,
     ⟨none, none, .op (.store true 4 10 31)⟩])
   (.seq (.ops [⟨some 32, none, .op (.mv 8)⟩,
     ⟨some 33, none, .op (.mv 7)⟩,
     ⟨some 34, none, .op (.mv 1)⟩,
     ⟨some 35, none, .op (.bin .and .int 34 (.val (.atom (.int .u8 3))))⟩,
     ⟨some 36, none, .op (.idxS 33 35)⟩,
     ⟨some 37, none, .op (.bslice false 1 1 [.atom (.int .u8 0)] [(0, 36)])⟩,
     ⟨some 38, none, .op (.append 1 1 32 37)⟩,
     ⟨some 8, none, .op (.mv 38)⟩])
   (.ops [⟨some 39, none, .op (.mv 8)⟩,
     ⟨some 40, none, .op (.load true 4 10)⟩,
     ⟨some 41, none, .call 17 [40]⟩,
     ⟨some 42, none, .op (.conv .strBytes 41)⟩,
     ⟨some 43, none, .op (.append 1 1 39 42)⟩,
     ⟨some 8, none, .op (.mv 43)⟩]))))
  (.ops [⟨some 44, none, .op (.bin .add .int 28 (.val (.int 1)))⟩,
    ⟨some 28, none, .op (.mv 44)⟩])))

def f6m (G : Nat → AVal) : MC :=
  .seq (.ops [⟨some 4, none, .op (.mv (.val (.bool false)))⟩])
  (.seq (.seq (.ops [⟨some 13, none, .call 9 []⟩,
    ⟨some 14, none, .op (.un .not 13)⟩])
  (.cond 14
   (.seq (.ops [⟨some 4, none, .op (.mv (.val (.bool false)))⟩])
   (.ret))
   (.skip)))
  (.seq (.ops [⟨some 16, none, .op (.mv 0)⟩,
    ⟨some 17, none, .call 10 [16]⟩,
    ⟨some 15, none, .op (.mv 17)⟩,
    ⟨some 18, none, .op (.extract 15 0)⟩,
    ⟨some 19, none, .op (.extract 15 1)⟩,
    ⟨some 5, none, .op (.mv 18)⟩,
    ⟨some 6, none, .op (.mv 19)⟩])
  (.seq (.seq (.ops [⟨some 20, none, .op (.mv 6)⟩,
    ⟨some 21, none, .op (.bin .neq .int 20 (.val (.int 0)))⟩])
  (.cond 21
   (.seq (.ops [⟨some 22, none, .op (.mv 5)⟩,
     ⟨some 23, none, .op (.lenS 22)⟩,
     ⟨some 24, none, .op (.bin .eql .int 23 (.val (.int 0)))⟩,
     ⟨some 4, none, .op (.mv 24)⟩])
   (.ret))
   (.skip)))
  (.seq (.ops [⟨some 7, none, .op (.mv (.val (.str [32, 9, 10, 13])))⟩])
  (.seq (.ops [⟨some 25, none, .op (.bslice false 1 0 [.atom (.int .u8 0)] [])⟩,
    ⟨some 8, none, .op (.mv 25)⟩])
  (.seq (.seq (.ops [⟨some 26, none, .op (.mv 5)⟩,
    ⟨some 27, none, .op (.lenS 26)⟩,
    ⟨some 28, none, .op (.mv (.val (.int 0)))⟩])
  (.block 0
   (.loop (f6b0 G))))
  (.seq (.ops [⟨some 46, none, .op (.mv 8)⟩,
    ⟨some 47, none, .op (.conv .bytesStr 46)⟩,
    ⟨some 48, none, .call 10 [47]⟩,
    ⟨some 45, none, .op (.mv 48)⟩,
    ⟨some 49, none, .op (.extract 45 0)⟩,
    ⟨some 50, none, .op (.extract 45 1)⟩,
    ⟨some 11, none, .op (.mv 49)⟩,
    ⟨some 12, none, .op (.mv 50)⟩])
  (.seq (.ops [⟨some 51, none, .op (.mv 8)⟩,
    ⟨some 52, none, .op (.lenS 51)⟩,
    ⟨some 53, none, .op (.bin .gtr .int 52 (.val (.int 4000)))⟩,
    ⟨some 54, none, .op (.mv 53)⟩,
    ⟨some 55, some (54, false), .op (.mv 12)⟩,
    ⟨some 56, some (54, false), .op (.bin .eql .int 55 (.val (.int 0)))⟩,
    ⟨some 57, some (54, false), .op (.mv 56)⟩,
    ⟨some 58, some (57, true), .op (.mv 5)⟩,
    ⟨some 59, some (57, true), .op (.mv 11)⟩,
    ⟨some 60, some (57, true), .call 12 [58, 59]⟩,
    ⟨some 61, some (54, false), .op (.pick 57 60 (.val (.bool false)))⟩,
    ⟨some 62, none, .op (.pick 54 (.val (.bool true)) 61)⟩,
    ⟨some 4, none, .op (.mv 62)⟩])
  (.ret)))))))))
def f6 (G : Nat → AVal) : AFn := ⟨63, [.tmp 4], f6m G⟩

theorem f6_c (G : Nat → AVal) : cmpFn Tryd.prog G [] 6 = some (f6 G) := by kernel_rfl


def f7m (G : Nat → AVal) : MC :=
  .seq (.ops [⟨some 4, none, .op (.mv (.val (.bool false)))⟩])
  (.seq (.seq (.ops [⟨some 11, none, .call 9 []⟩,
    ⟨some 12, none, .op (.un .not 11)⟩])
  (.cond 12
   (.seq (.ops [⟨some 4, none, .op (.mv (.val (.bool false)))⟩])
   (.ret))
   (.skip)))
  (.seq (.ops [⟨some 14, none, .op (.mv 0)⟩,
    ⟨some 15, none, .call 10 [14]⟩,
    ⟨some 13, none, .op (.mv 15)⟩,
    ⟨some 16, none, .op (.extract 13 0)⟩,
    ⟨some 17, none, .op (.extract 13 1)⟩,
    ⟨some 5, none, .op (.mv 16)⟩,
    ⟨some 6, none, .op (.mv 17)⟩])
  (.seq (.ops [⟨some 19, none, .op (.mv 1)⟩,
    ⟨some 20, none, .call 10 [19]⟩,
    ⟨some 18, none, .op (.mv 20)⟩,
    ⟨some 21, none, .op (.extract 18 0)⟩,
    ⟨some 22, none, .op (.extract 18 1)⟩,
    ⟨some 7, none, .op (.mv 21)⟩,
    ⟨some 8, none, .op (.mv 22)⟩])
  (.seq (.seq (.ops [⟨some 23, none, .op (.mv 6)⟩,
    ⟨some 24, none, .op (.bin .neq .int 23 (.val (.int 0)))⟩,
    ⟨some 25, none, .op (.mv 24)⟩,
    ⟨some 26, some (25, false), .op (.mv 8)⟩,
    ⟨some 27, some (25, false), .op (.bin .neq .int 26 (.val (.int 0)))⟩,
    ⟨some 28, none, .op (.pick 25 (.val (.bool true)) 27)⟩,
    ⟨some 29, none, .op (.mv 28)⟩,
    ⟨some 30, some (29, false), .op (.mv 0)⟩,
    ⟨some 31, some (29, false), .op (.lenStr 30)⟩,
    ⟨some 32, some (29, false), .op (.bin .add .int 31 (.val (.int 1)))⟩,
    ⟨some 33, some (29, false), .op (.mv 1)⟩,
    ⟨some 34, some (29, false), .op (.lenStr 33)⟩,
    ⟨some 35, some (29, false), .op (.bin .sub .int (.val (.int 4000)) 34)⟩,
    ⟨some 36, some (29, false), .op (.bin .gtr .int 32 35)⟩,
    ⟨some 37, none, .op (.pick 29 (.val (.bool true)) 36)⟩])
  (.cond 37
   (.seq (.ops [⟨some 4, none, .op (.mv (.val (.bool true)))⟩])
   (.ret))
   (.skip)))
  (.seq (.ops [⟨some 39, none, .op (.mv 0)⟩,
    ⟨some 40, none, .op (.bin .add .int 39 (.val (.str [32])))⟩,
    ⟨some 41, none, .op (.mv 1)⟩,
    ⟨some 42, none, .op (.bin .add .int 40 41)⟩,
    ⟨some 43, none, .call 10 [42]⟩,
    ⟨some 38, none, .op (.mv 43)⟩,
    ⟨some 44, none, .op (.extract 38 0)⟩,
    ⟨some 45, none, .op (.extract 38 1)⟩,
    ⟨some 9, none, .op (.mv 44)⟩,
    ⟨some 10, none, .op (.mv 45)⟩])
  (.seq (.ops [⟨some 46, none, .op (.mv 10)⟩,
    ⟨some 47, none, .op (.bin .eql .int 46 (.val (.int 0)))⟩,
    ⟨some 48, none, .op (.mv 47)⟩,
    ⟨some 49, some (48, true), .op (.mv 9)⟩,
    ⟨some 50, some (48, true), .op (.bslice true 4 0 [.int 0, .str [], .int 0, .int 0] [])⟩,
    ⟨some 51, some (48, true), .op (.mv 5)⟩,
    ⟨some 52, some (48, true), .op (.append 4 40 50 51)⟩,
    ⟨some 53, some (48, true), .op (.mv 7)⟩,
    ⟨some 54, some (48, true), .op (.append 4 40 52 53)⟩,
    ⟨some 55, some (48, true), .call 12 [49, 54]⟩,
    ⟨some 56, none, .op (.pick 48 55 (.val (.bool false)))⟩,
    ⟨some 4, none, .op (.mv 56)⟩])
  (.ret)))))))
def f7 (G : Nat → AVal) : AFn := ⟨57, [.tmp 4], f7m G⟩

theorem f7_c (G : Nat → AVal) : cmpFn Tryd.prog G [] 7 = some (f7 G) := by kernel_rfl

def f11b0 (G : Nat → AVal) : MC :=
  .seq (.seq (.ops [⟨some 17, none, .op (.mv 6)⟩,
    ⟨some 18, none, .op (.mv 0)⟩,
    ⟨some 19, none, .op (.lenStr 18)⟩,
    ⟨some 20, none, .op (.bin .lss .int 17 19)⟩])
  (.cond 20
   (.skip)
   (.exit 0)))
  (.block 1
   (.seq (.ops [⟨some 21, none, .op (.mv 0)⟩,
     ⟨some 22, none, .op (.mv 6)⟩,
     ⟨some 23, none, .op (.idxS 21 22)⟩,
     ⟨some 7, none, .op (.mv 23)⟩])
   (.seq (.seq (.ops [⟨some 24, none, .op (.mv 7)⟩,
     ⟨some 25, none, .op (.bin .eql .int 24 (.val (.atom (.int .u8 32))))⟩,
     ⟨some 26, none, .op (.mv 25)⟩,
     ⟨some 27, some (26, false), .op (.mv 7)⟩,
     ⟨some 28, some (26, false), .op (.bin .eql .int 27 (.val (.atom (.int .u8 9))))⟩,
     ⟨some 29, none, .op (.pick 26 (.val (.bool true)) 28)⟩,
     ⟨some 30, none, .op (.mv 29)⟩,
     ⟨some 31, some (30, false), .op (.mv 7)⟩,
     ⟨some 32, some (30, false), .op (.bin .eql .int 31 (.val (.atom (.int .u8 10))))⟩,
     ⟨some 33, none, .op (.pick 30 (.val (.bool true)) 32)⟩,
     ⟨some 34, none, .op (.mv 33)⟩,
     ⟨some 35, some (34, false), .op (.mv 7)⟩,
     ⟨some 36, some (34, false), .op (.bin .eql .int 35 (.val (.atom (.int .u8 13))))⟩,
     ⟨some 37, none, .op (.pick 34 (.val (.bool true)) 36)⟩])
   (.cond 37
    (.seq (.ops [⟨some 38, none, .op (.mv 6)⟩,
      ⟨some 39, none, .op (.bin .add .int 38 (.val (.int 1)))⟩,
      ⟨some 6, none, .op (.mv 39)⟩])
    (.exit 1))
    (.skip)))
   (.seq (.ops [⟨some 41, none, .op (.mv 0)⟩,
     ⟨some 42, none, .op (.mv 6)⟩,
     ⟨some 43, none, .call 30 [41, 42]⟩,
     ⟨some 40, none, .op (.mv 43)⟩,
     ⟨some 44, none, .op (.extract 40 0)⟩,
     ⟨some 45, none, .op (.extract 40 1)⟩,
     ⟨some 46, none, .op (.extract 40 2)⟩,
     ⟨some 8, none, .op (.alloc 4 [.int 0, .str [], .int 0, .int 0])⟩,
     ⟨none, none, .op (.store true 4 8 44)⟩,
     ⟨some 9, none, .op (.mv 45)⟩,
     ⟨some 10, none, .op (.mv 46)⟩])
   (.seq (.seq (.ops [⟨some 47, none, .op (.mv 10)⟩,
     ⟨some 48, none, .op (.bin .neq .int 47 (.val (.int 0)))⟩])
   (.cond 48
    (.seq (.ops [⟨some 49, none, .op (.mv 4)⟩,
      ⟨some 50, none, .op (.mv 10)⟩,
      ⟨some 2, none, .op (.mv 49)⟩,
      ⟨some 3, none, .op (.mv 50)⟩])
    (.ret))
    (.skip)))
   (.seq (.ops [⟨some 51, none, .op (.mv 5)⟩,
     ⟨some 52, none, .op (.load true 4 8)⟩,
     ⟨some 53, none, .op (.bslice true 4 1 [.int 0, .str [], .int 0, .int 0] [(0, 52)])⟩,
     ⟨some 54, none, .op (.append 4 40 51 53)⟩,
     ⟨some 5, none, .op (.mv 54)⟩])
   (.ops [⟨some 55, none, .op (.mv 9)⟩,
     ⟨some 6, none, .op (.mv 55)⟩])))))))

def f11m (G : Nat → AVal) : MC :=
  .seq (.ops [⟨some 2, none, .op (.mv (.val .nilS))⟩,
    ⟨some 3, none, .op (.mv (.val (.int 0)))⟩])
  (.seq (.ops [⟨some 11, none, .op (.bslice true 4 0 [.int 0, .str [], .int 0, .int 0] [])⟩,
    ⟨some 12, none, .op (.bslice true 4 0 [.int 0, .str [], .int 0, .int 0] [])⟩,
    ⟨some 4, none, .op (.mv 11)⟩,
    ⟨some 5, none, .op (.mv 12)⟩])
  (.seq (.seq (.ops [⟨some 13, none, .op (.mv 0)⟩,
    ⟨some 14, none, .op (.lenStr 13)⟩,
    ⟨some 15, none, .op (.bin .gtr .int 14 (.val (.int 4000)))⟩])
  (.cond 15
   (.seq (.ops [⟨some 16, none, .op (.mv 4)⟩,
     ⟨some 2, none, .op (.mv 16)⟩,
     ⟨some 3, none, .op (.mv (.val (.int 1)))⟩])
   (.ret))
   (.skip)))
  (.seq (.ops [⟨some 6, none, .op (.mv (.val (.int 0)))⟩])
  (.seq (.block 0
   (.loop (f11b0 G)))
  (.seq (.ops [⟨some 56, none, .op (.mv 5)⟩,
    ⟨some 2, none, .op (.mv 56)⟩,
    ⟨some 3, none, .op (.mv (.val (.int 0)))⟩])
  (.ret))))))
def f11 (G : Nat → AVal) : AFn := ⟨57, [.tmp 2, .tmp 3], f11m G⟩

theorem f11_c (G : Nat → AVal) : cmpFn Tryd.prog G [] 11 = some (f11 G) := by kernel_rfl

def f12b0 (G : Nat → AVal) : MC :=
  .seq (.seq (.ops [⟨some 11, none, .op (.mv 5)⟩,
    ⟨some 12, none, .op (.mv 0)⟩,
    ⟨some 13, none, .op (.lenS 12)⟩,
    ⟨some 14, none, .op (.bin .lss .int 11 13)⟩])
  (.cond 14
   (.skip)
   (.exit 0)))
  (.seq (.block 1
   (.seq (.draw (.rd [⟨0, ⟨some 17, none, .op (.mv 0)⟩, false, false⟩,
      ⟨1, ⟨some 18, none, .op (.mv 5)⟩, false, false⟩,
      ⟨2, ⟨some 19, none, .op (.iaddr 4 17 18)⟩, false, false⟩,
      ⟨3, ⟨some 20, none, .op (.load true 4 19)⟩, false, false⟩,
      ⟨4, ⟨some 21, none, .op (.mv 1)⟩, false, false⟩,
      ⟨5, ⟨some 22, none, .op (.mv 5)⟩, false, false⟩,
      ⟨6, ⟨some 23, none, .op (.iaddr 4 21 22)⟩, false, false⟩,
      ⟨7, ⟨some 24, none, .op (.load true 4 23)⟩, false, false⟩,
      ⟨8, ⟨some 25, none, .op (.bin .neq (.agg [(false, 0, 1, .int), (false, 1, 1, .str), (false, 2, 1, .int), (false, 3, 1, .int)]) 20 24)⟩, false, false⟩]
    (.nil)))
   (.cond 25
    (.seq (.ops [⟨some 4, none, .op (.mv (.val (.bool false)))⟩])
    (.ret))
    (.skip))))
  (.ops [⟨some 15, none, .op (.mv 5)⟩,
    ⟨some 16, none, .op (.bin .add .int 15 (.val (.int 1)))⟩,
    ⟨some 5, none, .op (.mv 16)⟩]))

def f12m (G : Nat → AVal) : MC :=
  .seq (.ops [⟨some 4, none, .op (.mv (.val (.bool false)))⟩])
  (.seq (.seq (.ops [⟨some 6, none, .op (.mv 0)⟩,
    ⟨some 7, none, .op (.lenS 6)⟩,
    ⟨some 8, none, .op (.mv 1)⟩,
    ⟨some 9, none, .op (.lenS 8)⟩,
    ⟨some 10, none, .op (.bin .neq .int 7 9)⟩])
  (.cond 10
   (.seq (.ops [⟨some 4, none, .op (.mv (.val (.bool false)))⟩])
   (.ret))
   (.skip)))
  (.seq (.seq (.ops [⟨some 5, none, .op (.mv (.val (.int 0)))⟩])
  (.block 0
   (.loop (f12b0 G))))
  (.seq (.ops [⟨some 4, none, .op (.mv (.val (.bool true)))⟩])
  (.ret))))
def f12 (G : Nat → AVal) : AFn := ⟨26, [.tmp 4], f12m G⟩

theorem f12_c (G : Nat → AVal) : cmpFn Tryd.prog G [] 12 = some (f12 G) := by kernel_rfl

def f14b0 (G : Nat → AVal) : MC :=
  .seq (.seq (.ops [⟨some 6, none, .op (.mv 4)⟩,
    ⟨some 7, none, .op (.bin .lss .int 6 (.val (.int 37)))⟩])
  (.cond 7
   (.skip)
   (.exit 0)))
  (.seq (.block 1
   (.seq (.ops [⟨some 10, none, .op (.mv 4)⟩,
     ⟨some 11, none, .op (.iaddrA 37 1 3 10)⟩,
     ⟨some 12, none, .op (.load false 1 11)⟩,
     ⟨some 13, none, .op (.mv 0)⟩,
     ⟨some 14, none, .op (.bin .eql .str 12 13)⟩])
   (.cond 14
    (.seq (.ops [⟨some 2, none, .op (.mv (.val (.bool true)))⟩])
    (.ret))
    (.skip))))
  (.ops [⟨some 8, none, .op (.mv 4)⟩,
    ⟨some 9, none, .op (.bin .add .int 8 (.val (.int 1)))⟩,
    ⟨some 4, none, .op (.mv 9)⟩]))

def f14m (G : Nat → AVal) : MC :=
  .seq (.ops [⟨some 2, none, .op (.mv (.val (.bool false)))⟩])
  (.seq (.ops [⟨some 5, none, .op (.build [.str [], .str [], .str [], .str [], .str [], .str [], .str [], .str [], .str [], .str [], .str [], .str [], .str [], .str [], .str [], .str [], .str [], .str [], .str [], .str [], .str [], .str [], .str [], .str [], .str [], .str [], .str [], .str [], .str [], .str [], .str [], .str [], .str [], .str [], .str [], .str [], .str []] [(false, 0, 1, (.val (.str [97, 110, 100]))), (false, 1, 1, (.val (.str [97, 115]))), (false, 2, 1, (.val (.str [98, 101, 103, 105, 110]))), (false, 3, 1, (.val (.str [98, 111, 111, 108]))), (false, 4, 1, (.val (.str [98, 121]))), (false, 5, 1, (.val (.str [99, 111, 109, 109, 105, 116]))), (false, 6, 1, (.val (.str [99, 114, 101, 97, 116, 101]))), (false, 7, 1, (.val (.str [100, 101, 108, 101, 116, 101]))), (false, 8, 1, (.val (.str [100, 101, 115, 99]))), (false, 9, 1, (.val (.str [100, 114, 111, 112]))), (false, 10, 1, (.val (.str [102, 97, 108, 115, 101]))), (false, 11, 1, (.val (.str [102, 114, 111, 109]))), (false, 12, 1, (.val (.str [105, 110, 100, 101, 120]))), (false, 13, 1, (.val (.str [105, 110, 102, 105, 110, 105, 116, 121]))), (false, 14, 1, (.val (.str [105, 110, 110, 101, 114]))), (false, 15, 1, (.val (.str [105, 110, 115, 101, 114, 116]))), (false, 16, 1, (.val (.str [105, 110, 116]))), (false, 17, 1, (.val (.str [105, 110, 116, 111]))), (false, 18, 1, (.val (.str [105, 115]))), (false, 19, 1, (.val (.str [106, 111, 105, 110]))), (false, 20, 1, (.val (.str [110, 97, 110]))), (false, 21, 1, (.val (.str [110, 111, 116]))), (false, 22, 1, (.val (.str [110, 117, 108, 108]))), (false, 23, 1, (.val (.str [111, 110]))), (false, 24, 1, (.val (.str [111, 114]))), (false, 25, 1, (.val (.str [111, 114, 100, 101, 114]))), (false, 26, 1, (.val (.str [114, 101, 97, 108]))), (false, 27, 1, (.val (.str [114, 111, 108, 108, 98, 97, 99, 107]))), (false, 28, 1, (.val (.str [115, 101, 108, 101, 99, 116]))), (false, 29, 1, (.val (.str [115, 101, 116]))), (false, 30, 1, (.val (.str [116, 97, 98, 108, 101]))), (false, 31, 1, (.val (.str [116, 101, 120, 116]))), (false, 32, 1, (.val (.str [116, 114, 117, 101]))), (false, 33, 1, (.val (.str [117, 110, 105, 113, 117, 101]))), (false, 34, 1, (.val (.str [117, 112, 100, 97, 116, 101]))), (false, 35, 1, (.val (.str [118, 97, 108, 117, 101, 115]))), (false, 36, 1, (.val (.str [119, 104, 101, 114, 101])))])⟩,
    ⟨some 3, none, .op (.alloc 37 [.str [], .str [], .str [], .str [], .str [], .str [], .str [], .str [], .str [], .str [], .str [], .str [], .str [], .str [], .str [], .str [], .str [], .str [], .str [], .str [], .str [], .str [], .str [], .str [], .str [], .str [], .str [], .str [], .str [], .str [], .str [], .str [], .str [], .str [], .str [], .str [], .str []])⟩,
    ⟨none, none, .op (.store true 37 3 5)⟩])
  (.seq (.seq (.ops [⟨some 4, none, .op (.mv (.val (.int 0)))⟩])
  (.block 0
   (.loop (f14b0 G))))
  (.seq (.ops [⟨some 2, none, .op (.mv (.val (.bool false)))⟩])
  (.ret))))
def f14 (G : Nat → AVal) : AFn := ⟨15, [.tmp 2], f14m G⟩

theorem f14_c (G : Nat → AVal) : cmpFn Tryd.prog G [] 14 = some (f14 G) := by kernel_rfl

def f16b0 (G : Nat → AVal) : MC :=
  .seq (.seq (.ops [⟨some 20, none, .op (.mv 3)⟩,
    ⟨some 21, none, .op (.mv 0)⟩,
    ⟨some 22, none, .op (.lenStr 21)⟩,
    ⟨some 23, none, .op (.bin .lss .int 20 22)⟩])
  (.cond 23
   (.skip)
   (.exit 0)))
  (.seq (.block 1
   (.seq (.draw (.rd [⟨0, ⟨some 26, none, .op (.mv 0)⟩, false, false⟩,
      ⟨1, ⟨some 27, none, .op (.mv 3)⟩, false, false⟩,
      ⟨2, ⟨some 28, none, .op (.idxS 26 27)⟩, false, false⟩,
      ⟨4, ⟨some 30, none, .op (.mv 0)⟩, false, true⟩,
      ⟨5, ⟨some 31, none, .op (.mv 3)⟩, false, true⟩,
      ⟨6, ⟨some 32, none, .op (.idxS 30 31)⟩, false, true⟩]
    (.ef ⟨3, ⟨some 29, none, .call 35 [28]⟩, true, false⟩ [4, 5, 6]
    (.rd [⟨7, ⟨some 33, none, .op (.bin .neq .int 29 32)⟩, false, false⟩,
      ⟨8, ⟨some 34, none, .op (.mv 33)⟩, false, false⟩,
      ⟨9, ⟨some 35, some (34, false), .op (.mv 0)⟩, false, false⟩,
      ⟨10, ⟨some 36, some (34, false), .op (.mv 3)⟩, false, false⟩,
      ⟨11, ⟨some 37, some (34, false), .op (.idxS 35 36)⟩, false, false⟩]
    (.ef ⟨12, ⟨some 38, some (34, false), .call 34 [37]⟩, true, false⟩ []
    (.rd [⟨13, ⟨some 39, some (34, false), .op (.un .not 38)⟩, false, false⟩,
      ⟨14, ⟨some 40, some (34, false), .op (.mv 39)⟩, false, false⟩,
      ⟨15, ⟨some 41, some (40, true), .op (.mv 0)⟩, false, false⟩,
      ⟨16, ⟨some 42, some (40, true), .op (.mv 3)⟩, false, false⟩,
      ⟨17, ⟨some 43, some (40, true), .op (.idxS 41 42)⟩, false, false⟩]
    (.ef ⟨18, ⟨some 44, some (40, true), .call 36 [43]⟩, true, false⟩ []
    (.rd [⟨19, ⟨some 45, some (40, true), .op (.un .not 44)⟩, false, false⟩,
      ⟨20, ⟨some 46, some (34, false), .op (.pick 40 45 (.val (.bool false)))⟩, false, false⟩,
      ⟨21, ⟨some 47, none, .op (.pick 34 (.val (.bool true)) 46)⟩, false, false⟩]
    (.nil)))))))))
   (.cond 47
    (.seq (.ops [⟨some 2, none, .op (.mv (.val (.bool false)))⟩])
    (.ret))
    (.skip))))
  (.ops [⟨some 24, none, .op (.mv 3)⟩,
    ⟨some 25, none, .op (.bin .add .int 24 (.val (.int 1)))⟩,
    ⟨some 3, none, .op (.mv 25)⟩]))

def f16m (G : Nat → AVal) : MC :=
  .seq (.ops [⟨some 2, none, .op (.mv (.val (.bool false)))⟩])
  (.seq (.seq (.ops [⟨some 4, none, .op (.mv 0)⟩,
    ⟨some 5, none, .op (.lenStr 4)⟩,
    ⟨some 6, none, .op (.bin .lss .int 5 (.val (.int 1)))⟩,
    ⟨some 7, none, .op (.mv 6)⟩,
    ⟨some 8, some (7, false), .op (.mv 0)⟩,
    ⟨some 9, some (7, false), .op (.lenStr 8)⟩,
    ⟨some 10, some (7, false), .op (.bin .gtr .int 9 (.val (.int 32)))⟩,
    ⟨some 11, none, .op (.pick 7 (.val (.bool true)) 10)⟩,
    ⟨some 12, none, .op (.mv 11)⟩,
    ⟨some 13, some (12, false), .op (.mv 0)⟩,
    ⟨some 14, some (12, false), .call 14 [13]⟩,
    ⟨some 15, none, .op (.pick 12 (.val (.bool true)) 14)⟩])
  (.cond 15
   (.seq (.ops [⟨some 2, none, .op (.mv (.val (.bool false)))⟩])
   (.ret))
   (.skip)))
  (.seq (.seq (.ops [⟨some 16, none, .op (.mv 0)⟩,
    ⟨some 17, none, .op (.idxS 16 (.val (.int 0)))⟩,
    ⟨some 18, none, .call 34 [17]⟩,
    ⟨some 19, none, .op (.un .not 18)⟩])
  (.cond 19
   (.seq (.ops [⟨some 2, none, .op (.mv (.val (.bool false)))⟩])
   (.ret))
   (.skip)))
  (.seq (.seq (.ops [⟨some 3, none, .op (.mv (.val (.int 0)))⟩])
  (.block 0
   (.loop (f16b0 G))))
  (.seq (.ops [⟨some 2, none, .op (.mv (.val (.bool true)))⟩])
  (.ret)))))
def f16 (G : Nat → AVal) : AFn := ⟨48, [.tmp 2], f16m G⟩

theorem f16_c (G : Nat → AVal) : cmpFn Tryd.prog G [] 16 = some (f16 G) := by kernel_rfl

def f17b0 (G : Nat → AVal) : MC :=
  .seq (.seq (.ops [⟨some 18, none, .op (.mv 3)⟩,
    ⟨some 19, none, .op (.lenStr 18)⟩,
    ⟨some 20, none, .op (.faddr 3 1)⟩,
    ⟨some 21, none, .op (.load false 1 20)⟩,
    ⟨some 22, none, .op (.bin .leq .int 19 21)⟩])
  (.cond 22
   (.skip)
   (.exit 1)))
  (.block 2
   (.ops [⟨some 23, none, .op (.mv 3)⟩,
     ⟨some 24, none, .op (.bin .add .int (.val (.str [48])) 23)⟩,
     ⟨some 3, none, .op (.mv 24)⟩]))

def f17b1 (G : Nat → AVal) : MC :=
  .seq (.seq (.ops [⟨some 44, none, .op (.mv 5)⟩,
    ⟨some 45, none, .op (.faddr 1 1)⟩,
    ⟨some 46, none, .op (.load false 1 45)⟩,
    ⟨some 47, none, .op (.lenStr 46)⟩,
    ⟨some 48, none, .op (.bin .lss .int 44 47)⟩])
  (.cond 48
   (.skip)
   (.exit 3)))
  (.seq (.block 4
   (.seq (.ops [⟨some 51, none, .op (.mv 4)⟩,
     ⟨some 52, none, .op (.faddr 1 1)⟩,
     ⟨some 53, none, .op (.load false 1 52)⟩,
     ⟨some 54, none, .op (.mv 5)⟩,
     ⟨some 55, none, .op (.idxS 53 54)⟩,
     ⟨some 56, none, .op (.bslice false 1 1 [.atom (.int .u8 0)] [(0, 55)])⟩,
     ⟨some 57, none, .op (.append 1 1 51 56)⟩,
     ⟨some 4, none, .op (.mv 57)⟩])
   (.seq (.ops [⟨some 58, none, .op (.faddr 1 1)⟩,
     ⟨some 59, none, .op (.load false 1 58)⟩,
     ⟨some 60, none, .op (.mv 5)⟩,
     ⟨some 61, none, .op (.idxS 59 60)⟩,
     ⟨some 62, none, .op (.bin .eql .int 61 (.val (.atom (.int .u8 39))))⟩])
   (.cond 62
    (.ops [⟨some 63, none, .op (.mv 4)⟩,
      ⟨some 64, none, .op (.bslice false 1 1 [.atom (.int .u8 0)] [(0, (.val (.atom (.int .u8 39))))])⟩,
      ⟨some 65, none, .op (.append 1 1 63 64)⟩,
      ⟨some 4, none, .op (.mv 65)⟩])
    (.skip)))))
  (.ops [⟨some 49, none, .op (.mv 5)⟩,
    ⟨some 50, none, .op (.bin .add .int 49 (.val (.int 1)))⟩,
    ⟨some 5, none, .op (.mv 50)⟩]))

def f17m (G : Nat → AVal) : MC :=
  .seq (.ops [⟨some 1, none, .op (.box true 4 0)⟩,
    ⟨some 2, none, .op (.mv (.val (.str [])))⟩])
  (.seq (.seq (.ops [⟨some 6, none, .op (.faddr 0 1)⟩,
    ⟨some 7, none, .op (.load false 1 6)⟩])
  (.block 0
   (.seq (.ops [⟨some 9, none, .op (.bin .eql .int 7 (.val (.int 2)))⟩,
     ⟨some 8, none, .op (.mv 9)⟩])
   (.cond 8
    (.seq (.ops [⟨some 10, none, .op (.faddr 2 1)⟩,
      ⟨some 11, none, .op (.load false 1 10)⟩,
      ⟨some 12, none, .call 37 [11]⟩,
      ⟨some 2, none, .op (.mv 12)⟩])
    (.ret))
    (.seq (.ops [⟨some 14, none, .op (.bin .eql .int 7 (.val (.int 3)))⟩,
      ⟨some 13, none, .op (.mv 14)⟩])
    (.cond 13
     (.seq (.ops [⟨some 15, none, .op (.faddr 2 1)⟩,
       ⟨some 16, none, .op (.load false 1 15)⟩,
       ⟨some 17, none, .call 37 [16]⟩,
       ⟨some 3, none, .op (.mv 17)⟩])
     (.seq (.block 1
      (.loop (f17b0 G)))
     (.seq (.draw (.rd [⟨0, ⟨some 25, none, .op (.mv 3)⟩, false, false⟩,
        ⟨1, ⟨some 26, none, .op (.mv 3)⟩, false, false⟩,
        ⟨2, ⟨some 27, none, .op (.lenStr 26)⟩, false, false⟩,
        ⟨3, ⟨some 28, none, .op (.faddr 3 1)⟩, false, false⟩,
        ⟨4, ⟨some 29, none, .op (.load false 1 28)⟩, false, false⟩,
        ⟨5, ⟨some 30, none, .op (.bin .sub .int 27 29)⟩, false, false⟩,
        ⟨6, ⟨some 31, none, .op (.sslc 25 none (some 30))⟩, false, false⟩,
        ⟨7, ⟨some 32, none, .op (.bin .add .int 31 (.val (.str [46])))⟩, false, false⟩,
        ⟨8, ⟨some 33, none, .op (.mv 3)⟩, false, false⟩,
        ⟨9, ⟨some 34, none, .op (.mv 3)⟩, false, false⟩,
        ⟨10, ⟨some 35, none, .op (.lenStr 34)⟩, false, false⟩,
        ⟨11, ⟨some 36, none, .op (.faddr 3 1)⟩, false, false⟩,
        ⟨12, ⟨some 37, none, .op (.load false 1 36)⟩, false, false⟩,
        ⟨13, ⟨some 38, none, .op (.bin .sub .int 35 37)⟩, false, false⟩,
        ⟨14, ⟨some 39, none, .op (.sslc 33 (some 38) none)⟩, false, false⟩,
        ⟨15, ⟨some 40, none, .op (.bin .add .int 32 39)⟩, false, false⟩,
        ⟨16, ⟨some 2, none, .op (.mv 40)⟩, false, false⟩]
      (.nil)))
     (.ret))))
     (.seq (.ops [⟨some 42, none, .op (.bin .eql .int 7 (.val (.int 4)))⟩,
       ⟨some 41, none, .op (.mv 42)⟩])
     (.cond 41
      (.seq (.ops [⟨some 43, none, .op (.brow false 1 1 [.atom (.int .u8 0)] [(0, (.val (.atom (.int .u8 39))))])⟩,
        ⟨some 4, none, .op (.mv 43)⟩])
      (.seq (.seq (.ops [⟨some 5, none, .op (.mv (.val (.int 0)))⟩])
      (.block 3
       (.loop (f17b1 G))))
      (.seq (.ops [⟨some 66, none, .op (.mv 4)⟩,
        ⟨some 67, none, .op (.bslice false 1 1 [.atom (.int .u8 0)] [(0, (.val (.atom (.int .u8 39))))])⟩,
        ⟨some 68, none, .op (.append 1 1 66 67)⟩,
        ⟨some 69, none, .op (.conv .bytesStr 68)⟩,
        ⟨some 2, none, .op (.mv 69)⟩])
      (.ret))))
      (.skip)))))))))
  (.seq (.ops [⟨some 70, none, .op (.faddr 1 1)⟩,
    ⟨some 71, none, .op (.load false 1 70)⟩,
    ⟨some 2, none, .op (.mv 71)⟩])
  (.ret)))
def f17 (G : Nat → AVal) : AFn := ⟨72, [.tmp 2], f17m G⟩

theorem f17_c (G : Nat → AVal) : cmpFn Tryd.prog G [43] 17 = some (f17 G) := by kernel_rfl

def f30b0 (G : Nat → AVal) : MC :=
  .seq (.seq (.ops [⟨some 18, none, .op (.mv 0)⟩,
    ⟨some 19, none, .op (.mv 1)⟩,
    ⟨some 20, none, .call 61 [18, 19]⟩,
    ⟨some 21, none, .call 34 [20]⟩,
    ⟨some 22, none, .op (.mv 21)⟩,
    ⟨some 23, some (22, false), .op (.mv 0)⟩,
    ⟨some 24, some (22, false), .op (.mv 1)⟩,
    ⟨some 25, some (22, false), .call 61 [23, 24]⟩,
    ⟨some 26, some (22, false), .call 36 [25]⟩,
    ⟨some 27, none, .op (.pick 22 (.val (.bool true)) 26)⟩])
  (.cond 27
   (.skip)
   (.exit 0)))
  (.block 1
   (.seq (.ops [⟨some 28, none, .op (.mv 8)⟩,
     ⟨some 29, none, .op (.mv 0)⟩,
     ⟨some 30, none, .op (.mv 1)⟩,
     ⟨some 31, none, .op (.idxS 29 30)⟩,
     ⟨some 32, none, .call 35 [31]⟩,
     ⟨some 33, none, .op (.bslice false 1 1 [.atom (.int .u8 0)] [(0, 32)])⟩,
     ⟨some 34, none, .op (.append 1 1 28 33)⟩,
     ⟨some 8, none, .op (.mv 34)⟩])
   (.ops [⟨some 35, none, .op (.mv 1)⟩,
     ⟨some 36, none, .op (.bin .add .int 35 (.val (.int 1)))⟩,
     ⟨some 1, none, .op (.mv 36)⟩])))

def f30b1 (G : Nat → AVal) : MC :=
  .seq (.seq (.ops [⟨some 101, none, .op (.mv 11)⟩,
    ⟨some 102, none, .op (.mv 10)⟩,
    ⟨some 103, none, .op (.lenStr 102)⟩,
    ⟨some 104, none, .op (.bin .lss .int 101 103)⟩])
  (.cond 104
   (.skip)
   (.exit 2)))
  (.seq (.block 3
   (.seq (.ops [⟨some 107, none, .op (.mv 10)⟩,
     ⟨some 108, none, .op (.mv 11)⟩,
     ⟨some 109, none, .op (.idxS 107 108)⟩,
     ⟨some 110, none, .op (.mv 7)⟩,
     ⟨some 111, none, .op (.bin .eql .int 109 110)⟩])
   (.cond 111
    (.seq (.ops [⟨some 112, none, .op (.mv 0)⟩,
      ⟨some 113, none, .op (.mv 1)⟩,
      ⟨some 114, none, .op (.mv 1)⟩,
      ⟨some 115, none, .op (.bin .add .int 114 (.val (.int 1)))⟩,
      ⟨some 116, none, .op (.sslc 112 (some 113) (some 115))⟩,
      ⟨some 117, none, .op (.build [.int 0, .str [], .int 0, .int 0] [(false, 0, 1, (.val (.int 5))), (false, 1, 1, 116)])⟩,
      ⟨some 118, none, .op (.mv 1)⟩,
      ⟨some 119, none, .op (.bin .add .int 118 (.val (.int 1)))⟩,
      ⟨none, none, .op (.store true 4 4 117)⟩,
      ⟨some 5, none, .op (.mv 119)⟩,
      ⟨some 6, none, .op (.mv (.val (.int 0)))⟩])
    (.ret))
    (.skip))))
  (.ops [⟨some 105, none, .op (.mv 11)⟩,
    ⟨some 106, none, .op (.bin .add .int 105 (.val (.int 1)))⟩,
    ⟨some 11, none, .op (.mv 106)⟩]))

def f30m (G : Nat → AVal) : MC :=
  .seq (.ops [⟨some 4, none, .op (.alloc 4 [.int 0, .str [], .int 0, .int 0])⟩,
    ⟨some 5, none, .op (.mv (.val (.int 0)))⟩,
    ⟨some 6, none, .op (.mv (.val (.int 0)))⟩])
  (.seq (.ops [⟨some 12, none, .op (.mv 0)⟩,
    ⟨some 13, none, .op (.mv 1)⟩,
    ⟨some 14, none, .op (.idxS 12 13)⟩,
    ⟨some 7, none, .op (.mv 14)⟩])
  (.seq (.seq (.ops [⟨some 15, none, .op (.mv 7)⟩,
    ⟨some 16, none, .call 34 [15]⟩])
  (.cond 16
   (.seq (.ops [⟨some 17, none, .op (.bslice false 1 0 [.atom (.int .u8 0)] [])⟩,
     ⟨some 8, none, .op (.mv 17)⟩])
   (.seq (.block 0
    (.loop (f30b0 G)))
   (.seq (.seq (.ops [⟨some 37, none, .op (.mv 8)⟩,
     ⟨some 38, none, .op (.lenS 37)⟩,
     ⟨some 39, none, .op (.bin .gtr .int 38 (.val (.int 32)))⟩])
   (.cond 39
    (.seq (.ops [⟨some 40, none, .op (.build [.int 0, .str [], .int 0, .int 0] [])⟩,
      ⟨some 41, none, .op (.mv 1)⟩,
      ⟨none, none, .op (.store true 4 4 40)⟩,
      ⟨some 5, none, .op (.mv 41)⟩,
      ⟨some 6, none, .op (.mv (.val (.int 122)))⟩])
    (.ret))
    (.skip)))
   (.seq (.ops [⟨some 42, none, .op (.mv 8)⟩,
     ⟨some 43, none, .op (.conv .bytesStr 42)⟩,
     ⟨some 44, none, .op (.build [.int 0, .str [], .int 0, .int 0] [(false, 0, 1, (.val (.int 1))), (false, 1, 1, 43)])⟩,
     ⟨some 45, none, .op (.mv 1)⟩,
     ⟨none, none, .op (.store true 4 4 44)⟩,
     ⟨some 5, none, .op (.mv 45)⟩,
     ⟨some 6, none, .op (.mv (.val (.int 0)))⟩])
   (.ret)))))
   (.skip)))
  (.seq (.seq (.ops [⟨some 46, none, .op (.mv 7)⟩,
    ⟨some 47, none, .call 36 [46]⟩])
  (.cond 47
   (.seq (.ops [⟨some 48, none, .op (.mv 0)⟩,
     ⟨some 49, none, .op (.mv 1)⟩,
     ⟨some 50, none, .call 62 [48, 49]⟩,
     ⟨some 51, none, .op (.extract 50 0)⟩,
     ⟨some 52, none, .op (.extract 50 1)⟩,
     ⟨some 53, none, .op (.extract 50 2)⟩,
     ⟨none, none, .op (.store true 4 4 51)⟩,
     ⟨some 5, none, .op (.mv 52)⟩,
     ⟨some 6, none, .op (.mv 53)⟩])
   (.ret))
   (.skip)))
  (.seq (.seq (.ops [⟨some 54, none, .op (.mv 7)⟩,
    ⟨some 55, none, .op (.bin .eql .int 54 (.val (.atom (.int .u8 39))))⟩])
  (.cond 55
   (.seq (.ops [⟨some 56, none, .op (.mv 0)⟩,
     ⟨some 57, none, .op (.mv 1)⟩,
     ⟨some 58, none, .op (.bin .add .int 57 (.val (.int 1)))⟩,
     ⟨some 59, none, .call 63 [56, 58]⟩,
     ⟨some 60, none, .op (.extract 59 0)⟩,
     ⟨some 61, none, .op (.extract 59 1)⟩,
     ⟨some 62, none, .op (.extract 59 2)⟩,
     ⟨none, none, .op (.store true 4 4 60)⟩,
     ⟨some 5, none, .op (.mv 61)⟩,
     ⟨some 6, none, .op (.mv 62)⟩])
   (.ret))
   (.skip)))
  (.seq (.ops [⟨some 63, none, .op (.mv 0)⟩,
    ⟨some 64, none, .op (.mv 1)⟩,
    ⟨some 65, none, .op (.bin .add .int 64 (.val (.int 1)))⟩,
    ⟨some 66, none, .call 61 [63, 65]⟩,
    ⟨some 9, none, .op (.mv 66)⟩])
  (.seq (.seq (.ops [⟨some 67, none, .op (.mv 7)⟩,
    ⟨some 68, none, .op (.bin .eql .int 67 (.val (.atom (.int .u8 60))))⟩,
    ⟨some 69, none, .op (.mv 68)⟩,
    ⟨some 70, some (69, true), .op (.mv 9)⟩,
    ⟨some 71, some (69, true), .op (.bin .eql .int 70 (.val (.atom (.int .u8 62))))⟩,
    ⟨some 72, some (69, true), .op (.mv 71)⟩,
    ⟨some 73, some (72, false), .op (.mv 9)⟩,
    ⟨some 74, some (72, false), .op (.bin .eql .int 73 (.val (.atom (.int .u8 61))))⟩,
    ⟨some 75, some (69, true), .op (.pick 72 (.val (.bool true)) 74)⟩,
    ⟨some 76, none, .op (.pick 69 75 (.val (.bool false)))⟩,
    ⟨some 77, none, .op (.mv 76)⟩,
    ⟨some 78, some (77, false), .op (.mv 7)⟩,
    ⟨some 79, some (77, false), .op (.bin .eql .int 78 (.val (.atom (.int .u8 62))))⟩,
    ⟨some 80, some (77, false), .op (.mv 79)⟩,
    ⟨some 81, some (80, true), .op (.mv 9)⟩,
    ⟨some 82, some (80, true), .op (.bin .eql .int 81 (.val (.atom (.int .u8 61))))⟩,
    ⟨some 83, some (77, false), .op (.pick 80 82 (.val (.bool false)))⟩,
    ⟨some 84, none, .op (.pick 77 (.val (.bool true)) 83)⟩,
    ⟨some 85, none, .op (.mv 84)⟩,
    ⟨some 86, some (85, false), .op (.mv 7)⟩,
    ⟨some 87, some (85, false), .op (.bin .eql .int 86 (.val (.atom (.int .u8 124))))⟩,
    ⟨some 88, some (85, false), .op (.mv 87)⟩,
    ⟨some 89, some (88, true), .op (.mv 9)⟩,
    ⟨some 90, some (88, true), .op (.bin .eql .int 89 (.val (.atom (.int .u8 124))))⟩,
    ⟨some 91, some (85, false), .op (.pick 88 90 (.val (.bool false)))⟩,
    ⟨some 92, none, .op (.pick 85 (.val (.bool true)) 91)⟩])
  (.cond 92
   (.seq (.ops [⟨some 93, none, .op (.mv 0)⟩,
     ⟨some 94, none, .op (.mv 1)⟩,
     ⟨some 95, none, .op (.mv 1)⟩,
     ⟨some 96, none, .op (.bin .add .int 95 (.val (.int 2)))⟩,
     ⟨some 97, none, .op (.sslc 93 (some 94) (some 96))⟩,
     ⟨some 98, none, .op (.build [.int 0, .str [], .int 0, .int 0] [(false, 0, 1, (.val (.int 5))), (false, 1, 1, 97)])⟩,
     ⟨some 99, none, .op (.mv 1)⟩,
     ⟨some 100, none, .op (.bin .add .int 99 (.val (.int 2)))⟩,
     ⟨none, none, .op (.store true 4 4 98)⟩,
     ⟨some 5, none, .op (.mv 100)⟩,
     ⟨some 6, none, .op (.mv (.val (.int 0)))⟩])
   (.ret))
   (.skip)))
  (.seq (.ops [⟨some 10, none, .op (.mv (.val (.str [40, 41, 44, 46, 42, 43, 45, 47, 37, 61, 60, 62])))⟩])
  (.seq (.seq (.ops [⟨some 11, none, .op (.mv (.val (.int 0)))⟩])
  (.block 2
   (.loop (f30b1 G))))
  (.seq (.ops [⟨some 120, none, .op (.build [.int 0, .str [], .int 0, .int 0] [])⟩,
    ⟨some 121, none, .op (.mv 1)⟩,
    ⟨none, none, .op (.store true 4 4 120)⟩,
    ⟨some 5, none, .op (.mv 121)⟩,
    ⟨some 6, none, .op (.mv (.val (.int 120)))⟩])
  (.ret))))))))))
def f30 (G : Nat → AVal) : AFn := ⟨122, [.cell 4 true 4, .tmp 5, .tmp 6], f30m G⟩

theorem f30_c (G : Nat → AVal) : cmpFn Tryd.prog G [] 30 = some (f30 G) := by kernel_rfl


def f34m (G : Nat → AVal) : MC :=
  .seq (.ops [⟨some 2, none, .op (.mv (.val (.bool false)))⟩])
  (.seq (.ops [⟨some 3, none, .op (.mv 0)⟩,
    ⟨some 4, none, .op (.bin .eql .int 3 (.val (.atom (.int .u8 95))))⟩,
    ⟨some 5, none, .op (.mv 4)⟩,
    ⟨some 6, some (5, false), .op (.mv 0)⟩,
    ⟨some 7, some (5, false), .call 35 [6]⟩,
    ⟨some 8, some (5, false), .op (.bin .leq .int (.val (.atom (.int .u8 97))) 7)⟩,
    ⟨some 9, some (5, false), .op (.mv 8)⟩,
    ⟨some 10, some (9, true), .op (.mv 0)⟩,
    ⟨some 11, some (9, true), .call 35 [10]⟩,
    ⟨some 12, some (9, true), .op (.bin .leq .int 11 (.val (.atom (.int .u8 122))))⟩,
    ⟨some 13, some (5, false), .op (.pick 9 12 (.val (.bool false)))⟩,
    ⟨some 14, none, .op (.pick 5 (.val (.bool true)) 13)⟩,
    ⟨some 2, none, .op (.mv 14)⟩])
  (.ret))
def f34 (G : Nat → AVal) : AFn := ⟨15, [.tmp 2], f34m G⟩

theorem f34_c (G : Nat → AVal) : cmpFn Tryd.prog G [] 34 = some (f34 G) := by kernel_rfl


def f35m (G : Nat → AVal) : MC :=
  .seq (.ops [⟨some 2, none, .op (.mv (.val (.atom (.int .u8 0))))⟩])
  (.seq (.seq (.ops [⟨some 3, none, .op (.mv 0)⟩,
    ⟨some 4, none, .op (.bin .leq .int (.val (.atom (.int .u8 65))) 3)⟩,
    ⟨some 5, none, .op (.mv 4)⟩,
    ⟨some 6, some (5, true), .op (.mv 0)⟩,
    ⟨some 7, some (5, true), .op (.bin .leq .int 6 (.val (.atom (.int .u8 90))))⟩,
    ⟨some 8, none, .op (.pick 5 7 (.val (.bool false)))⟩])
  (.cond 8
   (.seq (.ops [⟨some 9, none, .op (.mv 0)⟩,
     ⟨some 10, none, .op (.bin .add .int 9 (.val (.atom (.int .u8 32))))⟩,
     ⟨some 2, none, .op (.mv 10)⟩])
   (.ret))
   (.skip)))
  (.seq (.ops [⟨some 11, none, .op (.mv 0)⟩,
    ⟨some 2, none, .op (.mv 11)⟩])
  (.ret)))
def f35 (G : Nat → AVal) : AFn := ⟨12, [.tmp 2], f35m G⟩

theorem f35_c (G : Nat → AVal) : cmpFn Tryd.prog G [] 35 = some (f35 G) := by kernel_rfl


def f36m (G : Nat → AVal) : MC :=
  .seq (.ops [⟨some 2, none, .op (.mv (.val (.bool false)))⟩])
  (.seq (.ops [⟨some 3, none, .op (.mv 0)⟩,
    ⟨some 4, none, .op (.bin .leq .int (.val (.atom (.int .u8 48))) 3)⟩,
    ⟨some 5, none, .op (.mv 4)⟩,
    ⟨some 6, some (5, true), .op (.mv 0)⟩,
    ⟨some 7, some (5, true), .op (.bin .leq .int 6 (.val (.atom (.int .u8 57))))⟩,
    ⟨some 8, none, .op (.pick 5 7 (.val (.bool false)))⟩,
    ⟨some 2, none, .op (.mv 8)⟩])
  (.ret))
def f36 (G : Nat → AVal) : AFn := ⟨9, [.tmp 2], f36m G⟩

theorem f36_c (G : Nat → AVal) : cmpFn Tryd.prog G [] 36 = some (f36 G) := by kernel_rfl

def f37b0 (G : Nat → AVal) : MC :=
  .seq (.seq (.ops [⟨some 4, none, .op (.mv 0)⟩,
    ⟨some 5, none, .op (.bin .gtr .int 4 (.val (.int 9)))⟩])
  (.cond 5
   (.skip)
   (.exit 0)))
  (.block 1
   (.seq (.ops [⟨some 6, none, .op (.mv 0)⟩,
     ⟨some 7, none, .op (.bin .rem .int 6 (.val (.int 10)))⟩,
     ⟨some 8, none, .op (.bin .add .int (.val (.int 48)) 7)⟩,
     ⟨some 9, none, .op (.conv (.toInt .u8) 8)⟩,
     ⟨some 10, none, .op (.bslice false 1 1 [.atom (.int .u8 0)] [(0, 9)])⟩,
     ⟨some 11, none, .op (.conv .bytesStr 10)⟩,
     ⟨some 12, none, .op (.mv 3)⟩,
     ⟨some 13, none, .op (.bin .add .int 11 12)⟩,
     ⟨some 3, none, .op (.mv 13)⟩])
   (.ops [⟨some 14, none, .op (.mv 0)⟩,
     ⟨some 15, none, .op (.bin .quo .int 14 (.val (.int 10)))⟩,
     ⟨some 0, none, .op (.mv 15)⟩])))

def f37m (G : Nat → AVal) : MC :=
  .seq (.ops [⟨some 2, none, .op (.mv (.val (.str [])))⟩])
  (.seq (.ops [⟨some 3, none, .op (.mv (.val (.str [])))⟩])
  (.seq (.block 0
   (.loop (f37b0 G)))
  (.seq (.ops [⟨some 16, none, .op (.mv 0)⟩,
    ⟨some 17, none, .op (.bin .add .int (.val (.int 48)) 16)⟩,
    ⟨some 18, none, .op (.conv (.toInt .u8) 17)⟩,
    ⟨some 19, none, .op (.bslice false 1 1 [.atom (.int .u8 0)] [(0, 18)])⟩,
    ⟨some 20, none, .op (.conv .bytesStr 19)⟩,
    ⟨some 21, none, .op (.mv 3)⟩,
    ⟨some 22, none, .op (.bin .add .int 20 21)⟩,
    ⟨some 2, none, .op (.mv 22)⟩])
  (.ret))))
def f37 (G : Nat → AVal) : AFn := ⟨23, [.tmp 2], f37m G⟩

theorem f37_c (G : Nat → AVal) : cmpFn Tryd.prog G [] 37 = some (f37 G) := by kernel_rfl


def f61m (G : Nat → AVal) : MC :=
  .seq (.ops [⟨some 4, none, .op (.mv (.val (.atom (.int .u8 0))))⟩])
  (.seq (.seq (.ops [⟨some 5, none, .op (.mv 1)⟩,
    ⟨some 6, none, .op (.mv 0)⟩,
    ⟨some 7, none, .op (.lenStr 6)⟩,
    ⟨some 8, none, .op (.bin .lss .int 5 7)⟩])
  (.cond 8
   (.seq (.ops [⟨some 9, none, .op (.mv 0)⟩,
     ⟨some 10, none, .op (.mv 1)⟩,
     ⟨some 11, none, .op (.idxS 9 10)⟩,
     ⟨some 4, none, .op (.mv 11)⟩])
   (.ret))
   (.skip)))
  (.seq (.ops [⟨some 4, none, .op (.mv (.val (.atom (.int .u8 0))))⟩])
  (.ret)))
def f61 (G : Nat → AVal) : AFn := ⟨12, [.tmp 4], f61m G⟩

theorem f61_c (G : Nat → AVal) : cmpFn Tryd.prog G [] 61 = some (f61 G) := by kernel_rfl

def f62b0 (G : Nat → AVal) : MC :=
  .seq (.seq (.ops [⟨some 11, none, .op (.mv 0)⟩,
    ⟨some 12, none, .op (.mv 1)⟩,
    ⟨some 13, none, .call 61 [11, 12]⟩,
    ⟨some 14, none, .call 36 [13]⟩])
  (.cond 14
   (.skip)
   (.exit 0)))
  (.block 1
   (.seq (.ops [⟨some 15, none, .op (.mv 8)⟩,
     ⟨some 16, none, .op (.bin .add .int 15 (.val (.int 1)))⟩,
     ⟨some 8, none, .op (.mv 16)⟩])
   (.seq (.seq (.ops [⟨some 17, none, .op (.mv 8)⟩,
     ⟨some 18, none, .op (.bin .lss .int 17 (.val (.int 20)))⟩])
   (.cond 18
    (.ops [⟨some 19, none, .op (.mv 7)⟩,
      ⟨some 20, none, .op (.bin .mul .int 19 (.val (.atom (.int .u64 10))))⟩,
      ⟨some 21, none, .op (.mv 0)⟩,
      ⟨some 22, none, .op (.mv 1)⟩,
      ⟨some 23, none, .op (.idxS 21 22)⟩,
      ⟨some 24, none, .op (.bin .sub .int 23 (.val (.atom (.int .u8 48))))⟩,
      ⟨some 25, none, .op (.conv (.toInt .u64) 24)⟩,
      ⟨some 26, none, .op (.bin .add .int 20 25)⟩,
      ⟨some 7, none, .op (.mv 26)⟩])
    (.skip)))
   (.ops [⟨some 27, none, .op (.mv 1)⟩,
     ⟨some 28, none, .op (.bin .add .int 27 (.val (.int 1)))⟩,
     ⟨some 1, none, .op (.mv 28)⟩]))))

def f62b1 (G : Nat → AVal) : MC :=
  .seq (.seq (.ops [⟨some 56, none, .op (.mv 0)⟩,
    ⟨some 57, none, .op (.mv 1)⟩,
    ⟨some 58, none, .call 61 [56, 57]⟩,
    ⟨some 59, none, .call 36 [58]⟩])
  (.cond 59
   (.skip)
   (.exit 2)))
  (.block 3
   (.seq (.ops [⟨some 60, none, .op (.mv 10)⟩,
     ⟨some 61, none, .op (.bin .add .int 60 (.val (.int 1)))⟩,
     ⟨some 10, none, .op (.mv 61)⟩])
   (.seq (.seq (.ops [⟨some 62, none, .op (.mv 8)⟩,
     ⟨some 63, none, .op (.mv 10)⟩,
     ⟨some 64, none, .op (.bin .add .int 62 63)⟩,
     ⟨some 65, none, .op (.bin .lss .int 64 (.val (.int 16)))⟩])
   (.cond 65
    (.ops [⟨some 66, none, .op (.mv 7)⟩,
      ⟨some 67, none, .op (.bin .mul .int 66 (.val (.atom (.int .u64 10))))⟩,
      ⟨some 68, none, .op (.mv 0)⟩,
      ⟨some 69, none, .op (.mv 1)⟩,
      ⟨some 70, none, .op (.idxS 68 69)⟩,
      ⟨some 71, none, .op (.bin .sub .int 70 (.val (.atom (.int .u8 48))))⟩,
      ⟨some 72, none, .op (.conv (.toInt .u64) 71)⟩,
      ⟨some 73, none, .op (.bin .add .int 67 72)⟩,
      ⟨some 7, none, .op (.mv 73)⟩])
    (.skip)))
   (.ops [⟨some 74, none, .op (.mv 1)⟩,
     ⟨some 75, none, .op (.bin .add .int 74 (.val (.int 1)))⟩,
     ⟨some 1, none, .op (.mv 75)⟩]))))

def f62m (G : Nat → AVal) : MC :=
  .seq (.ops [⟨some 4, none, .op (.alloc 4 [.int 0, .str [], .int 0, .int 0])⟩,
    ⟨some 5, none, .op (.mv (.val (.int 0)))⟩,
    ⟨some 6, none, .op (.mv (.val (.int 0)))⟩])
  (.seq (.ops [⟨some 7, none, .op (.mv (.val (.atom (.int .u64 0))))⟩,
    ⟨some 8, none, .op (.mv (.val (.int 0)))⟩,
    ⟨some 9, none, .op (.mv (.val (.bool false)))⟩])
  (.seq (.block 0
   (.loop (f62b0 G)))
  (.seq (.ops [⟨some 29, none, .op (.mv 8)⟩,
    ⟨some 30, none, .op (.bin .gtr .int 29 (.val (.int 19)))⟩,
    ⟨some 31, none, .op (.mv 30)⟩,
    ⟨some 32, some (31, false), .op (.mv 7)⟩,
    ⟨some 33, some (31, false), .op (.bin .geq .int 32 (.val (.atom (.int .u64 9223372036854775808))))⟩,
    ⟨some 34, none, .op (.pick 31 (.val (.bool true)) 33)⟩,
    ⟨some 9, none, .op (.mv 34)⟩])
  (.seq (.seq (.ops [⟨some 35, none, .op (.mv 0)⟩,
    ⟨some 36, none, .op (.mv 1)⟩,
    ⟨some 37, none, .call 61 [35, 36]⟩,
    ⟨some 38, none, .op (.bin .neq .int 37 (.val (.atom (.int .u8 46))))⟩,
    ⟨some 39, none, .op (.mv 38)⟩,
    ⟨some 40, some (39, false), .op (.mv 0)⟩,
    ⟨some 41, some (39, false), .op (.mv 1)⟩,
    ⟨some 42, some (39, false), .op (.bin .add .int 41 (.val (.int 1)))⟩,
    ⟨some 43, some (39, false), .call 61 [40, 42]⟩,
    ⟨some 44, some (39, false), .call 36 [43]⟩,
    ⟨some 45, some (39, false), .op (.un .not 44)⟩,
    ⟨some 46, none, .op (.pick 39 (.val (.bool true)) 45)⟩])
  (.cond 46
   (.seq (.seq (.ops [⟨some 47, none, .op (.mv 9)⟩])
   (.cond 47
    (.seq (.ops [⟨some 48, none, .op (.build [.int 0, .str [], .int 0, .int 0] [])⟩,
      ⟨some 49, none, .op (.mv 1)⟩,
      ⟨none, none, .op (.store true 4 4 48)⟩,
      ⟨some 5, none, .op (.mv 49)⟩,
      ⟨some 6, none, .op (.mv (.val (.int 11)))⟩])
    (.ret))
    (.skip)))
   (.seq (.ops [⟨some 50, none, .op (.mv 7)⟩,
     ⟨some 51, none, .op (.conv (.toInt .i64) 50)⟩,
     ⟨some 52, none, .op (.build [.int 0, .str [], .int 0, .int 0] [(false, 0, 1, (.val (.int 2))), (false, 2, 1, 51)])⟩,
     ⟨some 53, none, .op (.mv 1)⟩,
     ⟨none, none, .op (.store true 4 4 52)⟩,
     ⟨some 5, none, .op (.mv 53)⟩,
     ⟨some 6, none, .op (.mv (.val (.int 0)))⟩])
   (.ret)))
   (.skip)))
  (.seq (.ops [⟨some 54, none, .op (.mv 1)⟩,
    ⟨some 55, none, .op (.bin .add .int 54 (.val (.int 1)))⟩,
    ⟨some 1, none, .op (.mv 55)⟩])
  (.seq (.ops [⟨some 10, none, .op (.mv (.val (.int 0)))⟩])
  (.seq (.block 2
   (.loop (f62b1 G)))
  (.seq (.seq (.ops [⟨some 76, none, .op (.mv 8)⟩,
    ⟨some 77, none, .op (.mv 10)⟩,
    ⟨some 78, none, .op (.bin .add .int 76 77)⟩,
    ⟨some 79, none, .op (.bin .gtr .int 78 (.val (.int 15)))⟩])
  (.cond 79
   (.seq (.ops [⟨some 80, none, .op (.build [.int 0, .str [], .int 0, .int 0] [])⟩,
     ⟨some 81, none, .op (.mv 1)⟩,
     ⟨none, none, .op (.store true 4 4 80)⟩,
     ⟨some 5, none, .op (.mv 81)⟩,
     ⟨some 6, none, .op (.mv (.val (.int 11)))⟩])
   (.ret))
   (.skip)))
  (.seq (.ops [⟨some 82, none, .op (.mv 7)⟩,
    ⟨some 83, none, .op (.conv (.toInt .i64) 82)⟩,
    ⟨some 84, none, .op (.mv 10)⟩,
    ⟨some 85, none, .op (.build [.int 0, .str [], .int 0, .int 0] [(false, 0, 1, (.val (.int 3))), (false, 2, 1, 83), (false, 3, 1, 84)])⟩,
    ⟨some 86, none, .op (.mv 1)⟩,
    ⟨none, none, .op (.store true 4 4 85)⟩,
    ⟨some 5, none, .op (.mv 86)⟩,
    ⟨some 6, none, .op (.mv (.val (.int 0)))⟩])
  (.ret))))))))))
def f62 (G : Nat → AVal) : AFn := ⟨87, [.cell 4 true 4, .tmp 5, .tmp 6], f62m G⟩

theorem f62_c (G : Nat → AVal) : cmpFn Tryd.prog G [] 62 = some (f62 G) := by kernel_rfl

def f63b0 (G : Nat → AVal) : MC :=
  .seq (.seq (.ops [⟨some 9, none, .op (.mv 1)⟩,
    ⟨some 10, none, .op (.mv 0)⟩,
    ⟨some 11, none, .op (.lenStr 10)⟩,
    ⟨some 12, none, .op (.bin .lss .int 9 11)⟩])
  (.cond 12
   (.skip)
   (.exit 0)))
  (.block 1
   (.seq (.seq (.ops [⟨some 13, none, .op (.mv 0)⟩,
     ⟨some 14, none, .op (.mv 1)⟩,
     ⟨some 15, none, .op (.idxS 13 14)⟩,
     ⟨some 16, none, .op (.bin .eql .int 15 (.val (.atom (.int .u8 39))))⟩])
   (.cond 16
    (.seq (.seq (.ops [⟨some 17, none, .op (.mv 0)⟩,
      ⟨some 18, none, .op (.mv 1)⟩,
      ⟨some 19, none, .op (.bin .add .int 18 (.val (.int 1)))⟩,
      ⟨some 20, none, .call 61 [17, 19]⟩,
      ⟨some 21, none, .op (.bin .neq .int 20 (.val (.atom (.int .u8 39))))⟩])
    (.cond 21
     (.seq (.seq (.ops [⟨some 22, none, .op (.mv 7)⟩,
       ⟨some 23, none, .op (.lenS 22)⟩,
       ⟨some 24, none, .op (.bin .gtr .int 23 (.val (.int 200)))⟩])
     (.cond 24
      (.seq (.ops [⟨some 25, none, .op (.build [.int 0, .str [], .int 0, .int 0] [])⟩,
        ⟨some 26, none, .op (.mv 1)⟩,
        ⟨none, none, .op (.store true 4 4 25)⟩,
        ⟨some 5, none, .op (.mv 26)⟩,
        ⟨some 6, none, .op (.mv (.val (.int 1)))⟩])
      (.ret))
      (.skip)))
     (.seq (.ops [⟨some 27, none, .op (.mv 7)⟩,
       ⟨some 28, none, .op (.conv .bytesStr 27)⟩,
       ⟨some 29, none, .op (.build [.int 0, .str [], .int 0, .int 0] [(false, 0, 1, (.val (.int 4))), (false, 1, 1, 28)])⟩,
       ⟨some 30, none, .op (.mv 1)⟩,
       ⟨some 31, none, .op (.bin .add .int 30 (.val (.int 1)))⟩,
       ⟨none, none, .op (.store true 4 4 29)⟩,
       ⟨some 5, none, .op (.mv 31)⟩,
       ⟨some 6, none, .op (.mv (.val (.int 0)))⟩])
     (.ret)))
     (.skip)))
    (.ops [⟨some 32, none, .op (.mv 1)⟩,
      ⟨some 33, none, .op (.bin .add .int 32 (.val (.int 1)))⟩,
      ⟨some 1, none, .op (.mv 33)⟩]))
    (.skip)))
   (.seq (.ops [⟨some 34, none, .op (.mv 7)⟩,
     ⟨some 35, none, .op (.mv 0)⟩,
     ⟨some 36, none, .op (.mv 1)⟩,
     ⟨some 37, none, .op (.idxS 35 36)⟩,
     ⟨some 38, none, .op (.bslice false 1 1 [.atom (.int .u8 0)] [(0, 37)])⟩,
     ⟨some 39, none, .op (.append 1 1 34 38)⟩,
     ⟨some 7, none, .op (.mv 39)⟩])
   (.ops [⟨some 40, none, .op (.mv 1)⟩,
     ⟨some 41, none, .op (.bin .add .int 40 (.val (.int 1)))⟩,
     ⟨some 1, none, .op (.mv 41)⟩]))))

def f63m (G : Nat → AVal) : MC :=
  .seq (.ops [⟨some 4, none, .op (.alloc 4 [.int 0, .str [], .int 0, .int 0])⟩,
    ⟨some 5, none, .op (.mv (.val (.int 0)))⟩,
    ⟨some 6, none, .op (.mv (.val (.int 0)))⟩])
  (.seq (.ops [⟨some 8, none, .op (.bslice false 1 0 [.atom (.int .u8 0)] [])⟩,
    ⟨some 7, none, .op (.mv 8)⟩])
  (.seq (.block 0
   (.loop (f63b0 G)))
  (.seq (.ops [⟨some 42, none, .op (.build [.int 0, .str [], .int 0, .int 0] [])⟩,
    ⟨some 43, none, .op (.mv 1)⟩,
    ⟨none, none, .op (.store true 4 4 42)⟩,
    ⟨some 5, none, .op (.mv 43)⟩,
    ⟨some 6, none, .op (.mv (.val (.int 121)))⟩])
  (.ret))))
def f63 (G : Nat → AVal) : AFn := ⟨44, [.cell 4 true 4, .tmp 5, .tmp 6], f63m G⟩

theorem f63_c (G : Nat → AVal) : cmpFn Tryd.prog G [] 63 = some (f63 G) := by kernel_rfl

end Go.Abs
