/- Written by Show.lean: functions of the seat Ytjoehmgnapdhaaa, translated; the checks. Conditions: none. -/
import Derived.Test.YtjoehmgnapdhaaaA25
import Derived.Test.YtjoehmgnapdhaaaProg
import Derived.KernelRfl
set_option linter.unusedVariables false
namespace Go.Abs
open Go Go.RowKit Go.Proofs

def f3b0 (G : Nat → AVal) : MC :=
  .seq (.ops [⟨some 28, none, .op (.bin .lss .int 27 26)⟩])
  (.seq (.cond 28
   (.skip)
   (.exit 0))
  (.seq (.block 1
   (.seq (.ops [⟨some 29, none, .op (.mv 27)⟩,
     ⟨some 9, none, .op (.mv 29)⟩])
   (.ops [⟨some 30, none, .op (.mv 6)⟩,
     ⟨some 31, none, .op (.mv 9)⟩,
     ⟨some 32, none, .op (.iaddr 1 30 31)⟩,
     ⟨none, none, .op (.store false 1 32 (.val (.int (-9))))⟩])))
  (.ops [⟨some 33, none, .op (.bin .add .int 27 (.val (.int 1)))⟩,
    ⟨some 27, none, .op (.mv 33)⟩])))

def f3b1 (G : Nat → AVal) : MC :=
  .seq (.ops [⟨some 37, none, .op (.bin .lss .int 36 35)⟩])
  (.seq (.cond 37
   (.skip)
   (.exit 2))
  (.seq (.block 3
   (.seq (.ops [⟨some 38, none, .op (.mv 36)⟩,
     ⟨some 10, none, .op (.mv 38)⟩])
   (.seq (.draw (.rd [⟨0, ⟨some 39, none, .op (.mv 5)⟩, false, false⟩,
      ⟨1, ⟨some 40, none, .op (.mv 10)⟩, false, false⟩,
      ⟨2, ⟨some 41, none, .op (.iaddr 2 39 40)⟩, false, false⟩,
      ⟨3, ⟨some 42, none, .op (.load true 2 41)⟩, false, false⟩,
      ⟨4, ⟨some 43, none, .op (.mv 0)⟩, false, false⟩,
      ⟨5, ⟨some 44, none, .op (.mv 10)⟩, false, false⟩,
      ⟨6, ⟨some 45, none, .op (.iaddr 2 43 44)⟩, false, false⟩,
      ⟨7, ⟨some 46, none, .op (.load true 2 45)⟩, false, false⟩,
      ⟨8, ⟨some 47, none, .op (.bin .neq (.agg [(false, 0, 1, .int), (false, 1, 1, .int)]) 42 46)⟩, false, false⟩]
    (.nil)))
   (.cond 47
    (.seq (.ops [⟨some 4, none, .op (.mv (.val (.bool false)))⟩])
    (.ret))
    (.skip)))))
  (.ops [⟨some 48, none, .op (.bin .add .int 36 (.val (.int 1)))⟩,
    ⟨some 36, none, .op (.mv 48)⟩])))

def f3m (G : Nat → AVal) : MC :=
  .seq (.ops [⟨some 4, none, .op (.mv (.val (.bool false)))⟩])
  (.seq (.seq (.ops [⟨some 11, none, .call 8 []⟩,
    ⟨some 12, none, .op (.un .not 11)⟩])
  (.cond 12
   (.seq (.ops [⟨some 4, none, .op (.mv (.val (.bool false)))⟩])
   (.ret))
   (.skip)))
  (.seq (.ops [⟨some 13, none, .op (.bslice true 2 0 [.int 0, .int 0] [])⟩,
    ⟨some 14, none, .op (.mv 0)⟩,
    ⟨some 15, none, .op (.append 2 16 13 14)⟩,
    ⟨some 5, none, .op (.mv 15)⟩])
  (.seq (.ops [⟨some 16, none, .op (.mv 5)⟩,
    ⟨some 17, none, .op (.mv 1)⟩,
    ⟨some 18, none, .call 9 [16, 17]⟩,
    ⟨some 6, none, .op (.mv 18)⟩])
  (.seq (.ops [⟨some 19, none, .op (.mv 5)⟩,
    ⟨some 20, none, .op (.mv 1)⟩,
    ⟨some 21, none, .call 9 [19, 20]⟩,
    ⟨some 7, none, .op (.mv 21)⟩])
  (.seq (.ops [⟨some 22, none, .op (.mv 0)⟩,
    ⟨some 23, none, .op (.mv 1)⟩,
    ⟨some 24, none, .call 10 [22, 23]⟩,
    ⟨some 8, none, .op (.mv 24)⟩])
  (.seq (.seq (.ops [⟨some 25, none, .op (.mv 6)⟩,
    ⟨some 26, none, .op (.lenS 25)⟩,
    ⟨some 27, none, .op (.mv (.val (.int 0)))⟩])
  (.block 0
   (.loop (f3b0 G))))
  (.seq (.seq (.ops [⟨some 34, none, .op (.mv 5)⟩,
    ⟨some 35, none, .op (.lenS 34)⟩,
    ⟨some 36, none, .op (.mv (.val (.int 0)))⟩])
  (.block 2
   (.loop (f3b1 G))))
  (.seq (.ops [⟨some 49, none, .op (.mv 7)⟩,
    ⟨some 50, none, .op (.mv 8)⟩,
    ⟨some 51, none, .call 11 [49, 50]⟩,
    ⟨some 52, none, .op (.mv 51)⟩,
    ⟨some 53, some (52, true), .op (.mv 5)⟩,
    ⟨some 54, some (52, true), .call 12 [53]⟩,
    ⟨some 55, some (52, true), .op (.mv 0)⟩,
    ⟨some 56, some (52, true), .call 13 [55]⟩,
    ⟨some 57, some (52, true), .op (.bin .eql .bool 54 56)⟩,
    ⟨some 58, none, .op (.pick 52 57 (.val (.bool false)))⟩,
    ⟨some 59, none, .op (.mv 58)⟩,
    ⟨some 60, some (59, true), .op (.bslice false 1 0 [.int 0] [])⟩,
    ⟨some 61, some (59, true), .op (.mv 8)⟩,
    ⟨some 62, some (59, true), .op (.append 1 8 60 61)⟩,
    ⟨some 63, some (59, true), .call 14 [62]⟩,
    ⟨some 64, some (59, true), .op (.mv 8)⟩,
    ⟨some 65, some (59, true), .call 15 [64]⟩,
    ⟨some 66, some (59, true), .op (.bin .eql .int 63 65)⟩,
    ⟨some 67, none, .op (.pick 59 66 (.val (.bool false)))⟩,
    ⟨some 4, none, .op (.mv 67)⟩])
  (.ret)))))))))
def f3 (G : Nat → AVal) : AFn := ⟨68, [.tmp 4], f3m G⟩

theorem f3_c (G : Nat → AVal) : cmpFn Try.prog G [] 3 = some (f3 G) := by kernel_rfl

def f4b0 (G : Nat → AVal) : MC :=
  .seq (.ops [⟨some 47, none, .op (.bin .lss .int 46 45)⟩])
  (.seq (.cond 47
   (.skip)
   (.exit 2))
  (.seq (.block 3
   (.seq (.ops [⟨some 48, none, .op (.iaddr 2 44 46)⟩,
     ⟨some 49, none, .op (.load true 2 48)⟩,
     ⟨some 11, none, .op (.alloc 2 [.int 0, .int 0])⟩,
     ⟨none, none, .op (.store true 2 11 49)⟩])
   (.ops [⟨some 50, none, .op (.mv 9)⟩,
     ⟨some 51, none, .op (.mv 50)⟩,
     ⟨some 52, some (51, false), .op (.faddr 0 11)⟩,
     ⟨some 53, some (51, false), .op (.load false 1 52)⟩,
     ⟨some 54, some (51, false), .op (.mv 7)⟩,
     ⟨some 55, some (51, false), .op (.bin .eql .int 53 54)⟩,
     ⟨some 56, some (51, false), .op (.mv 55)⟩,
     ⟨some 57, some (56, true), .op (.faddr 1 11)⟩,
     ⟨some 58, some (56, true), .op (.load false 1 57)⟩,
     ⟨some 59, some (56, true), .op (.mv 8)⟩,
     ⟨some 60, some (56, true), .op (.bin .eql .int 58 59)⟩,
     ⟨some 61, some (51, false), .op (.pick 56 60 (.val (.bool false)))⟩,
     ⟨some 62, none, .op (.pick 51 (.val (.bool true)) 61)⟩,
     ⟨some 9, none, .op (.mv 62)⟩])))
  (.ops [⟨some 63, none, .op (.bin .add .int 46 (.val (.int 1)))⟩,
    ⟨some 46, none, .op (.mv 63)⟩])))

def f4b1 (G : Nat → AVal) : MC :=
  .seq (.ops [⟨some 69, none, .op (.bin .lss .int 68 67)⟩])
  (.seq (.cond 69
   (.skip)
   (.exit 4))
  (.seq (.block 5
   (.seq (.ops [⟨some 70, none, .op (.iaddr 1 66 68)⟩,
     ⟨some 71, none, .op (.load false 1 70)⟩,
     ⟨some 13, none, .op (.mv 71)⟩])
   (.ops [⟨some 72, none, .op (.mv 9)⟩,
     ⟨some 73, none, .op (.mv 72)⟩,
     ⟨some 74, some (73, true), .op (.mv 13)⟩,
     ⟨some 75, some (73, true), .op (.mv 7)⟩,
     ⟨some 76, some (73, true), .op (.bin .neq .int 74 75)⟩,
     ⟨some 77, none, .op (.pick 73 76 (.val (.bool false)))⟩,
     ⟨some 9, none, .op (.mv 77)⟩])))
  (.ops [⟨some 78, none, .op (.bin .add .int 68 (.val (.int 1)))⟩,
    ⟨some 68, none, .op (.mv 78)⟩])))

def f4b2 (G : Nat → AVal) : MC :=
  .seq (.ops [⟨some 32, none, .op (.bin .lss .int 31 30)⟩])
  (.seq (.cond 32
   (.skip)
   (.exit 0))
  (.seq (.block 1
   (.seq (.ops [⟨some 33, none, .op (.mv 31)⟩,
     ⟨some 34, none, .op (.iaddr 1 29 31)⟩,
     ⟨some 35, none, .op (.load false 1 34)⟩,
     ⟨some 6, none, .op (.mv 33)⟩,
     ⟨some 7, none, .op (.mv 35)⟩])
   (.seq (.ops [⟨some 36, none, .op (.mv 5)⟩,
     ⟨some 37, none, .op (.mv 6)⟩,
     ⟨some 38, none, .op (.bin .add .int 37 (.val (.int 1)))⟩,
     ⟨some 39, none, .op (.mv 5)⟩,
     ⟨some 40, none, .op (.lenS 39)⟩,
     ⟨some 41, none, .op (.bin .rem .int 38 40)⟩,
     ⟨some 42, none, .op (.iaddr 1 36 41)⟩,
     ⟨some 43, none, .op (.load false 1 42)⟩,
     ⟨some 8, none, .op (.mv 43)⟩])
   (.seq (.ops [⟨some 9, none, .op (.mv (.val (.bool false)))⟩])
   (.seq (.seq (.ops [⟨some 44, none, .op (.mv 0)⟩,
     ⟨some 45, none, .op (.lenS 44)⟩,
     ⟨some 46, none, .op (.mv (.val (.int 0)))⟩])
   (.block 2
    (.loop (f4b0 G))))
   (.seq (.seq (.ops [⟨some 64, none, .op (.mv 5)⟩,
     ⟨some 65, none, .op (.mv 6)⟩,
     ⟨some 66, none, .op (.slc 1 64 none (some 65) none)⟩,
     ⟨some 67, none, .op (.lenS 66)⟩,
     ⟨some 68, none, .op (.mv (.val (.int 0)))⟩])
   (.block 4
    (.loop (f4b1 G))))
   (.seq (.ops [⟨some 79, none, .op (.mv 9)⟩,
     ⟨some 80, none, .op (.un .not 79)⟩,
     ⟨some 81, none, .op (.mv 80)⟩,
     ⟨some 82, some (81, false), .op (.mv 5)⟩,
     ⟨some 83, some (81, false), .op (.iaddr 1 82 (.val (.int 0)))⟩,
     ⟨some 84, some (81, false), .op (.load false 1 83)⟩,
     ⟨some 85, some (81, false), .op (.mv 1)⟩,
     ⟨some 86, some (81, false), .op (.bin .neq .int 84 85)⟩,
     ⟨some 87, none, .op (.pick 81 (.val (.bool true)) 86)⟩])
   (.cond 87
    (.seq (.ops [⟨some 4, none, .op (.mv (.val (.bool false)))⟩])
    (.ret))
    (.skip)))))))))
  (.ops [⟨some 88, none, .op (.bin .add .int 31 (.val (.int 1)))⟩,
    ⟨some 31, none, .op (.mv 88)⟩])))

def f4m (G : Nat → AVal) : MC :=
  .seq (.ops [⟨some 4, none, .op (.mv (.val (.bool false)))⟩])
  (.seq (.seq (.ops [⟨some 14, none, .call 8 []⟩,
    ⟨some 15, none, .op (.un .not 14)⟩])
  (.cond 15
   (.seq (.ops [⟨some 4, none, .op (.mv (.val (.bool false)))⟩])
   (.ret))
   (.skip)))
  (.seq (.ops [⟨some 16, none, .op (.bslice true 2 0 [.int 0, .int 0] [])⟩,
    ⟨some 17, none, .op (.mv 0)⟩,
    ⟨some 18, none, .op (.append 2 16 16 17)⟩,
    ⟨some 19, none, .op (.mv 1)⟩,
    ⟨some 20, none, .call 9 [18, 19]⟩,
    ⟨some 5, none, .op (.mv 20)⟩])
  (.seq (.seq (.ops [⟨some 21, none, .op (.mv 5)⟩,
    ⟨some 22, none, .op (.lenS 21)⟩,
    ⟨some 23, none, .op (.bin .gtr .int 22 (.val (.int 0)))⟩,
    ⟨some 24, none, .op (.mv 0)⟩,
    ⟨some 25, none, .op (.mv 1)⟩,
    ⟨some 26, none, .op (.mv 1)⟩,
    ⟨some 27, none, .call 16 [24, 25, 26]⟩,
    ⟨some 28, none, .op (.bin .neq .bool 23 27)⟩])
  (.cond 28
   (.seq (.ops [⟨some 4, none, .op (.mv (.val (.bool false)))⟩])
   (.ret))
   (.skip)))
  (.seq (.seq (.ops [⟨some 29, none, .op (.mv 5)⟩,
    ⟨some 30, none, .op (.lenS 29)⟩,
    ⟨some 31, none, .op (.mv (.val (.int 0)))⟩])
  (.block 0
   (.loop (f4b2 G))))
  (.seq (.ops [⟨some 4, none, .op (.mv (.val (.bool true)))⟩])
  (.ret))))))
def f4 (G : Nat → AVal) : AFn := ⟨89, [.tmp 4], f4m G⟩

theorem f4_c (G : Nat → AVal) : cmpFn Try.prog G [] 4 = some (f4 G) := by kernel_rfl

def f5b0 (G : Nat → AVal) : MC :=
  .seq (.seq (.ops [⟨some 13, none, .op (.mv 6)⟩,
    ⟨some 14, none, .op (.bin .geq .int 13 (.val (.int 0)))⟩])
  (.cond 14
   (.skip)
   (.exit 0)))
  (.seq (.block 1
   (.draw (.rd [⟨0, ⟨some 17, none, .op (.mv 5)⟩, false, false⟩,
      ⟨1, ⟨some 18, none, .op (.mv 0)⟩, false, false⟩,
      ⟨2, ⟨some 19, none, .op (.mv 6)⟩, false, false⟩,
      ⟨3, ⟨some 20, none, .op (.iaddr 2 18 19)⟩, false, false⟩,
      ⟨4, ⟨some 21, none, .op (.load true 2 20)⟩, false, false⟩,
      ⟨5, ⟨some 22, none, .op (.mv 0)⟩, false, false⟩,
      ⟨6, ⟨some 23, none, .op (.mv 6)⟩, false, false⟩,
      ⟨7, ⟨some 24, none, .op (.iaddr 2 22 23)⟩, false, false⟩,
      ⟨8, ⟨some 25, none, .op (.load true 2 24)⟩, false, false⟩,
      ⟨9, ⟨some 26, none, .op (.bslice true 2 2 [.int 0, .int 0] [(0, 21), (1, 25)])⟩, false, false⟩]
    (.ef ⟨10, ⟨some 27, none, .op (.append 2 16 17 26)⟩, true, false⟩ []
    (.rd [⟨11, ⟨some 5, none, .op (.mv 27)⟩, false, false⟩]
    (.nil))))))
  (.ops [⟨some 15, none, .op (.mv 6)⟩,
    ⟨some 16, none, .op (.bin .sub .int 15 (.val (.int 1)))⟩,
    ⟨some 6, none, .op (.mv 16)⟩]))

def f5m (G : Nat → AVal) : MC :=
  .seq (.ops [⟨some 4, none, .op (.mv (.val (.bool false)))⟩])
  (.seq (.seq (.ops [⟨some 7, none, .call 8 []⟩,
    ⟨some 8, none, .op (.un .not 7)⟩])
  (.cond 8
   (.seq (.ops [⟨some 4, none, .op (.mv (.val (.bool false)))⟩])
   (.ret))
   (.skip)))
  (.seq (.ops [⟨some 9, none, .op (.bslice true 2 0 [.int 0, .int 0] [])⟩,
    ⟨some 5, none, .op (.mv 9)⟩])
  (.seq (.seq (.ops [⟨some 10, none, .op (.mv 0)⟩,
    ⟨some 11, none, .op (.lenS 10)⟩,
    ⟨some 12, none, .op (.bin .sub .int 11 (.val (.int 1)))⟩,
    ⟨some 6, none, .op (.mv 12)⟩])
  (.block 0
   (.loop (f5b0 G))))
  (.seq (.ops [⟨some 28, none, .op (.bslice true 2 0 [.int 0, .int 0] [])⟩,
    ⟨some 29, none, .op (.mv 0)⟩,
    ⟨some 30, none, .op (.append 2 16 28 29)⟩,
    ⟨some 31, none, .op (.mv 1)⟩,
    ⟨some 32, none, .call 9 [30, 31]⟩,
    ⟨some 33, none, .op (.mv 5)⟩,
    ⟨some 34, none, .op (.mv 1)⟩,
    ⟨some 35, none, .call 9 [33, 34]⟩,
    ⟨some 36, none, .call 11 [32, 35]⟩,
    ⟨some 4, none, .op (.mv 36)⟩])
  (.ret)))))
def f5 (G : Nat → AVal) : AFn := ⟨37, [.tmp 4], f5m G⟩

theorem f5_c (G : Nat → AVal) : cmpFn Try.prog G [] 5 = some (f5 G) := by kernel_rfl

def f6b0 (G : Nat → AVal) : MC :=
  .seq (.ops [⟨some 40, none, .op (.bin .lss .int 39 38)⟩])
  (.seq (.cond 40
   (.skip)
   (.exit 2))
  (.seq (.block 3
   (.seq (.ops [⟨some 41, none, .op (.iaddr 2 37 39)⟩,
     ⟨some 42, none, .op (.load true 2 41)⟩,
     ⟨some 11, none, .op (.alloc 2 [.int 0, .int 0])⟩,
     ⟨none, none, .op (.store true 2 11 42)⟩])
   (.seq (.ops [⟨some 43, none, .op (.faddr 0 11)⟩,
     ⟨some 44, none, .op (.load false 1 43)⟩,
     ⟨some 45, none, .op (.mv 8)⟩,
     ⟨some 46, none, .op (.bin .neq .int 44 45)⟩,
     ⟨some 47, none, .op (.mv 46)⟩,
     ⟨some 48, some (47, true), .op (.faddr 1 11)⟩,
     ⟨some 49, some (47, true), .op (.load false 1 48)⟩,
     ⟨some 50, some (47, true), .op (.mv 8)⟩,
     ⟨some 51, some (47, true), .op (.bin .neq .int 49 50)⟩,
     ⟨some 52, none, .op (.pick 47 51 (.val (.bool false)))⟩])
   (.cond 52
    (.ops [⟨some 53, none, .op (.mv 9)⟩,
      ⟨some 54, none, .op (.load true 2 11)⟩,
      ⟨some 55, none, .op (.bslice true 2 1 [.int 0, .int 0] [(0, 54)])⟩,
      ⟨some 56, none, .op (.append 2 16 53 55)⟩,
      ⟨some 9, none, .op (.mv 56)⟩])
    (.skip)))))
  (.ops [⟨some 57, none, .op (.bin .add .int 39 (.val (.int 1)))⟩,
    ⟨some 39, none, .op (.mv 57)⟩])))

def f6b1 (G : Nat → AVal) : MC :=
  .seq (.seq (.ops [⟨some 17, none, .op (.mv 6)⟩,
    ⟨some 18, none, .op (.mv 0)⟩,
    ⟨some 19, none, .op (.lenS 18)⟩,
    ⟨some 20, none, .op (.bin .leq .int 17 19)⟩])
  (.cond 20
   (.skip)
   (.exit 0)))
  (.seq (.block 1
   (.seq (.ops [⟨some 23, none, .op (.mv 5)⟩,
     ⟨some 24, none, .op (.mv 1)⟩,
     ⟨some 25, none, .call 9 [23, 24]⟩,
     ⟨some 7, none, .op (.mv 25)⟩])
   (.seq (.seq (.ops [⟨some 26, none, .op (.mv 7)⟩,
     ⟨some 27, none, .op (.lenS 26)⟩,
     ⟨some 28, none, .op (.bin .eql .int 27 (.val (.int 0)))⟩])
   (.cond 28
    (.seq (.ops [⟨some 29, none, .op (.mv 5)⟩,
      ⟨some 30, none, .op (.mv 1)⟩,
      ⟨some 31, none, .op (.mv 1)⟩,
      ⟨some 32, none, .call 16 [29, 30, 31]⟩,
      ⟨some 33, none, .op (.un .not 32)⟩,
      ⟨some 4, none, .op (.mv 33)⟩])
    (.ret))
    (.skip)))
   (.seq (.ops [⟨some 34, none, .op (.mv 7)⟩,
     ⟨some 35, none, .call 14 [34]⟩,
     ⟨some 8, none, .op (.mv 35)⟩])
   (.seq (.ops [⟨some 36, none, .op (.bslice true 2 0 [.int 0, .int 0] [])⟩,
     ⟨some 9, none, .op (.mv 36)⟩])
   (.seq (.seq (.ops [⟨some 37, none, .op (.mv 5)⟩,
     ⟨some 38, none, .op (.lenS 37)⟩,
     ⟨some 39, none, .op (.mv (.val (.int 0)))⟩])
   (.block 2
    (.loop (f6b0 G))))
   (.seq (.seq (.ops [⟨some 58, none, .op (.mv 9)⟩,
     ⟨some 59, none, .op (.lenS 58)⟩,
     ⟨some 60, none, .op (.mv 5)⟩,
     ⟨some 61, none, .op (.lenS 60)⟩,
     ⟨some 62, none, .op (.bin .geq .int 59 61)⟩])
   (.cond 62
    (.seq (.ops [⟨some 4, none, .op (.mv (.val (.bool false)))⟩])
    (.ret))
    (.skip)))
   (.ops [⟨some 63, none, .op (.mv 9)⟩,
     ⟨some 5, none, .op (.mv 63)⟩]))))))))
  (.ops [⟨some 21, none, .op (.mv 6)⟩,
    ⟨some 22, none, .op (.bin .add .int 21 (.val (.int 1)))⟩,
    ⟨some 6, none, .op (.mv 22)⟩]))

def f6m (G : Nat → AVal) : MC :=
  .seq (.ops [⟨some 4, none, .op (.mv (.val (.bool false)))⟩])
  (.seq (.seq (.ops [⟨some 12, none, .call 8 []⟩,
    ⟨some 13, none, .op (.un .not 12)⟩])
  (.cond 13
   (.seq (.ops [⟨some 4, none, .op (.mv (.val (.bool false)))⟩])
   (.ret))
   (.skip)))
  (.seq (.ops [⟨some 14, none, .op (.bslice true 2 0 [.int 0, .int 0] [])⟩,
    ⟨some 15, none, .op (.mv 0)⟩,
    ⟨some 16, none, .op (.append 2 16 14 15)⟩,
    ⟨some 5, none, .op (.mv 16)⟩])
  (.seq (.seq (.ops [⟨some 6, none, .op (.mv (.val (.int 0)))⟩])
  (.block 0
   (.loop (f6b1 G))))
  (.seq (.ops [⟨some 4, none, .op (.mv (.val (.bool false)))⟩])
  (.ret)))))
def f6 (G : Nat → AVal) : AFn := ⟨64, [.tmp 4], f6m G⟩

theorem f6_c (G : Nat → AVal) : cmpFn Try.prog G [] 6 = some (f6 G) := by kernel_rfl


def f8m (G : Nat → AVal) : MC :=
  .seq (.ops [⟨some 0, none, .op (.mv (.val (.bool false)))⟩])
  (.seq (.ops [⟨some 2, none, .op (.build [.int 0, .int 0] [(false, 0, 1, (.val (.int 1))), (false, 1, 1, (.val (.int 2)))])⟩,
    ⟨some 3, none, .op (.build [.int 0, .int 0] [(false, 0, 1, (.val (.int 2))), (false, 1, 1, (.val (.int 3)))])⟩,
    ⟨some 4, none, .op (.build [.int 0, .int 0] [(false, 0, 1, (.val (.int 3))), (false, 1, 1, (.val (.int 1)))])⟩,
    ⟨some 5, none, .op (.build [.int 0, .int 0] [(false, 0, 1, (.val (.int 2))), (false, 1, 1, (.val (.int 4)))])⟩,
    ⟨some 6, none, .op (.bslice true 2 4 [.int 0, .int 0] [(0, 2), (1, 3), (2, 4), (3, 5)])⟩,
    ⟨some 1, none, .op (.mv 6)⟩])
  (.seq (.ops [⟨some 7, none, .op (.mv 1)⟩,
    ⟨some 8, none, .call 9 [7, (.val (.int 2))]⟩,
    ⟨some 9, none, .op (.bslice false 1 3 [.int 0] [(0, (.val (.int 2))), (1, (.val (.int 3))), (2, (.val (.int 1)))])⟩,
    ⟨some 10, none, .call 11 [8, 9]⟩,
    ⟨some 11, none, .op (.mv 10)⟩,
    ⟨some 12, some (11, true), .op (.mv 1)⟩,
    ⟨some 13, some (11, true), .call 9 [12, (.val (.int 4))]⟩,
    ⟨some 14, some (11, true), .op (.lenS 13)⟩,
    ⟨some 15, some (11, true), .op (.bin .eql .int 14 (.val (.int 0)))⟩,
    ⟨some 16, none, .op (.pick 11 15 (.val (.bool false)))⟩,
    ⟨some 17, none, .op (.mv 16)⟩,
    ⟨some 18, some (17, true), .op (.mv 1)⟩,
    ⟨some 19, some (17, true), .call 12 [18]⟩,
    ⟨some 20, none, .op (.pick 17 19 (.val (.bool false)))⟩,
    ⟨some 21, none, .op (.mv 20)⟩,
    ⟨some 22, some (21, true), .op (.bslice false 1 3 [.int 0] [(0, (.val (.int 2))), (1, (.val (.int 3))), (2, (.val (.int 1)))])⟩,
    ⟨some 23, some (21, true), .call 14 [22]⟩,
    ⟨some 24, some (21, true), .op (.bin .eql .int 23 (.val (.int 3)))⟩,
    ⟨some 25, none, .op (.pick 21 24 (.val (.bool false)))⟩,
    ⟨some 0, none, .op (.mv 25)⟩])
  (.ret)))
def f8 (G : Nat → AVal) : AFn := ⟨26, [.tmp 0], f8m G⟩

theorem f8_c (G : Nat → AVal) : cmpFn Try.prog G [] 8 = some (f8 G) := by kernel_rfl


def f9m (G : Nat → AVal) : MC :=
  .seq (.ops [⟨some 4, none, .op (.mv (.val .nilS))⟩])
  (.seq (.ops [⟨some 6, none, .op (.mv 0)⟩,
    ⟨some 7, none, .call 21 [6]⟩,
    ⟨some 8, none, .op (.mv 1)⟩,
    ⟨some 9, none, .op (.mkmap)⟩,
    ⟨some 10, none, .op (.build [.atom (.map none), .int 0, .atom (.map none), .nilS] [(true, 0, 1, 7), (false, 1, 1, 8), (false, 2, 1, 9)])⟩,
    ⟨some 11, none, .op (.box true 4 10)⟩,
    ⟨some 5, none, .op (.mv 11)⟩])
  (.seq (.ops [⟨some 12, none, .op (.mv 5)⟩,
    ⟨some 13, none, .op (.mv 1)⟩,
    ⟨some 14, none, .call 22 [12, 13]⟩])
  (.seq (.ops [⟨some 15, none, .op (.mv 5)⟩,
    ⟨some 16, none, .op (.nilck 15)⟩,
    ⟨some 17, none, .op (.faddr 3 16)⟩,
    ⟨some 18, none, .op (.load false 1 17)⟩,
    ⟨some 4, none, .op (.mv 18)⟩])
  (.ret))))
def f9 (G : Nat → AVal) : AFn := ⟨19, [.tmp 4], f9m G⟩

theorem f9_c (G : Nat → AVal) : cmpFn Try.prog G [] 9 = some (f9 G) := by kernel_rfl

def f10b0 (G : Nat → AVal) : MC :=
  .seq (.seq (.ops [⟨some 18, none, .op (.mv 5)⟩,
    ⟨some 19, none, .op (.lenS 18)⟩,
    ⟨some 20, none, .op (.bin .gtr .int 19 (.val (.int 0)))⟩])
  (.cond 20
   (.skip)
   (.exit 0)))
  (.block 1
   (.seq (.ops [⟨some 21, none, .op (.mv 5)⟩,
     ⟨some 22, none, .op (.lenS 21)⟩,
     ⟨some 23, none, .op (.bin .sub .int 22 (.val (.int 1)))⟩,
     ⟨some 9, none, .op (.mv 23)⟩])
   (.seq (.seq (.ops [⟨some 24, none, .op (.mv 0)⟩,
     ⟨some 25, none, .op (.mv 5)⟩,
     ⟨some 26, none, .op (.mv 9)⟩,
     ⟨some 27, none, .op (.iaddr 1 25 26)⟩,
     ⟨some 28, none, .op (.load false 1 27)⟩,
     ⟨some 29, none, .op (.mv 1)⟩,
     ⟨some 30, none, .call 23 [24, 28, 29]⟩])
   (.cond 30
    (.seq (.ops [⟨some 31, none, .op (.mv 5)⟩,
      ⟨some 4, none, .op (.mv 31)⟩])
    (.ret))
    (.skip)))
   (.seq (.draw (.rd [⟨0, ⟨some 33, none, .op (.mv 0)⟩, false, false⟩,
      ⟨1, ⟨some 34, none, .op (.mv 5)⟩, false, false⟩,
      ⟨2, ⟨some 35, none, .op (.mv 9)⟩, false, false⟩,
      ⟨3, ⟨some 36, none, .op (.iaddr 1 34 35)⟩, false, false⟩,
      ⟨4, ⟨some 37, none, .op (.load false 1 36)⟩, false, false⟩,
      ⟨5, ⟨some 38, none, .op (.mv 7)⟩, false, false⟩,
      ⟨6, ⟨some 39, none, .op (.mv 9)⟩, false, false⟩,
      ⟨7, ⟨some 40, none, .op (.iaddr 1 38 39)⟩, false, false⟩,
      ⟨8, ⟨some 41, none, .op (.load false 1 40)⟩, false, false⟩,
      ⟨9, ⟨some 42, none, .op (.mv 8)⟩, false, false⟩,
      ⟨10, ⟨some 43, none, .op (.mv 9)⟩, false, false⟩,
      ⟨11, ⟨some 44, none, .op (.iaddr 1 42 43)⟩, false, false⟩,
      ⟨12, ⟨some 45, none, .op (.load false 1 44)⟩, false, false⟩]
    (.ef ⟨13, ⟨some 46, none, .call 24 [33, 37, 41, 45]⟩, true, false⟩ []
    (.rd [⟨14, ⟨some 32, none, .op (.mv 46)⟩, false, false⟩,
      ⟨15, ⟨some 47, none, .op (.extract 32 0)⟩, false, false⟩,
      ⟨16, ⟨some 48, none, .op (.extract 32 1)⟩, false, false⟩,
      ⟨17, ⟨some 10, none, .op (.mv 47)⟩, false, false⟩,
      ⟨18, ⟨some 11, none, .op (.mv 48)⟩, false, false⟩]
    (.nil)))))
   (.seq (.seq (.ops [⟨some 49, none, .op (.mv 11)⟩,
     ⟨some 50, none, .op (.un .not 49)⟩])
   (.cond 50
    (.seq (.ops [⟨some 51, none, .op (.mv 5)⟩,
      ⟨some 52, none, .op (.mv 9)⟩,
      ⟨some 53, none, .op (.slc 1 51 none (some 52) none)⟩,
      ⟨some 5, none, .op (.mv 53)⟩])
    (.seq (.ops [⟨some 54, none, .op (.mv 7)⟩,
      ⟨some 55, none, .op (.mv 9)⟩,
      ⟨some 56, none, .op (.slc 1 54 none (some 55) none)⟩,
      ⟨some 7, none, .op (.mv 56)⟩])
    (.seq (.ops [⟨some 57, none, .op (.mv 8)⟩,
      ⟨some 58, none, .op (.mv 9)⟩,
      ⟨some 59, none, .op (.slc 1 57 none (some 58) none)⟩,
      ⟨some 8, none, .op (.mv 59)⟩])
    (.exit 1))))
    (.skip)))
   (.seq (.ops [⟨some 60, none, .op (.mv 7)⟩,
     ⟨some 61, none, .op (.mv 9)⟩,
     ⟨some 62, none, .op (.mv 10)⟩,
     ⟨some 63, none, .op (.iaddr 1 60 61)⟩,
     ⟨none, none, .op (.store false 1 63 62)⟩])
   (.seq (.ops [⟨some 64, none, .op (.mv 8)⟩,
     ⟨some 65, none, .op (.mv 9)⟩,
     ⟨some 66, none, .op (.iaddr 1 64 65)⟩,
     ⟨none, none, .op (.store false 1 66 (.val (.bool false)))⟩])
   (.seq (.ops [⟨some 67, none, .op (.mv 6)⟩,
     ⟨some 68, none, .op (.mv 10)⟩,
     ⟨some 69, none, .call 25 [67, 68]⟩,
     ⟨some 70, none, .op (.un .not 69)⟩])
   (.cond 70
    (.seq (.ops [⟨some 71, none, .op (.mv 6)⟩,
      ⟨some 72, none, .op (.mv 10)⟩,
      ⟨some 73, none, .op (.bslice false 1 1 [.int 0] [(0, 72)])⟩,
      ⟨some 74, none, .op (.append 1 8 71 73)⟩,
      ⟨some 6, none, .op (.mv 74)⟩])
    (.seq (.ops [⟨some 75, none, .op (.mv 5)⟩,
      ⟨some 76, none, .op (.mv 10)⟩,
      ⟨some 77, none, .op (.bslice false 1 1 [.int 0] [(0, 76)])⟩,
      ⟨some 78, none, .op (.append 1 8 75 77)⟩,
      ⟨some 5, none, .op (.mv 78)⟩])
    (.seq (.ops [⟨some 79, none, .op (.mv 7)⟩,
      ⟨some 80, none, .op (.bslice false 1 1 [.int 0] [(0, (.val (.int 0)))])⟩,
      ⟨some 81, none, .op (.append 1 8 79 80)⟩,
      ⟨some 7, none, .op (.mv 81)⟩])
    (.ops [⟨some 82, none, .op (.mv 8)⟩,
      ⟨some 83, none, .op (.bslice false 1 1 [.bool false] [(0, (.val (.bool true)))])⟩,
      ⟨some 84, none, .op (.append 1 1 82 83)⟩,
      ⟨some 8, none, .op (.mv 84)⟩]))))
    (.skip))))))))))

def f10m (G : Nat → AVal) : MC :=
  .seq (.ops [⟨some 4, none, .op (.mv (.val .nilS))⟩])
  (.seq (.ops [⟨some 12, none, .op (.mv 1)⟩,
    ⟨some 13, none, .op (.brow false 1 1 [.int 0] [(0, 12)])⟩,
    ⟨some 14, none, .op (.mv 1)⟩,
    ⟨some 15, none, .op (.brow false 1 1 [.int 0] [(0, 14)])⟩,
    ⟨some 5, none, .op (.mv 13)⟩,
    ⟨some 6, none, .op (.mv 15)⟩])
  (.seq (.ops [⟨some 16, none, .op (.brow false 1 1 [.int 0] [(0, (.val (.int 0)))])⟩,
    ⟨some 17, none, .op (.brow false 1 1 [.bool false] [(0, (.val (.bool true)))])⟩,
    ⟨some 7, none, .op (.mv 16)⟩,
    ⟨some 8, none, .op (.mv 17)⟩])
  (.seq (.block 0
   (.loop (f10b0 G)))
  (.seq (.ops [⟨some 85, none, .op (.bslice false 1 0 [.int 0] [])⟩,
    ⟨some 4, none, .op (.mv 85)⟩])
  (.ret)))))
def f10 (G : Nat → AVal) : AFn := ⟨86, [.tmp 4], f10m G⟩

theorem f10_c (G : Nat → AVal) : cmpFn Try.prog G [13, 15, 16, 17] 10 = some (f10 G) := by kernel_rfl


def f12m (G : Nat → AVal) : MC :=
  .seq (.ops [⟨some 1, none, .op (.box false 1 0)⟩,
    ⟨some 2, none, .op (.mv (.val (.bool false)))⟩])
  (.seq (.ops [⟨some 3, none, .op (.load false 1 1)⟩,
    ⟨some 4, none, .op (.mkfn (.func 27) [] [1])⟩,
    ⟨some 5, none, .call 26 [3, 4]⟩,
    ⟨some 2, none, .op (.mv 5)⟩])
  (.ret))
def f12 (G : Nat → AVal) : AFn := ⟨6, [.tmp 2], f12m G⟩

theorem f12_c (G : Nat → AVal) : cmpFn Try.prog G [] 12 = some (f12 G) := by kernel_rfl

def f13b0 (G : Nat → AVal) : MC :=
  .seq (.seq (.ops [⟨some 4, none, .op (.mv 3)⟩,
    ⟨some 5, none, .op (.mv 0)⟩,
    ⟨some 6, none, .op (.lenS 5)⟩,
    ⟨some 7, none, .op (.bin .lss .int 4 6)⟩])
  (.cond 7
   (.skip)
   (.exit 0)))
  (.seq (.block 1
   (.seq (.draw (.rd [⟨0, ⟨some 10, none, .op (.mv 0)⟩, false, false⟩,
      ⟨1, ⟨some 11, none, .op (.mv 0)⟩, false, false⟩,
      ⟨2, ⟨some 12, none, .op (.mv 3)⟩, false, false⟩,
      ⟨3, ⟨some 13, none, .op (.iaddr 2 11 12)⟩, false, false⟩,
      ⟨4, ⟨some 14, none, .op (.faddr 0 13)⟩, false, false⟩,
      ⟨5, ⟨some 15, none, .op (.load false 1 14)⟩, false, false⟩,
      ⟨6, ⟨some 16, none, .op (.mv 0)⟩, false, false⟩,
      ⟨7, ⟨some 17, none, .op (.mv 3)⟩, false, false⟩,
      ⟨8, ⟨some 18, none, .op (.iaddr 2 16 17)⟩, false, false⟩,
      ⟨9, ⟨some 19, none, .op (.faddr 0 18)⟩, false, false⟩,
      ⟨10, ⟨some 20, none, .op (.load false 1 19)⟩, false, false⟩]
    (.ef ⟨11, ⟨some 21, none, .call 16 [10, 15, 20]⟩, true, false⟩ []
    (.nil))))
   (.cond 21
    (.seq (.ops [⟨some 2, none, .op (.mv (.val (.bool true)))⟩])
    (.ret))
    (.skip))))
  (.ops [⟨some 8, none, .op (.mv 3)⟩,
    ⟨some 9, none, .op (.bin .add .int 8 (.val (.int 1)))⟩,
    ⟨some 3, none, .op (.mv 9)⟩]))

def f13m (G : Nat → AVal) : MC :=
  .seq (.ops [⟨some 2, none, .op (.mv (.val (.bool false)))⟩])
  (.seq (.seq (.ops [⟨some 3, none, .op (.mv (.val (.int 0)))⟩])
  (.block 0
   (.loop (f13b0 G))))
  (.seq (.ops [⟨some 2, none, .op (.mv (.val (.bool false)))⟩])
  (.ret)))
def f13 (G : Nat → AVal) : AFn := ⟨22, [.tmp 2], f13m G⟩

theorem f13_c (G : Nat → AVal) : cmpFn Try.prog G [] 13 = some (f13 G) := by kernel_rfl


def f14m (G : Nat → AVal) : MC :=
  .seq (.ops [⟨some 2, none, .op (.mv (.val (.int 0)))⟩])
  (.seq (.seq (.ops [⟨some 3, none, .op (.mv 0)⟩,
    ⟨some 4, none, .op (.lenS 3)⟩,
    ⟨some 5, none, .op (.bin .eql .int 4 (.val (.int 0)))⟩])
  (.cond 5
   (.seq (.ops [⟨some 2, none, .op (.mv (.val (.int 0)))⟩])
   (.ret))
   (.skip)))
  (.seq (.ops [⟨some 6, none, .op (.mv 0)⟩,
    ⟨some 7, none, .call 28 [6]⟩,
    ⟨some 2, none, .op (.mv 7)⟩])
  (.ret)))
def f14 (G : Nat → AVal) : AFn := ⟨8, [.tmp 2], f14m G⟩

theorem f14_c (G : Nat → AVal) : cmpFn Try.prog G [] 14 = some (f14 G) := by kernel_rfl

def f15b0 (G : Nat → AVal) : MC :=
  .seq (.seq (.ops [⟨some 11, none, .op (.mv 4)⟩,
    ⟨some 12, none, .op (.mv 0)⟩,
    ⟨some 13, none, .op (.lenS 12)⟩,
    ⟨some 14, none, .op (.bin .lss .int 11 13)⟩])
  (.cond 14
   (.skip)
   (.exit 0)))
  (.seq (.block 1
   (.seq (.ops [⟨some 17, none, .op (.mv 0)⟩,
     ⟨some 18, none, .op (.mv 4)⟩,
     ⟨some 19, none, .op (.iaddr 1 17 18)⟩,
     ⟨some 20, none, .op (.load false 1 19)⟩,
     ⟨some 21, none, .op (.mv 3)⟩,
     ⟨some 22, none, .op (.bin .gtr .int 20 21)⟩])
   (.cond 22
    (.ops [⟨some 23, none, .op (.mv 0)⟩,
      ⟨some 24, none, .op (.mv 4)⟩,
      ⟨some 25, none, .op (.iaddr 1 23 24)⟩,
      ⟨some 26, none, .op (.load false 1 25)⟩,
      ⟨some 3, none, .op (.mv 26)⟩])
    (.skip))))
  (.ops [⟨some 15, none, .op (.mv 4)⟩,
    ⟨some 16, none, .op (.bin .add .int 15 (.val (.int 1)))⟩,
    ⟨some 4, none, .op (.mv 16)⟩]))

def f15m (G : Nat → AVal) : MC :=
  .seq (.ops [⟨some 2, none, .op (.mv (.val (.int 0)))⟩])
  (.seq (.seq (.ops [⟨some 5, none, .op (.mv 0)⟩,
    ⟨some 6, none, .op (.lenS 5)⟩,
    ⟨some 7, none, .op (.bin .eql .int 6 (.val (.int 0)))⟩])
  (.cond 7
   (.seq (.ops [⟨some 2, none, .op (.mv (.val (.int 0)))⟩])
   (.ret))
   (.skip)))
  (.seq (.ops [⟨some 8, none, .op (.mv 0)⟩,
    ⟨some 9, none, .op (.iaddr 1 8 (.val (.int 0)))⟩,
    ⟨some 10, none, .op (.load false 1 9)⟩,
    ⟨some 3, none, .op (.mv 10)⟩])
  (.seq (.seq (.ops [⟨some 4, none, .op (.mv (.val (.int 0)))⟩])
  (.block 0
   (.loop (f15b0 G))))
  (.seq (.ops [⟨some 27, none, .op (.mv 3)⟩,
    ⟨some 2, none, .op (.mv 27)⟩])
  (.ret)))))
def f15 (G : Nat → AVal) : AFn := ⟨28, [.tmp 2], f15m G⟩

theorem f15_c (G : Nat → AVal) : cmpFn Try.prog G [] 15 = some (f15 G) := by kernel_rfl

def f16b0 (G : Nat → AVal) : MC :=
  .seq (.seq (.ops [⟨some 22, none, .op (.mv 10)⟩,
    ⟨some 23, none, .op (.mv 0)⟩,
    ⟨some 24, none, .op (.lenS 23)⟩,
    ⟨some 25, none, .op (.bin .lss .int 22 24)⟩])
  (.cond 25
   (.skip)
   (.exit 2)))
  (.seq (.block 3
   (.seq (.ops [⟨some 28, none, .op (.mv 0)⟩,
     ⟨some 29, none, .op (.mv 10)⟩,
     ⟨some 30, none, .op (.iaddr 2 28 29)⟩,
     ⟨some 31, none, .op (.faddr 0 30)⟩,
     ⟨some 32, none, .op (.load false 1 31)⟩,
     ⟨some 33, none, .op (.mv 9)⟩,
     ⟨some 34, none, .op (.bin .eql .int 32 33)⟩,
     ⟨some 35, none, .op (.mv 34)⟩,
     ⟨some 36, some (35, true), .op (.mv 7)⟩,
     ⟨some 37, some (35, true), .op (.mv 0)⟩,
     ⟨some 38, some (35, true), .op (.mv 10)⟩,
     ⟨some 39, some (35, true), .op (.iaddr 2 37 38)⟩,
     ⟨some 40, some (35, true), .op (.faddr 1 39)⟩,
     ⟨some 41, some (35, true), .op (.load false 1 40)⟩,
     ⟨some 42, some (35, true), .call 25 [36, 41]⟩,
     ⟨some 43, some (35, true), .op (.un .not 42)⟩,
     ⟨some 44, none, .op (.pick 35 43 (.val (.bool false)))⟩])
   (.cond 44
    (.seq (.ops [⟨some 45, none, .op (.mv 7)⟩,
      ⟨some 46, none, .op (.mv 0)⟩,
      ⟨some 47, none, .op (.mv 10)⟩,
      ⟨some 48, none, .op (.iaddr 2 46 47)⟩,
      ⟨some 49, none, .op (.faddr 1 48)⟩,
      ⟨some 50, none, .op (.load false 1 49)⟩,
      ⟨some 51, none, .op (.bslice false 1 1 [.int 0] [(0, 50)])⟩,
      ⟨some 52, none, .op (.append 1 8 45 51)⟩,
      ⟨some 7, none, .op (.mv 52)⟩])
    (.ops [⟨some 53, none, .op (.mv 8)⟩,
      ⟨some 54, none, .op (.mv 0)⟩,
      ⟨some 55, none, .op (.mv 10)⟩,
      ⟨some 56, none, .op (.iaddr 2 54 55)⟩,
      ⟨some 57, none, .op (.faddr 1 56)⟩,
      ⟨some 58, none, .op (.load false 1 57)⟩,
      ⟨some 59, none, .op (.bslice false 1 1 [.int 0] [(0, 58)])⟩,
      ⟨some 60, none, .op (.append 1 8 53 59)⟩,
      ⟨some 8, none, .op (.mv 60)⟩]))
    (.skip))))
  (.ops [⟨some 26, none, .op (.mv 10)⟩,
    ⟨some 27, none, .op (.bin .add .int 26 (.val (.int 1)))⟩,
    ⟨some 10, none, .op (.mv 27)⟩]))

def f16b1 (G : Nat → AVal) : MC :=
  .seq (.seq (.ops [⟨some 14, none, .op (.mv 8)⟩,
    ⟨some 15, none, .op (.lenS 14)⟩,
    ⟨some 16, none, .op (.bin .gtr .int 15 (.val (.int 0)))⟩])
  (.cond 16
   (.skip)
   (.exit 0)))
  (.block 1
   (.seq (.ops [⟨some 17, none, .op (.mv 8)⟩,
     ⟨some 18, none, .op (.iaddr 1 17 (.val (.int 0)))⟩,
     ⟨some 19, none, .op (.load false 1 18)⟩,
     ⟨some 9, none, .op (.mv 19)⟩])
   (.seq (.ops [⟨some 20, none, .op (.mv 8)⟩,
     ⟨some 21, none, .op (.slc 1 20 (some (.val (.int 1))) none none)⟩,
     ⟨some 8, none, .op (.mv 21)⟩])
   (.seq (.ops [⟨some 10, none, .op (.mv (.val (.int 0)))⟩])
   (.block 2
    (.loop (f16b0 G)))))))

def f16m (G : Nat → AVal) : MC :=
  .seq (.ops [⟨some 6, none, .op (.mv (.val (.bool false)))⟩])
  (.seq (.ops [⟨some 11, none, .op (.bslice false 1 0 [.int 0] [])⟩,
    ⟨some 7, none, .op (.mv 11)⟩])
  (.seq (.ops [⟨some 12, none, .op (.mv 1)⟩,
    ⟨some 13, none, .op (.brow false 1 1 [.int 0] [(0, 12)])⟩,
    ⟨some 8, none, .op (.mv 13)⟩])
  (.seq (.block 0
   (.loop (f16b1 G)))
  (.seq (.ops [⟨some 61, none, .op (.mv 7)⟩,
    ⟨some 62, none, .op (.mv 2)⟩,
    ⟨some 63, none, .call 25 [61, 62]⟩,
    ⟨some 6, none, .op (.mv 63)⟩])
  (.ret)))))
def f16 (G : Nat → AVal) : AFn := ⟨64, [.tmp 6], f16m G⟩

theorem f16_c (G : Nat → AVal) : cmpFn Try.prog G [13] 16 = some (f16 G) := by kernel_rfl

def f21b0 (G : Nat → AVal) : MC :=
  .seq (.ops [⟨some 13, none, .op (.bin .lss .int 12 11)⟩])
  (.seq (.cond 13
   (.skip)
   (.exit 0))
  (.seq (.block 1
   (.seq (.ops [⟨some 14, none, .op (.iaddr 2 10 12)⟩,
     ⟨some 15, none, .op (.load true 2 14)⟩,
     ⟨some 5, none, .op (.alloc 2 [.int 0, .int 0])⟩,
     ⟨none, none, .op (.store true 2 5 15)⟩])
   (.draw (.rd [⟨0, ⟨some 16, none, .op (.faddr 0 3)⟩, false, true⟩,
      ⟨1, ⟨some 17, none, .op (.load false 1 16)⟩, false, true⟩,
      ⟨2, ⟨some 18, none, .op (.faddr 0 5)⟩, false, true⟩,
      ⟨3, ⟨some 19, none, .op (.load false 1 18)⟩, false, true⟩,
      ⟨4, ⟨some 20, none, .op (.faddr 0 3)⟩, false, false⟩,
      ⟨5, ⟨some 21, none, .op (.load false 1 20)⟩, false, false⟩,
      ⟨6, ⟨some 22, none, .op (.faddr 0 5)⟩, false, false⟩,
      ⟨7, ⟨some 23, none, .op (.load false 1 22)⟩, false, false⟩,
      ⟨8, ⟨some 24, none, .op (.lookup (.int .i64) .nilS false 21 23)⟩, false, false⟩,
      ⟨9, ⟨some 25, none, .op (.faddr 1 5)⟩, false, false⟩,
      ⟨10, ⟨some 26, none, .op (.load false 1 25)⟩, false, false⟩,
      ⟨11, ⟨some 27, none, .op (.bslice false 1 1 [.int 0] [(0, 26)])⟩, false, false⟩]
    (.ef ⟨12, ⟨some 28, none, .op (.append 1 8 24 27)⟩, true, false⟩ [0, 1, 2, 3]
    (.ef ⟨13, ⟨none, none, .op (.mapUp (.int .i64) 17 19 28)⟩, true, false⟩ []
    (.nil)))))))
  (.ops [⟨some 29, none, .op (.bin .add .int 12 (.val (.int 1)))⟩,
    ⟨some 12, none, .op (.mv 29)⟩])))

def f21b1 (G : Nat → AVal) : MC :=
  .seq (.ops [⟨some 33, none, .next 32⟩,
    ⟨some 34, none, .op (.extract 33 0)⟩])
  (.seq (.cond 34
   (.skip)
   (.exit 2))
  (.block 3
   (.seq (.ops [⟨some 35, none, .op (.entry 32)⟩,
     ⟨some 36, none, .op (.extract 35 0)⟩,
     ⟨some 37, none, .op (.extract 35 1)⟩,
     ⟨some 6, none, .op (.mv 36)⟩,
     ⟨some 7, none, .op (.mv 37)⟩])
   (.seq (.ops [⟨some 38, none, .op (.mv 7)⟩,
     ⟨some 39, none, .call 35 [38]⟩])
   (.draw (.rd [⟨0, ⟨some 40, none, .op (.faddr 0 3)⟩, false, true⟩,
      ⟨1, ⟨some 41, none, .op (.load false 1 40)⟩, false, true⟩,
      ⟨2, ⟨some 42, none, .op (.mv 6)⟩, false, true⟩,
      ⟨3, ⟨some 43, none, .op (.mv 7)⟩, false, false⟩]
    (.ef ⟨4, ⟨some 44, none, .call 36 [43]⟩, true, false⟩ [0, 1, 2]
    (.ef ⟨5, ⟨none, none, .op (.mapUp (.int .i64) 41 42 44)⟩, true, false⟩ []
    (.nil)))))))))

def f21m (G : Nat → AVal) : MC :=
  .seq (.ops [⟨some 2, none, .op (.alloc 1 [.atom (.map none)])⟩])
  (.seq (.ops [⟨some 8, none, .op (.mkmap)⟩,
    ⟨some 9, none, .op (.build [.atom (.map none)] [(false, 0, 1, 8)])⟩,
    ⟨some 3, none, .op (.alloc 1 [.atom (.map none)])⟩,
    ⟨none, none, .op (.store true 1 3 9)⟩])
  (.seq (.seq (.ops [⟨some 10, none, .op (.mv 0)⟩,
    ⟨some 11, none, .op (.lenS 10)⟩,
    ⟨some 12, none, .op (.mv (.val (.int 0)))⟩])
  (.block 0
   (.loop (f21b0 G))))
  (.seq (.seq (.ops [⟨some 30, none, .op (.faddr 0 3)⟩,
    ⟨some 31, none, .op (.load false 1 30)⟩,
    ⟨some 32, none, .op (.rangeM 31)⟩])
  (.block 2
   (.loop (f21b1 G))))
  (.seq (.ops [⟨some 45, none, .op (.load true 1 3)⟩,
    ⟨none, none, .op (.store true 1 2 45)⟩])
  (.ret)))))
def f21 (G : Nat → AVal) : AFn := ⟨46, [.cell 2 true 1], f21m G⟩

theorem f21_c (G : Nat → AVal) : cmpFn Try.prog G [] 21 = some (f21 G) := by kernel_rfl

def f22b0 (G : Nat → AVal) : MC :=
  .seq (.ops [⟨some 45, none, .op (.bin .lss .int 44 43)⟩])
  (.seq (.cond 45
   (.skip)
   (.exit 0))
  (.seq (.block 1
   (.seq (.ops [⟨some 46, none, .op (.iaddr 1 42 44)⟩,
     ⟨some 47, none, .op (.load false 1 46)⟩,
     ⟨some 6, none, .op (.mv 47)⟩])
   (.seq (.ops [⟨some 48, none, .op (.mv 0)⟩,
     ⟨some 49, none, .op (.nilck 48)⟩,
     ⟨some 50, none, .op (.faddr 2 49)⟩,
     ⟨some 51, none, .op (.load false 1 50)⟩,
     ⟨some 52, none, .op (.mv 6)⟩,
     ⟨some 53, none, .op (.lookup (.int .i64) (.int 0) false 51 52)⟩,
     ⟨some 54, none, .op (.bin .eql .int 53 (.val (.int 0)))⟩,
     ⟨some 55, none, .op (.mv 54)⟩,
     ⟨some 56, some (55, true), .op (.mv 0)⟩,
     ⟨some 57, some (55, true), .op (.mv 6)⟩,
     ⟨some 58, some (55, true), .call 22 [56, 57]⟩,
     ⟨some 59, none, .op (.pick 55 58 (.val (.bool false)))⟩])
   (.cond 59
    (.seq (.ops [⟨some 4, none, .op (.mv (.val (.bool true)))⟩])
    (.ret))
    (.skip)))))
  (.ops [⟨some 60, none, .op (.bin .add .int 44 (.val (.int 1)))⟩,
    ⟨some 44, none, .op (.mv 60)⟩])))

def f22m (G : Nat → AVal) : MC :=
  .seq (.ops [⟨some 4, none, .op (.mv (.val (.bool false)))⟩])
  (.seq (.ops [⟨some 7, none, .op (.mv 0)⟩,
    ⟨some 8, none, .op (.nilck 7)⟩,
    ⟨some 9, none, .op (.faddr 2 8)⟩,
    ⟨some 10, none, .op (.load false 1 9)⟩,
    ⟨some 11, none, .op (.mv 1)⟩,
    ⟨some 12, none, .op (.lookup (.int .i64) (.int 0) false 10 11)⟩,
    ⟨some 13, none, .op (.bin .add .int 12 (.val (.int 1)))⟩,
    ⟨none, none, .op (.mapUp (.int .i64) 10 11 13)⟩])
  (.seq (.ops [⟨some 14, none, .op (.mv 0)⟩,
    ⟨some 15, none, .op (.mv 0)⟩,
    ⟨some 16, none, .op (.nilck 15)⟩,
    ⟨some 17, none, .op (.faddr 3 16)⟩,
    ⟨some 18, none, .op (.load false 1 17)⟩,
    ⟨some 19, none, .op (.mv 1)⟩,
    ⟨some 20, none, .op (.bslice false 1 1 [.int 0] [(0, 19)])⟩,
    ⟨some 21, none, .op (.append 1 8 18 20)⟩,
    ⟨some 22, none, .op (.nilck 14)⟩,
    ⟨some 23, none, .op (.faddr 3 22)⟩,
    ⟨none, none, .op (.store false 1 23 21)⟩])
  (.seq (.seq (.draw (.rd [⟨0, ⟨some 24, none, .op (.mv 0)⟩, false, false⟩,
     ⟨1, ⟨some 25, none, .op (.nilck 24)⟩, false, false⟩,
     ⟨2, ⟨some 26, none, .op (.faddr 0 25)⟩, false, false⟩,
     ⟨3, ⟨some 27, none, .op (.faddr 0 26)⟩, false, false⟩,
     ⟨4, ⟨some 28, none, .op (.load false 1 27)⟩, false, false⟩,
     ⟨5, ⟨some 29, none, .op (.mv 1)⟩, false, false⟩,
     ⟨6, ⟨some 30, none, .op (.lookup (.int .i64) .nilS false 28 29)⟩, false, false⟩,
     ⟨7, ⟨some 31, none, .op (.mv 0)⟩, false, false⟩,
     ⟨8, ⟨some 32, none, .op (.nilck 31)⟩, false, false⟩,
     ⟨9, ⟨some 33, none, .op (.faddr 1 32)⟩, false, false⟩,
     ⟨10, ⟨some 34, none, .op (.load false 1 33)⟩, false, false⟩]
   (.ef ⟨11, ⟨some 35, none, .call 37 [30, 34]⟩, true, false⟩ []
   (.nil))))
  (.cond 35
   (.seq (.ops [⟨some 4, none, .op (.mv (.val (.bool true)))⟩])
   (.ret))
   (.skip)))
  (.seq (.seq (.ops [⟨some 36, none, .op (.mv 0)⟩,
    ⟨some 37, none, .op (.nilck 36)⟩,
    ⟨some 38, none, .op (.faddr 0 37)⟩,
    ⟨some 39, none, .op (.faddr 0 38)⟩,
    ⟨some 40, none, .op (.load false 1 39)⟩,
    ⟨some 41, none, .op (.mv 1)⟩,
    ⟨some 42, none, .op (.lookup (.int .i64) .nilS false 40 41)⟩,
    ⟨some 43, none, .op (.lenS 42)⟩,
    ⟨some 44, none, .op (.mv (.val (.int 0)))⟩])
  (.block 0
   (.loop (f22b0 G))))
  (.seq (.draw (.rd [⟨0, ⟨some 61, none, .op (.mv 0)⟩, false, false⟩,
     ⟨1, ⟨some 62, none, .op (.mv 0)⟩, false, false⟩,
     ⟨2, ⟨some 63, none, .op (.nilck 62)⟩, false, false⟩,
     ⟨3, ⟨some 64, none, .op (.faddr 3 63)⟩, false, false⟩,
     ⟨4, ⟨some 65, none, .op (.load false 1 64)⟩, false, false⟩,
     ⟨5, ⟨some 66, none, .op (.mv 0)⟩, false, false⟩,
     ⟨6, ⟨some 67, none, .op (.nilck 66)⟩, false, false⟩,
     ⟨7, ⟨some 68, none, .op (.faddr 3 67)⟩, false, false⟩,
     ⟨8, ⟨some 69, none, .op (.load false 1 68)⟩, false, false⟩,
     ⟨9, ⟨some 70, none, .op (.lenS 69)⟩, false, false⟩,
     ⟨10, ⟨some 71, none, .op (.bin .sub .int 70 (.val (.int 1)))⟩, false, false⟩,
     ⟨11, ⟨some 72, none, .op (.slc 1 65 none (some 71) none)⟩, false, false⟩,
     ⟨12, ⟨some 73, none, .op (.nilck 61)⟩, false, false⟩,
     ⟨13, ⟨some 74, none, .op (.faddr 3 73)⟩, false, false⟩]
   (.ef ⟨14, ⟨none, none, .op (.store false 1 74 72)⟩, true, false⟩ []
   (.nil))))
  (.seq (.ops [⟨some 4, none, .op (.mv (.val (.bool false)))⟩])
  (.ret)))))))
def f22 (G : Nat → AVal) : AFn := ⟨75, [.tmp 4], f22m G⟩

theorem f22_c (G : Nat → AVal) : cmpFn Try.prog G [] 22 = some (f22 G) := by kernel_rfl

def f23b0 (G : Nat → AVal) : MC :=
  .seq (.seq (.ops [⟨some 8, none, .op (.mv 7)⟩,
    ⟨some 9, none, .op (.mv 0)⟩,
    ⟨some 10, none, .op (.lenS 9)⟩,
    ⟨some 11, none, .op (.bin .lss .int 8 10)⟩])
  (.cond 11
   (.skip)
   (.exit 0)))
  (.seq (.block 1
   (.seq (.ops [⟨some 14, none, .op (.mv 0)⟩,
     ⟨some 15, none, .op (.mv 7)⟩,
     ⟨some 16, none, .op (.iaddr 2 14 15)⟩,
     ⟨some 17, none, .op (.faddr 0 16)⟩,
     ⟨some 18, none, .op (.load false 1 17)⟩,
     ⟨some 19, none, .op (.mv 1)⟩,
     ⟨some 20, none, .op (.bin .eql .int 18 19)⟩,
     ⟨some 21, none, .op (.mv 20)⟩,
     ⟨some 22, some (21, true), .op (.mv 0)⟩,
     ⟨some 23, some (21, true), .op (.mv 7)⟩,
     ⟨some 24, some (21, true), .op (.iaddr 2 22 23)⟩,
     ⟨some 25, some (21, true), .op (.faddr 1 24)⟩,
     ⟨some 26, some (21, true), .op (.load false 1 25)⟩,
     ⟨some 27, some (21, true), .op (.mv 2)⟩,
     ⟨some 28, some (21, true), .op (.bin .eql .int 26 27)⟩,
     ⟨some 29, none, .op (.pick 21 28 (.val (.bool false)))⟩])
   (.cond 29
    (.seq (.ops [⟨some 6, none, .op (.mv (.val (.bool true)))⟩])
    (.ret))
    (.skip))))
  (.ops [⟨some 12, none, .op (.mv 7)⟩,
    ⟨some 13, none, .op (.bin .add .int 12 (.val (.int 1)))⟩,
    ⟨some 7, none, .op (.mv 13)⟩]))

def f23m (G : Nat → AVal) : MC :=
  .seq (.ops [⟨some 6, none, .op (.mv (.val (.bool false)))⟩])
  (.seq (.seq (.ops [⟨some 7, none, .op (.mv (.val (.int 0)))⟩])
  (.block 0
   (.loop (f23b0 G))))
  (.seq (.ops [⟨some 6, none, .op (.mv (.val (.bool false)))⟩])
  (.ret)))
def f23 (G : Nat → AVal) : AFn := ⟨30, [.tmp 6], f23m G⟩

theorem f23_c (G : Nat → AVal) : cmpFn Try.prog G [] 23 = some (f23 G) := by kernel_rfl

def f24b0 (G : Nat → AVal) : MC :=
  .seq (.seq (.ops [⟨some 14, none, .op (.mv 12)⟩,
    ⟨some 15, none, .op (.mv 0)⟩,
    ⟨some 16, none, .op (.lenS 15)⟩,
    ⟨some 17, none, .op (.bin .lss .int 14 16)⟩])
  (.cond 17
   (.skip)
   (.exit 0)))
  (.seq (.block 1
   (.seq (.ops [⟨some 20, none, .op (.mv 0)⟩,
     ⟨some 21, none, .op (.mv 12)⟩,
     ⟨some 22, none, .op (.iaddr 2 20 21)⟩,
     ⟨some 23, none, .op (.load true 2 22)⟩,
     ⟨some 13, none, .op (.alloc 2 [.int 0, .int 0])⟩,
     ⟨none, none, .op (.store true 2 13 23)⟩])
   (.seq (.ops [⟨some 24, none, .op (.faddr 0 13)⟩,
     ⟨some 25, none, .op (.load false 1 24)⟩,
     ⟨some 26, none, .op (.mv 1)⟩,
     ⟨some 27, none, .op (.bin .eql .int 25 26)⟩,
     ⟨some 28, none, .op (.mv 27)⟩,
     ⟨some 29, some (28, true), .op (.mv 3)⟩,
     ⟨some 30, some (28, true), .op (.mv 29)⟩,
     ⟨some 31, some (30, false), .op (.faddr 1 13)⟩,
     ⟨some 32, some (30, false), .op (.load false 1 31)⟩,
     ⟨some 33, some (30, false), .op (.mv 2)⟩,
     ⟨some 34, some (30, false), .op (.bin .gtr .int 32 33)⟩,
     ⟨some 35, some (28, true), .op (.pick 30 (.val (.bool true)) 34)⟩,
     ⟨some 36, none, .op (.pick 28 35 (.val (.bool false)))⟩,
     ⟨some 37, none, .op (.mv 36)⟩,
     ⟨some 38, some (37, true), .op (.mv 11)⟩,
     ⟨some 39, some (37, true), .op (.un .not 38)⟩,
     ⟨some 40, some (37, true), .op (.mv 39)⟩,
     ⟨some 41, some (40, false), .op (.faddr 1 13)⟩,
     ⟨some 42, some (40, false), .op (.load false 1 41)⟩,
     ⟨some 43, some (40, false), .op (.mv 10)⟩,
     ⟨some 44, some (40, false), .op (.bin .lss .int 42 43)⟩,
     ⟨some 45, some (37, true), .op (.pick 40 (.val (.bool true)) 44)⟩,
     ⟨some 46, none, .op (.pick 37 45 (.val (.bool false)))⟩])
   (.cond 46
    (.seq (.ops [⟨some 47, none, .op (.faddr 1 13)⟩,
      ⟨some 48, none, .op (.load false 1 47)⟩,
      ⟨some 10, none, .op (.mv 48)⟩])
    (.ops [⟨some 11, none, .op (.mv (.val (.bool true)))⟩]))
    (.skip)))))
  (.ops [⟨some 18, none, .op (.mv 12)⟩,
    ⟨some 19, none, .op (.bin .add .int 18 (.val (.int 1)))⟩,
    ⟨some 12, none, .op (.mv 19)⟩]))

def f24m (G : Nat → AVal) : MC :=
  .seq (.ops [⟨some 8, none, .op (.mv (.val (.int 0)))⟩,
    ⟨some 9, none, .op (.mv (.val (.bool false)))⟩])
  (.seq (.ops [⟨some 10, none, .op (.mv (.val (.int 0)))⟩,
    ⟨some 11, none, .op (.mv (.val (.bool false)))⟩])
  (.seq (.seq (.ops [⟨some 12, none, .op (.mv (.val (.int 0)))⟩])
  (.block 0
   (.loop (f24b0 G))))
  (.seq (.ops [⟨some 49, none, .op (.mv 10)⟩,
    ⟨some 50, none, .op (.mv 11)⟩,
    ⟨some 8, none, .op (.mv 49)⟩,
    ⟨some 9, none, .op (.mv 50)⟩])
  (.ret))))
def f24 (G : Nat → AVal) : AFn := ⟨51, [.tmp 8, .tmp 9], f24m G⟩

theorem f24_c (G : Nat → AVal) : cmpFn Try.prog G [] 24 = some (f24 G) := by kernel_rfl

def f25b0 (G : Nat → AVal) : MC :=
  .seq (.seq (.ops [⟨some 6, none, .op (.mv 5)⟩,
    ⟨some 7, none, .op (.mv 0)⟩,
    ⟨some 8, none, .op (.lenS 7)⟩,
    ⟨some 9, none, .op (.bin .lss .int 6 8)⟩])
  (.cond 9
   (.skip)
   (.exit 0)))
  (.seq (.block 1
   (.seq (.ops [⟨some 12, none, .op (.mv 0)⟩,
     ⟨some 13, none, .op (.mv 5)⟩,
     ⟨some 14, none, .op (.iaddr 1 12 13)⟩,
     ⟨some 15, none, .op (.load false 1 14)⟩,
     ⟨some 16, none, .op (.mv 1)⟩,
     ⟨some 17, none, .op (.bin .eql .int 15 16)⟩])
   (.cond 17
    (.seq (.ops [⟨some 4, none, .op (.mv (.val (.bool true)))⟩])
    (.ret))
    (.skip))))
  (.ops [⟨some 10, none, .op (.mv 5)⟩,
    ⟨some 11, none, .op (.bin .add .int 10 (.val (.int 1)))⟩,
    ⟨some 5, none, .op (.mv 11)⟩]))

def f25m (G : Nat → AVal) : MC :=
  .seq (.ops [⟨some 4, none, .op (.mv (.val (.bool false)))⟩])
  (.seq (.seq (.ops [⟨some 5, none, .op (.mv (.val (.int 0)))⟩])
  (.block 0
   (.loop (f25b0 G))))
  (.seq (.ops [⟨some 4, none, .op (.mv (.val (.bool false)))⟩])
  (.ret)))
def f25 (G : Nat → AVal) : AFn := ⟨18, [.tmp 4], f25m G⟩

theorem f25_c (G : Nat → AVal) : cmpFn Try.prog G [] 25 = some (f25 G) := by kernel_rfl


def f26m (G : Nat → AVal) : MC :=
  .seq (.ops [⟨some 4, none, .op (.mv (.val (.bool false)))⟩])
  (.seq (.ops [⟨some 5, none, .op (.mv 0)⟩,
    ⟨some 6, none, .op (.mv 1)⟩,
    ⟨some 7, none, .call 38 [5, 6]⟩,
    ⟨some 8, none, .op (.bin .geq .int 7 (.val (.int 0)))⟩,
    ⟨some 4, none, .op (.mv 8)⟩])
  (.ret))
def f26 (G : Nat → AVal) : AFn := ⟨9, [.tmp 4], f26m G⟩

theorem f26_c (G : Nat → AVal) : cmpFn Try.prog G [] 26 = some (f26 G) := by kernel_rfl


def f27m (G : Nat → AVal) : MC :=
  .seq (.ops [⟨some 2, none, .op (.box true 2 0)⟩,
    ⟨some 3, none, .op (.mv (.val (.bool false)))⟩])
  (.seq (.ops [⟨some 4, none, .op (.load false 1 1)⟩,
    ⟨some 5, none, .op (.faddr 0 2)⟩,
    ⟨some 6, none, .op (.load false 1 5)⟩,
    ⟨some 7, none, .call 9 [4, 6]⟩,
    ⟨some 8, none, .op (.lenS 7)⟩,
    ⟨some 9, none, .op (.bin .gtr .int 8 (.val (.int 0)))⟩,
    ⟨some 3, none, .op (.mv 9)⟩])
  (.ret))
def f27 (G : Nat → AVal) : AFn := ⟨10, [.tmp 3], f27m G⟩

theorem f27_c (G : Nat → AVal) : cmpFn Try.prog G [] 27 = some (f27 G) := by kernel_rfl

def f28b0 (G : Nat → AVal) : MC :=
  .seq (.seq (.ops [⟨some 12, none, .op (.mv 4)⟩,
    ⟨some 13, none, .op (.mv 0)⟩,
    ⟨some 14, none, .op (.lenS 13)⟩,
    ⟨some 15, none, .op (.bin .lss .int 12 14)⟩])
  (.cond 15
   (.skip)
   (.exit 0)))
  (.seq (.block 1
   (.ops [⟨some 18, none, .op (.mv 3)⟩,
     ⟨some 19, none, .op (.mv 0)⟩,
     ⟨some 20, none, .op (.mv 4)⟩,
     ⟨some 21, none, .op (.iaddr 1 19 20)⟩,
     ⟨some 22, none, .op (.load false 1 21)⟩,
     ⟨some 23, none, .op (.mm true 18 22)⟩,
     ⟨some 3, none, .op (.mv 23)⟩]))
  (.ops [⟨some 16, none, .op (.mv 4)⟩,
    ⟨some 17, none, .op (.bin .add .int 16 (.val (.int 1)))⟩,
    ⟨some 4, none, .op (.mv 17)⟩]))

def f28m (G : Nat → AVal) : MC :=
  .seq (.ops [⟨some 2, none, .op (.mv (.val (.int 0)))⟩])
  (.seq (.seq (.ops [⟨some 5, none, .op (.mv 0)⟩,
    ⟨some 6, none, .op (.lenS 5)⟩,
    ⟨some 7, none, .op (.bin .lss .int 6 (.val (.int 1)))⟩])
  (.cond 7
   (.ops [⟨some 8, none, .op (.mkif 9 (.val (.str [115, 108, 105, 99, 101, 115, 46, 77, 97, 120, 58, 32, 101, 109, 112, 116, 121, 32, 108, 105, 115, 116])))⟩,
     ⟨none, none, .op (.extract (.val .top) 0)⟩])
   (.skip)))
  (.seq (.ops [⟨some 9, none, .op (.mv 0)⟩,
    ⟨some 10, none, .op (.iaddr 1 9 (.val (.int 0)))⟩,
    ⟨some 11, none, .op (.load false 1 10)⟩,
    ⟨some 3, none, .op (.mv 11)⟩])
  (.seq (.seq (.ops [⟨some 4, none, .op (.mv (.val (.int 1)))⟩])
  (.block 0
   (.loop (f28b0 G))))
  (.seq (.ops [⟨some 24, none, .op (.mv 3)⟩,
    ⟨some 2, none, .op (.mv 24)⟩])
  (.ret)))))
def f28 (G : Nat → AVal) : AFn := ⟨25, [.tmp 2], f28m G⟩

theorem f28_c (G : Nat → AVal) : cmpFn Try.prog G [] 28 = some (f28 G) := by kernel_rfl

end Go.Abs
