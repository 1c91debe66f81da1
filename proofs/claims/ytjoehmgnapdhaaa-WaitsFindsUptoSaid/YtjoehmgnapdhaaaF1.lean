/- Written by Show.lean: functions of the seat Ytjoehmgnapdhaaa, translated; the checks. Conditions: none. -/
import Derived.Test.YtjoehmgnapdhaaaA25
import Derived.Test.YtjoehmgnapdhaaaProg
import Derived.KernelRfl
set_option linter.unusedVariables false
namespace Go.Abs
open Go Go.RowKit Go.Proofs

def f7b0 (G : Nat → AVal) : MC :=
  .seq (.ops [⟨some 17, none, .op (.bin .lss .int 16 15)⟩])
  (.seq (.cond 17
   (.skip)
   (.exit 0))
  (.seq (.block 1
   (.seq (.ops [⟨some 18, none, .op (.iaddr 8 14 16)⟩,
     ⟨some 19, none, .op (.load true 8 18)⟩,
     ⟨some 7, none, .op (.alloc 8 [.int 0, .int 0, .nilS, .int 0, .int 0, .str [], .int 0, .int 0])⟩,
     ⟨none, none, .op (.store true 8 7 19)⟩])
   (.seq (.ops [⟨some 20, none, .op (.faddr 0 7)⟩,
     ⟨some 21, none, .op (.load false 1 20)⟩,
     ⟨some 22, none, .op (.bin .eql .int 21 (.val (.int 17)))⟩,
     ⟨some 23, none, .op (.mv 22)⟩,
     ⟨some 24, some (23, true), .op (.faddr 2 7)⟩,
     ⟨some 25, some (23, true), .op (.load false 1 24)⟩,
     ⟨some 26, some (23, true), .op (.lenS 25)⟩,
     ⟨some 27, some (23, true), .op (.bin .eql .int 26 (.val (.int 2)))⟩,
     ⟨some 28, none, .op (.pick 23 27 (.val (.bool false)))⟩])
   (.cond 28
    (.seq (.ops [⟨some 4, none, .op (.mv (.val (.bool false)))⟩])
    (.ret))
    (.skip)))))
  (.ops [⟨some 29, none, .op (.bin .add .int 16 (.val (.int 1)))⟩,
    ⟨some 16, none, .op (.mv 29)⟩])))

def f7m (G : Nat → AVal) : MC :=
  .seq (.ops [⟨some 2, none, .op (.box true 8 0)⟩,
    ⟨some 3, none, .op (.box true 8 1)⟩,
    ⟨some 4, none, .op (.mv (.val (.bool false)))⟩])
  (.seq (.seq (.ops [⟨some 8, none, .call 17 []⟩,
    ⟨some 9, none, .op (.un .not 8)⟩])
  (.cond 9
   (.seq (.ops [⟨some 4, none, .op (.mv (.val (.bool false)))⟩])
   (.ret))
   (.skip)))
  (.seq (.ops [⟨some 10, none, .op (.load true 8 2)⟩,
    ⟨some 11, none, .op (.load true 8 3)⟩,
    ⟨some 12, none, .call 19 [(.val (.int 17)), 10, 11]⟩,
    ⟨some 13, none, .call 18 [12]⟩,
    ⟨some 5, none, .op (.mv 13)⟩])
  (.seq (.seq (.ops [⟨some 14, none, .op (.mv 5)⟩,
    ⟨some 15, none, .op (.lenS 14)⟩,
    ⟨some 16, none, .op (.mv (.val (.int 0)))⟩])
  (.block 0
   (.loop (f7b0 G))))
  (.seq (.draw (.rd [⟨0, ⟨some 30, none, .op (.mv 5)⟩, false, true⟩,
     ⟨1, ⟨some 31, none, .op (.load true 8 2)⟩, false, false⟩,
     ⟨3, ⟨some 33, none, .op (.load true 8 3)⟩, false, true⟩]
   (.ef ⟨2, ⟨some 32, none, .call 18 [31]⟩, true, false⟩ [0, 3]
   (.ef ⟨4, ⟨some 34, none, .call 18 [33]⟩, true, false⟩ [0]
   (.ef ⟨5, ⟨some 35, none, .op (.append 8 88 32 34)⟩, true, false⟩ [0]
   (.ef ⟨6, ⟨some 36, none, .call 20 [30, 35]⟩, true, false⟩ []
   (.rd [⟨7, ⟨some 4, none, .op (.mv 36)⟩, false, false⟩]
   (.nil))))))))
  (.ret)))))
def f7 (G : Nat → AVal) : AFn := ⟨37, [.tmp 4], f7m G⟩

theorem f7_c (G : Nat → AVal) : cmpFn Try.prog G [] 7 = some (f7 G) := by kernel_rfl


def f17m (G : Nat → AVal) : MC :=
  .seq (.ops [⟨some 0, none, .op (.mv (.val (.bool false)))⟩])
  (.seq (.ops [⟨some 7, none, .call 29 [(.val (.int 0)), (.val (.int 0))]⟩,
    ⟨some 8, none, .call 30 [(.val (.int 1))]⟩,
    ⟨some 9, none, .call 19 [(.val (.int 1)), 7, 8]⟩,
    ⟨some 10, none, .call 30 [(.val (.int 5))]⟩,
    ⟨some 11, none, .call 29 [(.val (.int 0)), (.val (.int 0))]⟩,
    ⟨some 12, none, .call 19 [(.val (.int 3)), 10, 11]⟩,
    ⟨some 1, none, .op (.alloc 8 [.int 0, .int 0, .nilS, .int 0, .int 0, .str [], .int 0, .int 0])⟩,
    ⟨some 2, none, .op (.alloc 8 [.int 0, .int 0, .nilS, .int 0, .int 0, .str [], .int 0, .int 0])⟩,
    ⟨none, none, .op (.store true 8 1 9)⟩,
    ⟨none, none, .op (.store true 8 2 12)⟩])
  (.seq (.ops [⟨some 14, none, .op (.load true 8 2)⟩,
    ⟨some 15, none, .call 31 [14, (.val (.int 0))]⟩,
    ⟨some 13, none, .op (.mv 15)⟩,
    ⟨some 16, none, .op (.extract 13 0)⟩,
    ⟨some 17, none, .op (.extract 13 1)⟩,
    ⟨some 3, none, .op (.alloc 10 [.int 0, .int 0, .int 0, .int 0, .nilS, .int 0, .int 0, .str [], .int 0, .int 0])⟩,
    ⟨none, none, .op (.store true 10 3 16)⟩,
    ⟨some 4, none, .op (.mv 17)⟩])
  (.seq (.ops [⟨some 19, none, .call 29 [(.val (.int 0)), (.val (.int 0))]⟩,
    ⟨some 20, none, .call 29 [(.val (.int 0)), (.val (.int 1))]⟩,
    ⟨some 21, none, .call 19 [(.val (.int 1)), 19, 20]⟩,
    ⟨some 22, none, .call 31 [21, (.val (.int 0))]⟩,
    ⟨some 18, none, .op (.mv 22)⟩,
    ⟨some 23, none, .op (.extract 18 0)⟩,
    ⟨some 24, none, .op (.extract 18 1)⟩,
    ⟨some 5, none, .op (.alloc 10 [.int 0, .int 0, .int 0, .int 0, .nilS, .int 0, .int 0, .str [], .int 0, .int 0])⟩,
    ⟨none, none, .op (.store true 10 5 23)⟩,
    ⟨some 6, none, .op (.mv 24)⟩])
  (.seq (.draw (.rd [⟨0, ⟨some 25, none, .op (.load true 8 1)⟩, false, true⟩,
     ⟨1, ⟨some 26, none, .op (.load true 8 2)⟩, false, false⟩,
     ⟨2, ⟨some 27, none, .op (.load true 8 1)⟩, false, false⟩]
   (.ef ⟨3, ⟨some 28, none, .call 19 [(.val (.int 17)), 26, 27]⟩, true, false⟩ [0]
   (.ef ⟨4, ⟨some 29, none, .call 19 [(.val (.int 17)), 25, 28]⟩, true, false⟩ []
   (.ef ⟨5, ⟨some 30, none, .call 18 [29]⟩, true, false⟩ []
   (.rd [⟨6, ⟨some 31, none, .op (.lenS 30)⟩, false, false⟩,
     ⟨7, ⟨some 32, none, .op (.bin .eql .int 31 (.val (.int 3)))⟩, false, false⟩,
     ⟨8, ⟨some 33, none, .op (.mv 32)⟩, false, false⟩,
     ⟨9, ⟨some 34, some (33, true), .op (.mv 4)⟩, false, false⟩,
     ⟨10, ⟨some 35, none, .op (.pick 33 34 (.val (.bool false)))⟩, false, false⟩,
     ⟨11, ⟨some 36, none, .op (.mv 35)⟩, false, false⟩,
     ⟨12, ⟨some 37, some (36, true), .op (.faddr 0 3)⟩, false, false⟩,
     ⟨13, ⟨some 38, some (36, true), .op (.load false 1 37)⟩, false, false⟩,
     ⟨14, ⟨some 39, some (36, true), .op (.bin .eql .int 38 (.val (.int 0)))⟩, false, false⟩,
     ⟨15, ⟨some 40, none, .op (.pick 36 39 (.val (.bool false)))⟩, false, false⟩,
     ⟨16, ⟨some 41, none, .op (.mv 40)⟩, false, false⟩,
     ⟨17, ⟨some 42, some (41, true), .op (.faddr 1 3)⟩, false, false⟩,
     ⟨18, ⟨some 43, some (41, true), .op (.load false 1 42)⟩, false, false⟩,
     ⟨19, ⟨some 44, some (41, true), .op (.bin .eql .int 43 (.val (.int 5)))⟩, false, false⟩,
     ⟨20, ⟨some 45, none, .op (.pick 41 44 (.val (.bool false)))⟩, false, false⟩,
     ⟨21, ⟨some 46, none, .op (.mv 45)⟩, false, false⟩,
     ⟨22, ⟨some 47, some (46, true), .op (.faddr 2 3)⟩, false, false⟩,
     ⟨23, ⟨some 48, some (46, true), .op (.faddr 3 47)⟩, false, false⟩,
     ⟨24, ⟨some 49, some (46, true), .op (.faddr 1 48)⟩, false, false⟩,
     ⟨25, ⟨some 50, some (46, true), .op (.load false 1 49)⟩, false, false⟩,
     ⟨26, ⟨some 51, some (46, true), .op (.bin .eql .int 50 (.val (.int 5)))⟩, false, false⟩,
     ⟨27, ⟨some 52, none, .op (.pick 46 51 (.val (.bool false)))⟩, false, false⟩,
     ⟨28, ⟨some 53, none, .op (.mv 52)⟩, false, false⟩,
     ⟨29, ⟨some 54, some (53, true), .op (.mv 6)⟩, false, false⟩,
     ⟨30, ⟨some 55, some (53, true), .op (.un .not 54)⟩, false, false⟩,
     ⟨31, ⟨some 56, none, .op (.pick 53 55 (.val (.bool false)))⟩, false, false⟩,
     ⟨32, ⟨some 57, none, .op (.mv 56)⟩, false, false⟩,
     ⟨37, ⟨some 62, some (57, true), .op (.bslice false 1 2 [.int 0] [(0, (.val (.int 0))), (1, (.val (.int 2)))])⟩, false, true⟩]
   (.ef ⟨33, ⟨some 58, some (57, true), .call 29 [(.val (.int 2)), (.val (.int 0))]⟩, true, false⟩ [37]
   (.ef ⟨34, ⟨some 59, some (57, true), .call 29 [(.val (.int 0)), (.val (.int 1))]⟩, true, false⟩ [37]
   (.ef ⟨35, ⟨some 60, some (57, true), .call 19 [(.val (.int 1)), 58, 59]⟩, true, false⟩ [37]
   (.ef ⟨36, ⟨some 61, some (57, true), .call 32 [60]⟩, true, false⟩ [37]
   (.ef ⟨38, ⟨some 63, some (57, true), .call 11 [61, 62]⟩, true, false⟩ []
   (.rd [⟨39, ⟨some 64, none, .op (.pick 57 63 (.val (.bool false)))⟩, false, false⟩,
     ⟨40, ⟨some 0, none, .op (.mv 64)⟩, false, false⟩]
   (.nil)))))))))))))
  (.ret)))))
def f17 (G : Nat → AVal) : AFn := ⟨65, [.tmp 0], f17m G⟩

theorem f17_c (G : Nat → AVal) : cmpFn Try.prog G [] 17 = some (f17 G) := by kernel_rfl

def f18b0 (G : Nat → AVal) : MC :=
  .seq (.seq (.ops [⟨some 7, none, .op (.mv 3)⟩,
    ⟨some 8, none, .op (.lenS 7)⟩,
    ⟨some 9, none, .op (.bin .gtr .int 8 (.val (.int 0)))⟩])
  (.cond 9
   (.skip)
   (.exit 0)))
  (.block 1
   (.seq (.ops [⟨some 10, none, .op (.mv 3)⟩,
     ⟨some 11, none, .op (.mv 3)⟩,
     ⟨some 12, none, .op (.lenS 11)⟩,
     ⟨some 13, none, .op (.bin .sub .int 12 (.val (.int 1)))⟩,
     ⟨some 14, none, .op (.iaddr 8 10 13)⟩,
     ⟨some 15, none, .op (.load true 8 14)⟩,
     ⟨some 4, none, .op (.alloc 8 [.int 0, .int 0, .nilS, .int 0, .int 0, .str [], .int 0, .int 0])⟩,
     ⟨none, none, .op (.store true 8 4 15)⟩])
   (.seq (.ops [⟨some 16, none, .op (.mv 3)⟩,
     ⟨some 17, none, .op (.mv 3)⟩,
     ⟨some 18, none, .op (.lenS 17)⟩,
     ⟨some 19, none, .op (.bin .sub .int 18 (.val (.int 1)))⟩,
     ⟨some 20, none, .op (.slc 8 16 none (some 19) none)⟩,
     ⟨some 3, none, .op (.mv 20)⟩])
   (.seq (.ops [⟨some 21, none, .op (.faddr 0 4)⟩,
     ⟨some 22, none, .op (.load false 1 21)⟩,
     ⟨some 23, none, .op (.bin .eql .int 22 (.val (.int 17)))⟩,
     ⟨some 24, none, .op (.mv 23)⟩,
     ⟨some 25, some (24, true), .op (.faddr 2 4)⟩,
     ⟨some 26, some (24, true), .op (.load false 1 25)⟩,
     ⟨some 27, some (24, true), .op (.lenS 26)⟩,
     ⟨some 28, some (24, true), .op (.bin .eql .int 27 (.val (.int 2)))⟩,
     ⟨some 29, none, .op (.pick 24 28 (.val (.bool false)))⟩])
   (.cond 29
    (.draw (.rd [⟨0, ⟨some 30, none, .op (.mv 3)⟩, false, false⟩,
       ⟨1, ⟨some 31, none, .op (.faddr 2 4)⟩, false, false⟩,
       ⟨2, ⟨some 32, none, .op (.load false 1 31)⟩, false, false⟩,
       ⟨3, ⟨some 33, none, .op (.iaddr 8 32 (.val (.int 1)))⟩, false, false⟩,
       ⟨4, ⟨some 34, none, .op (.load true 8 33)⟩, false, false⟩,
       ⟨5, ⟨some 35, none, .op (.faddr 2 4)⟩, false, false⟩,
       ⟨6, ⟨some 36, none, .op (.load false 1 35)⟩, false, false⟩,
       ⟨7, ⟨some 37, none, .op (.iaddr 8 36 (.val (.int 0)))⟩, false, false⟩,
       ⟨8, ⟨some 38, none, .op (.load true 8 37)⟩, false, false⟩,
       ⟨9, ⟨some 39, none, .op (.bslice true 8 2 [.int 0, .int 0, .nilS, .int 0, .int 0, .str [], .int 0, .int 0] [(0, 34), (1, 38)])⟩, false, false⟩]
     (.ef ⟨10, ⟨some 40, none, .op (.append 8 88 30 39)⟩, true, false⟩ []
     (.rd [⟨11, ⟨some 3, none, .op (.mv 40)⟩, false, false⟩]
     (.nil)))))
    (.ops [⟨some 41, none, .op (.mv 2)⟩,
      ⟨some 42, none, .op (.load true 8 4)⟩,
      ⟨some 43, none, .call 33 [42]⟩,
      ⟨some 44, none, .op (.bslice true 8 1 [.int 0, .int 0, .nilS, .int 0, .int 0, .str [], .int 0, .int 0] [(0, 43)])⟩,
      ⟨some 45, none, .op (.append 8 88 41 44)⟩,
      ⟨some 2, none, .op (.mv 45)⟩]))))))

def f18m (G : Nat → AVal) : MC :=
  .seq (.ops [⟨some 1, none, .op (.box true 8 0)⟩,
    ⟨some 2, none, .op (.mv (.val .nilS))⟩])
  (.seq (.ops [⟨some 5, none, .op (.load true 8 1)⟩,
    ⟨some 6, none, .op (.brow true 8 1 [.int 0, .int 0, .nilS, .int 0, .int 0, .str [], .int 0, .int 0] [(0, 5)])⟩,
    ⟨some 3, none, .op (.mv 6)⟩])
  (.seq (.block 0
   (.loop (f18b0 G)))
  (.seq (.ops [⟨some 46, none, .op (.mv 2)⟩,
    ⟨some 2, none, .op (.mv 46)⟩])
  (.ret))))
def f18 (G : Nat → AVal) : AFn := ⟨47, [.tmp 2], f18m G⟩

theorem f18_c (G : Nat → AVal) : cmpFn Try.prog G [6] 18 = some (f18 G) := by kernel_rfl


def f19m (G : Nat → AVal) : MC :=
  .seq (.ops [⟨some 4, none, .op (.box true 8 1)⟩,
    ⟨some 5, none, .op (.box true 8 2)⟩,
    ⟨some 6, none, .op (.alloc 8 [.int 0, .int 0, .nilS, .int 0, .int 0, .str [], .int 0, .int 0])⟩])
  (.seq (.ops [⟨some 7, none, .op (.mv 0)⟩,
    ⟨some 8, none, .op (.load true 8 4)⟩,
    ⟨some 9, none, .op (.load true 8 5)⟩,
    ⟨some 10, none, .op (.bslice true 8 2 [.int 0, .int 0, .nilS, .int 0, .int 0, .str [], .int 0, .int 0] [(0, 8), (1, 9)])⟩,
    ⟨some 11, none, .op (.build [.int 0, .int 0, .nilS, .int 0, .int 0, .str [], .int 0, .int 0] [(false, 0, 1, 7), (false, 2, 1, 10)])⟩,
    ⟨none, none, .op (.store true 8 6 11)⟩])
  (.ret))
def f19 (G : Nat → AVal) : AFn := ⟨12, [.cell 6 true 8], f19m G⟩

theorem f19_c (G : Nat → AVal) : cmpFn Try.prog G [] 19 = some (f19 G) := by kernel_rfl

def f20b0 (G : Nat → AVal) : MC :=
  .seq (.seq (.ops [⟨some 11, none, .op (.mv 5)⟩,
    ⟨some 12, none, .op (.mv 0)⟩,
    ⟨some 13, none, .op (.lenS 12)⟩,
    ⟨some 14, none, .op (.bin .lss .int 11 13)⟩])
  (.cond 14
   (.skip)
   (.exit 0)))
  (.seq (.block 1
   (.seq (.draw (.rd [⟨0, ⟨some 17, none, .op (.mv 0)⟩, false, false⟩,
      ⟨1, ⟨some 18, none, .op (.mv 5)⟩, false, false⟩,
      ⟨2, ⟨some 19, none, .op (.iaddr 8 17 18)⟩, false, false⟩,
      ⟨3, ⟨some 20, none, .op (.load true 8 19)⟩, false, false⟩,
      ⟨4, ⟨some 21, none, .op (.mv 1)⟩, false, false⟩,
      ⟨5, ⟨some 22, none, .op (.mv 5)⟩, false, false⟩,
      ⟨6, ⟨some 23, none, .op (.iaddr 8 21 22)⟩, false, false⟩,
      ⟨7, ⟨some 24, none, .op (.load true 8 23)⟩, false, false⟩]
    (.ef ⟨8, ⟨some 25, none, .call 34 [20, 24]⟩, true, false⟩ []
    (.rd [⟨9, ⟨some 26, none, .op (.un .not 25)⟩, false, false⟩]
    (.nil)))))
   (.cond 26
    (.seq (.ops [⟨some 4, none, .op (.mv (.val (.bool false)))⟩])
    (.ret))
    (.skip))))
  (.ops [⟨some 15, none, .op (.mv 5)⟩,
    ⟨some 16, none, .op (.bin .add .int 15 (.val (.int 1)))⟩,
    ⟨some 5, none, .op (.mv 16)⟩]))

def f20m (G : Nat → AVal) : MC :=
  .seq (.ops [⟨some 4, none, .op (.mv (.val (.bool false)))⟩])
  (.seq (.seq (.ops [⟨some 6, none, .op (.mv 0)⟩,
    ⟨some 7, none, .op (.lenS 6)⟩,
    ⟨some 8, none, .op (.mv 1)⟩,
    ⟨some 9, none, .op (.lenS 8)⟩,
    ⟨some 10, none, .op (.bin .neq .int 7 9)⟩])
  (.cond 10
   (.seq (.ops [⟨some 4, none, .op (.mv (.val (.bool false)))⟩])
   (.ret))
   (.skip)))
  (.seq (.seq (.ops [⟨some 5, none, .op (.mv (.val (.int 0)))⟩])
  (.block 0
   (.loop (f20b0 G))))
  (.seq (.ops [⟨some 4, none, .op (.mv (.val (.bool true)))⟩])
  (.ret))))
def f20 (G : Nat → AVal) : AFn := ⟨27, [.tmp 4], f20m G⟩

theorem f20_c (G : Nat → AVal) : cmpFn Try.prog G [] 20 = some (f20 G) := by kernel_rfl


def f29m (G : Nat → AVal) : MC :=
  .seq (.ops [⟨some 4, none, .op (.alloc 8 [.int 0, .int 0, .nilS, .int 0, .int 0, .str [], .int 0, .int 0])⟩])
  (.seq (.ops [⟨some 5, none, .op (.mv 0)⟩,
    ⟨some 6, none, .op (.mv 1)⟩,
    ⟨some 7, none, .op (.build [.int 0, .int 0, .nilS, .int 0, .int 0, .str [], .int 0, .int 0] [(false, 0, 1, (.val (.int 22))), (false, 6, 1, 5), (false, 7, 1, 6)])⟩,
    ⟨none, none, .op (.store true 8 4 7)⟩])
  (.ret))
def f29 (G : Nat → AVal) : AFn := ⟨8, [.cell 4 true 8], f29m G⟩

theorem f29_c (G : Nat → AVal) : cmpFn Try.prog G [] 29 = some (f29 G) := by kernel_rfl


def f30m (G : Nat → AVal) : MC :=
  .seq (.ops [⟨some 2, none, .op (.alloc 8 [.int 0, .int 0, .nilS, .int 0, .int 0, .str [], .int 0, .int 0])⟩])
  (.seq (.ops [⟨some 3, none, .op (.mv 0)⟩,
    ⟨some 4, none, .op (.build [.int 0, .int 0, .str []] [(false, 0, 1, (.val (.int 2))), (false, 1, 1, 3)])⟩,
    ⟨some 5, none, .op (.build [.int 0, .int 0, .nilS, .int 0, .int 0, .str [], .int 0, .int 0] [(false, 0, 1, (.val (.int 21))), (false, 1, 1, (.val (.int 2))), (true, 3, 3, 4)])⟩,
    ⟨none, none, .op (.store true 8 2 5)⟩])
  (.ret))
def f30 (G : Nat → AVal) : AFn := ⟨6, [.cell 2 true 8], f30m G⟩

theorem f30_c (G : Nat → AVal) : cmpFn Try.prog G [] 30 = some (f30 G) := by kernel_rfl

def f31b0 (G : Nat → AVal) : MC :=
  .seq (.ops [⟨some 38, none, .op (.bin .lss .int 37 36)⟩])
  (.seq (.cond 38
   (.skip)
   (.exit 0))
  (.seq (.block 1
   (.seq (.ops [⟨some 39, none, .op (.mv 37)⟩,
     ⟨some 40, none, .op (.iaddr 1 35 37)⟩,
     ⟨some 41, none, .op (.load false 1 40)⟩,
     ⟨some 6, none, .op (.mv 39)⟩,
     ⟨some 7, none, .op (.mv 41)⟩])
   (.seq (.draw (.rd [⟨0, ⟨some 42, none, .op (.faddr 2 2)⟩, false, true⟩,
      ⟨1, ⟨some 43, none, .op (.load false 1 42)⟩, false, true⟩,
      ⟨2, ⟨some 44, none, .op (.mv 6)⟩, false, true⟩,
      ⟨3, ⟨some 45, none, .op (.iaddr 8 43 44)⟩, false, true⟩,
      ⟨4, ⟨some 46, none, .op (.load true 8 45)⟩, false, true⟩,
      ⟨5, ⟨some 47, none, .op (.faddr 2 2)⟩, false, true⟩,
      ⟨6, ⟨some 48, none, .op (.load false 1 47)⟩, false, true⟩,
      ⟨7, ⟨some 49, none, .op (.mv 6)⟩, false, true⟩,
      ⟨8, ⟨some 50, none, .op (.bin .sub .int (.val (.int 1)) 49)⟩, false, true⟩,
      ⟨9, ⟨some 51, none, .op (.iaddr 8 48 50)⟩, false, true⟩,
      ⟨10, ⟨some 52, none, .op (.load true 8 51)⟩, false, true⟩]
    (.or (.ef ⟨11, ⟨some 8, none, .op (.alloc 8 [.int 0, .int 0, .nilS, .int 0, .int 0, .str [], .int 0, .int 0])⟩, true, false⟩ [0, 1, 2, 3, 4, 5, 6, 7, 8, 9, 10]
    (.ef ⟨12, ⟨some 9, none, .op (.alloc 8 [.int 0, .int 0, .nilS, .int 0, .int 0, .str [], .int 0, .int 0])⟩, true, false⟩ [0, 1, 2, 3, 4, 5, 6, 7, 8, 9, 10]
    (.ef ⟨13, ⟨none, none, .op (.store true 8 8 46)⟩, true, false⟩ [5, 6, 7, 8, 9, 10]
    (.ef ⟨14, ⟨none, none, .op (.store true 8 9 52)⟩, true, false⟩ []
    (.nil)))))
    (.ef ⟨12, ⟨some 9, none, .op (.alloc 8 [.int 0, .int 0, .nilS, .int 0, .int 0, .str [], .int 0, .int 0])⟩, true, false⟩ [0, 1, 2, 3, 4, 5, 6, 7, 8, 9, 10]
    (.ef ⟨11, ⟨some 8, none, .op (.alloc 8 [.int 0, .int 0, .nilS, .int 0, .int 0, .str [], .int 0, .int 0])⟩, true, false⟩ [0, 1, 2, 3, 4, 5, 6, 7, 8, 9, 10]
    (.ef ⟨13, ⟨none, none, .op (.store true 8 8 46)⟩, true, false⟩ [5, 6, 7, 8, 9, 10]
    (.ef ⟨14, ⟨none, none, .op (.store true 8 9 52)⟩, true, false⟩ []
    (.nil))))))))
   (.seq (.ops [⟨some 53, none, .op (.faddr 0 8)⟩,
     ⟨some 54, none, .op (.load false 1 53)⟩,
     ⟨some 55, none, .op (.bin .eql .int 54 (.val (.int 22)))⟩,
     ⟨some 56, none, .op (.mv 55)⟩,
     ⟨some 57, some (56, true), .op (.faddr 6 8)⟩,
     ⟨some 58, some (56, true), .op (.load false 1 57)⟩,
     ⟨some 59, some (56, true), .op (.mv 1)⟩,
     ⟨some 60, some (56, true), .op (.bin .eql .int 58 59)⟩,
     ⟨some 61, none, .op (.pick 56 60 (.val (.bool false)))⟩,
     ⟨some 62, none, .op (.mv 61)⟩,
     ⟨some 63, some (62, true), .op (.load true 8 9)⟩,
     ⟨some 64, some (62, true), .call 32 [63]⟩,
     ⟨some 65, some (62, true), .op (.mv 1)⟩,
     ⟨some 66, some (62, true), .call 37 [64, 65]⟩,
     ⟨some 67, some (62, true), .op (.un .not 66)⟩,
     ⟨some 68, none, .op (.pick 62 67 (.val (.bool false)))⟩])
   (.cond 68
    (.seq (.draw (.rd [⟨0, ⟨some 69, none, .op (.faddr 7 8)⟩, false, true⟩,
       ⟨1, ⟨some 70, none, .op (.load false 1 69)⟩, false, true⟩,
       ⟨2, ⟨some 71, none, .op (.mv 7)⟩, false, true⟩,
       ⟨3, ⟨some 72, none, .op (.load true 8 9)⟩, false, false⟩]
     (.ef ⟨4, ⟨some 73, none, .call 33 [72]⟩, true, false⟩ [0, 1, 2]
     (.rd [⟨5, ⟨some 74, none, .op (.build [.int 0, .int 0, .int 0, .int 0, .nilS, .int 0, .int 0, .str [], .int 0, .int 0] [(false, 0, 1, 70), (false, 1, 1, 71), (true, 2, 8, 73)])⟩, false, false⟩]
     (.ef ⟨6, ⟨none, none, .op (.store true 10 4 74)⟩, true, false⟩ []
     (.rd [⟨7, ⟨some 5, none, .op (.mv (.val (.bool true)))⟩, false, false⟩]
     (.nil)))))))
    (.ret))
    (.skip))))))
  (.ops [⟨some 75, none, .op (.bin .add .int 37 (.val (.int 1)))⟩,
    ⟨some 37, none, .op (.mv 75)⟩])))

def f31m (G : Nat → AVal) : MC :=
  .seq (.ops [⟨some 2, none, .op (.box true 8 0)⟩,
    ⟨some 4, none, .op (.alloc 10 [.int 0, .int 0, .int 0, .int 0, .nilS, .int 0, .int 0, .str [], .int 0, .int 0])⟩,
    ⟨some 5, none, .op (.mv (.val (.bool false)))⟩])
  (.seq (.seq (.ops [⟨some 10, none, .op (.faddr 0 2)⟩,
    ⟨some 11, none, .op (.load false 1 10)⟩,
    ⟨some 12, none, .op (.bin .lss .int 11 (.val (.int 1)))⟩,
    ⟨some 13, none, .op (.mv 12)⟩,
    ⟨some 14, some (13, false), .op (.faddr 0 2)⟩,
    ⟨some 15, some (13, false), .op (.load false 1 14)⟩,
    ⟨some 16, some (13, false), .op (.bin .gtr .int 15 (.val (.int 6)))⟩,
    ⟨some 17, none, .op (.pick 13 (.val (.bool true)) 16)⟩,
    ⟨some 18, none, .op (.mv 17)⟩,
    ⟨some 19, some (18, false), .op (.faddr 0 2)⟩,
    ⟨some 20, some (18, false), .op (.load false 1 19)⟩,
    ⟨some 21, some (18, false), .op (.bin .eql .int 20 (.val (.int 2)))⟩,
    ⟨some 22, none, .op (.pick 18 (.val (.bool true)) 21)⟩,
    ⟨some 23, none, .op (.mv 22)⟩,
    ⟨some 24, some (23, false), .op (.faddr 2 2)⟩,
    ⟨some 25, some (23, false), .op (.load false 1 24)⟩,
    ⟨some 26, some (23, false), .op (.lenS 25)⟩,
    ⟨some 27, some (23, false), .op (.bin .neq .int 26 (.val (.int 2)))⟩,
    ⟨some 28, none, .op (.pick 23 (.val (.bool true)) 27)⟩])
  (.cond 28
   (.seq (.ops [⟨some 29, none, .op (.build [.int 0, .int 0, .int 0, .int 0, .nilS, .int 0, .int 0, .str [], .int 0, .int 0] [])⟩,
     ⟨none, none, .op (.store true 10 4 29)⟩,
     ⟨some 5, none, .op (.mv (.val (.bool false)))⟩])
   (.ret))
   (.skip)))
  (.seq (.seq (.draw (.rd [⟨0, ⟨some 30, none, .op (.faddr 0 2)⟩, false, true⟩,
     ⟨1, ⟨some 31, none, .op (.load false 1 30)⟩, false, true⟩,
     ⟨2, ⟨some 32, none, .op (.faddr 0 2)⟩, false, false⟩,
     ⟨3, ⟨some 33, none, .op (.load false 1 32)⟩, false, false⟩,
     ⟨7, ⟨some 37, none, .op (.mv (.val (.int 0)))⟩, false, true⟩]
   (.ef ⟨4, ⟨some 34, none, .call 39 [33]⟩, true, false⟩ [0, 1, 7]
   (.rd [⟨5, ⟨some 35, none, .op (.bslice false 1 2 [.int 0] [(0, 31), (1, 34)])⟩, false, false⟩,
     ⟨6, ⟨some 36, none, .op (.lenS 35)⟩, false, false⟩]
   (.nil)))))
  (.block 0
   (.loop (f31b0 G))))
  (.seq (.ops [⟨some 76, none, .op (.build [.int 0, .int 0, .int 0, .int 0, .nilS, .int 0, .int 0, .str [], .int 0, .int 0] [])⟩,
    ⟨none, none, .op (.store true 10 4 76)⟩,
    ⟨some 5, none, .op (.mv (.val (.bool false)))⟩])
  (.ret))))
def f31 (G : Nat → AVal) : AFn := ⟨77, [.cell 4 true 10, .tmp 5], f31m G⟩

theorem f31_c (G : Nat → AVal) : cmpFn Try.prog G [] 31 = some (f31 G) := by kernel_rfl


def f32m (G : Nat → AVal) : MC :=
  .seq (.ops [⟨some 1, none, .op (.box true 8 0)⟩,
    ⟨some 2, none, .op (.alloc 1 [.nilS])⟩])
  (.seq (.ops [⟨some 3, none, .op (.load true 8 1)⟩,
    ⟨some 4, none, .op (.mkfn (.func 41) [] [2])⟩,
    ⟨some 5, none, .call 40 [3, 4]⟩])
  (.seq (.ops [⟨some 6, none, .op (.load false 1 2)⟩,
    ⟨some 7, none, .call 35 [6]⟩])
  (.seq (.ops [⟨some 8, none, .op (.load false 1 2)⟩,
    ⟨some 9, none, .call 36 [8]⟩,
    ⟨none, none, .op (.store false 1 2 9)⟩])
  (.ret))))
def f32 (G : Nat → AVal) : AFn := ⟨10, [.cell 2 false 1], f32m G⟩

theorem f32_c (G : Nat → AVal) : cmpFn Try.prog G [] 32 = some (f32 G) := by kernel_rfl

def f33b0 (G : Nat → AVal) : MC :=
  .seq (.ops [⟨some 12, none, .op (.bin .lss .int 11 10)⟩])
  (.seq (.cond 12
   (.skip)
   (.exit 0))
  (.seq (.block 1
   (.seq (.ops [⟨some 13, none, .op (.mv 11)⟩,
     ⟨some 3, none, .op (.mv 13)⟩])
   (.draw (.rd [⟨0, ⟨some 14, none, .op (.faddr 2 1)⟩, false, true⟩,
      ⟨1, ⟨some 15, none, .op (.load false 1 14)⟩, false, true⟩,
      ⟨2, ⟨some 16, none, .op (.mv 3)⟩, false, true⟩,
      ⟨3, ⟨some 17, none, .op (.faddr 2 1)⟩, false, false⟩,
      ⟨4, ⟨some 18, none, .op (.load false 1 17)⟩, false, false⟩,
      ⟨5, ⟨some 19, none, .op (.mv 3)⟩, false, false⟩,
      ⟨6, ⟨some 20, none, .op (.iaddr 8 18 19)⟩, false, false⟩,
      ⟨7, ⟨some 21, none, .op (.load true 8 20)⟩, false, false⟩]
    (.ef ⟨8, ⟨some 22, none, .call 33 [21]⟩, true, false⟩ [0, 1, 2]
    (.rd [⟨9, ⟨some 23, none, .op (.iaddr 8 15 16)⟩, false, false⟩]
    (.ef ⟨10, ⟨none, none, .op (.store true 8 23 22)⟩, true, false⟩ []
    (.nil))))))))
  (.ops [⟨some 24, none, .op (.bin .add .int 11 (.val (.int 1)))⟩,
    ⟨some 11, none, .op (.mv 24)⟩])))

def f33m (G : Nat → AVal) : MC :=
  .seq (.ops [⟨some 1, none, .op (.box true 8 0)⟩,
    ⟨some 2, none, .op (.alloc 8 [.int 0, .int 0, .nilS, .int 0, .int 0, .str [], .int 0, .int 0])⟩])
  (.seq (.ops [⟨some 4, none, .op (.faddr 2 1)⟩,
    ⟨some 5, none, .op (.load false 1 4)⟩,
    ⟨some 6, none, .call 42 [5]⟩,
    ⟨some 7, none, .op (.faddr 2 1)⟩,
    ⟨none, none, .op (.store false 1 7 6)⟩])
  (.seq (.seq (.ops [⟨some 8, none, .op (.faddr 2 1)⟩,
    ⟨some 9, none, .op (.load false 1 8)⟩,
    ⟨some 10, none, .op (.lenS 9)⟩,
    ⟨some 11, none, .op (.mv (.val (.int 0)))⟩])
  (.block 0
   (.loop (f33b0 G))))
  (.seq (.ops [⟨some 25, none, .op (.load true 8 1)⟩,
    ⟨none, none, .op (.store true 8 2 25)⟩])
  (.ret))))
def f33 (G : Nat → AVal) : AFn := ⟨26, [.cell 2 true 8], f33m G⟩

theorem f33_c (G : Nat → AVal) : cmpFn Try.prog G [] 33 = some (f33 G) := by kernel_rfl


def f34m (G : Nat → AVal) : MC :=
  .seq (.ops [⟨some 2, none, .op (.box true 8 0)⟩,
    ⟨some 3, none, .op (.box true 8 1)⟩,
    ⟨some 4, none, .op (.mv (.val (.bool false)))⟩])
  (.seq (.seq (.ops [⟨some 5, none, .op (.faddr 0 2)⟩,
    ⟨some 6, none, .op (.load false 1 5)⟩,
    ⟨some 7, none, .op (.faddr 0 3)⟩,
    ⟨some 8, none, .op (.load false 1 7)⟩,
    ⟨some 9, none, .op (.bin .neq .int 6 8)⟩,
    ⟨some 10, none, .op (.mv 9)⟩,
    ⟨some 11, some (10, false), .op (.faddr 1 2)⟩,
    ⟨some 12, some (10, false), .op (.load false 1 11)⟩,
    ⟨some 13, some (10, false), .op (.faddr 1 3)⟩,
    ⟨some 14, some (10, false), .op (.load false 1 13)⟩,
    ⟨some 15, some (10, false), .op (.bin .neq .int 12 14)⟩,
    ⟨some 16, none, .op (.pick 10 (.val (.bool true)) 15)⟩,
    ⟨some 17, none, .op (.mv 16)⟩,
    ⟨some 18, some (17, false), .op (.faddr 3 2)⟩,
    ⟨some 19, some (17, false), .op (.load true 3 18)⟩,
    ⟨some 20, some (17, false), .op (.faddr 3 3)⟩,
    ⟨some 21, some (17, false), .op (.load true 3 20)⟩,
    ⟨some 22, some (17, false), .op (.bin .neq (.agg [(false, 0, 1, .int), (false, 1, 1, .int), (false, 2, 1, .str)]) 19 21)⟩,
    ⟨some 23, none, .op (.pick 17 (.val (.bool true)) 22)⟩,
    ⟨some 24, none, .op (.mv 23)⟩,
    ⟨some 25, some (24, false), .op (.faddr 6 2)⟩,
    ⟨some 26, some (24, false), .op (.load false 1 25)⟩,
    ⟨some 27, some (24, false), .op (.faddr 6 3)⟩,
    ⟨some 28, some (24, false), .op (.load false 1 27)⟩,
    ⟨some 29, some (24, false), .op (.bin .neq .int 26 28)⟩,
    ⟨some 30, none, .op (.pick 24 (.val (.bool true)) 29)⟩,
    ⟨some 31, none, .op (.mv 30)⟩,
    ⟨some 32, some (31, false), .op (.faddr 7 2)⟩,
    ⟨some 33, some (31, false), .op (.load false 1 32)⟩,
    ⟨some 34, some (31, false), .op (.faddr 7 3)⟩,
    ⟨some 35, some (31, false), .op (.load false 1 34)⟩,
    ⟨some 36, some (31, false), .op (.bin .neq .int 33 35)⟩,
    ⟨some 37, none, .op (.pick 31 (.val (.bool true)) 36)⟩])
  (.cond 37
   (.seq (.ops [⟨some 4, none, .op (.mv (.val (.bool false)))⟩])
   (.ret))
   (.skip)))
  (.seq (.ops [⟨some 38, none, .op (.faddr 2 2)⟩,
    ⟨some 39, none, .op (.load false 1 38)⟩,
    ⟨some 40, none, .op (.faddr 2 3)⟩,
    ⟨some 41, none, .op (.load false 1 40)⟩,
    ⟨some 42, none, .call 20 [39, 41]⟩,
    ⟨some 4, none, .op (.mv 42)⟩])
  (.ret)))
def f34 (G : Nat → AVal) : AFn := ⟨43, [.tmp 4], f34m G⟩

theorem f34_c (G : Nat → AVal) : cmpFn Try.prog G [] 34 = some (f34 G) := by kernel_rfl


def f35m (G : Nat → AVal) : MC :=
  .seq (.ops [⟨some 3, none, .op (.mv 0)⟩,
    ⟨some 4, none, .op (.lenS 3)⟩,
    ⟨some 2, none, .op (.mv 4)⟩])
  (.ops [⟨some 5, none, .op (.mv 0)⟩,
    ⟨some 6, none, .op (.mv 2)⟩,
    ⟨some 7, none, .op (.mv 2)⟩,
    ⟨some 8, none, .op (.conv (.toInt .u64) 7)⟩,
    ⟨some 9, none, .call 44 [8]⟩,
    ⟨some 10, none, .call 43 [5, (.val (.int 0)), 6, 9]⟩])
def f35 (G : Nat → AVal) : AFn := ⟨11, [], f35m G⟩

theorem f35_c (G : Nat → AVal) : cmpFn Try.prog G [] 35 = some (f35 G) := by kernel_rfl

def f36b0 (G : Nat → AVal) : MC :=
  .seq (.seq (.ops [⟨some 29, none, .op (.mv 5)⟩,
    ⟨some 30, none, .op (.mv 4)⟩,
    ⟨some 31, none, .op (.lenS 30)⟩,
    ⟨some 32, none, .op (.bin .lss .int 29 31)⟩])
  (.cond 32
   (.skip)
   (.exit 2)))
  (.seq (.block 3
   (.seq (.draw (.rd [⟨0, ⟨some 35, none, .op (.mv 4)⟩, false, false⟩,
      ⟨1, ⟨some 36, none, .op (.mv 5)⟩, false, false⟩,
      ⟨2, ⟨some 37, none, .op (.iaddr 1 35 36)⟩, false, false⟩,
      ⟨3, ⟨some 38, none, .op (.load false 1 37)⟩, false, false⟩,
      ⟨4, ⟨some 39, none, .op (.mv 4)⟩, false, false⟩,
      ⟨5, ⟨some 40, none, .op (.mv 5)⟩, false, false⟩,
      ⟨6, ⟨some 41, none, .op (.bin .sub .int 40 (.val (.int 1)))⟩, false, false⟩,
      ⟨7, ⟨some 42, none, .op (.iaddr 1 39 41)⟩, false, false⟩,
      ⟨8, ⟨some 43, none, .op (.load false 1 42)⟩, false, false⟩,
      ⟨9, ⟨some 44, none, .op (.bin .neq .int 38 43)⟩, false, false⟩]
    (.nil)))
   (.cond 44
    (.seq (.ops [⟨some 45, none, .op (.mv 0)⟩,
      ⟨some 46, none, .op (.mv 3)⟩,
      ⟨some 47, none, .op (.mv 4)⟩,
      ⟨some 48, none, .op (.mv 5)⟩,
      ⟨some 49, none, .op (.iaddr 1 47 48)⟩,
      ⟨some 50, none, .op (.load false 1 49)⟩,
      ⟨some 51, none, .op (.iaddr 1 45 46)⟩,
      ⟨none, none, .op (.store false 1 51 50)⟩])
    (.ops [⟨some 52, none, .op (.mv 3)⟩,
      ⟨some 53, none, .op (.bin .add .int 52 (.val (.int 1)))⟩,
      ⟨some 3, none, .op (.mv 53)⟩]))
    (.skip))))
  (.ops [⟨some 33, none, .op (.mv 5)⟩,
    ⟨some 34, none, .op (.bin .add .int 33 (.val (.int 1)))⟩,
    ⟨some 5, none, .op (.mv 34)⟩]))

def f36b1 (G : Nat → AVal) : MC :=
  .seq (.seq (.ops [⟨some 10, none, .op (.mv 3)⟩,
    ⟨some 11, none, .op (.mv 0)⟩,
    ⟨some 12, none, .op (.lenS 11)⟩,
    ⟨some 13, none, .op (.bin .lss .int 10 12)⟩])
  (.cond 13
   (.skip)
   (.exit 0)))
  (.seq (.block 1
   (.seq (.draw (.rd [⟨0, ⟨some 16, none, .op (.mv 0)⟩, false, false⟩,
      ⟨1, ⟨some 17, none, .op (.mv 3)⟩, false, false⟩,
      ⟨2, ⟨some 18, none, .op (.iaddr 1 16 17)⟩, false, false⟩,
      ⟨3, ⟨some 19, none, .op (.load false 1 18)⟩, false, false⟩,
      ⟨4, ⟨some 20, none, .op (.mv 0)⟩, false, false⟩,
      ⟨5, ⟨some 21, none, .op (.mv 3)⟩, false, false⟩,
      ⟨6, ⟨some 22, none, .op (.bin .sub .int 21 (.val (.int 1)))⟩, false, false⟩,
      ⟨7, ⟨some 23, none, .op (.iaddr 1 20 22)⟩, false, false⟩,
      ⟨8, ⟨some 24, none, .op (.load false 1 23)⟩, false, false⟩,
      ⟨9, ⟨some 25, none, .op (.bin .eql .int 19 24)⟩, false, false⟩]
    (.nil)))
   (.cond 25
    (.seq (.ops [⟨some 26, none, .op (.mv 0)⟩,
      ⟨some 27, none, .op (.mv 3)⟩,
      ⟨some 28, none, .op (.slc 1 26 (some 27) none none)⟩,
      ⟨some 4, none, .op (.mv 28)⟩])
    (.seq (.seq (.ops [⟨some 5, none, .op (.mv (.val (.int 1)))⟩])
    (.block 2
     (.loop (f36b0 G))))
    (.seq (.ops [⟨some 54, none, .op (.mv 0)⟩,
      ⟨some 55, none, .op (.mv 3)⟩,
      ⟨some 56, none, .op (.slc 1 54 (some 55) none none)⟩,
      ⟨none, none, .op (.clearS 1 [.int 0] 56)⟩])
    (.seq (.ops [⟨some 57, none, .op (.mv 0)⟩,
      ⟨some 58, none, .op (.mv 3)⟩,
      ⟨some 59, none, .op (.slc 1 57 none (some 58) none)⟩,
      ⟨some 2, none, .op (.mv 59)⟩])
    (.ret)))))
    (.skip))))
  (.ops [⟨some 14, none, .op (.mv 3)⟩,
    ⟨some 15, none, .op (.bin .add .int 14 (.val (.int 1)))⟩,
    ⟨some 3, none, .op (.mv 15)⟩]))

def f36m (G : Nat → AVal) : MC :=
  .seq (.ops [⟨some 2, none, .op (.mv (.val .nilS))⟩])
  (.seq (.seq (.ops [⟨some 6, none, .op (.mv 0)⟩,
    ⟨some 7, none, .op (.lenS 6)⟩,
    ⟨some 8, none, .op (.bin .lss .int 7 (.val (.int 2)))⟩])
  (.cond 8
   (.seq (.ops [⟨some 9, none, .op (.mv 0)⟩,
     ⟨some 2, none, .op (.mv 9)⟩])
   (.ret))
   (.skip)))
  (.seq (.seq (.ops [⟨some 3, none, .op (.mv (.val (.int 1)))⟩])
  (.block 0
   (.loop (f36b1 G))))
  (.seq (.ops [⟨some 60, none, .op (.mv 0)⟩,
    ⟨some 2, none, .op (.mv 60)⟩])
  (.ret))))
def f36 (G : Nat → AVal) : AFn := ⟨61, [.tmp 2], f36m G⟩

theorem f36_c (G : Nat → AVal) : cmpFn Try.prog G [] 36 = some (f36 G) := by kernel_rfl


def f37m (G : Nat → AVal) : MC :=
  .seq (.ops [⟨some 4, none, .op (.mv (.val (.bool false)))⟩])
  (.seq (.ops [⟨some 5, none, .op (.mv 0)⟩,
    ⟨some 6, none, .op (.mv 1)⟩,
    ⟨some 7, none, .call 45 [5, 6]⟩,
    ⟨some 8, none, .op (.bin .geq .int 7 (.val (.int 0)))⟩,
    ⟨some 4, none, .op (.mv 8)⟩])
  (.ret))
def f37 (G : Nat → AVal) : AFn := ⟨9, [.tmp 4], f37m G⟩

theorem f37_c (G : Nat → AVal) : cmpFn Try.prog G [] 37 = some (f37 G) := by kernel_rfl


def f39m (G : Nat → AVal) : MC :=
  .seq (.ops [⟨some 2, none, .op (.mv (.val (.int 0)))⟩])
  (.seq (.seq (.ops [⟨some 3, none, .op (.mv 0)⟩])
  (.block 0
   (.seq (.ops [⟨some 5, none, .op (.bin .eql .int 3 (.val (.int 3)))⟩,
     ⟨some 4, none, .op (.mv 5)⟩])
   (.cond 4
    (.seq (.ops [⟨some 2, none, .op (.mv (.val (.int 5)))⟩])
    (.ret))
    (.seq (.ops [⟨some 7, none, .op (.bin .eql .int 3 (.val (.int 4)))⟩,
      ⟨some 6, none, .op (.mv 7)⟩])
    (.cond 6
     (.seq (.ops [⟨some 2, none, .op (.mv (.val (.int 6)))⟩])
     (.ret))
     (.seq (.ops [⟨some 9, none, .op (.bin .eql .int 3 (.val (.int 5)))⟩,
       ⟨some 8, none, .op (.mv 9)⟩])
     (.cond 8
      (.seq (.ops [⟨some 2, none, .op (.mv (.val (.int 3)))⟩])
      (.ret))
      (.seq (.ops [⟨some 11, none, .op (.bin .eql .int 3 (.val (.int 6)))⟩,
        ⟨some 10, none, .op (.mv 11)⟩])
      (.cond 10
       (.seq (.ops [⟨some 2, none, .op (.mv (.val (.int 4)))⟩])
       (.ret))
       (.skip)))))))))))
  (.seq (.ops [⟨some 12, none, .op (.mv 0)⟩,
    ⟨some 2, none, .op (.mv 12)⟩])
  (.ret)))
def f39 (G : Nat → AVal) : AFn := ⟨13, [.tmp 2], f39m G⟩

theorem f39_c (G : Nat → AVal) : cmpFn Try.prog G [] 39 = some (f39 G) := by kernel_rfl

def f40b0 (G : Nat → AVal) : MC :=
  .seq (.ops [⟨some 16, none, .op (.bin .lss .int 15 14)⟩])
  (.seq (.cond 16
   (.skip)
   (.exit 0))
  (.seq (.block 1
   (.seq (.ops [⟨some 17, none, .op (.iaddr 8 13 15)⟩,
     ⟨some 18, none, .op (.load true 8 17)⟩,
     ⟨some 5, none, .op (.alloc 8 [.int 0, .int 0, .nilS, .int 0, .int 0, .str [], .int 0, .int 0])⟩,
     ⟨none, none, .op (.store true 8 5 18)⟩])
   (.ops [⟨some 19, none, .op (.load true 8 5)⟩,
     ⟨some 20, none, .op (.mv 1)⟩,
     ⟨some 21, none, .call 40 [19, 20]⟩])))
  (.ops [⟨some 22, none, .op (.bin .add .int 15 (.val (.int 1)))⟩,
    ⟨some 15, none, .op (.mv 22)⟩])))

def f40m (G : Nat → AVal) : MC :=
  .seq (.ops [⟨some 2, none, .op (.box true 8 0)⟩])
  (.seq (.seq (.ops [⟨some 6, none, .op (.faddr 0 2)⟩,
    ⟨some 7, none, .op (.load false 1 6)⟩,
    ⟨some 8, none, .op (.bin .eql .int 7 (.val (.int 22)))⟩])
  (.cond 8
   (.ops [⟨some 9, none, .op (.mv 1)⟩,
     ⟨some 10, none, .op (.load true 8 2)⟩,
     ⟨some 11, none, .callV 9 [10]⟩])
   (.skip)))
  (.seq (.ops [⟨some 12, none, .op (.faddr 2 2)⟩,
    ⟨some 13, none, .op (.load false 1 12)⟩,
    ⟨some 14, none, .op (.lenS 13)⟩,
    ⟨some 15, none, .op (.mv (.val (.int 0)))⟩])
  (.block 0
   (.loop (f40b0 G)))))
def f40 (G : Nat → AVal) : AFn := ⟨23, [], f40m G⟩

theorem f40_c (G : Nat → AVal) : cmpFn Try.prog G [] 40 = some (f40 G) := by kernel_rfl


def f41m (G : Nat → AVal) : MC :=
  .seq (.ops [⟨some 2, none, .op (.box true 8 0)⟩])
  (.ops [⟨some 3, none, .op (.load false 1 1)⟩,
    ⟨some 4, none, .op (.faddr 6 2)⟩,
    ⟨some 5, none, .op (.load false 1 4)⟩,
    ⟨some 6, none, .op (.bslice false 1 1 [.int 0] [(0, 5)])⟩,
    ⟨some 7, none, .op (.append 1 8 3 6)⟩,
    ⟨none, none, .op (.store false 1 1 7)⟩])
def f41 (G : Nat → AVal) : AFn := ⟨8, [], f41m G⟩

theorem f41_c (G : Nat → AVal) : cmpFn Try.prog G [] 41 = some (f41 G) := by kernel_rfl


def f42m (G : Nat → AVal) : MC :=
  .seq (.ops [⟨some 2, none, .op (.mv (.val .nilS))⟩])
  (.seq (.seq (.ops [⟨some 3, none, .op (.mv 0)⟩,
    ⟨some 4, none, .op (.bin .eql (.nilP .slice) 3 (.val .nilS))⟩])
  (.cond 4
   (.seq (.ops [⟨some 2, none, .op (.mv (.val .nilS))⟩])
   (.ret))
   (.skip)))
  (.seq (.ops [⟨some 5, none, .op (.bslice true 8 0 [.int 0, .int 0, .nilS, .int 0, .int 0, .str [], .int 0, .int 0] [])⟩,
    ⟨some 6, none, .op (.mv 0)⟩,
    ⟨some 7, none, .op (.append 8 88 5 6)⟩,
    ⟨some 2, none, .op (.mv 7)⟩])
  (.ret)))
def f42 (G : Nat → AVal) : AFn := ⟨8, [.tmp 2], f42m G⟩

theorem f42_c (G : Nat → AVal) : cmpFn Try.prog G [] 42 = some (f42 G) := by kernel_rfl

def f43b0 (G : Nat → AVal) : MC :=
  .block 1
   (.seq (.ops [⟨some 19, none, .op (.mv 2)⟩,
     ⟨some 20, none, .op (.mv 1)⟩,
     ⟨some 21, none, .op (.bin .sub .int 19 20)⟩,
     ⟨some 10, none, .op (.mv 21)⟩])
   (.seq (.seq (.ops [⟨some 22, none, .op (.mv 10)⟩,
     ⟨some 23, none, .op (.bin .leq .int 22 (.val (.int 12)))⟩])
   (.cond 23
    (.seq (.ops [⟨some 24, none, .op (.mv 0)⟩,
      ⟨some 25, none, .op (.mv 1)⟩,
      ⟨some 26, none, .op (.mv 2)⟩,
      ⟨some 27, none, .call 46 [24, 25, 26]⟩])
    (.ret))
    (.skip)))
   (.seq (.seq (.ops [⟨some 28, none, .op (.mv 3)⟩,
     ⟨some 29, none, .op (.bin .eql .int 28 (.val (.int 0)))⟩])
   (.cond 29
    (.seq (.ops [⟨some 30, none, .op (.mv 0)⟩,
      ⟨some 31, none, .op (.mv 1)⟩,
      ⟨some 32, none, .op (.mv 2)⟩,
      ⟨some 33, none, .call 47 [30, 31, 32]⟩])
    (.ret))
    (.skip)))
   (.seq (.seq (.ops [⟨some 34, none, .op (.mv 8)⟩,
     ⟨some 35, none, .op (.un .not 34)⟩])
   (.cond 35
    (.seq (.ops [⟨some 36, none, .op (.mv 0)⟩,
      ⟨some 37, none, .op (.mv 1)⟩,
      ⟨some 38, none, .op (.mv 2)⟩,
      ⟨some 39, none, .call 48 [36, 37, 38]⟩])
    (.ops [⟨some 40, none, .op (.mv 3)⟩,
      ⟨some 41, none, .op (.bin .sub .int 40 (.val (.int 1)))⟩,
      ⟨some 3, none, .op (.mv 41)⟩]))
    (.skip)))
   (.seq (.ops [⟨some 43, none, .op (.mv 0)⟩,
     ⟨some 44, none, .op (.mv 1)⟩,
     ⟨some 45, none, .op (.mv 2)⟩,
     ⟨some 46, none, .call 49 [43, 44, 45]⟩,
     ⟨some 42, none, .op (.mv 46)⟩,
     ⟨some 47, none, .op (.extract 42 0)⟩,
     ⟨some 48, none, .op (.extract 42 1)⟩,
     ⟨some 11, none, .op (.mv 47)⟩,
     ⟨some 12, none, .op (.mv 48)⟩])
   (.seq (.seq (.ops [⟨some 49, none, .op (.mv 12)⟩,
     ⟨some 50, none, .op (.bin .eql .int 49 (.val (.int 2)))⟩])
   (.cond 50
    (.seq (.ops [⟨some 51, none, .op (.mv 0)⟩,
      ⟨some 52, none, .op (.mv 1)⟩,
      ⟨some 53, none, .op (.mv 2)⟩,
      ⟨some 54, none, .call 50 [51, 52, 53]⟩])
    (.seq (.ops [⟨some 55, none, .op (.mv 2)⟩,
      ⟨some 56, none, .op (.bin .sub .int 55 (.val (.int 1)))⟩,
      ⟨some 57, none, .op (.mv 11)⟩,
      ⟨some 58, none, .op (.mv 1)⟩,
      ⟨some 59, none, .op (.bin .sub .int 57 58)⟩,
      ⟨some 60, none, .op (.bin .sub .int 56 59)⟩,
      ⟨some 11, none, .op (.mv 60)⟩])
    (.ops [⟨some 12, none, .op (.mv (.val (.int 1)))⟩])))
    (.skip)))
   (.seq (.seq (.ops [⟨some 61, none, .op (.mv 8)⟩,
     ⟨some 62, none, .op (.mv 61)⟩,
     ⟨some 63, some (62, true), .op (.mv 9)⟩,
     ⟨some 64, none, .op (.pick 62 63 (.val (.bool false)))⟩,
     ⟨some 65, none, .op (.mv 64)⟩,
     ⟨some 66, some (65, true), .op (.mv 12)⟩,
     ⟨some 67, some (65, true), .op (.bin .eql .int 66 (.val (.int 1)))⟩,
     ⟨some 68, none, .op (.pick 65 67 (.val (.bool false)))⟩])
   (.cond 68
    (.seq (.ops [⟨some 69, none, .op (.mv 0)⟩,
      ⟨some 70, none, .op (.mv 1)⟩,
      ⟨some 71, none, .op (.mv 2)⟩,
      ⟨some 72, none, .call 51 [69, 70, 71]⟩])
    (.cond 72
     (.ret)
     (.skip)))
    (.skip)))
   (.seq (.seq (.draw (.rd [⟨0, ⟨some 73, none, .op (.mv 1)⟩, false, false⟩,
      ⟨1, ⟨some 74, none, .op (.bin .gtr .int 73 (.val (.int 0)))⟩, false, false⟩,
      ⟨2, ⟨some 75, none, .op (.mv 74)⟩, false, false⟩,
      ⟨3, ⟨some 76, some (75, true), .op (.mv 0)⟩, false, false⟩,
      ⟨4, ⟨some 77, some (75, true), .op (.mv 1)⟩, false, false⟩,
      ⟨5, ⟨some 78, some (75, true), .op (.bin .sub .int 77 (.val (.int 1)))⟩, false, false⟩,
      ⟨6, ⟨some 79, some (75, true), .op (.iaddr 1 76 78)⟩, false, false⟩,
      ⟨7, ⟨some 80, some (75, true), .op (.load false 1 79)⟩, false, false⟩,
      ⟨8, ⟨some 81, some (75, true), .op (.mv 0)⟩, false, false⟩,
      ⟨9, ⟨some 82, some (75, true), .op (.mv 11)⟩, false, false⟩,
      ⟨10, ⟨some 83, some (75, true), .op (.iaddr 1 81 82)⟩, false, false⟩,
      ⟨11, ⟨some 84, some (75, true), .op (.load false 1 83)⟩, false, false⟩]
    (.ef ⟨12, ⟨some 85, some (75, true), .call 52 [80, 84]⟩, true, false⟩ []
    (.rd [⟨13, ⟨some 86, some (75, true), .op (.un .not 85)⟩, false, false⟩,
      ⟨14, ⟨some 87, none, .op (.pick 75 86 (.val (.bool false)))⟩, false, false⟩]
    (.nil)))))
   (.cond 87
    (.seq (.ops [⟨some 88, none, .op (.mv 0)⟩,
      ⟨some 89, none, .op (.mv 1)⟩,
      ⟨some 90, none, .op (.mv 2)⟩,
      ⟨some 91, none, .op (.mv 11)⟩,
      ⟨some 92, none, .call 53 [88, 89, 90, 91]⟩,
      ⟨some 13, none, .op (.mv 92)⟩])
    (.seq (.ops [⟨some 93, none, .op (.mv 13)⟩,
      ⟨some 1, none, .op (.mv 93)⟩])
    (.exit 1)))
    (.skip)))
   (.seq (.ops [⟨some 95, none, .op (.mv 0)⟩,
     ⟨some 96, none, .op (.mv 1)⟩,
     ⟨some 97, none, .op (.mv 2)⟩,
     ⟨some 98, none, .op (.mv 11)⟩,
     ⟨some 99, none, .call 54 [95, 96, 97, 98]⟩,
     ⟨some 94, none, .op (.mv 99)⟩,
     ⟨some 100, none, .op (.extract 94 0)⟩,
     ⟨some 101, none, .op (.extract 94 1)⟩,
     ⟨some 14, none, .op (.mv 100)⟩,
     ⟨some 15, none, .op (.mv 101)⟩])
   (.seq (.ops [⟨some 102, none, .op (.mv 15)⟩,
     ⟨some 9, none, .op (.mv 102)⟩])
   (.seq (.ops [⟨some 103, none, .op (.mv 14)⟩,
     ⟨some 104, none, .op (.mv 1)⟩,
     ⟨some 105, none, .op (.bin .sub .int 103 104)⟩,
     ⟨some 106, none, .op (.mv 2)⟩,
     ⟨some 107, none, .op (.mv 14)⟩,
     ⟨some 108, none, .op (.bin .sub .int 106 107)⟩,
     ⟨some 16, none, .op (.mv 105)⟩,
     ⟨some 17, none, .op (.mv 108)⟩])
   (.seq (.ops [⟨some 109, none, .op (.mv 10)⟩,
     ⟨some 110, none, .op (.bin .quo .int 109 (.val (.int 8)))⟩,
     ⟨some 18, none, .op (.mv 110)⟩])
   (.seq (.ops [⟨some 111, none, .op (.mv 16)⟩,
     ⟨some 112, none, .op (.mv 17)⟩,
     ⟨some 113, none, .op (.bin .lss .int 111 112)⟩])
   (.cond 113
    (.seq (.ops [⟨some 114, none, .op (.mv 16)⟩,
      ⟨some 115, none, .op (.mv 18)⟩,
      ⟨some 116, none, .op (.bin .geq .int 114 115)⟩,
      ⟨some 8, none, .op (.mv 116)⟩])
    (.seq (.ops [⟨some 117, none, .op (.mv 0)⟩,
      ⟨some 118, none, .op (.mv 1)⟩,
      ⟨some 119, none, .op (.mv 14)⟩,
      ⟨some 120, none, .op (.mv 3)⟩,
      ⟨some 121, none, .call 43 [117, 118, 119, 120]⟩])
    (.ops [⟨some 122, none, .op (.mv 14)⟩,
      ⟨some 123, none, .op (.bin .add .int 122 (.val (.int 1)))⟩,
      ⟨some 1, none, .op (.mv 123)⟩])))
    (.seq (.ops [⟨some 124, none, .op (.mv 17)⟩,
      ⟨some 125, none, .op (.mv 18)⟩,
      ⟨some 126, none, .op (.bin .geq .int 124 125)⟩,
      ⟨some 8, none, .op (.mv 126)⟩])
    (.seq (.ops [⟨some 127, none, .op (.mv 0)⟩,
      ⟨some 128, none, .op (.mv 14)⟩,
      ⟨some 129, none, .op (.bin .add .int 128 (.val (.int 1)))⟩,
      ⟨some 130, none, .op (.mv 2)⟩,
      ⟨some 131, none, .op (.mv 3)⟩,
      ⟨some 132, none, .call 43 [127, 129, 130, 131]⟩])
    (.ops [⟨some 133, none, .op (.mv 14)⟩,
      ⟨some 2, none, .op (.mv 133)⟩])))))))))))))))))

def f43m (G : Nat → AVal) : MC :=
  .seq (.ops [⟨some 8, none, .op (.mv (.val (.bool true)))⟩])
  (.seq (.ops [⟨some 9, none, .op (.mv (.val (.bool true)))⟩])
  (.block 0
   (.loop (f43b0 G))))
def f43 (G : Nat → AVal) : AFn := ⟨134, [], f43m G⟩

theorem f43_c (G : Nat → AVal) : cmpFn Try.prog G [] 43 = some (f43 G) := by kernel_rfl


def f44m (G : Nat → AVal) : MC :=
  .seq (.ops [⟨some 2, none, .op (.mv (.val (.int 0)))⟩])
  (.seq (.cond (.val (.bool false))
   (.seq (.ops [⟨some 3, none, .op (.mv 0)⟩,
     ⟨some 4, none, .op (.conv (.toInt .u32) 3)⟩,
     ⟨some 5, none, .call 55 [4]⟩,
     ⟨some 2, none, .op (.mv 5)⟩])
   (.ret))
   (.skip))
  (.seq (.ops [⟨some 6, none, .op (.mv 0)⟩,
    ⟨some 7, none, .call 56 [6]⟩,
    ⟨some 2, none, .op (.mv 7)⟩])
  (.ret)))
def f44 (G : Nat → AVal) : AFn := ⟨8, [.tmp 2], f44m G⟩

theorem f44_c (G : Nat → AVal) : cmpFn Try.prog G [] 44 = some (f44 G) := by kernel_rfl

def f45b0 (G : Nat → AVal) : MC :=
  .seq (.ops [⟨some 9, none, .op (.bin .lss .int 8 7)⟩])
  (.seq (.cond 9
   (.skip)
   (.exit 0))
  (.seq (.block 1
   (.seq (.ops [⟨some 10, none, .op (.mv 8)⟩,
     ⟨some 5, none, .op (.mv 10)⟩])
   (.seq (.ops [⟨some 11, none, .op (.mv 1)⟩,
     ⟨some 12, none, .op (.mv 0)⟩,
     ⟨some 13, none, .op (.mv 5)⟩,
     ⟨some 14, none, .op (.iaddr 1 12 13)⟩,
     ⟨some 15, none, .op (.load false 1 14)⟩,
     ⟨some 16, none, .op (.bin .eql .int 11 15)⟩])
   (.cond 16
    (.seq (.ops [⟨some 17, none, .op (.mv 5)⟩,
      ⟨some 4, none, .op (.mv 17)⟩])
    (.ret))
    (.skip)))))
  (.ops [⟨some 18, none, .op (.bin .add .int 8 (.val (.int 1)))⟩,
    ⟨some 8, none, .op (.mv 18)⟩])))

def f45m (G : Nat → AVal) : MC :=
  .seq (.ops [⟨some 4, none, .op (.mv (.val (.int 0)))⟩])
  (.seq (.seq (.ops [⟨some 6, none, .op (.mv 0)⟩,
    ⟨some 7, none, .op (.lenS 6)⟩,
    ⟨some 8, none, .op (.mv (.val (.int 0)))⟩])
  (.block 0
   (.loop (f45b0 G))))
  (.seq (.ops [⟨some 4, none, .op (.mv (.val (.int (-1))))⟩])
  (.ret)))
def f45 (G : Nat → AVal) : AFn := ⟨19, [.tmp 4], f45m G⟩

theorem f45_c (G : Nat → AVal) : cmpFn Try.prog G [] 45 = some (f45 G) := by kernel_rfl

def f46b0 (G : Nat → AVal) : MC :=
  .seq (.seq (.draw (.rd [⟨0, ⟨some 16, none, .op (.mv 7)⟩, false, false⟩,
     ⟨1, ⟨some 17, none, .op (.mv 1)⟩, false, false⟩,
     ⟨2, ⟨some 18, none, .op (.bin .gtr .int 16 17)⟩, false, false⟩,
     ⟨3, ⟨some 19, none, .op (.mv 18)⟩, false, false⟩,
     ⟨4, ⟨some 20, some (19, true), .op (.mv 0)⟩, false, false⟩,
     ⟨5, ⟨some 21, some (19, true), .op (.mv 7)⟩, false, false⟩,
     ⟨6, ⟨some 22, some (19, true), .op (.iaddr 1 20 21)⟩, false, false⟩,
     ⟨7, ⟨some 23, some (19, true), .op (.load false 1 22)⟩, false, false⟩,
     ⟨8, ⟨some 24, some (19, true), .op (.mv 0)⟩, false, false⟩,
     ⟨9, ⟨some 25, some (19, true), .op (.mv 7)⟩, false, false⟩,
     ⟨10, ⟨some 26, some (19, true), .op (.bin .sub .int 25 (.val (.int 1)))⟩, false, false⟩,
     ⟨11, ⟨some 27, some (19, true), .op (.iaddr 1 24 26)⟩, false, false⟩,
     ⟨12, ⟨some 28, some (19, true), .op (.load false 1 27)⟩, false, false⟩]
   (.ef ⟨13, ⟨some 29, some (19, true), .call 52 [23, 28]⟩, true, false⟩ []
   (.rd [⟨14, ⟨some 30, none, .op (.pick 19 29 (.val (.bool false)))⟩, false, false⟩]
   (.nil)))))
  (.cond 30
   (.skip)
   (.exit 2)))
  (.seq (.block 3
   (.draw (.rd [⟨0, ⟨some 33, none, .op (.mv 0)⟩, false, false⟩,
      ⟨1, ⟨some 34, none, .op (.mv 7)⟩, false, false⟩,
      ⟨2, ⟨some 35, none, .op (.mv 0)⟩, false, true⟩,
      ⟨3, ⟨some 36, none, .op (.mv 7)⟩, false, true⟩,
      ⟨4, ⟨some 37, none, .op (.bin .sub .int 36 (.val (.int 1)))⟩, false, true⟩,
      ⟨5, ⟨some 38, none, .op (.mv 0)⟩, false, false⟩,
      ⟨6, ⟨some 39, none, .op (.mv 7)⟩, false, false⟩,
      ⟨7, ⟨some 40, none, .op (.bin .sub .int 39 (.val (.int 1)))⟩, false, false⟩,
      ⟨8, ⟨some 41, none, .op (.iaddr 1 38 40)⟩, false, false⟩,
      ⟨9, ⟨some 42, none, .op (.load false 1 41)⟩, false, false⟩,
      ⟨10, ⟨some 43, none, .op (.mv 0)⟩, false, false⟩,
      ⟨11, ⟨some 44, none, .op (.mv 7)⟩, false, false⟩,
      ⟨12, ⟨some 45, none, .op (.iaddr 1 43 44)⟩, false, false⟩,
      ⟨13, ⟨some 46, none, .op (.load false 1 45)⟩, false, false⟩,
      ⟨14, ⟨some 47, none, .op (.iaddr 1 33 34)⟩, false, false⟩]
    (.ef ⟨15, ⟨none, none, .op (.store false 1 47 42)⟩, true, false⟩ [2, 3, 4]
    (.rd [⟨16, ⟨some 48, none, .op (.iaddr 1 35 37)⟩, false, false⟩]
    (.ef ⟨17, ⟨none, none, .op (.store false 1 48 46)⟩, true, false⟩ []
    (.nil)))))))
  (.ops [⟨some 31, none, .op (.mv 7)⟩,
    ⟨some 32, none, .op (.bin .sub .int 31 (.val (.int 1)))⟩,
    ⟨some 7, none, .op (.mv 32)⟩]))

def f46b1 (G : Nat → AVal) : MC :=
  .seq (.seq (.ops [⟨some 10, none, .op (.mv 6)⟩,
    ⟨some 11, none, .op (.mv 2)⟩,
    ⟨some 12, none, .op (.bin .lss .int 10 11)⟩])
  (.cond 12
   (.skip)
   (.exit 0)))
  (.seq (.block 1
   (.seq (.ops [⟨some 15, none, .op (.mv 6)⟩,
     ⟨some 7, none, .op (.mv 15)⟩])
   (.block 2
    (.loop (f46b0 G)))))
  (.ops [⟨some 13, none, .op (.mv 6)⟩,
    ⟨some 14, none, .op (.bin .add .int 13 (.val (.int 1)))⟩,
    ⟨some 6, none, .op (.mv 14)⟩]))

def f46m (G : Nat → AVal) : MC :=
  .seq (.ops [⟨some 8, none, .op (.mv 1)⟩,
    ⟨some 9, none, .op (.bin .add .int 8 (.val (.int 1)))⟩,
    ⟨some 6, none, .op (.mv 9)⟩])
  (.block 0
   (.loop (f46b1 G)))
def f46 (G : Nat → AVal) : AFn := ⟨49, [], f46m G⟩

theorem f46_c (G : Nat → AVal) : cmpFn Try.prog G [] 46 = some (f46 G) := by kernel_rfl

def f47b0 (G : Nat → AVal) : MC :=
  .seq (.seq (.ops [⟨some 18, none, .op (.mv 9)⟩,
    ⟨some 19, none, .op (.bin .geq .int 18 (.val (.int 0)))⟩])
  (.cond 19
   (.skip)
   (.exit 0)))
  (.seq (.block 1
   (.ops [⟨some 22, none, .op (.mv 0)⟩,
     ⟨some 23, none, .op (.mv 9)⟩,
     ⟨some 24, none, .op (.mv 8)⟩,
     ⟨some 25, none, .op (.mv 6)⟩,
     ⟨some 26, none, .call 57 [22, 23, 24, 25]⟩]))
  (.ops [⟨some 20, none, .op (.mv 9)⟩,
    ⟨some 21, none, .op (.bin .sub .int 20 (.val (.int 1)))⟩,
    ⟨some 9, none, .op (.mv 21)⟩]))

def f47b1 (G : Nat → AVal) : MC :=
  .seq (.seq (.ops [⟨some 29, none, .op (.mv 10)⟩,
    ⟨some 30, none, .op (.bin .geq .int 29 (.val (.int 0)))⟩])
  (.cond 30
   (.skip)
   (.exit 2)))
  (.seq (.block 3
   (.seq (.draw (.rd [⟨0, ⟨some 33, none, .op (.mv 0)⟩, false, false⟩,
      ⟨1, ⟨some 34, none, .op (.mv 6)⟩, false, false⟩,
      ⟨2, ⟨some 35, none, .op (.mv 0)⟩, false, true⟩,
      ⟨3, ⟨some 36, none, .op (.mv 6)⟩, false, true⟩,
      ⟨4, ⟨some 37, none, .op (.mv 10)⟩, false, true⟩,
      ⟨5, ⟨some 38, none, .op (.bin .add .int 36 37)⟩, false, true⟩,
      ⟨6, ⟨some 39, none, .op (.mv 0)⟩, false, false⟩,
      ⟨7, ⟨some 40, none, .op (.mv 6)⟩, false, false⟩,
      ⟨8, ⟨some 41, none, .op (.mv 10)⟩, false, false⟩,
      ⟨9, ⟨some 42, none, .op (.bin .add .int 40 41)⟩, false, false⟩,
      ⟨10, ⟨some 43, none, .op (.iaddr 1 39 42)⟩, false, false⟩,
      ⟨11, ⟨some 44, none, .op (.load false 1 43)⟩, false, false⟩,
      ⟨12, ⟨some 45, none, .op (.mv 0)⟩, false, false⟩,
      ⟨13, ⟨some 46, none, .op (.mv 6)⟩, false, false⟩,
      ⟨14, ⟨some 47, none, .op (.iaddr 1 45 46)⟩, false, false⟩,
      ⟨15, ⟨some 48, none, .op (.load false 1 47)⟩, false, false⟩,
      ⟨16, ⟨some 49, none, .op (.iaddr 1 33 34)⟩, false, false⟩]
    (.ef ⟨17, ⟨none, none, .op (.store false 1 49 44)⟩, true, false⟩ [2, 3, 4, 5]
    (.rd [⟨18, ⟨some 50, none, .op (.iaddr 1 35 38)⟩, false, false⟩]
    (.ef ⟨19, ⟨none, none, .op (.store false 1 50 48)⟩, true, false⟩ []
    (.nil))))))
   (.ops [⟨some 51, none, .op (.mv 0)⟩,
     ⟨some 52, none, .op (.mv 7)⟩,
     ⟨some 53, none, .op (.mv 10)⟩,
     ⟨some 54, none, .op (.mv 6)⟩,
     ⟨some 55, none, .call 57 [51, 52, 53, 54]⟩])))
  (.ops [⟨some 31, none, .op (.mv 10)⟩,
    ⟨some 32, none, .op (.bin .sub .int 31 (.val (.int 1)))⟩,
    ⟨some 10, none, .op (.mv 32)⟩]))

def f47m (G : Nat → AVal) : MC :=
  .seq (.ops [⟨some 11, none, .op (.mv 1)⟩,
    ⟨some 6, none, .op (.mv 11)⟩])
  (.seq (.ops [⟨some 7, none, .op (.mv (.val (.int 0)))⟩])
  (.seq (.ops [⟨some 12, none, .op (.mv 2)⟩,
    ⟨some 13, none, .op (.mv 1)⟩,
    ⟨some 14, none, .op (.bin .sub .int 12 13)⟩,
    ⟨some 8, none, .op (.mv 14)⟩])
  (.seq (.seq (.ops [⟨some 15, none, .op (.mv 8)⟩,
    ⟨some 16, none, .op (.bin .sub .int 15 (.val (.int 1)))⟩,
    ⟨some 17, none, .op (.bin .quo .int 16 (.val (.int 2)))⟩,
    ⟨some 9, none, .op (.mv 17)⟩])
  (.block 0
   (.loop (f47b0 G))))
  (.seq (.ops [⟨some 27, none, .op (.mv 8)⟩,
    ⟨some 28, none, .op (.bin .sub .int 27 (.val (.int 1)))⟩,
    ⟨some 10, none, .op (.mv 28)⟩])
  (.block 2
   (.loop (f47b1 G)))))))
def f47 (G : Nat → AVal) : AFn := ⟨56, [], f47m G⟩

theorem f47_c (G : Nat → AVal) : cmpFn Try.prog G [] 47 = some (f47 G) := by kernel_rfl

def f48b0 (G : Nat → AVal) : MC :=
  .seq (.seq (.ops [⟨some 26, none, .op (.mv 9)⟩,
    ⟨some 27, none, .op (.mv 1)⟩,
    ⟨some 28, none, .op (.mv 6)⟩,
    ⟨some 29, none, .op (.bin .quo .int 28 (.val (.int 4)))⟩,
    ⟨some 30, none, .op (.bin .mul .int 29 (.val (.int 2)))⟩,
    ⟨some 31, none, .op (.bin .add .int 27 30)⟩,
    ⟨some 32, none, .op (.bin .add .int 31 (.val (.int 1)))⟩,
    ⟨some 33, none, .op (.bin .leq .int 26 32)⟩])
  (.cond 33
   (.skip)
   (.exit 0)))
  (.seq (.block 1
   (.seq (.ops [⟨some 36, none, .call 59 [7]⟩,
     ⟨some 37, none, .op (.mv 8)⟩,
     ⟨some 38, none, .op (.bin .sub .int 37 (.val (.atom (.int .u64 1))))⟩,
     ⟨some 39, none, .op (.bin .and .int 36 38)⟩,
     ⟨some 40, none, .op (.conv (.toInt .i64) 39)⟩,
     ⟨some 10, none, .op (.mv 40)⟩])
   (.seq (.seq (.ops [⟨some 41, none, .op (.mv 10)⟩,
     ⟨some 42, none, .op (.mv 6)⟩,
     ⟨some 43, none, .op (.bin .geq .int 41 42)⟩])
   (.cond 43
    (.ops [⟨some 44, none, .op (.mv 10)⟩,
      ⟨some 45, none, .op (.mv 6)⟩,
      ⟨some 46, none, .op (.bin .sub .int 44 45)⟩,
      ⟨some 10, none, .op (.mv 46)⟩])
    (.skip)))
   (.draw (.rd [⟨0, ⟨some 47, none, .op (.mv 0)⟩, false, false⟩,
      ⟨1, ⟨some 48, none, .op (.mv 9)⟩, false, false⟩,
      ⟨2, ⟨some 49, none, .op (.mv 0)⟩, false, true⟩,
      ⟨3, ⟨some 50, none, .op (.mv 1)⟩, false, true⟩,
      ⟨4, ⟨some 51, none, .op (.mv 10)⟩, false, true⟩,
      ⟨5, ⟨some 52, none, .op (.bin .add .int 50 51)⟩, false, true⟩,
      ⟨6, ⟨some 53, none, .op (.mv 0)⟩, false, false⟩,
      ⟨7, ⟨some 54, none, .op (.mv 1)⟩, false, false⟩,
      ⟨8, ⟨some 55, none, .op (.mv 10)⟩, false, false⟩,
      ⟨9, ⟨some 56, none, .op (.bin .add .int 54 55)⟩, false, false⟩,
      ⟨10, ⟨some 57, none, .op (.iaddr 1 53 56)⟩, false, false⟩,
      ⟨11, ⟨some 58, none, .op (.load false 1 57)⟩, false, false⟩,
      ⟨12, ⟨some 59, none, .op (.mv 0)⟩, false, false⟩,
      ⟨13, ⟨some 60, none, .op (.mv 9)⟩, false, false⟩,
      ⟨14, ⟨some 61, none, .op (.iaddr 1 59 60)⟩, false, false⟩,
      ⟨15, ⟨some 62, none, .op (.load false 1 61)⟩, false, false⟩,
      ⟨16, ⟨some 63, none, .op (.iaddr 1 47 48)⟩, false, false⟩]
    (.ef ⟨17, ⟨none, none, .op (.store false 1 63 58)⟩, true, false⟩ [2, 3, 4, 5]
    (.rd [⟨18, ⟨some 64, none, .op (.iaddr 1 49 52)⟩, false, false⟩]
    (.ef ⟨19, ⟨none, none, .op (.store false 1 64 62)⟩, true, false⟩ []
    (.nil)))))))))
  (.ops [⟨some 34, none, .op (.mv 9)⟩,
    ⟨some 35, none, .op (.bin .add .int 34 (.val (.int 1)))⟩,
    ⟨some 9, none, .op (.mv 35)⟩]))

def f48m (G : Nat → AVal) : MC :=
  .seq (.ops [⟨some 11, none, .op (.mv 2)⟩,
    ⟨some 12, none, .op (.mv 1)⟩,
    ⟨some 13, none, .op (.bin .sub .int 11 12)⟩,
    ⟨some 6, none, .op (.mv 13)⟩])
  (.seq (.ops [⟨some 14, none, .op (.mv 6)⟩,
    ⟨some 15, none, .op (.bin .geq .int 14 (.val (.int 8)))⟩])
  (.cond 15
   (.seq (.ops [⟨some 16, none, .op (.mv 6)⟩,
     ⟨some 17, none, .op (.conv (.toInt .u64) 16)⟩,
     ⟨some 7, none, .op (.alloc 1 [.atom (.int .u64 0)])⟩,
     ⟨none, none, .op (.store false 1 7 17)⟩])
   (.seq (.ops [⟨some 18, none, .op (.mv 6)⟩,
     ⟨some 19, none, .call 58 [18]⟩,
     ⟨some 8, none, .op (.mv 19)⟩])
   (.seq (.ops [⟨some 20, none, .op (.mv 1)⟩,
     ⟨some 21, none, .op (.mv 6)⟩,
     ⟨some 22, none, .op (.bin .quo .int 21 (.val (.int 4)))⟩,
     ⟨some 23, none, .op (.bin .mul .int 22 (.val (.int 2)))⟩,
     ⟨some 24, none, .op (.bin .add .int 20 23)⟩,
     ⟨some 25, none, .op (.bin .sub .int 24 (.val (.int 1)))⟩,
     ⟨some 9, none, .op (.mv 25)⟩])
   (.block 0
    (.loop (f48b0 G))))))
   (.skip)))
def f48 (G : Nat → AVal) : AFn := ⟨65, [], f48m G⟩

theorem f48_c (G : Nat → AVal) : cmpFn Try.prog G [] 48 = some (f48 G) := by kernel_rfl


def f49m (G : Nat → AVal) : MC :=
  .seq (.ops [⟨some 6, none, .op (.mv (.val (.int 0)))⟩,
    ⟨some 7, none, .op (.mv (.val (.int 0)))⟩])
  (.seq (.ops [⟨some 13, none, .op (.mv 2)⟩,
    ⟨some 14, none, .op (.mv 1)⟩,
    ⟨some 15, none, .op (.bin .sub .int 13 14)⟩,
    ⟨some 8, none, .op (.mv 15)⟩])
  (.seq (.ops [⟨some 9, none, .op (.alloc 1 [.int 0])⟩])
  (.seq (.ops [⟨some 16, none, .op (.mv 1)⟩,
    ⟨some 17, none, .op (.mv 8)⟩,
    ⟨some 18, none, .op (.bin .quo .int 17 (.val (.int 4)))⟩,
    ⟨some 19, none, .op (.bin .mul .int 18 (.val (.int 1)))⟩,
    ⟨some 20, none, .op (.bin .add .int 16 19)⟩,
    ⟨some 10, none, .op (.mv 20)⟩])
  (.seq (.ops [⟨some 21, none, .op (.mv 1)⟩,
    ⟨some 22, none, .op (.mv 8)⟩,
    ⟨some 23, none, .op (.bin .quo .int 22 (.val (.int 4)))⟩,
    ⟨some 24, none, .op (.bin .mul .int 23 (.val (.int 2)))⟩,
    ⟨some 25, none, .op (.bin .add .int 21 24)⟩,
    ⟨some 11, none, .op (.mv 25)⟩])
  (.seq (.ops [⟨some 26, none, .op (.mv 1)⟩,
    ⟨some 27, none, .op (.mv 8)⟩,
    ⟨some 28, none, .op (.bin .quo .int 27 (.val (.int 4)))⟩,
    ⟨some 29, none, .op (.bin .mul .int 28 (.val (.int 3)))⟩,
    ⟨some 30, none, .op (.bin .add .int 26 29)⟩,
    ⟨some 12, none, .op (.mv 30)⟩])
  (.seq (.seq (.ops [⟨some 31, none, .op (.mv 8)⟩,
    ⟨some 32, none, .op (.bin .geq .int 31 (.val (.int 8)))⟩])
  (.cond 32
   (.seq (.seq (.ops [⟨some 33, none, .op (.mv 8)⟩,
     ⟨some 34, none, .op (.bin .geq .int 33 (.val (.int 50)))⟩])
   (.cond 34
    (.seq (.ops [⟨some 35, none, .op (.mv 0)⟩,
      ⟨some 36, none, .op (.mv 10)⟩,
      ⟨some 37, none, .call 60 [35, 36, 9]⟩,
      ⟨some 10, none, .op (.mv 37)⟩])
    (.seq (.ops [⟨some 38, none, .op (.mv 0)⟩,
      ⟨some 39, none, .op (.mv 11)⟩,
      ⟨some 40, none, .call 60 [38, 39, 9]⟩,
      ⟨some 11, none, .op (.mv 40)⟩])
    (.ops [⟨some 41, none, .op (.mv 0)⟩,
      ⟨some 42, none, .op (.mv 12)⟩,
      ⟨some 43, none, .call 60 [41, 42, 9]⟩,
      ⟨some 12, none, .op (.mv 43)⟩])))
    (.skip)))
   (.ops [⟨some 44, none, .op (.mv 0)⟩,
     ⟨some 45, none, .op (.mv 10)⟩,
     ⟨some 46, none, .op (.mv 11)⟩,
     ⟨some 47, none, .op (.mv 12)⟩,
     ⟨some 48, none, .call 61 [44, 45, 46, 47, 9]⟩,
     ⟨some 11, none, .op (.mv 48)⟩]))
   (.skip)))
  (.seq (.ops [⟨some 49, none, .op (.load false 1 9)⟩])
  (.block 0
   (.seq (.ops [⟨some 52, none, .op (.bin .eql .int 49 (.val (.int 0)))⟩,
     ⟨some 51, none, .op (.mv 52)⟩])
   (.cond 51
    (.seq (.ops [⟨some 53, none, .op (.mv 11)⟩,
      ⟨some 6, none, .op (.mv 53)⟩,
      ⟨some 7, none, .op (.mv (.val (.int 1)))⟩])
    (.ret))
    (.seq (.ops [⟨some 55, none, .op (.bin .eql .int 49 (.val (.int 12)))⟩,
      ⟨some 54, none, .op (.mv 55)⟩])
    (.cond 54
     (.seq (.ops [⟨some 56, none, .op (.mv 11)⟩,
       ⟨some 6, none, .op (.mv 56)⟩,
       ⟨some 7, none, .op (.mv (.val (.int 2)))⟩])
     (.ret))
     (.seq (.ops [⟨some 50, none, .op (.mv 11)⟩,
       ⟨some 6, none, .op (.mv 50)⟩,
       ⟨some 7, none, .op (.mv (.val (.int 0)))⟩])
     (.ret))))))))))))))
def f49 (G : Nat → AVal) : AFn := ⟨57, [.tmp 6, .tmp 7], f49m G⟩

theorem f49_c (G : Nat → AVal) : cmpFn Try.prog G [] 49 = some (f49 G) := by kernel_rfl

def f50b0 (G : Nat → AVal) : MC :=
  .seq (.seq (.ops [⟨some 11, none, .op (.mv 6)⟩,
    ⟨some 12, none, .op (.mv 7)⟩,
    ⟨some 13, none, .op (.bin .lss .int 11 12)⟩])
  (.cond 13
   (.skip)
   (.exit 0)))
  (.block 1
   (.seq (.draw (.rd [⟨0, ⟨some 14, none, .op (.mv 0)⟩, false, false⟩,
      ⟨1, ⟨some 15, none, .op (.mv 6)⟩, false, false⟩,
      ⟨2, ⟨some 16, none, .op (.mv 0)⟩, false, true⟩,
      ⟨3, ⟨some 17, none, .op (.mv 7)⟩, false, true⟩,
      ⟨4, ⟨some 18, none, .op (.mv 0)⟩, false, false⟩,
      ⟨5, ⟨some 19, none, .op (.mv 7)⟩, false, false⟩,
      ⟨6, ⟨some 20, none, .op (.iaddr 1 18 19)⟩, false, false⟩,
      ⟨7, ⟨some 21, none, .op (.load false 1 20)⟩, false, false⟩,
      ⟨8, ⟨some 22, none, .op (.mv 0)⟩, false, false⟩,
      ⟨9, ⟨some 23, none, .op (.mv 6)⟩, false, false⟩,
      ⟨10, ⟨some 24, none, .op (.iaddr 1 22 23)⟩, false, false⟩,
      ⟨11, ⟨some 25, none, .op (.load false 1 24)⟩, false, false⟩,
      ⟨12, ⟨some 26, none, .op (.iaddr 1 14 15)⟩, false, false⟩]
    (.ef ⟨13, ⟨none, none, .op (.store false 1 26 21)⟩, true, false⟩ [2, 3]
    (.rd [⟨14, ⟨some 27, none, .op (.iaddr 1 16 17)⟩, false, false⟩]
    (.ef ⟨15, ⟨none, none, .op (.store false 1 27 25)⟩, true, false⟩ []
    (.nil))))))
   (.seq (.ops [⟨some 28, none, .op (.mv 6)⟩,
     ⟨some 29, none, .op (.bin .add .int 28 (.val (.int 1)))⟩,
     ⟨some 6, none, .op (.mv 29)⟩])
   (.ops [⟨some 30, none, .op (.mv 7)⟩,
     ⟨some 31, none, .op (.bin .sub .int 30 (.val (.int 1)))⟩,
     ⟨some 7, none, .op (.mv 31)⟩]))))

def f50m (G : Nat → AVal) : MC :=
  .seq (.ops [⟨some 8, none, .op (.mv 1)⟩,
    ⟨some 6, none, .op (.mv 8)⟩])
  (.seq (.ops [⟨some 9, none, .op (.mv 2)⟩,
    ⟨some 10, none, .op (.bin .sub .int 9 (.val (.int 1)))⟩,
    ⟨some 7, none, .op (.mv 10)⟩])
  (.block 0
   (.loop (f50b0 G))))
def f50 (G : Nat → AVal) : AFn := ⟨32, [], f50m G⟩

theorem f50_c (G : Nat → AVal) : cmpFn Try.prog G [] 50 = some (f50 G) := by kernel_rfl

def f51b0 (G : Nat → AVal) : MC :=
  .seq (.seq (.draw (.rd [⟨0, ⟨some 17, none, .op (.mv 7)⟩, false, false⟩,
     ⟨1, ⟨some 18, none, .op (.mv 2)⟩, false, false⟩,
     ⟨2, ⟨some 19, none, .op (.bin .lss .int 17 18)⟩, false, false⟩,
     ⟨3, ⟨some 20, none, .op (.mv 19)⟩, false, false⟩,
     ⟨4, ⟨some 21, some (20, true), .op (.mv 0)⟩, false, false⟩,
     ⟨5, ⟨some 22, some (20, true), .op (.mv 7)⟩, false, false⟩,
     ⟨6, ⟨some 23, some (20, true), .op (.iaddr 1 21 22)⟩, false, false⟩,
     ⟨7, ⟨some 24, some (20, true), .op (.load false 1 23)⟩, false, false⟩,
     ⟨8, ⟨some 25, some (20, true), .op (.mv 0)⟩, false, false⟩,
     ⟨9, ⟨some 26, some (20, true), .op (.mv 7)⟩, false, false⟩,
     ⟨10, ⟨some 27, some (20, true), .op (.bin .sub .int 26 (.val (.int 1)))⟩, false, false⟩,
     ⟨11, ⟨some 28, some (20, true), .op (.iaddr 1 25 27)⟩, false, false⟩,
     ⟨12, ⟨some 29, some (20, true), .op (.load false 1 28)⟩, false, false⟩]
   (.ef ⟨13, ⟨some 30, some (20, true), .call 52 [24, 29]⟩, true, false⟩ []
   (.rd [⟨14, ⟨some 31, some (20, true), .op (.un .not 30)⟩, false, false⟩,
     ⟨15, ⟨some 32, none, .op (.pick 20 31 (.val (.bool false)))⟩, false, false⟩]
   (.nil)))))
  (.cond 32
   (.skip)
   (.exit 2)))
  (.block 3
   (.ops [⟨some 33, none, .op (.mv 7)⟩,
     ⟨some 34, none, .op (.bin .add .int 33 (.val (.int 1)))⟩,
     ⟨some 7, none, .op (.mv 34)⟩]))

def f51b1 (G : Nat → AVal) : MC :=
  .seq (.seq (.ops [⟨some 64, none, .op (.mv 9)⟩,
    ⟨some 65, none, .op (.bin .geq .int 64 (.val (.int 1)))⟩])
  (.cond 65
   (.skip)
   (.exit 4)))
  (.seq (.block 5
   (.seq (.seq (.draw (.rd [⟨0, ⟨some 68, none, .op (.mv 0)⟩, false, false⟩,
      ⟨1, ⟨some 69, none, .op (.mv 9)⟩, false, false⟩,
      ⟨2, ⟨some 70, none, .op (.iaddr 1 68 69)⟩, false, false⟩,
      ⟨3, ⟨some 71, none, .op (.load false 1 70)⟩, false, false⟩,
      ⟨4, ⟨some 72, none, .op (.mv 0)⟩, false, false⟩,
      ⟨5, ⟨some 73, none, .op (.mv 9)⟩, false, false⟩,
      ⟨6, ⟨some 74, none, .op (.bin .sub .int 73 (.val (.int 1)))⟩, false, false⟩,
      ⟨7, ⟨some 75, none, .op (.iaddr 1 72 74)⟩, false, false⟩,
      ⟨8, ⟨some 76, none, .op (.load false 1 75)⟩, false, false⟩]
    (.ef ⟨9, ⟨some 77, none, .call 52 [71, 76]⟩, true, false⟩ []
    (.rd [⟨10, ⟨some 78, none, .op (.un .not 77)⟩, false, false⟩]
    (.nil)))))
   (.cond 78
    (.exit 4)
    (.skip)))
   (.draw (.rd [⟨0, ⟨some 79, none, .op (.mv 0)⟩, false, false⟩,
      ⟨1, ⟨some 80, none, .op (.mv 9)⟩, false, false⟩,
      ⟨2, ⟨some 81, none, .op (.mv 0)⟩, false, true⟩,
      ⟨3, ⟨some 82, none, .op (.mv 9)⟩, false, true⟩,
      ⟨4, ⟨some 83, none, .op (.bin .sub .int 82 (.val (.int 1)))⟩, false, true⟩,
      ⟨5, ⟨some 84, none, .op (.mv 0)⟩, false, false⟩,
      ⟨6, ⟨some 85, none, .op (.mv 9)⟩, false, false⟩,
      ⟨7, ⟨some 86, none, .op (.bin .sub .int 85 (.val (.int 1)))⟩, false, false⟩,
      ⟨8, ⟨some 87, none, .op (.iaddr 1 84 86)⟩, false, false⟩,
      ⟨9, ⟨some 88, none, .op (.load false 1 87)⟩, false, false⟩,
      ⟨10, ⟨some 89, none, .op (.mv 0)⟩, false, false⟩,
      ⟨11, ⟨some 90, none, .op (.mv 9)⟩, false, false⟩,
      ⟨12, ⟨some 91, none, .op (.iaddr 1 89 90)⟩, false, false⟩,
      ⟨13, ⟨some 92, none, .op (.load false 1 91)⟩, false, false⟩,
      ⟨14, ⟨some 93, none, .op (.iaddr 1 79 80)⟩, false, false⟩]
    (.ef ⟨15, ⟨none, none, .op (.store false 1 93 88)⟩, true, false⟩ [2, 3, 4]
    (.rd [⟨16, ⟨some 94, none, .op (.iaddr 1 81 83)⟩, false, false⟩]
    (.ef ⟨17, ⟨none, none, .op (.store false 1 94 92)⟩, true, false⟩ []
    (.nil))))))))
  (.ops [⟨some 66, none, .op (.mv 9)⟩,
    ⟨some 67, none, .op (.bin .sub .int 66 (.val (.int 1)))⟩,
    ⟨some 9, none, .op (.mv 67)⟩]))

def f51b2 (G : Nat → AVal) : MC :=
  .seq (.seq (.ops [⟨some 101, none, .op (.mv 10)⟩,
    ⟨some 102, none, .op (.mv 2)⟩,
    ⟨some 103, none, .op (.bin .lss .int 101 102)⟩])
  (.cond 103
   (.skip)
   (.exit 6)))
  (.seq (.block 7
   (.seq (.seq (.draw (.rd [⟨0, ⟨some 106, none, .op (.mv 0)⟩, false, false⟩,
      ⟨1, ⟨some 107, none, .op (.mv 10)⟩, false, false⟩,
      ⟨2, ⟨some 108, none, .op (.iaddr 1 106 107)⟩, false, false⟩,
      ⟨3, ⟨some 109, none, .op (.load false 1 108)⟩, false, false⟩,
      ⟨4, ⟨some 110, none, .op (.mv 0)⟩, false, false⟩,
      ⟨5, ⟨some 111, none, .op (.mv 10)⟩, false, false⟩,
      ⟨6, ⟨some 112, none, .op (.bin .sub .int 111 (.val (.int 1)))⟩, false, false⟩,
      ⟨7, ⟨some 113, none, .op (.iaddr 1 110 112)⟩, false, false⟩,
      ⟨8, ⟨some 114, none, .op (.load false 1 113)⟩, false, false⟩]
    (.ef ⟨9, ⟨some 115, none, .call 52 [109, 114]⟩, true, false⟩ []
    (.rd [⟨10, ⟨some 116, none, .op (.un .not 115)⟩, false, false⟩]
    (.nil)))))
   (.cond 116
    (.exit 6)
    (.skip)))
   (.draw (.rd [⟨0, ⟨some 117, none, .op (.mv 0)⟩, false, false⟩,
      ⟨1, ⟨some 118, none, .op (.mv 10)⟩, false, false⟩,
      ⟨2, ⟨some 119, none, .op (.mv 0)⟩, false, true⟩,
      ⟨3, ⟨some 120, none, .op (.mv 10)⟩, false, true⟩,
      ⟨4, ⟨some 121, none, .op (.bin .sub .int 120 (.val (.int 1)))⟩, false, true⟩,
      ⟨5, ⟨some 122, none, .op (.mv 0)⟩, false, false⟩,
      ⟨6, ⟨some 123, none, .op (.mv 10)⟩, false, false⟩,
      ⟨7, ⟨some 124, none, .op (.bin .sub .int 123 (.val (.int 1)))⟩, false, false⟩,
      ⟨8, ⟨some 125, none, .op (.iaddr 1 122 124)⟩, false, false⟩,
      ⟨9, ⟨some 126, none, .op (.load false 1 125)⟩, false, false⟩,
      ⟨10, ⟨some 127, none, .op (.mv 0)⟩, false, false⟩,
      ⟨11, ⟨some 128, none, .op (.mv 10)⟩, false, false⟩,
      ⟨12, ⟨some 129, none, .op (.iaddr 1 127 128)⟩, false, false⟩,
      ⟨13, ⟨some 130, none, .op (.load false 1 129)⟩, false, false⟩,
      ⟨14, ⟨some 131, none, .op (.iaddr 1 117 118)⟩, false, false⟩]
    (.ef ⟨15, ⟨none, none, .op (.store false 1 131 126)⟩, true, false⟩ [2, 3, 4]
    (.rd [⟨16, ⟨some 132, none, .op (.iaddr 1 119 121)⟩, false, false⟩]
    (.ef ⟨17, ⟨none, none, .op (.store false 1 132 130)⟩, true, false⟩ []
    (.nil))))))))
  (.ops [⟨some 104, none, .op (.mv 10)⟩,
    ⟨some 105, none, .op (.bin .add .int 104 (.val (.int 1)))⟩,
    ⟨some 10, none, .op (.mv 105)⟩]))

def f51b3 (G : Nat → AVal) : MC :=
  .seq (.seq (.ops [⟨some 13, none, .op (.mv 8)⟩,
    ⟨some 14, none, .op (.bin .lss .int 13 (.val (.int 5)))⟩])
  (.cond 14
   (.skip)
   (.exit 0)))
  (.seq (.block 1
   (.seq (.block 2
    (.loop (f51b0 G)))
   (.seq (.seq (.ops [⟨some 35, none, .op (.mv 7)⟩,
     ⟨some 36, none, .op (.mv 2)⟩,
     ⟨some 37, none, .op (.bin .eql .int 35 36)⟩])
   (.cond 37
    (.seq (.ops [⟨some 6, none, .op (.mv (.val (.bool true)))⟩])
    (.ret))
    (.skip)))
   (.seq (.seq (.ops [⟨some 38, none, .op (.mv 2)⟩,
     ⟨some 39, none, .op (.mv 1)⟩,
     ⟨some 40, none, .op (.bin .sub .int 38 39)⟩,
     ⟨some 41, none, .op (.bin .lss .int 40 (.val (.int 50)))⟩])
   (.cond 41
    (.seq (.ops [⟨some 6, none, .op (.mv (.val (.bool false)))⟩])
    (.ret))
    (.skip)))
   (.seq (.draw (.rd [⟨0, ⟨some 42, none, .op (.mv 0)⟩, false, false⟩,
      ⟨1, ⟨some 43, none, .op (.mv 7)⟩, false, false⟩,
      ⟨2, ⟨some 44, none, .op (.mv 0)⟩, false, true⟩,
      ⟨3, ⟨some 45, none, .op (.mv 7)⟩, false, true⟩,
      ⟨4, ⟨some 46, none, .op (.bin .sub .int 45 (.val (.int 1)))⟩, false, true⟩,
      ⟨5, ⟨some 47, none, .op (.mv 0)⟩, false, false⟩,
      ⟨6, ⟨some 48, none, .op (.mv 7)⟩, false, false⟩,
      ⟨7, ⟨some 49, none, .op (.bin .sub .int 48 (.val (.int 1)))⟩, false, false⟩,
      ⟨8, ⟨some 50, none, .op (.iaddr 1 47 49)⟩, false, false⟩,
      ⟨9, ⟨some 51, none, .op (.load false 1 50)⟩, false, false⟩,
      ⟨10, ⟨some 52, none, .op (.mv 0)⟩, false, false⟩,
      ⟨11, ⟨some 53, none, .op (.mv 7)⟩, false, false⟩,
      ⟨12, ⟨some 54, none, .op (.iaddr 1 52 53)⟩, false, false⟩,
      ⟨13, ⟨some 55, none, .op (.load false 1 54)⟩, false, false⟩,
      ⟨14, ⟨some 56, none, .op (.iaddr 1 42 43)⟩, false, false⟩]
    (.ef ⟨15, ⟨none, none, .op (.store false 1 56 51)⟩, true, false⟩ [2, 3, 4]
    (.rd [⟨16, ⟨some 57, none, .op (.iaddr 1 44 46)⟩, false, false⟩]
    (.ef ⟨17, ⟨none, none, .op (.store false 1 57 55)⟩, true, false⟩ []
    (.nil))))))
   (.seq (.seq (.ops [⟨some 58, none, .op (.mv 7)⟩,
     ⟨some 59, none, .op (.mv 1)⟩,
     ⟨some 60, none, .op (.bin .sub .int 58 59)⟩,
     ⟨some 61, none, .op (.bin .geq .int 60 (.val (.int 2)))⟩])
   (.cond 61
    (.seq (.ops [⟨some 62, none, .op (.mv 7)⟩,
      ⟨some 63, none, .op (.bin .sub .int 62 (.val (.int 1)))⟩,
      ⟨some 9, none, .op (.mv 63)⟩])
    (.block 4
     (.loop (f51b1 G))))
    (.skip)))
   (.seq (.ops [⟨some 95, none, .op (.mv 2)⟩,
     ⟨some 96, none, .op (.mv 7)⟩,
     ⟨some 97, none, .op (.bin .sub .int 95 96)⟩,
     ⟨some 98, none, .op (.bin .geq .int 97 (.val (.int 2)))⟩])
   (.cond 98
    (.seq (.ops [⟨some 99, none, .op (.mv 7)⟩,
      ⟨some 100, none, .op (.bin .add .int 99 (.val (.int 1)))⟩,
      ⟨some 10, none, .op (.mv 100)⟩])
    (.block 6
     (.loop (f51b2 G))))
    (.skip)))))))))
  (.ops [⟨some 15, none, .op (.mv 8)⟩,
    ⟨some 16, none, .op (.bin .add .int 15 (.val (.int 1)))⟩,
    ⟨some 8, none, .op (.mv 16)⟩]))

def f51m (G : Nat → AVal) : MC :=
  .seq (.ops [⟨some 6, none, .op (.mv (.val (.bool false)))⟩])
  (.seq (.ops [⟨some 11, none, .op (.mv 1)⟩,
    ⟨some 12, none, .op (.bin .add .int 11 (.val (.int 1)))⟩,
    ⟨some 7, none, .op (.mv 12)⟩])
  (.seq (.seq (.ops [⟨some 8, none, .op (.mv (.val (.int 0)))⟩])
  (.block 0
   (.loop (f51b3 G))))
  (.seq (.ops [⟨some 6, none, .op (.mv (.val (.bool false)))⟩])
  (.ret))))
def f51 (G : Nat → AVal) : AFn := ⟨133, [.tmp 6], f51m G⟩

theorem f51_c (G : Nat → AVal) : cmpFn Try.prog G [] 51 = some (f51 G) := by kernel_rfl


def f52m (G : Nat → AVal) : MC :=
  .seq (.ops [⟨some 4, none, .op (.mv (.val (.bool false)))⟩])
  (.seq (.ops [⟨some 5, none, .op (.mv 0)⟩,
    ⟨some 6, none, .call 62 [5]⟩,
    ⟨some 7, none, .op (.mv 6)⟩,
    ⟨some 8, some (7, true), .op (.mv 1)⟩,
    ⟨some 9, some (7, true), .call 62 [8]⟩,
    ⟨some 10, some (7, true), .op (.un .not 9)⟩,
    ⟨some 11, none, .op (.pick 7 10 (.val (.bool false)))⟩,
    ⟨some 12, none, .op (.mv 11)⟩,
    ⟨some 13, some (12, false), .op (.mv 0)⟩,
    ⟨some 14, some (12, false), .op (.mv 1)⟩,
    ⟨some 15, some (12, false), .op (.bin .lss .int 13 14)⟩,
    ⟨some 16, none, .op (.pick 12 (.val (.bool true)) 15)⟩,
    ⟨some 4, none, .op (.mv 16)⟩])
  (.ret))
def f52 (G : Nat → AVal) : AFn := ⟨17, [.tmp 4], f52m G⟩

theorem f52_c (G : Nat → AVal) : cmpFn Try.prog G [] 52 = some (f52 G) := by kernel_rfl

def f53b0 (G : Nat → AVal) : MC :=
  .seq (.seq (.draw (.rd [⟨0, ⟨some 29, none, .op (.mv 9)⟩, false, false⟩,
     ⟨1, ⟨some 30, none, .op (.mv 10)⟩, false, false⟩,
     ⟨2, ⟨some 31, none, .op (.bin .leq .int 29 30)⟩, false, false⟩,
     ⟨3, ⟨some 32, none, .op (.mv 31)⟩, false, false⟩,
     ⟨4, ⟨some 33, some (32, true), .op (.mv 0)⟩, false, false⟩,
     ⟨5, ⟨some 34, some (32, true), .op (.mv 1)⟩, false, false⟩,
     ⟨6, ⟨some 35, some (32, true), .op (.iaddr 1 33 34)⟩, false, false⟩,
     ⟨7, ⟨some 36, some (32, true), .op (.load false 1 35)⟩, false, false⟩,
     ⟨8, ⟨some 37, some (32, true), .op (.mv 0)⟩, false, false⟩,
     ⟨9, ⟨some 38, some (32, true), .op (.mv 9)⟩, false, false⟩,
     ⟨10, ⟨some 39, some (32, true), .op (.iaddr 1 37 38)⟩, false, false⟩,
     ⟨11, ⟨some 40, some (32, true), .op (.load false 1 39)⟩, false, false⟩]
   (.ef ⟨12, ⟨some 41, some (32, true), .call 52 [36, 40]⟩, true, false⟩ []
   (.rd [⟨13, ⟨some 42, some (32, true), .op (.un .not 41)⟩, false, false⟩,
     ⟨14, ⟨some 43, none, .op (.pick 32 42 (.val (.bool false)))⟩, false, false⟩]
   (.nil)))))
  (.cond 43
   (.skip)
   (.exit 2)))
  (.block 3
   (.ops [⟨some 44, none, .op (.mv 9)⟩,
     ⟨some 45, none, .op (.bin .add .int 44 (.val (.int 1)))⟩,
     ⟨some 9, none, .op (.mv 45)⟩]))

def f53b1 (G : Nat → AVal) : MC :=
  .seq (.seq (.draw (.rd [⟨0, ⟨some 46, none, .op (.mv 9)⟩, false, false⟩,
     ⟨1, ⟨some 47, none, .op (.mv 10)⟩, false, false⟩,
     ⟨2, ⟨some 48, none, .op (.bin .leq .int 46 47)⟩, false, false⟩,
     ⟨3, ⟨some 49, none, .op (.mv 48)⟩, false, false⟩,
     ⟨4, ⟨some 50, some (49, true), .op (.mv 0)⟩, false, false⟩,
     ⟨5, ⟨some 51, some (49, true), .op (.mv 1)⟩, false, false⟩,
     ⟨6, ⟨some 52, some (49, true), .op (.iaddr 1 50 51)⟩, false, false⟩,
     ⟨7, ⟨some 53, some (49, true), .op (.load false 1 52)⟩, false, false⟩,
     ⟨8, ⟨some 54, some (49, true), .op (.mv 0)⟩, false, false⟩,
     ⟨9, ⟨some 55, some (49, true), .op (.mv 10)⟩, false, false⟩,
     ⟨10, ⟨some 56, some (49, true), .op (.iaddr 1 54 55)⟩, false, false⟩,
     ⟨11, ⟨some 57, some (49, true), .op (.load false 1 56)⟩, false, false⟩]
   (.ef ⟨12, ⟨some 58, some (49, true), .call 52 [53, 57]⟩, true, false⟩ []
   (.rd [⟨13, ⟨some 59, none, .op (.pick 49 58 (.val (.bool false)))⟩, false, false⟩]
   (.nil)))))
  (.cond 59
   (.skip)
   (.exit 4)))
  (.block 5
   (.ops [⟨some 60, none, .op (.mv 10)⟩,
     ⟨some 61, none, .op (.bin .sub .int 60 (.val (.int 1)))⟩,
     ⟨some 10, none, .op (.mv 61)⟩]))

def f53b2 (G : Nat → AVal) : MC :=
  .block 1
   (.seq (.block 2
    (.loop (f53b0 G)))
   (.seq (.block 4
    (.loop (f53b1 G)))
   (.seq (.seq (.ops [⟨some 62, none, .op (.mv 9)⟩,
     ⟨some 63, none, .op (.mv 10)⟩,
     ⟨some 64, none, .op (.bin .gtr .int 62 63)⟩])
   (.cond 64
    (.exit 0)
    (.skip)))
   (.seq (.draw (.rd [⟨0, ⟨some 65, none, .op (.mv 0)⟩, false, false⟩,
      ⟨1, ⟨some 66, none, .op (.mv 9)⟩, false, false⟩,
      ⟨2, ⟨some 67, none, .op (.mv 0)⟩, false, true⟩,
      ⟨3, ⟨some 68, none, .op (.mv 10)⟩, false, true⟩,
      ⟨4, ⟨some 69, none, .op (.mv 0)⟩, false, false⟩,
      ⟨5, ⟨some 70, none, .op (.mv 10)⟩, false, false⟩,
      ⟨6, ⟨some 71, none, .op (.iaddr 1 69 70)⟩, false, false⟩,
      ⟨7, ⟨some 72, none, .op (.load false 1 71)⟩, false, false⟩,
      ⟨8, ⟨some 73, none, .op (.mv 0)⟩, false, false⟩,
      ⟨9, ⟨some 74, none, .op (.mv 9)⟩, false, false⟩,
      ⟨10, ⟨some 75, none, .op (.iaddr 1 73 74)⟩, false, false⟩,
      ⟨11, ⟨some 76, none, .op (.load false 1 75)⟩, false, false⟩,
      ⟨12, ⟨some 77, none, .op (.iaddr 1 65 66)⟩, false, false⟩]
    (.ef ⟨13, ⟨none, none, .op (.store false 1 77 72)⟩, true, false⟩ [2, 3]
    (.rd [⟨14, ⟨some 78, none, .op (.iaddr 1 67 68)⟩, false, false⟩]
    (.ef ⟨15, ⟨none, none, .op (.store false 1 78 76)⟩, true, false⟩ []
    (.nil))))))
   (.seq (.ops [⟨some 79, none, .op (.mv 9)⟩,
     ⟨some 80, none, .op (.bin .add .int 79 (.val (.int 1)))⟩,
     ⟨some 9, none, .op (.mv 80)⟩])
   (.ops [⟨some 81, none, .op (.mv 10)⟩,
     ⟨some 82, none, .op (.bin .sub .int 81 (.val (.int 1)))⟩,
     ⟨some 10, none, .op (.mv 82)⟩]))))))

def f53m (G : Nat → AVal) : MC :=
  .seq (.ops [⟨some 8, none, .op (.mv (.val (.int 0)))⟩])
  (.seq (.draw (.rd [⟨0, ⟨some 11, none, .op (.mv 0)⟩, false, false⟩,
     ⟨1, ⟨some 12, none, .op (.mv 1)⟩, false, false⟩,
     ⟨2, ⟨some 13, none, .op (.mv 0)⟩, false, true⟩,
     ⟨3, ⟨some 14, none, .op (.mv 3)⟩, false, true⟩,
     ⟨4, ⟨some 15, none, .op (.mv 0)⟩, false, false⟩,
     ⟨5, ⟨some 16, none, .op (.mv 3)⟩, false, false⟩,
     ⟨6, ⟨some 17, none, .op (.iaddr 1 15 16)⟩, false, false⟩,
     ⟨7, ⟨some 18, none, .op (.load false 1 17)⟩, false, false⟩,
     ⟨8, ⟨some 19, none, .op (.mv 0)⟩, false, false⟩,
     ⟨9, ⟨some 20, none, .op (.mv 1)⟩, false, false⟩,
     ⟨10, ⟨some 21, none, .op (.iaddr 1 19 20)⟩, false, false⟩,
     ⟨11, ⟨some 22, none, .op (.load false 1 21)⟩, false, false⟩,
     ⟨12, ⟨some 23, none, .op (.iaddr 1 11 12)⟩, false, false⟩]
   (.ef ⟨13, ⟨none, none, .op (.store false 1 23 18)⟩, true, false⟩ [2, 3]
   (.rd [⟨14, ⟨some 24, none, .op (.iaddr 1 13 14)⟩, false, false⟩]
   (.ef ⟨15, ⟨none, none, .op (.store false 1 24 22)⟩, true, false⟩ []
   (.nil))))))
  (.seq (.ops [⟨some 25, none, .op (.mv 1)⟩,
    ⟨some 26, none, .op (.bin .add .int 25 (.val (.int 1)))⟩,
    ⟨some 27, none, .op (.mv 2)⟩,
    ⟨some 28, none, .op (.bin .sub .int 27 (.val (.int 1)))⟩,
    ⟨some 9, none, .op (.mv 26)⟩,
    ⟨some 10, none, .op (.mv 28)⟩])
  (.seq (.block 0
   (.loop (f53b2 G)))
  (.seq (.ops [⟨some 83, none, .op (.mv 9)⟩,
    ⟨some 8, none, .op (.mv 83)⟩])
  (.ret)))))
def f53 (G : Nat → AVal) : AFn := ⟨84, [.tmp 8], f53m G⟩

theorem f53_c (G : Nat → AVal) : cmpFn Try.prog G [] 53 = some (f53 G) := by kernel_rfl

def f54b0 (G : Nat → AVal) : MC :=
  .seq (.seq (.draw (.rd [⟨0, ⟨some 30, none, .op (.mv 10)⟩, false, false⟩,
     ⟨1, ⟨some 31, none, .op (.mv 11)⟩, false, false⟩,
     ⟨2, ⟨some 32, none, .op (.bin .leq .int 30 31)⟩, false, false⟩,
     ⟨3, ⟨some 33, none, .op (.mv 32)⟩, false, false⟩,
     ⟨4, ⟨some 34, some (33, true), .op (.mv 0)⟩, false, false⟩,
     ⟨5, ⟨some 35, some (33, true), .op (.mv 10)⟩, false, false⟩,
     ⟨6, ⟨some 36, some (33, true), .op (.iaddr 1 34 35)⟩, false, false⟩,
     ⟨7, ⟨some 37, some (33, true), .op (.load false 1 36)⟩, false, false⟩,
     ⟨8, ⟨some 38, some (33, true), .op (.mv 0)⟩, false, false⟩,
     ⟨9, ⟨some 39, some (33, true), .op (.mv 1)⟩, false, false⟩,
     ⟨10, ⟨some 40, some (33, true), .op (.iaddr 1 38 39)⟩, false, false⟩,
     ⟨11, ⟨some 41, some (33, true), .op (.load false 1 40)⟩, false, false⟩]
   (.ef ⟨12, ⟨some 42, some (33, true), .call 52 [37, 41]⟩, true, false⟩ []
   (.rd [⟨13, ⟨some 43, none, .op (.pick 33 42 (.val (.bool false)))⟩, false, false⟩]
   (.nil)))))
  (.cond 43
   (.skip)
   (.exit 0)))
  (.block 1
   (.ops [⟨some 44, none, .op (.mv 10)⟩,
     ⟨some 45, none, .op (.bin .add .int 44 (.val (.int 1)))⟩,
     ⟨some 10, none, .op (.mv 45)⟩]))

def f54b1 (G : Nat → AVal) : MC :=
  .seq (.seq (.draw (.rd [⟨0, ⟨some 46, none, .op (.mv 10)⟩, false, false⟩,
     ⟨1, ⟨some 47, none, .op (.mv 11)⟩, false, false⟩,
     ⟨2, ⟨some 48, none, .op (.bin .leq .int 46 47)⟩, false, false⟩,
     ⟨3, ⟨some 49, none, .op (.mv 48)⟩, false, false⟩,
     ⟨4, ⟨some 50, some (49, true), .op (.mv 0)⟩, false, false⟩,
     ⟨5, ⟨some 51, some (49, true), .op (.mv 11)⟩, false, false⟩,
     ⟨6, ⟨some 52, some (49, true), .op (.iaddr 1 50 51)⟩, false, false⟩,
     ⟨7, ⟨some 53, some (49, true), .op (.load false 1 52)⟩, false, false⟩,
     ⟨8, ⟨some 54, some (49, true), .op (.mv 0)⟩, false, false⟩,
     ⟨9, ⟨some 55, some (49, true), .op (.mv 1)⟩, false, false⟩,
     ⟨10, ⟨some 56, some (49, true), .op (.iaddr 1 54 55)⟩, false, false⟩,
     ⟨11, ⟨some 57, some (49, true), .op (.load false 1 56)⟩, false, false⟩]
   (.ef ⟨12, ⟨some 58, some (49, true), .call 52 [53, 57]⟩, true, false⟩ []
   (.rd [⟨13, ⟨some 59, some (49, true), .op (.un .not 58)⟩, false, false⟩,
     ⟨14, ⟨some 60, none, .op (.pick 49 59 (.val (.bool false)))⟩, false, false⟩]
   (.nil)))))
  (.cond 60
   (.skip)
   (.exit 2)))
  (.block 3
   (.ops [⟨some 61, none, .op (.mv 11)⟩,
     ⟨some 62, none, .op (.bin .sub .int 61 (.val (.int 1)))⟩,
     ⟨some 11, none, .op (.mv 62)⟩]))

def f54b2 (G : Nat → AVal) : MC :=
  .seq (.seq (.draw (.rd [⟨0, ⟨some 99, none, .op (.mv 10)⟩, false, false⟩,
     ⟨1, ⟨some 100, none, .op (.mv 11)⟩, false, false⟩,
     ⟨2, ⟨some 101, none, .op (.bin .leq .int 99 100)⟩, false, false⟩,
     ⟨3, ⟨some 102, none, .op (.mv 101)⟩, false, false⟩,
     ⟨4, ⟨some 103, some (102, true), .op (.mv 0)⟩, false, false⟩,
     ⟨5, ⟨some 104, some (102, true), .op (.mv 10)⟩, false, false⟩,
     ⟨6, ⟨some 105, some (102, true), .op (.iaddr 1 103 104)⟩, false, false⟩,
     ⟨7, ⟨some 106, some (102, true), .op (.load false 1 105)⟩, false, false⟩,
     ⟨8, ⟨some 107, some (102, true), .op (.mv 0)⟩, false, false⟩,
     ⟨9, ⟨some 108, some (102, true), .op (.mv 1)⟩, false, false⟩,
     ⟨10, ⟨some 109, some (102, true), .op (.iaddr 1 107 108)⟩, false, false⟩,
     ⟨11, ⟨some 110, some (102, true), .op (.load false 1 109)⟩, false, false⟩]
   (.ef ⟨12, ⟨some 111, some (102, true), .call 52 [106, 110]⟩, true, false⟩ []
   (.rd [⟨13, ⟨some 112, none, .op (.pick 102 111 (.val (.bool false)))⟩, false, false⟩]
   (.nil)))))
  (.cond 112
   (.skip)
   (.exit 6)))
  (.block 7
   (.ops [⟨some 113, none, .op (.mv 10)⟩,
     ⟨some 114, none, .op (.bin .add .int 113 (.val (.int 1)))⟩,
     ⟨some 10, none, .op (.mv 114)⟩]))

def f54b3 (G : Nat → AVal) : MC :=
  .seq (.seq (.draw (.rd [⟨0, ⟨some 115, none, .op (.mv 10)⟩, false, false⟩,
     ⟨1, ⟨some 116, none, .op (.mv 11)⟩, false, false⟩,
     ⟨2, ⟨some 117, none, .op (.bin .leq .int 115 116)⟩, false, false⟩,
     ⟨3, ⟨some 118, none, .op (.mv 117)⟩, false, false⟩,
     ⟨4, ⟨some 119, some (118, true), .op (.mv 0)⟩, false, false⟩,
     ⟨5, ⟨some 120, some (118, true), .op (.mv 11)⟩, false, false⟩,
     ⟨6, ⟨some 121, some (118, true), .op (.iaddr 1 119 120)⟩, false, false⟩,
     ⟨7, ⟨some 122, some (118, true), .op (.load false 1 121)⟩, false, false⟩,
     ⟨8, ⟨some 123, some (118, true), .op (.mv 0)⟩, false, false⟩,
     ⟨9, ⟨some 124, some (118, true), .op (.mv 1)⟩, false, false⟩,
     ⟨10, ⟨some 125, some (118, true), .op (.iaddr 1 123 124)⟩, false, false⟩,
     ⟨11, ⟨some 126, some (118, true), .op (.load false 1 125)⟩, false, false⟩]
   (.ef ⟨12, ⟨some 127, some (118, true), .call 52 [122, 126]⟩, true, false⟩ []
   (.rd [⟨13, ⟨some 128, some (118, true), .op (.un .not 127)⟩, false, false⟩,
     ⟨14, ⟨some 129, none, .op (.pick 118 128 (.val (.bool false)))⟩, false, false⟩]
   (.nil)))))
  (.cond 129
   (.skip)
   (.exit 8)))
  (.block 9
   (.ops [⟨some 130, none, .op (.mv 11)⟩,
     ⟨some 131, none, .op (.bin .sub .int 130 (.val (.int 1)))⟩,
     ⟨some 11, none, .op (.mv 131)⟩]))

def f54b4 (G : Nat → AVal) : MC :=
  .block 5
   (.seq (.block 6
    (.loop (f54b2 G)))
   (.seq (.block 8
    (.loop (f54b3 G)))
   (.seq (.seq (.ops [⟨some 132, none, .op (.mv 10)⟩,
     ⟨some 133, none, .op (.mv 11)⟩,
     ⟨some 134, none, .op (.bin .gtr .int 132 133)⟩])
   (.cond 134
    (.exit 4)
    (.skip)))
   (.seq (.draw (.rd [⟨0, ⟨some 135, none, .op (.mv 0)⟩, false, false⟩,
      ⟨1, ⟨some 136, none, .op (.mv 10)⟩, false, false⟩,
      ⟨2, ⟨some 137, none, .op (.mv 0)⟩, false, true⟩,
      ⟨3, ⟨some 138, none, .op (.mv 11)⟩, false, true⟩,
      ⟨4, ⟨some 139, none, .op (.mv 0)⟩, false, false⟩,
      ⟨5, ⟨some 140, none, .op (.mv 11)⟩, false, false⟩,
      ⟨6, ⟨some 141, none, .op (.iaddr 1 139 140)⟩, false, false⟩,
      ⟨7, ⟨some 142, none, .op (.load false 1 141)⟩, false, false⟩,
      ⟨8, ⟨some 143, none, .op (.mv 0)⟩, false, false⟩,
      ⟨9, ⟨some 144, none, .op (.mv 10)⟩, false, false⟩,
      ⟨10, ⟨some 145, none, .op (.iaddr 1 143 144)⟩, false, false⟩,
      ⟨11, ⟨some 146, none, .op (.load false 1 145)⟩, false, false⟩,
      ⟨12, ⟨some 147, none, .op (.iaddr 1 135 136)⟩, false, false⟩]
    (.ef ⟨13, ⟨none, none, .op (.store false 1 147 142)⟩, true, false⟩ [2, 3]
    (.rd [⟨14, ⟨some 148, none, .op (.iaddr 1 137 138)⟩, false, false⟩]
    (.ef ⟨15, ⟨none, none, .op (.store false 1 148 146)⟩, true, false⟩ []
    (.nil))))))
   (.seq (.ops [⟨some 149, none, .op (.mv 10)⟩,
     ⟨some 150, none, .op (.bin .add .int 149 (.val (.int 1)))⟩,
     ⟨some 10, none, .op (.mv 150)⟩])
   (.ops [⟨some 151, none, .op (.mv 11)⟩,
     ⟨some 152, none, .op (.bin .sub .int 151 (.val (.int 1)))⟩,
     ⟨some 11, none, .op (.mv 152)⟩]))))))

def f54m (G : Nat → AVal) : MC :=
  .seq (.ops [⟨some 8, none, .op (.mv (.val (.int 0)))⟩,
    ⟨some 9, none, .op (.mv (.val (.bool false)))⟩])
  (.seq (.draw (.rd [⟨0, ⟨some 12, none, .op (.mv 0)⟩, false, false⟩,
     ⟨1, ⟨some 13, none, .op (.mv 1)⟩, false, false⟩,
     ⟨2, ⟨some 14, none, .op (.mv 0)⟩, false, true⟩,
     ⟨3, ⟨some 15, none, .op (.mv 3)⟩, false, true⟩,
     ⟨4, ⟨some 16, none, .op (.mv 0)⟩, false, false⟩,
     ⟨5, ⟨some 17, none, .op (.mv 3)⟩, false, false⟩,
     ⟨6, ⟨some 18, none, .op (.iaddr 1 16 17)⟩, false, false⟩,
     ⟨7, ⟨some 19, none, .op (.load false 1 18)⟩, false, false⟩,
     ⟨8, ⟨some 20, none, .op (.mv 0)⟩, false, false⟩,
     ⟨9, ⟨some 21, none, .op (.mv 1)⟩, false, false⟩,
     ⟨10, ⟨some 22, none, .op (.iaddr 1 20 21)⟩, false, false⟩,
     ⟨11, ⟨some 23, none, .op (.load false 1 22)⟩, false, false⟩,
     ⟨12, ⟨some 24, none, .op (.iaddr 1 12 13)⟩, false, false⟩]
   (.ef ⟨13, ⟨none, none, .op (.store false 1 24 19)⟩, true, false⟩ [2, 3]
   (.rd [⟨14, ⟨some 25, none, .op (.iaddr 1 14 15)⟩, false, false⟩]
   (.ef ⟨15, ⟨none, none, .op (.store false 1 25 23)⟩, true, false⟩ []
   (.nil))))))
  (.seq (.ops [⟨some 26, none, .op (.mv 1)⟩,
    ⟨some 27, none, .op (.bin .add .int 26 (.val (.int 1)))⟩,
    ⟨some 28, none, .op (.mv 2)⟩,
    ⟨some 29, none, .op (.bin .sub .int 28 (.val (.int 1)))⟩,
    ⟨some 10, none, .op (.mv 27)⟩,
    ⟨some 11, none, .op (.mv 29)⟩])
  (.seq (.block 0
   (.loop (f54b0 G)))
  (.seq (.block 2
   (.loop (f54b1 G)))
  (.seq (.seq (.ops [⟨some 63, none, .op (.mv 10)⟩,
    ⟨some 64, none, .op (.mv 11)⟩,
    ⟨some 65, none, .op (.bin .gtr .int 63 64)⟩])
  (.cond 65
   (.seq (.draw (.rd [⟨0, ⟨some 66, none, .op (.mv 0)⟩, false, false⟩,
      ⟨1, ⟨some 67, none, .op (.mv 11)⟩, false, false⟩,
      ⟨2, ⟨some 68, none, .op (.mv 0)⟩, false, true⟩,
      ⟨3, ⟨some 69, none, .op (.mv 1)⟩, false, true⟩,
      ⟨4, ⟨some 70, none, .op (.mv 0)⟩, false, false⟩,
      ⟨5, ⟨some 71, none, .op (.mv 1)⟩, false, false⟩,
      ⟨6, ⟨some 72, none, .op (.iaddr 1 70 71)⟩, false, false⟩,
      ⟨7, ⟨some 73, none, .op (.load false 1 72)⟩, false, false⟩,
      ⟨8, ⟨some 74, none, .op (.mv 0)⟩, false, false⟩,
      ⟨9, ⟨some 75, none, .op (.mv 11)⟩, false, false⟩,
      ⟨10, ⟨some 76, none, .op (.iaddr 1 74 75)⟩, false, false⟩,
      ⟨11, ⟨some 77, none, .op (.load false 1 76)⟩, false, false⟩,
      ⟨12, ⟨some 78, none, .op (.iaddr 1 66 67)⟩, false, false⟩]
    (.ef ⟨13, ⟨none, none, .op (.store false 1 78 73)⟩, true, false⟩ [2, 3]
    (.rd [⟨14, ⟨some 79, none, .op (.iaddr 1 68 69)⟩, false, false⟩]
    (.ef ⟨15, ⟨none, none, .op (.store false 1 79 77)⟩, true, false⟩ []
    (.nil))))))
   (.seq (.ops [⟨some 80, none, .op (.mv 11)⟩,
     ⟨some 8, none, .op (.mv 80)⟩,
     ⟨some 9, none, .op (.mv (.val (.bool true)))⟩])
   (.ret)))
   (.skip)))
  (.seq (.draw (.rd [⟨0, ⟨some 81, none, .op (.mv 0)⟩, false, false⟩,
     ⟨1, ⟨some 82, none, .op (.mv 10)⟩, false, false⟩,
     ⟨2, ⟨some 83, none, .op (.mv 0)⟩, false, true⟩,
     ⟨3, ⟨some 84, none, .op (.mv 11)⟩, false, true⟩,
     ⟨4, ⟨some 85, none, .op (.mv 0)⟩, false, false⟩,
     ⟨5, ⟨some 86, none, .op (.mv 11)⟩, false, false⟩,
     ⟨6, ⟨some 87, none, .op (.iaddr 1 85 86)⟩, false, false⟩,
     ⟨7, ⟨some 88, none, .op (.load false 1 87)⟩, false, false⟩,
     ⟨8, ⟨some 89, none, .op (.mv 0)⟩, false, false⟩,
     ⟨9, ⟨some 90, none, .op (.mv 10)⟩, false, false⟩,
     ⟨10, ⟨some 91, none, .op (.iaddr 1 89 90)⟩, false, false⟩,
     ⟨11, ⟨some 92, none, .op (.load false 1 91)⟩, false, false⟩,
     ⟨12, ⟨some 93, none, .op (.iaddr 1 81 82)⟩, false, false⟩]
   (.ef ⟨13, ⟨none, none, .op (.store false 1 93 88)⟩, true, false⟩ [2, 3]
   (.rd [⟨14, ⟨some 94, none, .op (.iaddr 1 83 84)⟩, false, false⟩]
   (.ef ⟨15, ⟨none, none, .op (.store false 1 94 92)⟩, true, false⟩ []
   (.nil))))))
  (.seq (.ops [⟨some 95, none, .op (.mv 10)⟩,
    ⟨some 96, none, .op (.bin .add .int 95 (.val (.int 1)))⟩,
    ⟨some 10, none, .op (.mv 96)⟩])
  (.seq (.ops [⟨some 97, none, .op (.mv 11)⟩,
    ⟨some 98, none, .op (.bin .sub .int 97 (.val (.int 1)))⟩,
    ⟨some 11, none, .op (.mv 98)⟩])
  (.seq (.block 4
   (.loop (f54b4 G)))
  (.seq (.draw (.rd [⟨0, ⟨some 153, none, .op (.mv 0)⟩, false, false⟩,
     ⟨1, ⟨some 154, none, .op (.mv 11)⟩, false, false⟩,
     ⟨2, ⟨some 155, none, .op (.mv 0)⟩, false, true⟩,
     ⟨3, ⟨some 156, none, .op (.mv 1)⟩, false, true⟩,
     ⟨4, ⟨some 157, none, .op (.mv 0)⟩, false, false⟩,
     ⟨5, ⟨some 158, none, .op (.mv 1)⟩, false, false⟩,
     ⟨6, ⟨some 159, none, .op (.iaddr 1 157 158)⟩, false, false⟩,
     ⟨7, ⟨some 160, none, .op (.load false 1 159)⟩, false, false⟩,
     ⟨8, ⟨some 161, none, .op (.mv 0)⟩, false, false⟩,
     ⟨9, ⟨some 162, none, .op (.mv 11)⟩, false, false⟩,
     ⟨10, ⟨some 163, none, .op (.iaddr 1 161 162)⟩, false, false⟩,
     ⟨11, ⟨some 164, none, .op (.load false 1 163)⟩, false, false⟩,
     ⟨12, ⟨some 165, none, .op (.iaddr 1 153 154)⟩, false, false⟩]
   (.ef ⟨13, ⟨none, none, .op (.store false 1 165 160)⟩, true, false⟩ [2, 3]
   (.rd [⟨14, ⟨some 166, none, .op (.iaddr 1 155 156)⟩, false, false⟩]
   (.ef ⟨15, ⟨none, none, .op (.store false 1 166 164)⟩, true, false⟩ []
   (.nil))))))
  (.seq (.ops [⟨some 167, none, .op (.mv 11)⟩,
    ⟨some 8, none, .op (.mv 167)⟩,
    ⟨some 9, none, .op (.mv (.val (.bool false)))⟩])
  (.ret))))))))))))
def f54 (G : Nat → AVal) : AFn := ⟨168, [.tmp 8, .tmp 9], f54m G⟩

theorem f54_c (G : Nat → AVal) : cmpFn Try.prog G [] 54 = some (f54 G) := by kernel_rfl


def f55m (G : Nat → AVal) : MC :=
  .seq (.ops [⟨some 2, none, .op (.mv (.val (.int 0)))⟩])
  (.seq (.seq (.ops [⟨some 3, none, .op (.mv 0)⟩,
    ⟨some 4, none, .op (.bin .geq .int 3 (.val (.atom (.int .u32 65536))))⟩])
  (.cond 4
   (.seq (.ops [⟨some 5, none, .op (.mv 0)⟩,
     ⟨some 6, none, .op (.bin .shr .int 5 (.val (.atom (.int .u64 16))))⟩,
     ⟨some 0, none, .op (.mv 6)⟩])
   (.ops [⟨some 2, none, .op (.mv (.val (.int 16)))⟩]))
   (.skip)))
  (.seq (.seq (.ops [⟨some 7, none, .op (.mv 0)⟩,
    ⟨some 8, none, .op (.bin .geq .int 7 (.val (.atom (.int .u32 256))))⟩])
  (.cond 8
   (.seq (.ops [⟨some 9, none, .op (.mv 0)⟩,
     ⟨some 10, none, .op (.bin .shr .int 9 (.val (.atom (.int .u64 8))))⟩,
     ⟨some 0, none, .op (.mv 10)⟩])
   (.ops [⟨some 11, none, .op (.mv 2)⟩,
     ⟨some 12, none, .op (.bin .add .int 11 (.val (.int 8)))⟩,
     ⟨some 2, none, .op (.mv 12)⟩]))
   (.skip)))
  (.seq (.ops [⟨some 13, none, .op (.mv 2)⟩,
    ⟨some 14, none, .op (.mv 0)⟩,
    ⟨some 15, none, .op (.conv (.toInt .u8) 14)⟩,
    ⟨some 16, none, .op (.idxS (.val (.str [0, 1, 2, 2, 3, 3, 3, 3, 4, 4, 4, 4, 4, 4, 4, 4, 5, 5, 5, 5, 5, 5, 5, 5, 5, 5, 5, 5, 5, 5, 5, 5, 6, 6, 6, 6, 6, 6, 6, 6, 6, 6, 6, 6, 6, 6, 6, 6, 6, 6, 6, 6, 6, 6, 6, 6, 6, 6, 6, 6, 6, 6, 6, 6, 7, 7, 7, 7, 7, 7, 7, 7, 7, 7, 7, 7, 7, 7, 7, 7, 7, 7, 7, 7, 7, 7, 7, 7, 7, 7, 7, 7, 7, 7, 7, 7, 7, 7, 7, 7, 7, 7, 7, 7, 7, 7, 7, 7, 7, 7, 7, 7, 7, 7, 7, 7, 7, 7, 7, 7, 7, 7, 7, 7, 7, 7, 7, 7, 8, 8, 8, 8, 8, 8, 8, 8, 8, 8, 8, 8, 8, 8, 8, 8, 8, 8, 8, 8, 8, 8, 8, 8, 8, 8, 8, 8, 8, 8, 8, 8, 8, 8, 8, 8, 8, 8, 8, 8, 8, 8, 8, 8, 8, 8, 8, 8, 8, 8, 8, 8, 8, 8, 8, 8, 8, 8, 8, 8, 8, 8, 8, 8, 8, 8, 8, 8, 8, 8, 8, 8, 8, 8, 8, 8, 8, 8, 8, 8, 8, 8, 8, 8, 8, 8, 8, 8, 8, 8, 8, 8, 8, 8, 8, 8, 8, 8, 8, 8, 8, 8, 8, 8, 8, 8, 8, 8, 8, 8, 8, 8, 8, 8, 8, 8, 8, 8, 8, 8, 8, 8, 8, 8, 8, 8, 8, 8])) 15)⟩,
    ⟨some 17, none, .op (.conv (.toInt .i64) 16)⟩,
    ⟨some 18, none, .op (.bin .add .int 13 17)⟩,
    ⟨some 2, none, .op (.mv 18)⟩])
  (.ret))))
def f55 (G : Nat → AVal) : AFn := ⟨19, [.tmp 2], f55m G⟩

theorem f55_c (G : Nat → AVal) : cmpFn Try.prog G [] 55 = some (f55 G) := by kernel_rfl


def f56m (G : Nat → AVal) : MC :=
  .seq (.ops [⟨some 2, none, .op (.mv (.val (.int 0)))⟩])
  (.seq (.seq (.ops [⟨some 3, none, .op (.mv 0)⟩,
    ⟨some 4, none, .op (.bin .geq .int 3 (.val (.atom (.int .u64 4294967296))))⟩])
  (.cond 4
   (.seq (.ops [⟨some 5, none, .op (.mv 0)⟩,
     ⟨some 6, none, .op (.bin .shr .int 5 (.val (.atom (.int .u64 32))))⟩,
     ⟨some 0, none, .op (.mv 6)⟩])
   (.ops [⟨some 2, none, .op (.mv (.val (.int 32)))⟩]))
   (.skip)))
  (.seq (.seq (.ops [⟨some 7, none, .op (.mv 0)⟩,
    ⟨some 8, none, .op (.bin .geq .int 7 (.val (.atom (.int .u64 65536))))⟩])
  (.cond 8
   (.seq (.ops [⟨some 9, none, .op (.mv 0)⟩,
     ⟨some 10, none, .op (.bin .shr .int 9 (.val (.atom (.int .u64 16))))⟩,
     ⟨some 0, none, .op (.mv 10)⟩])
   (.ops [⟨some 11, none, .op (.mv 2)⟩,
     ⟨some 12, none, .op (.bin .add .int 11 (.val (.int 16)))⟩,
     ⟨some 2, none, .op (.mv 12)⟩]))
   (.skip)))
  (.seq (.seq (.ops [⟨some 13, none, .op (.mv 0)⟩,
    ⟨some 14, none, .op (.bin .geq .int 13 (.val (.atom (.int .u64 256))))⟩])
  (.cond 14
   (.seq (.ops [⟨some 15, none, .op (.mv 0)⟩,
     ⟨some 16, none, .op (.bin .shr .int 15 (.val (.atom (.int .u64 8))))⟩,
     ⟨some 0, none, .op (.mv 16)⟩])
   (.ops [⟨some 17, none, .op (.mv 2)⟩,
     ⟨some 18, none, .op (.bin .add .int 17 (.val (.int 8)))⟩,
     ⟨some 2, none, .op (.mv 18)⟩]))
   (.skip)))
  (.seq (.ops [⟨some 19, none, .op (.mv 2)⟩,
    ⟨some 20, none, .op (.mv 0)⟩,
    ⟨some 21, none, .op (.conv (.toInt .u8) 20)⟩,
    ⟨some 22, none, .op (.idxS (.val (.str [0, 1, 2, 2, 3, 3, 3, 3, 4, 4, 4, 4, 4, 4, 4, 4, 5, 5, 5, 5, 5, 5, 5, 5, 5, 5, 5, 5, 5, 5, 5, 5, 6, 6, 6, 6, 6, 6, 6, 6, 6, 6, 6, 6, 6, 6, 6, 6, 6, 6, 6, 6, 6, 6, 6, 6, 6, 6, 6, 6, 6, 6, 6, 6, 7, 7, 7, 7, 7, 7, 7, 7, 7, 7, 7, 7, 7, 7, 7, 7, 7, 7, 7, 7, 7, 7, 7, 7, 7, 7, 7, 7, 7, 7, 7, 7, 7, 7, 7, 7, 7, 7, 7, 7, 7, 7, 7, 7, 7, 7, 7, 7, 7, 7, 7, 7, 7, 7, 7, 7, 7, 7, 7, 7, 7, 7, 7, 7, 8, 8, 8, 8, 8, 8, 8, 8, 8, 8, 8, 8, 8, 8, 8, 8, 8, 8, 8, 8, 8, 8, 8, 8, 8, 8, 8, 8, 8, 8, 8, 8, 8, 8, 8, 8, 8, 8, 8, 8, 8, 8, 8, 8, 8, 8, 8, 8, 8, 8, 8, 8, 8, 8, 8, 8, 8, 8, 8, 8, 8, 8, 8, 8, 8, 8, 8, 8, 8, 8, 8, 8, 8, 8, 8, 8, 8, 8, 8, 8, 8, 8, 8, 8, 8, 8, 8, 8, 8, 8, 8, 8, 8, 8, 8, 8, 8, 8, 8, 8, 8, 8, 8, 8, 8, 8, 8, 8, 8, 8, 8, 8, 8, 8, 8, 8, 8, 8, 8, 8, 8, 8, 8, 8, 8, 8, 8, 8])) 21)⟩,
    ⟨some 23, none, .op (.conv (.toInt .i64) 22)⟩,
    ⟨some 24, none, .op (.bin .add .int 19 23)⟩,
    ⟨some 2, none, .op (.mv 24)⟩])
  (.ret)))))
def f56 (G : Nat → AVal) : AFn := ⟨25, [.tmp 2], f56m G⟩

theorem f56_c (G : Nat → AVal) : cmpFn Try.prog G [] 56 = some (f56 G) := by kernel_rfl

def f57b0 (G : Nat → AVal) : MC :=
  .block 1
   (.seq (.ops [⟨some 11, none, .op (.mv 8)⟩,
     ⟨some 12, none, .op (.bin .mul .int (.val (.int 2)) 11)⟩,
     ⟨some 13, none, .op (.bin .add .int 12 (.val (.int 1)))⟩,
     ⟨some 9, none, .op (.mv 13)⟩])
   (.seq (.seq (.ops [⟨some 14, none, .op (.mv 9)⟩,
     ⟨some 15, none, .op (.mv 2)⟩,
     ⟨some 16, none, .op (.bin .geq .int 14 15)⟩])
   (.cond 16
    (.exit 0)
    (.skip)))
   (.seq (.seq (.draw (.rd [⟨0, ⟨some 17, none, .op (.mv 9)⟩, false, false⟩,
      ⟨1, ⟨some 18, none, .op (.bin .add .int 17 (.val (.int 1)))⟩, false, false⟩,
      ⟨2, ⟨some 19, none, .op (.mv 2)⟩, false, false⟩,
      ⟨3, ⟨some 20, none, .op (.bin .lss .int 18 19)⟩, false, false⟩,
      ⟨4, ⟨some 21, none, .op (.mv 20)⟩, false, false⟩,
      ⟨5, ⟨some 22, some (21, true), .op (.mv 0)⟩, false, false⟩,
      ⟨6, ⟨some 23, some (21, true), .op (.mv 3)⟩, false, false⟩,
      ⟨7, ⟨some 24, some (21, true), .op (.mv 9)⟩, false, false⟩,
      ⟨8, ⟨some 25, some (21, true), .op (.bin .add .int 23 24)⟩, false, false⟩,
      ⟨9, ⟨some 26, some (21, true), .op (.iaddr 1 22 25)⟩, false, false⟩,
      ⟨10, ⟨some 27, some (21, true), .op (.load false 1 26)⟩, false, false⟩,
      ⟨11, ⟨some 28, some (21, true), .op (.mv 0)⟩, false, false⟩,
      ⟨12, ⟨some 29, some (21, true), .op (.mv 3)⟩, false, false⟩,
      ⟨13, ⟨some 30, some (21, true), .op (.mv 9)⟩, false, false⟩,
      ⟨14, ⟨some 31, some (21, true), .op (.bin .add .int 29 30)⟩, false, false⟩,
      ⟨15, ⟨some 32, some (21, true), .op (.bin .add .int 31 (.val (.int 1)))⟩, false, false⟩,
      ⟨16, ⟨some 33, some (21, true), .op (.iaddr 1 28 32)⟩, false, false⟩,
      ⟨17, ⟨some 34, some (21, true), .op (.load false 1 33)⟩, false, false⟩]
    (.ef ⟨18, ⟨some 35, some (21, true), .call 52 [27, 34]⟩, true, false⟩ []
    (.rd [⟨19, ⟨some 36, none, .op (.pick 21 35 (.val (.bool false)))⟩, false, false⟩]
    (.nil)))))
   (.cond 36
    (.ops [⟨some 37, none, .op (.mv 9)⟩,
      ⟨some 38, none, .op (.bin .add .int 37 (.val (.int 1)))⟩,
      ⟨some 9, none, .op (.mv 38)⟩])
    (.skip)))
   (.seq (.seq (.draw (.rd [⟨0, ⟨some 39, none, .op (.mv 0)⟩, false, false⟩,
      ⟨1, ⟨some 40, none, .op (.mv 3)⟩, false, false⟩,
      ⟨2, ⟨some 41, none, .op (.mv 8)⟩, false, false⟩,
      ⟨3, ⟨some 42, none, .op (.bin .add .int 40 41)⟩, false, false⟩,
      ⟨4, ⟨some 43, none, .op (.iaddr 1 39 42)⟩, false, false⟩,
      ⟨5, ⟨some 44, none, .op (.load false 1 43)⟩, false, false⟩,
      ⟨6, ⟨some 45, none, .op (.mv 0)⟩, false, false⟩,
      ⟨7, ⟨some 46, none, .op (.mv 3)⟩, false, false⟩,
      ⟨8, ⟨some 47, none, .op (.mv 9)⟩, false, false⟩,
      ⟨9, ⟨some 48, none, .op (.bin .add .int 46 47)⟩, false, false⟩,
      ⟨10, ⟨some 49, none, .op (.iaddr 1 45 48)⟩, false, false⟩,
      ⟨11, ⟨some 50, none, .op (.load false 1 49)⟩, false, false⟩]
    (.ef ⟨12, ⟨some 51, none, .call 52 [44, 50]⟩, true, false⟩ []
    (.rd [⟨13, ⟨some 52, none, .op (.un .not 51)⟩, false, false⟩]
    (.nil)))))
   (.cond 52
    (.ret)
    (.skip)))
   (.seq (.draw (.rd [⟨0, ⟨some 53, none, .op (.mv 0)⟩, false, false⟩,
      ⟨1, ⟨some 54, none, .op (.mv 3)⟩, false, false⟩,
      ⟨2, ⟨some 55, none, .op (.mv 8)⟩, false, false⟩,
      ⟨3, ⟨some 56, none, .op (.bin .add .int 54 55)⟩, false, false⟩,
      ⟨4, ⟨some 57, none, .op (.mv 0)⟩, false, true⟩,
      ⟨5, ⟨some 58, none, .op (.mv 3)⟩, false, true⟩,
      ⟨6, ⟨some 59, none, .op (.mv 9)⟩, false, true⟩,
      ⟨7, ⟨some 60, none, .op (.bin .add .int 58 59)⟩, false, true⟩,
      ⟨8, ⟨some 61, none, .op (.mv 0)⟩, false, false⟩,
      ⟨9, ⟨some 62, none, .op (.mv 3)⟩, false, false⟩,
      ⟨10, ⟨some 63, none, .op (.mv 9)⟩, false, false⟩,
      ⟨11, ⟨some 64, none, .op (.bin .add .int 62 63)⟩, false, false⟩,
      ⟨12, ⟨some 65, none, .op (.iaddr 1 61 64)⟩, false, false⟩,
      ⟨13, ⟨some 66, none, .op (.load false 1 65)⟩, false, false⟩,
      ⟨14, ⟨some 67, none, .op (.mv 0)⟩, false, false⟩,
      ⟨15, ⟨some 68, none, .op (.mv 3)⟩, false, false⟩,
      ⟨16, ⟨some 69, none, .op (.mv 8)⟩, false, false⟩,
      ⟨17, ⟨some 70, none, .op (.bin .add .int 68 69)⟩, false, false⟩,
      ⟨18, ⟨some 71, none, .op (.iaddr 1 67 70)⟩, false, false⟩,
      ⟨19, ⟨some 72, none, .op (.load false 1 71)⟩, false, false⟩,
      ⟨20, ⟨some 73, none, .op (.iaddr 1 53 56)⟩, false, false⟩]
    (.ef ⟨21, ⟨none, none, .op (.store false 1 73 66)⟩, true, false⟩ [4, 5, 6, 7]
    (.rd [⟨22, ⟨some 74, none, .op (.iaddr 1 57 60)⟩, false, false⟩]
    (.ef ⟨23, ⟨none, none, .op (.store false 1 74 72)⟩, true, false⟩ []
    (.nil))))))
   (.ops [⟨some 75, none, .op (.mv 9)⟩,
     ⟨some 8, none, .op (.mv 75)⟩]))))))

def f57m (G : Nat → AVal) : MC :=
  .seq (.ops [⟨some 10, none, .op (.mv 1)⟩,
    ⟨some 8, none, .op (.mv 10)⟩])
  (.block 0
   (.loop (f57b0 G)))
def f57 (G : Nat → AVal) : AFn := ⟨76, [], f57m G⟩

theorem f57_c (G : Nat → AVal) : cmpFn Try.prog G [] 57 = some (f57 G) := by kernel_rfl


def f58m (G : Nat → AVal) : MC :=
  .seq (.ops [⟨some 2, none, .op (.mv (.val (.atom (.int .u64 0))))⟩])
  (.seq (.ops [⟨some 3, none, .op (.mv 0)⟩,
    ⟨some 4, none, .op (.conv (.toInt .u64) 3)⟩,
    ⟨some 5, none, .call 44 [4]⟩,
    ⟨some 6, none, .op (.bin .shl .int (.val (.atom (.int .u64 1))) 5)⟩,
    ⟨some 2, none, .op (.mv 6)⟩])
  (.ret))
def f58 (G : Nat → AVal) : AFn := ⟨7, [.tmp 2], f58m G⟩

theorem f58_c (G : Nat → AVal) : cmpFn Try.prog G [] 58 = some (f58 G) := by kernel_rfl


def f59m (G : Nat → AVal) : MC :=
  .seq (.ops [⟨some 2, none, .op (.mv (.val (.atom (.int .u64 0))))⟩])
  (.seq (.draw (.rd [⟨0, ⟨some 3, none, .op (.mv 0)⟩, false, false⟩,
     ⟨1, ⟨some 4, none, .op (.nilck 3)⟩, false, false⟩,
     ⟨2, ⟨some 5, none, .op (.load false 1 4)⟩, false, false⟩,
     ⟨3, ⟨some 6, none, .op (.mv 0)⟩, false, false⟩,
     ⟨4, ⟨some 7, none, .op (.nilck 6)⟩, false, false⟩,
     ⟨5, ⟨some 8, none, .op (.load false 1 7)⟩, false, false⟩,
     ⟨6, ⟨some 9, none, .op (.bin .shl .int 8 (.val (.atom (.int .u64 13))))⟩, false, false⟩,
     ⟨7, ⟨some 10, none, .op (.bin .xor .int 5 9)⟩, false, false⟩,
     ⟨8, ⟨some 11, none, .op (.nilck 3)⟩, false, false⟩]
   (.ef ⟨9, ⟨none, none, .op (.store false 1 11 10)⟩, true, false⟩ []
   (.nil))))
  (.seq (.draw (.rd [⟨0, ⟨some 12, none, .op (.mv 0)⟩, false, false⟩,
     ⟨1, ⟨some 13, none, .op (.nilck 12)⟩, false, false⟩,
     ⟨2, ⟨some 14, none, .op (.load false 1 13)⟩, false, false⟩,
     ⟨3, ⟨some 15, none, .op (.mv 0)⟩, false, false⟩,
     ⟨4, ⟨some 16, none, .op (.nilck 15)⟩, false, false⟩,
     ⟨5, ⟨some 17, none, .op (.load false 1 16)⟩, false, false⟩,
     ⟨6, ⟨some 18, none, .op (.bin .shr .int 17 (.val (.atom (.int .u64 7))))⟩, false, false⟩,
     ⟨7, ⟨some 19, none, .op (.bin .xor .int 14 18)⟩, false, false⟩,
     ⟨8, ⟨some 20, none, .op (.nilck 12)⟩, false, false⟩]
   (.ef ⟨9, ⟨none, none, .op (.store false 1 20 19)⟩, true, false⟩ []
   (.nil))))
  (.seq (.draw (.rd [⟨0, ⟨some 21, none, .op (.mv 0)⟩, false, false⟩,
     ⟨1, ⟨some 22, none, .op (.nilck 21)⟩, false, false⟩,
     ⟨2, ⟨some 23, none, .op (.load false 1 22)⟩, false, false⟩,
     ⟨3, ⟨some 24, none, .op (.mv 0)⟩, false, false⟩,
     ⟨4, ⟨some 25, none, .op (.nilck 24)⟩, false, false⟩,
     ⟨5, ⟨some 26, none, .op (.load false 1 25)⟩, false, false⟩,
     ⟨6, ⟨some 27, none, .op (.bin .shl .int 26 (.val (.atom (.int .u64 17))))⟩, false, false⟩,
     ⟨7, ⟨some 28, none, .op (.bin .xor .int 23 27)⟩, false, false⟩,
     ⟨8, ⟨some 29, none, .op (.nilck 21)⟩, false, false⟩]
   (.ef ⟨9, ⟨none, none, .op (.store false 1 29 28)⟩, true, false⟩ []
   (.nil))))
  (.seq (.ops [⟨some 30, none, .op (.mv 0)⟩,
    ⟨some 31, none, .op (.nilck 30)⟩,
    ⟨some 32, none, .op (.load false 1 31)⟩,
    ⟨some 2, none, .op (.mv 32)⟩])
  (.ret)))))
def f59 (G : Nat → AVal) : AFn := ⟨33, [.tmp 2], f59m G⟩

theorem f59_c (G : Nat → AVal) : cmpFn Try.prog G [] 59 = some (f59 G) := by kernel_rfl


def f60m (G : Nat → AVal) : MC :=
  .seq (.ops [⟨some 6, none, .op (.mv (.val (.int 0)))⟩])
  (.seq (.ops [⟨some 7, none, .op (.mv 0)⟩,
    ⟨some 8, none, .op (.mv 1)⟩,
    ⟨some 9, none, .op (.bin .sub .int 8 (.val (.int 1)))⟩,
    ⟨some 10, none, .op (.mv 1)⟩,
    ⟨some 11, none, .op (.mv 1)⟩,
    ⟨some 12, none, .op (.bin .add .int 11 (.val (.int 1)))⟩,
    ⟨some 13, none, .op (.mv 2)⟩,
    ⟨some 14, none, .call 61 [7, 9, 10, 12, 13]⟩,
    ⟨some 6, none, .op (.mv 14)⟩])
  (.ret))
def f60 (G : Nat → AVal) : AFn := ⟨15, [.tmp 6], f60m G⟩

theorem f60_c (G : Nat → AVal) : cmpFn Try.prog G [] 60 = some (f60 G) := by kernel_rfl


def f61m (G : Nat → AVal) : MC :=
  .seq (.ops [⟨some 10, none, .op (.mv (.val (.int 0)))⟩])
  (.seq (.ops [⟨some 12, none, .op (.mv 0)⟩,
    ⟨some 13, none, .op (.mv 1)⟩,
    ⟨some 14, none, .op (.mv 2)⟩,
    ⟨some 15, none, .op (.mv 4)⟩,
    ⟨some 16, none, .call 63 [12, 13, 14, 15]⟩,
    ⟨some 11, none, .op (.mv 16)⟩,
    ⟨some 17, none, .op (.extract 11 0)⟩,
    ⟨some 18, none, .op (.extract 11 1)⟩,
    ⟨some 1, none, .op (.mv 17)⟩,
    ⟨some 2, none, .op (.mv 18)⟩])
  (.seq (.ops [⟨some 20, none, .op (.mv 0)⟩,
    ⟨some 21, none, .op (.mv 2)⟩,
    ⟨some 22, none, .op (.mv 3)⟩,
    ⟨some 23, none, .op (.mv 4)⟩,
    ⟨some 24, none, .call 63 [20, 21, 22, 23]⟩,
    ⟨some 19, none, .op (.mv 24)⟩,
    ⟨some 25, none, .op (.extract 19 0)⟩,
    ⟨some 26, none, .op (.extract 19 1)⟩,
    ⟨some 2, none, .op (.mv 25)⟩,
    ⟨some 3, none, .op (.mv 26)⟩])
  (.seq (.ops [⟨some 28, none, .op (.mv 0)⟩,
    ⟨some 29, none, .op (.mv 1)⟩,
    ⟨some 30, none, .op (.mv 2)⟩,
    ⟨some 31, none, .op (.mv 4)⟩,
    ⟨some 32, none, .call 63 [28, 29, 30, 31]⟩,
    ⟨some 27, none, .op (.mv 32)⟩,
    ⟨some 33, none, .op (.extract 27 0)⟩,
    ⟨some 34, none, .op (.extract 27 1)⟩,
    ⟨some 1, none, .op (.mv 33)⟩,
    ⟨some 2, none, .op (.mv 34)⟩])
  (.seq (.ops [⟨some 35, none, .op (.mv 2)⟩,
    ⟨some 10, none, .op (.mv 35)⟩])
  (.ret)))))
def f61 (G : Nat → AVal) : AFn := ⟨36, [.tmp 10], f61m G⟩

theorem f61_c (G : Nat → AVal) : cmpFn Try.prog G [] 61 = some (f61 G) := by kernel_rfl


def f62m (G : Nat → AVal) : MC :=
  .seq (.ops [⟨some 2, none, .op (.mv (.val (.bool false)))⟩])
  (.seq (.ops [⟨some 3, none, .op (.mv 0)⟩,
    ⟨some 4, none, .op (.mv 0)⟩,
    ⟨some 5, none, .op (.bin .neq .int 3 4)⟩,
    ⟨some 2, none, .op (.mv 5)⟩])
  (.ret))
def f62 (G : Nat → AVal) : AFn := ⟨6, [.tmp 2], f62m G⟩

theorem f62_c (G : Nat → AVal) : cmpFn Try.prog G [] 62 = some (f62 G) := by kernel_rfl


def f63m (G : Nat → AVal) : MC :=
  .seq (.ops [⟨some 8, none, .op (.mv (.val (.int 0)))⟩,
    ⟨some 9, none, .op (.mv (.val (.int 0)))⟩])
  (.seq (.seq (.draw (.rd [⟨0, ⟨some 10, none, .op (.mv 0)⟩, false, false⟩,
     ⟨1, ⟨some 11, none, .op (.mv 2)⟩, false, false⟩,
     ⟨2, ⟨some 12, none, .op (.iaddr 1 10 11)⟩, false, false⟩,
     ⟨3, ⟨some 13, none, .op (.load false 1 12)⟩, false, false⟩,
     ⟨4, ⟨some 14, none, .op (.mv 0)⟩, false, false⟩,
     ⟨5, ⟨some 15, none, .op (.mv 1)⟩, false, false⟩,
     ⟨6, ⟨some 16, none, .op (.iaddr 1 14 15)⟩, false, false⟩,
     ⟨7, ⟨some 17, none, .op (.load false 1 16)⟩, false, false⟩]
   (.ef ⟨8, ⟨some 18, none, .call 52 [13, 17]⟩, true, false⟩ []
   (.nil))))
  (.cond 18
   (.seq (.ops [⟨some 19, none, .op (.mv 3)⟩,
     ⟨some 20, none, .op (.nilck 19)⟩,
     ⟨some 21, none, .op (.load false 1 20)⟩,
     ⟨some 22, none, .op (.bin .add .int 21 (.val (.int 1)))⟩,
     ⟨some 23, none, .op (.nilck 19)⟩,
     ⟨none, none, .op (.store false 1 23 22)⟩])
   (.seq (.ops [⟨some 24, none, .op (.mv 2)⟩,
     ⟨some 25, none, .op (.mv 1)⟩,
     ⟨some 8, none, .op (.mv 24)⟩,
     ⟨some 9, none, .op (.mv 25)⟩])
   (.ret)))
   (.skip)))
  (.seq (.ops [⟨some 26, none, .op (.mv 1)⟩,
    ⟨some 27, none, .op (.mv 2)⟩,
    ⟨some 8, none, .op (.mv 26)⟩,
    ⟨some 9, none, .op (.mv 27)⟩])
  (.ret)))
def f63 (G : Nat → AVal) : AFn := ⟨28, [.tmp 8, .tmp 9], f63m G⟩

theorem f63_c (G : Nat → AVal) : cmpFn Try.prog G [] 63 = some (f63 G) := by kernel_rfl

def f11b0 (G : Nat → AVal) : MC :=
  .seq (.seq (.ops [⟨some 11, none, .op (.mv 5)⟩,
    ⟨some 12, none, .op (.mv 0)⟩,
    ⟨some 13, none, .op (.lenS 12)⟩,
    ⟨some 14, none, .op (.bin .lss .int 11 13)⟩])
  (.cond 14
   (.skip)
   (.exit 0)))
  (.seq (.block 1
   (.seq (.draw (.rd [⟨0, ⟨some 17, none, .op (.mv 0)⟩, false, false⟩,
      ⟨1, ⟨some 18, none, .op (.mv 5)⟩, false, false⟩,
      ⟨2, ⟨some 19, none, .op (.iaddr 1 17 18)⟩, false, false⟩,
      ⟨3, ⟨some 20, none, .op (.load false 1 19)⟩, false, false⟩,
      ⟨4, ⟨some 21, none, .op (.mv 1)⟩, false, false⟩,
      ⟨5, ⟨some 22, none, .op (.mv 5)⟩, false, false⟩,
      ⟨6, ⟨some 23, none, .op (.iaddr 1 21 22)⟩, false, false⟩,
      ⟨7, ⟨some 24, none, .op (.load false 1 23)⟩, false, false⟩,
      ⟨8, ⟨some 25, none, .op (.bin .neq .int 20 24)⟩, false, false⟩]
    (.nil)))
   (.cond 25
    (.seq (.ops [⟨some 4, none, .op (.mv (.val (.bool false)))⟩])
    (.ret))
    (.skip))))
  (.ops [⟨some 15, none, .op (.mv 5)⟩,
    ⟨some 16, none, .op (.bin .add .int 15 (.val (.int 1)))⟩,
    ⟨some 5, none, .op (.mv 16)⟩]))

def f11m (G : Nat → AVal) : MC :=
  .seq (.ops [⟨some 4, none, .op (.mv (.val (.bool false)))⟩])
  (.seq (.seq (.ops [⟨some 6, none, .op (.mv 0)⟩,
    ⟨some 7, none, .op (.lenS 6)⟩,
    ⟨some 8, none, .op (.mv 1)⟩,
    ⟨some 9, none, .op (.lenS 8)⟩,
    ⟨some 10, none, .op (.bin .neq .int 7 9)⟩])
  (.cond 10
   (.seq (.ops [⟨some 4, none, .op (.mv (.val (.bool false)))⟩])
   (.ret))
   (.skip)))
  (.seq (.seq (.ops [⟨some 5, none, .op (.mv (.val (.int 0)))⟩])
  (.block 0
   (.loop (f11b0 G))))
  (.seq (.ops [⟨some 4, none, .op (.mv (.val (.bool true)))⟩])
  (.ret))))
def f11 (G : Nat → AVal) : AFn := ⟨26, [.tmp 4], f11m G⟩

theorem f11_c (G : Nat → AVal) : cmpFn Try.prog G [] 11 = some (f11 G) := by kernel_rfl

end Go.Abs
