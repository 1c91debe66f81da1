/- Written by Show.lean: functions of the seat YtjoehmgnapdhaabDoor, translated; the checks. Conditions: none. -/
import Derived.Test.YtjoehmgnapdhaabDoorA25
import Derived.Test.YtjoehmgnapdhaabDoorProg
import Derived.KernelRfl
set_option linter.unusedVariables false
namespace Go.Abs
open Go Go.RowKit Go.Proofs

def f38b0 (G : Nat → AVal) : MC :=
  .seq (.seq (.ops [⟨some 6, none, .op (.mv 4)⟩,
    ⟨some 7, none, .op (.bin .lss .int 6 (.val (.int 37)))⟩])
  (.cond 7
   (.skip)
   (.exit 0)))
  (.seq (.block 1
   (.seq (.ops [⟨some 10, none, .op (.mv 4)⟩,
     ⟨some 11, none, .op (.iaddrA 37 1 3 10)⟩,
     ⟨some 12, none, .op (.load false 1 11)⟩,
     ⟨some 13, none, .op (.mv 0)⟩,
     ⟨some 14, none, .op (.bin .eql .str 12 13)⟩])
   (.cond 14
    (.seq (.ops [⟨some 2, none, .op (.mv (.val (.bool true)))⟩])
    (.ret))
    (.skip))))
  (.ops [⟨some 8, none, .op (.mv 4)⟩,
    ⟨some 9, none, .op (.bin .add .int 8 (.val (.int 1)))⟩,
    ⟨some 4, none, .op (.mv 9)⟩]))

def f38m (G : Nat → AVal) : MC :=
  .seq (.ops [⟨some 2, none, .op (.mv (.val (.bool false)))⟩])
  (.seq (.ops [⟨some 5, none, .op (.build [.str [], .str [], .str [], .str [], .str [], .str [], .str [], .str [], .str [], .str [], .str [], .str [], .str [], .str [], .str [], .str [], .str [], .str [], .str [], .str [], .str [], .str [], .str [], .str [], .str [], .str [], .str [], .str [], .str [], .str [], .str [], .str [], .str [], .str [], .str [], .str [], .str []] [(false, 0, 1, (.val (.str [97, 110, 100]))), (false, 1, 1, (.val (.str [97, 115]))), (false, 2, 1, (.val (.str [98, 101, 103, 105, 110]))), (false, 3, 1, (.val (.str [98, 111, 111, 108]))), (false, 4, 1, (.val (.str [98, 121]))), (false, 5, 1, (.val (.str [99, 111, 109, 109, 105, 116]))), (false, 6, 1, (.val (.str [99, 114, 101, 97, 116, 101]))), (false, 7, 1, (.val (.str [100, 101, 108, 101, 116, 101]))), (false, 8, 1, (.val (.str [100, 101, 115, 99]))), (false, 9, 1, (.val (.str [100, 114, 111, 112]))), (false, 10, 1, (.val (.str [102, 97, 108, 115, 101]))), (false, 11, 1, (.val (.str [102, 114, 111, 109]))), (false, 12, 1, (.val (.str [105, 110, 100, 101, 120]))), (false, 13, 1, (.val (.str [105, 110, 102, 105, 110, 105, 116, 121]))), (false, 14, 1, (.val (.str [105, 110, 110, 101, 114]))), (false, 15, 1, (.val (.str [105, 110, 115, 101, 114, 116]))), (false, 16, 1, (.val (.str [105, 110, 116]))), (false, 17, 1, (.val (.str [105, 110, 116, 111]))), (false, 18, 1, (.val (.str [105, 115]))), (false, 19, 1, (.val (.str [106, 111, 105, 110]))), (false, 20, 1, (.val (.str [110, 97, 110]))), (false, 21, 1, (.val (.str [110, 111, 116]))), (false, 22, 1, (.val (.str [110, 117, 108, 108]))), (false, 23, 1, (.val (.str [111, 110]))), (false, 24, 1, (.val (.str [111, 114]))), (false, 25, 1, (.val (.str [111, 114, 100, 101, 114]))), (false, 26, 1, (.val (.str [114, 101, 97, 108]))), (false, 27, 1, (.val (.str [114, 111, 108, 108, 98, 97, 99, 107]))), (false, 28, 1, (.val (.str [115, 101, 108, 101, 99, 116]))), (false, 29, 1, (.val (.str [115, 101, 116]))), (false, 30, 1, (.val (.str [116, 97, 98, 108, 101]))), (false, 31, 1, (.val (.str [116, 101, 120, 116]))), (false, 32, 1, (.val (.str [116, 114, 117, 101]))), (false, 33, 1, (.val (.str [117, 110, 105, 113, 117, 101]))), (false, 34, 1, (.val (.str [117, 112, 100, 97, 116, 101]))), (false, 35, 1, (.val (.str [118, 97, 108, 117, 101, 115]))), (false, 36, 1, (.val (.str [119, 104, 101, 114, 101])))])⟩,
    ⟨some 3, none, .op (.alloc 37 [.str [], .str [], .str [], .str [], .str [], .str [], .str [], .str [], .str [], .str [], .str [], .str [], .str [], .str [], .str [], .str [], .str [], .str [], .str [], .str [], .str [], .str [], .str [], .str [], .str [], .str [], .str [], .str [], .str [], .str [], .str [], .str [], .str [], .str [], .str [], .str [], .str []])⟩,
    ⟨none, none, .op (.store true 37 3 5)⟩])
  (.seq (.seq (.ops [⟨some 4, none, .op (.mv (.val (.int 0)))⟩])
  (.block 0
   (.loop (f38b0 G))))
  (.seq (.ops [⟨some 2, none, .op (.mv (.val (.bool false)))⟩])
  (.ret))))
def f38 (G : Nat → AVal) : AFn := ⟨15, [.tmp 2], f38m G⟩

theorem f38_c (G : Nat → AVal) : cmpFn Tryd.prog G [] 38 = some (f38 G) := by kernel_rfl

def f15b0 (G : Nat → AVal) : MC :=
  .seq (.seq (.ops [⟨some 20, none, .op (.mv 3)⟩,
    ⟨some 21, none, .op (.mv 0)⟩,
    ⟨some 22, none, .op (.lenStr 21)⟩,
    ⟨some 23, none, .op (.bin .lss .int 20 22)⟩])
  (.cond 23
   (.skip)
   (.exit 0)))
  (.seq (.block 1
   (.seq (.draw (.rd [⟨0, ⟨some 26, none, .op (.mv 0)⟩, false, false⟩,
      ⟨1, ⟨some 27, none, .op (.mv 3)⟩, false, false⟩,
      ⟨2, ⟨some 28, none, .op (.idxS 26 27)⟩, false, false⟩,
      ⟨4, ⟨some 30, none, .op (.mv 0)⟩, false, true⟩,
      ⟨5, ⟨some 31, none, .op (.mv 3)⟩, false, true⟩,
      ⟨6, ⟨some 32, none, .op (.idxS 30 31)⟩, false, true⟩]
    (.ef ⟨3, ⟨some 29, none, .call 40 [28]⟩, true, false⟩ [4, 5, 6]
    (.rd [⟨7, ⟨some 33, none, .op (.bin .neq .int 29 32)⟩, false, false⟩,
      ⟨8, ⟨some 34, none, .op (.mv 33)⟩, false, false⟩,
      ⟨9, ⟨some 35, some (34, false), .op (.mv 0)⟩, false, false⟩,
      ⟨10, ⟨some 36, some (34, false), .op (.mv 3)⟩, false, false⟩,
      ⟨11, ⟨some 37, some (34, false), .op (.idxS 35 36)⟩, false, false⟩]
    (.ef ⟨12, ⟨some 38, some (34, false), .call 39 [37]⟩, true, false⟩ []
    (.rd [⟨13, ⟨some 39, some (34, false), .op (.un .not 38)⟩, false, false⟩,
      ⟨14, ⟨some 40, some (34, false), .op (.mv 39)⟩, false, false⟩,
      ⟨15, ⟨some 41, some (40, true), .op (.mv 0)⟩, false, false⟩,
      ⟨16, ⟨some 42, some (40, true), .op (.mv 3)⟩, false, false⟩,
      ⟨17, ⟨some 43, some (40, true), .op (.idxS 41 42)⟩, false, false⟩]
    (.ef ⟨18, ⟨some 44, some (40, true), .call 41 [43]⟩, true, false⟩ []
    (.rd [⟨19, ⟨some 45, some (40, true), .op (.un .not 44)⟩, false, false⟩,
      ⟨20, ⟨some 46, some (34, false), .op (.pick 40 45 (.val (.bool false)))⟩, false, false⟩,
      ⟨21, ⟨some 47, none, .op (.pick 34 (.val (.bool true)) 46)⟩, false, false⟩]
    (.nil)))))))))
   (.cond 47
    (.seq (.ops [⟨some 2, none, .op (.mv (.val (.bool false)))⟩])
    (.ret))
    (.skip))))
  (.ops [⟨some 24, none, .op (.mv 3)⟩,
    ⟨some 25, none, .op (.bin .add .int 24 (.val (.int 1)))⟩,
    ⟨some 3, none, .op (.mv 25)⟩]))

def f15m (G : Nat → AVal) : MC :=
  .seq (.ops [⟨some 2, none, .op (.mv (.val (.bool false)))⟩])
  (.seq (.seq (.ops [⟨some 4, none, .op (.mv 0)⟩,
    ⟨some 5, none, .op (.lenStr 4)⟩,
    ⟨some 6, none, .op (.bin .lss .int 5 (.val (.int 1)))⟩,
    ⟨some 7, none, .op (.mv 6)⟩,
    ⟨some 8, some (7, false), .op (.mv 0)⟩,
    ⟨some 9, some (7, false), .op (.lenStr 8)⟩,
    ⟨some 10, some (7, false), .op (.bin .gtr .int 9 (.val (.int 32)))⟩,
    ⟨some 11, none, .op (.pick 7 (.val (.bool true)) 10)⟩,
    ⟨some 12, none, .op (.mv 11)⟩,
    ⟨some 13, some (12, false), .op (.mv 0)⟩,
    ⟨some 14, some (12, false), .call 38 [13]⟩,
    ⟨some 15, none, .op (.pick 12 (.val (.bool true)) 14)⟩])
  (.cond 15
   (.seq (.ops [⟨some 2, none, .op (.mv (.val (.bool false)))⟩])
   (.ret))
   (.skip)))
  (.seq (.seq (.ops [⟨some 16, none, .op (.mv 0)⟩,
    ⟨some 17, none, .op (.idxS 16 (.val (.int 0)))⟩,
    ⟨some 18, none, .call 39 [17]⟩,
    ⟨some 19, none, .op (.un .not 18)⟩])
  (.cond 19
   (.seq (.ops [⟨some 2, none, .op (.mv (.val (.bool false)))⟩])
   (.ret))
   (.skip)))
  (.seq (.seq (.ops [⟨some 3, none, .op (.mv (.val (.int 0)))⟩])
  (.block 0
   (.loop (f15b0 G))))
  (.seq (.ops [⟨some 2, none, .op (.mv (.val (.bool true)))⟩])
  (.ret)))))
def f15 (G : Nat → AVal) : AFn := ⟨48, [.tmp 2], f15m G⟩

theorem f15_c (G : Nat → AVal) : cmpFn Tryd.prog G [] 15 = some (f15 G) := by kernel_rfl


def f39m (G : Nat → AVal) : MC :=
  .seq (.ops [⟨some 2, none, .op (.mv (.val (.bool false)))⟩])
  (.seq (.ops [⟨some 3, none, .op (.mv 0)⟩,
    ⟨some 4, none, .op (.bin .eql .int 3 (.val (.atom (.int .u8 95))))⟩,
    ⟨some 5, none, .op (.mv 4)⟩,
    ⟨some 6, some (5, false), .op (.mv 0)⟩,
    ⟨some 7, some (5, false), .call 40 [6]⟩,
    ⟨some 8, some (5, false), .op (.bin .leq .int (.val (.atom (.int .u8 97))) 7)⟩,
    ⟨some 9, some (5, false), .op (.mv 8)⟩,
    ⟨some 10, some (9, true), .op (.mv 0)⟩,
    ⟨some 11, some (9, true), .call 40 [10]⟩,
    ⟨some 12, some (9, true), .op (.bin .leq .int 11 (.val (.atom (.int .u8 122))))⟩,
    ⟨some 13, some (5, false), .op (.pick 9 12 (.val (.bool false)))⟩,
    ⟨some 14, none, .op (.pick 5 (.val (.bool true)) 13)⟩,
    ⟨some 2, none, .op (.mv 14)⟩])
  (.ret))
def f39 (G : Nat → AVal) : AFn := ⟨15, [.tmp 2], f39m G⟩

theorem f39_c (G : Nat → AVal) : cmpFn Tryd.prog G [] 39 = some (f39 G) := by kernel_rfl


def f40m (G : Nat → AVal) : MC :=
  .seq (.ops [⟨some 2, none, .op (.mv (.val (.atom (.int .u8 0))))⟩])
  (.seq (.seq (.ops [⟨some 3, none, .op (.mv 0)⟩,
    ⟨some 4, none, .op (.bin .leq .int (.val (.atom (.int .u8 65))) 3)⟩,
    ⟨some 5, none, .op (.mv 4)⟩,
    ⟨some 6, some (5, true), .op (.mv 0)⟩,
    ⟨some 7, some (5, true), .op (.bin .leq .int 6 (.val (.atom (.int .u8 90))))⟩,
    ⟨some 8, none, .op (.pick 5 7 (.val (.bool false)))⟩])
  (.cond 8
   (.seq (.ops [⟨some 9, none, .op (.mv 0)⟩,
     ⟨some 10, none, .op (.bin .add .int 9 (.val (.atom (.int .u8 32))))⟩,
     ⟨some 2, none, .op (.mv 10)⟩])
   (.ret))
   (.skip)))
  (.seq (.ops [⟨some 11, none, .op (.mv 0)⟩,
    ⟨some 2, none, .op (.mv 11)⟩])
  (.ret)))
def f40 (G : Nat → AVal) : AFn := ⟨12, [.tmp 2], f40m G⟩

theorem f40_c (G : Nat → AVal) : cmpFn Tryd.prog G [] 40 = some (f40 G) := by kernel_rfl


def f41m (G : Nat → AVal) : MC :=
  .seq (.ops [⟨some 2, none, .op (.mv (.val (.bool false)))⟩])
  (.seq (.ops [⟨some 3, none, .op (.mv 0)⟩,
    ⟨some 4, none, .op (.bin .leq .int (.val (.atom (.int .u8 48))) 3)⟩,
    ⟨some 5, none, .op (.mv 4)⟩,
    ⟨some 6, some (5, true), .op (.mv 0)⟩,
    ⟨some 7, some (5, true), .op (.bin .leq .int 6 (.val (.atom (.int .u8 57))))⟩,
    ⟨some 8, none, .op (.pick 5 7 (.val (.bool false)))⟩,
    ⟨some 2, none, .op (.mv 8)⟩])
  (.ret))
def f41 (G : Nat → AVal) : AFn := ⟨9, [.tmp 2], f41m G⟩

theorem f41_c (G : Nat → AVal) : cmpFn Tryd.prog G [] 41 = some (f41 G) := by kernel_rfl

end Go.Abs
