/- Written by Show.lean: functions of the seat YtjoehmgnapdhaabDoor, translated; the checks. Conditions: none. -/
import Derived.Test.YtjoehmgnapdhaabDoorA25
import Derived.Test.YtjoehmgnapdhaabDoorProg
import Derived.KernelRfl
set_option linter.unusedVariables false
namespace Go.Abs
open Go Go.RowKit Go.Proofs


def f54m (G : Nat → AVal) : MC :=
  .seq (.ops [⟨some 2, none, .op (.mv (.val (.bool false)))⟩])
  (.seq (.seq (.ops [⟨some 3, none, .op (.mv 0)⟩])
  (.block 0
   (.seq (.seq (.ops [⟨some 5, none, .op (.bin .eql .str 3 (.val (.str [97, 110, 100])))⟩,
     ⟨some 4, none, .op (.mv 5)⟩])
   (.cond 4
    (.skip)
    (.seq (.ops [⟨some 6, none, .op (.bin .eql .str 3 (.val (.str [97, 115])))⟩,
      ⟨some 4, none, .op (.mv 6)⟩])
    (.cond 4
     (.skip)
     (.seq (.ops [⟨some 7, none, .op (.bin .eql .str 3 (.val (.str [98, 101, 103, 105, 110])))⟩,
       ⟨some 4, none, .op (.mv 7)⟩])
     (.cond 4
      (.skip)
      (.seq (.ops [⟨some 8, none, .op (.bin .eql .str 3 (.val (.str [98, 111, 111, 108])))⟩,
        ⟨some 4, none, .op (.mv 8)⟩])
      (.cond 4
       (.skip)
       (.seq (.ops [⟨some 9, none, .op (.bin .eql .str 3 (.val (.str [98, 121])))⟩,
         ⟨some 4, none, .op (.mv 9)⟩])
       (.cond 4
        (.skip)
        (.seq (.ops [⟨some 10, none, .op (.bin .eql .str 3 (.val (.str [99, 111, 109, 109, 105, 116])))⟩,
          ⟨some 4, none, .op (.mv 10)⟩])
        (.cond 4
         (.skip)
         (.seq (.ops [⟨some 11, none, .op (.bin .eql .str 3 (.val (.str [99, 114, 101, 97, 116, 101])))⟩,
           ⟨some 4, none, .op (.mv 11)⟩])
         (.cond 4
          (.skip)
          (.seq (.ops [⟨some 12, none, .op (.bin .eql .str 3 (.val (.str [100, 101, 108, 101, 116, 101])))⟩,
            ⟨some 4, none, .op (.mv 12)⟩])
          (.cond 4
           (.skip)
           (.seq (.ops [⟨some 13, none, .op (.bin .eql .str 3 (.val (.str [100, 101, 115, 99])))⟩,
             ⟨some 4, none, .op (.mv 13)⟩])
           (.cond 4
            (.skip)
            (.seq (.ops [⟨some 14, none, .op (.bin .eql .str 3 (.val (.str [100, 114, 111, 112])))⟩,
              ⟨some 4, none, .op (.mv 14)⟩])
            (.cond 4
             (.skip)
             (.seq (.ops [⟨some 15, none, .op (.bin .eql .str 3 (.val (.str [102, 97, 108, 115, 101])))⟩,
               ⟨some 4, none, .op (.mv 15)⟩])
             (.cond 4
              (.skip)
              (.seq (.ops [⟨some 16, none, .op (.bin .eql .str 3 (.val (.str [102, 114, 111, 109])))⟩,
                ⟨some 4, none, .op (.mv 16)⟩])
              (.cond 4
               (.skip)
               (.seq (.ops [⟨some 17, none, .op (.bin .eql .str 3 (.val (.str [105, 110, 100, 101, 120])))⟩,
                 ⟨some 4, none, .op (.mv 17)⟩])
               (.cond 4
                (.skip)
                (.seq (.ops [⟨some 18, none, .op (.bin .eql .str 3 (.val (.str [105, 110, 102, 105, 110, 105, 116, 121])))⟩,
                  ⟨some 4, none, .op (.mv 18)⟩])
                (.cond 4
                 (.skip)
                 (.seq (.ops [⟨some 19, none, .op (.bin .eql .str 3 (.val (.str [105, 110, 110, 101, 114])))⟩,
                   ⟨some 4, none, .op (.mv 19)⟩])
                 (.cond 4
                  (.skip)
                  (.seq (.ops [⟨some 20, none, .op (.bin .eql .str 3 (.val (.str [105, 110, 115, 101, 114, 116])))⟩,
                    ⟨some 4, none, .op (.mv 20)⟩])
                  (.cond 4
                   (.skip)
                   (.seq (.ops [⟨some 21, none, .op (.bin .eql .str 3 (.val (.str [105, 110, 116])))⟩,
                     ⟨some 4, none, .op (.mv 21)⟩])
                   (.cond 4
                    (.skip)
                    (.seq (.ops [⟨some 22, none, .op (.bin .eql .str 3 (.val (.str [105, 110, 116, 111])))⟩,
                      ⟨some 4, none, .op (.mv 22)⟩])
                    (.cond 4
                     (.skip)
                     (.seq (.ops [⟨some 23, none, .op (.bin .eql .str 3 (.val (.str [105, 115])))⟩,
                       ⟨some 4, none, .op (.mv 23)⟩])
                     (.cond 4
                      (.skip)
                      (.seq (.ops [⟨some 24, none, .op (.bin .eql .str 3 (.val (.str [106, 111, 105, 110])))⟩,
                        ⟨some 4, none, .op (.mv 24)⟩])
                      (.cond 4
                       (.skip)
                       (.seq (.ops [⟨some 25, none, .op (.bin .eql .str 3 (.val (.str [110, 97, 110])))⟩,
                         ⟨some 4, none, .op (.mv 25)⟩])
                       (.cond 4
                        (.skip)
                        (.seq (.ops [⟨some 26, none, .op (.bin .eql .str 3 (.val (.str [110, 111, 116])))⟩,
                          ⟨some 4, none, .op (.mv 26)⟩])
                        (.cond 4
                         (.skip)
                         (.seq (.ops [⟨some 27, none, .op (.bin .eql .str 3 (.val (.str [110, 117, 108, 108])))⟩,
                           ⟨some 4, none, .op (.mv 27)⟩])
                         (.cond 4
                          (.skip)
                          (.seq (.ops [⟨some 28, none, .op (.bin .eql .str 3 (.val (.str [111, 110])))⟩,
                            ⟨some 4, none, .op (.mv 28)⟩])
                          (.cond 4
                           (.skip)
                           (.seq (.ops [⟨some 29, none, .op (.bin .eql .str 3 (.val (.str [111, 114])))⟩,
                             ⟨some 4, none, .op (.mv 29)⟩])
                           (.cond 4
                            (.skip)
                            (.seq (.ops [⟨some 30, none, .op (.bin .eql .str 3 (.val (.str [111, 114, 100, 101, 114])))⟩,
                              ⟨some 4, none, .op (.mv 30)⟩])
                            (.cond 4
                             (.skip)
                             (.seq (.ops [⟨some 31, none, .op (.bin .eql .str 3 (.val (.str [114, 101, 97, 108])))⟩,
                               ⟨some 4, none, .op (.mv 31)⟩])
                             (.cond 4
                              (.skip)
                              (.seq (.ops [⟨some 32, none, .op (.bin .eql .str 3 (.val (.str [114, 111, 108, 108, 98, 97, 99, 107])))⟩,
                                ⟨some 4, none, .op (.mv 32)⟩])
                              (.cond 4
                               (.skip)
                               (.seq (.ops [⟨some 33, none, .op (.bin .eql .str 3 (.val (.str [115, 101, 108, 101, 99, 116])))⟩,
                                 ⟨some 4, none, .op (.mv 33)⟩])
                               (.cond 4
                                (.skip)
                                (.seq (.ops [⟨some 34, none, .op (.bin .eql .str 3 (.val (.str [115, 101, 116])))⟩,
                                  ⟨some 4, none, .op (.mv 34)⟩])
                                (.cond 4
                                 (.skip)
                                 (.seq (.ops [⟨some 35, none, .op (.bin .eql .str 3 (.val (.str [116, 97, 98, 108, 101])))⟩,
                                   ⟨some 4, none, .op (.mv 35)⟩])
                                 (.cond 4
                                  (.skip)
                                  (.seq (.ops [⟨some 36, none, .op (.bin .eql .str 3 (.val (.str [116, 101, 120, 116])))⟩,
                                    ⟨some 4, none, .op (.mv 36)⟩])
                                  (.cond 4
                                   (.skip)
                                   (.seq (.ops [⟨some 37, none, .op (.bin .eql .str 3 (.val (.str [116, 114, 117, 101])))⟩,
                                     ⟨some 4, none, .op (.mv 37)⟩])
                                   (.cond 4
                                    (.skip)
                                    (.seq (.ops [⟨some 38, none, .op (.bin .eql .str 3 (.val (.str [117, 110, 105, 113, 117, 101])))⟩,
                                      ⟨some 4, none, .op (.mv 38)⟩])
                                    (.cond 4
                                     (.skip)
                                     (.seq (.ops [⟨some 39, none, .op (.bin .eql .str 3 (.val (.str [117, 112, 100, 97, 116, 101])))⟩,
                                       ⟨some 4, none, .op (.mv 39)⟩])
                                     (.cond 4
                                      (.skip)
                                      (.seq (.ops [⟨some 40, none, .op (.bin .eql .str 3 (.val (.str [118, 97, 108, 117, 101, 115])))⟩,
                                        ⟨some 4, none, .op (.mv 40)⟩])
                                      (.cond 4
                                       (.skip)
                                       (.ops [⟨some 41, none, .op (.bin .eql .str 3 (.val (.str [119, 104, 101, 114, 101])))⟩,
                                         ⟨some 4, none, .op (.mv 41)⟩])))))))))))))))))))))))))))))))))))))))))))))))))))))))))))))))))))))))))
   (.cond 4
    (.seq (.ops [⟨some 2, none, .op (.mv (.val (.bool true)))⟩])
    (.ret))
    (.skip)))))
  (.seq (.ops [⟨some 2, none, .op (.mv (.val (.bool false)))⟩])
  (.ret)))
def f54 (G : Nat → AVal) : AFn := ⟨42, [.tmp 2], f54m G⟩

theorem f54_c (G : Nat → AVal) : cmpFn Tryd.prog G [] 54 = some (f54 G) := by kernel_rfl


def f32m (G : Nat → AVal) : MC :=
  .seq (.ops [⟨some 2, none, .op (.mv (.val (.bool false)))⟩])
  (.seq (.ops [⟨some 3, none, .op (.mv 0)⟩,
    ⟨some 4, none, .op (.bin .neq .str 3 (.val (.str [])))⟩,
    ⟨some 5, none, .op (.mv 4)⟩,
    ⟨some 6, some (5, true), .op (.mv 0)⟩,
    ⟨some 7, some (5, true), .op (.lenStr 6)⟩,
    ⟨some 8, some (5, true), .op (.bin .leq .int 7 (.val (.int 32)))⟩,
    ⟨some 9, none, .op (.pick 5 8 (.val (.bool false)))⟩,
    ⟨some 10, none, .op (.mv 9)⟩,
    ⟨some 11, some (10, true), .op (.mv 0)⟩,
    ⟨some 12, some (10, true), .op (.idxS 11 (.val (.int 0)))⟩,
    ⟨some 13, some (10, true), .call 50 [12]⟩,
    ⟨some 14, none, .op (.pick 10 13 (.val (.bool false)))⟩,
    ⟨some 15, none, .op (.mv 14)⟩,
    ⟨some 16, some (15, true), .op (.mv 0)⟩,
    ⟨some 17, some (15, true), .call 51 [16, (.val (.clo (.func 52) [] []))]⟩,
    ⟨some 18, some (15, true), .op (.mv 0)⟩,
    ⟨some 19, some (15, true), .op (.lenStr 18)⟩,
    ⟨some 20, some (15, true), .op (.bin .eql .int 17 19)⟩,
    ⟨some 21, none, .op (.pick 15 20 (.val (.bool false)))⟩,
    ⟨some 22, none, .op (.mv 21)⟩,
    ⟨some 23, some (22, true), .op (.mv 0)⟩,
    ⟨some 24, some (22, true), .op (.mv 0)⟩,
    ⟨some 25, some (22, true), .call 53 [24]⟩,
    ⟨some 26, some (22, true), .op (.bin .eql .str 23 25)⟩,
    ⟨some 27, none, .op (.pick 22 26 (.val (.bool false)))⟩,
    ⟨some 28, none, .op (.mv 27)⟩,
    ⟨some 29, some (28, true), .op (.mv 0)⟩,
    ⟨some 30, some (28, true), .call 54 [29]⟩,
    ⟨some 31, some (28, true), .op (.un .not 30)⟩,
    ⟨some 32, none, .op (.pick 28 31 (.val (.bool false)))⟩,
    ⟨some 2, none, .op (.mv 32)⟩])
  (.ret))
def f32 (G : Nat → AVal) : AFn := ⟨33, [.tmp 2], f32m G⟩

theorem f32_c (G : Nat → AVal) : cmpFn Tryd.prog G [] 32 = some (f32 G) := by kernel_rfl


def f50m (G : Nat → AVal) : MC :=
  .seq (.ops [⟨some 2, none, .op (.mv (.val (.bool false)))⟩])
  (.seq (.ops [⟨some 3, none, .op (.mv 0)⟩,
    ⟨some 4, none, .op (.bin .geq .int 3 (.val (.atom (.int .u8 97))))⟩,
    ⟨some 5, none, .op (.mv 4)⟩,
    ⟨some 6, some (5, true), .op (.mv 0)⟩,
    ⟨some 7, some (5, true), .op (.bin .leq .int 6 (.val (.atom (.int .u8 122))))⟩,
    ⟨some 8, none, .op (.pick 5 7 (.val (.bool false)))⟩,
    ⟨some 9, none, .op (.mv 8)⟩,
    ⟨some 10, some (9, false), .op (.mv 0)⟩,
    ⟨some 11, some (9, false), .op (.bin .geq .int 10 (.val (.atom (.int .u8 65))))⟩,
    ⟨some 12, some (9, false), .op (.mv 11)⟩,
    ⟨some 13, some (12, true), .op (.mv 0)⟩,
    ⟨some 14, some (12, true), .op (.bin .leq .int 13 (.val (.atom (.int .u8 90))))⟩,
    ⟨some 15, some (9, false), .op (.pick 12 14 (.val (.bool false)))⟩,
    ⟨some 16, none, .op (.pick 9 (.val (.bool true)) 15)⟩,
    ⟨some 17, none, .op (.mv 16)⟩,
    ⟨some 18, some (17, false), .op (.mv 0)⟩,
    ⟨some 19, some (17, false), .op (.bin .eql .int 18 (.val (.atom (.int .u8 95))))⟩,
    ⟨some 20, none, .op (.pick 17 (.val (.bool true)) 19)⟩,
    ⟨some 2, none, .op (.mv 20)⟩])
  (.ret))
def f50 (G : Nat → AVal) : AFn := ⟨21, [.tmp 2], f50m G⟩

theorem f50_c (G : Nat → AVal) : cmpFn Tryd.prog G [] 50 = some (f50 G) := by kernel_rfl


def f67m (G : Nat → AVal) : MC :=
  .seq (.ops [⟨some 2, none, .op (.mv (.val (.bool false)))⟩])
  (.seq (.ops [⟨some 3, none, .op (.mv 0)⟩,
    ⟨some 4, none, .op (.bin .geq .int 3 (.val (.atom (.int .u8 48))))⟩,
    ⟨some 5, none, .op (.mv 4)⟩,
    ⟨some 6, some (5, true), .op (.mv 0)⟩,
    ⟨some 7, some (5, true), .op (.bin .leq .int 6 (.val (.atom (.int .u8 57))))⟩,
    ⟨some 8, none, .op (.pick 5 7 (.val (.bool false)))⟩,
    ⟨some 2, none, .op (.mv 8)⟩])
  (.ret))
def f67 (G : Nat → AVal) : AFn := ⟨9, [.tmp 2], f67m G⟩

theorem f67_c (G : Nat → AVal) : cmpFn Tryd.prog G [] 67 = some (f67 G) := by kernel_rfl


def f51m (G : Nat → AVal) : MC :=
  .seq (.ops [⟨some 3, none, .op (.box false 1 1)⟩,
    ⟨some 4, none, .op (.mv (.val (.int 0)))⟩])
  (.seq (.seq (.ops [⟨some 6, none, .op (.mv 0)⟩,
    ⟨some 7, none, .op (.conv .strBytes 6)⟩,
    ⟨some 8, none, .op (.mkfn (.func 66) [] [3])⟩,
    ⟨some 9, none, .call 65 [7, 8]⟩,
    ⟨some 5, none, .op (.mv 9)⟩])
  (.seq (.ops [⟨some 10, none, .op (.mv 5)⟩,
    ⟨some 11, none, .op (.bin .geq .int 10 (.val (.int 0)))⟩])
  (.cond 11
   (.seq (.ops [⟨some 12, none, .op (.mv 5)⟩,
     ⟨some 4, none, .op (.mv 12)⟩])
   (.ret))
   (.skip))))
  (.seq (.ops [⟨some 13, none, .op (.mv 0)⟩,
    ⟨some 14, none, .op (.lenStr 13)⟩,
    ⟨some 4, none, .op (.mv 14)⟩])
  (.ret)))
def f51 (G : Nat → AVal) : AFn := ⟨15, [.tmp 4], f51m G⟩

theorem f51_c (G : Nat → AVal) : cmpFn Tryd.prog G [] 51 = some (f51 G) := by kernel_rfl


def f52m (G : Nat → AVal) : MC :=
  .seq (.ops [⟨some 2, none, .op (.mv (.val (.bool false)))⟩])
  (.seq (.ops [⟨some 3, none, .op (.mv 0)⟩,
    ⟨some 4, none, .call 50 [3]⟩,
    ⟨some 5, none, .op (.mv 4)⟩,
    ⟨some 6, some (5, false), .op (.mv 0)⟩,
    ⟨some 7, some (5, false), .call 67 [6]⟩,
    ⟨some 8, none, .op (.pick 5 (.val (.bool true)) 7)⟩,
    ⟨some 2, none, .op (.mv 8)⟩])
  (.ret))
def f52 (G : Nat → AVal) : AFn := ⟨9, [.tmp 2], f52m G⟩

theorem f52_c (G : Nat → AVal) : cmpFn Tryd.prog G [] 52 = some (f52 G) := by kernel_rfl

def f65b0 (G : Nat → AVal) : MC :=
  .seq (.ops [⟨some 9, none, .op (.bin .lss .int 8 7)⟩])
  (.seq (.cond 9
   (.skip)
   (.exit 0))
  (.seq (.block 1
   (.seq (.ops [⟨some 10, none, .op (.mv 8)⟩,
     ⟨some 5, none, .op (.mv 10)⟩])
   (.seq (.ops [⟨some 11, none, .op (.mv 1)⟩,
     ⟨some 12, none, .op (.mv 0)⟩,
     ⟨some 13, none, .op (.mv 5)⟩,
     ⟨some 14, none, .op (.iaddr 1 12 13)⟩,
     ⟨some 15, none, .op (.load false 1 14)⟩,
     ⟨some 16, none, .callV 11 [15]⟩])
   (.cond 16
    (.seq (.ops [⟨some 17, none, .op (.mv 5)⟩,
      ⟨some 4, none, .op (.mv 17)⟩])
    (.ret))
    (.skip)))))
  (.ops [⟨some 18, none, .op (.bin .add .int 8 (.val (.int 1)))⟩,
    ⟨some 8, none, .op (.mv 18)⟩])))

def f65m (G : Nat → AVal) : MC :=
  .seq (.ops [⟨some 4, none, .op (.mv (.val (.int 0)))⟩])
  (.seq (.seq (.ops [⟨some 6, none, .op (.mv 0)⟩,
    ⟨some 7, none, .op (.lenS 6)⟩,
    ⟨some 8, none, .op (.mv (.val (.int 0)))⟩])
  (.block 0
   (.loop (f65b0 G))))
  (.seq (.ops [⟨some 4, none, .op (.mv (.val (.int (-1))))⟩])
  (.ret)))
def f65 (G : Nat → AVal) : AFn := ⟨19, [.tmp 4], f65m G⟩

theorem f65_c (G : Nat → AVal) : cmpFn Tryd.prog G [] 65 = some (f65 G) := by kernel_rfl


def f66m (G : Nat → AVal) : MC :=
  .seq (.ops [⟨some 3, none, .op (.mv (.val (.bool false)))⟩])
  (.seq (.ops [⟨some 4, none, .op (.load false 1 1)⟩,
    ⟨some 5, none, .op (.mv 0)⟩,
    ⟨some 6, none, .callV 4 [5]⟩,
    ⟨some 7, none, .op (.un .not 6)⟩,
    ⟨some 3, none, .op (.mv 7)⟩])
  (.ret))
def f66 (G : Nat → AVal) : AFn := ⟨8, [.tmp 3], f66m G⟩

theorem f66_c (G : Nat → AVal) : cmpFn Tryd.prog G [] 66 = some (f66 G) := by kernel_rfl

def f26b0 (G : Nat → AVal) : MC :=
  .seq (.ops [⟨some 9, none, .op (.bin .lss .int 8 7)⟩])
  (.seq (.cond 9
   (.skip)
   (.exit 0))
  (.seq (.block 1
   (.seq (.ops [⟨some 10, none, .op (.mv 8)⟩,
     ⟨some 5, none, .op (.mv 10)⟩])
   (.seq (.ops [⟨some 11, none, .op (.mv 1)⟩,
     ⟨some 12, none, .op (.mv 0)⟩,
     ⟨some 13, none, .op (.mv 5)⟩,
     ⟨some 14, none, .op (.iaddr 1 12 13)⟩,
     ⟨some 15, none, .op (.load false 1 14)⟩,
     ⟨some 16, none, .op (.bin .eql .str 11 15)⟩])
   (.cond 16
    (.seq (.ops [⟨some 17, none, .op (.mv 5)⟩,
      ⟨some 4, none, .op (.mv 17)⟩])
    (.ret))
    (.skip)))))
  (.ops [⟨some 18, none, .op (.bin .add .int 8 (.val (.int 1)))⟩,
    ⟨some 8, none, .op (.mv 18)⟩])))

def f26m (G : Nat → AVal) : MC :=
  .seq (.ops [⟨some 4, none, .op (.mv (.val (.int 0)))⟩])
  (.seq (.seq (.ops [⟨some 6, none, .op (.mv 0)⟩,
    ⟨some 7, none, .op (.lenS 6)⟩,
    ⟨some 8, none, .op (.mv (.val (.int 0)))⟩])
  (.block 0
   (.loop (f26b0 G))))
  (.seq (.ops [⟨some 4, none, .op (.mv (.val (.int (-1))))⟩])
  (.ret)))
def f26 (G : Nat → AVal) : AFn := ⟨19, [.tmp 4], f26m G⟩

theorem f26_c (G : Nat → AVal) : cmpFn Tryd.prog G [] 26 = some (f26 G) := by kernel_rfl

end Go.Abs
