/- Written by Show.lean: functions of the seat YtjoehmgnapdhaabGreatDoor, translated; the checks. Conditions: none. -/
import Derived.Test.YtjoehmgnapdhaabGreatDoorA25
import Derived.Test.YtjoehmgnapdhaabGreatDoorProg
import Derived.KernelRfl
set_option linter.unusedVariables false
namespace Go.Abs
open Go Go.RowKit Go.Proofs

def f67b0 (G : Nat → AVal) : MC :=
  .block 1
   (.seq (.ops [⟨some 13, none, .op (.mv 0)⟩,
     ⟨some 14, none, .call 84 [13, (.val (.str [32, 9, 10, 13]))]⟩,
     ⟨some 0, none, .op (.mv 14)⟩])
   (.seq (.seq (.ops [⟨some 15, none, .op (.mv 0)⟩,
     ⟨some 16, none, .op (.bin .eql .str 15 (.val (.str [])))⟩])
   (.cond 16
    (.seq (.ops [⟨some 17, none, .op (.mv 4)⟩,
      ⟨some 2, none, .op (.mv 17)⟩,
      ⟨some 3, none, .op (.mv (.val (.int 0)))⟩])
    (.ret))
    (.skip)))
   (.seq (.ops [⟨some 5, none, .op (.mv (.val (.clo (.func 85) [] [])))⟩])
   (.seq (.seq (.ops [⟨some 18, none, .op (.mv 0)⟩,
     ⟨some 19, none, .op (.idxS 18 (.val (.int 0)))⟩,
     ⟨some 6, none, .op (.mv 19)⟩])
   (.block 2
    (.seq (.ops [⟨some 21, none, .op (.mv 6)⟩,
      ⟨some 22, none, .call 51 [21]⟩,
      ⟨some 20, none, .op (.mv 22)⟩])
    (.cond 20
     (.ops [⟨some 5, none, .op (.mv (.val (.clo (.func 86) [] [])))⟩])
     (.seq (.ops [⟨some 24, none, .op (.mv 6)⟩,
       ⟨some 25, none, .call 78 [24]⟩,
       ⟨some 23, none, .op (.mv 25)⟩])
     (.cond 23
      (.ops [⟨some 5, none, .op (.mv (.val (.clo (.func 87) [] [])))⟩])
      (.seq (.ops [⟨some 27, none, .op (.mv 6)⟩,
        ⟨some 28, none, .op (.bin .eql .int 27 (.val (.atom (.int .u8 39))))⟩,
        ⟨some 26, none, .op (.mv 28)⟩])
      (.cond 26
       (.ops [⟨some 5, none, .op (.mv (.val (.clo (.func 88) [] [])))⟩])
       (.skip)))))))))
   (.seq (.ops [⟨some 30, none, .op (.mv 5)⟩,
     ⟨some 31, none, .op (.mv 0)⟩,
     ⟨some 32, none, .callV 30 [31]⟩,
     ⟨some 29, none, .op (.mv 32)⟩,
     ⟨some 33, none, .op (.extract 29 0)⟩,
     ⟨some 34, none, .op (.extract 29 1)⟩,
     ⟨some 35, none, .op (.extract 29 2)⟩,
     ⟨some 7, none, .op (.alloc 4 [.int 0, .str [], .int 0, .int 0])⟩,
     ⟨none, none, .op (.store true 4 7 33)⟩,
     ⟨some 8, none, .op (.mv 34)⟩,
     ⟨some 9, none, .op (.mv 35)⟩])
   (.seq (.seq (.ops [⟨some 36, none, .op (.mv 9)⟩,
     ⟨some 37, none, .op (.bin .neq .int 36 (.val (.int 0)))⟩])
   (.cond 37
    (.seq (.ops [⟨some 38, none, .op (.mv 9)⟩,
      ⟨some 2, none, .op (.mv (.val .nilS))⟩,
      ⟨some 3, none, .op (.mv 38)⟩])
    (.ret))
    (.skip)))
   (.seq (.ops [⟨some 39, none, .op (.mv 4)⟩,
     ⟨some 40, none, .op (.load true 4 7)⟩,
     ⟨some 41, none, .op (.bslice true 4 1 [.int 0, .str [], .int 0, .int 0] [(0, 40)])⟩,
     ⟨some 42, none, .op (.append 4 40 39 41)⟩,
     ⟨some 4, none, .op (.mv 42)⟩])
   (.ops [⟨some 43, none, .op (.mv 0)⟩,
     ⟨some 44, none, .op (.mv 8)⟩,
     ⟨some 45, none, .op (.sslc 43 (some 44) none)⟩,
     ⟨some 0, none, .op (.mv 45)⟩]))))))))

def f67m (G : Nat → AVal) : MC :=
  .seq (.ops [⟨some 2, none, .op (.mv (.val .nilS))⟩,
    ⟨some 3, none, .op (.mv (.val (.int 0)))⟩])
  (.seq (.seq (.ops [⟨some 10, none, .op (.mv 0)⟩,
    ⟨some 11, none, .op (.lenStr 10)⟩,
    ⟨some 12, none, .op (.bin .gtr .int 11 (.val (.int 4000)))⟩])
  (.cond 12
   (.seq (.ops [⟨some 2, none, .op (.mv (.val .nilS))⟩,
     ⟨some 3, none, .op (.mv (.val (.int 1)))⟩])
   (.ret))
   (.skip)))
  (.seq (.ops [⟨some 4, none, .op (.mv (.val .nilS))⟩])
  (.block 0
   (.loop (f67b0 G)))))
def f67 (G : Nat → AVal) : AFn := ⟨46, [.tmp 2, .tmp 3], f67m G⟩

theorem f67_c (G : Nat → AVal) : cmpFn Tryz.prog G [] 67 = some (f67 G) := by kernel_rfl


def f55m (G : Nat → AVal) : MC :=
  .seq (.ops [⟨some 2, none, .op (.mv (.val (.bool false)))⟩])
  (.seq (.seq (.ops [⟨some 3, none, .op (.mv 0)⟩])
  (.block 0
   (.seq (.seq (.ops [⟨some 5, none, .op (.bin .eql .str 3 (.val (.str [97, 110, 100])))⟩,
     ⟨some 4, none, .op (.mv 5)⟩])
   (.cond 4
    (.skip)
    (.seq (.ops [⟨some 6, none, .op (.bin .eql .str 3 (.val (.str [97, 115])))⟩,
      ⟨some 4, none, .op (.mv 6)⟩])
    (.cond 4
     (.skip)
     (.seq (.ops [⟨some 7, none, .op (.bin .eql .str 3 (.val (.str [98, 101, 103, 105, 110])))⟩,
       ⟨some 4, none, .op (.mv 7)⟩])
     (.cond 4
      (.skip)
      (.seq (.ops [⟨some 8, none, .op (.bin .eql .str 3 (.val (.str [98, 111, 111, 108])))⟩,
        ⟨some 4, none, .op (.mv 8)⟩])
      (.cond 4
       (.skip)
       (.seq (.ops [⟨some 9, none, .op (.bin .eql .str 3 (.val (.str [98, 121])))⟩,
         ⟨some 4, none, .op (.mv 9)⟩])
       (.cond 4
        (.skip)
        (.seq (.ops [⟨some 10, none, .op (.bin .eql .str 3 (.val (.str [99, 111, 109, 109, 105, 116])))⟩,
          ⟨some 4, none, .op (.mv 10)⟩])
        (.cond 4
         (.skip)
         (.seq (.ops [⟨some 11, none, .op (.bin .eql .str 3 (.val (.str [99, 114, 101, 97, 116, 101])))⟩,
           ⟨some 4, none, .op (.mv 11)⟩])
         (.cond 4
          (.skip)
          (.seq (.ops [⟨some 12, none, .op (.bin .eql .str 3 (.val (.str [100, 101, 108, 101, 116, 101])))⟩,
            ⟨some 4, none, .op (.mv 12)⟩])
          (.cond 4
           (.skip)
           (.seq (.ops [⟨some 13, none, .op (.bin .eql .str 3 (.val (.str [100, 101, 115, 99])))⟩,
             ⟨some 4, none, .op (.mv 13)⟩])
           (.cond 4
            (.skip)
            (.seq (.ops [⟨some 14, none, .op (.bin .eql .str 3 (.val (.str [100, 114, 111, 112])))⟩,
              ⟨some 4, none, .op (.mv 14)⟩])
            (.cond 4
             (.skip)
             (.seq (.ops [⟨some 15, none, .op (.bin .eql .str 3 (.val (.str [102, 97, 108, 115, 101])))⟩,
               ⟨some 4, none, .op (.mv 15)⟩])
             (.cond 4
              (.skip)
              (.seq (.ops [⟨some 16, none, .op (.bin .eql .str 3 (.val (.str [102, 114, 111, 109])))⟩,
                ⟨some 4, none, .op (.mv 16)⟩])
              (.cond 4
               (.skip)
               (.seq (.ops [⟨some 17, none, .op (.bin .eql .str 3 (.val (.str [105, 110, 100, 101, 120])))⟩,
                 ⟨some 4, none, .op (.mv 17)⟩])
               (.cond 4
                (.skip)
                (.seq (.ops [⟨some 18, none, .op (.bin .eql .str 3 (.val (.str [105, 110, 102, 105, 110, 105, 116, 121])))⟩,
                  ⟨some 4, none, .op (.mv 18)⟩])
                (.cond 4
                 (.skip)
                 (.seq (.ops [⟨some 19, none, .op (.bin .eql .str 3 (.val (.str [105, 110, 110, 101, 114])))⟩,
                   ⟨some 4, none, .op (.mv 19)⟩])
                 (.cond 4
                  (.skip)
                  (.seq (.ops [⟨some 20, none, .op (.bin .eql .str 3 (.val (.str [105, 110, 115, 101, 114, 116])))⟩,
                    ⟨some 4, none, .op (.mv 20)⟩])
                  (.cond 4
                   (.skip)
                   (.seq (.ops [⟨some 21, none, .op (.bin .eql .str 3 (.val (.str [105, 110, 116])))⟩,
                     ⟨some 4, none, .op (.mv 21)⟩])
                   (.cond 4
                    (.skip)
                    (.seq (.ops [⟨some 22, none, .op (.bin .eql .str 3 (.val (.str [105, 110, 116, 111])))⟩,
                      ⟨some 4, none, .op (.mv 22)⟩])
                    (.cond 4
                     (.skip)
                     (.seq (.ops [⟨some 23, none, .op (.bin .eql .str 3 (.val (.str [105, 115])))⟩,
                       ⟨some 4, none, .op (.mv 23)⟩])
                     (.cond 4
                      (.skip)
                      (.seq (.ops [⟨some 24, none, .op (.bin .eql .str 3 (.val (.str [106, 111, 105, 110])))⟩,
                        ⟨some 4, none, .op (.mv 24)⟩])
                      (.cond 4
                       (.skip)
                       (.seq (.ops [⟨some 25, none, .op (.bin .eql .str 3 (.val (.str [110, 97, 110])))⟩,
                         ⟨some 4, none, .op (.mv 25)⟩])
                       (.cond 4
                        (.skip)
                        (.seq (.ops [⟨some 26, none, .op (.bin .eql .str 3 (.val (.str [110, 111, 116])))⟩,
                          ⟨some 4, none, .op (.mv 26)⟩])
                        (.cond 4
                         (.skip)
                         (.seq (.ops [⟨some 27, none, .op (.bin .eql .str 3 (.val (.str [110, 117, 108, 108])))⟩,
                           ⟨some 4, none, .op (.mv 27)⟩])
                         (.cond 4
                          (.skip)
                          (.seq (.ops [⟨some 28, none, .op (.bin .eql .str 3 (.val (.str [111, 110])))⟩,
                            ⟨some 4, none, .op (.mv 28)⟩])
                          (.cond 4
                           (.skip)
                           (.seq (.ops [⟨some 29, none, .op (.bin .eql .str 3 (.val (.str [111, 114])))⟩,
                             ⟨some 4, none, .op (.mv 29)⟩])
                           (.cond 4
                            (.skip)
                            (.seq (.ops [⟨some 30, none, .op (.bin .eql .str 3 (.val (.str [111, 114, 100, 101, 114])))⟩,
                              ⟨some 4, none, .op (.mv 30)⟩])
                            (.cond 4
                             (.skip)
                             (.seq (.ops [⟨some 31, none, .op (.bin .eql .str 3 (.val (.str [114, 101, 97, 108])))⟩,
                               ⟨some 4, none, .op (.mv 31)⟩])
                             (.cond 4
                              (.skip)
                              (.seq (.ops [⟨some 32, none, .op (.bin .eql .str 3 (.val (.str [114, 111, 108, 108, 98, 97, 99, 107])))⟩,
                                ⟨some 4, none, .op (.mv 32)⟩])
                              (.cond 4
                               (.skip)
                               (.seq (.ops [⟨some 33, none, .op (.bin .eql .str 3 (.val (.str [115, 101, 108, 101, 99, 116])))⟩,
                                 ⟨some 4, none, .op (.mv 33)⟩])
                               (.cond 4
                                (.skip)
                                (.seq (.ops [⟨some 34, none, .op (.bin .eql .str 3 (.val (.str [115, 101, 116])))⟩,
                                  ⟨some 4, none, .op (.mv 34)⟩])
                                (.cond 4
                                 (.skip)
                                 (.seq (.ops [⟨some 35, none, .op (.bin .eql .str 3 (.val (.str [116, 97, 98, 108, 101])))⟩,
                                   ⟨some 4, none, .op (.mv 35)⟩])
                                 (.cond 4
                                  (.skip)
                                  (.seq (.ops [⟨some 36, none, .op (.bin .eql .str 3 (.val (.str [116, 101, 120, 116])))⟩,
                                    ⟨some 4, none, .op (.mv 36)⟩])
                                  (.cond 4
                                   (.skip)
                                   (.seq (.ops [⟨some 37, none, .op (.bin .eql .str 3 (.val (.str [116, 114, 117, 101])))⟩,
                                     ⟨some 4, none, .op (.mv 37)⟩])
                                   (.cond 4
                                    (.skip)
                                    (.seq (.ops [⟨some 38, none, .op (.bin .eql .str 3 (.val (.str [117, 110, 105, 113, 117, 101])))⟩,
                                      ⟨some 4, none, .op (.mv 38)⟩])
                                    (.cond 4
                                     (.skip)
                                     (.seq (.ops [⟨some 39, none, .op (.bin .eql .str 3 (.val (.str [117, 112, 100, 97, 116, 101])))⟩,
                                       ⟨some 4, none, .op (.mv 39)⟩])
                                     (.cond 4
                                      (.skip)
                                      (.seq (.ops [⟨some 40, none, .op (.bin .eql .str 3 (.val (.str [118, 97, 108, 117, 101, 115])))⟩,
                                        ⟨some 4, none, .op (.mv 40)⟩])
                                      (.cond 4
                                       (.skip)
                                       (.ops [⟨some 41, none, .op (.bin .eql .str 3 (.val (.str [119, 104, 101, 114, 101])))⟩,
                                         ⟨some 4, none, .op (.mv 41)⟩])))))))))))))))))))))))))))))))))))))))))))))))))))))))))))))))))))))))))
   (.cond 4
    (.seq (.ops [⟨some 2, none, .op (.mv (.val (.bool true)))⟩])
    (.ret))
    (.skip)))))
  (.seq (.ops [⟨some 2, none, .op (.mv (.val (.bool false)))⟩])
  (.ret)))
def f55 (G : Nat → AVal) : AFn := ⟨42, [.tmp 2], f55m G⟩

theorem f55_c (G : Nat → AVal) : cmpFn Tryz.prog G [] 55 = some (f55 G) := by kernel_rfl


def f26m (G : Nat → AVal) : MC :=
  .seq (.ops [⟨some 2, none, .op (.mv (.val (.bool false)))⟩])
  (.seq (.ops [⟨some 3, none, .op (.mv 0)⟩,
    ⟨some 4, none, .op (.bin .neq .str 3 (.val (.str [])))⟩,
    ⟨some 5, none, .op (.mv 4)⟩,
    ⟨some 6, some (5, true), .op (.mv 0)⟩,
    ⟨some 7, some (5, true), .op (.lenStr 6)⟩,
    ⟨some 8, some (5, true), .op (.bin .leq .int 7 (.val (.int 32)))⟩,
    ⟨some 9, none, .op (.pick 5 8 (.val (.bool false)))⟩,
    ⟨some 10, none, .op (.mv 9)⟩,
    ⟨some 11, some (10, true), .op (.mv 0)⟩,
    ⟨some 12, some (10, true), .op (.idxS 11 (.val (.int 0)))⟩,
    ⟨some 13, some (10, true), .call 51 [12]⟩,
    ⟨some 14, none, .op (.pick 10 13 (.val (.bool false)))⟩,
    ⟨some 15, none, .op (.mv 14)⟩,
    ⟨some 16, some (15, true), .op (.mv 0)⟩,
    ⟨some 17, some (15, true), .call 52 [16, (.val (.clo (.func 53) [] []))]⟩,
    ⟨some 18, some (15, true), .op (.mv 0)⟩,
    ⟨some 19, some (15, true), .op (.lenStr 18)⟩,
    ⟨some 20, some (15, true), .op (.bin .eql .int 17 19)⟩,
    ⟨some 21, none, .op (.pick 15 20 (.val (.bool false)))⟩,
    ⟨some 22, none, .op (.mv 21)⟩,
    ⟨some 23, some (22, true), .op (.mv 0)⟩,
    ⟨some 24, some (22, true), .op (.mv 0)⟩,
    ⟨some 25, some (22, true), .call 54 [24]⟩,
    ⟨some 26, some (22, true), .op (.bin .eql .str 23 25)⟩,
    ⟨some 27, none, .op (.pick 22 26 (.val (.bool false)))⟩,
    ⟨some 28, none, .op (.mv 27)⟩,
    ⟨some 29, some (28, true), .op (.mv 0)⟩,
    ⟨some 30, some (28, true), .call 55 [29]⟩,
    ⟨some 31, some (28, true), .op (.un .not 30)⟩,
    ⟨some 32, none, .op (.pick 28 31 (.val (.bool false)))⟩,
    ⟨some 2, none, .op (.mv 32)⟩])
  (.ret))
def f26 (G : Nat → AVal) : AFn := ⟨33, [.tmp 2], f26m G⟩

theorem f26_c (G : Nat → AVal) : cmpFn Tryz.prog G [] 26 = some (f26 G) := by kernel_rfl


def f84m (G : Nat → AVal) : MC :=
  .seq (.ops [⟨some 4, none, .op (.mv (.val (.str [])))⟩])
  (.seq (.seq (.ops [⟨some 7, none, .op (.mv 0)⟩,
    ⟨some 8, none, .op (.bin .eql .str 7 (.val (.str [])))⟩,
    ⟨some 9, none, .op (.mv 8)⟩,
    ⟨some 10, some (9, false), .op (.mv 1)⟩,
    ⟨some 11, some (9, false), .op (.bin .eql .str 10 (.val (.str [])))⟩,
    ⟨some 12, none, .op (.pick 9 (.val (.bool true)) 11)⟩])
  (.cond 12
   (.seq (.ops [⟨some 13, none, .op (.mv 0)⟩,
     ⟨some 4, none, .op (.mv 13)⟩])
   (.ret))
   (.skip)))
  (.seq (.seq (.ops [⟨some 14, none, .op (.mv 1)⟩,
    ⟨some 15, none, .op (.lenStr 14)⟩,
    ⟨some 16, none, .op (.bin .eql .int 15 (.val (.int 1)))⟩,
    ⟨some 17, none, .op (.mv 16)⟩,
    ⟨some 18, some (17, true), .op (.mv 1)⟩,
    ⟨some 19, some (17, true), .op (.idxS 18 (.val (.int 0)))⟩,
    ⟨some 20, some (17, true), .op (.bin .lss .int 19 (.val (.atom (.int .u8 128))))⟩,
    ⟨some 21, none, .op (.pick 17 20 (.val (.bool false)))⟩])
  (.cond 21
   (.seq (.ops [⟨some 22, none, .op (.mv 0)⟩,
     ⟨some 23, none, .op (.mv 1)⟩,
     ⟨some 24, none, .op (.idxS 23 (.val (.int 0)))⟩,
     ⟨some 25, none, .call 109 [22, 24]⟩,
     ⟨some 4, none, .op (.mv 25)⟩])
   (.ret))
   (.skip)))
  (.seq (.seq (.ops [⟨some 27, none, .op (.mv 1)⟩,
    ⟨some 28, none, .call 110 [27]⟩,
    ⟨some 26, none, .op (.mv 28)⟩,
    ⟨some 29, none, .op (.extract 26 0)⟩,
    ⟨some 30, none, .op (.extract 26 1)⟩,
    ⟨some 5, none, .op (.alloc 256 [.bool false, .bool false, .bool false, .bool false, .bool false, .bool false, .bool false, .bool false, .bool false, .bool false, .bool false, .bool false, .bool false, .bool false, .bool false, .bool false, .bool false, .bool false, .bool false, .bool false, .bool false, .bool false, .bool false, .bool false, .bool false, .bool false, .bool false, .bool false, .bool false, .bool false, .bool false, .bool false, .bool false, .bool false, .bool false, .bool false, .bool false, .bool false, .bool false, .bool false, .bool false, .bool false, .bool false, .bool false, .bool false, .bool false, .bool false, .bool false, .bool false, .bool false, .bool false, .bool false, .bool false, .bool false, .bool false, .bool false, .bool false, .bool false, .bool false, .bool false, .bool false, .bool false, .bool false, .bool false, .bool false, .bool false, .bool false, .bool false, .bool false, .bool false, .bool false, .bool false, .bool false, .bool false, .bool false, .bool false, .bool false, .bool false, .bool false, .bool false, .bool false, .bool false, .bool false, .bool false, .bool false, .bool false, .bool false, .bool false, .bool false, .bool false, .bool false, .bool false, .bool false, .bool false, .bool false, .bool false, .bool false, .bool false, .bool false, .bool false, .bool false, .bool false, .bool false, .bool false, .bool false, .bool false, .bool false, .bool false, .bool false, .bool false, .bool false, .bool false, .bool false, .bool false, .bool false, .bool false, .bool false, .bool false, .bool false, .bool false, .bool false, .bool false, .bool false, .bool false, .bool false, .bool false, .bool false, .bool false, .bool false, .bool false, .bool false, .bool false, .bool false, .bool false, .bool false, .bool false, .bool false, .bool false, .bool false, .bool false, .bool false, .bool false, .bool false, .bool false, .bool false, .bool false, .bool false, .bool false, .bool false, .bool false, .bool false, .bool false, .bool false, .bool false, .bool false, .bool false, .bool false, .bool false, .bool false, .bool false, .bool false, .bool false, .bool false, .bool false, .bool false, .bool false, .bool false, .bool false, .bool false, .bool false, .bool false, .bool false, .bool false, .bool false, .bool false, .bool false, .bool false, .bool false, .bool false, .bool false, .bool false, .bool false, .bool false, .bool false, .bool false, .bool false, .bool false, .bool false, .bool false, .bool false, .bool false, .bool false, .bool false, .bool false, .bool false, .bool false, .bool false, .bool false, .bool false, .bool false, .bool false, .bool false, .bool false, .bool false, .bool false, .bool false, .bool false, .bool false, .bool false, .bool false, .bool false, .bool false, .bool false, .bool false, .bool false, .bool false, .bool false, .bool false, .bool false, .bool false, .bool false, .bool false, .bool false, .bool false, .bool false, .bool false, .bool false, .bool false, .bool false, .bool false, .bool false, .bool false, .bool false, .bool false, .bool false, .bool false, .bool false, .bool false, .bool false, .bool false, .bool false, .bool false, .bool false, .bool false, .bool false, .bool false, .bool false, .bool false, .bool false, .bool false, .bool false, .bool false, .bool false, .bool false, .bool false, .bool false])⟩,
    ⟨none, none, .op (.store true 256 5 29)⟩,
    ⟨some 6, none, .op (.mv 30)⟩])
  (.seq (.ops [⟨some 31, none, .op (.mv 6)⟩])
  (.cond 31
   (.seq (.ops [⟨some 32, none, .op (.mv 0)⟩,
     ⟨some 33, none, .call 111 [32, 5]⟩,
     ⟨some 4, none, .op (.mv 33)⟩])
   (.ret))
   (.skip))))
  (.seq (.ops [⟨some 34, none, .op (.mv 0)⟩,
    ⟨some 35, none, .op (.mv 1)⟩,
    ⟨some 36, none, .call 112 [34, 35]⟩,
    ⟨some 4, none, .op (.mv 36)⟩])
  (.ret)))))
def f84 (G : Nat → AVal) : AFn := ⟨37, [.tmp 4], f84m G⟩

theorem f84_c (G : Nat → AVal) : cmpFn Tryz.prog G [] 84 = some (f84 G) := by kernel_rfl


def f85m (G : Nat → AVal) : MC :=
  .seq (.ops [⟨some 2, none, .op (.alloc 4 [.int 0, .str [], .int 0, .int 0])⟩,
    ⟨some 3, none, .op (.mv (.val (.int 0)))⟩,
    ⟨some 4, none, .op (.mv (.val (.int 0)))⟩])
  (.seq (.ops [⟨some 5, none, .op (.mv (.val (.int 1)))⟩])
  (.seq (.seq (.ops [⟨some 6, none, .op (.mv 0)⟩,
    ⟨some 7, none, .op (.lenStr 6)⟩,
    ⟨some 8, none, .op (.bin .gtr .int 7 (.val (.int 1)))⟩,
    ⟨some 9, none, .op (.mv 8)⟩,
    ⟨some 10, some (9, true), .op (.bslice false 1 4 [.str []] [(0, (.val (.str [60, 62]))), (1, (.val (.str [60, 61]))), (2, (.val (.str [62, 61]))), (3, (.val (.str [124, 124])))])⟩,
    ⟨some 11, some (9, true), .op (.mv 0)⟩,
    ⟨some 12, some (9, true), .op (.sslc 11 none (some (.val (.int 2))))⟩,
    ⟨some 13, some (9, true), .call 113 [10, 12]⟩,
    ⟨some 14, none, .op (.pick 9 13 (.val (.bool false)))⟩])
  (.cond 14
   (.ops [⟨some 5, none, .op (.mv (.val (.int 2)))⟩])
   (.seq (.ops [⟨some 15, none, .op (.mv 0)⟩,
     ⟨some 16, none, .op (.idxS 15 (.val (.int 0)))⟩,
     ⟨some 17, none, .call 114 [(.val (.str [40, 41, 44, 46, 42, 43, 45, 47, 37, 61, 60, 62])), 16]⟩,
     ⟨some 18, none, .op (.bin .lss .int 17 (.val (.int 0)))⟩])
   (.cond 18
    (.seq (.ops [⟨some 19, none, .op (.build [.int 0, .str [], .int 0, .int 0] [])⟩,
      ⟨none, none, .op (.store true 4 2 19)⟩,
      ⟨some 3, none, .op (.mv (.val (.int 0)))⟩,
      ⟨some 4, none, .op (.mv (.val (.int 120)))⟩])
    (.ret))
    (.skip)))))
  (.seq (.ops [⟨some 20, none, .op (.mv 0)⟩,
    ⟨some 21, none, .op (.mv 5)⟩,
    ⟨some 22, none, .op (.sslc 20 none (some 21))⟩,
    ⟨some 23, none, .op (.build [.int 0, .str [], .int 0, .int 0] [(false, 0, 1, (.val (.int 5))), (false, 1, 1, 22)])⟩,
    ⟨some 24, none, .op (.mv 5)⟩,
    ⟨none, none, .op (.store true 4 2 23)⟩,
    ⟨some 3, none, .op (.mv 24)⟩,
    ⟨some 4, none, .op (.mv (.val (.int 0)))⟩])
  (.ret))))
def f85 (G : Nat → AVal) : AFn := ⟨25, [.cell 2 true 4, .tmp 3, .tmp 4], f85m G⟩

theorem f85_c (G : Nat → AVal) : cmpFn Tryz.prog G [] 85 = some (f85 G) := by kernel_rfl


def f51m (G : Nat → AVal) : MC :=
  .seq (.ops [⟨some 2, none, .op (.mv (.val (.bool false)))⟩])
  (.seq (.ops [⟨some 3, none, .op (.mv 0)⟩,
    ⟨some 4, none, .op (.bin .geq .int 3 (.val (.atom (.int .u8 97))))⟩,
    ⟨some 5, none, .op (.mv 4)⟩,
    ⟨some 6, some (5, true), .op (.mv 0)⟩,
    ⟨some 7, some (5, true), .op (.bin .leq .int 6 (.val (.atom (.int .u8 122))))⟩,
    ⟨some 8, none, .op (.pick 5 7 (.val (.bool false)))⟩,
    ⟨some 9, none, .op (.mv 8)⟩,
    ⟨some 10, some (9, false), .op (.mv 0)⟩,
    ⟨some 11, some (9, false), .op (.bin .geq .int 10 (.val (.atom (.int .u8 65))))⟩,
    ⟨some 12, some (9, false), .op (.mv 11)⟩,
    ⟨some 13, some (12, true), .op (.mv 0)⟩,
    ⟨some 14, some (12, true), .op (.bin .leq .int 13 (.val (.atom (.int .u8 90))))⟩,
    ⟨some 15, some (9, false), .op (.pick 12 14 (.val (.bool false)))⟩,
    ⟨some 16, none, .op (.pick 9 (.val (.bool true)) 15)⟩,
    ⟨some 17, none, .op (.mv 16)⟩,
    ⟨some 18, some (17, false), .op (.mv 0)⟩,
    ⟨some 19, some (17, false), .op (.bin .eql .int 18 (.val (.atom (.int .u8 95))))⟩,
    ⟨some 20, none, .op (.pick 17 (.val (.bool true)) 19)⟩,
    ⟨some 2, none, .op (.mv 20)⟩])
  (.ret))
def f51 (G : Nat → AVal) : AFn := ⟨21, [.tmp 2], f51m G⟩

theorem f51_c (G : Nat → AVal) : cmpFn Tryz.prog G [] 51 = some (f51 G) := by kernel_rfl


def f86m (G : Nat → AVal) : MC :=
  .seq (.ops [⟨some 2, none, .op (.alloc 4 [.int 0, .str [], .int 0, .int 0])⟩,
    ⟨some 3, none, .op (.mv (.val (.int 0)))⟩,
    ⟨some 4, none, .op (.mv (.val (.int 0)))⟩])
  (.seq (.ops [⟨some 6, none, .op (.mv 0)⟩,
    ⟨some 7, none, .call 52 [6, (.val (.clo (.func 53) [] []))]⟩,
    ⟨some 5, none, .op (.mv 7)⟩])
  (.seq (.seq (.ops [⟨some 8, none, .op (.mv 5)⟩,
    ⟨some 9, none, .op (.bin .gtr .int 8 (.val (.int 32)))⟩])
  (.cond 9
   (.seq (.ops [⟨some 10, none, .op (.build [.int 0, .str [], .int 0, .int 0] [])⟩,
     ⟨none, none, .op (.store true 4 2 10)⟩,
     ⟨some 3, none, .op (.mv (.val (.int 0)))⟩,
     ⟨some 4, none, .op (.mv (.val (.int 122)))⟩])
   (.ret))
   (.skip)))
  (.seq (.ops [⟨some 11, none, .op (.mv 0)⟩,
    ⟨some 12, none, .op (.mv 5)⟩,
    ⟨some 13, none, .op (.sslc 11 none (some 12))⟩,
    ⟨some 14, none, .call 54 [13]⟩,
    ⟨some 15, none, .op (.build [.int 0, .str [], .int 0, .int 0] [(false, 0, 1, (.val (.int 1))), (false, 1, 1, 14)])⟩,
    ⟨some 16, none, .op (.mv 5)⟩,
    ⟨none, none, .op (.store true 4 2 15)⟩,
    ⟨some 3, none, .op (.mv 16)⟩,
    ⟨some 4, none, .op (.mv (.val (.int 0)))⟩])
  (.ret))))
def f86 (G : Nat → AVal) : AFn := ⟨17, [.cell 2 true 4, .tmp 3, .tmp 4], f86m G⟩

theorem f86_c (G : Nat → AVal) : cmpFn Tryz.prog G [] 86 = some (f86 G) := by kernel_rfl


def f78m (G : Nat → AVal) : MC :=
  .seq (.ops [⟨some 2, none, .op (.mv (.val (.bool false)))⟩])
  (.seq (.ops [⟨some 3, none, .op (.mv 0)⟩,
    ⟨some 4, none, .op (.bin .geq .int 3 (.val (.atom (.int .u8 48))))⟩,
    ⟨some 5, none, .op (.mv 4)⟩,
    ⟨some 6, some (5, true), .op (.mv 0)⟩,
    ⟨some 7, some (5, true), .op (.bin .leq .int 6 (.val (.atom (.int .u8 57))))⟩,
    ⟨some 8, none, .op (.pick 5 7 (.val (.bool false)))⟩,
    ⟨some 2, none, .op (.mv 8)⟩])
  (.ret))
def f78 (G : Nat → AVal) : AFn := ⟨9, [.tmp 2], f78m G⟩

theorem f78_c (G : Nat → AVal) : cmpFn Tryz.prog G [] 78 = some (f78 G) := by kernel_rfl


def f87m (G : Nat → AVal) : MC :=
  .seq (.ops [⟨some 2, none, .op (.alloc 4 [.int 0, .str [], .int 0, .int 0])⟩,
    ⟨some 3, none, .op (.mv (.val (.int 0)))⟩,
    ⟨some 4, none, .op (.mv (.val (.int 0)))⟩])
  (.seq (.ops [⟨some 12, none, .op (.mv 0)⟩,
    ⟨some 13, none, .call 52 [12, (.val (.clo (.func 78) [] []))]⟩,
    ⟨some 5, none, .op (.mv 13)⟩])
  (.seq (.ops [⟨some 6, none, .op (.mv (.val (.int 0)))⟩])
  (.seq (.seq (.ops [⟨some 14, none, .op (.mv 0)⟩,
    ⟨some 15, none, .op (.mv 5)⟩,
    ⟨some 16, none, .op (.sslc 14 (some 15) none)⟩,
    ⟨some 7, none, .op (.mv 16)⟩])
  (.seq (.ops [⟨some 17, none, .op (.mv 7)⟩,
    ⟨some 18, none, .call 115 [17, (.val (.str [46]))]⟩])
  (.cond 18
   (.ops [⟨some 19, none, .op (.mv 7)⟩,
     ⟨some 20, none, .op (.sslc 19 (some (.val (.int 1))) none)⟩,
     ⟨some 21, none, .call 52 [20, (.val (.clo (.func 78) [] []))]⟩,
     ⟨some 6, none, .op (.mv 21)⟩])
   (.skip))))
  (.seq (.seq (.ops [⟨some 22, none, .op (.mv 6)⟩,
    ⟨some 23, none, .op (.bin .eql .int 22 (.val (.int 0)))⟩])
  (.cond 23
   (.seq (.ops [⟨some 25, none, .op (.mv 0)⟩,
     ⟨some 26, none, .op (.mv 5)⟩,
     ⟨some 27, none, .op (.sslc 25 none (some 26))⟩,
     ⟨some 28, none, .call 116 [27]⟩,
     ⟨some 24, none, .op (.mv 28)⟩,
     ⟨some 29, none, .op (.extract 24 0)⟩,
     ⟨some 30, none, .op (.extract 24 1)⟩,
     ⟨some 8, none, .op (.mv 29)⟩,
     ⟨some 9, none, .op (.mv 30)⟩])
   (.seq (.seq (.ops [⟨some 31, none, .op (.mv 5)⟩,
     ⟨some 32, none, .op (.bin .gtr .int 31 (.val (.int 19)))⟩,
     ⟨some 33, none, .op (.mv 32)⟩,
     ⟨some 34, some (33, false), .op (.mv 9)⟩,
     ⟨some 35, some (33, false), .op (.un .not 34)⟩,
     ⟨some 36, none, .op (.pick 33 (.val (.bool true)) 35)⟩])
   (.cond 36
    (.seq (.ops [⟨some 37, none, .op (.build [.int 0, .str [], .int 0, .int 0] [])⟩,
      ⟨none, none, .op (.store true 4 2 37)⟩,
      ⟨some 3, none, .op (.mv (.val (.int 0)))⟩,
      ⟨some 4, none, .op (.mv (.val (.int 11)))⟩])
    (.ret))
    (.skip)))
   (.seq (.ops [⟨some 38, none, .op (.mv 8)⟩,
     ⟨some 39, none, .op (.build [.int 0, .str [], .int 0, .int 0] [(false, 0, 1, (.val (.int 2))), (false, 2, 1, 38)])⟩,
     ⟨some 40, none, .op (.mv 5)⟩,
     ⟨none, none, .op (.store true 4 2 39)⟩,
     ⟨some 3, none, .op (.mv 40)⟩,
     ⟨some 4, none, .op (.mv (.val (.int 0)))⟩])
   (.ret))))
   (.skip)))
  (.seq (.seq (.ops [⟨some 41, none, .op (.mv 5)⟩,
    ⟨some 42, none, .op (.mv 6)⟩,
    ⟨some 43, none, .op (.bin .add .int 41 42)⟩,
    ⟨some 44, none, .op (.bin .gtr .int 43 (.val (.int 15)))⟩])
  (.cond 44
   (.seq (.ops [⟨some 45, none, .op (.build [.int 0, .str [], .int 0, .int 0] [])⟩,
     ⟨none, none, .op (.store true 4 2 45)⟩,
     ⟨some 3, none, .op (.mv (.val (.int 0)))⟩,
     ⟨some 4, none, .op (.mv (.val (.int 11)))⟩])
   (.ret))
   (.skip)))
  (.seq (.draw (.rd [⟨0, ⟨some 47, none, .op (.mv 0)⟩, false, false⟩,
     ⟨1, ⟨some 48, none, .op (.mv 5)⟩, false, false⟩,
     ⟨2, ⟨some 49, none, .op (.sslc 47 none (some 48))⟩, false, false⟩,
     ⟨3, ⟨some 50, none, .op (.mv 0)⟩, false, false⟩,
     ⟨4, ⟨some 51, none, .op (.mv 5)⟩, false, false⟩,
     ⟨5, ⟨some 52, none, .op (.bin .add .int 51 (.val (.int 1)))⟩, false, false⟩,
     ⟨6, ⟨some 53, none, .op (.mv 5)⟩, false, false⟩,
     ⟨7, ⟨some 54, none, .op (.bin .add .int 53 (.val (.int 1)))⟩, false, false⟩,
     ⟨8, ⟨some 55, none, .op (.mv 6)⟩, false, false⟩,
     ⟨9, ⟨some 56, none, .op (.bin .add .int 54 55)⟩, false, false⟩,
     ⟨10, ⟨some 57, none, .op (.sslc 50 (some 52) (some 56))⟩, false, false⟩,
     ⟨11, ⟨some 58, none, .op (.bin .add .int 49 57)⟩, false, false⟩]
   (.ef ⟨12, ⟨some 59, none, .call 116 [58]⟩, true, false⟩ []
   (.rd [⟨13, ⟨some 46, none, .op (.mv 59)⟩, false, false⟩,
     ⟨14, ⟨some 60, none, .op (.extract 46 0)⟩, false, false⟩,
     ⟨15, ⟨some 61, none, .op (.extract 46 1)⟩, false, false⟩,
     ⟨16, ⟨some 10, none, .op (.mv 60)⟩, false, false⟩,
     ⟨17, ⟨some 11, none, .op (.mv 61)⟩, false, false⟩]
   (.nil)))))
  (.seq (.ops [⟨some 62, none, .op (.mv 10)⟩,
    ⟨some 63, none, .op (.mv 6)⟩,
    ⟨some 64, none, .op (.build [.int 0, .str [], .int 0, .int 0] [(false, 0, 1, (.val (.int 3))), (false, 2, 1, 62), (false, 3, 1, 63)])⟩,
    ⟨some 65, none, .op (.mv 5)⟩,
    ⟨some 66, none, .op (.bin .add .int 65 (.val (.int 1)))⟩,
    ⟨some 67, none, .op (.mv 6)⟩,
    ⟨some 68, none, .op (.bin .add .int 66 67)⟩,
    ⟨none, none, .op (.store true 4 2 64)⟩,
    ⟨some 3, none, .op (.mv 68)⟩,
    ⟨some 4, none, .op (.mv (.val (.int 0)))⟩])
  (.ret))))))))
def f87 (G : Nat → AVal) : AFn := ⟨69, [.cell 2 true 4, .tmp 3, .tmp 4], f87m G⟩

theorem f87_c (G : Nat → AVal) : cmpFn Tryz.prog G [] 87 = some (f87 G) := by kernel_rfl

def f88b0 (G : Nat → AVal) : MC :=
  .block 1
   (.seq (.ops [⟨some 8, none, .op (.mv 0)⟩,
     ⟨some 9, none, .op (.mv 6)⟩,
     ⟨some 10, none, .op (.sslc 8 (some 9) none)⟩,
     ⟨some 11, none, .call 114 [10, (.val (.atom (.int .u8 39)))]⟩,
     ⟨some 7, none, .op (.mv 11)⟩])
   (.seq (.seq (.ops [⟨some 12, none, .op (.mv 7)⟩,
     ⟨some 13, none, .op (.bin .lss .int 12 (.val (.int 0)))⟩])
   (.cond 13
    (.seq (.ops [⟨some 14, none, .op (.build [.int 0, .str [], .int 0, .int 0] [])⟩,
      ⟨none, none, .op (.store true 4 2 14)⟩,
      ⟨some 3, none, .op (.mv (.val (.int 0)))⟩,
      ⟨some 4, none, .op (.mv (.val (.int 121)))⟩])
    (.ret))
    (.skip)))
   (.seq (.ops [⟨some 15, none, .op (.mv 5)⟩,
     ⟨some 16, none, .op (.mv 0)⟩,
     ⟨some 17, none, .op (.mv 6)⟩,
     ⟨some 18, none, .op (.mv 6)⟩,
     ⟨some 19, none, .op (.mv 7)⟩,
     ⟨some 20, none, .op (.bin .add .int 18 19)⟩,
     ⟨some 21, none, .op (.sslc 16 (some 17) (some 20))⟩,
     ⟨some 22, none, .op (.bin .add .int 15 21)⟩,
     ⟨some 5, none, .op (.mv 22)⟩])
   (.seq (.ops [⟨some 23, none, .op (.mv 6)⟩,
     ⟨some 24, none, .op (.mv 7)⟩,
     ⟨some 25, none, .op (.bin .add .int 24 (.val (.int 1)))⟩,
     ⟨some 26, none, .op (.bin .add .int 23 25)⟩,
     ⟨some 6, none, .op (.mv 26)⟩])
   (.seq (.seq (.ops [⟨some 27, none, .op (.mv 0)⟩,
     ⟨some 28, none, .op (.mv 6)⟩,
     ⟨some 29, none, .op (.sslc 27 (some 28) none)⟩,
     ⟨some 30, none, .call 115 [29, (.val (.str [39]))]⟩,
     ⟨some 31, none, .op (.un .not 30)⟩])
   (.cond 31
    (.seq (.seq (.ops [⟨some 32, none, .op (.mv 5)⟩,
      ⟨some 33, none, .op (.lenStr 32)⟩,
      ⟨some 34, none, .op (.bin .gtr .int 33 (.val (.int 200)))⟩])
    (.cond 34
     (.seq (.ops [⟨some 35, none, .op (.build [.int 0, .str [], .int 0, .int 0] [])⟩,
       ⟨none, none, .op (.store true 4 2 35)⟩,
       ⟨some 3, none, .op (.mv (.val (.int 0)))⟩,
       ⟨some 4, none, .op (.mv (.val (.int 1)))⟩])
     (.ret))
     (.skip)))
    (.seq (.ops [⟨some 36, none, .op (.mv 5)⟩,
      ⟨some 37, none, .op (.build [.int 0, .str [], .int 0, .int 0] [(false, 0, 1, (.val (.int 4))), (false, 1, 1, 36)])⟩,
      ⟨some 38, none, .op (.mv 6)⟩,
      ⟨none, none, .op (.store true 4 2 37)⟩,
      ⟨some 3, none, .op (.mv 38)⟩,
      ⟨some 4, none, .op (.mv (.val (.int 0)))⟩])
    (.ret)))
    (.skip)))
   (.seq (.ops [⟨some 39, none, .op (.mv 5)⟩,
     ⟨some 40, none, .op (.bin .add .int 39 (.val (.str [39])))⟩,
     ⟨some 5, none, .op (.mv 40)⟩])
   (.ops [⟨some 41, none, .op (.mv 6)⟩,
     ⟨some 42, none, .op (.bin .add .int 41 (.val (.int 1)))⟩,
     ⟨some 6, none, .op (.mv 42)⟩])))))))

def f88m (G : Nat → AVal) : MC :=
  .seq (.ops [⟨some 2, none, .op (.alloc 4 [.int 0, .str [], .int 0, .int 0])⟩,
    ⟨some 3, none, .op (.mv (.val (.int 0)))⟩,
    ⟨some 4, none, .op (.mv (.val (.int 0)))⟩])
  (.seq (.ops [⟨some 5, none, .op (.mv (.val (.str [])))⟩])
  (.seq (.ops [⟨some 6, none, .op (.mv (.val (.int 1)))⟩])
  (.block 0
   (.loop (f88b0 G)))))
def f88 (G : Nat → AVal) : AFn := ⟨43, [.cell 2 true 4, .tmp 3, .tmp 4], f88m G⟩

theorem f88_c (G : Nat → AVal) : cmpFn Tryz.prog G [] 88 = some (f88 G) := by kernel_rfl


def f52m (G : Nat → AVal) : MC :=
  .seq (.ops [⟨some 3, none, .op (.box false 1 1)⟩,
    ⟨some 4, none, .op (.mv (.val (.int 0)))⟩])
  (.seq (.seq (.ops [⟨some 6, none, .op (.mv 0)⟩,
    ⟨some 7, none, .op (.conv .strBytes 6)⟩,
    ⟨some 8, none, .op (.mkfn (.func 77) [] [3])⟩,
    ⟨some 9, none, .call 76 [7, 8]⟩,
    ⟨some 5, none, .op (.mv 9)⟩])
  (.seq (.ops [⟨some 10, none, .op (.mv 5)⟩,
    ⟨some 11, none, .op (.bin .geq .int 10 (.val (.int 0)))⟩])
  (.cond 11
   (.seq (.ops [⟨some 12, none, .op (.mv 5)⟩,
     ⟨some 4, none, .op (.mv 12)⟩])
   (.ret))
   (.skip))))
  (.seq (.ops [⟨some 13, none, .op (.mv 0)⟩,
    ⟨some 14, none, .op (.lenStr 13)⟩,
    ⟨some 4, none, .op (.mv 14)⟩])
  (.ret)))
def f52 (G : Nat → AVal) : AFn := ⟨15, [.tmp 4], f52m G⟩

theorem f52_c (G : Nat → AVal) : cmpFn Tryz.prog G [] 52 = some (f52 G) := by kernel_rfl


def f53m (G : Nat → AVal) : MC :=
  .seq (.ops [⟨some 2, none, .op (.mv (.val (.bool false)))⟩])
  (.seq (.ops [⟨some 3, none, .op (.mv 0)⟩,
    ⟨some 4, none, .call 51 [3]⟩,
    ⟨some 5, none, .op (.mv 4)⟩,
    ⟨some 6, some (5, false), .op (.mv 0)⟩,
    ⟨some 7, some (5, false), .call 78 [6]⟩,
    ⟨some 8, none, .op (.pick 5 (.val (.bool true)) 7)⟩,
    ⟨some 2, none, .op (.mv 8)⟩])
  (.ret))
def f53 (G : Nat → AVal) : AFn := ⟨9, [.tmp 2], f53m G⟩

theorem f53_c (G : Nat → AVal) : cmpFn Tryz.prog G [] 53 = some (f53 G) := by kernel_rfl

def f109b0 (G : Nat → AVal) : MC :=
  .seq (.seq (.ops [⟨some 5, none, .op (.mv 0)⟩,
    ⟨some 6, none, .op (.lenStr 5)⟩,
    ⟨some 7, none, .op (.bin .gtr .int 6 (.val (.int 0)))⟩,
    ⟨some 8, none, .op (.mv 7)⟩,
    ⟨some 9, some (8, true), .op (.mv 0)⟩,
    ⟨some 10, some (8, true), .op (.idxS 9 (.val (.int 0)))⟩,
    ⟨some 11, some (8, true), .op (.mv 1)⟩,
    ⟨some 12, some (8, true), .op (.bin .eql .int 10 11)⟩,
    ⟨some 13, none, .op (.pick 8 12 (.val (.bool false)))⟩])
  (.cond 13
   (.skip)
   (.exit 0)))
  (.block 1
   (.ops [⟨some 14, none, .op (.mv 0)⟩,
     ⟨some 15, none, .op (.sslc 14 (some (.val (.int 1))) none)⟩,
     ⟨some 0, none, .op (.mv 15)⟩]))

def f109m (G : Nat → AVal) : MC :=
  .seq (.ops [⟨some 4, none, .op (.mv (.val (.str [])))⟩])
  (.seq (.block 0
   (.loop (f109b0 G)))
  (.seq (.ops [⟨some 16, none, .op (.mv 0)⟩,
    ⟨some 4, none, .op (.mv 16)⟩])
  (.ret)))
def f109 (G : Nat → AVal) : AFn := ⟨17, [.tmp 4], f109m G⟩

theorem f109_c (G : Nat → AVal) : cmpFn Tryz.prog G [] 109 = some (f109 G) := by kernel_rfl

def f110b0 (G : Nat → AVal) : MC :=
  .seq (.seq (.ops [⟨some 6, none, .op (.mv 4)⟩,
    ⟨some 7, none, .op (.mv 0)⟩,
    ⟨some 8, none, .op (.lenStr 7)⟩,
    ⟨some 9, none, .op (.bin .lss .int 6 8)⟩])
  (.cond 9
   (.skip)
   (.exit 0)))
  (.seq (.block 1
   (.seq (.ops [⟨some 12, none, .op (.mv 0)⟩,
     ⟨some 13, none, .op (.mv 4)⟩,
     ⟨some 14, none, .op (.idxS 12 13)⟩,
     ⟨some 5, none, .op (.mv 14)⟩])
   (.seq (.seq (.ops [⟨some 15, none, .op (.mv 5)⟩,
     ⟨some 16, none, .op (.bin .geq .int 15 (.val (.atom (.int .u8 128))))⟩])
   (.cond 16
    (.seq (.ops [⟨some 17, none, .op (.load true 256 2)⟩,
      ⟨none, none, .op (.store true 256 2 17)⟩,
      ⟨some 3, none, .op (.mv (.val (.bool false)))⟩])
    (.ret))
    (.skip)))
   (.ops [⟨some 18, none, .op (.mv 5)⟩,
     ⟨some 19, none, .op (.iaddrA 256 1 2 18)⟩,
     ⟨none, none, .op (.store false 1 19 (.val (.bool true)))⟩]))))
  (.ops [⟨some 10, none, .op (.mv 4)⟩,
    ⟨some 11, none, .op (.bin .add .int 10 (.val (.int 1)))⟩,
    ⟨some 4, none, .op (.mv 11)⟩]))

def f110m (G : Nat → AVal) : MC :=
  .seq (.ops [⟨some 2, none, .op (.alloc 256 [.bool false, .bool false, .bool false, .bool false, .bool false, .bool false, .bool false, .bool false, .bool false, .bool false, .bool false, .bool false, .bool false, .bool false, .bool false, .bool false, .bool false, .bool false, .bool false, .bool false, .bool false, .bool false, .bool false, .bool false, .bool false, .bool false, .bool false, .bool false, .bool false, .bool false, .bool false, .bool false, .bool false, .bool false, .bool false, .bool false, .bool false, .bool false, .bool false, .bool false, .bool false, .bool false, .bool false, .bool false, .bool false, .bool false, .bool false, .bool false, .bool false, .bool false, .bool false, .bool false, .bool false, .bool false, .bool false, .bool false, .bool false, .bool false, .bool false, .bool false, .bool false, .bool false, .bool false, .bool false, .bool false, .bool false, .bool false, .bool false, .bool false, .bool false, .bool false, .bool false, .bool false, .bool false, .bool false, .bool false, .bool false, .bool false, .bool false, .bool false, .bool false, .bool false, .bool false, .bool false, .bool false, .bool false, .bool false, .bool false, .bool false, .bool false, .bool false, .bool false, .bool false, .bool false, .bool false, .bool false, .bool false, .bool false, .bool false, .bool false, .bool false, .bool false, .bool false, .bool false, .bool false, .bool false, .bool false, .bool false, .bool false, .bool false, .bool false, .bool false, .bool false, .bool false, .bool false, .bool false, .bool false, .bool false, .bool false, .bool false, .bool false, .bool false, .bool false, .bool false, .bool false, .bool false, .bool false, .bool false, .bool false, .bool false, .bool false, .bool false, .bool false, .bool false, .bool false, .bool false, .bool false, .bool false, .bool false, .bool false, .bool false, .bool false, .bool false, .bool false, .bool false, .bool false, .bool false, .bool false, .bool false, .bool false, .bool false, .bool false, .bool false, .bool false, .bool false, .bool false, .bool false, .bool false, .bool false, .bool false, .bool false, .bool false, .bool false, .bool false, .bool false, .bool false, .bool false, .bool false, .bool false, .bool false, .bool false, .bool false, .bool false, .bool false, .bool false, .bool false, .bool false, .bool false, .bool false, .bool false, .bool false, .bool false, .bool false, .bool false, .bool false, .bool false, .bool false, .bool false, .bool false, .bool false, .bool false, .bool false, .bool false, .bool false, .bool false, .bool false, .bool false, .bool false, .bool false, .bool false, .bool false, .bool false, .bool false, .bool false, .bool false, .bool false, .bool false, .bool false, .bool false, .bool false, .bool false, .bool false, .bool false, .bool false, .bool false, .bool false, .bool false, .bool false, .bool false, .bool false, .bool false, .bool false, .bool false, .bool false, .bool false, .bool false, .bool false, .bool false, .bool false, .bool false, .bool false, .bool false, .bool false, .bool false, .bool false, .bool false, .bool false, .bool false, .bool false, .bool false, .bool false, .bool false, .bool false, .bool false, .bool false, .bool false, .bool false, .bool false, .bool false, .bool false, .bool false, .bool false, .bool false, .bool false, .bool false, .bool false])⟩,
    ⟨some 3, none, .op (.mv (.val (.bool false)))⟩])
  (.seq (.seq (.ops [⟨some 4, none, .op (.mv (.val (.int 0)))⟩])
  (.block 0
   (.loop (f110b0 G))))
  (.seq (.ops [⟨some 20, none, .op (.load true 256 2)⟩,
    ⟨none, none, .op (.store true 256 2 20)⟩,
    ⟨some 3, none, .op (.mv (.val (.bool true)))⟩])
  (.ret)))
def f110 (G : Nat → AVal) : AFn := ⟨21, [.cell 2 true 256, .tmp 3], f110m G⟩

theorem f110_c (G : Nat → AVal) : cmpFn Tryz.prog G [] 110 = some (f110 G) := by kernel_rfl

def f111b0 (G : Nat → AVal) : MC :=
  .seq (.seq (.ops [⟨some 5, none, .op (.mv 0)⟩,
    ⟨some 6, none, .op (.lenStr 5)⟩,
    ⟨some 7, none, .op (.bin .gtr .int 6 (.val (.int 0)))⟩])
  (.cond 7
   (.skip)
   (.exit 0)))
  (.block 1
   (.seq (.seq (.ops [⟨some 8, none, .op (.mv 1)⟩,
     ⟨some 9, none, .op (.mv 0)⟩,
     ⟨some 10, none, .op (.idxS 9 (.val (.int 0)))⟩,
     ⟨some 11, none, .call 138 [8, 10]⟩,
     ⟨some 12, none, .op (.un .not 11)⟩])
   (.cond 12
    (.exit 0)
    (.skip)))
   (.ops [⟨some 13, none, .op (.mv 0)⟩,
     ⟨some 14, none, .op (.sslc 13 (some (.val (.int 1))) none)⟩,
     ⟨some 0, none, .op (.mv 14)⟩])))

def f111m (G : Nat → AVal) : MC :=
  .seq (.ops [⟨some 4, none, .op (.mv (.val (.str [])))⟩])
  (.seq (.block 0
   (.loop (f111b0 G)))
  (.seq (.ops [⟨some 15, none, .op (.mv 0)⟩,
    ⟨some 4, none, .op (.mv 15)⟩])
  (.ret)))
def f111 (G : Nat → AVal) : AFn := ⟨16, [.tmp 4], f111m G⟩

theorem f111_c (G : Nat → AVal) : cmpFn Tryz.prog G [] 111 = some (f111 G) := by kernel_rfl


def f113m (G : Nat → AVal) : MC :=
  .seq (.ops [⟨some 4, none, .op (.mv (.val (.bool false)))⟩])
  (.seq (.ops [⟨some 5, none, .op (.mv 0)⟩,
    ⟨some 6, none, .op (.mv 1)⟩,
    ⟨some 7, none, .call 47 [5, 6]⟩,
    ⟨some 8, none, .op (.bin .geq .int 7 (.val (.int 0)))⟩,
    ⟨some 4, none, .op (.mv 8)⟩])
  (.ret))
def f113 (G : Nat → AVal) : AFn := ⟨9, [.tmp 4], f113m G⟩

theorem f113_c (G : Nat → AVal) : cmpFn Tryz.prog G [] 113 = some (f113 G) := by kernel_rfl


def f115m (G : Nat → AVal) : MC :=
  .seq (.ops [⟨some 4, none, .op (.mv (.val (.bool false)))⟩])
  (.seq (.ops [⟨some 5, none, .op (.mv 0)⟩,
    ⟨some 6, none, .op (.mv 1)⟩,
    ⟨some 7, none, .call 141 [5, 6]⟩,
    ⟨some 4, none, .op (.mv 7)⟩])
  (.ret))
def f115 (G : Nat → AVal) : AFn := ⟨8, [.tmp 4], f115m G⟩

theorem f115_c (G : Nat → AVal) : cmpFn Tryz.prog G [] 115 = some (f115 G) := by kernel_rfl

def f116b0 (G : Nat → AVal) : MC :=
  .seq (.ops [⟨some 12, none, .op (.bin .lss .int 11 10)⟩])
  (.seq (.cond 12
   (.skip)
   (.exit 0))
  (.seq (.block 1
   (.seq (.ops [⟨some 13, none, .op (.iaddr 1 9 11)⟩,
     ⟨some 14, none, .op (.load false 1 13)⟩,
     ⟨some 6, none, .op (.mv 14)⟩])
   (.seq (.ops [⟨some 15, none, .op (.mv 6)⟩,
     ⟨some 16, none, .op (.bin .sub .int 15 (.val (.atom (.int .u8 48))))⟩,
     ⟨some 17, none, .op (.conv (.toInt .i64) 16)⟩,
     ⟨some 7, none, .op (.mv 17)⟩])
   (.seq (.seq (.ops [⟨some 18, none, .op (.mv 4)⟩,
     ⟨some 19, none, .op (.mv 7)⟩,
     ⟨some 20, none, .op (.bin .sub .int (.val (.int 9223372036854775807)) 19)⟩,
     ⟨some 21, none, .op (.bin .quo .int 20 (.val (.int 10)))⟩,
     ⟨some 22, none, .op (.bin .gtr .int 18 21)⟩])
   (.cond 22
    (.seq (.ops [⟨some 2, none, .op (.mv (.val (.int 0)))⟩,
      ⟨some 3, none, .op (.mv (.val (.bool false)))⟩])
    (.ret))
    (.skip)))
   (.ops [⟨some 23, none, .op (.mv 4)⟩,
     ⟨some 24, none, .op (.bin .mul .int 23 (.val (.int 10)))⟩,
     ⟨some 25, none, .op (.mv 7)⟩,
     ⟨some 26, none, .op (.bin .add .int 24 25)⟩,
     ⟨some 4, none, .op (.mv 26)⟩])))))
  (.ops [⟨some 27, none, .op (.bin .add .int 11 (.val (.int 1)))⟩,
    ⟨some 11, none, .op (.mv 27)⟩])))

def f116m (G : Nat → AVal) : MC :=
  .seq (.ops [⟨some 2, none, .op (.mv (.val (.int 0)))⟩,
    ⟨some 3, none, .op (.mv (.val (.bool false)))⟩])
  (.seq (.ops [⟨some 4, none, .op (.mv (.val (.int 0)))⟩])
  (.seq (.seq (.ops [⟨some 8, none, .op (.mv 0)⟩,
    ⟨some 9, none, .op (.conv .strBytes 8)⟩,
    ⟨some 10, none, .op (.lenS 9)⟩,
    ⟨some 11, none, .op (.mv (.val (.int 0)))⟩])
  (.block 0
   (.loop (f116b0 G))))
  (.seq (.ops [⟨some 28, none, .op (.mv 4)⟩,
    ⟨some 2, none, .op (.mv 28)⟩,
    ⟨some 3, none, .op (.mv (.val (.bool true)))⟩])
  (.ret))))
def f116 (G : Nat → AVal) : AFn := ⟨29, [.tmp 2, .tmp 3], f116m G⟩

theorem f116_c (G : Nat → AVal) : cmpFn Tryz.prog G [] 116 = some (f116 G) := by kernel_rfl

def f76b0 (G : Nat → AVal) : MC :=
  .seq (.ops [⟨some 9, none, .op (.bin .lss .int 8 7)⟩])
  (.seq (.cond 9
   (.skip)
   (.exit 0))
  (.seq (.block 1
   (.seq (.ops [⟨some 10, none, .op (.mv 8)⟩,
     ⟨some 5, none, .op (.mv 10)⟩])
   (.seq (.ops [⟨some 11, none, .op (.mv 1)⟩,
     ⟨some 12, none, .op (.mv 0)⟩,
     ⟨some 13, none, .op (.mv 5)⟩,
     ⟨some 14, none, .op (.iaddr 1 12 13)⟩,
     ⟨some 15, none, .op (.load false 1 14)⟩,
     ⟨some 16, none, .callV 11 [15]⟩])
   (.cond 16
    (.seq (.ops [⟨some 17, none, .op (.mv 5)⟩,
      ⟨some 4, none, .op (.mv 17)⟩])
    (.ret))
    (.skip)))))
  (.ops [⟨some 18, none, .op (.bin .add .int 8 (.val (.int 1)))⟩,
    ⟨some 8, none, .op (.mv 18)⟩])))

def f76m (G : Nat → AVal) : MC :=
  .seq (.ops [⟨some 4, none, .op (.mv (.val (.int 0)))⟩])
  (.seq (.seq (.ops [⟨some 6, none, .op (.mv 0)⟩,
    ⟨some 7, none, .op (.lenS 6)⟩,
    ⟨some 8, none, .op (.mv (.val (.int 0)))⟩])
  (.block 0
   (.loop (f76b0 G))))
  (.seq (.ops [⟨some 4, none, .op (.mv (.val (.int (-1))))⟩])
  (.ret)))
def f76 (G : Nat → AVal) : AFn := ⟨19, [.tmp 4], f76m G⟩

theorem f76_c (G : Nat → AVal) : cmpFn Tryz.prog G [] 76 = some (f76 G) := by kernel_rfl


def f77m (G : Nat → AVal) : MC :=
  .seq (.ops [⟨some 3, none, .op (.mv (.val (.bool false)))⟩])
  (.seq (.ops [⟨some 4, none, .op (.load false 1 1)⟩,
    ⟨some 5, none, .op (.mv 0)⟩,
    ⟨some 6, none, .callV 4 [5]⟩,
    ⟨some 7, none, .op (.un .not 6)⟩,
    ⟨some 3, none, .op (.mv 7)⟩])
  (.ret))
def f77 (G : Nat → AVal) : AFn := ⟨8, [.tmp 3], f77m G⟩

theorem f77_c (G : Nat → AVal) : cmpFn Tryz.prog G [] 77 = some (f77 G) := by kernel_rfl

def f47b0 (G : Nat → AVal) : MC :=
  .seq (.ops [⟨some 9, none, .op (.bin .lss .int 8 7)⟩])
  (.seq (.cond 9
   (.skip)
   (.exit 0))
  (.seq (.block 1
   (.seq (.ops [⟨some 10, none, .op (.mv 8)⟩,
     ⟨some 5, none, .op (.mv 10)⟩])
   (.seq (.ops [⟨some 11, none, .op (.mv 1)⟩,
     ⟨some 12, none, .op (.mv 0)⟩,
     ⟨some 13, none, .op (.mv 5)⟩,
     ⟨some 14, none, .op (.iaddr 1 12 13)⟩,
     ⟨some 15, none, .op (.load false 1 14)⟩,
     ⟨some 16, none, .op (.bin .eql .str 11 15)⟩])
   (.cond 16
    (.seq (.ops [⟨some 17, none, .op (.mv 5)⟩,
      ⟨some 4, none, .op (.mv 17)⟩])
    (.ret))
    (.skip)))))
  (.ops [⟨some 18, none, .op (.bin .add .int 8 (.val (.int 1)))⟩,
    ⟨some 8, none, .op (.mv 18)⟩])))

def f47m (G : Nat → AVal) : MC :=
  .seq (.ops [⟨some 4, none, .op (.mv (.val (.int 0)))⟩])
  (.seq (.seq (.ops [⟨some 6, none, .op (.mv 0)⟩,
    ⟨some 7, none, .op (.lenS 6)⟩,
    ⟨some 8, none, .op (.mv (.val (.int 0)))⟩])
  (.block 0
   (.loop (f47b0 G))))
  (.seq (.ops [⟨some 4, none, .op (.mv (.val (.int (-1))))⟩])
  (.ret)))
def f47 (G : Nat → AVal) : AFn := ⟨19, [.tmp 4], f47m G⟩

theorem f47_c (G : Nat → AVal) : cmpFn Tryz.prog G [] 47 = some (f47 G) := by kernel_rfl


def f138m (G : Nat → AVal) : MC :=
  .seq (.ops [⟨some 4, none, .op (.mv (.val (.bool false)))⟩])
  (.seq (.ops [⟨some 5, none, .op (.mv 0)⟩,
    ⟨some 6, none, .op (.mv 1)⟩,
    ⟨some 7, none, .op (.nilck 5)⟩,
    ⟨some 8, none, .op (.iaddrA 256 1 7 6)⟩,
    ⟨some 9, none, .op (.load false 1 8)⟩,
    ⟨some 4, none, .op (.mv 9)⟩])
  (.ret))
def f138 (G : Nat → AVal) : AFn := ⟨10, [.tmp 4], f138m G⟩

theorem f138_c (G : Nat → AVal) : cmpFn Tryz.prog G [] 138 = some (f138 G) := by kernel_rfl


def f141m (G : Nat → AVal) : MC :=
  .seq (.ops [⟨some 4, none, .op (.mv (.val (.bool false)))⟩])
  (.seq (.ops [⟨some 5, none, .op (.mv 0)⟩,
    ⟨some 6, none, .op (.lenStr 5)⟩,
    ⟨some 7, none, .op (.mv 1)⟩,
    ⟨some 8, none, .op (.lenStr 7)⟩,
    ⟨some 9, none, .op (.bin .geq .int 6 8)⟩,
    ⟨some 10, none, .op (.mv 9)⟩,
    ⟨some 11, some (10, true), .op (.mv 0)⟩,
    ⟨some 12, some (10, true), .op (.mv 1)⟩,
    ⟨some 13, some (10, true), .op (.lenStr 12)⟩,
    ⟨some 14, some (10, true), .op (.sslc 11 none (some 13))⟩,
    ⟨some 15, some (10, true), .op (.mv 1)⟩,
    ⟨some 16, some (10, true), .op (.bin .eql .str 14 15)⟩,
    ⟨some 17, none, .op (.pick 10 16 (.val (.bool false)))⟩,
    ⟨some 4, none, .op (.mv 17)⟩])
  (.ret))
def f141 (G : Nat → AVal) : AFn := ⟨18, [.tmp 4], f141m G⟩

theorem f141_c (G : Nat → AVal) : cmpFn Tryz.prog G [] 141 = some (f141 G) := by kernel_rfl

end Go.Abs
