/- The seat's functions, translated; the checks. Conditions: none. -/
import Derived.Test.YtcogkenmdbaiiaaGreatDoorA25
import Derived.Test.YtcogkenmdbaiiaaGreatDoorProg
import Derived.KernelRfl
import Derived.Test.YtcogkenmdbaiiaaGreatDoorA37
set_option linter.unusedVariables false
namespace Go.Abs
open Go Go.RowKit Go.Proofs

def f19b0 (G : Nat → AVal) : MC :=
  .block 1
   (.seq (.ops [⟨some 13, none, .op (.mv 0)⟩,
     ⟨some 14, none, .call 32 [13, (.val (.str [32, 9, 10, 13]))]⟩,
     ⟨some 0, none, .op (.mv 14)⟩])
   (.seq (.seq (.ops [⟨some 15, none, .op (.mv 0)⟩,
     ⟨some 16, none, .op (.bin .eql .str 15 (.val (.str [])))⟩])
   (.cond 16
    (.seq (.ops [⟨some 17, none, .op (.mv 4)⟩,
      ⟨some 2, none, .op (.mv 17)⟩,
      ⟨some 3, none, .op (.mv (.val (.int 0)))⟩])
    (.ret))
    (.skip)))
   (.seq (.ops [⟨some 5, none, .op (.mv (.val (.clo (.func 33) [] [])))⟩])
   (.seq (.seq (.ops [⟨some 18, none, .op (.mv 0)⟩,
     ⟨some 19, none, .op (.idxS 18 (.val (.int 0)))⟩,
     ⟨some 6, none, .op (.mv 19)⟩])
   (.block 2
    (.seq (.ops [⟨some 21, none, .op (.mv 6)⟩,
      ⟨some 22, none, .call 34 [21]⟩,
      ⟨some 20, none, .op (.mv 22)⟩])
    (.cond 20
     (.ops [⟨some 5, none, .op (.mv (.val (.clo (.func 35) [] [])))⟩])
     (.seq (.ops [⟨some 24, none, .op (.mv 6)⟩,
       ⟨some 25, none, .call 36 [24]⟩,
       ⟨some 23, none, .op (.mv 25)⟩])
     (.cond 23
      (.ops [⟨some 5, none, .op (.mv (.val (.clo (.func 37) [] [])))⟩])
      (.seq (.ops [⟨some 27, none, .op (.mv 6)⟩,
        ⟨some 28, none, .op (.bin .eql .int 27 (.val (.atom (.int .u8 39))))⟩,
        ⟨some 26, none, .op (.mv 28)⟩])
      (.cond 26
       (.ops [⟨some 5, none, .op (.mv (.val (.clo (.func 38) [] [])))⟩])
       (.skip)))))))))
   (.seq (.ops [⟨some 30, none, .op (.mv 5)⟩,
     ⟨some 31, none, .op (.mv 0)⟩,
     ⟨some 32, none, .callV 30 [31]⟩,
     ⟨some 29, none, .op (.mv 32)⟩,
     ⟨some 33, none, .op (.extract 29 0)⟩,
     ⟨some 34, none, .op (.extract 29 1)⟩,
     ⟨some 35, none, .op (.extract 29 2)⟩,
     ⟨some 7, none, .op (.alloc 4 [.int 0, .str [], .int 0, .int 0])⟩,
     ⟨none, none, .op (.store true 4 7 33)⟩,
     ⟨some 8, none, .op (.mv 34)⟩,
     ⟨some 9, none, .op (.mv 35)⟩])
   (.seq (.seq (.ops [⟨some 36, none, .op (.mv 9)⟩,
     ⟨some 37, none, .op (.bin .neq .int 36 (.val (.int 0)))⟩])
   (.cond 37
    (.seq (.ops [⟨some 38, none, .op (.mv 9)⟩,
      ⟨some 2, none, .op (.mv (.val .nilS))⟩,
      ⟨some 3, none, .op (.mv 38)⟩])
    (.ret))
    (.skip)))
   (.seq (.ops [⟨some 39, none, .op (.mv 4)⟩,
     ⟨some 40, none, .op (.load true 4 7)⟩,
     ⟨some 41, none, .op (.bslice true 4 1 [.int 0, .str [], .int 0, .int 0] [(0, 40)])⟩,
     ⟨some 42, none, .op (.append 4 40 39 41)⟩,
     ⟨some 4, none, .op (.mv 42)⟩])
   (.ops [⟨some 43, none, .op (.mv 0)⟩,
     ⟨some 44, none, .op (.mv 8)⟩,
     ⟨some 45, none, .op (.sslc 43 (some 44) none)⟩,
     ⟨some 0, none, .op (.mv 45)⟩]))))))))

def f19m (G : Nat → AVal) : MC :=
  .seq (.ops [⟨some 2, none, .op (.mv (.val .nilS))⟩,
    ⟨some 3, none, .op (.mv (.val (.int 0)))⟩])
  (.seq (.seq (.ops [⟨some 10, none, .op (.mv 0)⟩,
    ⟨some 11, none, .op (.lenStr 10)⟩,
    ⟨some 12, none, .op (.bin .gtr .int 11 (.val (.int 4000)))⟩])
  (.cond 12
   (.seq (.ops [⟨some 2, none, .op (.mv (.val .nilS))⟩,
     ⟨some 3, none, .op (.mv (.val (.int 1)))⟩])
   (.ret))
   (.skip)))
  (.seq (.ops [⟨some 4, none, .op (.mv (.val .nilS))⟩])
  (.block 0
   (.loop (f19b0 G)))))
def f19 (G : Nat → AVal) : AFn := ⟨46, [.tmp 2, .tmp 3], f19m G⟩

theorem f19_c (G : Nat → AVal) : cmpFn Tryz.prog G [] 19 = some (f19 G) := by kernel_rfl


def f81m (G : Nat → AVal) : MC :=
  .seq (.ops [⟨some 2, none, .op (.mv (.val (.bool false)))⟩])
  (.seq (.seq (.ops [⟨some 3, none, .op (.mv 0)⟩])
  (.block 0
   (.seq (.seq (.ops [⟨some 5, none, .op (.bin .eql .str 3 (.val (.str [97, 110, 100])))⟩,
     ⟨some 4, none, .op (.mv 5)⟩])
   (.cond 4
    (.skip)
    (.seq (.ops [⟨some 6, none, .op (.bin .eql .str 3 (.val (.str [97, 115])))⟩,
      ⟨some 4, none, .op (.mv 6)⟩])
    (.cond 4
     (.skip)
     (.seq (.ops [⟨some 7, none, .op (.bin .eql .str 3 (.val (.str [98, 101, 103, 105, 110])))⟩,
       ⟨some 4, none, .op (.mv 7)⟩])
     (.cond 4
      (.skip)
      (.seq (.ops [⟨some 8, none, .op (.bin .eql .str 3 (.val (.str [98, 111, 111, 108])))⟩,
        ⟨some 4, none, .op (.mv 8)⟩])
      (.cond 4
       (.skip)
       (.seq (.ops [⟨some 9, none, .op (.bin .eql .str 3 (.val (.str [98, 121])))⟩,
         ⟨some 4, none, .op (.mv 9)⟩])
       (.cond 4
        (.skip)
        (.seq (.ops [⟨some 10, none, .op (.bin .eql .str 3 (.val (.str [99, 111, 109, 109, 105, 116])))⟩,
          ⟨some 4, none, .op (.mv 10)⟩])
        (.cond 4
         (.skip)
         (.seq (.ops [⟨some 11, none, .op (.bin .eql .str 3 (.val (.str [99, 114, 101, 97, 116, 101])))⟩,
           ⟨some 4, none, .op (.mv 11)⟩])
         (.cond 4
          (.skip)
          (.seq (.ops [⟨some 12, none, .op (.bin .eql .str 3 (.val (.str [100, 101, 108, 101, 116, 101])))⟩,
            ⟨some 4, none, .op (.mv 12)⟩])
          (.cond 4
           (.skip)
           (.seq (.ops [⟨some 13, none, .op (.bin .eql .str 3 (.val (.str [100, 101, 115, 99])))⟩,
             ⟨some 4, none, .op (.mv 13)⟩])
           (.cond 4
            (.skip)
            (.seq (.ops [⟨some 14, none, .op (.bin .eql .str 3 (.val (.str [100, 114, 111, 112])))⟩,
              ⟨some 4, none, .op (.mv 14)⟩])
            (.cond 4
             (.skip)
             (.seq (.ops [⟨some 15, none, .op (.bin .eql .str 3 (.val (.str [102, 97, 108, 115, 101])))⟩,
               ⟨some 4, none, .op (.mv 15)⟩])
             (.cond 4
              (.skip)
              (.seq (.ops [⟨some 16, none, .op (.bin .eql .str 3 (.val (.str [102, 114, 111, 109])))⟩,
                ⟨some 4, none, .op (.mv 16)⟩])
              (.cond 4
               (.skip)
               (.seq (.ops [⟨some 17, none, .op (.bin .eql .str 3 (.val (.str [105, 110, 100, 101, 120])))⟩,
                 ⟨some 4, none, .op (.mv 17)⟩])
               (.cond 4
                (.skip)
                (.seq (.ops [⟨some 18, none, .op (.bin .eql .str 3 (.val (.str [105, 110, 102, 105, 110, 105, 116, 121])))⟩,
                  ⟨some 4, none, .op (.mv 18)⟩])
                (.cond 4
                 (.skip)
                 (.seq (.ops [⟨some 19, none, .op (.bin .eql .str 3 (.val (.str [105, 110, 110, 101, 114])))⟩,
                   ⟨some 4, none, .op (.mv 19)⟩])
                 (.cond 4
                  (.skip)
                  (.seq (.ops [⟨some 20, none, .op (.bin .eql .str 3 (.val (.str [105, 110, 115, 101, 114, 116])))⟩,
                    ⟨some 4, none, .op (.mv 20)⟩])
                  (.cond 4
                   (.skip)
                   (.seq (.ops [⟨some 21, none, .op (.bin .eql .str 3 (.val (.str [105, 110, 116])))⟩,
                     ⟨some 4, none, .op (.mv 21)⟩])
                   (.cond 4
                    (.skip)
                    (.seq (.ops [⟨some 22, none, .op (.bin .eql .str 3 (.val (.str [105, 110, 116, 111])))⟩,
                      ⟨some 4, none, .op (.mv 22)⟩])
                    (.cond 4
                     (.skip)
                     (.seq (.ops [⟨some 23, none, .op (.bin .eql .str 3 (.val (.str [105, 115])))⟩,
                       ⟨some 4, none, .op (.mv 23)⟩])
                     (.cond 4
                      (.skip)
                      (.seq (.ops [⟨some 24, none, .op (.bin .eql .str 3 (.val (.str [106, 111, 105, 110])))⟩,
                        ⟨some 4, none, .op (.mv 24)⟩])
                      (.cond 4
                       (.skip)
                       (.seq (.ops [⟨some 25, none, .op (.bin .eql .str 3 (.val (.str [110, 97, 110])))⟩,
                         ⟨some 4, none, .op (.mv 25)⟩])
                       (.cond 4
                        (.skip)
                        (.seq (.ops [⟨some 26, none, .op (.bin .eql .str 3 (.val (.str [110, 111, 116])))⟩,
                          ⟨some 4, none, .op (.mv 26)⟩])
                        (.cond 4
                         (.skip)
                         (.seq (.ops [⟨some 27, none, .op (.bin .eql .str 3 (.val (.str [110, 117, 108, 108])))⟩,
                           ⟨some 4, none, .op (.mv 27)⟩])
                         (.cond 4
                          (.skip)
                          (.seq (.ops [⟨some 28, none, .op (.bin .eql .str 3 (.val (.str [111, 110])))⟩,
                            ⟨some 4, none, .op (.mv 28)⟩])
                          (.cond 4
                           (.skip)
                           (.seq (.ops [⟨some 29, none, .op (.bin .eql .str 3 (.val (.str [111, 114])))⟩,
                             ⟨some 4, none, .op (.mv 29)⟩])
                           (.cond 4
                            (.skip)
                            (.seq (.ops [⟨some 30, none, .op (.bin .eql .str 3 (.val (.str [111, 114, 100, 101, 114])))⟩,
                              ⟨some 4, none, .op (.mv 30)⟩])
                            (.cond 4
                             (.skip)
                             (.seq (.ops [⟨some 31, none, .op (.bin .eql .str 3 (.val (.str [114, 101, 97, 108])))⟩,
                               ⟨some 4, none, .op (.mv 31)⟩])
                             (.cond 4
                              (.skip)
                              (.seq (.ops [⟨some 32, none, .op (.bin .eql .str 3 (.val (.str [114, 111, 108, 108, 98, 97, 99, 107])))⟩,
                                ⟨some 4, none, .op (.mv 32)⟩])
                              (.cond 4
                               (.skip)
                               (.seq (.ops [⟨some 33, none, .op (.bin .eql .str 3 (.val (.str [115, 101, 108, 101, 99, 116])))⟩,
                                 ⟨some 4, none, .op (.mv 33)⟩])
                               (.cond 4
                                (.skip)
                                (.seq (.ops [⟨some 34, none, .op (.bin .eql .str 3 (.val (.str [115, 101, 116])))⟩,
                                  ⟨some 4, none, .op (.mv 34)⟩])
                                (.cond 4
                                 (.skip)
                                 (.seq (.ops [⟨some 35, none, .op (.bin .eql .str 3 (.val (.str [116, 97, 98, 108, 101])))⟩,
                                   ⟨some 4, none, .op (.mv 35)⟩])
                                 (.cond 4
                                  (.skip)
                                  (.seq (.ops [⟨some 36, none, .op (.bin .eql .str 3 (.val (.str [116, 101, 120, 116])))⟩,
                                    ⟨some 4, none, .op (.mv 36)⟩])
                                  (.cond 4
                                   (.skip)
                                   (.seq (.ops [⟨some 37, none, .op (.bin .eql .str 3 (.val (.str [116, 114, 117, 101])))⟩,
                                     ⟨some 4, none, .op (.mv 37)⟩])
                                   (.cond 4
                                    (.skip)
                                    (.seq (.ops [⟨some 38, none, .op (.bin .eql .str 3 (.val (.str [117, 110, 105, 113, 117, 101])))⟩,
                                      ⟨some 4, none, .op (.mv 38)⟩])
                                    (.cond 4
                                     (.skip)
                                     (.seq (.ops [⟨some 39, none, .op (.bin .eql .str 3 (.val (.str [117, 112, 100, 97, 116, 101])))⟩,
                                       ⟨some 4, none, .op (.mv 39)⟩])
                                     (.cond 4
                                      (.skip)
                                      (.seq (.ops [⟨some 40, none, .op (.bin .eql .str 3 (.val (.str [118, 97, 108, 117, 101, 115])))⟩,
                                        ⟨some 4, none, .op (.mv 40)⟩])
                                      (.cond 4
                                       (.skip)
                                       (.ops [⟨some 41, none, .op (.bin .eql .str 3 (.val (.str [119, 104, 101, 114, 101])))⟩,
                                         ⟨some 4, none, .op (.mv 41)⟩])))))))))))))))))))))))))))))))))))))))))))))))))))))))))))))))))))))))))
   (.cond 4
    (.seq (.ops [⟨some 2, none, .op (.mv (.val (.bool true)))⟩])
    (.ret))
    (.skip)))))
  (.seq (.ops [⟨some 2, none, .op (.mv (.val (.bool false)))⟩])
  (.ret)))
def f81 (G : Nat → AVal) : AFn := ⟨42, [.tmp 2], f81m G⟩

theorem f81_c (G : Nat → AVal) : cmpFn Tryz.prog G [] 81 = some (f81 G) := by kernel_rfl


def f32m (G : Nat → AVal) : MC :=
  .seq (.ops [⟨some 4, none, .op (.mv (.val (.str [])))⟩])
  (.seq (.seq (.ops [⟨some 7, none, .op (.mv 0)⟩,
    ⟨some 8, none, .op (.bin .eql .str 7 (.val (.str [])))⟩,
    ⟨some 9, none, .op (.mv 8)⟩,
    ⟨some 10, some (9, false), .op (.mv 1)⟩,
    ⟨some 11, some (9, false), .op (.bin .eql .str 10 (.val (.str [])))⟩,
    ⟨some 12, none, .op (.pick 9 (.val (.bool true)) 11)⟩])
  (.cond 12
   (.seq (.ops [⟨some 13, none, .op (.mv 0)⟩,
     ⟨some 4, none, .op (.mv 13)⟩])
   (.ret))
   (.skip)))
  (.seq (.seq (.ops [⟨some 14, none, .op (.mv 1)⟩,
    ⟨some 15, none, .op (.lenStr 14)⟩,
    ⟨some 16, none, .op (.bin .eql .int 15 (.val (.int 1)))⟩,
    ⟨some 17, none, .op (.mv 16)⟩,
    ⟨some 18, some (17, true), .op (.mv 1)⟩,
    ⟨some 19, some (17, true), .op (.idxS 18 (.val (.int 0)))⟩,
    ⟨some 20, some (17, true), .op (.bin .lss .int 19 (.val (.atom (.int .u8 128))))⟩,
    ⟨some 21, none, .op (.pick 17 20 (.val (.bool false)))⟩])
  (.cond 21
   (.seq (.ops [⟨some 22, none, .op (.mv 0)⟩,
     ⟨some 23, none, .op (.mv 1)⟩,
     ⟨some 24, none, .op (.idxS 23 (.val (.int 0)))⟩,
     ⟨some 25, none, .call 64 [22, 24]⟩,
     ⟨some 4, none, .op (.mv 25)⟩])
   (.ret))
   (.skip)))
  (.seq (.seq (.ops [⟨some 27, none, .op (.mv 1)⟩,
    ⟨some 28, none, .call 65 [27]⟩,
    ⟨some 26, none, .op (.mv 28)⟩,
    ⟨some 29, none, .op (.extract 26 0)⟩,
    ⟨some 30, none, .op (.extract 26 1)⟩,
    ⟨some 5, none, .op (.alloc 256 [.bool false, .bool false, .bool false, .bool false, .bool false, .bool false, .bool false, .bool false, .bool false, .bool false, .bool false, .bool false, .bool false, .bool false, .bool false, .bool false, .bool false, .bool false, .bool false, .bool false, .bool false, .bool false, .bool false, .bool false, .bool false, .bool false, .bool false, .bool false, .bool false, .bool false, .bool false, .bool false, .bool false, .bool false, .bool false, .bool false, .bool false, .bool false, .bool false, .bool false, .bool false, .bool false, .bool false, .bool false, .bool false, .bool false, .bool false, .bool false, .bool false, .bool false, .bool false, .bool false, .bool false, .bool false, .bool false, .bool false, .bool false, .bool false, .bool false, .bool false, .bool false, .bool false, .bool false, .bool false, .bool false, .bool false, .bool false, .bool false, .bool false, .bool false, .bool false, .bool false, .bool false, .bool false, .bool false, .bool false, .bool false, .bool false, .bool false, .bool false, .bool false, .bool false, .bool false, .bool false, .bool false, .bool false, .bool false, .bool false, .bool false, .bool false, .bool false, .bool false, .bool false, .bool false, .bool false, .bool false, .bool false, .bool false, .bool false, .bool false, .bool false, .bool false, .bool false, .bool false, .bool false, .bool false, .bool false, .bool false, .bool false, .bool false, .bool false, .bool false, .bool false, .bool false, .bool false, .bool false, .bool false, .bool false, .bool false, .bool false, .bool false, .bool false, .bool false, .bool false, .bool false, .bool false, .bool false, .bool false, .bool false, .bool false, .bool false, .bool false, .bool false, .bool false, .bool false, .bool false, .bool false, .bool false, .bool false, .bool false, .bool false, .bool false, .bool false, .bool false, .bool false, .bool false, .bool false, .bool false, .bool false, .bool false, .bool false, .bool false, .bool false, .bool false, .bool false, .bool false, .bool false, .bool false, .bool false, .bool false, .bool false, .bool false, .bool false, .bool false, .bool false, .bool false, .bool false, .bool false, .bool false, .bool false, .bool false, .bool false, .bool false, .bool false, .bool false, .bool false, .bool false, .bool false, .bool false, .bool false, .bool false, .bool false, .bool false, .bool false, .bool false, .bool false, .bool false, .bool false, .bool false, .bool false, .bool false, .bool false, .bool false, .bool false, .bool false, .bool false, .bool false, .bool false, .bool false, .bool false, .bool false, .bool false, .bool false, .bool false, .bool false, .bool false, .bool false, .bool false, .bool false, .bool false, .bool false, .bool false, .bool false, .bool false, .bool false, .bool false, .bool false, .bool false, .bool false, .bool false, .bool false, .bool false, .bool false, .bool false, .bool false, .bool false, .bool false, .bool false, .bool false, .bool false, .bool false, .bool false, .bool false, .bool false, .bool false, .bool false, .bool false, .bool false, .bool false, .bool false, .bool false, .bool false, .bool false, .bool false, .bool false, .bool false, .bool false, .bool false, .bool false, .bool false, .bool false, .bool false, .bool false, .bool false, .bool false, .bool false])⟩,
    ⟨none, none, .op (.store true 256 5 29)⟩,
    ⟨some 6, none, .op (.mv 30)⟩])
  (.seq (.ops [⟨some 31, none, .op (.mv 6)⟩])
  (.cond 31
   (.seq (.ops [⟨some 32, none, .op (.mv 0)⟩,
     ⟨some 33, none, .call 66 [32, 5]⟩,
     ⟨some 4, none, .op (.mv 33)⟩])
   (.ret))
   (.skip))))
  (.seq (.ops [⟨some 34, none, .op (.mv 0)⟩,
    ⟨some 35, none, .op (.mv 1)⟩,
    ⟨some 36, none, .call 67 [34, 35]⟩,
    ⟨some 4, none, .op (.mv 36)⟩])
  (.ret)))))
def f32 (G : Nat → AVal) : AFn := ⟨37, [.tmp 4], f32m G⟩

theorem f32_c (G : Nat → AVal) : cmpFn Tryz.prog G [] 32 = some (f32 G) := by kernel_rfl


def f33m (G : Nat → AVal) : MC :=
  .seq (.ops [⟨some 2, none, .op (.alloc 4 [.int 0, .str [], .int 0, .int 0])⟩,
    ⟨some 3, none, .op (.mv (.val (.int 0)))⟩,
    ⟨some 4, none, .op (.mv (.val (.int 0)))⟩])
  (.seq (.ops [⟨some 5, none, .op (.mv (.val (.int 1)))⟩])
  (.seq (.seq (.ops [⟨some 6, none, .op (.mv 0)⟩,
    ⟨some 7, none, .op (.lenStr 6)⟩,
    ⟨some 8, none, .op (.bin .gtr .int 7 (.val (.int 1)))⟩,
    ⟨some 9, none, .op (.mv 8)⟩,
    ⟨some 10, some (9, true), .op (.bslice false 1 4 [.str []] [(0, (.val (.str [60, 62]))), (1, (.val (.str [60, 61]))), (2, (.val (.str [62, 61]))), (3, (.val (.str [124, 124])))])⟩,
    ⟨some 11, some (9, true), .op (.mv 0)⟩,
    ⟨some 12, some (9, true), .op (.sslc 11 none (some (.val (.int 2))))⟩,
    ⟨some 13, some (9, true), .call 68 [10, 12]⟩,
    ⟨some 14, none, .op (.pick 9 13 (.val (.bool false)))⟩])
  (.cond 14
   (.ops [⟨some 5, none, .op (.mv (.val (.int 2)))⟩])
   (.seq (.ops [⟨some 15, none, .op (.mv 0)⟩,
     ⟨some 16, none, .op (.idxS 15 (.val (.int 0)))⟩,
     ⟨some 17, none, .call 69 [(.val (.str [40, 41, 44, 46, 42, 43, 45, 47, 37, 61, 60, 62])), 16]⟩,
     ⟨some 18, none, .op (.bin .lss .int 17 (.val (.int 0)))⟩])
   (.cond 18
    (.seq (.ops [⟨some 19, none, .op (.build [.int 0, .str [], .int 0, .int 0] [])⟩,
      ⟨none, none, .op (.store true 4 2 19)⟩,
      ⟨some 3, none, .op (.mv (.val (.int 0)))⟩,
      ⟨some 4, none, .op (.mv (.val (.int 120)))⟩])
    (.ret))
    (.skip)))))
  (.seq (.ops [⟨some 20, none, .op (.mv 0)⟩,
    ⟨some 21, none, .op (.mv 5)⟩,
    ⟨some 22, none, .op (.sslc 20 none (some 21))⟩,
    ⟨some 23, none, .op (.build [.int 0, .str [], .int 0, .int 0] [(false, 0, 1, (.val (.int 5))), (false, 1, 1, 22)])⟩,
    ⟨some 24, none, .op (.mv 5)⟩,
    ⟨none, none, .op (.store true 4 2 23)⟩,
    ⟨some 3, none, .op (.mv 24)⟩,
    ⟨some 4, none, .op (.mv (.val (.int 0)))⟩])
  (.ret))))
def f33 (G : Nat → AVal) : AFn := ⟨25, [.cell 2 true 4, .tmp 3, .tmp 4], f33m G⟩

theorem f33_c (G : Nat → AVal) : cmpFn Tryz.prog G [] 33 = some (f33 G) := by kernel_rfl


def f34m (G : Nat → AVal) : MC :=
  .seq (.ops [⟨some 2, none, .op (.mv (.val (.bool false)))⟩])
  (.seq (.ops [⟨some 3, none, .op (.mv 0)⟩,
    ⟨some 4, none, .op (.bin .geq .int 3 (.val (.atom (.int .u8 97))))⟩,
    ⟨some 5, none, .op (.mv 4)⟩,
    ⟨some 6, some (5, true), .op (.mv 0)⟩,
    ⟨some 7, some (5, true), .op (.bin .leq .int 6 (.val (.atom (.int .u8 122))))⟩,
    ⟨some 8, none, .op (.pick 5 7 (.val (.bool false)))⟩,
    ⟨some 9, none, .op (.mv 8)⟩,
    ⟨some 10, some (9, false), .op (.mv 0)⟩,
    ⟨some 11, some (9, false), .op (.bin .geq .int 10 (.val (.atom (.int .u8 65))))⟩,
    ⟨some 12, some (9, false), .op (.mv 11)⟩,
    ⟨some 13, some (12, true), .op (.mv 0)⟩,
    ⟨some 14, some (12, true), .op (.bin .leq .int 13 (.val (.atom (.int .u8 90))))⟩,
    ⟨some 15, some (9, false), .op (.pick 12 14 (.val (.bool false)))⟩,
    ⟨some 16, none, .op (.pick 9 (.val (.bool true)) 15)⟩,
    ⟨some 17, none, .op (.mv 16)⟩,
    ⟨some 18, some (17, false), .op (.mv 0)⟩,
    ⟨some 19, some (17, false), .op (.bin .eql .int 18 (.val (.atom (.int .u8 95))))⟩,
    ⟨some 20, none, .op (.pick 17 (.val (.bool true)) 19)⟩,
    ⟨some 2, none, .op (.mv 20)⟩])
  (.ret))
def f34 (G : Nat → AVal) : AFn := ⟨21, [.tmp 2], f34m G⟩

theorem f34_c (G : Nat → AVal) : cmpFn Tryz.prog G [] 34 = some (f34 G) := by kernel_rfl


def f35m (G : Nat → AVal) : MC :=
  .seq (.ops [⟨some 2, none, .op (.alloc 4 [.int 0, .str [], .int 0, .int 0])⟩,
    ⟨some 3, none, .op (.mv (.val (.int 0)))⟩,
    ⟨some 4, none, .op (.mv (.val (.int 0)))⟩])
  (.seq (.ops [⟨some 6, none, .op (.mv 0)⟩,
    ⟨some 7, none, .call 70 [6, (.val (.clo (.func 71) [] []))]⟩,
    ⟨some 5, none, .op (.mv 7)⟩])
  (.seq (.seq (.ops [⟨some 8, none, .op (.mv 5)⟩,
    ⟨some 9, none, .op (.bin .gtr .int 8 (.val (.int 32)))⟩])
  (.cond 9
   (.seq (.ops [⟨some 10, none, .op (.build [.int 0, .str [], .int 0, .int 0] [])⟩,
     ⟨none, none, .op (.store true 4 2 10)⟩,
     ⟨some 3, none, .op (.mv (.val (.int 0)))⟩,
     ⟨some 4, none, .op (.mv (.val (.int 122)))⟩])
   (.ret))
   (.skip)))
  (.seq (.ops [⟨some 11, none, .op (.mv 0)⟩,
    ⟨some 12, none, .op (.mv 5)⟩,
    ⟨some 13, none, .op (.sslc 11 none (some 12))⟩,
    ⟨some 14, none, .call 72 [13]⟩,
    ⟨some 15, none, .op (.build [.int 0, .str [], .int 0, .int 0] [(false, 0, 1, (.val (.int 1))), (false, 1, 1, 14)])⟩,
    ⟨some 16, none, .op (.mv 5)⟩,
    ⟨none, none, .op (.store true 4 2 15)⟩,
    ⟨some 3, none, .op (.mv 16)⟩,
    ⟨some 4, none, .op (.mv (.val (.int 0)))⟩])
  (.ret))))
def f35 (G : Nat → AVal) : AFn := ⟨17, [.cell 2 true 4, .tmp 3, .tmp 4], f35m G⟩

theorem f35_c (G : Nat → AVal) : cmpFn Tryz.prog G [] 35 = some (f35 G) := by kernel_rfl


def f36m (G : Nat → AVal) : MC :=
  .seq (.ops [⟨some 2, none, .op (.mv (.val (.bool false)))⟩])
  (.seq (.ops [⟨some 3, none, .op (.mv 0)⟩,
    ⟨some 4, none, .op (.bin .geq .int 3 (.val (.atom (.int .u8 48))))⟩,
    ⟨some 5, none, .op (.mv 4)⟩,
    ⟨some 6, some (5, true), .op (.mv 0)⟩,
    ⟨some 7, some (5, true), .op (.bin .leq .int 6 (.val (.atom (.int .u8 57))))⟩,
    ⟨some 8, none, .op (.pick 5 7 (.val (.bool false)))⟩,
    ⟨some 2, none, .op (.mv 8)⟩])
  (.ret))
def f36 (G : Nat → AVal) : AFn := ⟨9, [.tmp 2], f36m G⟩

theorem f36_c (G : Nat → AVal) : cmpFn Tryz.prog G [] 36 = some (f36 G) := by kernel_rfl


def f37m (G : Nat → AVal) : MC :=
  .seq (.ops [⟨some 2, none, .op (.alloc 4 [.int 0, .str [], .int 0, .int 0])⟩,
    ⟨some 3, none, .op (.mv (.val (.int 0)))⟩,
    ⟨some 4, none, .op (.mv (.val (.int 0)))⟩])
  (.seq (.ops [⟨some 12, none, .op (.mv 0)⟩,
    ⟨some 13, none, .call 70 [12, (.val (.clo (.func 36) [] []))]⟩,
    ⟨some 5, none, .op (.mv 13)⟩])
  (.seq (.ops [⟨some 6, none, .op (.mv (.val (.int 0)))⟩])
  (.seq (.seq (.ops [⟨some 14, none, .op (.mv 0)⟩,
    ⟨some 15, none, .op (.mv 5)⟩,
    ⟨some 16, none, .op (.sslc 14 (some 15) none)⟩,
    ⟨some 7, none, .op (.mv 16)⟩])
  (.seq (.ops [⟨some 17, none, .op (.mv 7)⟩,
    ⟨some 18, none, .call 73 [17, (.val (.str [46]))]⟩])
  (.cond 18
   (.ops [⟨some 19, none, .op (.mv 7)⟩,
     ⟨some 20, none, .op (.sslc 19 (some (.val (.int 1))) none)⟩,
     ⟨some 21, none, .call 70 [20, (.val (.clo (.func 36) [] []))]⟩,
     ⟨some 6, none, .op (.mv 21)⟩])
   (.skip))))
  (.seq (.seq (.ops [⟨some 22, none, .op (.mv 6)⟩,
    ⟨some 23, none, .op (.bin .eql .int 22 (.val (.int 0)))⟩])
  (.cond 23
   (.seq (.ops [⟨some 25, none, .op (.mv 0)⟩,
     ⟨some 26, none, .op (.mv 5)⟩,
     ⟨some 27, none, .op (.sslc 25 none (some 26))⟩,
     ⟨some 28, none, .call 74 [27]⟩,
     ⟨some 24, none, .op (.mv 28)⟩,
     ⟨some 29, none, .op (.extract 24 0)⟩,
     ⟨some 30, none, .op (.extract 24 1)⟩,
     ⟨some 8, none, .op (.mv 29)⟩,
     ⟨some 9, none, .op (.mv 30)⟩])
   (.seq (.seq (.ops [⟨some 31, none, .op (.mv 5)⟩,
     ⟨some 32, none, .op (.bin .gtr .int 31 (.val (.int 19)))⟩,
     ⟨some 33, none, .op (.mv 32)⟩,
     ⟨some 34, some (33, false), .op (.mv 9)⟩,
     ⟨some 35, some (33, false), .op (.un .not 34)⟩,
     ⟨some 36, none, .op (.pick 33 (.val (.bool true)) 35)⟩])
   (.cond 36
    (.seq (.ops [⟨some 37, none, .op (.build [.int 0, .str [], .int 0, .int 0] [])⟩,
      ⟨none, none, .op (.store true 4 2 37)⟩,
      ⟨some 3, none, .op (.mv (.val (.int 0)))⟩,
      ⟨some 4, none, .op (.mv (.val (.int 11)))⟩])
    (.ret))
    (.skip)))
   (.seq (.ops [⟨some 38, none, .op (.mv 8)⟩,
     ⟨some 39, none, .op (.build [.int 0, .str [], .int 0, .int 0] [(false, 0, 1, (.val (.int 2))), (false, 2, 1, 38)])⟩,
     ⟨some 40, none, .op (.mv 5)⟩,
     ⟨none, none, .op (.store true 4 2 39)⟩,
     ⟨some 3, none, .op (.mv 40)⟩,
     ⟨some 4, none, .op (.mv (.val (.int 0)))⟩])
   (.ret))))
   (.skip)))
  (.seq (.seq (.ops [⟨some 41, none, .op (.mv 5)⟩,
    ⟨some 42, none, .op (.mv 6)⟩,
    ⟨some 43, none, .op (.bin .add .int 41 42)⟩,
    ⟨some 44, none, .op (.bin .gtr .int 43 (.val (.int 15)))⟩])
  (.cond 44
   (.seq (.ops [⟨some 45, none, .op (.build [.int 0, .str [], .int 0, .int 0] [])⟩,
     ⟨none, none, .op (.store true 4 2 45)⟩,
     ⟨some 3, none, .op (.mv (.val (.int 0)))⟩,
     ⟨some 4, none, .op (.mv (.val (.int 11)))⟩])
   (.ret))
   (.skip)))
  (.seq (.draw (.rd [⟨0, ⟨some 47, none, .op (.mv 0)⟩, false, false⟩,
     ⟨1, ⟨some 48, none, .op (.mv 5)⟩, false, false⟩,
     ⟨2, ⟨some 49, none, .op (.sslc 47 none (some 48))⟩, false, false⟩,
     ⟨3, ⟨some 50, none, .op (.mv 0)⟩, false, false⟩,
     ⟨4, ⟨some 51, none, .op (.mv 5)⟩, false, false⟩,
     ⟨5, ⟨some 52, none, .op (.bin .add .int 51 (.val (.int 1)))⟩, false, false⟩,
     ⟨6, ⟨some 53, none, .op (.mv 5)⟩, false, false⟩,
     ⟨7, ⟨some 54, none, .op (.bin .add .int 53 (.val (.int 1)))⟩, false, false⟩,
     ⟨8, ⟨some 55, none, .op (.mv 6)⟩, false, false⟩,
     ⟨9, ⟨some 56, none, .op (.bin .add .int 54 55)⟩, false, false⟩,
     ⟨10, ⟨some 57, none, .op (.sslc 50 (some 52) (some 56))⟩, false, false⟩,
     ⟨11, ⟨some 58, none, .op (.bin .add .int 49 57)⟩, false, false⟩]
   (.ef ⟨12, ⟨some 59, none, .call 74 [58]⟩, true, false⟩ []
   (.rd [⟨13, ⟨some 46, none, .op (.mv 59)⟩, false, false⟩,
     ⟨14, ⟨some 60, none, .op (.extract 46 0)⟩, false, false⟩,
     ⟨15, ⟨some 61, none, .op (.extract 46 1)⟩, false, false⟩,
     ⟨16, ⟨some 10, none, .op (.mv 60)⟩, false, false⟩,
     ⟨17, ⟨some 11, none, .op (.mv 61)⟩, false, false⟩]
   (.nil)))))
  (.seq (.ops [⟨some 62, none, .op (.mv 10)⟩,
    ⟨some 63, none, .op (.mv 6)⟩,
    ⟨some 64, none, .op (.build [.int 0, .str [], .int 0, .int 0] [(false, 0, 1, (.val (.int 3))), (false, 2, 1, 62), (false, 3, 1, 63)])⟩,
    ⟨some 65, none, .op (.mv 5)⟩,
    ⟨some 66, none, .op (.bin .add .int 65 (.val (.int 1)))⟩,
    ⟨some 67, none, .op (.mv 6)⟩,
    ⟨some 68, none, .op (.bin .add .int 66 67)⟩,
    ⟨none, none, .op (.store true 4 2 64)⟩,
    ⟨some 3, none, .op (.mv 68)⟩,
    ⟨some 4, none, .op (.mv (.val (.int 0)))⟩])
  (.ret))))))))
def f37 (G : Nat → AVal) : AFn := ⟨69, [.cell 2 true 4, .tmp 3, .tmp 4], f37m G⟩

theorem f37_c (G : Nat → AVal) : cmpFn Tryz.prog G [] 37 = some (f37 G) := by kernel_rfl

def f38b0 (G : Nat → AVal) : MC :=
  .block 1
   (.seq (.ops [⟨some 8, none, .op (.mv 0)⟩,
     ⟨some 9, none, .op (.mv 6)⟩,
     ⟨some 10, none, .op (.sslc 8 (some 9) none)⟩,
     ⟨some 11, none, .call 69 [10, (.val (.atom (.int .u8 39)))]⟩,
     ⟨some 7, none, .op (.mv 11)⟩])
   (.seq (.seq (.ops [⟨some 12, none, .op (.mv 7)⟩,
     ⟨some 13, none, .op (.bin .lss .int 12 (.val (.int 0)))⟩])
   (.cond 13
    (.seq (.ops [⟨some 14, none, .op (.build [.int 0, .str [], .int 0, .int 0] [])⟩,
      ⟨none, none, .op (.store true 4 2 14)⟩,
      ⟨some 3, none, .op (.mv (.val (.int 0)))⟩,
      ⟨some 4, none, .op (.mv (.val (.int 121)))⟩])
    (.ret))
    (.skip)))
   (.seq (.ops [⟨some 15, none, .op (.mv 5)⟩,
     ⟨some 16, none, .op (.mv 0)⟩,
     ⟨some 17, none, .op (.mv 6)⟩,
     ⟨some 18, none, .op (.mv 6)⟩,
     ⟨some 19, none, .op (.mv 7)⟩,
     ⟨some 20, none, .op (.bin .add .int 18 19)⟩,
     ⟨some 21, none, .op (.sslc 16 (some 17) (some 20))⟩,
     ⟨some 22, none, .op (.bin .add .int 15 21)⟩,
     ⟨some 5, none, .op (.mv 22)⟩])
   (.seq (.ops [⟨some 23, none, .op (.mv 6)⟩,
     ⟨some 24, none, .op (.mv 7)⟩,
     ⟨some 25, none, .op (.bin .add .int 24 (.val (.int 1)))⟩,
     ⟨some 26, none, .op (.bin .add .int 23 25)⟩,
     ⟨some 6, none, .op (.mv 26)⟩])
   (.seq (.seq (.ops [⟨some 27, none, .op (.mv 0)⟩,
     ⟨some 28, none, .op (.mv 6)⟩,
     ⟨some 29, none, .op (.sslc 27 (some 28) none)⟩,
     ⟨some 30, none, .call 73 [29, (.val (.str [39]))]⟩,
     ⟨some 31, none, .op (.un .not 30)⟩])
   (.cond 31
    (.seq (.seq (.ops [⟨some 32, none, .op (.mv 5)⟩,
      ⟨some 33, none, .op (.lenStr 32)⟩,
      ⟨some 34, none, .op (.bin .gtr .int 33 (.val (.int 200)))⟩])
    (.cond 34
     (.seq (.ops [⟨some 35, none, .op (.build [.int 0, .str [], .int 0, .int 0] [])⟩,
       ⟨none, none, .op (.store true 4 2 35)⟩,
       ⟨some 3, none, .op (.mv (.val (.int 0)))⟩,
       ⟨some 4, none, .op (.mv (.val (.int 1)))⟩])
     (.ret))
     (.skip)))
    (.seq (.ops [⟨some 36, none, .op (.mv 5)⟩,
      ⟨some 37, none, .op (.build [.int 0, .str [], .int 0, .int 0] [(false, 0, 1, (.val (.int 4))), (false, 1, 1, 36)])⟩,
      ⟨some 38, none, .op (.mv 6)⟩,
      ⟨none, none, .op (.store true 4 2 37)⟩,
      ⟨some 3, none, .op (.mv 38)⟩,
      ⟨some 4, none, .op (.mv (.val (.int 0)))⟩])
    (.ret)))
    (.skip)))
   (.seq (.ops [⟨some 39, none, .op (.mv 5)⟩,
     ⟨some 40, none, .op (.bin .add .int 39 (.val (.str [39])))⟩,
     ⟨some 5, none, .op (.mv 40)⟩])
   (.ops [⟨some 41, none, .op (.mv 6)⟩,
     ⟨some 42, none, .op (.bin .add .int 41 (.val (.int 1)))⟩,
     ⟨some 6, none, .op (.mv 42)⟩])))))))

def f38m (G : Nat → AVal) : MC :=
  .seq (.ops [⟨some 2, none, .op (.alloc 4 [.int 0, .str [], .int 0, .int 0])⟩,
    ⟨some 3, none, .op (.mv (.val (.int 0)))⟩,
    ⟨some 4, none, .op (.mv (.val (.int 0)))⟩])
  (.seq (.ops [⟨some 5, none, .op (.mv (.val (.str [])))⟩])
  (.seq (.ops [⟨some 6, none, .op (.mv (.val (.int 1)))⟩])
  (.block 0
   (.loop (f38b0 G)))))
def f38 (G : Nat → AVal) : AFn := ⟨43, [.cell 2 true 4, .tmp 3, .tmp 4], f38m G⟩

theorem f38_c (G : Nat → AVal) : cmpFn Tryz.prog G [] 38 = some (f38 G) := by kernel_rfl


def f70m (G : Nat → AVal) : MC :=
  .seq (.ops [⟨some 3, none, .op (.box false 1 1)⟩,
    ⟨some 4, none, .op (.mv (.val (.int 0)))⟩])
  (.seq (.seq (.ops [⟨some 6, none, .op (.mv 0)⟩,
    ⟨some 7, none, .op (.conv .strBytes 6)⟩,
    ⟨some 8, none, .op (.mkfn (.func 99) [] [3])⟩,
    ⟨some 9, none, .call 98 [7, 8]⟩,
    ⟨some 5, none, .op (.mv 9)⟩])
  (.seq (.ops [⟨some 10, none, .op (.mv 5)⟩,
    ⟨some 11, none, .op (.bin .geq .int 10 (.val (.int 0)))⟩])
  (.cond 11
   (.seq (.ops [⟨some 12, none, .op (.mv 5)⟩,
     ⟨some 4, none, .op (.mv 12)⟩])
   (.ret))
   (.skip))))
  (.seq (.ops [⟨some 13, none, .op (.mv 0)⟩,
    ⟨some 14, none, .op (.lenStr 13)⟩,
    ⟨some 4, none, .op (.mv 14)⟩])
  (.ret)))
def f70 (G : Nat → AVal) : AFn := ⟨15, [.tmp 4], f70m G⟩

theorem f70_c (G : Nat → AVal) : cmpFn Tryz.prog G [] 70 = some (f70 G) := by kernel_rfl


def f71m (G : Nat → AVal) : MC :=
  .seq (.ops [⟨some 2, none, .op (.mv (.val (.bool false)))⟩])
  (.seq (.ops [⟨some 3, none, .op (.mv 0)⟩,
    ⟨some 4, none, .call 34 [3]⟩,
    ⟨some 5, none, .op (.mv 4)⟩,
    ⟨some 6, some (5, false), .op (.mv 0)⟩,
    ⟨some 7, some (5, false), .call 36 [6]⟩,
    ⟨some 8, none, .op (.pick 5 (.val (.bool true)) 7)⟩,
    ⟨some 2, none, .op (.mv 8)⟩])
  (.ret))
def f71 (G : Nat → AVal) : AFn := ⟨9, [.tmp 2], f71m G⟩

theorem f71_c (G : Nat → AVal) : cmpFn Tryz.prog G [] 71 = some (f71 G) := by kernel_rfl

def f64b0 (G : Nat → AVal) : MC :=
  .seq (.seq (.ops [⟨some 5, none, .op (.mv 0)⟩,
    ⟨some 6, none, .op (.lenStr 5)⟩,
    ⟨some 7, none, .op (.bin .gtr .int 6 (.val (.int 0)))⟩,
    ⟨some 8, none, .op (.mv 7)⟩,
    ⟨some 9, some (8, true), .op (.mv 0)⟩,
    ⟨some 10, some (8, true), .op (.idxS 9 (.val (.int 0)))⟩,
    ⟨some 11, some (8, true), .op (.mv 1)⟩,
    ⟨some 12, some (8, true), .op (.bin .eql .int 10 11)⟩,
    ⟨some 13, none, .op (.pick 8 12 (.val (.bool false)))⟩])
  (.cond 13
   (.skip)
   (.exit 0)))
  (.block 1
   (.ops [⟨some 14, none, .op (.mv 0)⟩,
     ⟨some 15, none, .op (.sslc 14 (some (.val (.int 1))) none)⟩,
     ⟨some 0, none, .op (.mv 15)⟩]))

def f64m (G : Nat → AVal) : MC :=
  .seq (.ops [⟨some 4, none, .op (.mv (.val (.str [])))⟩])
  (.seq (.block 0
   (.loop (f64b0 G)))
  (.seq (.ops [⟨some 16, none, .op (.mv 0)⟩,
    ⟨some 4, none, .op (.mv 16)⟩])
  (.ret)))
def f64 (G : Nat → AVal) : AFn := ⟨17, [.tmp 4], f64m G⟩

theorem f64_c (G : Nat → AVal) : cmpFn Tryz.prog G [] 64 = some (f64 G) := by kernel_rfl

def f65b0 (G : Nat → AVal) : MC :=
  .seq (.seq (.ops [⟨some 6, none, .op (.mv 4)⟩,
    ⟨some 7, none, .op (.mv 0)⟩,
    ⟨some 8, none, .op (.lenStr 7)⟩,
    ⟨some 9, none, .op (.bin .lss .int 6 8)⟩])
  (.cond 9
   (.skip)
   (.exit 0)))
  (.seq (.block 1
   (.seq (.ops [⟨some 12, none, .op (.mv 0)⟩,
     ⟨some 13, none, .op (.mv 4)⟩,
     ⟨some 14, none, .op (.idxS 12 13)⟩,
     ⟨some 5, none, .op (.mv 14)⟩])
   (.seq (.seq (.ops [⟨some 15, none, .op (.mv 5)⟩,
     ⟨some 16, none, .op (.bin .geq .int 15 (.val (.atom (.int .u8 128))))⟩])
   (.cond 16
    (.seq (.ops [⟨some 17, none, .op (.load true 256 2)⟩,
      ⟨none, none, .op (.store true 256 2 17)⟩,
      ⟨some 3, none, .op (.mv (.val (.bool false)))⟩])
    (.ret))
    (.skip)))
   (.ops [⟨some 18, none, .op (.mv 5)⟩,
     ⟨some 19, none, .op (.iaddrA 256 1 2 18)⟩,
     ⟨none, none, .op (.store false 1 19 (.val (.bool true)))⟩]))))
  (.ops [⟨some 10, none, .op (.mv 4)⟩,
    ⟨some 11, none, .op (.bin .add .int 10 (.val (.int 1)))⟩,
    ⟨some 4, none, .op (.mv 11)⟩]))

def f65m (G : Nat → AVal) : MC :=
  .seq (.ops [⟨some 2, none, .op (.alloc 256 [.bool false, .bool false, .bool false, .bool false, .bool false, .bool false, .bool false, .bool false, .bool false, .bool false, .bool false, .bool false, .bool false, .bool false, .bool false, .bool false, .bool false, .bool false, .bool false, .bool false, .bool false, .bool false, .bool false, .bool false, .bool false, .bool false, .bool false, .bool false, .bool false, .bool false, .bool false, .bool false, .bool false, .bool false, .bool false, .bool false, .bool false, .bool false, .bool false, .bool false, .bool false, .bool false, .bool false, .bool false, .bool false, .bool false, .bool false, .bool false, .bool false, .bool false, .bool false, .bool false, .bool false, .bool false, .bool false, .bool false, .bool false, .bool false, .bool false, .bool false, .bool false, .bool false, .bool false, .bool false, .bool false, .bool false, .bool false, .bool false, .bool false, .bool false, .bool false, .bool false, .bool false, .bool false, .bool false, .bool false, .bool false, .bool false, .bool false, .bool false, .bool false, .bool false, .bool false, .bool false, .bool false, .bool false, .bool false, .bool false, .bool false, .bool false, .bool false, .bool false, .bool false, .bool false, .bool false, .bool false, .bool false, .bool false, .bool false, .bool false, .bool false, .bool false, .bool false, .bool false, .bool false, .bool false, .bool false, .bool false, .bool false, .bool false, .bool false, .bool false, .bool false, .bool false, .bool false, .bool false, .bool false, .bool false, .bool false, .bool false, .bool false, .bool false, .bool false, .bool false, .bool false, .bool false, .bool false, .bool false, .bool false, .bool false, .bool false, .bool false, .bool false, .bool false, .bool false, .bool false, .bool false, .bool false, .bool false, .bool false, .bool false, .bool false, .bool false, .bool false, .bool false, .bool false, .bool false, .bool false, .bool false, .bool false, .bool false, .bool false, .bool false, .bool false, .bool false, .bool false, .bool false, .bool false, .bool false, .bool false, .bool false, .bool false, .bool false, .bool false, .bool false, .bool false, .bool false, .bool false, .bool false, .bool false, .bool false, .bool false, .bool false, .bool false, .bool false, .bool false, .bool false, .bool false, .bool false, .bool false, .bool false, .bool false, .bool false, .bool false, .bool false, .bool false, .bool false, .bool false, .bool false, .bool false, .bool false, .bool false, .bool false, .bool false, .bool false, .bool false, .bool false, .bool false, .bool false, .bool false, .bool false, .bool false, .bool false, .bool false, .bool false, .bool false, .bool false, .bool false, .bool false, .bool false, .bool false, .bool false, .bool false, .bool false, .bool false, .bool false, .bool false, .bool false, .bool false, .bool false, .bool false, .bool false, .bool false, .bool false, .bool false, .bool false, .bool false, .bool false, .bool false, .bool false, .bool false, .bool false, .bool false, .bool false, .bool false, .bool false, .bool false, .bool false, .bool false, .bool false, .bool false, .bool false, .bool false, .bool false, .bool false, .bool false, .bool false, .bool false, .bool false, .bool false, .bool false, .bool false, .bool false, .bool false, .bool false, .bool false])⟩,
    ⟨some 3, none, .op (.mv (.val (.bool false)))⟩])
  (.seq (.seq (.ops [⟨some 4, none, .op (.mv (.val (.int 0)))⟩])
  (.block 0
   (.loop (f65b0 G))))
  (.seq (.ops [⟨some 20, none, .op (.load true 256 2)⟩,
    ⟨none, none, .op (.store true 256 2 20)⟩,
    ⟨some 3, none, .op (.mv (.val (.bool true)))⟩])
  (.ret)))
def f65 (G : Nat → AVal) : AFn := ⟨21, [.cell 2 true 256, .tmp 3], f65m G⟩

theorem f65_c (G : Nat → AVal) : cmpFn Tryz.prog G [] 65 = some (f65 G) := by kernel_rfl

def f66b0 (G : Nat → AVal) : MC :=
  .seq (.seq (.ops [⟨some 5, none, .op (.mv 0)⟩,
    ⟨some 6, none, .op (.lenStr 5)⟩,
    ⟨some 7, none, .op (.bin .gtr .int 6 (.val (.int 0)))⟩])
  (.cond 7
   (.skip)
   (.exit 0)))
  (.block 1
   (.seq (.seq (.ops [⟨some 8, none, .op (.mv 1)⟩,
     ⟨some 9, none, .op (.mv 0)⟩,
     ⟨some 10, none, .op (.idxS 9 (.val (.int 0)))⟩,
     ⟨some 11, none, .call 93 [8, 10]⟩,
     ⟨some 12, none, .op (.un .not 11)⟩])
   (.cond 12
    (.exit 0)
    (.skip)))
   (.ops [⟨some 13, none, .op (.mv 0)⟩,
     ⟨some 14, none, .op (.sslc 13 (some (.val (.int 1))) none)⟩,
     ⟨some 0, none, .op (.mv 14)⟩])))

def f66m (G : Nat → AVal) : MC :=
  .seq (.ops [⟨some 4, none, .op (.mv (.val (.str [])))⟩])
  (.seq (.block 0
   (.loop (f66b0 G)))
  (.seq (.ops [⟨some 15, none, .op (.mv 0)⟩,
    ⟨some 4, none, .op (.mv 15)⟩])
  (.ret)))
def f66 (G : Nat → AVal) : AFn := ⟨16, [.tmp 4], f66m G⟩

theorem f66_c (G : Nat → AVal) : cmpFn Tryz.prog G [] 66 = some (f66 G) := by kernel_rfl


def f68m (G : Nat → AVal) : MC :=
  .seq (.ops [⟨some 4, none, .op (.mv (.val (.bool false)))⟩])
  (.seq (.ops [⟨some 5, none, .op (.mv 0)⟩,
    ⟨some 6, none, .op (.mv 1)⟩,
    ⟨some 7, none, .call 96 [5, 6]⟩,
    ⟨some 8, none, .op (.bin .geq .int 7 (.val (.int 0)))⟩,
    ⟨some 4, none, .op (.mv 8)⟩])
  (.ret))
def f68 (G : Nat → AVal) : AFn := ⟨9, [.tmp 4], f68m G⟩

theorem f68_c (G : Nat → AVal) : cmpFn Tryz.prog G [] 68 = some (f68 G) := by kernel_rfl


def f73m (G : Nat → AVal) : MC :=
  .seq (.ops [⟨some 4, none, .op (.mv (.val (.bool false)))⟩])
  (.seq (.ops [⟨some 5, none, .op (.mv 0)⟩,
    ⟨some 6, none, .op (.mv 1)⟩,
    ⟨some 7, none, .call 106 [5, 6]⟩,
    ⟨some 4, none, .op (.mv 7)⟩])
  (.ret))
def f73 (G : Nat → AVal) : AFn := ⟨8, [.tmp 4], f73m G⟩

theorem f73_c (G : Nat → AVal) : cmpFn Tryz.prog G [] 73 = some (f73 G) := by kernel_rfl

def f74b0 (G : Nat → AVal) : MC :=
  .seq (.ops [⟨some 12, none, .op (.bin .lss .int 11 10)⟩])
  (.seq (.cond 12
   (.skip)
   (.exit 0))
  (.seq (.block 1
   (.seq (.ops [⟨some 13, none, .op (.iaddr 1 9 11)⟩,
     ⟨some 14, none, .op (.load false 1 13)⟩,
     ⟨some 6, none, .op (.mv 14)⟩])
   (.seq (.ops [⟨some 15, none, .op (.mv 6)⟩,
     ⟨some 16, none, .op (.bin .sub .int 15 (.val (.atom (.int .u8 48))))⟩,
     ⟨some 17, none, .op (.conv (.toInt .i64) 16)⟩,
     ⟨some 7, none, .op (.mv 17)⟩])
   (.seq (.seq (.ops [⟨some 18, none, .op (.mv 4)⟩,
     ⟨some 19, none, .op (.mv 7)⟩,
     ⟨some 20, none, .op (.bin .sub .int (.val (.int 9223372036854775807)) 19)⟩,
     ⟨some 21, none, .op (.bin .quo .int 20 (.val (.int 10)))⟩,
     ⟨some 22, none, .op (.bin .gtr .int 18 21)⟩])
   (.cond 22
    (.seq (.ops [⟨some 2, none, .op (.mv (.val (.int 0)))⟩,
      ⟨some 3, none, .op (.mv (.val (.bool false)))⟩])
    (.ret))
    (.skip)))
   (.ops [⟨some 23, none, .op (.mv 4)⟩,
     ⟨some 24, none, .op (.bin .mul .int 23 (.val (.int 10)))⟩,
     ⟨some 25, none, .op (.mv 7)⟩,
     ⟨some 26, none, .op (.bin .add .int 24 25)⟩,
     ⟨some 4, none, .op (.mv 26)⟩])))))
  (.ops [⟨some 27, none, .op (.bin .add .int 11 (.val (.int 1)))⟩,
    ⟨some 11, none, .op (.mv 27)⟩])))

def f74m (G : Nat → AVal) : MC :=
  .seq (.ops [⟨some 2, none, .op (.mv (.val (.int 0)))⟩,
    ⟨some 3, none, .op (.mv (.val (.bool false)))⟩])
  (.seq (.ops [⟨some 4, none, .op (.mv (.val (.int 0)))⟩])
  (.seq (.seq (.ops [⟨some 8, none, .op (.mv 0)⟩,
    ⟨some 9, none, .op (.conv .strBytes 8)⟩,
    ⟨some 10, none, .op (.lenS 9)⟩,
    ⟨some 11, none, .op (.mv (.val (.int 0)))⟩])
  (.block 0
   (.loop (f74b0 G))))
  (.seq (.ops [⟨some 28, none, .op (.mv 4)⟩,
    ⟨some 2, none, .op (.mv 28)⟩,
    ⟨some 3, none, .op (.mv (.val (.bool true)))⟩])
  (.ret))))
def f74 (G : Nat → AVal) : AFn := ⟨29, [.tmp 2, .tmp 3], f74m G⟩

theorem f74_c (G : Nat → AVal) : cmpFn Tryz.prog G [] 74 = some (f74 G) := by kernel_rfl

def f98b0 (G : Nat → AVal) : MC :=
  .seq (.ops [⟨some 9, none, .op (.bin .lss .int 8 7)⟩])
  (.seq (.cond 9
   (.skip)
   (.exit 0))
  (.seq (.block 1
   (.seq (.ops [⟨some 10, none, .op (.mv 8)⟩,
     ⟨some 5, none, .op (.mv 10)⟩])
   (.seq (.ops [⟨some 11, none, .op (.mv 1)⟩,
     ⟨some 12, none, .op (.mv 0)⟩,
     ⟨some 13, none, .op (.mv 5)⟩,
     ⟨some 14, none, .op (.iaddr 1 12 13)⟩,
     ⟨some 15, none, .op (.load false 1 14)⟩,
     ⟨some 16, none, .callV 11 [15]⟩])
   (.cond 16
    (.seq (.ops [⟨some 17, none, .op (.mv 5)⟩,
      ⟨some 4, none, .op (.mv 17)⟩])
    (.ret))
    (.skip)))))
  (.ops [⟨some 18, none, .op (.bin .add .int 8 (.val (.int 1)))⟩,
    ⟨some 8, none, .op (.mv 18)⟩])))

def f98m (G : Nat → AVal) : MC :=
  .seq (.ops [⟨some 4, none, .op (.mv (.val (.int 0)))⟩])
  (.seq (.seq (.ops [⟨some 6, none, .op (.mv 0)⟩,
    ⟨some 7, none, .op (.lenS 6)⟩,
    ⟨some 8, none, .op (.mv (.val (.int 0)))⟩])
  (.block 0
   (.loop (f98b0 G))))
  (.seq (.ops [⟨some 4, none, .op (.mv (.val (.int (-1))))⟩])
  (.ret)))
def f98 (G : Nat → AVal) : AFn := ⟨19, [.tmp 4], f98m G⟩

theorem f98_c (G : Nat → AVal) : cmpFn Tryz.prog G [] 98 = some (f98 G) := by kernel_rfl


def f99m (G : Nat → AVal) : MC :=
  .seq (.ops [⟨some 3, none, .op (.mv (.val (.bool false)))⟩])
  (.seq (.ops [⟨some 4, none, .op (.load false 1 1)⟩,
    ⟨some 5, none, .op (.mv 0)⟩,
    ⟨some 6, none, .callV 4 [5]⟩,
    ⟨some 7, none, .op (.un .not 6)⟩,
    ⟨some 3, none, .op (.mv 7)⟩])
  (.ret))
def f99 (G : Nat → AVal) : AFn := ⟨8, [.tmp 3], f99m G⟩

theorem f99_c (G : Nat → AVal) : cmpFn Tryz.prog G [] 99 = some (f99 G) := by kernel_rfl

def f96b0 (G : Nat → AVal) : MC :=
  .seq (.ops [⟨some 9, none, .op (.bin .lss .int 8 7)⟩])
  (.seq (.cond 9
   (.skip)
   (.exit 0))
  (.seq (.block 1
   (.seq (.ops [⟨some 10, none, .op (.mv 8)⟩,
     ⟨some 5, none, .op (.mv 10)⟩])
   (.seq (.ops [⟨some 11, none, .op (.mv 1)⟩,
     ⟨some 12, none, .op (.mv 0)⟩,
     ⟨some 13, none, .op (.mv 5)⟩,
     ⟨some 14, none, .op (.iaddr 1 12 13)⟩,
     ⟨some 15, none, .op (.load false 1 14)⟩,
     ⟨some 16, none, .op (.bin .eql .str 11 15)⟩])
   (.cond 16
    (.seq (.ops [⟨some 17, none, .op (.mv 5)⟩,
      ⟨some 4, none, .op (.mv 17)⟩])
    (.ret))
    (.skip)))))
  (.ops [⟨some 18, none, .op (.bin .add .int 8 (.val (.int 1)))⟩,
    ⟨some 8, none, .op (.mv 18)⟩])))

def f96m (G : Nat → AVal) : MC :=
  .seq (.ops [⟨some 4, none, .op (.mv (.val (.int 0)))⟩])
  (.seq (.seq (.ops [⟨some 6, none, .op (.mv 0)⟩,
    ⟨some 7, none, .op (.lenS 6)⟩,
    ⟨some 8, none, .op (.mv (.val (.int 0)))⟩])
  (.block 0
   (.loop (f96b0 G))))
  (.seq (.ops [⟨some 4, none, .op (.mv (.val (.int (-1))))⟩])
  (.ret)))
def f96 (G : Nat → AVal) : AFn := ⟨19, [.tmp 4], f96m G⟩

theorem f96_c (G : Nat → AVal) : cmpFn Tryz.prog G [] 96 = some (f96 G) := by kernel_rfl


def f93m (G : Nat → AVal) : MC :=
  .seq (.ops [⟨some 4, none, .op (.mv (.val (.bool false)))⟩])
  (.seq (.ops [⟨some 5, none, .op (.mv 0)⟩,
    ⟨some 6, none, .op (.mv 1)⟩,
    ⟨some 7, none, .op (.nilck 5)⟩,
    ⟨some 8, none, .op (.iaddrA 256 1 7 6)⟩,
    ⟨some 9, none, .op (.load false 1 8)⟩,
    ⟨some 4, none, .op (.mv 9)⟩])
  (.ret))
def f93 (G : Nat → AVal) : AFn := ⟨10, [.tmp 4], f93m G⟩

theorem f93_c (G : Nat → AVal) : cmpFn Tryz.prog G [] 93 = some (f93 G) := by kernel_rfl


def f106m (G : Nat → AVal) : MC :=
  .seq (.ops [⟨some 4, none, .op (.mv (.val (.bool false)))⟩])
  (.seq (.ops [⟨some 5, none, .op (.mv 0)⟩,
    ⟨some 6, none, .op (.lenStr 5)⟩,
    ⟨some 7, none, .op (.mv 1)⟩,
    ⟨some 8, none, .op (.lenStr 7)⟩,
    ⟨some 9, none, .op (.bin .geq .int 6 8)⟩,
    ⟨some 10, none, .op (.mv 9)⟩,
    ⟨some 11, some (10, true), .op (.mv 0)⟩,
    ⟨some 12, some (10, true), .op (.mv 1)⟩,
    ⟨some 13, some (10, true), .op (.lenStr 12)⟩,
    ⟨some 14, some (10, true), .op (.sslc 11 none (some 13))⟩,
    ⟨some 15, some (10, true), .op (.mv 1)⟩,
    ⟨some 16, some (10, true), .op (.bin .eql .str 14 15)⟩,
    ⟨some 17, none, .op (.pick 10 16 (.val (.bool false)))⟩,
    ⟨some 4, none, .op (.mv 17)⟩])
  (.ret))
def f106 (G : Nat → AVal) : AFn := ⟨18, [.tmp 4], f106m G⟩

theorem f106_c (G : Nat → AVal) : cmpFn Tryz.prog G [] 106 = some (f106 G) := by kernel_rfl

end Go.Abs
set_option linter.unusedVariables false
namespace Go.Abs
open Go Go.RowKit Go.Proofs

def f12b0 (G : Nat → AVal) : MC :=
  .seq (.seq (.ops [⟨some 17, none, .op (.mv 6)⟩,
    ⟨some 18, none, .op (.mv 0)⟩,
    ⟨some 19, none, .op (.lenStr 18)⟩,
    ⟨some 20, none, .op (.bin .lss .int 17 19)⟩])
  (.cond 20
   (.skip)
   (.exit 0)))
  (.block 1
   (.seq (.ops [⟨some 21, none, .op (.mv 0)⟩,
     ⟨some 22, none, .op (.mv 6)⟩,
     ⟨some 23, none, .op (.idxS 21 22)⟩,
     ⟨some 7, none, .op (.mv 23)⟩])
   (.seq (.seq (.ops [⟨some 24, none, .op (.mv 7)⟩,
     ⟨some 25, none, .op (.bin .eql .int 24 (.val (.atom (.int .u8 32))))⟩,
     ⟨some 26, none, .op (.mv 25)⟩,
     ⟨some 27, some (26, false), .op (.mv 7)⟩,
     ⟨some 28, some (26, false), .op (.bin .eql .int 27 (.val (.atom (.int .u8 9))))⟩,
     ⟨some 29, none, .op (.pick 26 (.val (.bool true)) 28)⟩,
     ⟨some 30, none, .op (.mv 29)⟩,
     ⟨some 31, some (30, false), .op (.mv 7)⟩,
     ⟨some 32, some (30, false), .op (.bin .eql .int 31 (.val (.atom (.int .u8 10))))⟩,
     ⟨some 33, none, .op (.pick 30 (.val (.bool true)) 32)⟩,
     ⟨some 34, none, .op (.mv 33)⟩,
     ⟨some 35, some (34, false), .op (.mv 7)⟩,
     ⟨some 36, some (34, false), .op (.bin .eql .int 35 (.val (.atom (.int .u8 13))))⟩,
     ⟨some 37, none, .op (.pick 34 (.val (.bool true)) 36)⟩])
   (.cond 37
    (.seq (.ops [⟨some 38, none, .op (.mv 6)⟩,
      ⟨some 39, none, .op (.bin .add .int 38 (.val (.int 1)))⟩,
      ⟨some 6, none, .op (.mv 39)⟩])
    (.exit 1))
    (.skip)))
   (.seq (.ops [⟨some 41, none, .op (.mv 0)⟩,
     ⟨some 42, none, .op (.mv 6)⟩,
     ⟨some 43, none, .call 27 [41, 42]⟩,
     ⟨some 40, none, .op (.mv 43)⟩,
     ⟨some 44, none, .op (.extract 40 0)⟩,
     ⟨some 45, none, .op (.extract 40 1)⟩,
     ⟨some 46, none, .op (.extract 40 2)⟩,
     ⟨some 8, none, .op (.alloc 4 [.int 0, .str [], .int 0, .int 0])⟩,
     ⟨none, none, .op (.store true 4 8 44)⟩,
     ⟨some 9, none, .op (.mv 45)⟩,
     ⟨some 10, none, .op (.mv 46)⟩])
   (.seq (.seq (.ops [⟨some 47, none, .op (.mv 10)⟩,
     ⟨some 48, none, .op (.bin .neq .int 47 (.val (.int 0)))⟩])
   (.cond 48
    (.seq (.ops [⟨some 49, none, .op (.mv 4)⟩,
      ⟨some 50, none, .op (.mv 10)⟩,
      ⟨some 2, none, .op (.mv 49)⟩,
      ⟨some 3, none, .op (.mv 50)⟩])
    (.ret))
    (.skip)))
   (.seq (.ops [⟨some 51, none, .op (.mv 5)⟩,
     ⟨some 52, none, .op (.load true 4 8)⟩,
     ⟨some 53, none, .op (.bslice true 4 1 [.int 0, .str [], .int 0, .int 0] [(0, 52)])⟩,
     ⟨some 54, none, .op (.append 4 40 51 53)⟩,
     ⟨some 5, none, .op (.mv 54)⟩])
   (.ops [⟨some 55, none, .op (.mv 9)⟩,
     ⟨some 6, none, .op (.mv 55)⟩])))))))

def f12m (G : Nat → AVal) : MC :=
  .seq (.ops [⟨some 2, none, .op (.mv (.val .nilS))⟩,
    ⟨some 3, none, .op (.mv (.val (.int 0)))⟩])
  (.seq (.ops [⟨some 11, none, .op (.bslice true 4 0 [.int 0, .str [], .int 0, .int 0] [])⟩,
    ⟨some 12, none, .op (.bslice true 4 0 [.int 0, .str [], .int 0, .int 0] [])⟩,
    ⟨some 4, none, .op (.mv 11)⟩,
    ⟨some 5, none, .op (.mv 12)⟩])
  (.seq (.seq (.ops [⟨some 13, none, .op (.mv 0)⟩,
    ⟨some 14, none, .op (.lenStr 13)⟩,
    ⟨some 15, none, .op (.bin .gtr .int 14 (.val (.int 4000)))⟩])
  (.cond 15
   (.seq (.ops [⟨some 16, none, .op (.mv 4)⟩,
     ⟨some 2, none, .op (.mv 16)⟩,
     ⟨some 3, none, .op (.mv (.val (.int 1)))⟩])
   (.ret))
   (.skip)))
  (.seq (.ops [⟨some 6, none, .op (.mv (.val (.int 0)))⟩])
  (.seq (.block 0
   (.loop (f12b0 G)))
  (.seq (.ops [⟨some 56, none, .op (.mv 5)⟩,
    ⟨some 2, none, .op (.mv 56)⟩,
    ⟨some 3, none, .op (.mv (.val (.int 0)))⟩])
  (.ret))))))
def f12 (G : Nat → AVal) : AFn := ⟨57, [.tmp 2, .tmp 3], f12m G⟩

theorem f12_c (G : Nat → AVal) : cmpFn Tryz.prog G [] 12 = some (f12 G) := by kernel_rfl

def f63b0 (G : Nat → AVal) : MC :=
  .seq (.seq (.ops [⟨some 6, none, .op (.mv 4)⟩,
    ⟨some 7, none, .op (.bin .lss .int 6 (.val (.int 37)))⟩])
  (.cond 7
   (.skip)
   (.exit 0)))
  (.seq (.block 1
   (.seq (.ops [⟨some 10, none, .op (.mv 4)⟩,
     ⟨some 11, none, .op (.iaddrA 37 1 3 10)⟩,
     ⟨some 12, none, .op (.load false 1 11)⟩,
     ⟨some 13, none, .op (.mv 0)⟩,
     ⟨some 14, none, .op (.bin .eql .str 12 13)⟩])
   (.cond 14
    (.seq (.ops [⟨some 2, none, .op (.mv (.val (.bool true)))⟩])
    (.ret))
    (.skip))))
  (.ops [⟨some 8, none, .op (.mv 4)⟩,
    ⟨some 9, none, .op (.bin .add .int 8 (.val (.int 1)))⟩,
    ⟨some 4, none, .op (.mv 9)⟩]))

def f63m (G : Nat → AVal) : MC :=
  .seq (.ops [⟨some 2, none, .op (.mv (.val (.bool false)))⟩])
  (.seq (.ops [⟨some 5, none, .op (.build [.str [], .str [], .str [], .str [], .str [], .str [], .str [], .str [], .str [], .str [], .str [], .str [], .str [], .str [], .str [], .str [], .str [], .str [], .str [], .str [], .str [], .str [], .str [], .str [], .str [], .str [], .str [], .str [], .str [], .str [], .str [], .str [], .str [], .str [], .str [], .str [], .str []] [(false, 0, 1, (.val (.str [97, 110, 100]))), (false, 1, 1, (.val (.str [97, 115]))), (false, 2, 1, (.val (.str [98, 101, 103, 105, 110]))), (false, 3, 1, (.val (.str [98, 111, 111, 108]))), (false, 4, 1, (.val (.str [98, 121]))), (false, 5, 1, (.val (.str [99, 111, 109, 109, 105, 116]))), (false, 6, 1, (.val (.str [99, 114, 101, 97, 116, 101]))), (false, 7, 1, (.val (.str [100, 101, 108, 101, 116, 101]))), (false, 8, 1, (.val (.str [100, 101, 115, 99]))), (false, 9, 1, (.val (.str [100, 114, 111, 112]))), (false, 10, 1, (.val (.str [102, 97, 108, 115, 101]))), (false, 11, 1, (.val (.str [102, 114, 111, 109]))), (false, 12, 1, (.val (.str [105, 110, 100, 101, 120]))), (false, 13, 1, (.val (.str [105, 110, 102, 105, 110, 105, 116, 121]))), (false, 14, 1, (.val (.str [105, 110, 110, 101, 114]))), (false, 15, 1, (.val (.str [105, 110, 115, 101, 114, 116]))), (false, 16, 1, (.val (.str [105, 110, 116]))), (false, 17, 1, (.val (.str [105, 110, 116, 111]))), (false, 18, 1, (.val (.str [105, 115]))), (false, 19, 1, (.val (.str [106, 111, 105, 110]))), (false, 20, 1, (.val (.str [110, 97, 110]))), (false, 21, 1, (.val (.str [110, 111, 116]))), (false, 22, 1, (.val (.str [110, 117, 108, 108]))), (false, 23, 1, (.val (.str [111, 110]))), (false, 24, 1, (.val (.str [111, 114]))), (false, 25, 1, (.val (.str [111, 114, 100, 101, 114]))), (false, 26, 1, (.val (.str [114, 101, 97, 108]))), (false, 27, 1, (.val (.str [114, 111, 108, 108, 98, 97, 99, 107]))), (false, 28, 1, (.val (.str [115, 101, 108, 101, 99, 116]))), (false, 29, 1, (.val (.str [115, 101, 116]))), (false, 30, 1, (.val (.str [116, 97, 98, 108, 101]))), (false, 31, 1, (.val (.str [116, 101, 120, 116]))), (false, 32, 1, (.val (.str [116, 114, 117, 101]))), (false, 33, 1, (.val (.str [117, 110, 105, 113, 117, 101]))), (false, 34, 1, (.val (.str [117, 112, 100, 97, 116, 101]))), (false, 35, 1, (.val (.str [118, 97, 108, 117, 101, 115]))), (false, 36, 1, (.val (.str [119, 104, 101, 114, 101])))])⟩,
    ⟨some 3, none, .op (.alloc 37 [.str [], .str [], .str [], .str [], .str [], .str [], .str [], .str [], .str [], .str [], .str [], .str [], .str [], .str [], .str [], .str [], .str [], .str [], .str [], .str [], .str [], .str [], .str [], .str [], .str [], .str [], .str [], .str [], .str [], .str [], .str [], .str [], .str [], .str [], .str [], .str [], .str []])⟩,
    ⟨none, none, .op (.store true 37 3 5)⟩])
  (.seq (.seq (.ops [⟨some 4, none, .op (.mv (.val (.int 0)))⟩])
  (.block 0
   (.loop (f63b0 G))))
  (.seq (.ops [⟨some 2, none, .op (.mv (.val (.bool false)))⟩])
  (.ret))))
def f63 (G : Nat → AVal) : AFn := ⟨15, [.tmp 2], f63m G⟩

theorem f63_c (G : Nat → AVal) : cmpFn Tryz.prog G [] 63 = some (f63 G) := by kernel_rfl

def f31b0 (G : Nat → AVal) : MC :=
  .seq (.seq (.ops [⟨some 20, none, .op (.mv 3)⟩,
    ⟨some 21, none, .op (.mv 0)⟩,
    ⟨some 22, none, .op (.lenStr 21)⟩,
    ⟨some 23, none, .op (.bin .lss .int 20 22)⟩])
  (.cond 23
   (.skip)
   (.exit 0)))
  (.seq (.block 1
   (.seq (.draw (.rd [⟨0, ⟨some 26, none, .op (.mv 0)⟩, false, false⟩,
      ⟨1, ⟨some 27, none, .op (.mv 3)⟩, false, false⟩,
      ⟨2, ⟨some 28, none, .op (.idxS 26 27)⟩, false, false⟩,
      ⟨4, ⟨some 30, none, .op (.mv 0)⟩, false, true⟩,
      ⟨5, ⟨some 31, none, .op (.mv 3)⟩, false, true⟩,
      ⟨6, ⟨some 32, none, .op (.idxS 30 31)⟩, false, true⟩]
    (.ef ⟨3, ⟨some 29, none, .call 60 [28]⟩, true, false⟩ [4, 5, 6]
    (.rd [⟨7, ⟨some 33, none, .op (.bin .neq .int 29 32)⟩, false, false⟩,
      ⟨8, ⟨some 34, none, .op (.mv 33)⟩, false, false⟩,
      ⟨9, ⟨some 35, some (34, false), .op (.mv 0)⟩, false, false⟩,
      ⟨10, ⟨some 36, some (34, false), .op (.mv 3)⟩, false, false⟩,
      ⟨11, ⟨some 37, some (34, false), .op (.idxS 35 36)⟩, false, false⟩]
    (.ef ⟨12, ⟨some 38, some (34, false), .call 57 [37]⟩, true, false⟩ []
    (.rd [⟨13, ⟨some 39, some (34, false), .op (.un .not 38)⟩, false, false⟩,
      ⟨14, ⟨some 40, some (34, false), .op (.mv 39)⟩, false, false⟩,
      ⟨15, ⟨some 41, some (40, true), .op (.mv 0)⟩, false, false⟩,
      ⟨16, ⟨some 42, some (40, true), .op (.mv 3)⟩, false, false⟩,
      ⟨17, ⟨some 43, some (40, true), .op (.idxS 41 42)⟩, false, false⟩]
    (.ef ⟨18, ⟨some 44, some (40, true), .call 59 [43]⟩, true, false⟩ []
    (.rd [⟨19, ⟨some 45, some (40, true), .op (.un .not 44)⟩, false, false⟩,
      ⟨20, ⟨some 46, some (34, false), .op (.pick 40 45 (.val (.bool false)))⟩, false, false⟩,
      ⟨21, ⟨some 47, none, .op (.pick 34 (.val (.bool true)) 46)⟩, false, false⟩]
    (.nil)))))))))
   (.cond 47
    (.seq (.ops [⟨some 2, none, .op (.mv (.val (.bool false)))⟩])
    (.ret))
    (.skip))))
  (.ops [⟨some 24, none, .op (.mv 3)⟩,
    ⟨some 25, none, .op (.bin .add .int 24 (.val (.int 1)))⟩,
    ⟨some 3, none, .op (.mv 25)⟩]))

def f31m (G : Nat → AVal) : MC :=
  .seq (.ops [⟨some 2, none, .op (.mv (.val (.bool false)))⟩])
  (.seq (.seq (.ops [⟨some 4, none, .op (.mv 0)⟩,
    ⟨some 5, none, .op (.lenStr 4)⟩,
    ⟨some 6, none, .op (.bin .lss .int 5 (.val (.int 1)))⟩,
    ⟨some 7, none, .op (.mv 6)⟩,
    ⟨some 8, some (7, false), .op (.mv 0)⟩,
    ⟨some 9, some (7, false), .op (.lenStr 8)⟩,
    ⟨some 10, some (7, false), .op (.bin .gtr .int 9 (.val (.int 32)))⟩,
    ⟨some 11, none, .op (.pick 7 (.val (.bool true)) 10)⟩,
    ⟨some 12, none, .op (.mv 11)⟩,
    ⟨some 13, some (12, false), .op (.mv 0)⟩,
    ⟨some 14, some (12, false), .call 63 [13]⟩,
    ⟨some 15, none, .op (.pick 12 (.val (.bool true)) 14)⟩])
  (.cond 15
   (.seq (.ops [⟨some 2, none, .op (.mv (.val (.bool false)))⟩])
   (.ret))
   (.skip)))
  (.seq (.seq (.ops [⟨some 16, none, .op (.mv 0)⟩,
    ⟨some 17, none, .op (.idxS 16 (.val (.int 0)))⟩,
    ⟨some 18, none, .call 57 [17]⟩,
    ⟨some 19, none, .op (.un .not 18)⟩])
  (.cond 19
   (.seq (.ops [⟨some 2, none, .op (.mv (.val (.bool false)))⟩])
   (.ret))
   (.skip)))
  (.seq (.seq (.ops [⟨some 3, none, .op (.mv (.val (.int 0)))⟩])
  (.block 0
   (.loop (f31b0 G))))
  (.seq (.ops [⟨some 2, none, .op (.mv (.val (.bool true)))⟩])
  (.ret)))))
def f31 (G : Nat → AVal) : AFn := ⟨48, [.tmp 2], f31m G⟩

theorem f31_c (G : Nat → AVal) : cmpFn Tryz.prog G [] 31 = some (f31 G) := by kernel_rfl

def f13b0 (G : Nat → AVal) : MC :=
  .seq (.seq (.ops [⟨some 18, none, .op (.mv 3)⟩,
    ⟨some 19, none, .op (.lenStr 18)⟩,
    ⟨some 20, none, .op (.faddr 3 1)⟩,
    ⟨some 21, none, .op (.load false 1 20)⟩,
    ⟨some 22, none, .op (.bin .leq .int 19 21)⟩])
  (.cond 22
   (.skip)
   (.exit 1)))
  (.block 2
   (.ops [⟨some 23, none, .op (.mv 3)⟩,
     ⟨some 24, none, .op (.bin .add .int (.val (.str [48])) 23)⟩,
     ⟨some 3, none, .op (.mv 24)⟩]))

def f13b1 (G : Nat → AVal) : MC :=
  .seq (.seq (.ops [⟨some 44, none, .op (.mv 5)⟩,
    ⟨some 45, none, .op (.faddr 1 1)⟩,
    ⟨some 46, none, .op (.load false 1 45)⟩,
    ⟨some 47, none, .op (.lenStr 46)⟩,
    ⟨some 48, none, .op (.bin .lss .int 44 47)⟩])
  (.cond 48
   (.skip)
   (.exit 3)))
  (.seq (.block 4
   (.seq (.ops [⟨some 51, none, .op (.mv 4)⟩,
     ⟨some 52, none, .op (.faddr 1 1)⟩,
     ⟨some 53, none, .op (.load false 1 52)⟩,
     ⟨some 54, none, .op (.mv 5)⟩,
     ⟨some 55, none, .op (.idxS 53 54)⟩,
     ⟨some 56, none, .op (.bslice false 1 1 [.atom (.int .u8 0)] [(0, 55)])⟩,
     ⟨some 57, none, .op (.append 1 1 51 56)⟩,
     ⟨some 4, none, .op (.mv 57)⟩])
   (.seq (.ops [⟨some 58, none, .op (.faddr 1 1)⟩,
     ⟨some 59, none, .op (.load false 1 58)⟩,
     ⟨some 60, none, .op (.mv 5)⟩,
     ⟨some 61, none, .op (.idxS 59 60)⟩,
     ⟨some 62, none, .op (.bin .eql .int 61 (.val (.atom (.int .u8 39))))⟩])
   (.cond 62
    (.ops [⟨some 63, none, .op (.mv 4)⟩,
      ⟨some 64, none, .op (.bslice false 1 1 [.atom (.int .u8 0)] [(0, (.val (.atom (.int .u8 39))))])⟩,
      ⟨some 65, none, .op (.append 1 1 63 64)⟩,
      ⟨some 4, none, .op (.mv 65)⟩])
    (.skip)))))
  (.ops [⟨some 49, none, .op (.mv 5)⟩,
    ⟨some 50, none, .op (.bin .add .int 49 (.val (.int 1)))⟩,
    ⟨some 5, none, .op (.mv 50)⟩]))

def f13m (G : Nat → AVal) : MC :=
  .seq (.ops [⟨some 1, none, .op (.box true 4 0)⟩,
    ⟨some 2, none, .op (.mv (.val (.str [])))⟩])
  (.seq (.seq (.ops [⟨some 6, none, .op (.faddr 0 1)⟩,
    ⟨some 7, none, .op (.load false 1 6)⟩])
  (.block 0
   (.seq (.ops [⟨some 9, none, .op (.bin .eql .int 7 (.val (.int 2)))⟩,
     ⟨some 8, none, .op (.mv 9)⟩])
   (.cond 8
    (.seq (.ops [⟨some 10, none, .op (.faddr 2 1)⟩,
      ⟨some 11, none, .op (.load false 1 10)⟩,
      ⟨some 12, none, .call 28 [11]⟩,
      ⟨some 2, none, .op (.mv 12)⟩])
    (.ret))
    (.seq (.ops [⟨some 14, none, .op (.bin .eql .int 7 (.val (.int 3)))⟩,
      ⟨some 13, none, .op (.mv 14)⟩])
    (.cond 13
     (.seq (.ops [⟨some 15, none, .op (.faddr 2 1)⟩,
       ⟨some 16, none, .op (.load false 1 15)⟩,
       ⟨some 17, none, .call 28 [16]⟩,
       ⟨some 3, none, .op (.mv 17)⟩])
     (.seq (.block 1
      (.loop (f13b0 G)))
     (.seq (.draw (.rd [⟨0, ⟨some 25, none, .op (.mv 3)⟩, false, false⟩,
        ⟨1, ⟨some 26, none, .op (.mv 3)⟩, false, false⟩,
        ⟨2, ⟨some 27, none, .op (.lenStr 26)⟩, false, false⟩,
        ⟨3, ⟨some 28, none, .op (.faddr 3 1)⟩, false, false⟩,
        ⟨4, ⟨some 29, none, .op (.load false 1 28)⟩, false, false⟩,
        ⟨5, ⟨some 30, none, .op (.bin .sub .int 27 29)⟩, false, false⟩,
        ⟨6, ⟨some 31, none, .op (.sslc 25 none (some 30))⟩, false, false⟩,
        ⟨7, ⟨some 32, none, .op (.bin .add .int 31 (.val (.str [46])))⟩, false, false⟩,
        ⟨8, ⟨some 33, none, .op (.mv 3)⟩, false, false⟩,
        ⟨9, ⟨some 34, none, .op (.mv 3)⟩, false, false⟩,
        ⟨10, ⟨some 35, none, .op (.lenStr 34)⟩, false, false⟩,
        ⟨11, ⟨some 36, none, .op (.faddr 3 1)⟩, false, false⟩,
        ⟨12, ⟨some 37, none, .op (.load false 1 36)⟩, false, false⟩,
        ⟨13, ⟨some 38, none, .op (.bin .sub .int 35 37)⟩, false, false⟩,
        ⟨14, ⟨some 39, none, .op (.sslc 33 (some 38) none)⟩, false, false⟩,
        ⟨15, ⟨some 40, none, .op (.bin .add .int 32 39)⟩, false, false⟩,
        ⟨16, ⟨some 2, none, .op (.mv 40)⟩, false, false⟩]
      (.nil)))
     (.ret))))
     (.seq (.ops [⟨some 42, none, .op (.bin .eql .int 7 (.val (.int 4)))⟩,
       ⟨some 41, none, .op (.mv 42)⟩])
     (.cond 41
      (.seq (.ops [⟨some 43, none, .op (.brow false 1 1 [.atom (.int .u8 0)] [(0, (.val (.atom (.int .u8 39))))])⟩,
        ⟨some 4, none, .op (.mv 43)⟩])
      (.seq (.seq (.ops [⟨some 5, none, .op (.mv (.val (.int 0)))⟩])
      (.block 3
       (.loop (f13b1 G))))
      (.seq (.ops [⟨some 66, none, .op (.mv 4)⟩,
        ⟨some 67, none, .op (.bslice false 1 1 [.atom (.int .u8 0)] [(0, (.val (.atom (.int .u8 39))))])⟩,
        ⟨some 68, none, .op (.append 1 1 66 67)⟩,
        ⟨some 69, none, .op (.conv .bytesStr 68)⟩,
        ⟨some 2, none, .op (.mv 69)⟩])
      (.ret))))
      (.skip)))))))))
  (.seq (.ops [⟨some 70, none, .op (.faddr 1 1)⟩,
    ⟨some 71, none, .op (.load false 1 70)⟩,
    ⟨some 2, none, .op (.mv 71)⟩])
  (.ret)))
def f13 (G : Nat → AVal) : AFn := ⟨72, [.tmp 2], f13m G⟩

theorem f13_c (G : Nat → AVal) : cmpFn Tryz.prog G [43] 13 = some (f13 G) := by kernel_rfl

def f27b0 (G : Nat → AVal) : MC :=
  .seq (.seq (.ops [⟨some 18, none, .op (.mv 0)⟩,
    ⟨some 19, none, .op (.mv 1)⟩,
    ⟨some 20, none, .call 58 [18, 19]⟩,
    ⟨some 21, none, .call 57 [20]⟩,
    ⟨some 22, none, .op (.mv 21)⟩,
    ⟨some 23, some (22, false), .op (.mv 0)⟩,
    ⟨some 24, some (22, false), .op (.mv 1)⟩,
    ⟨some 25, some (22, false), .call 58 [23, 24]⟩,
    ⟨some 26, some (22, false), .call 59 [25]⟩,
    ⟨some 27, none, .op (.pick 22 (.val (.bool true)) 26)⟩])
  (.cond 27
   (.skip)
   (.exit 0)))
  (.block 1
   (.seq (.ops [⟨some 28, none, .op (.mv 8)⟩,
     ⟨some 29, none, .op (.mv 0)⟩,
     ⟨some 30, none, .op (.mv 1)⟩,
     ⟨some 31, none, .op (.idxS 29 30)⟩,
     ⟨some 32, none, .call 60 [31]⟩,
     ⟨some 33, none, .op (.bslice false 1 1 [.atom (.int .u8 0)] [(0, 32)])⟩,
     ⟨some 34, none, .op (.append 1 1 28 33)⟩,
     ⟨some 8, none, .op (.mv 34)⟩])
   (.ops [⟨some 35, none, .op (.mv 1)⟩,
     ⟨some 36, none, .op (.bin .add .int 35 (.val (.int 1)))⟩,
     ⟨some 1, none, .op (.mv 36)⟩])))

def f27b1 (G : Nat → AVal) : MC :=
  .seq (.seq (.ops [⟨some 101, none, .op (.mv 11)⟩,
    ⟨some 102, none, .op (.mv 10)⟩,
    ⟨some 103, none, .op (.lenStr 102)⟩,
    ⟨some 104, none, .op (.bin .lss .int 101 103)⟩])
  (.cond 104
   (.skip)
   (.exit 2)))
  (.seq (.block 3
   (.seq (.ops [⟨some 107, none, .op (.mv 10)⟩,
     ⟨some 108, none, .op (.mv 11)⟩,
     ⟨some 109, none, .op (.idxS 107 108)⟩,
     ⟨some 110, none, .op (.mv 7)⟩,
     ⟨some 111, none, .op (.bin .eql .int 109 110)⟩])
   (.cond 111
    (.seq (.ops [⟨some 112, none, .op (.mv 0)⟩,
      ⟨some 113, none, .op (.mv 1)⟩,
      ⟨some 114, none, .op (.mv 1)⟩,
      ⟨some 115, none, .op (.bin .add .int 114 (.val (.int 1)))⟩,
      ⟨some 116, none, .op (.sslc 112 (some 113) (some 115))⟩,
      ⟨some 117, none, .op (.build [.int 0, .str [], .int 0, .int 0] [(false, 0, 1, (.val (.int 5))), (false, 1, 1, 116)])⟩,
      ⟨some 118, none, .op (.mv 1)⟩,
      ⟨some 119, none, .op (.bin .add .int 118 (.val (.int 1)))⟩,
      ⟨none, none, .op (.store true 4 4 117)⟩,
      ⟨some 5, none, .op (.mv 119)⟩,
      ⟨some 6, none, .op (.mv (.val (.int 0)))⟩])
    (.ret))
    (.skip))))
  (.ops [⟨some 105, none, .op (.mv 11)⟩,
    ⟨some 106, none, .op (.bin .add .int 105 (.val (.int 1)))⟩,
    ⟨some 11, none, .op (.mv 106)⟩]))

def f27m (G : Nat → AVal) : MC :=
  .seq (.ops [⟨some 4, none, .op (.alloc 4 [.int 0, .str [], .int 0, .int 0])⟩,
    ⟨some 5, none, .op (.mv (.val (.int 0)))⟩,
    ⟨some 6, none, .op (.mv (.val (.int 0)))⟩])
  (.seq (.ops [⟨some 12, none, .op (.mv 0)⟩,
    ⟨some 13, none, .op (.mv 1)⟩,
    ⟨some 14, none, .op (.idxS 12 13)⟩,
    ⟨some 7, none, .op (.mv 14)⟩])
  (.seq (.seq (.ops [⟨some 15, none, .op (.mv 7)⟩,
    ⟨some 16, none, .call 57 [15]⟩])
  (.cond 16
   (.seq (.ops [⟨some 17, none, .op (.bslice false 1 0 [.atom (.int .u8 0)] [])⟩,
     ⟨some 8, none, .op (.mv 17)⟩])
   (.seq (.block 0
    (.loop (f27b0 G)))
   (.seq (.seq (.ops [⟨some 37, none, .op (.mv 8)⟩,
     ⟨some 38, none, .op (.lenS 37)⟩,
     ⟨some 39, none, .op (.bin .gtr .int 38 (.val (.int 32)))⟩])
   (.cond 39
    (.seq (.ops [⟨some 40, none, .op (.build [.int 0, .str [], .int 0, .int 0] [])⟩,
      ⟨some 41, none, .op (.mv 1)⟩,
      ⟨none, none, .op (.store true 4 4 40)⟩,
      ⟨some 5, none, .op (.mv 41)⟩,
      ⟨some 6, none, .op (.mv (.val (.int 122)))⟩])
    (.ret))
    (.skip)))
   (.seq (.ops [⟨some 42, none, .op (.mv 8)⟩,
     ⟨some 43, none, .op (.conv .bytesStr 42)⟩,
     ⟨some 44, none, .op (.build [.int 0, .str [], .int 0, .int 0] [(false, 0, 1, (.val (.int 1))), (false, 1, 1, 43)])⟩,
     ⟨some 45, none, .op (.mv 1)⟩,
     ⟨none, none, .op (.store true 4 4 44)⟩,
     ⟨some 5, none, .op (.mv 45)⟩,
     ⟨some 6, none, .op (.mv (.val (.int 0)))⟩])
   (.ret)))))
   (.skip)))
  (.seq (.seq (.ops [⟨some 46, none, .op (.mv 7)⟩,
    ⟨some 47, none, .call 59 [46]⟩])
  (.cond 47
   (.seq (.ops [⟨some 48, none, .op (.mv 0)⟩,
     ⟨some 49, none, .op (.mv 1)⟩,
     ⟨some 50, none, .call 61 [48, 49]⟩,
     ⟨some 51, none, .op (.extract 50 0)⟩,
     ⟨some 52, none, .op (.extract 50 1)⟩,
     ⟨some 53, none, .op (.extract 50 2)⟩,
     ⟨none, none, .op (.store true 4 4 51)⟩,
     ⟨some 5, none, .op (.mv 52)⟩,
     ⟨some 6, none, .op (.mv 53)⟩])
   (.ret))
   (.skip)))
  (.seq (.seq (.ops [⟨some 54, none, .op (.mv 7)⟩,
    ⟨some 55, none, .op (.bin .eql .int 54 (.val (.atom (.int .u8 39))))⟩])
  (.cond 55
   (.seq (.ops [⟨some 56, none, .op (.mv 0)⟩,
     ⟨some 57, none, .op (.mv 1)⟩,
     ⟨some 58, none, .op (.bin .add .int 57 (.val (.int 1)))⟩,
     ⟨some 59, none, .call 62 [56, 58]⟩,
     ⟨some 60, none, .op (.extract 59 0)⟩,
     ⟨some 61, none, .op (.extract 59 1)⟩,
     ⟨some 62, none, .op (.extract 59 2)⟩,
     ⟨none, none, .op (.store true 4 4 60)⟩,
     ⟨some 5, none, .op (.mv 61)⟩,
     ⟨some 6, none, .op (.mv 62)⟩])
   (.ret))
   (.skip)))
  (.seq (.ops [⟨some 63, none, .op (.mv 0)⟩,
    ⟨some 64, none, .op (.mv 1)⟩,
    ⟨some 65, none, .op (.bin .add .int 64 (.val (.int 1)))⟩,
    ⟨some 66, none, .call 58 [63, 65]⟩,
    ⟨some 9, none, .op (.mv 66)⟩])
  (.seq (.seq (.ops [⟨some 67, none, .op (.mv 7)⟩,
    ⟨some 68, none, .op (.bin .eql .int 67 (.val (.atom (.int .u8 60))))⟩,
    ⟨some 69, none, .op (.mv 68)⟩,
    ⟨some 70, some (69, true), .op (.mv 9)⟩,
    ⟨some 71, some (69, true), .op (.bin .eql .int 70 (.val (.atom (.int .u8 62))))⟩,
    ⟨some 72, some (69, true), .op (.mv 71)⟩,
    ⟨some 73, some (72, false), .op (.mv 9)⟩,
    ⟨some 74, some (72, false), .op (.bin .eql .int 73 (.val (.atom (.int .u8 61))))⟩,
    ⟨some 75, some (69, true), .op (.pick 72 (.val (.bool true)) 74)⟩,
    ⟨some 76, none, .op (.pick 69 75 (.val (.bool false)))⟩,
    ⟨some 77, none, .op (.mv 76)⟩,
    ⟨some 78, some (77, false), .op (.mv 7)⟩,
    ⟨some 79, some (77, false), .op (.bin .eql .int 78 (.val (.atom (.int .u8 62))))⟩,
    ⟨some 80, some (77, false), .op (.mv 79)⟩,
    ⟨some 81, some (80, true), .op (.mv 9)⟩,
    ⟨some 82, some (80, true), .op (.bin .eql .int 81 (.val (.atom (.int .u8 61))))⟩,
    ⟨some 83, some (77, false), .op (.pick 80 82 (.val (.bool false)))⟩,
    ⟨some 84, none, .op (.pick 77 (.val (.bool true)) 83)⟩,
    ⟨some 85, none, .op (.mv 84)⟩,
    ⟨some 86, some (85, false), .op (.mv 7)⟩,
    ⟨some 87, some (85, false), .op (.bin .eql .int 86 (.val (.atom (.int .u8 124))))⟩,
    ⟨some 88, some (85, false), .op (.mv 87)⟩,
    ⟨some 89, some (88, true), .op (.mv 9)⟩,
    ⟨some 90, some (88, true), .op (.bin .eql .int 89 (.val (.atom (.int .u8 124))))⟩,
    ⟨some 91, some (85, false), .op (.pick 88 90 (.val (.bool false)))⟩,
    ⟨some 92, none, .op (.pick 85 (.val (.bool true)) 91)⟩])
  (.cond 92
   (.seq (.ops [⟨some 93, none, .op (.mv 0)⟩,
     ⟨some 94, none, .op (.mv 1)⟩,
     ⟨some 95, none, .op (.mv 1)⟩,
     ⟨some 96, none, .op (.bin .add .int 95 (.val (.int 2)))⟩,
     ⟨some 97, none, .op (.sslc 93 (some 94) (some 96))⟩,
     ⟨some 98, none, .op (.build [.int 0, .str [], .int 0, .int 0] [(false, 0, 1, (.val (.int 5))), (false, 1, 1, 97)])⟩,
     ⟨some 99, none, .op (.mv 1)⟩,
     ⟨some 100, none, .op (.bin .add .int 99 (.val (.int 2)))⟩,
     ⟨none, none, .op (.store true 4 4 98)⟩,
     ⟨some 5, none, .op (.mv 100)⟩,
     ⟨some 6, none, .op (.mv (.val (.int 0)))⟩])
   (.ret))
   (.skip)))
  (.seq (.ops [⟨some 10, none, .op (.mv (.val (.str [40, 41, 44, 46, 42, 43, 45, 47, 37, 61, 60, 62])))⟩])
  (.seq (.seq (.ops [⟨some 11, none, .op (.mv (.val (.int 0)))⟩])
  (.block 2
   (.loop (f27b1 G))))
  (.seq (.ops [⟨some 120, none, .op (.build [.int 0, .str [], .int 0, .int 0] [])⟩,
    ⟨some 121, none, .op (.mv 1)⟩,
    ⟨none, none, .op (.store true 4 4 120)⟩,
    ⟨some 5, none, .op (.mv 121)⟩,
    ⟨some 6, none, .op (.mv (.val (.int 120)))⟩])
  (.ret))))))))))
def f27 (G : Nat → AVal) : AFn := ⟨122, [.cell 4 true 4, .tmp 5, .tmp 6], f27m G⟩

theorem f27_c (G : Nat → AVal) : cmpFn Tryz.prog G [] 27 = some (f27 G) := by kernel_rfl


def f57m (G : Nat → AVal) : MC :=
  .seq (.ops [⟨some 2, none, .op (.mv (.val (.bool false)))⟩])
  (.seq (.ops [⟨some 3, none, .op (.mv 0)⟩,
    ⟨some 4, none, .op (.bin .eql .int 3 (.val (.atom (.int .u8 95))))⟩,
    ⟨some 5, none, .op (.mv 4)⟩,
    ⟨some 6, some (5, false), .op (.mv 0)⟩,
    ⟨some 7, some (5, false), .call 60 [6]⟩,
    ⟨some 8, some (5, false), .op (.bin .leq .int (.val (.atom (.int .u8 97))) 7)⟩,
    ⟨some 9, some (5, false), .op (.mv 8)⟩,
    ⟨some 10, some (9, true), .op (.mv 0)⟩,
    ⟨some 11, some (9, true), .call 60 [10]⟩,
    ⟨some 12, some (9, true), .op (.bin .leq .int 11 (.val (.atom (.int .u8 122))))⟩,
    ⟨some 13, some (5, false), .op (.pick 9 12 (.val (.bool false)))⟩,
    ⟨some 14, none, .op (.pick 5 (.val (.bool true)) 13)⟩,
    ⟨some 2, none, .op (.mv 14)⟩])
  (.ret))
def f57 (G : Nat → AVal) : AFn := ⟨15, [.tmp 2], f57m G⟩

theorem f57_c (G : Nat → AVal) : cmpFn Tryz.prog G [] 57 = some (f57 G) := by kernel_rfl


def f60m (G : Nat → AVal) : MC :=
  .seq (.ops [⟨some 2, none, .op (.mv (.val (.atom (.int .u8 0))))⟩])
  (.seq (.seq (.ops [⟨some 3, none, .op (.mv 0)⟩,
    ⟨some 4, none, .op (.bin .leq .int (.val (.atom (.int .u8 65))) 3)⟩,
    ⟨some 5, none, .op (.mv 4)⟩,
    ⟨some 6, some (5, true), .op (.mv 0)⟩,
    ⟨some 7, some (5, true), .op (.bin .leq .int 6 (.val (.atom (.int .u8 90))))⟩,
    ⟨some 8, none, .op (.pick 5 7 (.val (.bool false)))⟩])
  (.cond 8
   (.seq (.ops [⟨some 9, none, .op (.mv 0)⟩,
     ⟨some 10, none, .op (.bin .add .int 9 (.val (.atom (.int .u8 32))))⟩,
     ⟨some 2, none, .op (.mv 10)⟩])
   (.ret))
   (.skip)))
  (.seq (.ops [⟨some 11, none, .op (.mv 0)⟩,
    ⟨some 2, none, .op (.mv 11)⟩])
  (.ret)))
def f60 (G : Nat → AVal) : AFn := ⟨12, [.tmp 2], f60m G⟩

theorem f60_c (G : Nat → AVal) : cmpFn Tryz.prog G [] 60 = some (f60 G) := by kernel_rfl


def f59m (G : Nat → AVal) : MC :=
  .seq (.ops [⟨some 2, none, .op (.mv (.val (.bool false)))⟩])
  (.seq (.ops [⟨some 3, none, .op (.mv 0)⟩,
    ⟨some 4, none, .op (.bin .leq .int (.val (.atom (.int .u8 48))) 3)⟩,
    ⟨some 5, none, .op (.mv 4)⟩,
    ⟨some 6, some (5, true), .op (.mv 0)⟩,
    ⟨some 7, some (5, true), .op (.bin .leq .int 6 (.val (.atom (.int .u8 57))))⟩,
    ⟨some 8, none, .op (.pick 5 7 (.val (.bool false)))⟩,
    ⟨some 2, none, .op (.mv 8)⟩])
  (.ret))
def f59 (G : Nat → AVal) : AFn := ⟨9, [.tmp 2], f59m G⟩

theorem f59_c (G : Nat → AVal) : cmpFn Tryz.prog G [] 59 = some (f59 G) := by kernel_rfl

def f28b0 (G : Nat → AVal) : MC :=
  .seq (.seq (.ops [⟨some 4, none, .op (.mv 0)⟩,
    ⟨some 5, none, .op (.bin .gtr .int 4 (.val (.int 9)))⟩])
  (.cond 5
   (.skip)
   (.exit 0)))
  (.block 1
   (.seq (.ops [⟨some 6, none, .op (.mv 0)⟩,
     ⟨some 7, none, .op (.bin .rem .int 6 (.val (.int 10)))⟩,
     ⟨some 8, none, .op (.bin .add .int (.val (.int 48)) 7)⟩,
     ⟨some 9, none, .op (.conv (.toInt .u8) 8)⟩,
     ⟨some 10, none, .op (.bslice false 1 1 [.atom (.int .u8 0)] [(0, 9)])⟩,
     ⟨some 11, none, .op (.conv .bytesStr 10)⟩,
     ⟨some 12, none, .op (.mv 3)⟩,
     ⟨some 13, none, .op (.bin .add .int 11 12)⟩,
     ⟨some 3, none, .op (.mv 13)⟩])
   (.ops [⟨some 14, none, .op (.mv 0)⟩,
     ⟨some 15, none, .op (.bin .quo .int 14 (.val (.int 10)))⟩,
     ⟨some 0, none, .op (.mv 15)⟩])))

def f28m (G : Nat → AVal) : MC :=
  .seq (.ops [⟨some 2, none, .op (.mv (.val (.str [])))⟩])
  (.seq (.ops [⟨some 3, none, .op (.mv (.val (.str [])))⟩])
  (.seq (.block 0
   (.loop (f28b0 G)))
  (.seq (.ops [⟨some 16, none, .op (.mv 0)⟩,
    ⟨some 17, none, .op (.bin .add .int (.val (.int 48)) 16)⟩,
    ⟨some 18, none, .op (.conv (.toInt .u8) 17)⟩,
    ⟨some 19, none, .op (.bslice false 1 1 [.atom (.int .u8 0)] [(0, 18)])⟩,
    ⟨some 20, none, .op (.conv .bytesStr 19)⟩,
    ⟨some 21, none, .op (.mv 3)⟩,
    ⟨some 22, none, .op (.bin .add .int 20 21)⟩,
    ⟨some 2, none, .op (.mv 22)⟩])
  (.ret))))
def f28 (G : Nat → AVal) : AFn := ⟨23, [.tmp 2], f28m G⟩

theorem f28_c (G : Nat → AVal) : cmpFn Tryz.prog G [] 28 = some (f28 G) := by kernel_rfl


def f58m (G : Nat → AVal) : MC :=
  .seq (.ops [⟨some 4, none, .op (.mv (.val (.atom (.int .u8 0))))⟩])
  (.seq (.seq (.ops [⟨some 5, none, .op (.mv 1)⟩,
    ⟨some 6, none, .op (.mv 0)⟩,
    ⟨some 7, none, .op (.lenStr 6)⟩,
    ⟨some 8, none, .op (.bin .lss .int 5 7)⟩])
  (.cond 8
   (.seq (.ops [⟨some 9, none, .op (.mv 0)⟩,
     ⟨some 10, none, .op (.mv 1)⟩,
     ⟨some 11, none, .op (.idxS 9 10)⟩,
     ⟨some 4, none, .op (.mv 11)⟩])
   (.ret))
   (.skip)))
  (.seq (.ops [⟨some 4, none, .op (.mv (.val (.atom (.int .u8 0))))⟩])
  (.ret)))
def f58 (G : Nat → AVal) : AFn := ⟨12, [.tmp 4], f58m G⟩

theorem f58_c (G : Nat → AVal) : cmpFn Tryz.prog G [] 58 = some (f58 G) := by kernel_rfl

def f61b0 (G : Nat → AVal) : MC :=
  .seq (.seq (.ops [⟨some 11, none, .op (.mv 0)⟩,
    ⟨some 12, none, .op (.mv 1)⟩,
    ⟨some 13, none, .call 58 [11, 12]⟩,
    ⟨some 14, none, .call 59 [13]⟩])
  (.cond 14
   (.skip)
   (.exit 0)))
  (.block 1
   (.seq (.ops [⟨some 15, none, .op (.mv 8)⟩,
     ⟨some 16, none, .op (.bin .add .int 15 (.val (.int 1)))⟩,
     ⟨some 8, none, .op (.mv 16)⟩])
   (.seq (.seq (.ops [⟨some 17, none, .op (.mv 8)⟩,
     ⟨some 18, none, .op (.bin .lss .int 17 (.val (.int 20)))⟩])
   (.cond 18
    (.ops [⟨some 19, none, .op (.mv 7)⟩,
      ⟨some 20, none, .op (.bin .mul .int 19 (.val (.atom (.int .u64 10))))⟩,
      ⟨some 21, none, .op (.mv 0)⟩,
      ⟨some 22, none, .op (.mv 1)⟩,
      ⟨some 23, none, .op (.idxS 21 22)⟩,
      ⟨some 24, none, .op (.bin .sub .int 23 (.val (.atom (.int .u8 48))))⟩,
      ⟨some 25, none, .op (.conv (.toInt .u64) 24)⟩,
      ⟨some 26, none, .op (.bin .add .int 20 25)⟩,
      ⟨some 7, none, .op (.mv 26)⟩])
    (.skip)))
   (.ops [⟨some 27, none, .op (.mv 1)⟩,
     ⟨some 28, none, .op (.bin .add .int 27 (.val (.int 1)))⟩,
     ⟨some 1, none, .op (.mv 28)⟩]))))

def f61b1 (G : Nat → AVal) : MC :=
  .seq (.seq (.ops [⟨some 56, none, .op (.mv 0)⟩,
    ⟨some 57, none, .op (.mv 1)⟩,
    ⟨some 58, none, .call 58 [56, 57]⟩,
    ⟨some 59, none, .call 59 [58]⟩])
  (.cond 59
   (.skip)
   (.exit 2)))
  (.block 3
   (.seq (.ops [⟨some 60, none, .op (.mv 10)⟩,
     ⟨some 61, none, .op (.bin .add .int 60 (.val (.int 1)))⟩,
     ⟨some 10, none, .op (.mv 61)⟩])
   (.seq (.seq (.ops [⟨some 62, none, .op (.mv 8)⟩,
     ⟨some 63, none, .op (.mv 10)⟩,
     ⟨some 64, none, .op (.bin .add .int 62 63)⟩,
     ⟨some 65, none, .op (.bin .lss .int 64 (.val (.int 16)))⟩])
   (.cond 65
    (.ops [⟨some 66, none, .op (.mv 7)⟩,
      ⟨some 67, none, .op (.bin .mul .int 66 (.val (.atom (.int .u64 10))))⟩,
      ⟨some 68, none, .op (.mv 0)⟩,
      ⟨some 69, none, .op (.mv 1)⟩,
      ⟨some 70, none, .op (.idxS 68 69)⟩,
      ⟨some 71, none, .op (.bin .sub .int 70 (.val (.atom (.int .u8 48))))⟩,
      ⟨some 72, none, .op (.conv (.toInt .u64) 71)⟩,
      ⟨some 73, none, .op (.bin .add .int 67 72)⟩,
      ⟨some 7, none, .op (.mv 73)⟩])
    (.skip)))
   (.ops [⟨some 74, none, .op (.mv 1)⟩,
     ⟨some 75, none, .op (.bin .add .int 74 (.val (.int 1)))⟩,
     ⟨some 1, none, .op (.mv 75)⟩]))))

def f61m (G : Nat → AVal) : MC :=
  .seq (.ops [⟨some 4, none, .op (.alloc 4 [.int 0, .str [], .int 0, .int 0])⟩,
    ⟨some 5, none, .op (.mv (.val (.int 0)))⟩,
    ⟨some 6, none, .op (.mv (.val (.int 0)))⟩])
  (.seq (.ops [⟨some 7, none, .op (.mv (.val (.atom (.int .u64 0))))⟩,
    ⟨some 8, none, .op (.mv (.val (.int 0)))⟩,
    ⟨some 9, none, .op (.mv (.val (.bool false)))⟩])
  (.seq (.block 0
   (.loop (f61b0 G)))
  (.seq (.ops [⟨some 29, none, .op (.mv 8)⟩,
    ⟨some 30, none, .op (.bin .gtr .int 29 (.val (.int 19)))⟩,
    ⟨some 31, none, .op (.mv 30)⟩,
    ⟨some 32, some (31, false), .op (.mv 7)⟩,
    ⟨some 33, some (31, false), .op (.bin .geq .int 32 (.val (.atom (.int .u64 9223372036854775808))))⟩,
    ⟨some 34, none, .op (.pick 31 (.val (.bool true)) 33)⟩,
    ⟨some 9, none, .op (.mv 34)⟩])
  (.seq (.seq (.ops [⟨some 35, none, .op (.mv 0)⟩,
    ⟨some 36, none, .op (.mv 1)⟩,
    ⟨some 37, none, .call 58 [35, 36]⟩,
    ⟨some 38, none, .op (.bin .neq .int 37 (.val (.atom (.int .u8 46))))⟩,
    ⟨some 39, none, .op (.mv 38)⟩,
    ⟨some 40, some (39, false), .op (.mv 0)⟩,
    ⟨some 41, some (39, false), .op (.mv 1)⟩,
    ⟨some 42, some (39, false), .op (.bin .add .int 41 (.val (.int 1)))⟩,
    ⟨some 43, some (39, false), .call 58 [40, 42]⟩,
    ⟨some 44, some (39, false), .call 59 [43]⟩,
    ⟨some 45, some (39, false), .op (.un .not 44)⟩,
    ⟨some 46, none, .op (.pick 39 (.val (.bool true)) 45)⟩])
  (.cond 46
   (.seq (.seq (.ops [⟨some 47, none, .op (.mv 9)⟩])
   (.cond 47
    (.seq (.ops [⟨some 48, none, .op (.build [.int 0, .str [], .int 0, .int 0] [])⟩,
      ⟨some 49, none, .op (.mv 1)⟩,
      ⟨none, none, .op (.store true 4 4 48)⟩,
      ⟨some 5, none, .op (.mv 49)⟩,
      ⟨some 6, none, .op (.mv (.val (.int 11)))⟩])
    (.ret))
    (.skip)))
   (.seq (.ops [⟨some 50, none, .op (.mv 7)⟩,
     ⟨some 51, none, .op (.conv (.toInt .i64) 50)⟩,
     ⟨some 52, none, .op (.build [.int 0, .str [], .int 0, .int 0] [(false, 0, 1, (.val (.int 2))), (false, 2, 1, 51)])⟩,
     ⟨some 53, none, .op (.mv 1)⟩,
     ⟨none, none, .op (.store true 4 4 52)⟩,
     ⟨some 5, none, .op (.mv 53)⟩,
     ⟨some 6, none, .op (.mv (.val (.int 0)))⟩])
   (.ret)))
   (.skip)))
  (.seq (.ops [⟨some 54, none, .op (.mv 1)⟩,
    ⟨some 55, none, .op (.bin .add .int 54 (.val (.int 1)))⟩,
    ⟨some 1, none, .op (.mv 55)⟩])
  (.seq (.ops [⟨some 10, none, .op (.mv (.val (.int 0)))⟩])
  (.seq (.block 2
   (.loop (f61b1 G)))
  (.seq (.seq (.ops [⟨some 76, none, .op (.mv 8)⟩,
    ⟨some 77, none, .op (.mv 10)⟩,
    ⟨some 78, none, .op (.bin .add .int 76 77)⟩,
    ⟨some 79, none, .op (.bin .gtr .int 78 (.val (.int 15)))⟩])
  (.cond 79
   (.seq (.ops [⟨some 80, none, .op (.build [.int 0, .str [], .int 0, .int 0] [])⟩,
     ⟨some 81, none, .op (.mv 1)⟩,
     ⟨none, none, .op (.store true 4 4 80)⟩,
     ⟨some 5, none, .op (.mv 81)⟩,
     ⟨some 6, none, .op (.mv (.val (.int 11)))⟩])
   (.ret))
   (.skip)))
  (.seq (.ops [⟨some 82, none, .op (.mv 7)⟩,
    ⟨some 83, none, .op (.conv (.toInt .i64) 82)⟩,
    ⟨some 84, none, .op (.mv 10)⟩,
    ⟨some 85, none, .op (.build [.int 0, .str [], .int 0, .int 0] [(false, 0, 1, (.val (.int 3))), (false, 2, 1, 83), (false, 3, 1, 84)])⟩,
    ⟨some 86, none, .op (.mv 1)⟩,
    ⟨none, none, .op (.store true 4 4 85)⟩,
    ⟨some 5, none, .op (.mv 86)⟩,
    ⟨some 6, none, .op (.mv (.val (.int 0)))⟩])
  (.ret))))))))))
def f61 (G : Nat → AVal) : AFn := ⟨87, [.cell 4 true 4, .tmp 5, .tmp 6], f61m G⟩

theorem f61_c (G : Nat → AVal) : cmpFn Tryz.prog G [] 61 = some (f61 G) := by kernel_rfl

def f62b0 (G : Nat → AVal) : MC :=
  .seq (.seq (.ops [⟨some 9, none, .op (.mv 1)⟩,
    ⟨some 10, none, .op (.mv 0)⟩,
    ⟨some 11, none, .op (.lenStr 10)⟩,
    ⟨some 12, none, .op (.bin .lss .int 9 11)⟩])
  (.cond 12
   (.skip)
   (.exit 0)))
  (.block 1
   (.seq (.seq (.ops [⟨some 13, none, .op (.mv 0)⟩,
     ⟨some 14, none, .op (.mv 1)⟩,
     ⟨some 15, none, .op (.idxS 13 14)⟩,
     ⟨some 16, none, .op (.bin .eql .int 15 (.val (.atom (.int .u8 39))))⟩])
   (.cond 16
    (.seq (.seq (.ops [⟨some 17, none, .op (.mv 0)⟩,
      ⟨some 18, none, .op (.mv 1)⟩,
      ⟨some 19, none, .op (.bin .add .int 18 (.val (.int 1)))⟩,
      ⟨some 20, none, .call 58 [17, 19]⟩,
      ⟨some 21, none, .op (.bin .neq .int 20 (.val (.atom (.int .u8 39))))⟩])
    (.cond 21
     (.seq (.seq (.ops [⟨some 22, none, .op (.mv 7)⟩,
       ⟨some 23, none, .op (.lenS 22)⟩,
       ⟨some 24, none, .op (.bin .gtr .int 23 (.val (.int 200)))⟩])
     (.cond 24
      (.seq (.ops [⟨some 25, none, .op (.build [.int 0, .str [], .int 0, .int 0] [])⟩,
        ⟨some 26, none, .op (.mv 1)⟩,
        ⟨none, none, .op (.store true 4 4 25)⟩,
        ⟨some 5, none, .op (.mv 26)⟩,
        ⟨some 6, none, .op (.mv (.val (.int 1)))⟩])
      (.ret))
      (.skip)))
     (.seq (.ops [⟨some 27, none, .op (.mv 7)⟩,
       ⟨some 28, none, .op (.conv .bytesStr 27)⟩,
       ⟨some 29, none, .op (.build [.int 0, .str [], .int 0, .int 0] [(false, 0, 1, (.val (.int 4))), (false, 1, 1, 28)])⟩,
       ⟨some 30, none, .op (.mv 1)⟩,
       ⟨some 31, none, .op (.bin .add .int 30 (.val (.int 1)))⟩,
       ⟨none, none, .op (.store true 4 4 29)⟩,
       ⟨some 5, none, .op (.mv 31)⟩,
       ⟨some 6, none, .op (.mv (.val (.int 0)))⟩])
     (.ret)))
     (.skip)))
    (.ops [⟨some 32, none, .op (.mv 1)⟩,
      ⟨some 33, none, .op (.bin .add .int 32 (.val (.int 1)))⟩,
      ⟨some 1, none, .op (.mv 33)⟩]))
    (.skip)))
   (.seq (.ops [⟨some 34, none, .op (.mv 7)⟩,
     ⟨some 35, none, .op (.mv 0)⟩,
     ⟨some 36, none, .op (.mv 1)⟩,
     ⟨some 37, none, .op (.idxS 35 36)⟩,
     ⟨some 38, none, .op (.bslice false 1 1 [.atom (.int .u8 0)] [(0, 37)])⟩,
     ⟨some 39, none, .op (.append 1 1 34 38)⟩,
     ⟨some 7, none, .op (.mv 39)⟩])
   (.ops [⟨some 40, none, .op (.mv 1)⟩,
     ⟨some 41, none, .op (.bin .add .int 40 (.val (.int 1)))⟩,
     ⟨some 1, none, .op (.mv 41)⟩]))))

def f62m (G : Nat → AVal) : MC :=
  .seq (.ops [⟨some 4, none, .op (.alloc 4 [.int 0, .str [], .int 0, .int 0])⟩,
    ⟨some 5, none, .op (.mv (.val (.int 0)))⟩,
    ⟨some 6, none, .op (.mv (.val (.int 0)))⟩])
  (.seq (.ops [⟨some 8, none, .op (.bslice false 1 0 [.atom (.int .u8 0)] [])⟩,
    ⟨some 7, none, .op (.mv 8)⟩])
  (.seq (.block 0
   (.loop (f62b0 G)))
  (.seq (.ops [⟨some 42, none, .op (.build [.int 0, .str [], .int 0, .int 0] [])⟩,
    ⟨some 43, none, .op (.mv 1)⟩,
    ⟨none, none, .op (.store true 4 4 42)⟩,
    ⟨some 5, none, .op (.mv 43)⟩,
    ⟨some 6, none, .op (.mv (.val (.int 121)))⟩])
  (.ret))))
def f62 (G : Nat → AVal) : AFn := ⟨44, [.cell 4 true 4, .tmp 5, .tmp 6], f62m G⟩

theorem f62_c (G : Nat → AVal) : cmpFn Tryz.prog G [] 62 = some (f62 G) := by kernel_rfl

end Go.Abs
set_option linter.unusedVariables false
namespace Go.Abs
open Go Go.RowKit Go.Proofs

def f18b0 (G : Nat → AVal) : MC :=
  .seq (.ops [⟨some 10, none, .op (.bin .lss .int 9 8)⟩])
  (.seq (.cond 10
   (.skip)
   (.exit 0))
  (.seq (.block 1
   (.seq (.ops [⟨some 11, none, .op (.iaddr 7 7 9)⟩,
     ⟨some 12, none, .op (.load true 7 11)⟩,
     ⟨some 5, none, .op (.alloc 7 [.int 0, .nilS, .int 0, .int 0, .int 0, .str [], .str []])⟩,
     ⟨none, none, .op (.store true 7 5 12)⟩])
   (.ops [⟨some 13, none, .op (.mv 3)⟩,
     ⟨some 14, none, .op (.load true 7 5)⟩,
     ⟨some 15, none, .call 18 [14]⟩,
     ⟨some 16, none, .op (.bin .add .int 15 (.val (.int 1)))⟩,
     ⟨some 17, none, .op (.mm true 13 16)⟩,
     ⟨some 3, none, .op (.mv 17)⟩])))
  (.ops [⟨some 18, none, .op (.bin .add .int 9 (.val (.int 1)))⟩,
    ⟨some 9, none, .op (.mv 18)⟩])))

def f18m (G : Nat → AVal) : MC :=
  .seq (.ops [⟨some 1, none, .op (.box true 7 0)⟩,
    ⟨some 2, none, .op (.mv (.val (.int 0)))⟩])
  (.seq (.ops [⟨some 3, none, .op (.mv (.val (.int 0)))⟩])
  (.seq (.seq (.ops [⟨some 6, none, .op (.faddr 1 1)⟩,
    ⟨some 7, none, .op (.load false 1 6)⟩,
    ⟨some 8, none, .op (.lenS 7)⟩,
    ⟨some 9, none, .op (.mv (.val (.int 0)))⟩])
  (.block 0
   (.loop (f18b0 G))))
  (.seq (.ops [⟨some 19, none, .op (.mv 3)⟩,
    ⟨some 2, none, .op (.mv 19)⟩])
  (.ret))))
def f18 (G : Nat → AVal) : AFn := ⟨20, [.tmp 2], f18m G⟩

theorem f18_c (G : Nat → AVal) : cmpFn Tryz.prog G [] 18 = some (f18 G) := by kernel_rfl


def f22m (G : Nat → AVal) : MC :=
  .ops [⟨some 2, none, .op (.mv 0)⟩,
    ⟨some 3, none, .op (.build [.int 0] [(false, 0, 1, 2)])⟩,
    ⟨some 4, none, .op (.mkif 58 3)⟩,
    ⟨none, none, .op (.panic 4)⟩]
def f22 (G : Nat → AVal) : AFn := ⟨5, [], f22m G⟩

theorem f22_c (G : Nat → AVal) : cmpFn Tryz.prog G [] 22 = some (f22 G) := by kernel_rfl


def f39m (G : Nat → AVal) : MC :=
  .seq (.ops [⟨some 2, none, .op (.alloc 4 [.int 0, .str [], .int 0, .int 0])⟩])
  (.seq (.seq (.ops [⟨some 3, none, .op (.mv 0)⟩,
    ⟨some 4, none, .op (.nilck 3)⟩,
    ⟨some 5, none, .op (.faddr 0 4)⟩,
    ⟨some 6, none, .op (.load false 1 5)⟩,
    ⟨some 7, none, .op (.lenS 6)⟩,
    ⟨some 8, none, .op (.bin .eql .int 7 (.val (.int 0)))⟩])
  (.cond 8
   (.seq (.ops [⟨some 9, none, .op (.build [.int 0, .str [], .int 0, .int 0] [])⟩,
     ⟨none, none, .op (.store true 4 2 9)⟩])
   (.ret))
   (.skip)))
  (.seq (.ops [⟨some 10, none, .op (.mv 0)⟩,
    ⟨some 11, none, .op (.nilck 10)⟩,
    ⟨some 12, none, .op (.faddr 0 11)⟩,
    ⟨some 13, none, .op (.load false 1 12)⟩,
    ⟨some 14, none, .op (.iaddr 4 13 (.val (.int 0)))⟩,
    ⟨some 15, none, .op (.load true 4 14)⟩,
    ⟨none, none, .op (.store true 4 2 15)⟩])
  (.ret)))
def f39 (G : Nat → AVal) : AFn := ⟨16, [.cell 2 true 4], f39m G⟩

theorem f39_c (G : Nat → AVal) : cmpFn Tryz.prog G [] 39 = some (f39 G) := by kernel_rfl

def f40b0 (G : Nat → AVal) : MC :=
  .seq (.ops [⟨some 9, none, .op (.bin .lss .int 8 7)⟩])
  (.seq (.cond 9
   (.skip)
   (.exit 0))
  (.seq (.block 1
   (.seq (.ops [⟨some 10, none, .op (.iaddr 1 6 8)⟩,
     ⟨some 11, none, .op (.load false 1 10)⟩,
     ⟨some 5, none, .op (.mv 11)⟩])
   (.seq (.ops [⟨some 12, none, .op (.mv 0)⟩,
     ⟨some 13, none, .op (.mv 5)⟩,
     ⟨some 14, none, .call 42 [12, 13]⟩,
     ⟨some 15, none, .op (.un .not 14)⟩])
   (.cond 15
    (.ops [⟨some 16, none, .call 22 [(.val (.int 130))]⟩])
    (.skip)))))
  (.ops [⟨some 17, none, .op (.bin .add .int 8 (.val (.int 1)))⟩,
    ⟨some 8, none, .op (.mv 17)⟩])))

def f40m (G : Nat → AVal) : MC :=
  .seq (.ops [⟨some 6, none, .op (.mv 1)⟩,
    ⟨some 7, none, .op (.lenS 6)⟩,
    ⟨some 8, none, .op (.mv (.val (.int 0)))⟩])
  (.block 0
   (.loop (f40b0 G)))
def f40 (G : Nat → AVal) : AFn := ⟨18, [], f40m G⟩

theorem f40_c (G : Nat → AVal) : cmpFn Tryz.prog G [] 40 = some (f40 G) := by kernel_rfl


def f42m (G : Nat → AVal) : MC :=
  .seq (.ops [⟨some 4, none, .op (.mv (.val (.bool false)))⟩])
  (.seq (.ops [⟨some 5, none, .op (.mv 0)⟩,
    ⟨some 6, none, .op (.mv 1)⟩,
    ⟨some 7, none, .call 80 [5, (.val (.int 1)), 6]⟩,
    ⟨some 4, none, .op (.mv 7)⟩])
  (.ret))
def f42 (G : Nat → AVal) : AFn := ⟨8, [.tmp 4], f42m G⟩

theorem f42_c (G : Nat → AVal) : cmpFn Tryz.prog G [] 42 = some (f42 G) := by kernel_rfl


def f43m (G : Nat → AVal) : MC :=
  .seq (.ops [⟨some 2, none, .op (.mv (.val (.str [])))⟩])
  (.seq (.ops [⟨some 4, none, .op (.mv 0)⟩,
    ⟨some 5, none, .call 39 [4]⟩,
    ⟨some 3, none, .op (.alloc 4 [.int 0, .str [], .int 0, .int 0])⟩,
    ⟨none, none, .op (.store true 4 3 5)⟩])
  (.seq (.seq (.ops [⟨some 6, none, .op (.faddr 0 3)⟩,
    ⟨some 7, none, .op (.load false 1 6)⟩,
    ⟨some 8, none, .op (.bin .neq .int 7 (.val (.int 1)))⟩,
    ⟨some 9, none, .op (.mv 8)⟩,
    ⟨some 10, some (9, false), .op (.faddr 1 3)⟩,
    ⟨some 11, some (9, false), .op (.load false 1 10)⟩,
    ⟨some 12, some (9, false), .call 81 [11]⟩,
    ⟨some 13, none, .op (.pick 9 (.val (.bool true)) 12)⟩])
  (.cond 13
   (.ops [⟨some 14, none, .call 22 [(.val (.int 130))]⟩])
   (.skip)))
  (.seq (.ops [⟨some 15, none, .op (.mv 0)⟩,
    ⟨some 16, none, .op (.mv 0)⟩,
    ⟨some 17, none, .op (.nilck 16)⟩,
    ⟨some 18, none, .op (.faddr 0 17)⟩,
    ⟨some 19, none, .op (.load false 1 18)⟩,
    ⟨some 20, none, .op (.slc 4 19 (some (.val (.int 1))) none none)⟩,
    ⟨some 21, none, .op (.nilck 15)⟩,
    ⟨some 22, none, .op (.faddr 0 21)⟩,
    ⟨none, none, .op (.store false 1 22 20)⟩])
  (.seq (.ops [⟨some 23, none, .op (.faddr 1 3)⟩,
    ⟨some 24, none, .op (.load false 1 23)⟩,
    ⟨some 2, none, .op (.mv 24)⟩])
  (.ret)))))
def f43 (G : Nat → AVal) : AFn := ⟨25, [.tmp 2], f43m G⟩

theorem f43_c (G : Nat → AVal) : cmpFn Tryz.prog G [] 43 = some (f43 G) := by kernel_rfl


def f75m (G : Nat → AVal) : MC :=
  .seq (.ops [⟨some 4, none, .op (.mv 0)⟩,
    ⟨some 5, none, .op (.mv 1)⟩,
    ⟨some 6, none, .call 85 [4, 5]⟩,
    ⟨some 7, none, .op (.un .not 6)⟩])
  (.cond 7
   (.ops [⟨some 8, none, .call 22 [(.val (.int 130))]⟩])
   (.skip))
def f75 (G : Nat → AVal) : AFn := ⟨9, [], f75m G⟩

theorem f75_c (G : Nat → AVal) : cmpFn Tryz.prog G [] 75 = some (f75 G) := by kernel_rfl


def f80m (G : Nat → AVal) : MC :=
  .seq (.ops [⟨some 6, none, .op (.mv (.val (.bool false)))⟩])
  (.seq (.seq (.ops [⟨some 8, none, .op (.mv 0)⟩,
    ⟨some 9, none, .call 39 [8]⟩,
    ⟨some 7, none, .op (.alloc 4 [.int 0, .str [], .int 0, .int 0])⟩,
    ⟨none, none, .op (.store true 4 7 9)⟩])
  (.seq (.ops [⟨some 10, none, .op (.faddr 0 7)⟩,
    ⟨some 11, none, .op (.load false 1 10)⟩,
    ⟨some 12, none, .op (.mv 1)⟩,
    ⟨some 13, none, .op (.bin .neq .int 11 12)⟩,
    ⟨some 14, none, .op (.mv 13)⟩,
    ⟨some 15, some (14, false), .op (.faddr 1 7)⟩,
    ⟨some 16, some (14, false), .op (.load false 1 15)⟩,
    ⟨some 17, some (14, false), .op (.mv 2)⟩,
    ⟨some 18, some (14, false), .op (.bin .neq .str 16 17)⟩,
    ⟨some 19, none, .op (.pick 14 (.val (.bool true)) 18)⟩])
  (.cond 19
   (.seq (.ops [⟨some 6, none, .op (.mv (.val (.bool false)))⟩])
   (.ret))
   (.skip))))
  (.seq (.ops [⟨some 20, none, .op (.mv 0)⟩,
    ⟨some 21, none, .op (.mv 0)⟩,
    ⟨some 22, none, .op (.nilck 21)⟩,
    ⟨some 23, none, .op (.faddr 0 22)⟩,
    ⟨some 24, none, .op (.load false 1 23)⟩,
    ⟨some 25, none, .op (.slc 4 24 (some (.val (.int 1))) none none)⟩,
    ⟨some 26, none, .op (.nilck 20)⟩,
    ⟨some 27, none, .op (.faddr 0 26)⟩,
    ⟨none, none, .op (.store false 1 27 25)⟩])
  (.seq (.ops [⟨some 6, none, .op (.mv (.val (.bool true)))⟩])
  (.ret))))
def f80 (G : Nat → AVal) : AFn := ⟨28, [.tmp 6], f80m G⟩

theorem f80_c (G : Nat → AVal) : cmpFn Tryz.prog G [] 80 = some (f80 G) := by kernel_rfl


def f84m (G : Nat → AVal) : MC :=
  .seq (.ops [⟨some 2, none, .op (.alloc 7 [.int 0, .nilS, .int 0, .int 0, .int 0, .str [], .str []])⟩])
  (.seq (.ops [⟨some 4, none, .op (.mv 0)⟩,
    ⟨some 5, none, .call 107 [4]⟩,
    ⟨some 3, none, .op (.alloc 7 [.int 0, .nilS, .int 0, .int 0, .int 0, .str [], .str []])⟩,
    ⟨none, none, .op (.store true 7 3 5)⟩])
  (.seq (.draw (.rd [⟨0, ⟨some 6, none, .op (.mv 0)⟩, false, true⟩,
     ⟨1, ⟨some 7, none, .op (.mv 0)⟩, false, true⟩,
     ⟨2, ⟨some 8, none, .op (.nilck 7)⟩, false, true⟩,
     ⟨3, ⟨some 9, none, .op (.faddr 2 8)⟩, false, true⟩,
     ⟨4, ⟨some 10, none, .op (.load false 1 9)⟩, false, true⟩,
     ⟨5, ⟨some 11, none, .op (.load true 7 3)⟩, false, false⟩]
   (.ef ⟨6, ⟨some 12, none, .call 18 [11]⟩, true, false⟩ [0, 1, 2, 3, 4]
   (.rd [⟨7, ⟨some 13, none, .op (.mm true 10 12)⟩, false, false⟩,
     ⟨8, ⟨some 14, none, .op (.nilck 6)⟩, false, false⟩,
     ⟨9, ⟨some 15, none, .op (.faddr 2 14)⟩, false, false⟩]
   (.ef ⟨10, ⟨none, none, .op (.store false 1 15 13)⟩, true, false⟩ []
   (.nil))))))
  (.seq (.ops [⟨some 16, none, .op (.load true 7 3)⟩,
    ⟨none, none, .op (.store true 7 2 16)⟩])
  (.ret))))
def f84 (G : Nat → AVal) : AFn := ⟨17, [.cell 2 true 7], f84m G⟩

theorem f84_c (G : Nat → AVal) : cmpFn Tryz.prog G [] 84 = some (f84 G) := by kernel_rfl


def f85m (G : Nat → AVal) : MC :=
  .seq (.ops [⟨some 4, none, .op (.mv (.val (.bool false)))⟩])
  (.seq (.ops [⟨some 5, none, .op (.mv 0)⟩,
    ⟨some 6, none, .op (.mv 1)⟩,
    ⟨some 7, none, .call 80 [5, (.val (.int 5)), 6]⟩,
    ⟨some 4, none, .op (.mv 7)⟩])
  (.ret))
def f85 (G : Nat → AVal) : AFn := ⟨8, [.tmp 4], f85m G⟩

theorem f85_c (G : Nat → AVal) : cmpFn Tryz.prog G [] 85 = some (f85 G) := by kernel_rfl


def f107m (G : Nat → AVal) : MC :=
  .seq (.ops [⟨some 1, none, .op (.box false 1 0)⟩,
    ⟨some 2, none, .op (.alloc 7 [.int 0, .nilS, .int 0, .int 0, .int 0, .str [], .str []])⟩])
  (.seq (.ops [⟨some 3, none, .op (.load false 1 1)⟩,
    ⟨some 4, none, .op (.load false 1 1)⟩,
    ⟨some 5, none, .op (.mkfn (.func 121) [4] [])⟩,
    ⟨some 6, none, .op (.mkfn (.func 122) [] [1])⟩,
    ⟨some 7, none, .call 120 [3, 5, 6]⟩,
    ⟨none, none, .op (.store true 7 2 7)⟩])
  (.ret))
def f107 (G : Nat → AVal) : AFn := ⟨8, [.cell 2 true 7], f107m G⟩

theorem f107_c (G : Nat → AVal) : cmpFn Tryz.prog G [] 107 = some (f107 G) := by kernel_rfl

def f120b0 (G : Nat → AVal) : MC :=
  .seq (.seq (.ops [⟨some 13, none, .op (.mv 8)⟩,
    ⟨some 14, none, .op (.bin .neq .int 13 (.val (.int 0)))⟩])
  (.cond 14
   (.skip)
   (.exit 0)))
  (.seq (.block 1
   (.draw (.rd [⟨0, ⟨some 17, none, .op (.mv 8)⟩, false, true⟩,
      ⟨1, ⟨some 18, none, .op (.load true 7 7)⟩, false, true⟩,
      ⟨2, ⟨some 19, none, .op (.mv 1)⟩, false, false⟩]
    (.ef ⟨3, ⟨some 20, none, .callV 19 []⟩, true, false⟩ [0, 1]
    (.rd [⟨4, ⟨some 21, none, .op (.bslice true 7 2 [.int 0, .nilS, .int 0, .int 0, .int 0, .str [], .str []] [(0, 18), (1, 20)])⟩, false, false⟩,
      ⟨5, ⟨some 22, none, .op (.build [.int 0, .nilS, .int 0, .int 0, .int 0, .str [], .str []] [(false, 0, 1, 17), (false, 1, 1, 21)])⟩, false, false⟩]
    (.ef ⟨6, ⟨none, none, .op (.store true 7 7 22)⟩, true, false⟩ []
    (.nil)))))))
  (.ops [⟨some 15, none, .op (.mv 2)⟩,
    ⟨some 16, none, .callV 15 []⟩,
    ⟨some 8, none, .op (.mv 16)⟩]))

def f120m (G : Nat → AVal) : MC :=
  .seq (.ops [⟨some 6, none, .op (.alloc 7 [.int 0, .nilS, .int 0, .int 0, .int 0, .str [], .str []])⟩])
  (.seq (.ops [⟨some 9, none, .op (.mv 1)⟩,
    ⟨some 10, none, .callV 9 []⟩,
    ⟨some 7, none, .op (.alloc 7 [.int 0, .nilS, .int 0, .int 0, .int 0, .str [], .str []])⟩,
    ⟨none, none, .op (.store true 7 7 10)⟩])
  (.seq (.seq (.ops [⟨some 11, none, .op (.mv 2)⟩,
    ⟨some 12, none, .callV 11 []⟩,
    ⟨some 8, none, .op (.mv 12)⟩])
  (.block 0
   (.loop (f120b0 G))))
  (.seq (.ops [⟨some 23, none, .op (.load true 7 7)⟩,
    ⟨none, none, .op (.store true 7 6 23)⟩])
  (.ret))))
def f120 (G : Nat → AVal) : AFn := ⟨24, [.cell 6 true 7], f120m G⟩

theorem f120_c (G : Nat → AVal) : cmpFn Tryz.prog G [] 120 = some (f120 G) := by kernel_rfl


def f121m (G : Nat → AVal) : MC :=
  .seq (.ops [⟨some 1, none, .op (.box false 1 0)⟩,
    ⟨some 2, none, .op (.alloc 7 [.int 0, .nilS, .int 0, .int 0, .int 0, .str [], .str []])⟩])
  (.seq (.ops [⟨some 3, none, .op (.load false 1 1)⟩,
    ⟨some 4, none, .op (.load false 1 1)⟩,
    ⟨some 5, none, .op (.mkfn (.func 131) [4] [])⟩,
    ⟨some 6, none, .op (.mkfn (.func 132) [] [1])⟩,
    ⟨some 7, none, .call 120 [3, 5, 6]⟩,
    ⟨none, none, .op (.store true 7 2 7)⟩])
  (.ret))
def f121 (G : Nat → AVal) : AFn := ⟨8, [.cell 2 true 7], f121m G⟩

theorem f121_c (G : Nat → AVal) : cmpFn Tryz.prog G [] 121 = some (f121 G) := by kernel_rfl


def f122m (G : Nat → AVal) : MC :=
  .seq (.ops [⟨some 1, none, .op (.mv (.val (.int 0)))⟩])
  (.seq (.seq (.ops [⟨some 2, none, .op (.load false 1 0)⟩,
    ⟨some 3, none, .call 42 [2, (.val (.str [111, 114]))]⟩])
  (.cond 3
   (.seq (.ops [⟨some 1, none, .op (.mv (.val (.int 18)))⟩])
   (.ret))
   (.skip)))
  (.seq (.ops [⟨some 1, none, .op (.mv (.val (.int 0)))⟩])
  (.ret)))
def f122 (G : Nat → AVal) : AFn := ⟨4, [.tmp 1], f122m G⟩

theorem f122_c (G : Nat → AVal) : cmpFn Tryz.prog G [] 122 = some (f122 G) := by kernel_rfl


def f131m (G : Nat → AVal) : MC :=
  .seq (.ops [⟨some 1, none, .op (.box false 1 0)⟩,
    ⟨some 2, none, .op (.alloc 7 [.int 0, .nilS, .int 0, .int 0, .int 0, .str [], .str []])⟩])
  (.seq (.ops [⟨some 3, none, .op (.mkfn (.func 137) [] [1])⟩,
    ⟨some 4, none, .op (.load false 1 1)⟩,
    ⟨some 5, none, .op (.mkfn (.func 138) [4] [])⟩,
    ⟨some 6, none, .call 136 [(.val (.int 16)), 3, 5]⟩,
    ⟨none, none, .op (.store true 7 2 6)⟩])
  (.ret))
def f131 (G : Nat → AVal) : AFn := ⟨7, [.cell 2 true 7], f131m G⟩

theorem f131_c (G : Nat → AVal) : cmpFn Tryz.prog G [] 131 = some (f131 G) := by kernel_rfl


def f132m (G : Nat → AVal) : MC :=
  .seq (.ops [⟨some 1, none, .op (.mv (.val (.int 0)))⟩])
  (.seq (.seq (.ops [⟨some 2, none, .op (.load false 1 0)⟩,
    ⟨some 3, none, .call 42 [2, (.val (.str [97, 110, 100]))]⟩])
  (.cond 3
   (.seq (.ops [⟨some 1, none, .op (.mv (.val (.int 17)))⟩])
   (.ret))
   (.skip)))
  (.seq (.ops [⟨some 1, none, .op (.mv (.val (.int 0)))⟩])
  (.ret)))
def f132 (G : Nat → AVal) : AFn := ⟨4, [.tmp 1], f132m G⟩

theorem f132_c (G : Nat → AVal) : cmpFn Tryz.prog G [] 132 = some (f132 G) := by kernel_rfl

def f136b0 (G : Nat → AVal) : MC :=
  .seq (.seq (.ops [⟨some 9, none, .op (.mv 1)⟩,
    ⟨some 10, none, .callV 9 []⟩])
  (.cond 10
   (.skip)
   (.exit 0)))
  (.block 1
   (.ops [⟨some 11, none, .op (.mv 7)⟩,
     ⟨some 12, none, .op (.bin .add .int 11 (.val (.int 1)))⟩,
     ⟨some 7, none, .op (.mv 12)⟩]))

def f136b1 (G : Nat → AVal) : MC :=
  .seq (.ops [⟨some 17, none, .op (.bin .lss .int 16 15)⟩])
  (.seq (.cond 17
   (.skip)
   (.exit 2))
  (.seq (.block 3
   (.ops [⟨some 18, none, .op (.mv 0)⟩,
     ⟨some 19, none, .op (.load true 7 8)⟩,
     ⟨some 20, none, .op (.bslice true 7 1 [.int 0, .nilS, .int 0, .int 0, .int 0, .str [], .str []] [(0, 19)])⟩,
     ⟨some 21, none, .op (.build [.int 0, .nilS, .int 0, .int 0, .int 0, .str [], .str []] [(false, 0, 1, 18), (false, 1, 1, 20)])⟩,
     ⟨none, none, .op (.store true 7 8 21)⟩]))
  (.ops [⟨some 22, none, .op (.bin .add .int 16 (.val (.int 1)))⟩,
    ⟨some 16, none, .op (.mv 22)⟩])))

def f136m (G : Nat → AVal) : MC :=
  .seq (.ops [⟨some 6, none, .op (.alloc 7 [.int 0, .nilS, .int 0, .int 0, .int 0, .str [], .str []])⟩])
  (.seq (.ops [⟨some 7, none, .op (.mv (.val (.int 0)))⟩])
  (.seq (.block 0
   (.loop (f136b0 G)))
  (.seq (.ops [⟨some 13, none, .op (.mv 2)⟩,
    ⟨some 14, none, .callV 13 []⟩,
    ⟨some 8, none, .op (.alloc 7 [.int 0, .nilS, .int 0, .int 0, .int 0, .str [], .str []])⟩,
    ⟨none, none, .op (.store true 7 8 14)⟩])
  (.seq (.seq (.ops [⟨some 15, none, .op (.mv 7)⟩,
    ⟨some 16, none, .op (.mv (.val (.int 0)))⟩])
  (.block 2
   (.loop (f136b1 G))))
  (.seq (.ops [⟨some 23, none, .op (.load true 7 8)⟩,
    ⟨none, none, .op (.store true 7 6 23)⟩])
  (.ret))))))
def f136 (G : Nat → AVal) : AFn := ⟨24, [.cell 6 true 7], f136m G⟩

theorem f136_c (G : Nat → AVal) : cmpFn Tryz.prog G [] 136 = some (f136 G) := by kernel_rfl


def f137m (G : Nat → AVal) : MC :=
  .seq (.ops [⟨some 1, none, .op (.mv (.val (.bool false)))⟩])
  (.seq (.ops [⟨some 2, none, .op (.load false 1 0)⟩,
    ⟨some 3, none, .call 42 [2, (.val (.str [110, 111, 116]))]⟩,
    ⟨some 1, none, .op (.mv 3)⟩])
  (.ret))
def f137 (G : Nat → AVal) : AFn := ⟨4, [.tmp 1], f137m G⟩

theorem f137_c (G : Nat → AVal) : cmpFn Tryz.prog G [] 137 = some (f137 G) := by kernel_rfl


def f138m (G : Nat → AVal) : MC :=
  .seq (.ops [⟨some 2, none, .op (.alloc 7 [.int 0, .nilS, .int 0, .int 0, .int 0, .str [], .str []])⟩])
  (.seq (.ops [⟨some 6, none, .op (.mv 0)⟩,
    ⟨some 7, none, .call 139 [6]⟩,
    ⟨some 3, none, .op (.alloc 7 [.int 0, .nilS, .int 0, .int 0, .int 0, .str [], .str []])⟩,
    ⟨none, none, .op (.store true 7 3 7)⟩])
  (.seq (.seq (.ops [⟨some 8, none, .op (.mv 0)⟩,
    ⟨some 9, none, .op (.bslice false 1 6 [.str []] [(0, (.val (.str [61]))), (1, (.val (.str [60, 62]))), (2, (.val (.str [60]))), (3, (.val (.str [60, 61]))), (4, (.val (.str [62]))), (5, (.val (.str [62, 61])))])⟩,
    ⟨some 10, none, .call 140 [8, 9, (.val (.int 1))]⟩,
    ⟨some 4, none, .op (.mv 10)⟩])
  (.seq (.ops [⟨some 11, none, .op (.mv 4)⟩,
    ⟨some 12, none, .op (.bin .neq .int 11 (.val (.int 0)))⟩])
  (.cond 12
   (.seq (.draw (.rd [⟨0, ⟨some 13, none, .op (.mv 4)⟩, false, true⟩,
      ⟨1, ⟨some 14, none, .op (.load true 7 3)⟩, false, true⟩,
      ⟨2, ⟨some 15, none, .op (.mv 0)⟩, false, false⟩]
    (.ef ⟨3, ⟨some 16, none, .call 139 [15]⟩, true, false⟩ [0, 1]
    (.rd [⟨4, ⟨some 17, none, .op (.bslice true 7 2 [.int 0, .nilS, .int 0, .int 0, .int 0, .str [], .str []] [(0, 14), (1, 16)])⟩, false, false⟩,
      ⟨5, ⟨some 18, none, .op (.build [.int 0, .nilS, .int 0, .int 0, .int 0, .str [], .str []] [(false, 0, 1, 13), (false, 1, 1, 17)])⟩, false, false⟩]
    (.ef ⟨6, ⟨none, none, .op (.store true 7 2 18)⟩, true, false⟩ []
    (.nil))))))
   (.ret))
   (.skip))))
  (.seq (.seq (.ops [⟨some 19, none, .op (.mv 0)⟩,
    ⟨some 20, none, .call 42 [19, (.val (.str [105, 115]))]⟩])
  (.cond 20
   (.seq (.ops [⟨some 5, none, .op (.mv (.val (.int 19)))⟩])
   (.seq (.seq (.ops [⟨some 21, none, .op (.mv 0)⟩,
     ⟨some 22, none, .call 42 [21, (.val (.str [110, 111, 116]))]⟩])
   (.cond 22
    (.ops [⟨some 5, none, .op (.mv (.val (.int 20)))⟩])
    (.skip)))
   (.seq (.ops [⟨some 23, none, .op (.mv 0)⟩,
     ⟨some 24, none, .op (.bslice false 1 1 [.str []] [(0, (.val (.str [110, 117, 108, 108])))])⟩,
     ⟨some 25, none, .call 40 [23, 24]⟩])
   (.seq (.ops [⟨some 26, none, .op (.mv 5)⟩,
     ⟨some 27, none, .op (.load true 7 3)⟩,
     ⟨some 28, none, .op (.bslice true 7 1 [.int 0, .nilS, .int 0, .int 0, .int 0, .str [], .str []] [(0, 27)])⟩,
     ⟨some 29, none, .op (.build [.int 0, .nilS, .int 0, .int 0, .int 0, .str [], .str []] [(false, 0, 1, 26), (false, 1, 1, 28)])⟩,
     ⟨none, none, .op (.store true 7 2 29)⟩])
   (.ret)))))
   (.skip)))
  (.seq (.ops [⟨some 30, none, .op (.load true 7 3)⟩,
    ⟨none, none, .op (.store true 7 2 30)⟩])
  (.ret)))))
def f138 (G : Nat → AVal) : AFn := ⟨31, [.cell 2 true 7], f138m G⟩

theorem f138_c (G : Nat → AVal) : cmpFn Tryz.prog G [] 138 = some (f138 G) := by kernel_rfl


def f139m (G : Nat → AVal) : MC :=
  .seq (.ops [⟨some 1, none, .op (.box false 1 0)⟩,
    ⟨some 2, none, .op (.alloc 7 [.int 0, .nilS, .int 0, .int 0, .int 0, .str [], .str []])⟩])
  (.seq (.ops [⟨some 3, none, .op (.load false 1 1)⟩,
    ⟨some 4, none, .op (.load false 1 1)⟩,
    ⟨some 5, none, .op (.mkfn (.func 141) [4] [])⟩,
    ⟨some 6, none, .op (.mkfn (.func 142) [] [1])⟩,
    ⟨some 7, none, .call 120 [3, 5, 6]⟩,
    ⟨none, none, .op (.store true 7 2 7)⟩])
  (.ret))
def f139 (G : Nat → AVal) : AFn := ⟨8, [.cell 2 true 7], f139m G⟩

theorem f139_c (G : Nat → AVal) : cmpFn Tryz.prog G [] 139 = some (f139 G) := by kernel_rfl

def f140b0 (G : Nat → AVal) : MC :=
  .seq (.ops [⟨some 12, none, .op (.bin .lss .int 11 10)⟩])
  (.seq (.cond 12
   (.skip)
   (.exit 0))
  (.seq (.block 1
   (.seq (.ops [⟨some 13, none, .op (.mv 11)⟩,
     ⟨some 14, none, .op (.iaddr 1 9 11)⟩,
     ⟨some 15, none, .op (.load false 1 14)⟩,
     ⟨some 7, none, .op (.mv 13)⟩,
     ⟨some 8, none, .op (.mv 15)⟩])
   (.seq (.ops [⟨some 16, none, .op (.mv 0)⟩,
     ⟨some 17, none, .op (.mv 8)⟩,
     ⟨some 18, none, .call 85 [16, 17]⟩])
   (.cond 18
    (.seq (.ops [⟨some 19, none, .op (.mv 2)⟩,
      ⟨some 20, none, .op (.mv 7)⟩,
      ⟨some 21, none, .op (.bin .add .int 19 20)⟩,
      ⟨some 6, none, .op (.mv 21)⟩])
    (.ret))
    (.skip)))))
  (.ops [⟨some 22, none, .op (.bin .add .int 11 (.val (.int 1)))⟩,
    ⟨some 11, none, .op (.mv 22)⟩])))

def f140m (G : Nat → AVal) : MC :=
  .seq (.ops [⟨some 6, none, .op (.mv (.val (.int 0)))⟩])
  (.seq (.seq (.ops [⟨some 9, none, .op (.mv 1)⟩,
    ⟨some 10, none, .op (.lenS 9)⟩,
    ⟨some 11, none, .op (.mv (.val (.int 0)))⟩])
  (.block 0
   (.loop (f140b0 G))))
  (.seq (.ops [⟨some 6, none, .op (.mv (.val (.int 0)))⟩])
  (.ret)))
def f140 (G : Nat → AVal) : AFn := ⟨23, [.tmp 6], f140m G⟩

theorem f140_c (G : Nat → AVal) : cmpFn Tryz.prog G [] 140 = some (f140 G) := by kernel_rfl


def f141m (G : Nat → AVal) : MC :=
  .seq (.ops [⟨some 1, none, .op (.box false 1 0)⟩,
    ⟨some 2, none, .op (.alloc 7 [.int 0, .nilS, .int 0, .int 0, .int 0, .str [], .str []])⟩])
  (.seq (.ops [⟨some 3, none, .op (.load false 1 1)⟩,
    ⟨some 4, none, .op (.load false 1 1)⟩,
    ⟨some 5, none, .op (.mkfn (.func 143) [4] [])⟩,
    ⟨some 6, none, .op (.mkfn (.func 144) [] [1])⟩,
    ⟨some 7, none, .call 120 [3, 5, 6]⟩,
    ⟨none, none, .op (.store true 7 2 7)⟩])
  (.ret))
def f141 (G : Nat → AVal) : AFn := ⟨8, [.cell 2 true 7], f141m G⟩

theorem f141_c (G : Nat → AVal) : cmpFn Tryz.prog G [] 141 = some (f141 G) := by kernel_rfl


def f142m (G : Nat → AVal) : MC :=
  .seq (.ops [⟨some 1, none, .op (.mv (.val (.int 0)))⟩])
  (.seq (.seq (.ops [⟨some 2, none, .op (.load false 1 0)⟩,
    ⟨some 3, none, .call 85 [2, (.val (.str [124, 124]))]⟩])
  (.cond 3
   (.seq (.ops [⟨some 1, none, .op (.mv (.val (.int 12)))⟩])
   (.ret))
   (.skip)))
  (.seq (.ops [⟨some 4, none, .op (.load false 1 0)⟩,
    ⟨some 5, none, .op (.bslice false 1 2 [.str []] [(0, (.val (.str [43]))), (1, (.val (.str [45])))])⟩,
    ⟨some 6, none, .call 140 [4, 5, (.val (.int 7))]⟩,
    ⟨some 1, none, .op (.mv 6)⟩])
  (.ret)))
def f142 (G : Nat → AVal) : AFn := ⟨7, [.tmp 1], f142m G⟩

theorem f142_c (G : Nat → AVal) : cmpFn Tryz.prog G [] 142 = some (f142 G) := by kernel_rfl


def f143m (G : Nat → AVal) : MC :=
  .seq (.ops [⟨some 1, none, .op (.box false 1 0)⟩,
    ⟨some 2, none, .op (.alloc 7 [.int 0, .nilS, .int 0, .int 0, .int 0, .str [], .str []])⟩])
  (.seq (.ops [⟨some 3, none, .op (.mkfn (.func 145) [] [1])⟩,
    ⟨some 4, none, .op (.load false 1 1)⟩,
    ⟨some 5, none, .op (.mkfn (.func 146) [4] [])⟩,
    ⟨some 6, none, .call 136 [(.val (.int 13)), 3, 5]⟩,
    ⟨none, none, .op (.store true 7 2 6)⟩])
  (.ret))
def f143 (G : Nat → AVal) : AFn := ⟨7, [.cell 2 true 7], f143m G⟩

theorem f143_c (G : Nat → AVal) : cmpFn Tryz.prog G [] 143 = some (f143 G) := by kernel_rfl


def f144m (G : Nat → AVal) : MC :=
  .seq (.ops [⟨some 1, none, .op (.mv (.val (.int 0)))⟩])
  (.seq (.ops [⟨some 2, none, .op (.load false 1 0)⟩,
    ⟨some 3, none, .op (.bslice false 1 3 [.str []] [(0, (.val (.str [42]))), (1, (.val (.str [47]))), (2, (.val (.str [37])))])⟩,
    ⟨some 4, none, .call 140 [2, 3, (.val (.int 9))]⟩,
    ⟨some 1, none, .op (.mv 4)⟩])
  (.ret))
def f144 (G : Nat → AVal) : AFn := ⟨5, [.tmp 1], f144m G⟩

theorem f144_c (G : Nat → AVal) : cmpFn Tryz.prog G [] 144 = some (f144 G) := by kernel_rfl


def f145m (G : Nat → AVal) : MC :=
  .seq (.ops [⟨some 1, none, .op (.mv (.val (.bool false)))⟩])
  (.seq (.ops [⟨some 2, none, .op (.load false 1 0)⟩,
    ⟨some 3, none, .call 85 [2, (.val (.str [45]))]⟩,
    ⟨some 1, none, .op (.mv 3)⟩])
  (.ret))
def f145 (G : Nat → AVal) : AFn := ⟨4, [.tmp 1], f145m G⟩

theorem f145_c (G : Nat → AVal) : cmpFn Tryz.prog G [] 145 = some (f145 G) := by kernel_rfl


def f146m (G : Nat → AVal) : MC :=
  .seq (.ops [⟨some 2, none, .op (.alloc 7 [.int 0, .nilS, .int 0, .int 0, .int 0, .str [], .str []])⟩])
  (.seq (.ops [⟨some 5, none, .op (.mv 0)⟩,
    ⟨some 6, none, .call 39 [5]⟩,
    ⟨some 3, none, .op (.alloc 4 [.int 0, .str [], .int 0, .int 0])⟩,
    ⟨none, none, .op (.store true 4 3 6)⟩])
  (.seq (.ops [⟨some 7, none, .op (.faddr 2 3)⟩,
    ⟨some 8, none, .op (.load false 1 7)⟩,
    ⟨some 9, none, .op (.faddr 3 3)⟩,
    ⟨some 10, none, .op (.load false 1 9)⟩,
    ⟨some 11, none, .op (.build [.int 0, .nilS, .int 0, .int 0, .int 0, .str [], .str []] [(false, 0, 1, (.val (.int 21))), (false, 3, 1, 8), (false, 4, 1, 10)])⟩,
    ⟨some 4, none, .op (.alloc 7 [.int 0, .nilS, .int 0, .int 0, .int 0, .str [], .str []])⟩,
    ⟨none, none, .op (.store true 7 4 11)⟩])
  (.seq (.seq (.ops [⟨some 12, none, .op (.faddr 0 3)⟩,
    ⟨some 13, none, .op (.load false 1 12)⟩])
  (.block 0
   (.seq (.ops [⟨some 17, none, .op (.bin .eql .int 13 (.val (.int 2)))⟩,
     ⟨some 16, none, .op (.mv 17)⟩])
   (.cond 16
    (.ops [⟨some 18, none, .op (.faddr 2 4)⟩,
      ⟨none, none, .op (.store false 1 18 (.val (.int 2)))⟩])
    (.seq (.ops [⟨some 20, none, .op (.bin .eql .int 13 (.val (.int 3)))⟩,
      ⟨some 19, none, .op (.mv 20)⟩])
    (.cond 19
     (.ops [⟨some 21, none, .op (.faddr 2 4)⟩,
       ⟨none, none, .op (.store false 1 21 (.val (.int 3)))⟩])
     (.seq (.ops [⟨some 23, none, .op (.bin .eql .int 13 (.val (.int 4)))⟩,
       ⟨some 22, none, .op (.mv 23)⟩])
     (.cond 22
      (.draw (.rd [⟨0, ⟨some 24, none, .op (.faddr 1 3)⟩, false, true⟩,
         ⟨1, ⟨some 25, none, .op (.load false 1 24)⟩, false, true⟩,
         ⟨2, ⟨some 26, none, .op (.faddr 2 4)⟩, false, false⟩]
       (.ef ⟨3, ⟨none, none, .op (.store false 1 26 (.val (.int 4)))⟩, true, false⟩ [0, 1]
       (.rd [⟨4, ⟨some 27, none, .op (.faddr 5 4)⟩, false, false⟩]
       (.ef ⟨5, ⟨none, none, .op (.store false 1 27 25)⟩, true, false⟩ []
       (.nil))))))
      (.seq (.ops [⟨some 29, none, .op (.bin .eql .int 13 (.val (.int 1)))⟩,
        ⟨some 28, none, .op (.mv 29)⟩])
      (.cond 28
       (.seq (.ops [⟨some 30, none, .op (.mv 0)⟩,
         ⟨some 31, none, .op (.faddr 1 3)⟩,
         ⟨some 32, none, .op (.load false 1 31)⟩,
         ⟨some 33, none, .call 147 [30, 32]⟩,
         ⟨none, none, .op (.store true 7 2 33)⟩])
       (.ret))
       (.seq (.ops [⟨some 14, none, .op (.mv 0)⟩,
         ⟨some 15, none, .call 148 [14]⟩,
         ⟨none, none, .op (.store true 7 2 15)⟩])
       (.ret))))))))))))
  (.seq (.ops [⟨some 34, none, .op (.mv 0)⟩,
    ⟨some 35, none, .op (.mv 0)⟩,
    ⟨some 36, none, .op (.nilck 35)⟩,
    ⟨some 37, none, .op (.faddr 0 36)⟩,
    ⟨some 38, none, .op (.load false 1 37)⟩,
    ⟨some 39, none, .op (.slc 4 38 (some (.val (.int 1))) none none)⟩,
    ⟨some 40, none, .op (.nilck 34)⟩,
    ⟨some 41, none, .op (.faddr 0 40)⟩,
    ⟨none, none, .op (.store false 1 41 39)⟩])
  (.seq (.ops [⟨some 42, none, .op (.load true 7 4)⟩,
    ⟨none, none, .op (.store true 7 2 42)⟩])
  (.ret))))))
def f146 (G : Nat → AVal) : AFn := ⟨43, [.cell 2 true 7], f146m G⟩

theorem f146_c (G : Nat → AVal) : cmpFn Tryz.prog G [] 146 = some (f146 G) := by kernel_rfl


def f147m (G : Nat → AVal) : MC :=
  .seq (.ops [⟨some 4, none, .op (.alloc 7 [.int 0, .nilS, .int 0, .int 0, .int 0, .str [], .str []])⟩])
  (.seq (.ops [⟨some 7, none, .op (.build [.int 0, .nilS, .int 0, .int 0, .int 0, .str [], .str []] [(false, 0, 1, (.val (.int 21)))])⟩,
    ⟨some 5, none, .op (.alloc 7 [.int 0, .nilS, .int 0, .int 0, .int 0, .str [], .str []])⟩,
    ⟨none, none, .op (.store true 7 5 7)⟩])
  (.seq (.seq (.ops [⟨some 8, none, .op (.mv 1)⟩])
  (.block 0
   (.seq (.ops [⟨some 22, none, .op (.bin .eql .str 8 (.val (.str [110, 117, 108, 108])))⟩,
     ⟨some 21, none, .op (.mv 22)⟩])
   (.cond 21
    (.skip)
    (.seq (.ops [⟨some 24, none, .op (.bin .eql .str 8 (.val (.str [116, 114, 117, 101])))⟩,
      ⟨some 23, none, .op (.mv 24)⟩])
    (.cond 23
     (.ops [⟨some 25, none, .op (.faddr 2 5)⟩,
       ⟨none, none, .op (.store false 1 25 (.val (.int 1)))⟩,
       ⟨some 26, none, .op (.faddr 3 5)⟩,
       ⟨none, none, .op (.store false 1 26 (.val (.int 1)))⟩])
     (.seq (.ops [⟨some 28, none, .op (.bin .eql .str 8 (.val (.str [102, 97, 108, 115, 101])))⟩,
       ⟨some 27, none, .op (.mv 28)⟩])
     (.cond 27
      (.ops [⟨some 29, none, .op (.faddr 2 5)⟩,
        ⟨none, none, .op (.store false 1 29 (.val (.int 1)))⟩])
      (.seq (.ops [⟨some 31, none, .op (.bin .eql .str 8 (.val (.str [110, 97, 110])))⟩,
        ⟨some 30, none, .op (.mv 31)⟩])
      (.cond 30
       (.ops [⟨some 32, none, .op (.faddr 2 5)⟩,
         ⟨none, none, .op (.store false 1 32 (.val (.int 3)))⟩,
         ⟨some 33, none, .op (.faddr 4 5)⟩,
         ⟨none, none, .op (.store false 1 33 (.val (.int (-1))))⟩])
       (.seq (.ops [⟨some 35, none, .op (.bin .eql .str 8 (.val (.str [105, 110, 102, 105, 110, 105, 116, 121])))⟩,
         ⟨some 34, none, .op (.mv 35)⟩])
       (.cond 34
        (.ops [⟨some 36, none, .op (.faddr 2 5)⟩,
          ⟨none, none, .op (.store false 1 36 (.val (.int 3)))⟩,
          ⟨some 37, none, .op (.faddr 4 5)⟩,
          ⟨none, none, .op (.store false 1 37 (.val (.int (-2))))⟩])
        (.seq (.seq (.ops [⟨some 39, none, .op (.bin .eql .str 8 (.val (.str [105, 110, 116])))⟩,
          ⟨some 38, none, .op (.mv 39)⟩])
        (.cond 38
         (.skip)
         (.ops [⟨some 40, none, .op (.bin .eql .str 8 (.val (.str [114, 101, 97, 108])))⟩,
           ⟨some 38, none, .op (.mv 40)⟩])))
        (.cond 38
         (.seq (.ops [⟨some 41, none, .op (.mv 0)⟩,
           ⟨some 42, none, .op (.mv 1)⟩,
           ⟨some 43, none, .op (.bslice false 1 1 [.str []] [(0, 42)])⟩,
           ⟨some 44, none, .call 40 [41, 43]⟩])
         (.seq (.ops [⟨some 6, none, .op (.mv (.val (.int 14)))⟩])
         (.seq (.seq (.ops [⟨some 45, none, .op (.mv 1)⟩,
           ⟨some 46, none, .op (.bin .eql .str 45 (.val (.str [114, 101, 97, 108])))⟩])
         (.cond 46
          (.ops [⟨some 6, none, .op (.mv (.val (.int 15)))⟩])
          (.skip)))
         (.seq (.ops [⟨some 47, none, .op (.mv 6)⟩,
           ⟨some 48, none, .op (.mv 0)⟩,
           ⟨some 49, none, .call 148 [48]⟩,
           ⟨some 50, none, .op (.bslice true 7 1 [.int 0, .nilS, .int 0, .int 0, .int 0, .str [], .str []] [(0, 49)])⟩,
           ⟨some 51, none, .op (.build [.int 0, .nilS, .int 0, .int 0, .int 0, .str [], .str []] [(false, 0, 1, 47), (false, 1, 1, 50)])⟩,
           ⟨none, none, .op (.store true 7 4 51)⟩])
         (.ret)))))
         (.seq (.ops [⟨some 9, none, .op (.mv 0)⟩,
           ⟨some 10, none, .call 43 [9]⟩,
           ⟨some 11, none, .op (.build [.int 0, .nilS, .int 0, .int 0, .int 0, .str [], .str []] [(false, 0, 1, (.val (.int 22))), (false, 5, 1, 10)])⟩,
           ⟨none, none, .op (.store true 7 5 11)⟩])
         (.seq (.seq (.ops [⟨some 12, none, .op (.mv 0)⟩,
           ⟨some 13, none, .call 85 [12, (.val (.str [46]))]⟩])
         (.cond 13
          (.draw (.rd [⟨0, ⟨some 14, none, .op (.faddr 5 5)⟩, false, true⟩,
             ⟨1, ⟨some 15, none, .op (.load false 1 14)⟩, false, true⟩,
             ⟨2, ⟨some 16, none, .op (.mv 0)⟩, false, false⟩,
             ⟨4, ⟨some 18, none, .op (.faddr 6 5)⟩, false, true⟩]
           (.ef ⟨3, ⟨some 17, none, .call 43 [16]⟩, true, false⟩ [0, 1, 4]
           (.ef ⟨5, ⟨none, none, .op (.store false 1 18 15)⟩, true, false⟩ []
           (.rd [⟨6, ⟨some 19, none, .op (.faddr 5 5)⟩, false, false⟩]
           (.ef ⟨7, ⟨none, none, .op (.store false 1 19 17)⟩, true, false⟩ []
           (.nil)))))))
          (.skip)))
         (.seq (.ops [⟨some 20, none, .op (.load true 7 5)⟩,
           ⟨none, none, .op (.store true 7 4 20)⟩])
         (.ret))))))))))))))))))
  (.seq (.ops [⟨some 52, none, .op (.mv 0)⟩,
    ⟨some 53, none, .op (.mv 1)⟩,
    ⟨some 54, none, .op (.bslice false 1 1 [.str []] [(0, 53)])⟩,
    ⟨some 55, none, .call 40 [52, 54]⟩])
  (.seq (.ops [⟨some 56, none, .op (.load true 7 5)⟩,
    ⟨none, none, .op (.store true 7 4 56)⟩])
  (.ret)))))
def f147 (G : Nat → AVal) : AFn := ⟨57, [.cell 4 true 7], f147m G⟩

theorem f147_c (G : Nat → AVal) : cmpFn Tryz.prog G [] 147 = some (f147 G) := by kernel_rfl


def f148m (G : Nat → AVal) : MC :=
  .seq (.ops [⟨some 2, none, .op (.alloc 7 [.int 0, .nilS, .int 0, .int 0, .int 0, .str [], .str []])⟩])
  (.seq (.seq (.ops [⟨some 5, none, .op (.mv 0)⟩,
    ⟨some 6, none, .call 39 [5]⟩,
    ⟨some 3, none, .op (.alloc 4 [.int 0, .str [], .int 0, .int 0])⟩,
    ⟨none, none, .op (.store true 4 3 6)⟩])
  (.seq (.ops [⟨some 7, none, .op (.faddr 0 3)⟩,
    ⟨some 8, none, .op (.load false 1 7)⟩,
    ⟨some 9, none, .op (.bin .eql .int 8 (.val (.int 5)))⟩,
    ⟨some 10, none, .op (.mv 9)⟩,
    ⟨some 11, some (10, true), .op (.faddr 1 3)⟩,
    ⟨some 12, some (10, true), .op (.load false 1 11)⟩,
    ⟨some 13, some (10, true), .op (.bin .eql .str 12 (.val (.str [40])))⟩,
    ⟨some 14, none, .op (.pick 10 13 (.val (.bool false)))⟩,
    ⟨some 15, none, .op (.mv 14)⟩,
    ⟨some 16, some (15, true), .op (.mv 0)⟩,
    ⟨some 17, some (15, true), .op (.nilck 16)⟩,
    ⟨some 18, some (15, true), .op (.faddr 1 17)⟩,
    ⟨some 19, some (15, true), .op (.load false 1 18)⟩,
    ⟨some 20, some (15, true), .op (.bin .eql .int 19 (.val (.int 40)))⟩,
    ⟨some 21, none, .op (.pick 15 20 (.val (.bool false)))⟩])
  (.cond 21
   (.ops [⟨some 22, none, .call 22 [(.val (.int 5))]⟩])
   (.skip))))
  (.seq (.ops [⟨some 23, none, .op (.mv 0)⟩,
    ⟨some 24, none, .call 75 [23, (.val (.str [40]))]⟩])
  (.seq (.ops [⟨some 25, none, .op (.mv 0)⟩,
    ⟨some 26, none, .op (.nilck 25)⟩,
    ⟨some 27, none, .op (.faddr 1 26)⟩,
    ⟨some 28, none, .op (.load false 1 27)⟩,
    ⟨some 29, none, .op (.bin .add .int 28 (.val (.int 1)))⟩,
    ⟨some 30, none, .op (.nilck 25)⟩,
    ⟨some 31, none, .op (.faddr 1 30)⟩,
    ⟨none, none, .op (.store false 1 31 29)⟩])
  (.seq (.ops [⟨some 32, none, .op (.mv 0)⟩,
    ⟨some 33, none, .call 107 [32]⟩,
    ⟨some 4, none, .op (.alloc 7 [.int 0, .nilS, .int 0, .int 0, .int 0, .str [], .str []])⟩,
    ⟨none, none, .op (.store true 7 4 33)⟩])
  (.seq (.ops [⟨some 34, none, .op (.mv 0)⟩,
    ⟨some 35, none, .op (.nilck 34)⟩,
    ⟨some 36, none, .op (.faddr 1 35)⟩,
    ⟨some 37, none, .op (.load false 1 36)⟩,
    ⟨some 38, none, .op (.bin .sub .int 37 (.val (.int 1)))⟩,
    ⟨some 39, none, .op (.nilck 34)⟩,
    ⟨some 40, none, .op (.faddr 1 39)⟩,
    ⟨none, none, .op (.store false 1 40 38)⟩])
  (.seq (.ops [⟨some 41, none, .op (.mv 0)⟩,
    ⟨some 42, none, .call 75 [41, (.val (.str [41]))]⟩])
  (.seq (.ops [⟨some 43, none, .op (.load true 7 4)⟩,
    ⟨none, none, .op (.store true 7 2 43)⟩])
  (.ret))))))))
def f148 (G : Nat → AVal) : AFn := ⟨44, [.cell 2 true 7], f148m G⟩

theorem f148_c (G : Nat → AVal) : cmpFn Tryz.prog G [] 148 = some (f148 G) := by kernel_rfl

end Go.Abs
set_option linter.unusedVariables false
namespace Go.Abs
open Go Go.RowKit Go.Proofs

def f76b0 (G : Nat → AVal) : MC :=
  .seq (.block 1
   (.seq (.ops [⟨some 10, none, .op (.mv 2)⟩,
     ⟨some 11, none, .callV 10 []⟩])
   (.seq (.seq (.ops [⟨some 12, none, .op (.mv 0)⟩,
     ⟨some 13, none, .call 39 [12]⟩,
     ⟨some 7, none, .op (.alloc 4 [.int 0, .str [], .int 0, .int 0])⟩,
     ⟨none, none, .op (.store true 4 7 13)⟩])
   (.seq (.ops [⟨some 14, none, .op (.faddr 0 7)⟩,
     ⟨some 15, none, .op (.load false 1 14)⟩,
     ⟨some 16, none, .op (.bin .neq .int 15 (.val (.int 5)))⟩,
     ⟨some 17, none, .op (.mv 16)⟩,
     ⟨some 18, some (17, false), .op (.faddr 1 7)⟩,
     ⟨some 19, some (17, false), .op (.load false 1 18)⟩,
     ⟨some 20, some (17, false), .op (.bin .neq .str 19 (.val (.str [44])))⟩,
     ⟨some 21, none, .op (.pick 17 (.val (.bool true)) 20)⟩])
   (.cond 21
    (.ret)
    (.skip))))
   (.seq (.seq (.ops [⟨some 22, none, .op (.mv 6)⟩,
     ⟨some 23, none, .op (.mv 1)⟩,
     ⟨some 24, none, .op (.bin .eql .int 22 23)⟩])
   (.cond 24
    (.ops [⟨some 25, none, .call 22 [(.val (.int 151))]⟩])
    (.skip)))
   (.ops [⟨some 26, none, .op (.mv 0)⟩,
     ⟨some 27, none, .call 85 [26, (.val (.str [44]))]⟩])))))
  (.ops [⟨some 8, none, .op (.mv 6)⟩,
    ⟨some 9, none, .op (.bin .add .int 8 (.val (.int 1)))⟩,
    ⟨some 6, none, .op (.mv 9)⟩])

def f76m (G : Nat → AVal) : MC :=
  .seq (.ops [⟨some 6, none, .op (.mv (.val (.int 1)))⟩])
  (.block 0
   (.loop (f76b0 G)))
def f76 (G : Nat → AVal) : AFn := ⟨28, [], f76m G⟩

theorem f76_c (G : Nat → AVal) : cmpFn Tryz.prog G [] 76 = some (f76 G) := by kernel_rfl


def f77m (G : Nat → AVal) : MC :=
  .draw (.rd [⟨0, ⟨some 2, none, .op (.load false 1 0)⟩, false, true⟩,
     ⟨1, ⟨some 3, none, .op (.load false 1 0)⟩, false, true⟩,
     ⟨2, ⟨some 4, none, .op (.nilck 3)⟩, false, true⟩,
     ⟨3, ⟨some 5, none, .op (.faddr 3 4)⟩, false, true⟩,
     ⟨4, ⟨some 6, none, .op (.load false 1 5)⟩, false, true⟩,
     ⟨5, ⟨some 7, none, .op (.load false 1 1)⟩, false, false⟩]
   (.ef ⟨6, ⟨some 8, none, .call 78 [7]⟩, true, false⟩ [0, 1, 2, 3, 4]
   (.rd [⟨7, ⟨some 9, none, .op (.bslice true 3 1 [.str [], .int 0, .bool false] [(0, 8)])⟩, false, false⟩]
   (.ef ⟨8, ⟨some 10, none, .op (.append 3 32 6 9)⟩, true, false⟩ [0]
   (.rd [⟨9, ⟨some 11, none, .op (.nilck 2)⟩, false, false⟩,
     ⟨10, ⟨some 12, none, .op (.faddr 3 11)⟩, false, false⟩]
   (.ef ⟨11, ⟨none, none, .op (.store false 1 12 10)⟩, true, false⟩ []
   (.nil)))))))
def f77 (G : Nat → AVal) : AFn := ⟨13, [], f77m G⟩

theorem f77_c (G : Nat → AVal) : cmpFn Tryz.prog G [] 77 = some (f77 G) := by kernel_rfl


def f78m (G : Nat → AVal) : MC :=
  .seq (.ops [⟨some 2, none, .op (.alloc 3 [.str [], .int 0, .bool false])⟩])
  (.seq (.ops [⟨some 3, none, .op (.mv 0)⟩,
    ⟨some 4, none, .call 43 [3]⟩,
    ⟨some 5, none, .op (.faddr 0 2)⟩,
    ⟨none, none, .op (.store false 1 5 4)⟩])
  (.seq (.block 0
   (.seq (.ops [⟨some 11, none, .op (.mv 0)⟩,
     ⟨some 12, none, .call 42 [11, (.val (.str [105, 110, 116]))]⟩,
     ⟨some 10, none, .op (.mv 12)⟩])
   (.cond 10
    (.ops [⟨some 13, none, .op (.faddr 1 2)⟩,
      ⟨none, none, .op (.store false 1 13 (.val (.int 2)))⟩])
    (.seq (.ops [⟨some 15, none, .op (.mv 0)⟩,
      ⟨some 16, none, .call 42 [15, (.val (.str [114, 101, 97, 108]))]⟩,
      ⟨some 14, none, .op (.mv 16)⟩])
    (.cond 14
     (.ops [⟨some 17, none, .op (.faddr 1 2)⟩,
       ⟨none, none, .op (.store false 1 17 (.val (.int 3)))⟩])
     (.seq (.ops [⟨some 19, none, .op (.mv 0)⟩,
       ⟨some 20, none, .call 42 [19, (.val (.str [98, 111, 111, 108]))]⟩,
       ⟨some 18, none, .op (.mv 20)⟩])
     (.cond 18
      (.ops [⟨some 21, none, .op (.faddr 1 2)⟩,
        ⟨none, none, .op (.store false 1 21 (.val (.int 1)))⟩])
      (.seq (.ops [⟨some 6, none, .op (.mv 0)⟩,
        ⟨some 7, none, .op (.bslice false 1 1 [.str []] [(0, (.val (.str [116, 101, 120, 116])))])⟩,
        ⟨some 8, none, .call 40 [6, 7]⟩])
      (.ops [⟨some 9, none, .op (.faddr 1 2)⟩,
        ⟨none, none, .op (.store false 1 9 (.val (.int 4)))⟩])))))))))
  (.seq (.seq (.ops [⟨some 22, none, .op (.mv 0)⟩,
    ⟨some 23, none, .call 42 [22, (.val (.str [110, 111, 116]))]⟩])
  (.cond 23
   (.seq (.ops [⟨some 24, none, .op (.mv 0)⟩,
     ⟨some 25, none, .op (.bslice false 1 1 [.str []] [(0, (.val (.str [110, 117, 108, 108])))])⟩,
     ⟨some 26, none, .call 40 [24, 25]⟩])
   (.ops [⟨some 27, none, .op (.faddr 2 2)⟩,
     ⟨none, none, .op (.store false 1 27 (.val (.bool true)))⟩]))
   (.skip)))
  (.seq (.ops [⟨some 28, none, .op (.load true 3 2)⟩,
    ⟨none, none, .op (.store true 3 2 28)⟩])
  (.ret)))))
def f78 (G : Nat → AVal) : AFn := ⟨29, [.cell 2 true 3], f78m G⟩

theorem f78_c (G : Nat → AVal) : cmpFn Tryz.prog G [] 78 = some (f78 G) := by kernel_rfl


def f79m (G : Nat → AVal) : MC :=
  .draw (.rd [⟨0, ⟨some 2, none, .op (.load false 1 0)⟩, false, true⟩,
     ⟨1, ⟨some 3, none, .op (.load false 1 0)⟩, false, true⟩,
     ⟨2, ⟨some 4, none, .op (.nilck 3)⟩, false, true⟩,
     ⟨3, ⟨some 5, none, .op (.faddr 4 4)⟩, false, true⟩,
     ⟨4, ⟨some 6, none, .op (.load false 1 5)⟩, false, true⟩,
     ⟨5, ⟨some 7, none, .op (.load false 1 1)⟩, false, false⟩]
   (.ef ⟨6, ⟨some 8, none, .call 43 [7]⟩, true, false⟩ [0, 1, 2, 3, 4]
   (.rd [⟨7, ⟨some 9, none, .op (.bslice false 1 1 [.str []] [(0, 8)])⟩, false, false⟩]
   (.ef ⟨8, ⟨some 10, none, .op (.append 1 16 6 9)⟩, true, false⟩ [0]
   (.rd [⟨9, ⟨some 11, none, .op (.nilck 2)⟩, false, false⟩,
     ⟨10, ⟨some 12, none, .op (.faddr 4 11)⟩, false, false⟩]
   (.ef ⟨11, ⟨none, none, .op (.store false 1 12 10)⟩, true, false⟩ []
   (.nil)))))))
def f79 (G : Nat → AVal) : AFn := ⟨13, [], f79m G⟩

theorem f79_c (G : Nat → AVal) : cmpFn Tryz.prog G [] 79 = some (f79 G) := by kernel_rfl


def f82m (G : Nat → AVal) : MC :=
  .seq (.ops [⟨some 2, none, .op (.alloc 1 [.nilS])⟩])
  (.seq (.ops [⟨some 3, none, .op (.load false 1 0)⟩,
    ⟨some 4, none, .call 75 [3, (.val (.str [40]))]⟩])
  (.seq (.ops [⟨some 5, none, .op (.load false 1 0)⟩,
    ⟨some 6, none, .op (.mkfn (.func 83) [] [2, 0])⟩,
    ⟨some 7, none, .call 76 [5, (.val (.int 50)), 6]⟩])
  (.seq (.ops [⟨some 8, none, .op (.load false 1 0)⟩,
    ⟨some 9, none, .call 75 [8, (.val (.str [41]))]⟩])
  (.draw (.rd [⟨0, ⟨some 10, none, .op (.load false 1 1)⟩, false, true⟩,
     ⟨1, ⟨some 11, none, .op (.load false 1 1)⟩, false, false⟩,
     ⟨2, ⟨some 12, none, .op (.nilck 11)⟩, false, false⟩,
     ⟨3, ⟨some 13, none, .op (.faddr 6 12)⟩, false, false⟩,
     ⟨4, ⟨some 14, none, .op (.load false 1 13)⟩, false, false⟩,
     ⟨5, ⟨some 15, none, .op (.load false 1 2)⟩, false, false⟩,
     ⟨6, ⟨some 16, none, .op (.bslice false 1 1 [.nilS] [(0, 15)])⟩, false, false⟩]
   (.ef ⟨7, ⟨some 17, none, .op (.append 1 24 14 16)⟩, true, false⟩ [0]
   (.rd [⟨8, ⟨some 18, none, .op (.nilck 10)⟩, false, false⟩,
     ⟨9, ⟨some 19, none, .op (.faddr 6 18)⟩, false, false⟩]
   (.ef ⟨10, ⟨none, none, .op (.store false 1 19 17)⟩, true, false⟩ []
   (.nil)))))))))
def f82 (G : Nat → AVal) : AFn := ⟨20, [], f82m G⟩

theorem f82_c (G : Nat → AVal) : cmpFn Tryz.prog G [] 82 = some (f82 G) := by kernel_rfl


def f83m (G : Nat → AVal) : MC :=
  .draw (.rd [⟨0, ⟨some 2, none, .op (.load false 1 0)⟩, false, true⟩,
     ⟨1, ⟨some 3, none, .op (.load false 1 1)⟩, false, false⟩,
     ⟨3, ⟨some 5, none, .op (.lenS 2)⟩, false, true⟩,
     ⟨4, ⟨some 6, none, .op (.bslice true 7 1 [.int 0, .nilS, .int 0, .int 0, .int 0, .str [], .str []] [(0, (.val (.agg [.int 0, .nilS, .int 0, .int 0, .int 0, .str [], .str []])))])⟩, false, true⟩]
   (.ef ⟨2, ⟨some 4, none, .call 84 [3]⟩, true, false⟩ [0, 3, 4]
   (.ef ⟨5, ⟨some 7, none, .op (.append 7 88 2 6)⟩, true, false⟩ []
   (.rd [⟨6, ⟨some 8, none, .op (.iaddr 7 7 5)⟩, false, true⟩]
   (.or (.ef ⟨7, ⟨none, none, .op (.store true 7 8 4)⟩, true, false⟩ []
   (.ef ⟨8, ⟨none, none, .op (.store false 1 0 7)⟩, true, false⟩ []
   (.nil)))
   (.ef ⟨8, ⟨none, none, .op (.store false 1 0 7)⟩, true, false⟩ [6]
   (.ef ⟨7, ⟨none, none, .op (.store true 7 8 4)⟩, true, false⟩ []
   (.nil))))))))
def f83 (G : Nat → AVal) : AFn := ⟨9, [], f83m G⟩

theorem f83_c (G : Nat → AVal) : cmpFn Tryz.prog G [] 83 = some (f83 G) := by kernel_rfl


def f86m (G : Nat → AVal) : MC :=
  .seq (.ops [⟨some 3, none, .op (.load false 1 0)⟩,
    ⟨some 4, none, .call 84 [3]⟩,
    ⟨some 5, none, .op (.build [.int 0, .nilS, .int 0, .int 0, .int 0, .str [], .str [], .str []] [(true, 0, 7, 4)])⟩,
    ⟨some 2, none, .op (.alloc 8 [.int 0, .nilS, .int 0, .int 0, .int 0, .str [], .str [], .str []])⟩,
    ⟨none, none, .op (.store true 8 2 5)⟩])
  (.seq (.seq (.ops [⟨some 6, none, .op (.load false 1 0)⟩,
    ⟨some 7, none, .call 42 [6, (.val (.str [97, 115]))]⟩])
  (.cond 7
   (.ops [⟨some 8, none, .op (.load false 1 0)⟩,
     ⟨some 9, none, .call 43 [8]⟩,
     ⟨some 10, none, .op (.faddr 7 2)⟩,
     ⟨none, none, .op (.store false 1 10 9)⟩])
   (.skip)))
  (.draw (.rd [⟨0, ⟨some 11, none, .op (.load false 1 1)⟩, false, true⟩,
     ⟨1, ⟨some 12, none, .op (.load false 1 1)⟩, false, false⟩,
     ⟨2, ⟨some 13, none, .op (.nilck 12)⟩, false, false⟩,
     ⟨3, ⟨some 14, none, .op (.faddr 7 13)⟩, false, false⟩,
     ⟨4, ⟨some 15, none, .op (.load false 1 14)⟩, false, false⟩,
     ⟨5, ⟨some 16, none, .op (.load true 8 2)⟩, false, false⟩,
     ⟨6, ⟨some 17, none, .op (.bslice true 8 1 [.int 0, .nilS, .int 0, .int 0, .int 0, .str [], .str [], .str []] [(0, 16)])⟩, false, false⟩]
   (.ef ⟨7, ⟨some 18, none, .op (.append 8 104 15 17)⟩, true, false⟩ [0]
   (.rd [⟨8, ⟨some 19, none, .op (.nilck 11)⟩, false, false⟩,
     ⟨9, ⟨some 20, none, .op (.faddr 7 19)⟩, false, false⟩]
   (.ef ⟨10, ⟨none, none, .op (.store false 1 20 18)⟩, true, false⟩ []
   (.nil)))))))
def f86 (G : Nat → AVal) : AFn := ⟨21, [], f86m G⟩

theorem f86_c (G : Nat → AVal) : cmpFn Tryz.prog G [] 86 = some (f86 G) := by kernel_rfl


def f87m (G : Nat → AVal) : MC :=
  .seq (.ops [⟨some 2, none, .op (.alloc 9 [.str [], .str [], .int 0, .nilS, .int 0, .int 0, .int 0, .str [], .str []])⟩])
  (.seq (.ops [⟨some 3, none, .op (.mv 0)⟩,
    ⟨some 4, none, .call 43 [3]⟩,
    ⟨some 5, none, .op (.faddr 0 2)⟩,
    ⟨none, none, .op (.store false 1 5 4)⟩])
  (.seq (.seq (.ops [⟨some 6, none, .op (.mv 0)⟩,
    ⟨some 7, none, .call 42 [6, (.val (.str [97, 115]))]⟩])
  (.cond 7
   (.ops [⟨some 8, none, .op (.mv 0)⟩,
     ⟨some 9, none, .call 43 [8]⟩,
     ⟨some 10, none, .op (.faddr 1 2)⟩,
     ⟨none, none, .op (.store false 1 10 9)⟩])
   (.skip)))
  (.seq (.ops [⟨some 11, none, .op (.load true 9 2)⟩,
    ⟨none, none, .op (.store true 9 2 11)⟩])
  (.ret))))
def f87 (G : Nat → AVal) : AFn := ⟨12, [.cell 2 true 9], f87m G⟩

theorem f87_c (G : Nat → AVal) : cmpFn Tryz.prog G [] 87 = some (f87 G) := by kernel_rfl


def f88m (G : Nat → AVal) : MC :=
  .draw (.rd [⟨0, ⟨some 2, none, .op (.load false 1 0)⟩, false, true⟩,
     ⟨1, ⟨some 3, none, .op (.load false 1 0)⟩, false, true⟩,
     ⟨2, ⟨some 4, none, .op (.nilck 3)⟩, false, true⟩,
     ⟨3, ⟨some 5, none, .op (.faddr 16 4)⟩, false, true⟩,
     ⟨4, ⟨some 6, none, .op (.load false 1 5)⟩, false, true⟩,
     ⟨5, ⟨some 7, none, .op (.load false 1 1)⟩, false, false⟩,
     ⟨7, ⟨some 9, none, .op (.load false 1 1)⟩, false, true⟩]
   (.ef ⟨6, ⟨some 8, none, .call 84 [7]⟩, true, false⟩ [0, 1, 2, 3, 4, 7]
   (.ef ⟨8, ⟨some 10, none, .call 42 [9, (.val (.str [100, 101, 115, 99]))]⟩, true, false⟩ [0, 1, 2, 3, 4]
   (.rd [⟨9, ⟨some 11, none, .op (.build [.int 0, .nilS, .int 0, .int 0, .int 0, .str [], .str [], .bool false] [(true, 0, 7, 8), (false, 7, 1, 10)])⟩, false, false⟩,
     ⟨10, ⟨some 12, none, .op (.bslice true 8 1 [.int 0, .nilS, .int 0, .int 0, .int 0, .str [], .str [], .bool false] [(0, 11)])⟩, false, false⟩]
   (.ef ⟨11, ⟨some 13, none, .op (.append 8 96 6 12)⟩, true, false⟩ [0]
   (.rd [⟨12, ⟨some 14, none, .op (.nilck 2)⟩, false, false⟩,
     ⟨13, ⟨some 15, none, .op (.faddr 16 14)⟩, false, false⟩]
   (.ef ⟨14, ⟨none, none, .op (.store false 1 15 13)⟩, true, false⟩ []
   (.nil))))))))
def f88 (G : Nat → AVal) : AFn := ⟨16, [], f88m G⟩

theorem f88_c (G : Nat → AVal) : cmpFn Tryz.prog G [] 88 = some (f88 G) := by kernel_rfl


def f89m (G : Nat → AVal) : MC :=
  .seq (.ops [⟨some 3, none, .op (.load false 1 0)⟩,
    ⟨some 4, none, .call 43 [3]⟩,
    ⟨some 2, none, .op (.mv 4)⟩])
  (.seq (.ops [⟨some 5, none, .op (.load false 1 0)⟩,
    ⟨some 6, none, .call 75 [5, (.val (.str [61]))]⟩])
  (.draw (.rd [⟨0, ⟨some 7, none, .op (.load false 1 1)⟩, false, true⟩,
     ⟨1, ⟨some 8, none, .op (.load false 1 1)⟩, false, true⟩,
     ⟨2, ⟨some 9, none, .op (.nilck 8)⟩, false, true⟩,
     ⟨3, ⟨some 10, none, .op (.faddr 17 9)⟩, false, true⟩,
     ⟨4, ⟨some 11, none, .op (.load false 1 10)⟩, false, true⟩,
     ⟨5, ⟨some 12, none, .op (.mv 2)⟩, false, true⟩,
     ⟨6, ⟨some 13, none, .op (.load false 1 0)⟩, false, false⟩]
   (.ef ⟨7, ⟨some 14, none, .call 84 [13]⟩, true, false⟩ [0, 1, 2, 3, 4, 5]
   (.rd [⟨8, ⟨some 15, none, .op (.build [.str [], .int 0, .nilS, .int 0, .int 0, .int 0, .str [], .str []] [(false, 0, 1, 12), (true, 1, 7, 14)])⟩, false, false⟩,
     ⟨9, ⟨some 16, none, .op (.bslice true 8 1 [.str [], .int 0, .nilS, .int 0, .int 0, .int 0, .str [], .str []] [(0, 15)])⟩, false, false⟩]
   (.ef ⟨10, ⟨some 17, none, .op (.append 8 104 11 16)⟩, true, false⟩ [0]
   (.rd [⟨11, ⟨some 18, none, .op (.nilck 7)⟩, false, false⟩,
     ⟨12, ⟨some 19, none, .op (.faddr 17 18)⟩, false, false⟩]
   (.ef ⟨13, ⟨none, none, .op (.store false 1 19 17)⟩, true, false⟩ []
   (.nil)))))))))
def f89 (G : Nat → AVal) : AFn := ⟨20, [], f89m G⟩

theorem f89_c (G : Nat → AVal) : cmpFn Tryz.prog G [] 89 = some (f89 G) := by kernel_rfl


def f41m (G : Nat → AVal) : MC :=
  .seq (.ops [⟨some 2, none, .op (.box false 1 0)⟩,
    ⟨some 3, none, .op (.box false 1 1)⟩])
  (.seq (.seq (.ops [⟨some 4, none, .op (.load false 1 2)⟩,
    ⟨some 5, none, .call 42 [4, (.val (.str [116, 97, 98, 108, 101]))]⟩])
  (.cond 5
   (.seq (.draw (.rd [⟨0, ⟨some 6, none, .op (.load false 1 3)⟩, false, true⟩,
      ⟨1, ⟨some 7, none, .op (.load false 1 3)⟩, false, true⟩,
      ⟨2, ⟨some 8, none, .op (.load false 1 2)⟩, false, false⟩]
    (.ef ⟨3, ⟨some 9, none, .call 43 [8]⟩, true, false⟩ [0, 1]
    (.rd [⟨4, ⟨some 10, none, .op (.nilck 6)⟩, false, false⟩,
      ⟨5, ⟨some 11, none, .op (.faddr 0 10)⟩, false, false⟩]
    (.ef ⟨6, ⟨none, none, .op (.store false 1 11 (.val (.int 1)))⟩, true, false⟩ [1]
    (.rd [⟨7, ⟨some 12, none, .op (.nilck 7)⟩, false, false⟩,
      ⟨8, ⟨some 13, none, .op (.faddr 1 12)⟩, false, false⟩]
    (.ef ⟨9, ⟨none, none, .op (.store false 1 13 9)⟩, true, false⟩ []
    (.nil))))))))
   (.seq (.ops [⟨some 14, none, .op (.load false 1 2)⟩,
     ⟨some 15, none, .call 75 [14, (.val (.str [40]))]⟩])
   (.seq (.ops [⟨some 16, none, .op (.load false 1 2)⟩,
     ⟨some 17, none, .op (.mkfn (.func 77) [] [3, 2])⟩,
     ⟨some 18, none, .call 76 [16, (.val (.int 16)), 17]⟩])
   (.seq (.ops [⟨some 19, none, .op (.load false 1 2)⟩,
     ⟨some 20, none, .call 75 [19, (.val (.str [41]))]⟩])
   (.ret)))))
   (.skip)))
  (.seq (.draw (.rd [⟨0, ⟨some 21, none, .op (.load false 1 3)⟩, false, true⟩,
     ⟨1, ⟨some 22, none, .op (.load false 1 3)⟩, false, true⟩,
     ⟨2, ⟨some 23, none, .op (.load false 1 2)⟩, false, false⟩]
   (.ef ⟨3, ⟨some 24, none, .call 42 [23, (.val (.str [117, 110, 105, 113, 117, 101]))]⟩, true, false⟩ [0, 1]
   (.rd [⟨4, ⟨some 25, none, .op (.nilck 21)⟩, false, false⟩,
     ⟨5, ⟨some 26, none, .op (.faddr 0 25)⟩, false, false⟩]
   (.ef ⟨6, ⟨none, none, .op (.store false 1 26 (.val (.int 3)))⟩, true, false⟩ [1]
   (.rd [⟨7, ⟨some 27, none, .op (.nilck 22)⟩, false, false⟩,
     ⟨8, ⟨some 28, none, .op (.faddr 5 27)⟩, false, false⟩]
   (.ef ⟨9, ⟨none, none, .op (.store false 1 28 24)⟩, true, false⟩ []
   (.nil))))))))
  (.seq (.ops [⟨some 29, none, .op (.load false 1 2)⟩,
    ⟨some 30, none, .op (.bslice false 1 1 [.str []] [(0, (.val (.str [105, 110, 100, 101, 120])))])⟩,
    ⟨some 31, none, .call 40 [29, 30]⟩])
  (.seq (.draw (.rd [⟨0, ⟨some 32, none, .op (.load false 1 3)⟩, false, true⟩,
     ⟨1, ⟨some 33, none, .op (.load false 1 2)⟩, false, false⟩]
   (.ef ⟨2, ⟨some 34, none, .call 43 [33]⟩, true, false⟩ [0]
   (.rd [⟨3, ⟨some 35, none, .op (.nilck 32)⟩, false, false⟩,
     ⟨4, ⟨some 36, none, .op (.faddr 2 35)⟩, false, false⟩]
   (.ef ⟨5, ⟨none, none, .op (.store false 1 36 34)⟩, true, false⟩ []
   (.nil))))))
  (.seq (.ops [⟨some 37, none, .op (.load false 1 2)⟩,
    ⟨some 38, none, .op (.bslice false 1 1 [.str []] [(0, (.val (.str [111, 110])))])⟩,
    ⟨some 39, none, .call 40 [37, 38]⟩])
  (.seq (.draw (.rd [⟨0, ⟨some 40, none, .op (.load false 1 3)⟩, false, true⟩,
     ⟨1, ⟨some 41, none, .op (.load false 1 2)⟩, false, false⟩]
   (.ef ⟨2, ⟨some 42, none, .call 43 [41]⟩, true, false⟩ [0]
   (.rd [⟨3, ⟨some 43, none, .op (.nilck 40)⟩, false, false⟩,
     ⟨4, ⟨some 44, none, .op (.faddr 1 43)⟩, false, false⟩]
   (.ef ⟨5, ⟨none, none, .op (.store false 1 44 42)⟩, true, false⟩ []
   (.nil))))))
  (.seq (.ops [⟨some 45, none, .op (.load false 1 2)⟩,
    ⟨some 46, none, .call 75 [45, (.val (.str [40]))]⟩])
  (.seq (.ops [⟨some 47, none, .op (.load false 1 2)⟩,
    ⟨some 48, none, .op (.mkfn (.func 79) [] [3, 2])⟩,
    ⟨some 49, none, .call 76 [47, (.val (.int 4)), 48]⟩])
  (.ops [⟨some 50, none, .op (.load false 1 2)⟩,
    ⟨some 51, none, .call 75 [50, (.val (.str [41]))]⟩])))))))))
def f41 (G : Nat → AVal) : AFn := ⟨52, [], f41m G⟩

theorem f41_c (G : Nat → AVal) : cmpFn Tryz.prog G [] 41 = some (f41 G) := by kernel_rfl


def f44m (G : Nat → AVal) : MC :=
  .seq (.ops [⟨some 2, none, .op (.box false 1 0)⟩,
    ⟨some 3, none, .op (.box false 1 1)⟩])
  (.seq (.ops [⟨some 4, none, .op (.load false 1 2)⟩,
    ⟨some 5, none, .op (.bslice false 1 1 [.str []] [(0, (.val (.str [105, 110, 116, 111])))])⟩,
    ⟨some 6, none, .call 40 [4, 5]⟩])
  (.seq (.draw (.rd [⟨0, ⟨some 7, none, .op (.load false 1 3)⟩, false, true⟩,
     ⟨1, ⟨some 8, none, .op (.load false 1 3)⟩, false, true⟩,
     ⟨2, ⟨some 9, none, .op (.load false 1 2)⟩, false, false⟩]
   (.ef ⟨3, ⟨some 10, none, .call 43 [9]⟩, true, false⟩ [0, 1]
   (.rd [⟨4, ⟨some 11, none, .op (.nilck 7)⟩, false, false⟩,
     ⟨5, ⟨some 12, none, .op (.faddr 0 11)⟩, false, false⟩]
   (.ef ⟨6, ⟨none, none, .op (.store false 1 12 (.val (.int 5)))⟩, true, false⟩ [1]
   (.rd [⟨7, ⟨some 13, none, .op (.nilck 8)⟩, false, false⟩,
     ⟨8, ⟨some 14, none, .op (.faddr 1 13)⟩, false, false⟩]
   (.ef ⟨9, ⟨none, none, .op (.store false 1 14 10)⟩, true, false⟩ []
   (.nil))))))))
  (.seq (.ops [⟨some 15, none, .op (.load false 1 2)⟩,
    ⟨some 16, none, .op (.bslice false 1 1 [.str []] [(0, (.val (.str [118, 97, 108, 117, 101, 115])))])⟩,
    ⟨some 17, none, .call 40 [15, 16]⟩])
  (.ops [⟨some 18, none, .op (.load false 1 2)⟩,
    ⟨some 19, none, .op (.mkfn (.func 82) [] [2, 3])⟩,
    ⟨some 20, none, .call 76 [18, (.val (.int 50)), 19]⟩]))))
def f44 (G : Nat → AVal) : AFn := ⟨21, [], f44m G⟩

theorem f44_c (G : Nat → AVal) : cmpFn Tryz.prog G [] 44 = some (f44 G) := by kernel_rfl

def f45b0 (G : Nat → AVal) : MC :=
  .seq (.seq (.ops [⟨some 26, none, .op (.faddr 0 4)⟩,
    ⟨some 27, none, .op (.load false 1 26)⟩,
    ⟨some 28, none, .op (.bin .eql .int 27 (.val (.int 1)))⟩,
    ⟨some 29, none, .op (.mv 28)⟩,
    ⟨some 30, some (29, true), .op (.faddr 1 4)⟩,
    ⟨some 31, some (29, true), .op (.load false 1 30)⟩,
    ⟨some 32, some (29, true), .op (.bin .eql .str 31 (.val (.str [105, 110, 110, 101, 114])))⟩,
    ⟨some 33, some (29, true), .op (.mv 32)⟩,
    ⟨some 34, some (33, false), .op (.faddr 1 4)⟩,
    ⟨some 35, some (33, false), .op (.load false 1 34)⟩,
    ⟨some 36, some (33, false), .op (.bin .eql .str 35 (.val (.str [106, 111, 105, 110])))⟩,
    ⟨some 37, some (29, true), .op (.pick 33 (.val (.bool true)) 36)⟩,
    ⟨some 38, none, .op (.pick 29 37 (.val (.bool false)))⟩])
  (.cond 38
   (.skip)
   (.exit 0)))
  (.seq (.block 1
   (.seq (.seq (.ops [⟨some 41, none, .op (.load false 1 3)⟩,
     ⟨some 42, none, .op (.nilck 41)⟩,
     ⟨some 43, none, .op (.faddr 8 42)⟩,
     ⟨some 44, none, .op (.load false 1 43)⟩,
     ⟨some 45, none, .op (.lenS 44)⟩,
     ⟨some 46, none, .op (.bin .eql .int 45 (.val (.int 4)))⟩])
   (.cond 46
    (.ops [⟨some 47, none, .call 22 [(.val (.int 151))]⟩])
    (.skip)))
   (.seq (.ops [⟨some 48, none, .op (.load false 1 2)⟩,
     ⟨some 49, none, .call 42 [48, (.val (.str [105, 110, 110, 101, 114]))]⟩])
   (.seq (.ops [⟨some 50, none, .op (.load false 1 2)⟩,
     ⟨some 51, none, .op (.bslice false 1 1 [.str []] [(0, (.val (.str [106, 111, 105, 110])))])⟩,
     ⟨some 52, none, .call 40 [50, 51]⟩])
   (.seq (.ops [⟨some 53, none, .op (.load false 1 2)⟩,
     ⟨some 54, none, .call 87 [53]⟩,
     ⟨some 5, none, .op (.alloc 9 [.str [], .str [], .int 0, .nilS, .int 0, .int 0, .int 0, .str [], .str []])⟩,
     ⟨none, none, .op (.store true 9 5 54)⟩])
   (.seq (.ops [⟨some 55, none, .op (.load false 1 2)⟩,
     ⟨some 56, none, .op (.bslice false 1 1 [.str []] [(0, (.val (.str [111, 110])))])⟩,
     ⟨some 57, none, .call 40 [55, 56]⟩])
   (.seq (.ops [⟨some 58, none, .op (.load false 1 2)⟩,
     ⟨some 59, none, .call 84 [58]⟩,
     ⟨some 60, none, .op (.faddr 2 5)⟩,
     ⟨none, none, .op (.store true 7 60 59)⟩])
   (.draw (.rd [⟨0, ⟨some 61, none, .op (.load false 1 3)⟩, false, true⟩,
      ⟨1, ⟨some 62, none, .op (.load false 1 3)⟩, false, false⟩,
      ⟨2, ⟨some 63, none, .op (.nilck 62)⟩, false, false⟩,
      ⟨3, ⟨some 64, none, .op (.faddr 8 63)⟩, false, false⟩,
      ⟨4, ⟨some 65, none, .op (.load false 1 64)⟩, false, false⟩,
      ⟨5, ⟨some 66, none, .op (.load true 9 5)⟩, false, false⟩,
      ⟨6, ⟨some 67, none, .op (.bslice true 9 1 [.str [], .str [], .int 0, .nilS, .int 0, .int 0, .int 0, .str [], .str []] [(0, 66)])⟩, false, false⟩]
    (.ef ⟨7, ⟨some 68, none, .op (.append 9 120 65 67)⟩, true, false⟩ [0]
    (.rd [⟨8, ⟨some 69, none, .op (.nilck 61)⟩, false, false⟩,
      ⟨9, ⟨some 70, none, .op (.faddr 8 69)⟩, false, false⟩]
    (.ef ⟨10, ⟨none, none, .op (.store false 1 70 68)⟩, true, false⟩ []
    (.nil)))))))))))))
  (.seq (.seq (.ops [⟨some 71, none, .op (.load true 4 4)⟩])
  (.ops [⟨some 4, none, .op (.alloc 4 [.int 0, .str [], .int 0, .int 0])⟩,
    ⟨none, none, .op (.store true 4 4 71)⟩]))
  (.ops [⟨some 39, none, .op (.load false 1 2)⟩,
    ⟨some 40, none, .call 39 [39]⟩,
    ⟨none, none, .op (.store true 4 4 40)⟩])))

def f45m (G : Nat → AVal) : MC :=
  .seq (.ops [⟨some 2, none, .op (.box false 1 0)⟩,
    ⟨some 3, none, .op (.box false 1 1)⟩])
  (.seq (.ops [⟨some 6, none, .op (.load false 1 3)⟩,
    ⟨some 7, none, .op (.nilck 6)⟩,
    ⟨some 8, none, .op (.faddr 0 7)⟩,
    ⟨none, none, .op (.store false 1 8 (.val (.int 6)))⟩])
  (.seq (.seq (.ops [⟨some 9, none, .op (.load false 1 2)⟩,
    ⟨some 10, none, .call 85 [9, (.val (.str [42]))]⟩,
    ⟨some 11, none, .op (.un .not 10)⟩])
  (.cond 11
   (.ops [⟨some 12, none, .op (.load false 1 2)⟩,
     ⟨some 13, none, .op (.mkfn (.func 86) [] [2, 3])⟩,
     ⟨some 14, none, .call 76 [12, (.val (.int 50)), 13]⟩])
   (.skip)))
  (.seq (.ops [⟨some 15, none, .op (.load false 1 2)⟩,
    ⟨some 16, none, .op (.bslice false 1 1 [.str []] [(0, (.val (.str [102, 114, 111, 109])))])⟩,
    ⟨some 17, none, .call 40 [15, 16]⟩])
  (.seq (.draw (.rd [⟨0, ⟨some 18, none, .op (.load false 1 3)⟩, false, true⟩,
     ⟨1, ⟨some 19, none, .op (.load false 1 2)⟩, false, false⟩]
   (.ef ⟨2, ⟨some 20, none, .call 87 [19]⟩, true, false⟩ [0]
   (.ef ⟨3, ⟨some 21, none, .op (.brow true 9 1 [.str [], .str [], .int 0, .nilS, .int 0, .int 0, .int 0, .str [], .str []] [(0, 20)])⟩, true, false⟩ [0]
   (.rd [⟨4, ⟨some 22, none, .op (.nilck 18)⟩, false, false⟩,
     ⟨5, ⟨some 23, none, .op (.faddr 8 22)⟩, false, false⟩]
   (.ef ⟨6, ⟨none, none, .op (.store false 1 23 21)⟩, true, false⟩ []
   (.nil)))))))
  (.seq (.seq (.ops [⟨some 24, none, .op (.load false 1 2)⟩,
    ⟨some 25, none, .call 39 [24]⟩,
    ⟨some 4, none, .op (.alloc 4 [.int 0, .str [], .int 0, .int 0])⟩,
    ⟨none, none, .op (.store true 4 4 25)⟩])
  (.block 0
   (.loop (f45b0 G))))
  (.seq (.ops [⟨some 72, none, .op (.load false 1 2)⟩,
    ⟨some 73, none, .op (.load false 1 3)⟩,
    ⟨some 74, none, .call 47 [72, 73]⟩])
  (.seq (.ops [⟨some 75, none, .op (.load false 1 2)⟩,
    ⟨some 76, none, .call 42 [75, (.val (.str [111, 114, 100, 101, 114]))]⟩])
  (.cond 76
   (.seq (.ops [⟨some 77, none, .op (.load false 1 2)⟩,
     ⟨some 78, none, .op (.bslice false 1 1 [.str []] [(0, (.val (.str [98, 121])))])⟩,
     ⟨some 79, none, .call 40 [77, 78]⟩])
   (.ops [⟨some 80, none, .op (.load false 1 2)⟩,
     ⟨some 81, none, .op (.mkfn (.func 88) [] [3, 2])⟩,
     ⟨some 82, none, .call 76 [80, (.val (.int 50)), 81]⟩]))
   (.skip)))))))))
def f45 (G : Nat → AVal) : AFn := ⟨83, [], f45m G⟩

theorem f45_c (G : Nat → AVal) : cmpFn Tryz.prog G [21] 45 = some (f45 G) := by kernel_rfl


def f46m (G : Nat → AVal) : MC :=
  .seq (.ops [⟨some 2, none, .op (.box false 1 0)⟩,
    ⟨some 3, none, .op (.box false 1 1)⟩])
  (.seq (.draw (.rd [⟨0, ⟨some 4, none, .op (.load false 1 3)⟩, false, true⟩,
     ⟨1, ⟨some 5, none, .op (.load false 1 3)⟩, false, true⟩,
     ⟨2, ⟨some 6, none, .op (.load false 1 2)⟩, false, false⟩]
   (.ef ⟨3, ⟨some 7, none, .call 43 [6]⟩, true, false⟩ [0, 1]
   (.rd [⟨4, ⟨some 8, none, .op (.nilck 4)⟩, false, false⟩,
     ⟨5, ⟨some 9, none, .op (.faddr 0 8)⟩, false, false⟩]
   (.ef ⟨6, ⟨none, none, .op (.store false 1 9 (.val (.int 7)))⟩, true, false⟩ [1]
   (.rd [⟨7, ⟨some 10, none, .op (.nilck 5)⟩, false, false⟩,
     ⟨8, ⟨some 11, none, .op (.faddr 1 10)⟩, false, false⟩]
   (.ef ⟨9, ⟨none, none, .op (.store false 1 11 7)⟩, true, false⟩ []
   (.nil))))))))
  (.seq (.ops [⟨some 12, none, .op (.load false 1 2)⟩,
    ⟨some 13, none, .op (.bslice false 1 1 [.str []] [(0, (.val (.str [115, 101, 116])))])⟩,
    ⟨some 14, none, .call 40 [12, 13]⟩])
  (.seq (.ops [⟨some 15, none, .op (.load false 1 2)⟩,
    ⟨some 16, none, .op (.mkfn (.func 89) [] [2, 3])⟩,
    ⟨some 17, none, .call 76 [15, (.val (.int 50)), 16]⟩])
  (.ops [⟨some 18, none, .op (.load false 1 2)⟩,
    ⟨some 19, none, .op (.load false 1 3)⟩,
    ⟨some 20, none, .call 47 [18, 19]⟩]))))
def f46 (G : Nat → AVal) : AFn := ⟨21, [], f46m G⟩

theorem f46_c (G : Nat → AVal) : cmpFn Tryz.prog G [] 46 = some (f46 G) := by kernel_rfl


def f47m (G : Nat → AVal) : MC :=
  .seq (.ops [⟨some 4, none, .op (.mv 0)⟩,
    ⟨some 5, none, .call 42 [4, (.val (.str [119, 104, 101, 114, 101]))]⟩])
  (.cond 5
   (.ops [⟨some 6, none, .op (.mv 1)⟩,
     ⟨some 7, none, .op (.mv 0)⟩,
     ⟨some 8, none, .call 84 [7]⟩,
     ⟨some 9, none, .op (.nilck 6)⟩,
     ⟨some 10, none, .op (.faddr 9 9)⟩,
     ⟨none, none, .op (.store true 7 10 8)⟩])
   (.skip))
def f47 (G : Nat → AVal) : AFn := ⟨11, [], f47m G⟩

theorem f47_c (G : Nat → AVal) : cmpFn Tryz.prog G [] 47 = some (f47 G) := by kernel_rfl


def f21m (G : Nat → AVal) : MC :=
  .seq (.ops [⟨some 2, none, .op (.alloc 18 [.int 0, .str [], .str [], .nilS, .nilS, .bool false, .nilS, .nilS, .nilS, .int 0, .nilS, .int 0, .int 0, .int 0, .str [], .str [], .nilS, .nilS])⟩])
  (.seq (.ops [⟨some 4, none, .op (.mv 0)⟩,
    ⟨some 5, none, .call 39 [4]⟩,
    ⟨some 3, none, .op (.alloc 4 [.int 0, .str [], .int 0, .int 0])⟩,
    ⟨none, none, .op (.store true 4 3 5)⟩])
  (.seq (.ops [⟨some 6, none, .op (.mv 0)⟩,
    ⟨some 7, none, .op (.faddr 1 3)⟩,
    ⟨some 8, none, .op (.load false 1 7)⟩,
    ⟨some 9, none, .op (.bslice false 1 1 [.str []] [(0, 8)])⟩,
    ⟨some 10, none, .call 40 [6, 9]⟩])
  (.seq (.seq (.ops [⟨some 11, none, .op (.faddr 0 3)⟩,
    ⟨some 12, none, .op (.load false 1 11)⟩,
    ⟨some 13, none, .op (.bin .neq .int 12 (.val (.int 1)))⟩])
  (.cond 13
   (.ops [⟨some 14, none, .call 22 [(.val (.int 130))]⟩])
   (.skip)))
  (.seq (.seq (.ops [⟨some 15, none, .op (.faddr 1 3)⟩,
    ⟨some 16, none, .op (.load false 1 15)⟩])
  (.block 0
   (.seq (.ops [⟨some 19, none, .op (.bin .eql .str 16 (.val (.str [99, 114, 101, 97, 116, 101])))⟩,
     ⟨some 18, none, .op (.mv 19)⟩])
   (.cond 18
    (.ops [⟨some 20, none, .op (.mv 0)⟩,
      ⟨some 21, none, .call 41 [20, 2]⟩])
    (.seq (.ops [⟨some 23, none, .op (.bin .eql .str 16 (.val (.str [100, 114, 111, 112])))⟩,
      ⟨some 22, none, .op (.mv 23)⟩])
    (.cond 22
     (.seq (.ops [⟨some 24, none, .op (.faddr 0 2)⟩,
       ⟨none, none, .op (.store false 1 24 (.val (.int 4)))⟩])
     (.seq (.ops [⟨some 25, none, .op (.mv 0)⟩,
       ⟨some 26, none, .call 42 [25, (.val (.str [116, 97, 98, 108, 101]))]⟩])
     (.cond 26
      (.ops [⟨some 27, none, .op (.mv 0)⟩,
        ⟨some 28, none, .call 43 [27]⟩,
        ⟨some 29, none, .op (.faddr 0 2)⟩,
        ⟨none, none, .op (.store false 1 29 (.val (.int 2)))⟩,
        ⟨some 30, none, .op (.faddr 1 2)⟩,
        ⟨none, none, .op (.store false 1 30 28)⟩])
      (.seq (.ops [⟨some 31, none, .op (.mv 0)⟩,
        ⟨some 32, none, .op (.bslice false 1 1 [.str []] [(0, (.val (.str [105, 110, 100, 101, 120])))])⟩,
        ⟨some 33, none, .call 40 [31, 32]⟩])
      (.ops [⟨some 34, none, .op (.mv 0)⟩,
        ⟨some 35, none, .call 43 [34]⟩,
        ⟨some 36, none, .op (.faddr 2 2)⟩,
        ⟨none, none, .op (.store false 1 36 35)⟩])))))
     (.seq (.ops [⟨some 38, none, .op (.bin .eql .str 16 (.val (.str [105, 110, 115, 101, 114, 116])))⟩,
       ⟨some 37, none, .op (.mv 38)⟩])
     (.cond 37
      (.ops [⟨some 39, none, .op (.mv 0)⟩,
        ⟨some 40, none, .call 44 [39, 2]⟩])
      (.seq (.ops [⟨some 42, none, .op (.bin .eql .str 16 (.val (.str [115, 101, 108, 101, 99, 116])))⟩,
        ⟨some 41, none, .op (.mv 42)⟩])
      (.cond 41
       (.ops [⟨some 43, none, .op (.mv 0)⟩,
         ⟨some 44, none, .call 45 [43, 2]⟩])
       (.seq (.ops [⟨some 46, none, .op (.bin .eql .str 16 (.val (.str [117, 112, 100, 97, 116, 101])))⟩,
         ⟨some 45, none, .op (.mv 46)⟩])
       (.cond 45
        (.ops [⟨some 47, none, .op (.mv 0)⟩,
          ⟨some 48, none, .call 46 [47, 2]⟩])
        (.seq (.ops [⟨some 50, none, .op (.bin .eql .str 16 (.val (.str [100, 101, 108, 101, 116, 101])))⟩,
          ⟨some 49, none, .op (.mv 50)⟩])
        (.cond 49
         (.seq (.ops [⟨some 51, none, .op (.mv 0)⟩,
           ⟨some 52, none, .op (.bslice false 1 1 [.str []] [(0, (.val (.str [102, 114, 111, 109])))])⟩,
           ⟨some 53, none, .call 40 [51, 52]⟩])
         (.seq (.ops [⟨some 54, none, .op (.mv 0)⟩,
           ⟨some 55, none, .call 43 [54]⟩,
           ⟨some 56, none, .op (.faddr 0 2)⟩,
           ⟨none, none, .op (.store false 1 56 (.val (.int 8)))⟩,
           ⟨some 57, none, .op (.faddr 1 2)⟩,
           ⟨none, none, .op (.store false 1 57 55)⟩])
         (.ops [⟨some 58, none, .op (.mv 0)⟩,
           ⟨some 59, none, .call 47 [58, 2]⟩])))
         (.seq (.ops [⟨some 61, none, .op (.bin .eql .str 16 (.val (.str [98, 101, 103, 105, 110])))⟩,
           ⟨some 60, none, .op (.mv 61)⟩])
         (.cond 60
          (.ops [⟨some 62, none, .op (.faddr 0 2)⟩,
            ⟨none, none, .op (.store false 1 62 (.val (.int 9)))⟩])
          (.seq (.ops [⟨some 64, none, .op (.bin .eql .str 16 (.val (.str [99, 111, 109, 109, 105, 116])))⟩,
            ⟨some 63, none, .op (.mv 64)⟩])
          (.cond 63
           (.ops [⟨some 65, none, .op (.faddr 0 2)⟩,
             ⟨none, none, .op (.store false 1 65 (.val (.int 10)))⟩])
           (.seq (.ops [⟨some 67, none, .op (.bin .eql .str 16 (.val (.str [114, 111, 108, 108, 98, 97, 99, 107])))⟩,
             ⟨some 66, none, .op (.mv 67)⟩])
           (.cond 66
            (.ops [⟨some 68, none, .op (.faddr 0 2)⟩,
              ⟨none, none, .op (.store false 1 68 (.val (.int 11)))⟩])
            (.ops [⟨some 17, none, .call 22 [(.val (.int 130))]⟩])))))))))))))))))))))
  (.seq (.ops [⟨some 69, none, .op (.load true 18 2)⟩,
    ⟨none, none, .op (.store true 18 2 69)⟩])
  (.ret))))))
def f21 (G : Nat → AVal) : AFn := ⟨70, [.cell 2 true 18], f21m G⟩

theorem f21_c (G : Nat → AVal) : cmpFn Tryz.prog G [] 21 = some (f21 G) := by kernel_rfl

end Go.Abs
set_option linter.unusedVariables false
namespace Go.Abs
open Go Go.RowKit Go.Proofs

def f9p0 (G : Nat → AVal) : MC :=
  .ops [⟨some 2, none, .op (.alloc 18 [.int 0, .str [], .str [], .nilS, .nilS, .bool false, .nilS, .nilS, .nilS, .int 0, .nilS, .int 0, .int 0, .int 0, .str [], .str [], .nilS, .nilS])⟩,
    ⟨some 3, none, .op (.alloc 1 [.int 0])⟩]

def f9p1 (G : Nat → AVal) : MC :=
  .ops [⟨some 7, none, .op (.mv 0)⟩,
    ⟨some 8, none, .call 19 [7]⟩,
    ⟨some 6, none, .op (.mv 8)⟩,
    ⟨some 9, none, .op (.extract 6 0)⟩,
    ⟨some 10, none, .op (.extract 6 1)⟩,
    ⟨some 4, none, .op (.mv 9)⟩,
    ⟨none, none, .op (.store false 1 3 10)⟩]

def f9p2 (G : Nat → AVal) : MC :=
  .seq (.ops [⟨some 11, none, .op (.load false 1 3)⟩,
    ⟨some 12, none, .op (.bin .neq .int 11 (.val (.int 0)))⟩])
  (.cond 12
   (.seq (.draw (.rd [⟨0, ⟨some 13, none, .op (.load true 18 2)⟩, false, false⟩,
     ⟨1, ⟨some 14, none, .op (.load false 1 3)⟩, false, true⟩]
    (.ef ⟨2, ⟨none, none, .op (.store true 18 2 13)⟩, true, false⟩ [1]
    (.ef ⟨3, ⟨none, none, .op (.store false 1 3 14)⟩, true, false⟩ []
    (.nil)))))
   (.ret))
   (.skip))

def f9m (G : Nat → AVal) : MC :=
  .seq (.ops [⟨some 16, none, .op (.mv 4)⟩,
    ⟨some 17, none, .op (.build [.nilS, .int 0, .int 0] [(false, 0, 1, 16)])⟩,
    ⟨some 18, none, .op (.box true 3 17)⟩,
    ⟨some 5, none, .op (.mv 18)⟩])
  (.seq (.ops [⟨some 19, none, .op (.mv 5)⟩,
    ⟨some 20, none, .call 21 [19]⟩,
    ⟨none, none, .op (.store true 18 2 20)⟩])
  (.seq (.seq (.ops [⟨some 21, none, .op (.mv 5)⟩,
    ⟨some 22, none, .op (.nilck 21)⟩,
    ⟨some 23, none, .op (.faddr 0 22)⟩,
    ⟨some 24, none, .op (.load false 1 23)⟩,
    ⟨some 25, none, .op (.lenS 24)⟩,
    ⟨some 26, none, .op (.bin .gtr .int 25 (.val (.int 0)))⟩])
  (.cond 26
   (.ops [⟨some 27, none, .call 22 [(.val (.int 130))]⟩])
   (.skip)))
  (.seq (.seq (.ops [⟨some 28, none, .op (.mv 5)⟩,
    ⟨some 29, none, .op (.nilck 28)⟩,
    ⟨some 30, none, .op (.faddr 2 29)⟩,
    ⟨some 31, none, .op (.load false 1 30)⟩,
    ⟨some 32, none, .op (.bin .gtr .int 31 (.val (.int 40)))⟩])
  (.cond 32
   (.ops [⟨some 33, none, .call 22 [(.val (.int 5))]⟩])
   (.skip)))
  (.seq (.ops [⟨some 34, none, .op (.load true 18 2)⟩,
    ⟨none, none, .op (.store true 18 2 34)⟩,
    ⟨none, none, .op (.store false 1 3 (.val (.int 0)))⟩])
  (.ret)))))
def f9 (G : Nat → AVal) : AFnD := ⟨35, [.cell 2 true 18, .cell 3 false 1], [f9p0 G, f9p1 G, f9p2 G], [⟨some 15, none, .op (.mkfn (.func 20) [] [2, 3])⟩], 15, f9m G⟩

theorem f9_c (G : Nat → AVal) : cmpFnD Tryz.prog G 9 = some (f9 G) := by kernel_rfl


def f20m (G : Nat → AVal) : MC :=
  .seq (.ops [⟨some 6, none, .op (.mv 2)⟩,
    ⟨some 7, none, .op (.bin .neq (.nilP (.iface true)) 6 (.val (.atom (.nilIface))))⟩])
  (.cond 7
   (.seq (.ops [⟨some 9, none, .op (.mv 2)⟩,
     ⟨some 10, none, .op (.tassert 58 true (.agg [.int 0]) 9)⟩,
     ⟨some 8, none, .op (.mv 10)⟩,
     ⟨some 11, none, .op (.extract 8 0)⟩,
     ⟨some 12, none, .op (.extract 8 1)⟩,
     ⟨some 3, none, .op (.alloc 1 [.int 0])⟩,
     ⟨none, none, .op (.store true 1 3 11)⟩,
     ⟨some 4, none, .op (.mv 12)⟩])
   (.seq (.seq (.ops [⟨some 13, none, .op (.mv 4)⟩,
     ⟨some 14, none, .op (.un .not 13)⟩])
   (.cond 14
    (.ops [⟨some 15, none, .op (.mv 2)⟩,
      ⟨none, none, .op (.panic 15)⟩])
    (.skip)))
   (.draw (.rd [⟨0, ⟨some 16, none, .op (.build [.int 0, .str [], .str [], .nilS, .nilS, .bool false, .nilS, .nilS, .nilS, .int 0, .nilS, .int 0, .int 0, .int 0, .str [], .str [], .nilS, .nilS] [])⟩, false, false⟩,
      ⟨1, ⟨some 17, none, .op (.faddr 0 3)⟩, false, true⟩,
      ⟨2, ⟨some 18, none, .op (.load false 1 17)⟩, false, true⟩]
    (.ef ⟨3, ⟨none, none, .op (.store true 18 0 16)⟩, true, false⟩ [1, 2]
    (.ef ⟨4, ⟨none, none, .op (.store false 1 1 18)⟩, true, false⟩ []
    (.nil)))))))
   (.skip))
def f20 (G : Nat → AVal) : ADef := ⟨19, 5, 2, f20m G⟩

theorem f20_c (G : Nat → AVal) : cmpDef Tryz.prog G 20 = some (f20 G) := by kernel_rfl

end Go.Abs
