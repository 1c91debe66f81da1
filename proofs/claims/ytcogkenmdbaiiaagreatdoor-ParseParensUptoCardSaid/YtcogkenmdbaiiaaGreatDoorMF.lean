/- The seat's functions, translated; the checks. Conditions: none. -/
import Derived.Test.YtcogkenmdbaiiaaGreatDoorA25
import Derived.Test.YtcogkenmdbaiiaaGreatDoorProg
import Derived.KernelRfl
import Derived.Test.YtcogkenmdbaiiaaGreatDoorA37
namespace Go.Abs
abbrev iO (d : Nat) (x : MOp) : MI := ⟨some d, none, .op x⟩
abbrev iZ (x : MOp) : MI := ⟨none, none, .op x⟩
abbrev iC (d f : Nat) (l : List MOpd) : MI := ⟨some d, none, .call f l⟩
abbrev iG (d c : Nat) (b : Bool) (x : MOp) : MI := ⟨some d, some (c, b), .op x⟩
abbrev aI (n : Int) : MOpd := .val (.int n)
abbrev aS (s : List UInt8) : MOpd := .val (.str s)
end Go.Abs
set_option linter.unusedVariables false
namespace Go.Abs
open Go Go.RowKit Go.Proofs
def f19b0 (G : Nat → AVal) : MC :=
 .block 1
 (.seq (.ops [iO 13 (.mv 0), iC 14 32 [13, (aS [32, 9, 10, 13])], iO 0 (.mv 14)])
 (.seq (.seq (.ops [iO 15 (.mv 0), iO 16 (.bin .eql .str 15 (aS []))])
 (.cond 16
 (.seq (.ops [iO 17 (.mv 4), iO 2 (.mv 17), iO 3 (.mv (aI 0))])
 (.ret))
 (.skip)))
 (.seq (.ops [iO 5 (.mv (.val (.clo (.func 33) [] [])))])
 (.seq (.seq (.ops [iO 18 (.mv 0), iO 19 (.idxS 18 (aI 0)), iO 6 (.mv 19)])
 (.block 2
 (.seq (.ops [iO 21 (.mv 6), iC 22 34 [21], iO 20 (.mv 22)])
 (.cond 20
 (.ops [iO 5 (.mv (.val (.clo (.func 35) [] [])))])
 (.seq (.ops [iO 24 (.mv 6), iC 25 36 [24], iO 23 (.mv 25)])
 (.cond 23
 (.ops [iO 5 (.mv (.val (.clo (.func 37) [] [])))])
 (.seq (.ops [iO 27 (.mv 6), iO 28 (.bin .eql .int 27 (.val (.atom (.int .u8 39)))), iO 26 (.mv 28)])
 (.cond 26
 (.ops [iO 5 (.mv (.val (.clo (.func 38) [] [])))])
 (.skip)))))))))
 (.seq (.ops [iO 30 (.mv 5), iO 31 (.mv 0), ⟨some 32, none, .callV 30 [31]⟩, iO 29 (.mv 32), iO 33 (.extract 29 0), iO 34 (.extract 29 1), iO 35 (.extract 29 2), iO 7 (.alloc 4 [.int 0, .str [], .int 0, .int 0]), iZ (.store true 4 7 33), iO 8 (.mv 34), iO 9 (.mv 35)])
 (.seq (.seq (.ops [iO 36 (.mv 9), iO 37 (.bin .neq .int 36 (aI 0))])
 (.cond 37
 (.seq (.ops [iO 38 (.mv 9), iO 2 (.mv (.val .nilS)), iO 3 (.mv 38)])
 (.ret))
 (.skip)))
 (.seq (.ops [iO 39 (.mv 4), iO 40 (.load true 4 7), iO 41 (.bslice true 4 1 [.int 0, .str [], .int 0, .int 0] [(0, 40)]), iO 42 (.append 4 40 39 41), iO 4 (.mv 42)])
 (.ops [iO 43 (.mv 0), iO 44 (.mv 8), iO 45 (.sslc 43 (some 44) none), iO 0 (.mv 45)]))))))))
def f19m (G : Nat → AVal) : MC :=
 .seq (.ops [iO 2 (.mv (.val .nilS)), iO 3 (.mv (aI 0))])
 (.seq (.seq (.ops [iO 10 (.mv 0), iO 11 (.lenStr 10), iO 12 (.bin .gtr .int 11 (aI 4000))])
 (.cond 12
 (.seq (.ops [iO 2 (.mv (.val .nilS)), iO 3 (.mv (aI 1))])
 (.ret))
 (.skip)))
 (.seq (.ops [iO 4 (.mv (.val .nilS))])
 (.block 0
 (.loop (f19b0 G)))))
def f19 (G : Nat → AVal) : AFn := ⟨46, [.tmp 2, .tmp 3], f19m G⟩
theorem f19_c (G : Nat → AVal) : cmpFn Tryz.prog G [] 19 = some (f19 G) := by kernel_rfl
def f81m (G : Nat → AVal) : MC :=
 .seq (.ops [iO 2 (.mv (.val (.bool false)))])
 (.seq (.seq (.ops [iO 3 (.mv 0)])
 (.block 0
 (.seq (.seq (.ops [iO 5 (.bin .eql .str 3 (aS [97, 110, 100])), iO 4 (.mv 5)])
 (.cond 4
 (.skip)
 (.seq (.ops [iO 6 (.bin .eql .str 3 (aS [97, 115])), iO 4 (.mv 6)])
 (.cond 4
 (.skip)
 (.seq (.ops [iO 7 (.bin .eql .str 3 (aS [98, 101, 103, 105, 110])), iO 4 (.mv 7)])
 (.cond 4
 (.skip)
 (.seq (.ops [iO 8 (.bin .eql .str 3 (aS [98, 111, 111, 108])), iO 4 (.mv 8)])
 (.cond 4
 (.skip)
 (.seq (.ops [iO 9 (.bin .eql .str 3 (aS [98, 121])), iO 4 (.mv 9)])
 (.cond 4
 (.skip)
 (.seq (.ops [iO 10 (.bin .eql .str 3 (aS [99, 111, 109, 109, 105, 116])), iO 4 (.mv 10)])
 (.cond 4
 (.skip)
 (.seq (.ops [iO 11 (.bin .eql .str 3 (aS [99, 114, 101, 97, 116, 101])), iO 4 (.mv 11)])
 (.cond 4
 (.skip)
 (.seq (.ops [iO 12 (.bin .eql .str 3 (aS [100, 101, 108, 101, 116, 101])), iO 4 (.mv 12)])
 (.cond 4
 (.skip)
 (.seq (.ops [iO 13 (.bin .eql .str 3 (aS [100, 101, 115, 99])), iO 4 (.mv 13)])
 (.cond 4
 (.skip)
 (.seq (.ops [iO 14 (.bin .eql .str 3 (aS [100, 114, 111, 112])), iO 4 (.mv 14)])
 (.cond 4
 (.skip)
 (.seq (.ops [iO 15 (.bin .eql .str 3 (aS [102, 97, 108, 115, 101])), iO 4 (.mv 15)])
 (.cond 4
 (.skip)
 (.seq (.ops [iO 16 (.bin .eql .str 3 (aS [102, 114, 111, 109])), iO 4 (.mv 16)])
 (.cond 4
 (.skip)
 (.seq (.ops [iO 17 (.bin .eql .str 3 (aS [105, 110, 100, 101, 120])), iO 4 (.mv 17)])
 (.cond 4
 (.skip)
 (.seq (.ops [iO 18 (.bin .eql .str 3 (aS [105, 110, 102, 105, 110, 105, 116, 121])), iO 4 (.mv 18)])
 (.cond 4
 (.skip)
 (.seq (.ops [iO 19 (.bin .eql .str 3 (aS [105, 110, 110, 101, 114])), iO 4 (.mv 19)])
 (.cond 4
 (.skip)
 (.seq (.ops [iO 20 (.bin .eql .str 3 (aS [105, 110, 115, 101, 114, 116])), iO 4 (.mv 20)])
 (.cond 4
 (.skip)
 (.seq (.ops [iO 21 (.bin .eql .str 3 (aS [105, 110, 116])), iO 4 (.mv 21)])
 (.cond 4
 (.skip)
 (.seq (.ops [iO 22 (.bin .eql .str 3 (aS [105, 110, 116, 111])), iO 4 (.mv 22)])
 (.cond 4
 (.skip)
 (.seq (.ops [iO 23 (.bin .eql .str 3 (aS [105, 115])), iO 4 (.mv 23)])
 (.cond 4
 (.skip)
 (.seq (.ops [iO 24 (.bin .eql .str 3 (aS [106, 111, 105, 110])), iO 4 (.mv 24)])
 (.cond 4
 (.skip)
 (.seq (.ops [iO 25 (.bin .eql .str 3 (aS [110, 97, 110])), iO 4 (.mv 25)])
 (.cond 4
 (.skip)
 (.seq (.ops [iO 26 (.bin .eql .str 3 (aS [110, 111, 116])), iO 4 (.mv 26)])
 (.cond 4
 (.skip)
 (.seq (.ops [iO 27 (.bin .eql .str 3 (aS [110, 117, 108, 108])), iO 4 (.mv 27)])
 (.cond 4
 (.skip)
 (.seq (.ops [iO 28 (.bin .eql .str 3 (aS [111, 110])), iO 4 (.mv 28)])
 (.cond 4
 (.skip)
 (.seq (.ops [iO 29 (.bin .eql .str 3 (aS [111, 114])), iO 4 (.mv 29)])
 (.cond 4
 (.skip)
 (.seq (.ops [iO 30 (.bin .eql .str 3 (aS [111, 114, 100, 101, 114])), iO 4 (.mv 30)])
 (.cond 4
 (.skip)
 (.seq (.ops [iO 31 (.bin .eql .str 3 (aS [114, 101, 97, 108])), iO 4 (.mv 31)])
 (.cond 4
 (.skip)
 (.seq (.ops [iO 32 (.bin .eql .str 3 (aS [114, 111, 108, 108, 98, 97, 99, 107])), iO 4 (.mv 32)])
 (.cond 4
 (.skip)
 (.seq (.ops [iO 33 (.bin .eql .str 3 (aS [115, 101, 108, 101, 99, 116])), iO 4 (.mv 33)])
 (.cond 4
 (.skip)
 (.seq (.ops [iO 34 (.bin .eql .str 3 (aS [115, 101, 116])), iO 4 (.mv 34)])
 (.cond 4
 (.skip)
 (.seq (.ops [iO 35 (.bin .eql .str 3 (aS [116, 97, 98, 108, 101])), iO 4 (.mv 35)])
 (.cond 4
 (.skip)
 (.seq (.ops [iO 36 (.bin .eql .str 3 (aS [116, 101, 120, 116])), iO 4 (.mv 36)])
 (.cond 4
 (.skip)
 (.seq (.ops [iO 37 (.bin .eql .str 3 (aS [116, 114, 117, 101])), iO 4 (.mv 37)])
 (.cond 4
 (.skip)
 (.seq (.ops [iO 38 (.bin .eql .str 3 (aS [117, 110, 105, 113, 117, 101])), iO 4 (.mv 38)])
 (.cond 4
 (.skip)
 (.seq (.ops [iO 39 (.bin .eql .str 3 (aS [117, 112, 100, 97, 116, 101])), iO 4 (.mv 39)])
 (.cond 4
 (.skip)
 (.seq (.ops [iO 40 (.bin .eql .str 3 (aS [118, 97, 108, 117, 101, 115])), iO 4 (.mv 40)])
 (.cond 4
 (.skip)
 (.ops [iO 41 (.bin .eql .str 3 (aS [119, 104, 101, 114, 101])), iO 4 (.mv 41)])))))))))))))))))))))))))))))))))))))))))))))))))))))))))))))))))))))))))
 (.cond 4
 (.seq (.ops [iO 2 (.mv (.val (.bool true)))])
 (.ret))
 (.skip)))))
 (.seq (.ops [iO 2 (.mv (.val (.bool false)))])
 (.ret)))
def f81 (G : Nat → AVal) : AFn := ⟨42, [.tmp 2], f81m G⟩
theorem f81_c (G : Nat → AVal) : cmpFn Tryz.prog G [] 81 = some (f81 G) := by kernel_rfl
def f32m (G : Nat → AVal) : MC :=
 .seq (.ops [iO 4 (.mv (aS []))])
 (.seq (.seq (.ops [iO 7 (.mv 0), iO 8 (.bin .eql .str 7 (aS [])), iO 9 (.mv 8), iG 10 9 false (.mv 1), iG 11 9 false (.bin .eql .str 10 (aS [])), iO 12 (.pick 9 (.val (.bool true)) 11)])
 (.cond 12
 (.seq (.ops [iO 13 (.mv 0), iO 4 (.mv 13)])
 (.ret))
 (.skip)))
 (.seq (.seq (.ops [iO 14 (.mv 1), iO 15 (.lenStr 14), iO 16 (.bin .eql .int 15 (aI 1)), iO 17 (.mv 16), iG 18 17 true (.mv 1), iG 19 17 true (.idxS 18 (aI 0)), iG 20 17 true (.bin .lss .int 19 (.val (.atom (.int .u8 128)))), iO 21 (.pick 17 20 (.val (.bool false)))])
 (.cond 21
 (.seq (.ops [iO 22 (.mv 0), iO 23 (.mv 1), iO 24 (.idxS 23 (aI 0)), iC 25 64 [22, 24], iO 4 (.mv 25)])
 (.ret))
 (.skip)))
 (.seq (.seq (.ops [iO 27 (.mv 1), iC 28 65 [27], iO 26 (.mv 28), iO 29 (.extract 26 0), iO 30 (.extract 26 1), iO 5 (.alloc 256 [.bool false, .bool false, .bool false, .bool false, .bool false, .bool false, .bool false, .bool false, .bool false, .bool false, .bool false, .bool false, .bool false, .bool false, .bool false, .bool false, .bool false, .bool false, .bool false, .bool false, .bool false, .bool false, .bool false, .bool false, .bool false, .bool false, .bool false, .bool false, .bool false, .bool false, .bool false, .bool false, .bool false, .bool false, .bool false, .bool false, .bool false, .bool false, .bool false, .bool false, .bool false, .bool false, .bool false, .bool false, .bool false, .bool false, .bool false, .bool false, .bool false, .bool false, .bool false, .bool false, .bool false, .bool false, .bool false, .bool false, .bool false, .bool false, .bool false, .bool false, .bool false, .bool false, .bool false, .bool false, .bool false, .bool false, .bool false, .bool false, .bool false, .bool false, .bool false, .bool false, .bool false, .bool false, .bool false, .bool false, .bool false, .bool false, .bool false, .bool false, .bool false, .bool false, .bool false, .bool false, .bool false, .bool false, .bool false, .bool false, .bool false, .bool false, .bool false, .bool false, .bool false, .bool false, .bool false, .bool false, .bool false, .bool false, .bool false, .bool false, .bool false, .bool false, .bool false, .bool false, .bool false, .bool false, .bool false, .bool false, .bool false, .bool false, .bool false, .bool false, .bool false, .bool false, .bool false, .bool false, .bool false, .bool false, .bool false, .bool false, .bool false, .bool false, .bool false, .bool false, .bool false, .bool false, .bool false, .bool false, .bool false, .bool false, .bool false, .bool false, .bool false, .bool false, .bool false, .bool false, .bool false, .bool false, .bool false, .bool false, .bool false, .bool false, .bool false, .bool false, .bool false, .bool false, .bool false, .bool false, .bool false, .bool false, .bool false, .bool false, .bool false, .bool false, .bool false, .bool false, .bool false, .bool false, .bool false, .bool false, .bool false, .bool false, .bool false, .bool false, .bool false, .bool false, .bool false, .bool false, .bool false, .bool false, .bool false, .bool false, .bool false, .bool false, .bool false, .bool false, .bool false, .bool false, .bool false, .bool false, .bool false, .bool false, .bool false, .bool false, .bool false, .bool false, .bool false, .bool false, .bool false, .bool false, .bool false, .bool false, .bool false, .bool false, .bool false, .bool false, .bool false, .bool false, .bool false, .bool false, .bool false, .bool false, .bool false, .bool false, .bool false, .bool false, .bool false, .bool false, .bool false, .bool false, .bool false, .bool false, .bool false, .bool false, .bool false, .bool false, .bool false, .bool false, .bool false, .bool false, .bool false, .bool false, .bool false, .bool false, .bool false, .bool false, .bool false, .bool false, .bool false, .bool false, .bool false, .bool false, .bool false, .bool false, .bool false, .bool false, .bool false, .bool false, .bool false, .bool false, .bool false, .bool false, .bool false, .bool false, .bool false, .bool false, .bool false, .bool false, .bool false, .bool false, .bool false, .bool false, .bool false, .bool false, .bool false, .bool false]), iZ (.store true 256 5 29), iO 6 (.mv 30)])
 (.seq (.ops [iO 31 (.mv 6)])
 (.cond 31
 (.seq (.ops [iO 32 (.mv 0), iC 33 66 [32, 5], iO 4 (.mv 33)])
 (.ret))
 (.skip))))
 (.seq (.ops [iO 34 (.mv 0), iO 35 (.mv 1), iC 36 67 [34, 35], iO 4 (.mv 36)])
 (.ret)))))
def f32 (G : Nat → AVal) : AFn := ⟨37, [.tmp 4], f32m G⟩
theorem f32_c (G : Nat → AVal) : cmpFn Tryz.prog G [] 32 = some (f32 G) := by kernel_rfl
def f33m (G : Nat → AVal) : MC :=
 .seq (.ops [iO 2 (.alloc 4 [.int 0, .str [], .int 0, .int 0]), iO 3 (.mv (aI 0)), iO 4 (.mv (aI 0))])
 (.seq (.ops [iO 5 (.mv (aI 1))])
 (.seq (.seq (.ops [iO 6 (.mv 0), iO 7 (.lenStr 6), iO 8 (.bin .gtr .int 7 (aI 1)), iO 9 (.mv 8), iG 10 9 true (.bslice false 1 4 [.str []] [(0, (aS [60, 62])), (1, (aS [60, 61])), (2, (aS [62, 61])), (3, (aS [124, 124]))]), iG 11 9 true (.mv 0), iG 12 9 true (.sslc 11 none (some (aI 2))), ⟨some 13, some (9, true), .call 68 [10, 12]⟩, iO 14 (.pick 9 13 (.val (.bool false)))])
 (.cond 14
 (.ops [iO 5 (.mv (aI 2))])
 (.seq (.ops [iO 15 (.mv 0), iO 16 (.idxS 15 (aI 0)), iC 17 69 [(aS [40, 41, 44, 46, 42, 43, 45, 47, 37, 61, 60, 62]), 16], iO 18 (.bin .lss .int 17 (aI 0))])
 (.cond 18
 (.seq (.ops [iO 19 (.build [.int 0, .str [], .int 0, .int 0] []), iZ (.store true 4 2 19), iO 3 (.mv (aI 0)), iO 4 (.mv (aI 120))])
 (.ret))
 (.skip)))))
 (.seq (.ops [iO 20 (.mv 0), iO 21 (.mv 5), iO 22 (.sslc 20 none (some 21)), iO 23 (.build [.int 0, .str [], .int 0, .int 0] [(false, 0, 1, (aI 5)), (false, 1, 1, 22)]), iO 24 (.mv 5), iZ (.store true 4 2 23), iO 3 (.mv 24), iO 4 (.mv (aI 0))])
 (.ret))))
def f33 (G : Nat → AVal) : AFn := ⟨25, [.cell 2 true 4, .tmp 3, .tmp 4], f33m G⟩
theorem f33_c (G : Nat → AVal) : cmpFn Tryz.prog G [] 33 = some (f33 G) := by kernel_rfl
def f34m (G : Nat → AVal) : MC :=
 .seq (.ops [iO 2 (.mv (.val (.bool false)))])
 (.seq (.ops [iO 3 (.mv 0), iO 4 (.bin .geq .int 3 (.val (.atom (.int .u8 97)))), iO 5 (.mv 4), iG 6 5 true (.mv 0), iG 7 5 true (.bin .leq .int 6 (.val (.atom (.int .u8 122)))), iO 8 (.pick 5 7 (.val (.bool false))), iO 9 (.mv 8), iG 10 9 false (.mv 0), iG 11 9 false (.bin .geq .int 10 (.val (.atom (.int .u8 65)))), iG 12 9 false (.mv 11), iG 13 12 true (.mv 0), iG 14 12 true (.bin .leq .int 13 (.val (.atom (.int .u8 90)))), iG 15 9 false (.pick 12 14 (.val (.bool false))), iO 16 (.pick 9 (.val (.bool true)) 15), iO 17 (.mv 16), iG 18 17 false (.mv 0), iG 19 17 false (.bin .eql .int 18 (.val (.atom (.int .u8 95)))), iO 20 (.pick 17 (.val (.bool true)) 19), iO 2 (.mv 20)])
 (.ret))
def f34 (G : Nat → AVal) : AFn := ⟨21, [.tmp 2], f34m G⟩
theorem f34_c (G : Nat → AVal) : cmpFn Tryz.prog G [] 34 = some (f34 G) := by kernel_rfl
def f35m (G : Nat → AVal) : MC :=
 .seq (.ops [iO 2 (.alloc 4 [.int 0, .str [], .int 0, .int 0]), iO 3 (.mv (aI 0)), iO 4 (.mv (aI 0))])
 (.seq (.ops [iO 6 (.mv 0), iC 7 70 [6, (.val (.clo (.func 71) [] []))], iO 5 (.mv 7)])
 (.seq (.seq (.ops [iO 8 (.mv 5), iO 9 (.bin .gtr .int 8 (aI 32))])
 (.cond 9
 (.seq (.ops [iO 10 (.build [.int 0, .str [], .int 0, .int 0] []), iZ (.store true 4 2 10), iO 3 (.mv (aI 0)), iO 4 (.mv (aI 122))])
 (.ret))
 (.skip)))
 (.seq (.ops [iO 11 (.mv 0), iO 12 (.mv 5), iO 13 (.sslc 11 none (some 12)), iC 14 72 [13], iO 15 (.build [.int 0, .str [], .int 0, .int 0] [(false, 0, 1, (aI 1)), (false, 1, 1, 14)]), iO 16 (.mv 5), iZ (.store true 4 2 15), iO 3 (.mv 16), iO 4 (.mv (aI 0))])
 (.ret))))
def f35 (G : Nat → AVal) : AFn := ⟨17, [.cell 2 true 4, .tmp 3, .tmp 4], f35m G⟩
theorem f35_c (G : Nat → AVal) : cmpFn Tryz.prog G [] 35 = some (f35 G) := by kernel_rfl
def f36m (G : Nat → AVal) : MC :=
 .seq (.ops [iO 2 (.mv (.val (.bool false)))])
 (.seq (.ops [iO 3 (.mv 0), iO 4 (.bin .geq .int 3 (.val (.atom (.int .u8 48)))), iO 5 (.mv 4), iG 6 5 true (.mv 0), iG 7 5 true (.bin .leq .int 6 (.val (.atom (.int .u8 57)))), iO 8 (.pick 5 7 (.val (.bool false))), iO 2 (.mv 8)])
 (.ret))
def f36 (G : Nat → AVal) : AFn := ⟨9, [.tmp 2], f36m G⟩
theorem f36_c (G : Nat → AVal) : cmpFn Tryz.prog G [] 36 = some (f36 G) := by kernel_rfl
def f37m (G : Nat → AVal) : MC :=
 .seq (.ops [iO 2 (.alloc 4 [.int 0, .str [], .int 0, .int 0]), iO 3 (.mv (aI 0)), iO 4 (.mv (aI 0))])
 (.seq (.ops [iO 12 (.mv 0), iC 13 70 [12, (.val (.clo (.func 36) [] []))], iO 5 (.mv 13)])
 (.seq (.ops [iO 6 (.mv (aI 0))])
 (.seq (.seq (.ops [iO 14 (.mv 0), iO 15 (.mv 5), iO 16 (.sslc 14 (some 15) none), iO 7 (.mv 16)])
 (.seq (.ops [iO 17 (.mv 7), iC 18 73 [17, (aS [46])]])
 (.cond 18
 (.ops [iO 19 (.mv 7), iO 20 (.sslc 19 (some (aI 1)) none), iC 21 70 [20, (.val (.clo (.func 36) [] []))], iO 6 (.mv 21)])
 (.skip))))
 (.seq (.seq (.ops [iO 22 (.mv 6), iO 23 (.bin .eql .int 22 (aI 0))])
 (.cond 23
 (.seq (.ops [iO 25 (.mv 0), iO 26 (.mv 5), iO 27 (.sslc 25 none (some 26)), iC 28 74 [27], iO 24 (.mv 28), iO 29 (.extract 24 0), iO 30 (.extract 24 1), iO 8 (.mv 29), iO 9 (.mv 30)])
 (.seq (.seq (.ops [iO 31 (.mv 5), iO 32 (.bin .gtr .int 31 (aI 19)), iO 33 (.mv 32), iG 34 33 false (.mv 9), iG 35 33 false (.un .not 34), iO 36 (.pick 33 (.val (.bool true)) 35)])
 (.cond 36
 (.seq (.ops [iO 37 (.build [.int 0, .str [], .int 0, .int 0] []), iZ (.store true 4 2 37), iO 3 (.mv (aI 0)), iO 4 (.mv (aI 11))])
 (.ret))
 (.skip)))
 (.seq (.ops [iO 38 (.mv 8), iO 39 (.build [.int 0, .str [], .int 0, .int 0] [(false, 0, 1, (aI 2)), (false, 2, 1, 38)]), iO 40 (.mv 5), iZ (.store true 4 2 39), iO 3 (.mv 40), iO 4 (.mv (aI 0))])
 (.ret))))
 (.skip)))
 (.seq (.seq (.ops [iO 41 (.mv 5), iO 42 (.mv 6), iO 43 (.bin .add .int 41 42), iO 44 (.bin .gtr .int 43 (aI 15))])
 (.cond 44
 (.seq (.ops [iO 45 (.build [.int 0, .str [], .int 0, .int 0] []), iZ (.store true 4 2 45), iO 3 (.mv (aI 0)), iO 4 (.mv (aI 11))])
 (.ret))
 (.skip)))
 (.seq (.draw (.rd [⟨0, iO 47 (.mv 0), false, false⟩, ⟨1, iO 48 (.mv 5), false, false⟩, ⟨2, iO 49 (.sslc 47 none (some 48)), false, false⟩, ⟨3, iO 50 (.mv 0), false, false⟩, ⟨4, iO 51 (.mv 5), false, false⟩, ⟨5, iO 52 (.bin .add .int 51 (aI 1)), false, false⟩, ⟨6, iO 53 (.mv 5), false, false⟩, ⟨7, iO 54 (.bin .add .int 53 (aI 1)), false, false⟩, ⟨8, iO 55 (.mv 6), false, false⟩, ⟨9, iO 56 (.bin .add .int 54 55), false, false⟩, ⟨10, iO 57 (.sslc 50 (some 52) (some 56)), false, false⟩, ⟨11, iO 58 (.bin .add .int 49 57), false, false⟩]
 (.ef ⟨12, iC 59 74 [58], true, false⟩ []
 (.rd [⟨13, iO 46 (.mv 59), false, false⟩, ⟨14, iO 60 (.extract 46 0), false, false⟩, ⟨15, iO 61 (.extract 46 1), false, false⟩, ⟨16, iO 10 (.mv 60), false, false⟩, ⟨17, iO 11 (.mv 61), false, false⟩]
 (.nil)))))
 (.seq (.ops [iO 62 (.mv 10), iO 63 (.mv 6), iO 64 (.build [.int 0, .str [], .int 0, .int 0] [(false, 0, 1, (aI 3)), (false, 2, 1, 62), (false, 3, 1, 63)]), iO 65 (.mv 5), iO 66 (.bin .add .int 65 (aI 1)), iO 67 (.mv 6), iO 68 (.bin .add .int 66 67), iZ (.store true 4 2 64), iO 3 (.mv 68), iO 4 (.mv (aI 0))])
 (.ret))))))))
def f37 (G : Nat → AVal) : AFn := ⟨69, [.cell 2 true 4, .tmp 3, .tmp 4], f37m G⟩
theorem f37_c (G : Nat → AVal) : cmpFn Tryz.prog G [] 37 = some (f37 G) := by kernel_rfl
def f38b0 (G : Nat → AVal) : MC :=
 .block 1
 (.seq (.ops [iO 8 (.mv 0), iO 9 (.mv 6), iO 10 (.sslc 8 (some 9) none), iC 11 69 [10, (.val (.atom (.int .u8 39)))], iO 7 (.mv 11)])
 (.seq (.seq (.ops [iO 12 (.mv 7), iO 13 (.bin .lss .int 12 (aI 0))])
 (.cond 13
 (.seq (.ops [iO 14 (.build [.int 0, .str [], .int 0, .int 0] []), iZ (.store true 4 2 14), iO 3 (.mv (aI 0)), iO 4 (.mv (aI 121))])
 (.ret))
 (.skip)))
 (.seq (.ops [iO 15 (.mv 5), iO 16 (.mv 0), iO 17 (.mv 6), iO 18 (.mv 6), iO 19 (.mv 7), iO 20 (.bin .add .int 18 19), iO 21 (.sslc 16 (some 17) (some 20)), iO 22 (.bin .add .int 15 21), iO 5 (.mv 22)])
 (.seq (.ops [iO 23 (.mv 6), iO 24 (.mv 7), iO 25 (.bin .add .int 24 (aI 1)), iO 26 (.bin .add .int 23 25), iO 6 (.mv 26)])
 (.seq (.seq (.ops [iO 27 (.mv 0), iO 28 (.mv 6), iO 29 (.sslc 27 (some 28) none), iC 30 73 [29, (aS [39])], iO 31 (.un .not 30)])
 (.cond 31
 (.seq (.seq (.ops [iO 32 (.mv 5), iO 33 (.lenStr 32), iO 34 (.bin .gtr .int 33 (aI 200))])
 (.cond 34
 (.seq (.ops [iO 35 (.build [.int 0, .str [], .int 0, .int 0] []), iZ (.store true 4 2 35), iO 3 (.mv (aI 0)), iO 4 (.mv (aI 1))])
 (.ret))
 (.skip)))
 (.seq (.ops [iO 36 (.mv 5), iO 37 (.build [.int 0, .str [], .int 0, .int 0] [(false, 0, 1, (aI 4)), (false, 1, 1, 36)]), iO 38 (.mv 6), iZ (.store true 4 2 37), iO 3 (.mv 38), iO 4 (.mv (aI 0))])
 (.ret)))
 (.skip)))
 (.seq (.ops [iO 39 (.mv 5), iO 40 (.bin .add .int 39 (aS [39])), iO 5 (.mv 40)])
 (.ops [iO 41 (.mv 6), iO 42 (.bin .add .int 41 (aI 1)), iO 6 (.mv 42)])))))))
def f38m (G : Nat → AVal) : MC :=
 .seq (.ops [iO 2 (.alloc 4 [.int 0, .str [], .int 0, .int 0]), iO 3 (.mv (aI 0)), iO 4 (.mv (aI 0))])
 (.seq (.ops [iO 5 (.mv (aS []))])
 (.seq (.ops [iO 6 (.mv (aI 1))])
 (.block 0
 (.loop (f38b0 G)))))
def f38 (G : Nat → AVal) : AFn := ⟨43, [.cell 2 true 4, .tmp 3, .tmp 4], f38m G⟩
theorem f38_c (G : Nat → AVal) : cmpFn Tryz.prog G [] 38 = some (f38 G) := by kernel_rfl
def f70m (G : Nat → AVal) : MC :=
 .seq (.ops [iO 3 (.box false 1 1), iO 4 (.mv (aI 0))])
 (.seq (.seq (.ops [iO 6 (.mv 0), iO 7 (.conv .strBytes 6), iO 8 (.mkfn (.func 99) [] [3]), iC 9 98 [7, 8], iO 5 (.mv 9)])
 (.seq (.ops [iO 10 (.mv 5), iO 11 (.bin .geq .int 10 (aI 0))])
 (.cond 11
 (.seq (.ops [iO 12 (.mv 5), iO 4 (.mv 12)])
 (.ret))
 (.skip))))
 (.seq (.ops [iO 13 (.mv 0), iO 14 (.lenStr 13), iO 4 (.mv 14)])
 (.ret)))
def f70 (G : Nat → AVal) : AFn := ⟨15, [.tmp 4], f70m G⟩
theorem f70_c (G : Nat → AVal) : cmpFn Tryz.prog G [] 70 = some (f70 G) := by kernel_rfl
def f71m (G : Nat → AVal) : MC :=
 .seq (.ops [iO 2 (.mv (.val (.bool false)))])
 (.seq (.ops [iO 3 (.mv 0), iC 4 34 [3], iO 5 (.mv 4), iG 6 5 false (.mv 0), ⟨some 7, some (5, false), .call 36 [6]⟩, iO 8 (.pick 5 (.val (.bool true)) 7), iO 2 (.mv 8)])
 (.ret))
def f71 (G : Nat → AVal) : AFn := ⟨9, [.tmp 2], f71m G⟩
theorem f71_c (G : Nat → AVal) : cmpFn Tryz.prog G [] 71 = some (f71 G) := by kernel_rfl
def f64b0 (G : Nat → AVal) : MC :=
 .seq (.seq (.ops [iO 5 (.mv 0), iO 6 (.lenStr 5), iO 7 (.bin .gtr .int 6 (aI 0)), iO 8 (.mv 7), iG 9 8 true (.mv 0), iG 10 8 true (.idxS 9 (aI 0)), iG 11 8 true (.mv 1), iG 12 8 true (.bin .eql .int 10 11), iO 13 (.pick 8 12 (.val (.bool false)))])
 (.cond 13
 (.skip)
 (.exit 0)))
 (.block 1
 (.ops [iO 14 (.mv 0), iO 15 (.sslc 14 (some (aI 1)) none), iO 0 (.mv 15)]))
def f64m (G : Nat → AVal) : MC :=
 .seq (.ops [iO 4 (.mv (aS []))])
 (.seq (.block 0
 (.loop (f64b0 G)))
 (.seq (.ops [iO 16 (.mv 0), iO 4 (.mv 16)])
 (.ret)))
def f64 (G : Nat → AVal) : AFn := ⟨17, [.tmp 4], f64m G⟩
theorem f64_c (G : Nat → AVal) : cmpFn Tryz.prog G [] 64 = some (f64 G) := by kernel_rfl
def f65b0 (G : Nat → AVal) : MC :=
 .seq (.seq (.ops [iO 6 (.mv 4), iO 7 (.mv 0), iO 8 (.lenStr 7), iO 9 (.bin .lss .int 6 8)])
 (.cond 9
 (.skip)
 (.exit 0)))
 (.seq (.block 1
 (.seq (.ops [iO 12 (.mv 0), iO 13 (.mv 4), iO 14 (.idxS 12 13), iO 5 (.mv 14)])
 (.seq (.seq (.ops [iO 15 (.mv 5), iO 16 (.bin .geq .int 15 (.val (.atom (.int .u8 128))))])
 (.cond 16
 (.seq (.ops [iO 17 (.load true 256 2), iZ (.store true 256 2 17), iO 3 (.mv (.val (.bool false)))])
 (.ret))
 (.skip)))
 (.ops [iO 18 (.mv 5), iO 19 (.iaddrA 256 1 2 18), iZ (.store false 1 19 (.val (.bool true)))]))))
 (.ops [iO 10 (.mv 4), iO 11 (.bin .add .int 10 (aI 1)), iO 4 (.mv 11)]))
def f65m (G : Nat → AVal) : MC :=
 .seq (.ops [iO 2 (.alloc 256 [.bool false, .bool false, .bool false, .bool false, .bool false, .bool false, .bool false, .bool false, .bool false, .bool false, .bool false, .bool false, .bool false, .bool false, .bool false, .bool false, .bool false, .bool false, .bool false, .bool false, .bool false, .bool false, .bool false, .bool false, .bool false, .bool false, .bool false, .bool false, .bool false, .bool false, .bool false, .bool false, .bool false, .bool false, .bool false, .bool false, .bool false, .bool false, .bool false, .bool false, .bool false, .bool false, .bool false, .bool false, .bool false, .bool false, .bool false, .bool false, .bool false, .bool false, .bool false, .bool false, .bool false, .bool false, .bool false, .bool false, .bool false, .bool false, .bool false, .bool false, .bool false, .bool false, .bool false, .bool false, .bool false, .bool false, .bool false, .bool false, .bool false, .bool false, .bool false, .bool false, .bool false, .bool false, .bool false, .bool false, .bool false, .bool false, .bool false, .bool false, .bool false, .bool false, .bool false, .bool false, .bool false, .bool false, .bool false, .bool false, .bool false, .bool false, .bool false, .bool false, .bool false, .bool false, .bool false, .bool false, .bool false, .bool false, .bool false, .bool false, .bool false, .bool false, .bool false, .bool false, .bool false, .bool false, .bool false, .bool false, .bool false, .bool false, .bool false, .bool false, .bool false, .bool false, .bool false, .bool false, .bool false, .bool false, .bool false, .bool false, .bool false, .bool false, .bool false, .bool false, .bool false, .bool false, .bool false, .bool false, .bool false, .bool false, .bool false, .bool false, .bool false, .bool false, .bool false, .bool false, .bool false, .bool false, .bool false, .bool false, .bool false, .bool false, .bool false, .bool false, .bool false, .bool false, .bool false, .bool false, .bool false, .bool false, .bool false, .bool false, .bool false, .bool false, .bool false, .bool false, .bool false, .bool false, .bool false, .bool false, .bool false, .bool false, .bool false, .bool false, .bool false, .bool false, .bool false, .bool false, .bool false, .bool false, .bool false, .bool false, .bool false, .bool false, .bool false, .bool false, .bool false, .bool false, .bool false, .bool false, .bool false, .bool false, .bool false, .bool false, .bool false, .bool false, .bool false, .bool false, .bool false, .bool false, .bool false, .bool false, .bool false, .bool false, .bool false, .bool false, .bool false, .bool false, .bool false, .bool false, .bool false, .bool false, .bool false, .bool false, .bool false, .bool false, .bool false, .bool false, .bool false, .bool false, .bool false, .bool false, .bool false, .bool false, .bool false, .bool false, .bool false, .bool false, .bool false, .bool false, .bool false, .bool false, .bool false, .bool false, .bool false, .bool false, .bool false, .bool false, .bool false, .bool false, .bool false, .bool false, .bool false, .bool false, .bool false, .bool false, .bool false, .bool false, .bool false, .bool false, .bool false, .bool false, .bool false, .bool false, .bool false, .bool false, .bool false, .bool false, .bool false, .bool false, .bool false, .bool false, .bool false, .bool false, .bool false, .bool false]), iO 3 (.mv (.val (.bool false)))])
 (.seq (.seq (.ops [iO 4 (.mv (aI 0))])
 (.block 0
 (.loop (f65b0 G))))
 (.seq (.ops [iO 20 (.load true 256 2), iZ (.store true 256 2 20), iO 3 (.mv (.val (.bool true)))])
 (.ret)))
def f65 (G : Nat → AVal) : AFn := ⟨21, [.cell 2 true 256, .tmp 3], f65m G⟩
theorem f65_c (G : Nat → AVal) : cmpFn Tryz.prog G [] 65 = some (f65 G) := by kernel_rfl
def f66b0 (G : Nat → AVal) : MC :=
 .seq (.seq (.ops [iO 5 (.mv 0), iO 6 (.lenStr 5), iO 7 (.bin .gtr .int 6 (aI 0))])
 (.cond 7
 (.skip)
 (.exit 0)))
 (.block 1
 (.seq (.seq (.ops [iO 8 (.mv 1), iO 9 (.mv 0), iO 10 (.idxS 9 (aI 0)), iC 11 93 [8, 10], iO 12 (.un .not 11)])
 (.cond 12
 (.exit 0)
 (.skip)))
 (.ops [iO 13 (.mv 0), iO 14 (.sslc 13 (some (aI 1)) none), iO 0 (.mv 14)])))
def f66m (G : Nat → AVal) : MC :=
 .seq (.ops [iO 4 (.mv (aS []))])
 (.seq (.block 0
 (.loop (f66b0 G)))
 (.seq (.ops [iO 15 (.mv 0), iO 4 (.mv 15)])
 (.ret)))
def f66 (G : Nat → AVal) : AFn := ⟨16, [.tmp 4], f66m G⟩
theorem f66_c (G : Nat → AVal) : cmpFn Tryz.prog G [] 66 = some (f66 G) := by kernel_rfl
def f68m (G : Nat → AVal) : MC :=
 .seq (.ops [iO 4 (.mv (.val (.bool false)))])
 (.seq (.ops [iO 5 (.mv 0), iO 6 (.mv 1), iC 7 96 [5, 6], iO 8 (.bin .geq .int 7 (aI 0)), iO 4 (.mv 8)])
 (.ret))
def f68 (G : Nat → AVal) : AFn := ⟨9, [.tmp 4], f68m G⟩
theorem f68_c (G : Nat → AVal) : cmpFn Tryz.prog G [] 68 = some (f68 G) := by kernel_rfl
def f73m (G : Nat → AVal) : MC :=
 .seq (.ops [iO 4 (.mv (.val (.bool false)))])
 (.seq (.ops [iO 5 (.mv 0), iO 6 (.mv 1), iC 7 106 [5, 6], iO 4 (.mv 7)])
 (.ret))
def f73 (G : Nat → AVal) : AFn := ⟨8, [.tmp 4], f73m G⟩
theorem f73_c (G : Nat → AVal) : cmpFn Tryz.prog G [] 73 = some (f73 G) := by kernel_rfl
def f74b0 (G : Nat → AVal) : MC :=
 .seq (.ops [iO 12 (.bin .lss .int 11 10)])
 (.seq (.cond 12
 (.skip)
 (.exit 0))
 (.seq (.block 1
 (.seq (.ops [iO 13 (.iaddr 1 9 11), iO 14 (.load false 1 13), iO 6 (.mv 14)])
 (.seq (.ops [iO 15 (.mv 6), iO 16 (.bin .sub .int 15 (.val (.atom (.int .u8 48)))), iO 17 (.conv (.toInt .i64) 16), iO 7 (.mv 17)])
 (.seq (.seq (.ops [iO 18 (.mv 4), iO 19 (.mv 7), iO 20 (.bin .sub .int (aI 9223372036854775807) 19), iO 21 (.bin .quo .int 20 (aI 10)), iO 22 (.bin .gtr .int 18 21)])
 (.cond 22
 (.seq (.ops [iO 2 (.mv (aI 0)), iO 3 (.mv (.val (.bool false)))])
 (.ret))
 (.skip)))
 (.ops [iO 23 (.mv 4), iO 24 (.bin .mul .int 23 (aI 10)), iO 25 (.mv 7), iO 26 (.bin .add .int 24 25), iO 4 (.mv 26)])))))
 (.ops [iO 27 (.bin .add .int 11 (aI 1)), iO 11 (.mv 27)])))
def f74m (G : Nat → AVal) : MC :=
 .seq (.ops [iO 2 (.mv (aI 0)), iO 3 (.mv (.val (.bool false)))])
 (.seq (.ops [iO 4 (.mv (aI 0))])
 (.seq (.seq (.ops [iO 8 (.mv 0), iO 9 (.conv .strBytes 8), iO 10 (.lenS 9), iO 11 (.mv (aI 0))])
 (.block 0
 (.loop (f74b0 G))))
 (.seq (.ops [iO 28 (.mv 4), iO 2 (.mv 28), iO 3 (.mv (.val (.bool true)))])
 (.ret))))
def f74 (G : Nat → AVal) : AFn := ⟨29, [.tmp 2, .tmp 3], f74m G⟩
theorem f74_c (G : Nat → AVal) : cmpFn Tryz.prog G [] 74 = some (f74 G) := by kernel_rfl
def f98b0 (G : Nat → AVal) : MC :=
 .seq (.ops [iO 9 (.bin .lss .int 8 7)])
 (.seq (.cond 9
 (.skip)
 (.exit 0))
 (.seq (.block 1
 (.seq (.ops [iO 10 (.mv 8), iO 5 (.mv 10)])
 (.seq (.ops [iO 11 (.mv 1), iO 12 (.mv 0), iO 13 (.mv 5), iO 14 (.iaddr 1 12 13), iO 15 (.load false 1 14), ⟨some 16, none, .callV 11 [15]⟩])
 (.cond 16
 (.seq (.ops [iO 17 (.mv 5), iO 4 (.mv 17)])
 (.ret))
 (.skip)))))
 (.ops [iO 18 (.bin .add .int 8 (aI 1)), iO 8 (.mv 18)])))
def f98m (G : Nat → AVal) : MC :=
 .seq (.ops [iO 4 (.mv (aI 0))])
 (.seq (.seq (.ops [iO 6 (.mv 0), iO 7 (.lenS 6), iO 8 (.mv (aI 0))])
 (.block 0
 (.loop (f98b0 G))))
 (.seq (.ops [iO 4 (.mv (aI (-1)))])
 (.ret)))
def f98 (G : Nat → AVal) : AFn := ⟨19, [.tmp 4], f98m G⟩
theorem f98_c (G : Nat → AVal) : cmpFn Tryz.prog G [] 98 = some (f98 G) := by kernel_rfl
def f99m (G : Nat → AVal) : MC :=
 .seq (.ops [iO 3 (.mv (.val (.bool false)))])
 (.seq (.ops [iO 4 (.load false 1 1), iO 5 (.mv 0), ⟨some 6, none, .callV 4 [5]⟩, iO 7 (.un .not 6), iO 3 (.mv 7)])
 (.ret))
def f99 (G : Nat → AVal) : AFn := ⟨8, [.tmp 3], f99m G⟩
theorem f99_c (G : Nat → AVal) : cmpFn Tryz.prog G [] 99 = some (f99 G) := by kernel_rfl
def f96b0 (G : Nat → AVal) : MC :=
 .seq (.ops [iO 9 (.bin .lss .int 8 7)])
 (.seq (.cond 9
 (.skip)
 (.exit 0))
 (.seq (.block 1
 (.seq (.ops [iO 10 (.mv 8), iO 5 (.mv 10)])
 (.seq (.ops [iO 11 (.mv 1), iO 12 (.mv 0), iO 13 (.mv 5), iO 14 (.iaddr 1 12 13), iO 15 (.load false 1 14), iO 16 (.bin .eql .str 11 15)])
 (.cond 16
 (.seq (.ops [iO 17 (.mv 5), iO 4 (.mv 17)])
 (.ret))
 (.skip)))))
 (.ops [iO 18 (.bin .add .int 8 (aI 1)), iO 8 (.mv 18)])))
def f96m (G : Nat → AVal) : MC :=
 .seq (.ops [iO 4 (.mv (aI 0))])
 (.seq (.seq (.ops [iO 6 (.mv 0), iO 7 (.lenS 6), iO 8 (.mv (aI 0))])
 (.block 0
 (.loop (f96b0 G))))
 (.seq (.ops [iO 4 (.mv (aI (-1)))])
 (.ret)))
def f96 (G : Nat → AVal) : AFn := ⟨19, [.tmp 4], f96m G⟩
theorem f96_c (G : Nat → AVal) : cmpFn Tryz.prog G [] 96 = some (f96 G) := by kernel_rfl
def f93m (G : Nat → AVal) : MC :=
 .seq (.ops [iO 4 (.mv (.val (.bool false)))])
 (.seq (.ops [iO 5 (.mv 0), iO 6 (.mv 1), iO 7 (.nilck 5), iO 8 (.iaddrA 256 1 7 6), iO 9 (.load false 1 8), iO 4 (.mv 9)])
 (.ret))
def f93 (G : Nat → AVal) : AFn := ⟨10, [.tmp 4], f93m G⟩
theorem f93_c (G : Nat → AVal) : cmpFn Tryz.prog G [] 93 = some (f93 G) := by kernel_rfl
def f106m (G : Nat → AVal) : MC :=
 .seq (.ops [iO 4 (.mv (.val (.bool false)))])
 (.seq (.ops [iO 5 (.mv 0), iO 6 (.lenStr 5), iO 7 (.mv 1), iO 8 (.lenStr 7), iO 9 (.bin .geq .int 6 8), iO 10 (.mv 9), iG 11 10 true (.mv 0), iG 12 10 true (.mv 1), iG 13 10 true (.lenStr 12), iG 14 10 true (.sslc 11 none (some 13)), iG 15 10 true (.mv 1), iG 16 10 true (.bin .eql .str 14 15), iO 17 (.pick 10 16 (.val (.bool false))), iO 4 (.mv 17)])
 (.ret))
def f106 (G : Nat → AVal) : AFn := ⟨18, [.tmp 4], f106m G⟩
theorem f106_c (G : Nat → AVal) : cmpFn Tryz.prog G [] 106 = some (f106 G) := by kernel_rfl
end Go.Abs
set_option linter.unusedVariables false
namespace Go.Abs
open Go Go.RowKit Go.Proofs
def f12b0 (G : Nat → AVal) : MC :=
 .seq (.seq (.ops [iO 17 (.mv 6), iO 18 (.mv 0), iO 19 (.lenStr 18), iO 20 (.bin .lss .int 17 19)])
 (.cond 20
 (.skip)
 (.exit 0)))
 (.block 1
 (.seq (.ops [iO 21 (.mv 0), iO 22 (.mv 6), iO 23 (.idxS 21 22), iO 7 (.mv 23)])
 (.seq (.seq (.ops [iO 24 (.mv 7), iO 25 (.bin .eql .int 24 (.val (.atom (.int .u8 32)))), iO 26 (.mv 25), iG 27 26 false (.mv 7), iG 28 26 false (.bin .eql .int 27 (.val (.atom (.int .u8 9)))), iO 29 (.pick 26 (.val (.bool true)) 28), iO 30 (.mv 29), iG 31 30 false (.mv 7), iG 32 30 false (.bin .eql .int 31 (.val (.atom (.int .u8 10)))), iO 33 (.pick 30 (.val (.bool true)) 32), iO 34 (.mv 33), iG 35 34 false (.mv 7), iG 36 34 false (.bin .eql .int 35 (.val (.atom (.int .u8 13)))), iO 37 (.pick 34 (.val (.bool true)) 36)])
 (.cond 37
 (.seq (.ops [iO 38 (.mv 6), iO 39 (.bin .add .int 38 (aI 1)), iO 6 (.mv 39)])
 (.exit 1))
 (.skip)))
 (.seq (.ops [iO 41 (.mv 0), iO 42 (.mv 6), iC 43 27 [41, 42], iO 40 (.mv 43), iO 44 (.extract 40 0), iO 45 (.extract 40 1), iO 46 (.extract 40 2), iO 8 (.alloc 4 [.int 0, .str [], .int 0, .int 0]), iZ (.store true 4 8 44), iO 9 (.mv 45), iO 10 (.mv 46)])
 (.seq (.seq (.ops [iO 47 (.mv 10), iO 48 (.bin .neq .int 47 (aI 0))])
 (.cond 48
 (.seq (.ops [iO 49 (.mv 4), iO 50 (.mv 10), iO 2 (.mv 49), iO 3 (.mv 50)])
 (.ret))
 (.skip)))
 (.seq (.ops [iO 51 (.mv 5), iO 52 (.load true 4 8), iO 53 (.bslice true 4 1 [.int 0, .str [], .int 0, .int 0] [(0, 52)]), iO 54 (.append 4 40 51 53), iO 5 (.mv 54)])
 (.ops [iO 55 (.mv 9), iO 6 (.mv 55)])))))))
def f12m (G : Nat → AVal) : MC :=
 .seq (.ops [iO 2 (.mv (.val .nilS)), iO 3 (.mv (aI 0))])
 (.seq (.ops [iO 11 (.bslice true 4 0 [.int 0, .str [], .int 0, .int 0] []), iO 12 (.bslice true 4 0 [.int 0, .str [], .int 0, .int 0] []), iO 4 (.mv 11), iO 5 (.mv 12)])
 (.seq (.seq (.ops [iO 13 (.mv 0), iO 14 (.lenStr 13), iO 15 (.bin .gtr .int 14 (aI 4000))])
 (.cond 15
 (.seq (.ops [iO 16 (.mv 4), iO 2 (.mv 16), iO 3 (.mv (aI 1))])
 (.ret))
 (.skip)))
 (.seq (.ops [iO 6 (.mv (aI 0))])
 (.seq (.block 0
 (.loop (f12b0 G)))
 (.seq (.ops [iO 56 (.mv 5), iO 2 (.mv 56), iO 3 (.mv (aI 0))])
 (.ret))))))
def f12 (G : Nat → AVal) : AFn := ⟨57, [.tmp 2, .tmp 3], f12m G⟩
def f63b0 (G : Nat → AVal) : MC :=
 .seq (.seq (.ops [iO 6 (.mv 4), iO 7 (.bin .lss .int 6 (aI 37))])
 (.cond 7
 (.skip)
 (.exit 0)))
 (.seq (.block 1
 (.seq (.ops [iO 10 (.mv 4), iO 11 (.iaddrA 37 1 3 10), iO 12 (.load false 1 11), iO 13 (.mv 0), iO 14 (.bin .eql .str 12 13)])
 (.cond 14
 (.seq (.ops [iO 2 (.mv (.val (.bool true)))])
 (.ret))
 (.skip))))
 (.ops [iO 8 (.mv 4), iO 9 (.bin .add .int 8 (aI 1)), iO 4 (.mv 9)]))
def f63m (G : Nat → AVal) : MC :=
 .seq (.ops [iO 2 (.mv (.val (.bool false)))])
 (.seq (.ops [iO 5 (.build [.str [], .str [], .str [], .str [], .str [], .str [], .str [], .str [], .str [], .str [], .str [], .str [], .str [], .str [], .str [], .str [], .str [], .str [], .str [], .str [], .str [], .str [], .str [], .str [], .str [], .str [], .str [], .str [], .str [], .str [], .str [], .str [], .str [], .str [], .str [], .str [], .str []] [(false, 0, 1, (aS [97, 110, 100])), (false, 1, 1, (aS [97, 115])), (false, 2, 1, (aS [98, 101, 103, 105, 110])), (false, 3, 1, (aS [98, 111, 111, 108])), (false, 4, 1, (aS [98, 121])), (false, 5, 1, (aS [99, 111, 109, 109, 105, 116])), (false, 6, 1, (aS [99, 114, 101, 97, 116, 101])), (false, 7, 1, (aS [100, 101, 108, 101, 116, 101])), (false, 8, 1, (aS [100, 101, 115, 99])), (false, 9, 1, (aS [100, 114, 111, 112])), (false, 10, 1, (aS [102, 97, 108, 115, 101])), (false, 11, 1, (aS [102, 114, 111, 109])), (false, 12, 1, (aS [105, 110, 100, 101, 120])), (false, 13, 1, (aS [105, 110, 102, 105, 110, 105, 116, 121])), (false, 14, 1, (aS [105, 110, 110, 101, 114])), (false, 15, 1, (aS [105, 110, 115, 101, 114, 116])), (false, 16, 1, (aS [105, 110, 116])), (false, 17, 1, (aS [105, 110, 116, 111])), (false, 18, 1, (aS [105, 115])), (false, 19, 1, (aS [106, 111, 105, 110])), (false, 20, 1, (aS [110, 97, 110])), (false, 21, 1, (aS [110, 111, 116])), (false, 22, 1, (aS [110, 117, 108, 108])), (false, 23, 1, (aS [111, 110])), (false, 24, 1, (aS [111, 114])), (false, 25, 1, (aS [111, 114, 100, 101, 114])), (false, 26, 1, (aS [114, 101, 97, 108])), (false, 27, 1, (aS [114, 111, 108, 108, 98, 97, 99, 107])), (false, 28, 1, (aS [115, 101, 108, 101, 99, 116])), (false, 29, 1, (aS [115, 101, 116])), (false, 30, 1, (aS [116, 97, 98, 108, 101])), (false, 31, 1, (aS [116, 101, 120, 116])), (false, 32, 1, (aS [116, 114, 117, 101])), (false, 33, 1, (aS [117, 110, 105, 113, 117, 101])), (false, 34, 1, (aS [117, 112, 100, 97, 116, 101])), (false, 35, 1, (aS [118, 97, 108, 117, 101, 115])), (false, 36, 1, (aS [119, 104, 101, 114, 101]))]), iO 3 (.alloc 37 [.str [], .str [], .str [], .str [], .str [], .str [], .str [], .str [], .str [], .str [], .str [], .str [], .str [], .str [], .str [], .str [], .str [], .str [], .str [], .str [], .str [], .str [], .str [], .str [], .str [], .str [], .str [], .str [], .str [], .str [], .str [], .str [], .str [], .str [], .str [], .str [], .str []]), iZ (.store true 37 3 5)])
 (.seq (.seq (.ops [iO 4 (.mv (aI 0))])
 (.block 0
 (.loop (f63b0 G))))
 (.seq (.ops [iO 2 (.mv (.val (.bool false)))])
 (.ret))))
def f63 (G : Nat → AVal) : AFn := ⟨15, [.tmp 2], f63m G⟩
theorem f63_c (G : Nat → AVal) : cmpFn Tryz.prog G [] 63 = some (f63 G) := by kernel_rfl
def f31b0 (G : Nat → AVal) : MC :=
 .seq (.seq (.ops [iO 20 (.mv 3), iO 21 (.mv 0), iO 22 (.lenStr 21), iO 23 (.bin .lss .int 20 22)])
 (.cond 23
 (.skip)
 (.exit 0)))
 (.seq (.block 1
 (.seq (.draw (.rd [⟨0, iO 26 (.mv 0), false, false⟩, ⟨1, iO 27 (.mv 3), false, false⟩, ⟨2, iO 28 (.idxS 26 27), false, false⟩, ⟨4, iO 30 (.mv 0), false, true⟩, ⟨5, iO 31 (.mv 3), false, true⟩, ⟨6, iO 32 (.idxS 30 31), false, true⟩]
 (.ef ⟨3, iC 29 60 [28], true, false⟩ [4, 5, 6]
 (.rd [⟨7, iO 33 (.bin .neq .int 29 32), false, false⟩, ⟨8, iO 34 (.mv 33), false, false⟩, ⟨9, iG 35 34 false (.mv 0), false, false⟩, ⟨10, iG 36 34 false (.mv 3), false, false⟩, ⟨11, iG 37 34 false (.idxS 35 36), false, false⟩]
 (.ef ⟨12, ⟨some 38, some (34, false), .call 57 [37]⟩, true, false⟩ []
 (.rd [⟨13, iG 39 34 false (.un .not 38), false, false⟩, ⟨14, iG 40 34 false (.mv 39), false, false⟩, ⟨15, iG 41 40 true (.mv 0), false, false⟩, ⟨16, iG 42 40 true (.mv 3), false, false⟩, ⟨17, iG 43 40 true (.idxS 41 42), false, false⟩]
 (.ef ⟨18, ⟨some 44, some (40, true), .call 59 [43]⟩, true, false⟩ []
 (.rd [⟨19, iG 45 40 true (.un .not 44), false, false⟩, ⟨20, iG 46 34 false (.pick 40 45 (.val (.bool false))), false, false⟩, ⟨21, iO 47 (.pick 34 (.val (.bool true)) 46), false, false⟩]
 (.nil)))))))))
 (.cond 47
 (.seq (.ops [iO 2 (.mv (.val (.bool false)))])
 (.ret))
 (.skip))))
 (.ops [iO 24 (.mv 3), iO 25 (.bin .add .int 24 (aI 1)), iO 3 (.mv 25)]))
def f31m (G : Nat → AVal) : MC :=
 .seq (.ops [iO 2 (.mv (.val (.bool false)))])
 (.seq (.seq (.ops [iO 4 (.mv 0), iO 5 (.lenStr 4), iO 6 (.bin .lss .int 5 (aI 1)), iO 7 (.mv 6), iG 8 7 false (.mv 0), iG 9 7 false (.lenStr 8), iG 10 7 false (.bin .gtr .int 9 (aI 32)), iO 11 (.pick 7 (.val (.bool true)) 10), iO 12 (.mv 11), iG 13 12 false (.mv 0), ⟨some 14, some (12, false), .call 63 [13]⟩, iO 15 (.pick 12 (.val (.bool true)) 14)])
 (.cond 15
 (.seq (.ops [iO 2 (.mv (.val (.bool false)))])
 (.ret))
 (.skip)))
 (.seq (.seq (.ops [iO 16 (.mv 0), iO 17 (.idxS 16 (aI 0)), iC 18 57 [17], iO 19 (.un .not 18)])
 (.cond 19
 (.seq (.ops [iO 2 (.mv (.val (.bool false)))])
 (.ret))
 (.skip)))
 (.seq (.seq (.ops [iO 3 (.mv (aI 0))])
 (.block 0
 (.loop (f31b0 G))))
 (.seq (.ops [iO 2 (.mv (.val (.bool true)))])
 (.ret)))))
def f31 (G : Nat → AVal) : AFn := ⟨48, [.tmp 2], f31m G⟩
theorem f31_c (G : Nat → AVal) : cmpFn Tryz.prog G [] 31 = some (f31 G) := by kernel_rfl
def f13b0 (G : Nat → AVal) : MC :=
 .seq (.seq (.ops [iO 18 (.mv 3), iO 19 (.lenStr 18), iO 20 (.faddr 3 1), iO 21 (.load false 1 20), iO 22 (.bin .leq .int 19 21)])
 (.cond 22
 (.skip)
 (.exit 1)))
 (.block 2
 (.ops [iO 23 (.mv 3), iO 24 (.bin .add .int (aS [48]) 23), iO 3 (.mv 24)]))
def f13b1 (G : Nat → AVal) : MC :=
 .seq (.seq (.ops [iO 44 (.mv 5), iO 45 (.faddr 1 1), iO 46 (.load false 1 45), iO 47 (.lenStr 46), iO 48 (.bin .lss .int 44 47)])
 (.cond 48
 (.skip)
 (.exit 3)))
 (.seq (.block 4
 (.seq (.ops [iO 51 (.mv 4), iO 52 (.faddr 1 1), iO 53 (.load false 1 52), iO 54 (.mv 5), iO 55 (.idxS 53 54), iO 56 (.bslice false 1 1 [.atom (.int .u8 0)] [(0, 55)]), iO 57 (.append 1 1 51 56), iO 4 (.mv 57)])
 (.seq (.ops [iO 58 (.faddr 1 1), iO 59 (.load false 1 58), iO 60 (.mv 5), iO 61 (.idxS 59 60), iO 62 (.bin .eql .int 61 (.val (.atom (.int .u8 39))))])
 (.cond 62
 (.ops [iO 63 (.mv 4), iO 64 (.bslice false 1 1 [.atom (.int .u8 0)] [(0, (.val (.atom (.int .u8 39))))]), iO 65 (.append 1 1 63 64), iO 4 (.mv 65)])
 (.skip)))))
 (.ops [iO 49 (.mv 5), iO 50 (.bin .add .int 49 (aI 1)), iO 5 (.mv 50)]))
def f13m (G : Nat → AVal) : MC :=
 .seq (.ops [iO 1 (.box true 4 0), iO 2 (.mv (aS []))])
 (.seq (.seq (.ops [iO 6 (.faddr 0 1), iO 7 (.load false 1 6)])
 (.block 0
 (.seq (.ops [iO 9 (.bin .eql .int 7 (aI 2)), iO 8 (.mv 9)])
 (.cond 8
 (.seq (.ops [iO 10 (.faddr 2 1), iO 11 (.load false 1 10), iC 12 28 [11], iO 2 (.mv 12)])
 (.ret))
 (.seq (.ops [iO 14 (.bin .eql .int 7 (aI 3)), iO 13 (.mv 14)])
 (.cond 13
 (.seq (.ops [iO 15 (.faddr 2 1), iO 16 (.load false 1 15), iC 17 28 [16], iO 3 (.mv 17)])
 (.seq (.block 1
 (.loop (f13b0 G)))
 (.seq (.draw (.rd [⟨0, iO 25 (.mv 3), false, false⟩, ⟨1, iO 26 (.mv 3), false, false⟩, ⟨2, iO 27 (.lenStr 26), false, false⟩, ⟨3, iO 28 (.faddr 3 1), false, false⟩, ⟨4, iO 29 (.load false 1 28), false, false⟩, ⟨5, iO 30 (.bin .sub .int 27 29), false, false⟩, ⟨6, iO 31 (.sslc 25 none (some 30)), false, false⟩, ⟨7, iO 32 (.bin .add .int 31 (aS [46])), false, false⟩, ⟨8, iO 33 (.mv 3), false, false⟩, ⟨9, iO 34 (.mv 3), false, false⟩, ⟨10, iO 35 (.lenStr 34), false, false⟩, ⟨11, iO 36 (.faddr 3 1), false, false⟩, ⟨12, iO 37 (.load false 1 36), false, false⟩, ⟨13, iO 38 (.bin .sub .int 35 37), false, false⟩, ⟨14, iO 39 (.sslc 33 (some 38) none), false, false⟩, ⟨15, iO 40 (.bin .add .int 32 39), false, false⟩, ⟨16, iO 2 (.mv 40), false, false⟩]
 (.nil)))
 (.ret))))
 (.seq (.ops [iO 42 (.bin .eql .int 7 (aI 4)), iO 41 (.mv 42)])
 (.cond 41
 (.seq (.ops [iO 43 (.brow false 1 1 [.atom (.int .u8 0)] [(0, (.val (.atom (.int .u8 39))))]), iO 4 (.mv 43)])
 (.seq (.seq (.ops [iO 5 (.mv (aI 0))])
 (.block 3
 (.loop (f13b1 G))))
 (.seq (.ops [iO 66 (.mv 4), iO 67 (.bslice false 1 1 [.atom (.int .u8 0)] [(0, (.val (.atom (.int .u8 39))))]), iO 68 (.append 1 1 66 67), iO 69 (.conv .bytesStr 68), iO 2 (.mv 69)])
 (.ret))))
 (.skip)))))))))
 (.seq (.ops [iO 70 (.faddr 1 1), iO 71 (.load false 1 70), iO 2 (.mv 71)])
 (.ret)))
def f13 (G : Nat → AVal) : AFn := ⟨72, [.tmp 2], f13m G⟩
theorem f13_c (G : Nat → AVal) : cmpFn Tryz.prog G [43] 13 = some (f13 G) := by kernel_rfl
def f27b0 (G : Nat → AVal) : MC :=
 .seq (.seq (.ops [iO 18 (.mv 0), iO 19 (.mv 1), iC 20 58 [18, 19], iC 21 57 [20], iO 22 (.mv 21), iG 23 22 false (.mv 0), iG 24 22 false (.mv 1), ⟨some 25, some (22, false), .call 58 [23, 24]⟩, ⟨some 26, some (22, false), .call 59 [25]⟩, iO 27 (.pick 22 (.val (.bool true)) 26)])
 (.cond 27
 (.skip)
 (.exit 0)))
 (.block 1
 (.seq (.ops [iO 28 (.mv 8), iO 29 (.mv 0), iO 30 (.mv 1), iO 31 (.idxS 29 30), iC 32 60 [31], iO 33 (.bslice false 1 1 [.atom (.int .u8 0)] [(0, 32)]), iO 34 (.append 1 1 28 33), iO 8 (.mv 34)])
 (.ops [iO 35 (.mv 1), iO 36 (.bin .add .int 35 (aI 1)), iO 1 (.mv 36)])))
def f27b1 (G : Nat → AVal) : MC :=
 .seq (.seq (.ops [iO 101 (.mv 11), iO 102 (.mv 10), iO 103 (.lenStr 102), iO 104 (.bin .lss .int 101 103)])
 (.cond 104
 (.skip)
 (.exit 2)))
 (.seq (.block 3
 (.seq (.ops [iO 107 (.mv 10), iO 108 (.mv 11), iO 109 (.idxS 107 108), iO 110 (.mv 7), iO 111 (.bin .eql .int 109 110)])
 (.cond 111
 (.seq (.ops [iO 112 (.mv 0), iO 113 (.mv 1), iO 114 (.mv 1), iO 115 (.bin .add .int 114 (aI 1)), iO 116 (.sslc 112 (some 113) (some 115)), iO 117 (.build [.int 0, .str [], .int 0, .int 0] [(false, 0, 1, (aI 5)), (false, 1, 1, 116)]), iO 118 (.mv 1), iO 119 (.bin .add .int 118 (aI 1)), iZ (.store true 4 4 117), iO 5 (.mv 119), iO 6 (.mv (aI 0))])
 (.ret))
 (.skip))))
 (.ops [iO 105 (.mv 11), iO 106 (.bin .add .int 105 (aI 1)), iO 11 (.mv 106)]))
def f27m (G : Nat → AVal) : MC :=
 .seq (.ops [iO 4 (.alloc 4 [.int 0, .str [], .int 0, .int 0]), iO 5 (.mv (aI 0)), iO 6 (.mv (aI 0))])
 (.seq (.ops [iO 12 (.mv 0), iO 13 (.mv 1), iO 14 (.idxS 12 13), iO 7 (.mv 14)])
 (.seq (.seq (.ops [iO 15 (.mv 7), iC 16 57 [15]])
 (.cond 16
 (.seq (.ops [iO 17 (.bslice false 1 0 [.atom (.int .u8 0)] []), iO 8 (.mv 17)])
 (.seq (.block 0
 (.loop (f27b0 G)))
 (.seq (.seq (.ops [iO 37 (.mv 8), iO 38 (.lenS 37), iO 39 (.bin .gtr .int 38 (aI 32))])
 (.cond 39
 (.seq (.ops [iO 40 (.build [.int 0, .str [], .int 0, .int 0] []), iO 41 (.mv 1), iZ (.store true 4 4 40), iO 5 (.mv 41), iO 6 (.mv (aI 122))])
 (.ret))
 (.skip)))
 (.seq (.ops [iO 42 (.mv 8), iO 43 (.conv .bytesStr 42), iO 44 (.build [.int 0, .str [], .int 0, .int 0] [(false, 0, 1, (aI 1)), (false, 1, 1, 43)]), iO 45 (.mv 1), iZ (.store true 4 4 44), iO 5 (.mv 45), iO 6 (.mv (aI 0))])
 (.ret)))))
 (.skip)))
 (.seq (.seq (.ops [iO 46 (.mv 7), iC 47 59 [46]])
 (.cond 47
 (.seq (.ops [iO 48 (.mv 0), iO 49 (.mv 1), iC 50 61 [48, 49], iO 51 (.extract 50 0), iO 52 (.extract 50 1), iO 53 (.extract 50 2), iZ (.store true 4 4 51), iO 5 (.mv 52), iO 6 (.mv 53)])
 (.ret))
 (.skip)))
 (.seq (.seq (.ops [iO 54 (.mv 7), iO 55 (.bin .eql .int 54 (.val (.atom (.int .u8 39))))])
 (.cond 55
 (.seq (.ops [iO 56 (.mv 0), iO 57 (.mv 1), iO 58 (.bin .add .int 57 (aI 1)), iC 59 62 [56, 58], iO 60 (.extract 59 0), iO 61 (.extract 59 1), iO 62 (.extract 59 2), iZ (.store true 4 4 60), iO 5 (.mv 61), iO 6 (.mv 62)])
 (.ret))
 (.skip)))
 (.seq (.ops [iO 63 (.mv 0), iO 64 (.mv 1), iO 65 (.bin .add .int 64 (aI 1)), iC 66 58 [63, 65], iO 9 (.mv 66)])
 (.seq (.seq (.ops [iO 67 (.mv 7), iO 68 (.bin .eql .int 67 (.val (.atom (.int .u8 60)))), iO 69 (.mv 68), iG 70 69 true (.mv 9), iG 71 69 true (.bin .eql .int 70 (.val (.atom (.int .u8 62)))), iG 72 69 true (.mv 71), iG 73 72 false (.mv 9), iG 74 72 false (.bin .eql .int 73 (.val (.atom (.int .u8 61)))), iG 75 69 true (.pick 72 (.val (.bool true)) 74), iO 76 (.pick 69 75 (.val (.bool false))), iO 77 (.mv 76), iG 78 77 false (.mv 7), iG 79 77 false (.bin .eql .int 78 (.val (.atom (.int .u8 62)))), iG 80 77 false (.mv 79), iG 81 80 true (.mv 9), iG 82 80 true (.bin .eql .int 81 (.val (.atom (.int .u8 61)))), iG 83 77 false (.pick 80 82 (.val (.bool false))), iO 84 (.pick 77 (.val (.bool true)) 83), iO 85 (.mv 84), iG 86 85 false (.mv 7), iG 87 85 false (.bin .eql .int 86 (.val (.atom (.int .u8 124)))), iG 88 85 false (.mv 87), iG 89 88 true (.mv 9), iG 90 88 true (.bin .eql .int 89 (.val (.atom (.int .u8 124)))), iG 91 85 false (.pick 88 90 (.val (.bool false))), iO 92 (.pick 85 (.val (.bool true)) 91)])
 (.cond 92
 (.seq (.ops [iO 93 (.mv 0), iO 94 (.mv 1), iO 95 (.mv 1), iO 96 (.bin .add .int 95 (aI 2)), iO 97 (.sslc 93 (some 94) (some 96)), iO 98 (.build [.int 0, .str [], .int 0, .int 0] [(false, 0, 1, (aI 5)), (false, 1, 1, 97)]), iO 99 (.mv 1), iO 100 (.bin .add .int 99 (aI 2)), iZ (.store true 4 4 98), iO 5 (.mv 100), iO 6 (.mv (aI 0))])
 (.ret))
 (.skip)))
 (.seq (.ops [iO 10 (.mv (aS [40, 41, 44, 46, 42, 43, 45, 47, 37, 61, 60, 62]))])
 (.seq (.seq (.ops [iO 11 (.mv (aI 0))])
 (.block 2
 (.loop (f27b1 G))))
 (.seq (.ops [iO 120 (.build [.int 0, .str [], .int 0, .int 0] []), iO 121 (.mv 1), iZ (.store true 4 4 120), iO 5 (.mv 121), iO 6 (.mv (aI 120))])
 (.ret))))))))))
def f27 (G : Nat → AVal) : AFn := ⟨122, [.cell 4 true 4, .tmp 5, .tmp 6], f27m G⟩
def f57m (G : Nat → AVal) : MC :=
 .seq (.ops [iO 2 (.mv (.val (.bool false)))])
 (.seq (.ops [iO 3 (.mv 0), iO 4 (.bin .eql .int 3 (.val (.atom (.int .u8 95)))), iO 5 (.mv 4), iG 6 5 false (.mv 0), ⟨some 7, some (5, false), .call 60 [6]⟩, iG 8 5 false (.bin .leq .int (.val (.atom (.int .u8 97))) 7), iG 9 5 false (.mv 8), iG 10 9 true (.mv 0), ⟨some 11, some (9, true), .call 60 [10]⟩, iG 12 9 true (.bin .leq .int 11 (.val (.atom (.int .u8 122)))), iG 13 5 false (.pick 9 12 (.val (.bool false))), iO 14 (.pick 5 (.val (.bool true)) 13), iO 2 (.mv 14)])
 (.ret))
def f57 (G : Nat → AVal) : AFn := ⟨15, [.tmp 2], f57m G⟩
theorem f57_c (G : Nat → AVal) : cmpFn Tryz.prog G [] 57 = some (f57 G) := by kernel_rfl
def f60m (G : Nat → AVal) : MC :=
 .seq (.ops [iO 2 (.mv (.val (.atom (.int .u8 0))))])
 (.seq (.seq (.ops [iO 3 (.mv 0), iO 4 (.bin .leq .int (.val (.atom (.int .u8 65))) 3), iO 5 (.mv 4), iG 6 5 true (.mv 0), iG 7 5 true (.bin .leq .int 6 (.val (.atom (.int .u8 90)))), iO 8 (.pick 5 7 (.val (.bool false)))])
 (.cond 8
 (.seq (.ops [iO 9 (.mv 0), iO 10 (.bin .add .int 9 (.val (.atom (.int .u8 32)))), iO 2 (.mv 10)])
 (.ret))
 (.skip)))
 (.seq (.ops [iO 11 (.mv 0), iO 2 (.mv 11)])
 (.ret)))
def f60 (G : Nat → AVal) : AFn := ⟨12, [.tmp 2], f60m G⟩
theorem f60_c (G : Nat → AVal) : cmpFn Tryz.prog G [] 60 = some (f60 G) := by kernel_rfl
def f59m (G : Nat → AVal) : MC :=
 .seq (.ops [iO 2 (.mv (.val (.bool false)))])
 (.seq (.ops [iO 3 (.mv 0), iO 4 (.bin .leq .int (.val (.atom (.int .u8 48))) 3), iO 5 (.mv 4), iG 6 5 true (.mv 0), iG 7 5 true (.bin .leq .int 6 (.val (.atom (.int .u8 57)))), iO 8 (.pick 5 7 (.val (.bool false))), iO 2 (.mv 8)])
 (.ret))
def f59 (G : Nat → AVal) : AFn := ⟨9, [.tmp 2], f59m G⟩
theorem f59_c (G : Nat → AVal) : cmpFn Tryz.prog G [] 59 = some (f59 G) := by kernel_rfl
def f28b0 (G : Nat → AVal) : MC :=
 .seq (.seq (.ops [iO 4 (.mv 0), iO 5 (.bin .gtr .int 4 (aI 9))])
 (.cond 5
 (.skip)
 (.exit 0)))
 (.block 1
 (.seq (.ops [iO 6 (.mv 0), iO 7 (.bin .rem .int 6 (aI 10)), iO 8 (.bin .add .int (aI 48) 7), iO 9 (.conv (.toInt .u8) 8), iO 10 (.bslice false 1 1 [.atom (.int .u8 0)] [(0, 9)]), iO 11 (.conv .bytesStr 10), iO 12 (.mv 3), iO 13 (.bin .add .int 11 12), iO 3 (.mv 13)])
 (.ops [iO 14 (.mv 0), iO 15 (.bin .quo .int 14 (aI 10)), iO 0 (.mv 15)])))
def f28m (G : Nat → AVal) : MC :=
 .seq (.ops [iO 2 (.mv (aS []))])
 (.seq (.ops [iO 3 (.mv (aS []))])
 (.seq (.block 0
 (.loop (f28b0 G)))
 (.seq (.ops [iO 16 (.mv 0), iO 17 (.bin .add .int (aI 48) 16), iO 18 (.conv (.toInt .u8) 17), iO 19 (.bslice false 1 1 [.atom (.int .u8 0)] [(0, 18)]), iO 20 (.conv .bytesStr 19), iO 21 (.mv 3), iO 22 (.bin .add .int 20 21), iO 2 (.mv 22)])
 (.ret))))
def f28 (G : Nat → AVal) : AFn := ⟨23, [.tmp 2], f28m G⟩
theorem f28_c (G : Nat → AVal) : cmpFn Tryz.prog G [] 28 = some (f28 G) := by kernel_rfl
def f58m (G : Nat → AVal) : MC :=
 .seq (.ops [iO 4 (.mv (.val (.atom (.int .u8 0))))])
 (.seq (.seq (.ops [iO 5 (.mv 1), iO 6 (.mv 0), iO 7 (.lenStr 6), iO 8 (.bin .lss .int 5 7)])
 (.cond 8
 (.seq (.ops [iO 9 (.mv 0), iO 10 (.mv 1), iO 11 (.idxS 9 10), iO 4 (.mv 11)])
 (.ret))
 (.skip)))
 (.seq (.ops [iO 4 (.mv (.val (.atom (.int .u8 0))))])
 (.ret)))
def f58 (G : Nat → AVal) : AFn := ⟨12, [.tmp 4], f58m G⟩
def f61b0 (G : Nat → AVal) : MC :=
 .seq (.seq (.ops [iO 11 (.mv 0), iO 12 (.mv 1), iC 13 58 [11, 12], iC 14 59 [13]])
 (.cond 14
 (.skip)
 (.exit 0)))
 (.block 1
 (.seq (.ops [iO 15 (.mv 8), iO 16 (.bin .add .int 15 (aI 1)), iO 8 (.mv 16)])
 (.seq (.seq (.ops [iO 17 (.mv 8), iO 18 (.bin .lss .int 17 (aI 20))])
 (.cond 18
 (.ops [iO 19 (.mv 7), iO 20 (.bin .mul .int 19 (.val (.atom (.int .u64 10)))), iO 21 (.mv 0), iO 22 (.mv 1), iO 23 (.idxS 21 22), iO 24 (.bin .sub .int 23 (.val (.atom (.int .u8 48)))), iO 25 (.conv (.toInt .u64) 24), iO 26 (.bin .add .int 20 25), iO 7 (.mv 26)])
 (.skip)))
 (.ops [iO 27 (.mv 1), iO 28 (.bin .add .int 27 (aI 1)), iO 1 (.mv 28)]))))
def f61b1 (G : Nat → AVal) : MC :=
 .seq (.seq (.ops [iO 56 (.mv 0), iO 57 (.mv 1), iC 58 58 [56, 57], iC 59 59 [58]])
 (.cond 59
 (.skip)
 (.exit 2)))
 (.block 3
 (.seq (.ops [iO 60 (.mv 10), iO 61 (.bin .add .int 60 (aI 1)), iO 10 (.mv 61)])
 (.seq (.seq (.ops [iO 62 (.mv 8), iO 63 (.mv 10), iO 64 (.bin .add .int 62 63), iO 65 (.bin .lss .int 64 (aI 16))])
 (.cond 65
 (.ops [iO 66 (.mv 7), iO 67 (.bin .mul .int 66 (.val (.atom (.int .u64 10)))), iO 68 (.mv 0), iO 69 (.mv 1), iO 70 (.idxS 68 69), iO 71 (.bin .sub .int 70 (.val (.atom (.int .u8 48)))), iO 72 (.conv (.toInt .u64) 71), iO 73 (.bin .add .int 67 72), iO 7 (.mv 73)])
 (.skip)))
 (.ops [iO 74 (.mv 1), iO 75 (.bin .add .int 74 (aI 1)), iO 1 (.mv 75)]))))
def f61m (G : Nat → AVal) : MC :=
 .seq (.ops [iO 4 (.alloc 4 [.int 0, .str [], .int 0, .int 0]), iO 5 (.mv (aI 0)), iO 6 (.mv (aI 0))])
 (.seq (.ops [iO 7 (.mv (.val (.atom (.int .u64 0)))), iO 8 (.mv (aI 0)), iO 9 (.mv (.val (.bool false)))])
 (.seq (.block 0
 (.loop (f61b0 G)))
 (.seq (.ops [iO 29 (.mv 8), iO 30 (.bin .gtr .int 29 (aI 19)), iO 31 (.mv 30), iG 32 31 false (.mv 7), iG 33 31 false (.bin .geq .int 32 (.val (.atom (.int .u64 9223372036854775808)))), iO 34 (.pick 31 (.val (.bool true)) 33), iO 9 (.mv 34)])
 (.seq (.seq (.ops [iO 35 (.mv 0), iO 36 (.mv 1), iC 37 58 [35, 36], iO 38 (.bin .neq .int 37 (.val (.atom (.int .u8 46)))), iO 39 (.mv 38), iG 40 39 false (.mv 0), iG 41 39 false (.mv 1), iG 42 39 false (.bin .add .int 41 (aI 1)), ⟨some 43, some (39, false), .call 58 [40, 42]⟩, ⟨some 44, some (39, false), .call 59 [43]⟩, iG 45 39 false (.un .not 44), iO 46 (.pick 39 (.val (.bool true)) 45)])
 (.cond 46
 (.seq (.seq (.ops [iO 47 (.mv 9)])
 (.cond 47
 (.seq (.ops [iO 48 (.build [.int 0, .str [], .int 0, .int 0] []), iO 49 (.mv 1), iZ (.store true 4 4 48), iO 5 (.mv 49), iO 6 (.mv (aI 11))])
 (.ret))
 (.skip)))
 (.seq (.ops [iO 50 (.mv 7), iO 51 (.conv (.toInt .i64) 50), iO 52 (.build [.int 0, .str [], .int 0, .int 0] [(false, 0, 1, (aI 2)), (false, 2, 1, 51)]), iO 53 (.mv 1), iZ (.store true 4 4 52), iO 5 (.mv 53), iO 6 (.mv (aI 0))])
 (.ret)))
 (.skip)))
 (.seq (.ops [iO 54 (.mv 1), iO 55 (.bin .add .int 54 (aI 1)), iO 1 (.mv 55)])
 (.seq (.ops [iO 10 (.mv (aI 0))])
 (.seq (.block 2
 (.loop (f61b1 G)))
 (.seq (.seq (.ops [iO 76 (.mv 8), iO 77 (.mv 10), iO 78 (.bin .add .int 76 77), iO 79 (.bin .gtr .int 78 (aI 15))])
 (.cond 79
 (.seq (.ops [iO 80 (.build [.int 0, .str [], .int 0, .int 0] []), iO 81 (.mv 1), iZ (.store true 4 4 80), iO 5 (.mv 81), iO 6 (.mv (aI 11))])
 (.ret))
 (.skip)))
 (.seq (.ops [iO 82 (.mv 7), iO 83 (.conv (.toInt .i64) 82), iO 84 (.mv 10), iO 85 (.build [.int 0, .str [], .int 0, .int 0] [(false, 0, 1, (aI 3)), (false, 2, 1, 83), (false, 3, 1, 84)]), iO 86 (.mv 1), iZ (.store true 4 4 85), iO 5 (.mv 86), iO 6 (.mv (aI 0))])
 (.ret))))))))))
def f61 (G : Nat → AVal) : AFn := ⟨87, [.cell 4 true 4, .tmp 5, .tmp 6], f61m G⟩
def f62b0 (G : Nat → AVal) : MC :=
 .seq (.seq (.ops [iO 9 (.mv 1), iO 10 (.mv 0), iO 11 (.lenStr 10), iO 12 (.bin .lss .int 9 11)])
 (.cond 12
 (.skip)
 (.exit 0)))
 (.block 1
 (.seq (.seq (.ops [iO 13 (.mv 0), iO 14 (.mv 1), iO 15 (.idxS 13 14), iO 16 (.bin .eql .int 15 (.val (.atom (.int .u8 39))))])
 (.cond 16
 (.seq (.seq (.ops [iO 17 (.mv 0), iO 18 (.mv 1), iO 19 (.bin .add .int 18 (aI 1)), iC 20 58 [17, 19], iO 21 (.bin .neq .int 20 (.val (.atom (.int .u8 39))))])
 (.cond 21
 (.seq (.seq (.ops [iO 22 (.mv 7), iO 23 (.lenS 22), iO 24 (.bin .gtr .int 23 (aI 200))])
 (.cond 24
 (.seq (.ops [iO 25 (.build [.int 0, .str [], .int 0, .int 0] []), iO 26 (.mv 1), iZ (.store true 4 4 25), iO 5 (.mv 26), iO 6 (.mv (aI 1))])
 (.ret))
 (.skip)))
 (.seq (.ops [iO 27 (.mv 7), iO 28 (.conv .bytesStr 27), iO 29 (.build [.int 0, .str [], .int 0, .int 0] [(false, 0, 1, (aI 4)), (false, 1, 1, 28)]), iO 30 (.mv 1), iO 31 (.bin .add .int 30 (aI 1)), iZ (.store true 4 4 29), iO 5 (.mv 31), iO 6 (.mv (aI 0))])
 (.ret)))
 (.skip)))
 (.ops [iO 32 (.mv 1), iO 33 (.bin .add .int 32 (aI 1)), iO 1 (.mv 33)]))
 (.skip)))
 (.seq (.ops [iO 34 (.mv 7), iO 35 (.mv 0), iO 36 (.mv 1), iO 37 (.idxS 35 36), iO 38 (.bslice false 1 1 [.atom (.int .u8 0)] [(0, 37)]), iO 39 (.append 1 1 34 38), iO 7 (.mv 39)])
 (.ops [iO 40 (.mv 1), iO 41 (.bin .add .int 40 (aI 1)), iO 1 (.mv 41)]))))
def f62m (G : Nat → AVal) : MC :=
 .seq (.ops [iO 4 (.alloc 4 [.int 0, .str [], .int 0, .int 0]), iO 5 (.mv (aI 0)), iO 6 (.mv (aI 0))])
 (.seq (.ops [iO 8 (.bslice false 1 0 [.atom (.int .u8 0)] []), iO 7 (.mv 8)])
 (.seq (.block 0
 (.loop (f62b0 G)))
 (.seq (.ops [iO 42 (.build [.int 0, .str [], .int 0, .int 0] []), iO 43 (.mv 1), iZ (.store true 4 4 42), iO 5 (.mv 43), iO 6 (.mv (aI 121))])
 (.ret))))
def f62 (G : Nat → AVal) : AFn := ⟨44, [.cell 4 true 4, .tmp 5, .tmp 6], f62m G⟩
end Go.Abs
set_option linter.unusedVariables false
namespace Go.Abs
open Go Go.RowKit Go.Proofs
def f18b0 (G : Nat → AVal) : MC :=
 .seq (.ops [iO 10 (.bin .lss .int 9 8)])
 (.seq (.cond 10
 (.skip)
 (.exit 0))
 (.seq (.block 1
 (.seq (.ops [iO 11 (.iaddr 7 7 9), iO 12 (.load true 7 11), iO 5 (.alloc 7 [.int 0, .nilS, .int 0, .int 0, .int 0, .str [], .str []]), iZ (.store true 7 5 12)])
 (.ops [iO 13 (.mv 3), iO 14 (.load true 7 5), iC 15 18 [14], iO 16 (.bin .add .int 15 (aI 1)), iO 17 (.mm true 13 16), iO 3 (.mv 17)])))
 (.ops [iO 18 (.bin .add .int 9 (aI 1)), iO 9 (.mv 18)])))
def f18m (G : Nat → AVal) : MC :=
 .seq (.ops [iO 1 (.box true 7 0), iO 2 (.mv (aI 0))])
 (.seq (.ops [iO 3 (.mv (aI 0))])
 (.seq (.seq (.ops [iO 6 (.faddr 1 1), iO 7 (.load false 1 6), iO 8 (.lenS 7), iO 9 (.mv (aI 0))])
 (.block 0
 (.loop (f18b0 G))))
 (.seq (.ops [iO 19 (.mv 3), iO 2 (.mv 19)])
 (.ret))))
def f18 (G : Nat → AVal) : AFn := ⟨20, [.tmp 2], f18m G⟩
theorem f18_c (G : Nat → AVal) : cmpFn Tryz.prog G [] 18 = some (f18 G) := by kernel_rfl
def f22m (G : Nat → AVal) : MC :=
 .ops [iO 2 (.mv 0), iO 3 (.build [.int 0] [(false, 0, 1, 2)]), iO 4 (.mkif 58 3), iZ (.panic 4)]
def f22 (G : Nat → AVal) : AFn := ⟨5, [], f22m G⟩
theorem f22_c (G : Nat → AVal) : cmpFn Tryz.prog G [] 22 = some (f22 G) := by kernel_rfl
def f39m (G : Nat → AVal) : MC :=
 .seq (.ops [iO 2 (.alloc 4 [.int 0, .str [], .int 0, .int 0])])
 (.seq (.seq (.ops [iO 3 (.mv 0), iO 4 (.nilck 3), iO 5 (.faddr 0 4), iO 6 (.load false 1 5), iO 7 (.lenS 6), iO 8 (.bin .eql .int 7 (aI 0))])
 (.cond 8
 (.seq (.ops [iO 9 (.build [.int 0, .str [], .int 0, .int 0] []), iZ (.store true 4 2 9)])
 (.ret))
 (.skip)))
 (.seq (.ops [iO 10 (.mv 0), iO 11 (.nilck 10), iO 12 (.faddr 0 11), iO 13 (.load false 1 12), iO 14 (.iaddr 4 13 (aI 0)), iO 15 (.load true 4 14), iZ (.store true 4 2 15)])
 (.ret)))
def f39 (G : Nat → AVal) : AFn := ⟨16, [.cell 2 true 4], f39m G⟩
theorem f39_c (G : Nat → AVal) : cmpFn Tryz.prog G [] 39 = some (f39 G) := by kernel_rfl
def f40b0 (G : Nat → AVal) : MC :=
 .seq (.ops [iO 9 (.bin .lss .int 8 7)])
 (.seq (.cond 9
 (.skip)
 (.exit 0))
 (.seq (.block 1
 (.seq (.ops [iO 10 (.iaddr 1 6 8), iO 11 (.load false 1 10), iO 5 (.mv 11)])
 (.seq (.ops [iO 12 (.mv 0), iO 13 (.mv 5), iC 14 42 [12, 13], iO 15 (.un .not 14)])
 (.cond 15
 (.ops [iC 16 22 [(aI 130)]])
 (.skip)))))
 (.ops [iO 17 (.bin .add .int 8 (aI 1)), iO 8 (.mv 17)])))
def f40m (G : Nat → AVal) : MC :=
 .seq (.ops [iO 6 (.mv 1), iO 7 (.lenS 6), iO 8 (.mv (aI 0))])
 (.block 0
 (.loop (f40b0 G)))
def f40 (G : Nat → AVal) : AFn := ⟨18, [], f40m G⟩
theorem f40_c (G : Nat → AVal) : cmpFn Tryz.prog G [] 40 = some (f40 G) := by kernel_rfl
def f42m (G : Nat → AVal) : MC :=
 .seq (.ops [iO 4 (.mv (.val (.bool false)))])
 (.seq (.ops [iO 5 (.mv 0), iO 6 (.mv 1), iC 7 80 [5, (aI 1), 6], iO 4 (.mv 7)])
 (.ret))
def f42 (G : Nat → AVal) : AFn := ⟨8, [.tmp 4], f42m G⟩
theorem f42_c (G : Nat → AVal) : cmpFn Tryz.prog G [] 42 = some (f42 G) := by kernel_rfl
def f43m (G : Nat → AVal) : MC :=
 .seq (.ops [iO 2 (.mv (aS []))])
 (.seq (.ops [iO 4 (.mv 0), iC 5 39 [4], iO 3 (.alloc 4 [.int 0, .str [], .int 0, .int 0]), iZ (.store true 4 3 5)])
 (.seq (.seq (.ops [iO 6 (.faddr 0 3), iO 7 (.load false 1 6), iO 8 (.bin .neq .int 7 (aI 1)), iO 9 (.mv 8), iG 10 9 false (.faddr 1 3), iG 11 9 false (.load false 1 10), ⟨some 12, some (9, false), .call 81 [11]⟩, iO 13 (.pick 9 (.val (.bool true)) 12)])
 (.cond 13
 (.ops [iC 14 22 [(aI 130)]])
 (.skip)))
 (.seq (.ops [iO 15 (.mv 0), iO 16 (.mv 0), iO 17 (.nilck 16), iO 18 (.faddr 0 17), iO 19 (.load false 1 18), iO 20 (.slc 4 19 (some (aI 1)) none none), iO 21 (.nilck 15), iO 22 (.faddr 0 21), iZ (.store false 1 22 20)])
 (.seq (.ops [iO 23 (.faddr 1 3), iO 24 (.load false 1 23), iO 2 (.mv 24)])
 (.ret)))))
def f43 (G : Nat → AVal) : AFn := ⟨25, [.tmp 2], f43m G⟩
theorem f43_c (G : Nat → AVal) : cmpFn Tryz.prog G [] 43 = some (f43 G) := by kernel_rfl
def f75m (G : Nat → AVal) : MC :=
 .seq (.ops [iO 4 (.mv 0), iO 5 (.mv 1), iC 6 85 [4, 5], iO 7 (.un .not 6)])
 (.cond 7
 (.ops [iC 8 22 [(aI 130)]])
 (.skip))
def f75 (G : Nat → AVal) : AFn := ⟨9, [], f75m G⟩
theorem f75_c (G : Nat → AVal) : cmpFn Tryz.prog G [] 75 = some (f75 G) := by kernel_rfl
def f80m (G : Nat → AVal) : MC :=
 .seq (.ops [iO 6 (.mv (.val (.bool false)))])
 (.seq (.seq (.ops [iO 8 (.mv 0), iC 9 39 [8], iO 7 (.alloc 4 [.int 0, .str [], .int 0, .int 0]), iZ (.store true 4 7 9)])
 (.seq (.ops [iO 10 (.faddr 0 7), iO 11 (.load false 1 10), iO 12 (.mv 1), iO 13 (.bin .neq .int 11 12), iO 14 (.mv 13), iG 15 14 false (.faddr 1 7), iG 16 14 false (.load false 1 15), iG 17 14 false (.mv 2), iG 18 14 false (.bin .neq .str 16 17), iO 19 (.pick 14 (.val (.bool true)) 18)])
 (.cond 19
 (.seq (.ops [iO 6 (.mv (.val (.bool false)))])
 (.ret))
 (.skip))))
 (.seq (.ops [iO 20 (.mv 0), iO 21 (.mv 0), iO 22 (.nilck 21), iO 23 (.faddr 0 22), iO 24 (.load false 1 23), iO 25 (.slc 4 24 (some (aI 1)) none none), iO 26 (.nilck 20), iO 27 (.faddr 0 26), iZ (.store false 1 27 25)])
 (.seq (.ops [iO 6 (.mv (.val (.bool true)))])
 (.ret))))
def f80 (G : Nat → AVal) : AFn := ⟨28, [.tmp 6], f80m G⟩
theorem f80_c (G : Nat → AVal) : cmpFn Tryz.prog G [] 80 = some (f80 G) := by kernel_rfl
def f84m (G : Nat → AVal) : MC :=
 .seq (.ops [iO 2 (.alloc 7 [.int 0, .nilS, .int 0, .int 0, .int 0, .str [], .str []])])
 (.seq (.ops [iO 4 (.mv 0), iC 5 107 [4], iO 3 (.alloc 7 [.int 0, .nilS, .int 0, .int 0, .int 0, .str [], .str []]), iZ (.store true 7 3 5)])
 (.seq (.draw (.rd [⟨0, iO 6 (.mv 0), false, true⟩, ⟨1, iO 7 (.mv 0), false, true⟩, ⟨2, iO 8 (.nilck 7), false, true⟩, ⟨3, iO 9 (.faddr 2 8), false, true⟩, ⟨4, iO 10 (.load false 1 9), false, true⟩, ⟨5, iO 11 (.load true 7 3), false, false⟩]
 (.ef ⟨6, iC 12 18 [11], true, false⟩ [0, 1, 2, 3, 4]
 (.rd [⟨7, iO 13 (.mm true 10 12), false, false⟩, ⟨8, iO 14 (.nilck 6), false, false⟩, ⟨9, iO 15 (.faddr 2 14), false, false⟩]
 (.ef ⟨10, iZ (.store false 1 15 13), true, false⟩ []
 (.nil))))))
 (.seq (.ops [iO 16 (.load true 7 3), iZ (.store true 7 2 16)])
 (.ret))))
def f84 (G : Nat → AVal) : AFn := ⟨17, [.cell 2 true 7], f84m G⟩
theorem f84_c (G : Nat → AVal) : cmpFn Tryz.prog G [] 84 = some (f84 G) := by kernel_rfl
def f85m (G : Nat → AVal) : MC :=
 .seq (.ops [iO 4 (.mv (.val (.bool false)))])
 (.seq (.ops [iO 5 (.mv 0), iO 6 (.mv 1), iC 7 80 [5, (aI 5), 6], iO 4 (.mv 7)])
 (.ret))
def f85 (G : Nat → AVal) : AFn := ⟨8, [.tmp 4], f85m G⟩
theorem f85_c (G : Nat → AVal) : cmpFn Tryz.prog G [] 85 = some (f85 G) := by kernel_rfl
def f107m (G : Nat → AVal) : MC :=
 .seq (.ops [iO 1 (.box false 1 0), iO 2 (.alloc 7 [.int 0, .nilS, .int 0, .int 0, .int 0, .str [], .str []])])
 (.seq (.ops [iO 3 (.load false 1 1), iO 4 (.load false 1 1), iO 5 (.mkfn (.func 121) [4] []), iO 6 (.mkfn (.func 122) [] [1]), iC 7 120 [3, 5, 6], iZ (.store true 7 2 7)])
 (.ret))
def f107 (G : Nat → AVal) : AFn := ⟨8, [.cell 2 true 7], f107m G⟩
theorem f107_c (G : Nat → AVal) : cmpFn Tryz.prog G [] 107 = some (f107 G) := by kernel_rfl
def f120b0 (G : Nat → AVal) : MC :=
 .seq (.seq (.ops [iO 13 (.mv 8), iO 14 (.bin .neq .int 13 (aI 0))])
 (.cond 14
 (.skip)
 (.exit 0)))
 (.seq (.block 1
 (.draw (.rd [⟨0, iO 17 (.mv 8), false, true⟩, ⟨1, iO 18 (.load true 7 7), false, true⟩, ⟨2, iO 19 (.mv 1), false, false⟩]
 (.ef ⟨3, ⟨some 20, none, .callV 19 []⟩, true, false⟩ [0, 1]
 (.rd [⟨4, iO 21 (.bslice true 7 2 [.int 0, .nilS, .int 0, .int 0, .int 0, .str [], .str []] [(0, 18), (1, 20)]), false, false⟩, ⟨5, iO 22 (.build [.int 0, .nilS, .int 0, .int 0, .int 0, .str [], .str []] [(false, 0, 1, 17), (false, 1, 1, 21)]), false, false⟩]
 (.ef ⟨6, iZ (.store true 7 7 22), true, false⟩ []
 (.nil)))))))
 (.ops [iO 15 (.mv 2), ⟨some 16, none, .callV 15 []⟩, iO 8 (.mv 16)]))
def f120m (G : Nat → AVal) : MC :=
 .seq (.ops [iO 6 (.alloc 7 [.int 0, .nilS, .int 0, .int 0, .int 0, .str [], .str []])])
 (.seq (.ops [iO 9 (.mv 1), ⟨some 10, none, .callV 9 []⟩, iO 7 (.alloc 7 [.int 0, .nilS, .int 0, .int 0, .int 0, .str [], .str []]), iZ (.store true 7 7 10)])
 (.seq (.seq (.ops [iO 11 (.mv 2), ⟨some 12, none, .callV 11 []⟩, iO 8 (.mv 12)])
 (.block 0
 (.loop (f120b0 G))))
 (.seq (.ops [iO 23 (.load true 7 7), iZ (.store true 7 6 23)])
 (.ret))))
def f120 (G : Nat → AVal) : AFn := ⟨24, [.cell 6 true 7], f120m G⟩
theorem f120_c (G : Nat → AVal) : cmpFn Tryz.prog G [] 120 = some (f120 G) := by kernel_rfl
def f121m (G : Nat → AVal) : MC :=
 .seq (.ops [iO 1 (.box false 1 0), iO 2 (.alloc 7 [.int 0, .nilS, .int 0, .int 0, .int 0, .str [], .str []])])
 (.seq (.ops [iO 3 (.load false 1 1), iO 4 (.load false 1 1), iO 5 (.mkfn (.func 131) [4] []), iO 6 (.mkfn (.func 132) [] [1]), iC 7 120 [3, 5, 6], iZ (.store true 7 2 7)])
 (.ret))
def f121 (G : Nat → AVal) : AFn := ⟨8, [.cell 2 true 7], f121m G⟩
theorem f121_c (G : Nat → AVal) : cmpFn Tryz.prog G [] 121 = some (f121 G) := by kernel_rfl
def f122m (G : Nat → AVal) : MC :=
 .seq (.ops [iO 1 (.mv (aI 0))])
 (.seq (.seq (.ops [iO 2 (.load false 1 0), iC 3 42 [2, (aS [111, 114])]])
 (.cond 3
 (.seq (.ops [iO 1 (.mv (aI 18))])
 (.ret))
 (.skip)))
 (.seq (.ops [iO 1 (.mv (aI 0))])
 (.ret)))
def f122 (G : Nat → AVal) : AFn := ⟨4, [.tmp 1], f122m G⟩
theorem f122_c (G : Nat → AVal) : cmpFn Tryz.prog G [] 122 = some (f122 G) := by kernel_rfl
def f131m (G : Nat → AVal) : MC :=
 .seq (.ops [iO 1 (.box false 1 0), iO 2 (.alloc 7 [.int 0, .nilS, .int 0, .int 0, .int 0, .str [], .str []])])
 (.seq (.ops [iO 3 (.mkfn (.func 137) [] [1]), iO 4 (.load false 1 1), iO 5 (.mkfn (.func 138) [4] []), iC 6 136 [(aI 16), 3, 5], iZ (.store true 7 2 6)])
 (.ret))
def f131 (G : Nat → AVal) : AFn := ⟨7, [.cell 2 true 7], f131m G⟩
theorem f131_c (G : Nat → AVal) : cmpFn Tryz.prog G [] 131 = some (f131 G) := by kernel_rfl
def f132m (G : Nat → AVal) : MC :=
 .seq (.ops [iO 1 (.mv (aI 0))])
 (.seq (.seq (.ops [iO 2 (.load false 1 0), iC 3 42 [2, (aS [97, 110, 100])]])
 (.cond 3
 (.seq (.ops [iO 1 (.mv (aI 17))])
 (.ret))
 (.skip)))
 (.seq (.ops [iO 1 (.mv (aI 0))])
 (.ret)))
def f132 (G : Nat → AVal) : AFn := ⟨4, [.tmp 1], f132m G⟩
theorem f132_c (G : Nat → AVal) : cmpFn Tryz.prog G [] 132 = some (f132 G) := by kernel_rfl
def f136b0 (G : Nat → AVal) : MC :=
 .seq (.seq (.ops [iO 9 (.mv 1), ⟨some 10, none, .callV 9 []⟩])
 (.cond 10
 (.skip)
 (.exit 0)))
 (.block 1
 (.ops [iO 11 (.mv 7), iO 12 (.bin .add .int 11 (aI 1)), iO 7 (.mv 12)]))
def f136b1 (G : Nat → AVal) : MC :=
 .seq (.ops [iO 17 (.bin .lss .int 16 15)])
 (.seq (.cond 17
 (.skip)
 (.exit 2))
 (.seq (.block 3
 (.ops [iO 18 (.mv 0), iO 19 (.load true 7 8), iO 20 (.bslice true 7 1 [.int 0, .nilS, .int 0, .int 0, .int 0, .str [], .str []] [(0, 19)]), iO 21 (.build [.int 0, .nilS, .int 0, .int 0, .int 0, .str [], .str []] [(false, 0, 1, 18), (false, 1, 1, 20)]), iZ (.store true 7 8 21)]))
 (.ops [iO 22 (.bin .add .int 16 (aI 1)), iO 16 (.mv 22)])))
def f136m (G : Nat → AVal) : MC :=
 .seq (.ops [iO 6 (.alloc 7 [.int 0, .nilS, .int 0, .int 0, .int 0, .str [], .str []])])
 (.seq (.ops [iO 7 (.mv (aI 0))])
 (.seq (.block 0
 (.loop (f136b0 G)))
 (.seq (.ops [iO 13 (.mv 2), ⟨some 14, none, .callV 13 []⟩, iO 8 (.alloc 7 [.int 0, .nilS, .int 0, .int 0, .int 0, .str [], .str []]), iZ (.store true 7 8 14)])
 (.seq (.seq (.ops [iO 15 (.mv 7), iO 16 (.mv (aI 0))])
 (.block 2
 (.loop (f136b1 G))))
 (.seq (.ops [iO 23 (.load true 7 8), iZ (.store true 7 6 23)])
 (.ret))))))
def f136 (G : Nat → AVal) : AFn := ⟨24, [.cell 6 true 7], f136m G⟩
theorem f136_c (G : Nat → AVal) : cmpFn Tryz.prog G [] 136 = some (f136 G) := by kernel_rfl
def f137m (G : Nat → AVal) : MC :=
 .seq (.ops [iO 1 (.mv (.val (.bool false)))])
 (.seq (.ops [iO 2 (.load false 1 0), iC 3 42 [2, (aS [110, 111, 116])], iO 1 (.mv 3)])
 (.ret))
def f137 (G : Nat → AVal) : AFn := ⟨4, [.tmp 1], f137m G⟩
theorem f137_c (G : Nat → AVal) : cmpFn Tryz.prog G [] 137 = some (f137 G) := by kernel_rfl
def f138m (G : Nat → AVal) : MC :=
 .seq (.ops [iO 2 (.alloc 7 [.int 0, .nilS, .int 0, .int 0, .int 0, .str [], .str []])])
 (.seq (.ops [iO 6 (.mv 0), iC 7 139 [6], iO 3 (.alloc 7 [.int 0, .nilS, .int 0, .int 0, .int 0, .str [], .str []]), iZ (.store true 7 3 7)])
 (.seq (.seq (.ops [iO 8 (.mv 0), iO 9 (.bslice false 1 6 [.str []] [(0, (aS [61])), (1, (aS [60, 62])), (2, (aS [60])), (3, (aS [60, 61])), (4, (aS [62])), (5, (aS [62, 61]))]), iC 10 140 [8, 9, (aI 1)], iO 4 (.mv 10)])
 (.seq (.ops [iO 11 (.mv 4), iO 12 (.bin .neq .int 11 (aI 0))])
 (.cond 12
 (.seq (.draw (.rd [⟨0, iO 13 (.mv 4), false, true⟩, ⟨1, iO 14 (.load true 7 3), false, true⟩, ⟨2, iO 15 (.mv 0), false, false⟩]
 (.ef ⟨3, iC 16 139 [15], true, false⟩ [0, 1]
 (.rd [⟨4, iO 17 (.bslice true 7 2 [.int 0, .nilS, .int 0, .int 0, .int 0, .str [], .str []] [(0, 14), (1, 16)]), false, false⟩, ⟨5, iO 18 (.build [.int 0, .nilS, .int 0, .int 0, .int 0, .str [], .str []] [(false, 0, 1, 13), (false, 1, 1, 17)]), false, false⟩]
 (.ef ⟨6, iZ (.store true 7 2 18), true, false⟩ []
 (.nil))))))
 (.ret))
 (.skip))))
 (.seq (.seq (.ops [iO 19 (.mv 0), iC 20 42 [19, (aS [105, 115])]])
 (.cond 20
 (.seq (.ops [iO 5 (.mv (aI 19))])
 (.seq (.seq (.ops [iO 21 (.mv 0), iC 22 42 [21, (aS [110, 111, 116])]])
 (.cond 22
 (.ops [iO 5 (.mv (aI 20))])
 (.skip)))
 (.seq (.ops [iO 23 (.mv 0), iO 24 (.bslice false 1 1 [.str []] [(0, (aS [110, 117, 108, 108]))]), iC 25 40 [23, 24]])
 (.seq (.ops [iO 26 (.mv 5), iO 27 (.load true 7 3), iO 28 (.bslice true 7 1 [.int 0, .nilS, .int 0, .int 0, .int 0, .str [], .str []] [(0, 27)]), iO 29 (.build [.int 0, .nilS, .int 0, .int 0, .int 0, .str [], .str []] [(false, 0, 1, 26), (false, 1, 1, 28)]), iZ (.store true 7 2 29)])
 (.ret)))))
 (.skip)))
 (.seq (.ops [iO 30 (.load true 7 3), iZ (.store true 7 2 30)])
 (.ret)))))
def f138 (G : Nat → AVal) : AFn := ⟨31, [.cell 2 true 7], f138m G⟩
theorem f138_c (G : Nat → AVal) : cmpFn Tryz.prog G [] 138 = some (f138 G) := by kernel_rfl
def f139m (G : Nat → AVal) : MC :=
 .seq (.ops [iO 1 (.box false 1 0), iO 2 (.alloc 7 [.int 0, .nilS, .int 0, .int 0, .int 0, .str [], .str []])])
 (.seq (.ops [iO 3 (.load false 1 1), iO 4 (.load false 1 1), iO 5 (.mkfn (.func 141) [4] []), iO 6 (.mkfn (.func 142) [] [1]), iC 7 120 [3, 5, 6], iZ (.store true 7 2 7)])
 (.ret))
def f139 (G : Nat → AVal) : AFn := ⟨8, [.cell 2 true 7], f139m G⟩
theorem f139_c (G : Nat → AVal) : cmpFn Tryz.prog G [] 139 = some (f139 G) := by kernel_rfl
def f140b0 (G : Nat → AVal) : MC :=
 .seq (.ops [iO 12 (.bin .lss .int 11 10)])
 (.seq (.cond 12
 (.skip)
 (.exit 0))
 (.seq (.block 1
 (.seq (.ops [iO 13 (.mv 11), iO 14 (.iaddr 1 9 11), iO 15 (.load false 1 14), iO 7 (.mv 13), iO 8 (.mv 15)])
 (.seq (.ops [iO 16 (.mv 0), iO 17 (.mv 8), iC 18 85 [16, 17]])
 (.cond 18
 (.seq (.ops [iO 19 (.mv 2), iO 20 (.mv 7), iO 21 (.bin .add .int 19 20), iO 6 (.mv 21)])
 (.ret))
 (.skip)))))
 (.ops [iO 22 (.bin .add .int 11 (aI 1)), iO 11 (.mv 22)])))
def f140m (G : Nat → AVal) : MC :=
 .seq (.ops [iO 6 (.mv (aI 0))])
 (.seq (.seq (.ops [iO 9 (.mv 1), iO 10 (.lenS 9), iO 11 (.mv (aI 0))])
 (.block 0
 (.loop (f140b0 G))))
 (.seq (.ops [iO 6 (.mv (aI 0))])
 (.ret)))
def f140 (G : Nat → AVal) : AFn := ⟨23, [.tmp 6], f140m G⟩
theorem f140_c (G : Nat → AVal) : cmpFn Tryz.prog G [] 140 = some (f140 G) := by kernel_rfl
def f141m (G : Nat → AVal) : MC :=
 .seq (.ops [iO 1 (.box false 1 0), iO 2 (.alloc 7 [.int 0, .nilS, .int 0, .int 0, .int 0, .str [], .str []])])
 (.seq (.ops [iO 3 (.load false 1 1), iO 4 (.load false 1 1), iO 5 (.mkfn (.func 143) [4] []), iO 6 (.mkfn (.func 144) [] [1]), iC 7 120 [3, 5, 6], iZ (.store true 7 2 7)])
 (.ret))
def f141 (G : Nat → AVal) : AFn := ⟨8, [.cell 2 true 7], f141m G⟩
theorem f141_c (G : Nat → AVal) : cmpFn Tryz.prog G [] 141 = some (f141 G) := by kernel_rfl
def f142m (G : Nat → AVal) : MC :=
 .seq (.ops [iO 1 (.mv (aI 0))])
 (.seq (.seq (.ops [iO 2 (.load false 1 0), iC 3 85 [2, (aS [124, 124])]])
 (.cond 3
 (.seq (.ops [iO 1 (.mv (aI 12))])
 (.ret))
 (.skip)))
 (.seq (.ops [iO 4 (.load false 1 0), iO 5 (.bslice false 1 2 [.str []] [(0, (aS [43])), (1, (aS [45]))]), iC 6 140 [4, 5, (aI 7)], iO 1 (.mv 6)])
 (.ret)))
def f142 (G : Nat → AVal) : AFn := ⟨7, [.tmp 1], f142m G⟩
theorem f142_c (G : Nat → AVal) : cmpFn Tryz.prog G [] 142 = some (f142 G) := by kernel_rfl
def f143m (G : Nat → AVal) : MC :=
 .seq (.ops [iO 1 (.box false 1 0), iO 2 (.alloc 7 [.int 0, .nilS, .int 0, .int 0, .int 0, .str [], .str []])])
 (.seq (.ops [iO 3 (.mkfn (.func 145) [] [1]), iO 4 (.load false 1 1), iO 5 (.mkfn (.func 146) [4] []), iC 6 136 [(aI 13), 3, 5], iZ (.store true 7 2 6)])
 (.ret))
def f143 (G : Nat → AVal) : AFn := ⟨7, [.cell 2 true 7], f143m G⟩
theorem f143_c (G : Nat → AVal) : cmpFn Tryz.prog G [] 143 = some (f143 G) := by kernel_rfl
def f144m (G : Nat → AVal) : MC :=
 .seq (.ops [iO 1 (.mv (aI 0))])
 (.seq (.ops [iO 2 (.load false 1 0), iO 3 (.bslice false 1 3 [.str []] [(0, (aS [42])), (1, (aS [47])), (2, (aS [37]))]), iC 4 140 [2, 3, (aI 9)], iO 1 (.mv 4)])
 (.ret))
def f144 (G : Nat → AVal) : AFn := ⟨5, [.tmp 1], f144m G⟩
theorem f144_c (G : Nat → AVal) : cmpFn Tryz.prog G [] 144 = some (f144 G) := by kernel_rfl
def f145m (G : Nat → AVal) : MC :=
 .seq (.ops [iO 1 (.mv (.val (.bool false)))])
 (.seq (.ops [iO 2 (.load false 1 0), iC 3 85 [2, (aS [45])], iO 1 (.mv 3)])
 (.ret))
def f145 (G : Nat → AVal) : AFn := ⟨4, [.tmp 1], f145m G⟩
theorem f145_c (G : Nat → AVal) : cmpFn Tryz.prog G [] 145 = some (f145 G) := by kernel_rfl
def f146m (G : Nat → AVal) : MC :=
 .seq (.ops [iO 2 (.alloc 7 [.int 0, .nilS, .int 0, .int 0, .int 0, .str [], .str []])])
 (.seq (.ops [iO 5 (.mv 0), iC 6 39 [5], iO 3 (.alloc 4 [.int 0, .str [], .int 0, .int 0]), iZ (.store true 4 3 6)])
 (.seq (.ops [iO 7 (.faddr 2 3), iO 8 (.load false 1 7), iO 9 (.faddr 3 3), iO 10 (.load false 1 9), iO 11 (.build [.int 0, .nilS, .int 0, .int 0, .int 0, .str [], .str []] [(false, 0, 1, (aI 21)), (false, 3, 1, 8), (false, 4, 1, 10)]), iO 4 (.alloc 7 [.int 0, .nilS, .int 0, .int 0, .int 0, .str [], .str []]), iZ (.store true 7 4 11)])
 (.seq (.seq (.ops [iO 12 (.faddr 0 3), iO 13 (.load false 1 12)])
 (.block 0
 (.seq (.ops [iO 17 (.bin .eql .int 13 (aI 2)), iO 16 (.mv 17)])
 (.cond 16
 (.ops [iO 18 (.faddr 2 4), iZ (.store false 1 18 (aI 2))])
 (.seq (.ops [iO 20 (.bin .eql .int 13 (aI 3)), iO 19 (.mv 20)])
 (.cond 19
 (.ops [iO 21 (.faddr 2 4), iZ (.store false 1 21 (aI 3))])
 (.seq (.ops [iO 23 (.bin .eql .int 13 (aI 4)), iO 22 (.mv 23)])
 (.cond 22
 (.draw (.rd [⟨0, iO 24 (.faddr 1 3), false, true⟩, ⟨1, iO 25 (.load false 1 24), false, true⟩, ⟨2, iO 26 (.faddr 2 4), false, false⟩]
 (.ef ⟨3, iZ (.store false 1 26 (aI 4)), true, false⟩ [0, 1]
 (.rd [⟨4, iO 27 (.faddr 5 4), false, false⟩]
 (.ef ⟨5, iZ (.store false 1 27 25), true, false⟩ []
 (.nil))))))
 (.seq (.ops [iO 29 (.bin .eql .int 13 (aI 1)), iO 28 (.mv 29)])
 (.cond 28
 (.seq (.ops [iO 30 (.mv 0), iO 31 (.faddr 1 3), iO 32 (.load false 1 31), iC 33 147 [30, 32], iZ (.store true 7 2 33)])
 (.ret))
 (.seq (.ops [iO 14 (.mv 0), iC 15 148 [14], iZ (.store true 7 2 15)])
 (.ret))))))))))))
 (.seq (.ops [iO 34 (.mv 0), iO 35 (.mv 0), iO 36 (.nilck 35), iO 37 (.faddr 0 36), iO 38 (.load false 1 37), iO 39 (.slc 4 38 (some (aI 1)) none none), iO 40 (.nilck 34), iO 41 (.faddr 0 40), iZ (.store false 1 41 39)])
 (.seq (.ops [iO 42 (.load true 7 4), iZ (.store true 7 2 42)])
 (.ret))))))
def f146 (G : Nat → AVal) : AFn := ⟨43, [.cell 2 true 7], f146m G⟩
theorem f146_c (G : Nat → AVal) : cmpFn Tryz.prog G [] 146 = some (f146 G) := by kernel_rfl
def f147m (G : Nat → AVal) : MC :=
 .seq (.ops [iO 4 (.alloc 7 [.int 0, .nilS, .int 0, .int 0, .int 0, .str [], .str []])])
 (.seq (.ops [iO 7 (.build [.int 0, .nilS, .int 0, .int 0, .int 0, .str [], .str []] [(false, 0, 1, (aI 21))]), iO 5 (.alloc 7 [.int 0, .nilS, .int 0, .int 0, .int 0, .str [], .str []]), iZ (.store true 7 5 7)])
 (.seq (.seq (.ops [iO 8 (.mv 1)])
 (.block 0
 (.seq (.ops [iO 22 (.bin .eql .str 8 (aS [110, 117, 108, 108])), iO 21 (.mv 22)])
 (.cond 21
 (.skip)
 (.seq (.ops [iO 24 (.bin .eql .str 8 (aS [116, 114, 117, 101])), iO 23 (.mv 24)])
 (.cond 23
 (.ops [iO 25 (.faddr 2 5), iZ (.store false 1 25 (aI 1)), iO 26 (.faddr 3 5), iZ (.store false 1 26 (aI 1))])
 (.seq (.ops [iO 28 (.bin .eql .str 8 (aS [102, 97, 108, 115, 101])), iO 27 (.mv 28)])
 (.cond 27
 (.ops [iO 29 (.faddr 2 5), iZ (.store false 1 29 (aI 1))])
 (.seq (.ops [iO 31 (.bin .eql .str 8 (aS [110, 97, 110])), iO 30 (.mv 31)])
 (.cond 30
 (.ops [iO 32 (.faddr 2 5), iZ (.store false 1 32 (aI 3)), iO 33 (.faddr 4 5), iZ (.store false 1 33 (aI (-1)))])
 (.seq (.ops [iO 35 (.bin .eql .str 8 (aS [105, 110, 102, 105, 110, 105, 116, 121])), iO 34 (.mv 35)])
 (.cond 34
 (.ops [iO 36 (.faddr 2 5), iZ (.store false 1 36 (aI 3)), iO 37 (.faddr 4 5), iZ (.store false 1 37 (aI (-2)))])
 (.seq (.seq (.ops [iO 39 (.bin .eql .str 8 (aS [105, 110, 116])), iO 38 (.mv 39)])
 (.cond 38
 (.skip)
 (.ops [iO 40 (.bin .eql .str 8 (aS [114, 101, 97, 108])), iO 38 (.mv 40)])))
 (.cond 38
 (.seq (.ops [iO 41 (.mv 0), iO 42 (.mv 1), iO 43 (.bslice false 1 1 [.str []] [(0, 42)]), iC 44 40 [41, 43]])
 (.seq (.ops [iO 6 (.mv (aI 14))])
 (.seq (.seq (.ops [iO 45 (.mv 1), iO 46 (.bin .eql .str 45 (aS [114, 101, 97, 108]))])
 (.cond 46
 (.ops [iO 6 (.mv (aI 15))])
 (.skip)))
 (.seq (.ops [iO 47 (.mv 6), iO 48 (.mv 0), iC 49 148 [48], iO 50 (.bslice true 7 1 [.int 0, .nilS, .int 0, .int 0, .int 0, .str [], .str []] [(0, 49)]), iO 51 (.build [.int 0, .nilS, .int 0, .int 0, .int 0, .str [], .str []] [(false, 0, 1, 47), (false, 1, 1, 50)]), iZ (.store true 7 4 51)])
 (.ret)))))
 (.seq (.ops [iO 9 (.mv 0), iC 10 43 [9], iO 11 (.build [.int 0, .nilS, .int 0, .int 0, .int 0, .str [], .str []] [(false, 0, 1, (aI 22)), (false, 5, 1, 10)]), iZ (.store true 7 5 11)])
 (.seq (.seq (.ops [iO 12 (.mv 0), iC 13 85 [12, (aS [46])]])
 (.cond 13
 (.draw (.rd [⟨0, iO 14 (.faddr 5 5), false, true⟩, ⟨1, iO 15 (.load false 1 14), false, true⟩, ⟨2, iO 16 (.mv 0), false, false⟩, ⟨4, iO 18 (.faddr 6 5), false, true⟩]
 (.ef ⟨3, iC 17 43 [16], true, false⟩ [0, 1, 4]
 (.ef ⟨5, iZ (.store false 1 18 15), true, false⟩ []
 (.rd [⟨6, iO 19 (.faddr 5 5), false, false⟩]
 (.ef ⟨7, iZ (.store false 1 19 17), true, false⟩ []
 (.nil)))))))
 (.skip)))
 (.seq (.ops [iO 20 (.load true 7 5), iZ (.store true 7 4 20)])
 (.ret))))))))))))))))))
 (.seq (.ops [iO 52 (.mv 0), iO 53 (.mv 1), iO 54 (.bslice false 1 1 [.str []] [(0, 53)]), iC 55 40 [52, 54]])
 (.seq (.ops [iO 56 (.load true 7 5), iZ (.store true 7 4 56)])
 (.ret)))))
def f147 (G : Nat → AVal) : AFn := ⟨57, [.cell 4 true 7], f147m G⟩
theorem f147_c (G : Nat → AVal) : cmpFn Tryz.prog G [] 147 = some (f147 G) := by kernel_rfl
def f148m (G : Nat → AVal) : MC :=
 .seq (.ops [iO 2 (.alloc 7 [.int 0, .nilS, .int 0, .int 0, .int 0, .str [], .str []])])
 (.seq (.seq (.ops [iO 5 (.mv 0), iC 6 39 [5], iO 3 (.alloc 4 [.int 0, .str [], .int 0, .int 0]), iZ (.store true 4 3 6)])
 (.seq (.ops [iO 7 (.faddr 0 3), iO 8 (.load false 1 7), iO 9 (.bin .eql .int 8 (aI 5)), iO 10 (.mv 9), iG 11 10 true (.faddr 1 3), iG 12 10 true (.load false 1 11), iG 13 10 true (.bin .eql .str 12 (aS [40])), iO 14 (.pick 10 13 (.val (.bool false))), iO 15 (.mv 14), iG 16 15 true (.mv 0), iG 17 15 true (.nilck 16), iG 18 15 true (.faddr 1 17), iG 19 15 true (.load false 1 18), iG 20 15 true (.bin .eql .int 19 (aI 40)), iO 21 (.pick 15 20 (.val (.bool false)))])
 (.cond 21
 (.ops [iC 22 22 [(aI 5)]])
 (.skip))))
 (.seq (.ops [iO 23 (.mv 0), iC 24 75 [23, (aS [40])]])
 (.seq (.ops [iO 25 (.mv 0), iO 26 (.nilck 25), iO 27 (.faddr 1 26), iO 28 (.load false 1 27), iO 29 (.bin .add .int 28 (aI 1)), iO 30 (.nilck 25), iO 31 (.faddr 1 30), iZ (.store false 1 31 29)])
 (.seq (.ops [iO 32 (.mv 0), iC 33 107 [32], iO 4 (.alloc 7 [.int 0, .nilS, .int 0, .int 0, .int 0, .str [], .str []]), iZ (.store true 7 4 33)])
 (.seq (.ops [iO 34 (.mv 0), iO 35 (.nilck 34), iO 36 (.faddr 1 35), iO 37 (.load false 1 36), iO 38 (.bin .sub .int 37 (aI 1)), iO 39 (.nilck 34), iO 40 (.faddr 1 39), iZ (.store false 1 40 38)])
 (.seq (.ops [iO 41 (.mv 0), iC 42 75 [41, (aS [41])]])
 (.seq (.ops [iO 43 (.load true 7 4), iZ (.store true 7 2 43)])
 (.ret))))))))
def f148 (G : Nat → AVal) : AFn := ⟨44, [.cell 2 true 7], f148m G⟩
theorem f148_c (G : Nat → AVal) : cmpFn Tryz.prog G [] 148 = some (f148 G) := by kernel_rfl
end Go.Abs
set_option linter.unusedVariables false
namespace Go.Abs
open Go Go.RowKit Go.Proofs
def f76b0 (G : Nat → AVal) : MC :=
 .seq (.block 1
 (.seq (.ops [iO 10 (.mv 2), ⟨some 11, none, .callV 10 []⟩])
 (.seq (.seq (.ops [iO 12 (.mv 0), iC 13 39 [12], iO 7 (.alloc 4 [.int 0, .str [], .int 0, .int 0]), iZ (.store true 4 7 13)])
 (.seq (.ops [iO 14 (.faddr 0 7), iO 15 (.load false 1 14), iO 16 (.bin .neq .int 15 (aI 5)), iO 17 (.mv 16), iG 18 17 false (.faddr 1 7), iG 19 17 false (.load false 1 18), iG 20 17 false (.bin .neq .str 19 (aS [44])), iO 21 (.pick 17 (.val (.bool true)) 20)])
 (.cond 21
 (.ret)
 (.skip))))
 (.seq (.seq (.ops [iO 22 (.mv 6), iO 23 (.mv 1), iO 24 (.bin .eql .int 22 23)])
 (.cond 24
 (.ops [iC 25 22 [(aI 151)]])
 (.skip)))
 (.ops [iO 26 (.mv 0), iC 27 85 [26, (aS [44])]])))))
 (.ops [iO 8 (.mv 6), iO 9 (.bin .add .int 8 (aI 1)), iO 6 (.mv 9)])
def f76m (G : Nat → AVal) : MC :=
 .seq (.ops [iO 6 (.mv (aI 1))])
 (.block 0
 (.loop (f76b0 G)))
def f76 (G : Nat → AVal) : AFn := ⟨28, [], f76m G⟩
theorem f76_c (G : Nat → AVal) : cmpFn Tryz.prog G [] 76 = some (f76 G) := by kernel_rfl
def f77m (G : Nat → AVal) : MC :=
 .draw (.rd [⟨0, iO 2 (.load false 1 0), false, true⟩, ⟨1, iO 3 (.load false 1 0), false, true⟩, ⟨2, iO 4 (.nilck 3), false, true⟩, ⟨3, iO 5 (.faddr 3 4), false, true⟩, ⟨4, iO 6 (.load false 1 5), false, true⟩, ⟨5, iO 7 (.load false 1 1), false, false⟩]
 (.ef ⟨6, iC 8 78 [7], true, false⟩ [0, 1, 2, 3, 4]
 (.rd [⟨7, iO 9 (.bslice true 3 1 [.str [], .int 0, .bool false] [(0, 8)]), false, false⟩]
 (.ef ⟨8, iO 10 (.append 3 32 6 9), true, false⟩ [0]
 (.rd [⟨9, iO 11 (.nilck 2), false, false⟩, ⟨10, iO 12 (.faddr 3 11), false, false⟩]
 (.ef ⟨11, iZ (.store false 1 12 10), true, false⟩ []
 (.nil)))))))
def f77 (G : Nat → AVal) : AFn := ⟨13, [], f77m G⟩
theorem f77_c (G : Nat → AVal) : cmpFn Tryz.prog G [] 77 = some (f77 G) := by kernel_rfl
def f78m (G : Nat → AVal) : MC :=
 .seq (.ops [iO 2 (.alloc 3 [.str [], .int 0, .bool false])])
 (.seq (.ops [iO 3 (.mv 0), iC 4 43 [3], iO 5 (.faddr 0 2), iZ (.store false 1 5 4)])
 (.seq (.block 0
 (.seq (.ops [iO 11 (.mv 0), iC 12 42 [11, (aS [105, 110, 116])], iO 10 (.mv 12)])
 (.cond 10
 (.ops [iO 13 (.faddr 1 2), iZ (.store false 1 13 (aI 2))])
 (.seq (.ops [iO 15 (.mv 0), iC 16 42 [15, (aS [114, 101, 97, 108])], iO 14 (.mv 16)])
 (.cond 14
 (.ops [iO 17 (.faddr 1 2), iZ (.store false 1 17 (aI 3))])
 (.seq (.ops [iO 19 (.mv 0), iC 20 42 [19, (aS [98, 111, 111, 108])], iO 18 (.mv 20)])
 (.cond 18
 (.ops [iO 21 (.faddr 1 2), iZ (.store false 1 21 (aI 1))])
 (.seq (.ops [iO 6 (.mv 0), iO 7 (.bslice false 1 1 [.str []] [(0, (aS [116, 101, 120, 116]))]), iC 8 40 [6, 7]])
 (.ops [iO 9 (.faddr 1 2), iZ (.store false 1 9 (aI 4))])))))))))
 (.seq (.seq (.ops [iO 22 (.mv 0), iC 23 42 [22, (aS [110, 111, 116])]])
 (.cond 23
 (.seq (.ops [iO 24 (.mv 0), iO 25 (.bslice false 1 1 [.str []] [(0, (aS [110, 117, 108, 108]))]), iC 26 40 [24, 25]])
 (.ops [iO 27 (.faddr 2 2), iZ (.store false 1 27 (.val (.bool true)))]))
 (.skip)))
 (.seq (.ops [iO 28 (.load true 3 2), iZ (.store true 3 2 28)])
 (.ret)))))
def f78 (G : Nat → AVal) : AFn := ⟨29, [.cell 2 true 3], f78m G⟩
theorem f78_c (G : Nat → AVal) : cmpFn Tryz.prog G [] 78 = some (f78 G) := by kernel_rfl
def f79m (G : Nat → AVal) : MC :=
 .draw (.rd [⟨0, iO 2 (.load false 1 0), false, true⟩, ⟨1, iO 3 (.load false 1 0), false, true⟩, ⟨2, iO 4 (.nilck 3), false, true⟩, ⟨3, iO 5 (.faddr 4 4), false, true⟩, ⟨4, iO 6 (.load false 1 5), false, true⟩, ⟨5, iO 7 (.load false 1 1), false, false⟩]
 (.ef ⟨6, iC 8 43 [7], true, false⟩ [0, 1, 2, 3, 4]
 (.rd [⟨7, iO 9 (.bslice false 1 1 [.str []] [(0, 8)]), false, false⟩]
 (.ef ⟨8, iO 10 (.append 1 16 6 9), true, false⟩ [0]
 (.rd [⟨9, iO 11 (.nilck 2), false, false⟩, ⟨10, iO 12 (.faddr 4 11), false, false⟩]
 (.ef ⟨11, iZ (.store false 1 12 10), true, false⟩ []
 (.nil)))))))
def f79 (G : Nat → AVal) : AFn := ⟨13, [], f79m G⟩
theorem f79_c (G : Nat → AVal) : cmpFn Tryz.prog G [] 79 = some (f79 G) := by kernel_rfl
def f82m (G : Nat → AVal) : MC :=
 .seq (.ops [iO 2 (.alloc 1 [.nilS])])
 (.seq (.ops [iO 3 (.load false 1 0), iC 4 75 [3, (aS [40])]])
 (.seq (.ops [iO 5 (.load false 1 0), iO 6 (.mkfn (.func 83) [] [2, 0]), iC 7 76 [5, (aI 50), 6]])
 (.seq (.ops [iO 8 (.load false 1 0), iC 9 75 [8, (aS [41])]])
 (.draw (.rd [⟨0, iO 10 (.load false 1 1), false, true⟩, ⟨1, iO 11 (.load false 1 1), false, false⟩, ⟨2, iO 12 (.nilck 11), false, false⟩, ⟨3, iO 13 (.faddr 6 12), false, false⟩, ⟨4, iO 14 (.load false 1 13), false, false⟩, ⟨5, iO 15 (.load false 1 2), false, false⟩, ⟨6, iO 16 (.bslice false 1 1 [.nilS] [(0, 15)]), false, false⟩]
 (.ef ⟨7, iO 17 (.append 1 24 14 16), true, false⟩ [0]
 (.rd [⟨8, iO 18 (.nilck 10), false, false⟩, ⟨9, iO 19 (.faddr 6 18), false, false⟩]
 (.ef ⟨10, iZ (.store false 1 19 17), true, false⟩ []
 (.nil)))))))))
def f82 (G : Nat → AVal) : AFn := ⟨20, [], f82m G⟩
theorem f82_c (G : Nat → AVal) : cmpFn Tryz.prog G [] 82 = some (f82 G) := by kernel_rfl
def f83m (G : Nat → AVal) : MC :=
 .draw (.rd [⟨0, iO 2 (.load false 1 0), false, true⟩, ⟨1, iO 3 (.load false 1 1), false, false⟩, ⟨3, iO 5 (.lenS 2), false, true⟩, ⟨4, iO 6 (.bslice true 7 1 [.int 0, .nilS, .int 0, .int 0, .int 0, .str [], .str []] [(0, (.val (.agg [.int 0, .nilS, .int 0, .int 0, .int 0, .str [], .str []])))]), false, true⟩]
 (.ef ⟨2, iC 4 84 [3], true, false⟩ [0, 3, 4]
 (.ef ⟨5, iO 7 (.append 7 88 2 6), true, false⟩ []
 (.rd [⟨6, iO 8 (.iaddr 7 7 5), false, true⟩]
 (.or (.ef ⟨7, iZ (.store true 7 8 4), true, false⟩ []
 (.ef ⟨8, iZ (.store false 1 0 7), true, false⟩ []
 (.nil)))
 (.ef ⟨8, iZ (.store false 1 0 7), true, false⟩ [6]
 (.ef ⟨7, iZ (.store true 7 8 4), true, false⟩ []
 (.nil))))))))
def f83 (G : Nat → AVal) : AFn := ⟨9, [], f83m G⟩
theorem f83_c (G : Nat → AVal) : cmpFn Tryz.prog G [] 83 = some (f83 G) := by kernel_rfl
def f86m (G : Nat → AVal) : MC :=
 .seq (.ops [iO 3 (.load false 1 0), iC 4 84 [3], iO 5 (.build [.int 0, .nilS, .int 0, .int 0, .int 0, .str [], .str [], .str []] [(true, 0, 7, 4)]), iO 2 (.alloc 8 [.int 0, .nilS, .int 0, .int 0, .int 0, .str [], .str [], .str []]), iZ (.store true 8 2 5)])
 (.seq (.seq (.ops [iO 6 (.load false 1 0), iC 7 42 [6, (aS [97, 115])]])
 (.cond 7
 (.ops [iO 8 (.load false 1 0), iC 9 43 [8], iO 10 (.faddr 7 2), iZ (.store false 1 10 9)])
 (.skip)))
 (.draw (.rd [⟨0, iO 11 (.load false 1 1), false, true⟩, ⟨1, iO 12 (.load false 1 1), false, false⟩, ⟨2, iO 13 (.nilck 12), false, false⟩, ⟨3, iO 14 (.faddr 7 13), false, false⟩, ⟨4, iO 15 (.load false 1 14), false, false⟩, ⟨5, iO 16 (.load true 8 2), false, false⟩, ⟨6, iO 17 (.bslice true 8 1 [.int 0, .nilS, .int 0, .int 0, .int 0, .str [], .str [], .str []] [(0, 16)]), false, false⟩]
 (.ef ⟨7, iO 18 (.append 8 104 15 17), true, false⟩ [0]
 (.rd [⟨8, iO 19 (.nilck 11), false, false⟩, ⟨9, iO 20 (.faddr 7 19), false, false⟩]
 (.ef ⟨10, iZ (.store false 1 20 18), true, false⟩ []
 (.nil)))))))
def f86 (G : Nat → AVal) : AFn := ⟨21, [], f86m G⟩
theorem f86_c (G : Nat → AVal) : cmpFn Tryz.prog G [] 86 = some (f86 G) := by kernel_rfl
def f87m (G : Nat → AVal) : MC :=
 .seq (.ops [iO 2 (.alloc 9 [.str [], .str [], .int 0, .nilS, .int 0, .int 0, .int 0, .str [], .str []])])
 (.seq (.ops [iO 3 (.mv 0), iC 4 43 [3], iO 5 (.faddr 0 2), iZ (.store false 1 5 4)])
 (.seq (.seq (.ops [iO 6 (.mv 0), iC 7 42 [6, (aS [97, 115])]])
 (.cond 7
 (.ops [iO 8 (.mv 0), iC 9 43 [8], iO 10 (.faddr 1 2), iZ (.store false 1 10 9)])
 (.skip)))
 (.seq (.ops [iO 11 (.load true 9 2), iZ (.store true 9 2 11)])
 (.ret))))
def f87 (G : Nat → AVal) : AFn := ⟨12, [.cell 2 true 9], f87m G⟩
theorem f87_c (G : Nat → AVal) : cmpFn Tryz.prog G [] 87 = some (f87 G) := by kernel_rfl
def f88m (G : Nat → AVal) : MC :=
 .draw (.rd [⟨0, iO 2 (.load false 1 0), false, true⟩, ⟨1, iO 3 (.load false 1 0), false, true⟩, ⟨2, iO 4 (.nilck 3), false, true⟩, ⟨3, iO 5 (.faddr 16 4), false, true⟩, ⟨4, iO 6 (.load false 1 5), false, true⟩, ⟨5, iO 7 (.load false 1 1), false, false⟩, ⟨7, iO 9 (.load false 1 1), false, true⟩]
 (.ef ⟨6, iC 8 84 [7], true, false⟩ [0, 1, 2, 3, 4, 7]
 (.ef ⟨8, iC 10 42 [9, (aS [100, 101, 115, 99])], true, false⟩ [0, 1, 2, 3, 4]
 (.rd [⟨9, iO 11 (.build [.int 0, .nilS, .int 0, .int 0, .int 0, .str [], .str [], .bool false] [(true, 0, 7, 8), (false, 7, 1, 10)]), false, false⟩, ⟨10, iO 12 (.bslice true 8 1 [.int 0, .nilS, .int 0, .int 0, .int 0, .str [], .str [], .bool false] [(0, 11)]), false, false⟩]
 (.ef ⟨11, iO 13 (.append 8 96 6 12), true, false⟩ [0]
 (.rd [⟨12, iO 14 (.nilck 2), false, false⟩, ⟨13, iO 15 (.faddr 16 14), false, false⟩]
 (.ef ⟨14, iZ (.store false 1 15 13), true, false⟩ []
 (.nil))))))))
def f88 (G : Nat → AVal) : AFn := ⟨16, [], f88m G⟩
theorem f88_c (G : Nat → AVal) : cmpFn Tryz.prog G [] 88 = some (f88 G) := by kernel_rfl
def f89m (G : Nat → AVal) : MC :=
 .seq (.ops [iO 3 (.load false 1 0), iC 4 43 [3], iO 2 (.mv 4)])
 (.seq (.ops [iO 5 (.load false 1 0), iC 6 75 [5, (aS [61])]])
 (.draw (.rd [⟨0, iO 7 (.load false 1 1), false, true⟩, ⟨1, iO 8 (.load false 1 1), false, true⟩, ⟨2, iO 9 (.nilck 8), false, true⟩, ⟨3, iO 10 (.faddr 17 9), false, true⟩, ⟨4, iO 11 (.load false 1 10), false, true⟩, ⟨5, iO 12 (.mv 2), false, true⟩, ⟨6, iO 13 (.load false 1 0), false, false⟩]
 (.ef ⟨7, iC 14 84 [13], true, false⟩ [0, 1, 2, 3, 4, 5]
 (.rd [⟨8, iO 15 (.build [.str [], .int 0, .nilS, .int 0, .int 0, .int 0, .str [], .str []] [(false, 0, 1, 12), (true, 1, 7, 14)]), false, false⟩, ⟨9, iO 16 (.bslice true 8 1 [.str [], .int 0, .nilS, .int 0, .int 0, .int 0, .str [], .str []] [(0, 15)]), false, false⟩]
 (.ef ⟨10, iO 17 (.append 8 104 11 16), true, false⟩ [0]
 (.rd [⟨11, iO 18 (.nilck 7), false, false⟩, ⟨12, iO 19 (.faddr 17 18), false, false⟩]
 (.ef ⟨13, iZ (.store false 1 19 17), true, false⟩ []
 (.nil)))))))))
def f89 (G : Nat → AVal) : AFn := ⟨20, [], f89m G⟩
theorem f89_c (G : Nat → AVal) : cmpFn Tryz.prog G [] 89 = some (f89 G) := by kernel_rfl
def f41m (G : Nat → AVal) : MC :=
 .seq (.ops [iO 2 (.box false 1 0), iO 3 (.box false 1 1)])
 (.seq (.seq (.ops [iO 4 (.load false 1 2), iC 5 42 [4, (aS [116, 97, 98, 108, 101])]])
 (.cond 5
 (.seq (.draw (.rd [⟨0, iO 6 (.load false 1 3), false, true⟩, ⟨1, iO 7 (.load false 1 3), false, true⟩, ⟨2, iO 8 (.load false 1 2), false, false⟩]
 (.ef ⟨3, iC 9 43 [8], true, false⟩ [0, 1]
 (.rd [⟨4, iO 10 (.nilck 6), false, false⟩, ⟨5, iO 11 (.faddr 0 10), false, false⟩]
 (.ef ⟨6, iZ (.store false 1 11 (aI 1)), true, false⟩ [1]
 (.rd [⟨7, iO 12 (.nilck 7), false, false⟩, ⟨8, iO 13 (.faddr 1 12), false, false⟩]
 (.ef ⟨9, iZ (.store false 1 13 9), true, false⟩ []
 (.nil))))))))
 (.seq (.ops [iO 14 (.load false 1 2), iC 15 75 [14, (aS [40])]])
 (.seq (.ops [iO 16 (.load false 1 2), iO 17 (.mkfn (.func 77) [] [3, 2]), iC 18 76 [16, (aI 16), 17]])
 (.seq (.ops [iO 19 (.load false 1 2), iC 20 75 [19, (aS [41])]])
 (.ret)))))
 (.skip)))
 (.seq (.draw (.rd [⟨0, iO 21 (.load false 1 3), false, true⟩, ⟨1, iO 22 (.load false 1 3), false, true⟩, ⟨2, iO 23 (.load false 1 2), false, false⟩]
 (.ef ⟨3, iC 24 42 [23, (aS [117, 110, 105, 113, 117, 101])], true, false⟩ [0, 1]
 (.rd [⟨4, iO 25 (.nilck 21), false, false⟩, ⟨5, iO 26 (.faddr 0 25), false, false⟩]
 (.ef ⟨6, iZ (.store false 1 26 (aI 3)), true, false⟩ [1]
 (.rd [⟨7, iO 27 (.nilck 22), false, false⟩, ⟨8, iO 28 (.faddr 5 27), false, false⟩]
 (.ef ⟨9, iZ (.store false 1 28 24), true, false⟩ []
 (.nil))))))))
 (.seq (.ops [iO 29 (.load false 1 2), iO 30 (.bslice false 1 1 [.str []] [(0, (aS [105, 110, 100, 101, 120]))]), iC 31 40 [29, 30]])
 (.seq (.draw (.rd [⟨0, iO 32 (.load false 1 3), false, true⟩, ⟨1, iO 33 (.load false 1 2), false, false⟩]
 (.ef ⟨2, iC 34 43 [33], true, false⟩ [0]
 (.rd [⟨3, iO 35 (.nilck 32), false, false⟩, ⟨4, iO 36 (.faddr 2 35), false, false⟩]
 (.ef ⟨5, iZ (.store false 1 36 34), true, false⟩ []
 (.nil))))))
 (.seq (.ops [iO 37 (.load false 1 2), iO 38 (.bslice false 1 1 [.str []] [(0, (aS [111, 110]))]), iC 39 40 [37, 38]])
 (.seq (.draw (.rd [⟨0, iO 40 (.load false 1 3), false, true⟩, ⟨1, iO 41 (.load false 1 2), false, false⟩]
 (.ef ⟨2, iC 42 43 [41], true, false⟩ [0]
 (.rd [⟨3, iO 43 (.nilck 40), false, false⟩, ⟨4, iO 44 (.faddr 1 43), false, false⟩]
 (.ef ⟨5, iZ (.store false 1 44 42), true, false⟩ []
 (.nil))))))
 (.seq (.ops [iO 45 (.load false 1 2), iC 46 75 [45, (aS [40])]])
 (.seq (.ops [iO 47 (.load false 1 2), iO 48 (.mkfn (.func 79) [] [3, 2]), iC 49 76 [47, (aI 4), 48]])
 (.ops [iO 50 (.load false 1 2), iC 51 75 [50, (aS [41])]])))))))))
def f41 (G : Nat → AVal) : AFn := ⟨52, [], f41m G⟩
theorem f41_c (G : Nat → AVal) : cmpFn Tryz.prog G [] 41 = some (f41 G) := by kernel_rfl
def f44m (G : Nat → AVal) : MC :=
 .seq (.ops [iO 2 (.box false 1 0), iO 3 (.box false 1 1)])
 (.seq (.ops [iO 4 (.load false 1 2), iO 5 (.bslice false 1 1 [.str []] [(0, (aS [105, 110, 116, 111]))]), iC 6 40 [4, 5]])
 (.seq (.draw (.rd [⟨0, iO 7 (.load false 1 3), false, true⟩, ⟨1, iO 8 (.load false 1 3), false, true⟩, ⟨2, iO 9 (.load false 1 2), false, false⟩]
 (.ef ⟨3, iC 10 43 [9], true, false⟩ [0, 1]
 (.rd [⟨4, iO 11 (.nilck 7), false, false⟩, ⟨5, iO 12 (.faddr 0 11), false, false⟩]
 (.ef ⟨6, iZ (.store false 1 12 (aI 5)), true, false⟩ [1]
 (.rd [⟨7, iO 13 (.nilck 8), false, false⟩, ⟨8, iO 14 (.faddr 1 13), false, false⟩]
 (.ef ⟨9, iZ (.store false 1 14 10), true, false⟩ []
 (.nil))))))))
 (.seq (.ops [iO 15 (.load false 1 2), iO 16 (.bslice false 1 1 [.str []] [(0, (aS [118, 97, 108, 117, 101, 115]))]), iC 17 40 [15, 16]])
 (.ops [iO 18 (.load false 1 2), iO 19 (.mkfn (.func 82) [] [2, 3]), iC 20 76 [18, (aI 50), 19]]))))
def f44 (G : Nat → AVal) : AFn := ⟨21, [], f44m G⟩
theorem f44_c (G : Nat → AVal) : cmpFn Tryz.prog G [] 44 = some (f44 G) := by kernel_rfl
def f45b0 (G : Nat → AVal) : MC :=
 .seq (.seq (.ops [iO 26 (.faddr 0 4), iO 27 (.load false 1 26), iO 28 (.bin .eql .int 27 (aI 1)), iO 29 (.mv 28), iG 30 29 true (.faddr 1 4), iG 31 29 true (.load false 1 30), iG 32 29 true (.bin .eql .str 31 (aS [105, 110, 110, 101, 114])), iG 33 29 true (.mv 32), iG 34 33 false (.faddr 1 4), iG 35 33 false (.load false 1 34), iG 36 33 false (.bin .eql .str 35 (aS [106, 111, 105, 110])), iG 37 29 true (.pick 33 (.val (.bool true)) 36), iO 38 (.pick 29 37 (.val (.bool false)))])
 (.cond 38
 (.skip)
 (.exit 0)))
 (.seq (.block 1
 (.seq (.seq (.ops [iO 41 (.load false 1 3), iO 42 (.nilck 41), iO 43 (.faddr 8 42), iO 44 (.load false 1 43), iO 45 (.lenS 44), iO 46 (.bin .eql .int 45 (aI 4))])
 (.cond 46
 (.ops [iC 47 22 [(aI 151)]])
 (.skip)))
 (.seq (.ops [iO 48 (.load false 1 2), iC 49 42 [48, (aS [105, 110, 110, 101, 114])]])
 (.seq (.ops [iO 50 (.load false 1 2), iO 51 (.bslice false 1 1 [.str []] [(0, (aS [106, 111, 105, 110]))]), iC 52 40 [50, 51]])
 (.seq (.ops [iO 53 (.load false 1 2), iC 54 87 [53], iO 5 (.alloc 9 [.str [], .str [], .int 0, .nilS, .int 0, .int 0, .int 0, .str [], .str []]), iZ (.store true 9 5 54)])
 (.seq (.ops [iO 55 (.load false 1 2), iO 56 (.bslice false 1 1 [.str []] [(0, (aS [111, 110]))]), iC 57 40 [55, 56]])
 (.seq (.ops [iO 58 (.load false 1 2), iC 59 84 [58], iO 60 (.faddr 2 5), iZ (.store true 7 60 59)])
 (.draw (.rd [⟨0, iO 61 (.load false 1 3), false, true⟩, ⟨1, iO 62 (.load false 1 3), false, false⟩, ⟨2, iO 63 (.nilck 62), false, false⟩, ⟨3, iO 64 (.faddr 8 63), false, false⟩, ⟨4, iO 65 (.load false 1 64), false, false⟩, ⟨5, iO 66 (.load true 9 5), false, false⟩, ⟨6, iO 67 (.bslice true 9 1 [.str [], .str [], .int 0, .nilS, .int 0, .int 0, .int 0, .str [], .str []] [(0, 66)]), false, false⟩]
 (.ef ⟨7, iO 68 (.append 9 120 65 67), true, false⟩ [0]
 (.rd [⟨8, iO 69 (.nilck 61), false, false⟩, ⟨9, iO 70 (.faddr 8 69), false, false⟩]
 (.ef ⟨10, iZ (.store false 1 70 68), true, false⟩ []
 (.nil)))))))))))))
 (.seq (.seq (.ops [iO 71 (.load true 4 4)])
 (.ops [iO 4 (.alloc 4 [.int 0, .str [], .int 0, .int 0]), iZ (.store true 4 4 71)]))
 (.ops [iO 39 (.load false 1 2), iC 40 39 [39], iZ (.store true 4 4 40)])))
def f45m (G : Nat → AVal) : MC :=
 .seq (.ops [iO 2 (.box false 1 0), iO 3 (.box false 1 1)])
 (.seq (.ops [iO 6 (.load false 1 3), iO 7 (.nilck 6), iO 8 (.faddr 0 7), iZ (.store false 1 8 (aI 6))])
 (.seq (.seq (.ops [iO 9 (.load false 1 2), iC 10 85 [9, (aS [42])], iO 11 (.un .not 10)])
 (.cond 11
 (.ops [iO 12 (.load false 1 2), iO 13 (.mkfn (.func 86) [] [2, 3]), iC 14 76 [12, (aI 50), 13]])
 (.skip)))
 (.seq (.ops [iO 15 (.load false 1 2), iO 16 (.bslice false 1 1 [.str []] [(0, (aS [102, 114, 111, 109]))]), iC 17 40 [15, 16]])
 (.seq (.draw (.rd [⟨0, iO 18 (.load false 1 3), false, true⟩, ⟨1, iO 19 (.load false 1 2), false, false⟩]
 (.ef ⟨2, iC 20 87 [19], true, false⟩ [0]
 (.ef ⟨3, iO 21 (.brow true 9 1 [.str [], .str [], .int 0, .nilS, .int 0, .int 0, .int 0, .str [], .str []] [(0, 20)]), true, false⟩ [0]
 (.rd [⟨4, iO 22 (.nilck 18), false, false⟩, ⟨5, iO 23 (.faddr 8 22), false, false⟩]
 (.ef ⟨6, iZ (.store false 1 23 21), true, false⟩ []
 (.nil)))))))
 (.seq (.seq (.ops [iO 24 (.load false 1 2), iC 25 39 [24], iO 4 (.alloc 4 [.int 0, .str [], .int 0, .int 0]), iZ (.store true 4 4 25)])
 (.block 0
 (.loop (f45b0 G))))
 (.seq (.ops [iO 72 (.load false 1 2), iO 73 (.load false 1 3), iC 74 47 [72, 73]])
 (.seq (.ops [iO 75 (.load false 1 2), iC 76 42 [75, (aS [111, 114, 100, 101, 114])]])
 (.cond 76
 (.seq (.ops [iO 77 (.load false 1 2), iO 78 (.bslice false 1 1 [.str []] [(0, (aS [98, 121]))]), iC 79 40 [77, 78]])
 (.ops [iO 80 (.load false 1 2), iO 81 (.mkfn (.func 88) [] [3, 2]), iC 82 76 [80, (aI 50), 81]]))
 (.skip)))))))))
def f45 (G : Nat → AVal) : AFn := ⟨83, [], f45m G⟩
theorem f45_c (G : Nat → AVal) : cmpFn Tryz.prog G [21] 45 = some (f45 G) := by kernel_rfl
def f46m (G : Nat → AVal) : MC :=
 .seq (.ops [iO 2 (.box false 1 0), iO 3 (.box false 1 1)])
 (.seq (.draw (.rd [⟨0, iO 4 (.load false 1 3), false, true⟩, ⟨1, iO 5 (.load false 1 3), false, true⟩, ⟨2, iO 6 (.load false 1 2), false, false⟩]
 (.ef ⟨3, iC 7 43 [6], true, false⟩ [0, 1]
 (.rd [⟨4, iO 8 (.nilck 4), false, false⟩, ⟨5, iO 9 (.faddr 0 8), false, false⟩]
 (.ef ⟨6, iZ (.store false 1 9 (aI 7)), true, false⟩ [1]
 (.rd [⟨7, iO 10 (.nilck 5), false, false⟩, ⟨8, iO 11 (.faddr 1 10), false, false⟩]
 (.ef ⟨9, iZ (.store false 1 11 7), true, false⟩ []
 (.nil))))))))
 (.seq (.ops [iO 12 (.load false 1 2), iO 13 (.bslice false 1 1 [.str []] [(0, (aS [115, 101, 116]))]), iC 14 40 [12, 13]])
 (.seq (.ops [iO 15 (.load false 1 2), iO 16 (.mkfn (.func 89) [] [2, 3]), iC 17 76 [15, (aI 50), 16]])
 (.ops [iO 18 (.load false 1 2), iO 19 (.load false 1 3), iC 20 47 [18, 19]]))))
def f46 (G : Nat → AVal) : AFn := ⟨21, [], f46m G⟩
theorem f46_c (G : Nat → AVal) : cmpFn Tryz.prog G [] 46 = some (f46 G) := by kernel_rfl
def f47m (G : Nat → AVal) : MC :=
 .seq (.ops [iO 4 (.mv 0), iC 5 42 [4, (aS [119, 104, 101, 114, 101])]])
 (.cond 5
 (.ops [iO 6 (.mv 1), iO 7 (.mv 0), iC 8 84 [7], iO 9 (.nilck 6), iO 10 (.faddr 9 9), iZ (.store true 7 10 8)])
 (.skip))
def f47 (G : Nat → AVal) : AFn := ⟨11, [], f47m G⟩
theorem f47_c (G : Nat → AVal) : cmpFn Tryz.prog G [] 47 = some (f47 G) := by kernel_rfl
def f21m (G : Nat → AVal) : MC :=
 .seq (.ops [iO 2 (.alloc 18 [.int 0, .str [], .str [], .nilS, .nilS, .bool false, .nilS, .nilS, .nilS, .int 0, .nilS, .int 0, .int 0, .int 0, .str [], .str [], .nilS, .nilS])])
 (.seq (.ops [iO 4 (.mv 0), iC 5 39 [4], iO 3 (.alloc 4 [.int 0, .str [], .int 0, .int 0]), iZ (.store true 4 3 5)])
 (.seq (.ops [iO 6 (.mv 0), iO 7 (.faddr 1 3), iO 8 (.load false 1 7), iO 9 (.bslice false 1 1 [.str []] [(0, 8)]), iC 10 40 [6, 9]])
 (.seq (.seq (.ops [iO 11 (.faddr 0 3), iO 12 (.load false 1 11), iO 13 (.bin .neq .int 12 (aI 1))])
 (.cond 13
 (.ops [iC 14 22 [(aI 130)]])
 (.skip)))
 (.seq (.seq (.ops [iO 15 (.faddr 1 3), iO 16 (.load false 1 15)])
 (.block 0
 (.seq (.ops [iO 19 (.bin .eql .str 16 (aS [99, 114, 101, 97, 116, 101])), iO 18 (.mv 19)])
 (.cond 18
 (.ops [iO 20 (.mv 0), iC 21 41 [20, 2]])
 (.seq (.ops [iO 23 (.bin .eql .str 16 (aS [100, 114, 111, 112])), iO 22 (.mv 23)])
 (.cond 22
 (.seq (.ops [iO 24 (.faddr 0 2), iZ (.store false 1 24 (aI 4))])
 (.seq (.ops [iO 25 (.mv 0), iC 26 42 [25, (aS [116, 97, 98, 108, 101])]])
 (.cond 26
 (.ops [iO 27 (.mv 0), iC 28 43 [27], iO 29 (.faddr 0 2), iZ (.store false 1 29 (aI 2)), iO 30 (.faddr 1 2), iZ (.store false 1 30 28)])
 (.seq (.ops [iO 31 (.mv 0), iO 32 (.bslice false 1 1 [.str []] [(0, (aS [105, 110, 100, 101, 120]))]), iC 33 40 [31, 32]])
 (.ops [iO 34 (.mv 0), iC 35 43 [34], iO 36 (.faddr 2 2), iZ (.store false 1 36 35)])))))
 (.seq (.ops [iO 38 (.bin .eql .str 16 (aS [105, 110, 115, 101, 114, 116])), iO 37 (.mv 38)])
 (.cond 37
 (.ops [iO 39 (.mv 0), iC 40 44 [39, 2]])
 (.seq (.ops [iO 42 (.bin .eql .str 16 (aS [115, 101, 108, 101, 99, 116])), iO 41 (.mv 42)])
 (.cond 41
 (.ops [iO 43 (.mv 0), iC 44 45 [43, 2]])
 (.seq (.ops [iO 46 (.bin .eql .str 16 (aS [117, 112, 100, 97, 116, 101])), iO 45 (.mv 46)])
 (.cond 45
 (.ops [iO 47 (.mv 0), iC 48 46 [47, 2]])
 (.seq (.ops [iO 50 (.bin .eql .str 16 (aS [100, 101, 108, 101, 116, 101])), iO 49 (.mv 50)])
 (.cond 49
 (.seq (.ops [iO 51 (.mv 0), iO 52 (.bslice false 1 1 [.str []] [(0, (aS [102, 114, 111, 109]))]), iC 53 40 [51, 52]])
 (.seq (.ops [iO 54 (.mv 0), iC 55 43 [54], iO 56 (.faddr 0 2), iZ (.store false 1 56 (aI 8)), iO 57 (.faddr 1 2), iZ (.store false 1 57 55)])
 (.ops [iO 58 (.mv 0), iC 59 47 [58, 2]])))
 (.seq (.ops [iO 61 (.bin .eql .str 16 (aS [98, 101, 103, 105, 110])), iO 60 (.mv 61)])
 (.cond 60
 (.ops [iO 62 (.faddr 0 2), iZ (.store false 1 62 (aI 9))])
 (.seq (.ops [iO 64 (.bin .eql .str 16 (aS [99, 111, 109, 109, 105, 116])), iO 63 (.mv 64)])
 (.cond 63
 (.ops [iO 65 (.faddr 0 2), iZ (.store false 1 65 (aI 10))])
 (.seq (.ops [iO 67 (.bin .eql .str 16 (aS [114, 111, 108, 108, 98, 97, 99, 107])), iO 66 (.mv 67)])
 (.cond 66
 (.ops [iO 68 (.faddr 0 2), iZ (.store false 1 68 (aI 11))])
 (.ops [iC 17 22 [(aI 130)]])))))))))))))))))))))
 (.seq (.ops [iO 69 (.load true 18 2), iZ (.store true 18 2 69)])
 (.ret))))))
def f21 (G : Nat → AVal) : AFn := ⟨70, [.cell 2 true 18], f21m G⟩
theorem f21_c (G : Nat → AVal) : cmpFn Tryz.prog G [] 21 = some (f21 G) := by kernel_rfl
end Go.Abs
set_option linter.unusedVariables false
namespace Go.Abs
open Go Go.RowKit Go.Proofs
def f9p0 (G : Nat → AVal) : MC :=
 .ops [iO 2 (.alloc 18 [.int 0, .str [], .str [], .nilS, .nilS, .bool false, .nilS, .nilS, .nilS, .int 0, .nilS, .int 0, .int 0, .int 0, .str [], .str [], .nilS, .nilS]), iO 3 (.alloc 1 [.int 0])]
def f9p1 (G : Nat → AVal) : MC :=
 .ops [iO 7 (.mv 0), iC 8 19 [7], iO 6 (.mv 8), iO 9 (.extract 6 0), iO 10 (.extract 6 1), iO 4 (.mv 9), iZ (.store false 1 3 10)]
def f9p2 (G : Nat → AVal) : MC :=
 .seq (.ops [iO 11 (.load false 1 3), iO 12 (.bin .neq .int 11 (aI 0))])
 (.cond 12
 (.seq (.draw (.rd [⟨0, iO 13 (.load true 18 2), false, false⟩, ⟨1, iO 14 (.load false 1 3), false, true⟩]
 (.ef ⟨2, iZ (.store true 18 2 13), true, false⟩ [1]
 (.ef ⟨3, iZ (.store false 1 3 14), true, false⟩ []
 (.nil)))))
 (.ret))
 (.skip))
def f9m (G : Nat → AVal) : MC :=
 .seq (.ops [iO 16 (.mv 4), iO 17 (.build [.nilS, .int 0, .int 0] [(false, 0, 1, 16)]), iO 18 (.box true 3 17), iO 5 (.mv 18)])
 (.seq (.ops [iO 19 (.mv 5), iC 20 21 [19], iZ (.store true 18 2 20)])
 (.seq (.seq (.ops [iO 21 (.mv 5), iO 22 (.nilck 21), iO 23 (.faddr 0 22), iO 24 (.load false 1 23), iO 25 (.lenS 24), iO 26 (.bin .gtr .int 25 (aI 0))])
 (.cond 26
 (.ops [iC 27 22 [(aI 130)]])
 (.skip)))
 (.seq (.seq (.ops [iO 28 (.mv 5), iO 29 (.nilck 28), iO 30 (.faddr 2 29), iO 31 (.load false 1 30), iO 32 (.bin .gtr .int 31 (aI 40))])
 (.cond 32
 (.ops [iC 33 22 [(aI 5)]])
 (.skip)))
 (.seq (.ops [iO 34 (.load true 18 2), iZ (.store true 18 2 34), iZ (.store false 1 3 (aI 0))])
 (.ret)))))
def f9 (G : Nat → AVal) : AFnD := ⟨35, [.cell 2 true 18, .cell 3 false 1], [f9p0 G, f9p1 G, f9p2 G], [iO 15 (.mkfn (.func 20) [] [2, 3])], 15, f9m G⟩
theorem f9_c (G : Nat → AVal) : cmpFnD Tryz.prog G 9 = some (f9 G) := by kernel_rfl
def f20m (G : Nat → AVal) : MC :=
 .seq (.ops [iO 6 (.mv 2), iO 7 (.bin .neq (.nilP (.iface true)) 6 (.val (.atom (.nilIface))))])
 (.cond 7
 (.seq (.ops [iO 9 (.mv 2), iO 10 (.tassert 58 true (.agg [.int 0]) 9), iO 8 (.mv 10), iO 11 (.extract 8 0), iO 12 (.extract 8 1), iO 3 (.alloc 1 [.int 0]), iZ (.store true 1 3 11), iO 4 (.mv 12)])
 (.seq (.seq (.ops [iO 13 (.mv 4), iO 14 (.un .not 13)])
 (.cond 14
 (.ops [iO 15 (.mv 2), iZ (.panic 15)])
 (.skip)))
 (.draw (.rd [⟨0, iO 16 (.build [.int 0, .str [], .str [], .nilS, .nilS, .bool false, .nilS, .nilS, .nilS, .int 0, .nilS, .int 0, .int 0, .int 0, .str [], .str [], .nilS, .nilS] []), false, false⟩, ⟨1, iO 17 (.faddr 0 3), false, true⟩, ⟨2, iO 18 (.load false 1 17), false, true⟩]
 (.ef ⟨3, iZ (.store true 18 0 16), true, false⟩ [1, 2]
 (.ef ⟨4, iZ (.store false 1 1 18), true, false⟩ []
 (.nil)))))))
 (.skip))
def f20 (G : Nat → AVal) : ADef := ⟨19, 5, 2, f20m G⟩
theorem f20_c (G : Nat → AVal) : cmpDef Tryz.prog G 20 = some (f20 G) := by kernel_rfl
end Go.Abs
