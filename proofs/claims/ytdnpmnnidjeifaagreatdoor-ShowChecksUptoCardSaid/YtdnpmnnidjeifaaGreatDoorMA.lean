/- The seat's functions, translated; the checks. Conditions: none. -/
import Derived.Test.YtdnpmnnidjeifaaGreatDoorA25
import Derived.Test.YtdnpmnnidjeifaaGreatDoorProg
import Derived.KernelRfl
import Derived.Test.YtdnpmnnidjeifaaGreatDoorA37
namespace Go.Abs
abbrev iO (d : Nat) (x : MOp) : MI := ⟨some d, none, .op x⟩
abbrev iZ (x : MOp) : MI := ⟨none, none, .op x⟩
abbrev iC (d f : Nat) (l : List MOpd) : MI := ⟨some d, none, .call f l⟩
abbrev iG (d c : Nat) (b : Bool) (x : MOp) : MI := ⟨some d, some (c, b), .op x⟩
abbrev aI (n : Int) : MOpd := .val (.int n)
abbrev aS (s : List UInt8) : MOpd := .val (.str s)
end Go.Abs
set_option linter.unusedVariables false
namespace Go.Abs
open Go Go.RowKit Go.Proofs
def f20b0 (G : Nat → AVal) : MC :=
 .seq (.ops [iO 10 (.bin .lss .int 9 8)])
 (.seq (.cond 10
 (.skip)
 (.exit 0))
 (.seq (.block 1
 (.seq (.ops [iO 11 (.iaddr 7 7 9), iO 12 (.load true 7 11), iO 5 (.alloc 7 [.int 0, .nilS, .int 0, .int 0, .int 0, .str [], .str []]), iZ (.store true 7 5 12)])
 (.ops [iO 13 (.mv 3), iO 14 (.load true 7 5), iC 15 20 [14], iO 16 (.bin .add .int 15 (aI 1)), iO 17 (.mm true 13 16), iO 3 (.mv 17)])))
 (.ops [iO 18 (.bin .add .int 9 (aI 1)), iO 9 (.mv 18)])))
def f20m (G : Nat → AVal) : MC :=
 .seq (.ops [iO 1 (.box true 7 0), iO 2 (.mv (aI 0))])
 (.seq (.ops [iO 3 (.mv (aI 0))])
 (.seq (.seq (.ops [iO 6 (.faddr 1 1), iO 7 (.load false 1 6), iO 8 (.lenS 7), iO 9 (.mv (aI 0))])
 (.block 0
 (.loop (f20b0 G))))
 (.seq (.ops [iO 19 (.mv 3), iO 2 (.mv 19)])
 (.ret))))
def f20 (G : Nat → AVal) : AFn := ⟨20, [.tmp 2], f20m G⟩
theorem f20_c (G : Nat → AVal) : cmpFn Tryz.prog G [] 20 = some (f20 G) := by kernel_rfl
def f27m (G : Nat → AVal) : MC :=
 .ops [iO 2 (.mv 0), iO 3 (.build [.int 0] [(false, 0, 1, 2)]), iO 4 (.mkif 60 3), iZ (.panic 4)]
def f27 (G : Nat → AVal) : AFn := ⟨5, [], f27m G⟩
theorem f27_c (G : Nat → AVal) : cmpFn Tryz.prog G [] 27 = some (f27 G) := by kernel_rfl
def f78m (G : Nat → AVal) : MC :=
 .seq (.ops [iO 2 (.alloc 4 [.int 0, .str [], .int 0, .int 0])])
 (.seq (.seq (.ops [iO 3 (.mv 0), iO 4 (.nilck 3), iO 5 (.faddr 0 4), iO 6 (.load false 1 5), iO 7 (.lenS 6), iO 8 (.bin .eql .int 7 (aI 0))])
 (.cond 8
 (.seq (.ops [iO 9 (.build [.int 0, .str [], .int 0, .int 0] []), iZ (.store true 4 2 9)])
 (.ret))
 (.skip)))
 (.seq (.ops [iO 10 (.mv 0), iO 11 (.nilck 10), iO 12 (.faddr 0 11), iO 13 (.load false 1 12), iO 14 (.iaddr 4 13 (aI 0)), iO 15 (.load true 4 14), iZ (.store true 4 2 15)])
 (.ret)))
def f78 (G : Nat → AVal) : AFn := ⟨16, [.cell 2 true 4], f78m G⟩
theorem f78_c (G : Nat → AVal) : cmpFn Tryz.prog G [] 78 = some (f78 G) := by kernel_rfl
def f79b0 (G : Nat → AVal) : MC :=
 .seq (.ops [iO 9 (.bin .lss .int 8 7)])
 (.seq (.cond 9
 (.skip)
 (.exit 0))
 (.seq (.block 1
 (.seq (.ops [iO 10 (.iaddr 1 6 8), iO 11 (.load false 1 10), iO 5 (.mv 11)])
 (.seq (.ops [iO 12 (.mv 0), iO 13 (.mv 5), iC 14 81 [12, 13], iO 15 (.un .not 14)])
 (.cond 15
 (.ops [iC 16 27 [(aI 130)]])
 (.skip)))))
 (.ops [iO 17 (.bin .add .int 8 (aI 1)), iO 8 (.mv 17)])))
def f79m (G : Nat → AVal) : MC :=
 .seq (.ops [iO 6 (.mv 1), iO 7 (.lenS 6), iO 8 (.mv (aI 0))])
 (.block 0
 (.loop (f79b0 G)))
def f79 (G : Nat → AVal) : AFn := ⟨18, [], f79m G⟩
theorem f79_c (G : Nat → AVal) : cmpFn Tryz.prog G [] 79 = some (f79 G) := by kernel_rfl
def f81m (G : Nat → AVal) : MC :=
 .seq (.ops [iO 4 (.mv (.val (.bool false)))])
 (.seq (.ops [iO 5 (.mv 0), iO 6 (.mv 1), iC 7 125 [5, (aI 1), 6], iO 4 (.mv 7)])
 (.ret))
def f81 (G : Nat → AVal) : AFn := ⟨8, [.tmp 4], f81m G⟩
theorem f81_c (G : Nat → AVal) : cmpFn Tryz.prog G [] 81 = some (f81 G) := by kernel_rfl
def f82m (G : Nat → AVal) : MC :=
 .seq (.ops [iO 2 (.mv (aS []))])
 (.seq (.ops [iO 4 (.mv 0), iC 5 78 [4], iO 3 (.alloc 4 [.int 0, .str [], .int 0, .int 0]), iZ (.store true 4 3 5)])
 (.seq (.seq (.ops [iO 6 (.faddr 0 3), iO 7 (.load false 1 6), iO 8 (.bin .neq .int 7 (aI 1)), iO 9 (.mv 8), iG 10 9 false (.faddr 1 3), iG 11 9 false (.load false 1 10), ⟨some 12, some (9, false), .call 105 [11]⟩, iO 13 (.pick 9 (.val (.bool true)) 12)])
 (.cond 13
 (.ops [iC 14 27 [(aI 130)]])
 (.skip)))
 (.seq (.ops [iO 15 (.mv 0), iO 16 (.mv 0), iO 17 (.nilck 16), iO 18 (.faddr 0 17), iO 19 (.load false 1 18), iO 20 (.slc 4 19 (some (aI 1)) none none), iO 21 (.nilck 15), iO 22 (.faddr 0 21), iZ (.store false 1 22 20)])
 (.seq (.ops [iO 23 (.faddr 1 3), iO 24 (.load false 1 23), iO 2 (.mv 24)])
 (.ret)))))
def f82 (G : Nat → AVal) : AFn := ⟨25, [.tmp 2], f82m G⟩
theorem f82_c (G : Nat → AVal) : cmpFn Tryz.prog G [] 82 = some (f82 G) := by kernel_rfl
def f120m (G : Nat → AVal) : MC :=
 .seq (.ops [iO 4 (.mv 0), iO 5 (.mv 1), iC 6 129 [4, 5], iO 7 (.un .not 6)])
 (.cond 7
 (.ops [iC 8 27 [(aI 130)]])
 (.skip))
def f120 (G : Nat → AVal) : AFn := ⟨9, [], f120m G⟩
theorem f120_c (G : Nat → AVal) : cmpFn Tryz.prog G [] 120 = some (f120 G) := by kernel_rfl
def f125m (G : Nat → AVal) : MC :=
 .seq (.ops [iO 6 (.mv (.val (.bool false)))])
 (.seq (.seq (.ops [iO 8 (.mv 0), iC 9 78 [8], iO 7 (.alloc 4 [.int 0, .str [], .int 0, .int 0]), iZ (.store true 4 7 9)])
 (.seq (.ops [iO 10 (.faddr 0 7), iO 11 (.load false 1 10), iO 12 (.mv 1), iO 13 (.bin .neq .int 11 12), iO 14 (.mv 13), iG 15 14 false (.faddr 1 7), iG 16 14 false (.load false 1 15), iG 17 14 false (.mv 2), iG 18 14 false (.bin .neq .str 16 17), iO 19 (.pick 14 (.val (.bool true)) 18)])
 (.cond 19
 (.seq (.ops [iO 6 (.mv (.val (.bool false)))])
 (.ret))
 (.skip))))
 (.seq (.ops [iO 20 (.mv 0), iO 21 (.mv 0), iO 22 (.nilck 21), iO 23 (.faddr 0 22), iO 24 (.load false 1 23), iO 25 (.slc 4 24 (some (aI 1)) none none), iO 26 (.nilck 20), iO 27 (.faddr 0 26), iZ (.store false 1 27 25)])
 (.seq (.ops [iO 6 (.mv (.val (.bool true)))])
 (.ret))))
def f125 (G : Nat → AVal) : AFn := ⟨28, [.tmp 6], f125m G⟩
theorem f125_c (G : Nat → AVal) : cmpFn Tryz.prog G [] 125 = some (f125 G) := by kernel_rfl
def f128m (G : Nat → AVal) : MC :=
 .seq (.ops [iO 2 (.alloc 7 [.int 0, .nilS, .int 0, .int 0, .int 0, .str [], .str []])])
 (.seq (.ops [iO 4 (.mv 0), iC 5 158 [4], iO 3 (.alloc 7 [.int 0, .nilS, .int 0, .int 0, .int 0, .str [], .str []]), iZ (.store true 7 3 5)])
 (.seq (.draw (.rd [⟨0, iO 6 (.mv 0), false, true⟩, ⟨1, iO 7 (.mv 0), false, true⟩, ⟨2, iO 8 (.nilck 7), false, true⟩, ⟨3, iO 9 (.faddr 2 8), false, true⟩, ⟨4, iO 10 (.load false 1 9), false, true⟩, ⟨5, iO 11 (.load true 7 3), false, false⟩]
 (.ef ⟨6, iC 12 20 [11], true, false⟩ [0, 1, 2, 3, 4]
 (.rd [⟨7, iO 13 (.mm true 10 12), false, false⟩, ⟨8, iO 14 (.nilck 6), false, false⟩, ⟨9, iO 15 (.faddr 2 14), false, false⟩]
 (.ef ⟨10, iZ (.store false 1 15 13), true, false⟩ []
 (.nil))))))
 (.seq (.ops [iO 16 (.load true 7 3), iZ (.store true 7 2 16)])
 (.ret))))
def f128 (G : Nat → AVal) : AFn := ⟨17, [.cell 2 true 7], f128m G⟩
theorem f128_c (G : Nat → AVal) : cmpFn Tryz.prog G [] 128 = some (f128 G) := by kernel_rfl
def f129m (G : Nat → AVal) : MC :=
 .seq (.ops [iO 4 (.mv (.val (.bool false)))])
 (.seq (.ops [iO 5 (.mv 0), iO 6 (.mv 1), iC 7 125 [5, (aI 5), 6], iO 4 (.mv 7)])
 (.ret))
def f129 (G : Nat → AVal) : AFn := ⟨8, [.tmp 4], f129m G⟩
theorem f129_c (G : Nat → AVal) : cmpFn Tryz.prog G [] 129 = some (f129 G) := by kernel_rfl
def f158m (G : Nat → AVal) : MC :=
 .seq (.ops [iO 1 (.box false 1 0), iO 2 (.alloc 7 [.int 0, .nilS, .int 0, .int 0, .int 0, .str [], .str []])])
 (.seq (.ops [iO 3 (.load false 1 1), iO 4 (.load false 1 1), iO 5 (.mkfn (.func 176) [4] []), iO 6 (.mkfn (.func 177) [] [1]), iC 7 175 [3, 5, 6], iZ (.store true 7 2 7)])
 (.ret))
def f158 (G : Nat → AVal) : AFn := ⟨8, [.cell 2 true 7], f158m G⟩
theorem f158_c (G : Nat → AVal) : cmpFn Tryz.prog G [] 158 = some (f158 G) := by kernel_rfl
def f175b0 (G : Nat → AVal) : MC :=
 .seq (.seq (.ops [iO 13 (.mv 8), iO 14 (.bin .neq .int 13 (aI 0))])
 (.cond 14
 (.skip)
 (.exit 0)))
 (.seq (.block 1
 (.draw (.rd [⟨0, iO 17 (.mv 8), false, true⟩, ⟨1, iO 18 (.load true 7 7), false, true⟩, ⟨2, iO 19 (.mv 1), false, false⟩]
 (.ef ⟨3, ⟨some 20, none, .callV 19 []⟩, true, false⟩ [0, 1]
 (.rd [⟨4, iO 21 (.bslice true 7 2 [.int 0, .nilS, .int 0, .int 0, .int 0, .str [], .str []] [(0, 18), (1, 20)]), false, false⟩, ⟨5, iO 22 (.build [.int 0, .nilS, .int 0, .int 0, .int 0, .str [], .str []] [(false, 0, 1, 17), (false, 1, 1, 21)]), false, false⟩]
 (.ef ⟨6, iZ (.store true 7 7 22), true, false⟩ []
 (.nil)))))))
 (.ops [iO 15 (.mv 2), ⟨some 16, none, .callV 15 []⟩, iO 8 (.mv 16)]))
def f175m (G : Nat → AVal) : MC :=
 .seq (.ops [iO 6 (.alloc 7 [.int 0, .nilS, .int 0, .int 0, .int 0, .str [], .str []])])
 (.seq (.ops [iO 9 (.mv 1), ⟨some 10, none, .callV 9 []⟩, iO 7 (.alloc 7 [.int 0, .nilS, .int 0, .int 0, .int 0, .str [], .str []]), iZ (.store true 7 7 10)])
 (.seq (.seq (.ops [iO 11 (.mv 2), ⟨some 12, none, .callV 11 []⟩, iO 8 (.mv 12)])
 (.block 0
 (.loop (f175b0 G))))
 (.seq (.ops [iO 23 (.load true 7 7), iZ (.store true 7 6 23)])
 (.ret))))
def f175 (G : Nat → AVal) : AFn := ⟨24, [.cell 6 true 7], f175m G⟩
theorem f175_c (G : Nat → AVal) : cmpFn Tryz.prog G [] 175 = some (f175 G) := by kernel_rfl
def f176m (G : Nat → AVal) : MC :=
 .seq (.ops [iO 1 (.box false 1 0), iO 2 (.alloc 7 [.int 0, .nilS, .int 0, .int 0, .int 0, .str [], .str []])])
 (.seq (.ops [iO 3 (.load false 1 1), iO 4 (.load false 1 1), iO 5 (.mkfn (.func 187) [4] []), iO 6 (.mkfn (.func 188) [] [1]), iC 7 175 [3, 5, 6], iZ (.store true 7 2 7)])
 (.ret))
def f176 (G : Nat → AVal) : AFn := ⟨8, [.cell 2 true 7], f176m G⟩
theorem f176_c (G : Nat → AVal) : cmpFn Tryz.prog G [] 176 = some (f176 G) := by kernel_rfl
def f177m (G : Nat → AVal) : MC :=
 .seq (.ops [iO 1 (.mv (aI 0))])
 (.seq (.seq (.ops [iO 2 (.load false 1 0), iC 3 81 [2, (aS [111, 114])]])
 (.cond 3
 (.seq (.ops [iO 1 (.mv (aI 18))])
 (.ret))
 (.skip)))
 (.seq (.ops [iO 1 (.mv (aI 0))])
 (.ret)))
def f177 (G : Nat → AVal) : AFn := ⟨4, [.tmp 1], f177m G⟩
theorem f177_c (G : Nat → AVal) : cmpFn Tryz.prog G [] 177 = some (f177 G) := by kernel_rfl
def f187m (G : Nat → AVal) : MC :=
 .seq (.ops [iO 1 (.box false 1 0), iO 2 (.alloc 7 [.int 0, .nilS, .int 0, .int 0, .int 0, .str [], .str []])])
 (.seq (.ops [iO 3 (.mkfn (.func 200) [] [1]), iO 4 (.load false 1 1), iO 5 (.mkfn (.func 201) [4] []), iC 6 199 [(aI 16), 3, 5], iZ (.store true 7 2 6)])
 (.ret))
def f187 (G : Nat → AVal) : AFn := ⟨7, [.cell 2 true 7], f187m G⟩
theorem f187_c (G : Nat → AVal) : cmpFn Tryz.prog G [] 187 = some (f187 G) := by kernel_rfl
def f188m (G : Nat → AVal) : MC :=
 .seq (.ops [iO 1 (.mv (aI 0))])
 (.seq (.seq (.ops [iO 2 (.load false 1 0), iC 3 81 [2, (aS [97, 110, 100])]])
 (.cond 3
 (.seq (.ops [iO 1 (.mv (aI 17))])
 (.ret))
 (.skip)))
 (.seq (.ops [iO 1 (.mv (aI 0))])
 (.ret)))
def f188 (G : Nat → AVal) : AFn := ⟨4, [.tmp 1], f188m G⟩
theorem f188_c (G : Nat → AVal) : cmpFn Tryz.prog G [] 188 = some (f188 G) := by kernel_rfl
def f199b0 (G : Nat → AVal) : MC :=
 .seq (.seq (.ops [iO 9 (.mv 1), ⟨some 10, none, .callV 9 []⟩])
 (.cond 10
 (.skip)
 (.exit 0)))
 (.block 1
 (.ops [iO 11 (.mv 7), iO 12 (.bin .add .int 11 (aI 1)), iO 7 (.mv 12)]))
def f199b1 (G : Nat → AVal) : MC :=
 .seq (.ops [iO 17 (.bin .lss .int 16 15)])
 (.seq (.cond 17
 (.skip)
 (.exit 2))
 (.seq (.block 3
 (.ops [iO 18 (.mv 0), iO 19 (.load true 7 8), iO 20 (.bslice true 7 1 [.int 0, .nilS, .int 0, .int 0, .int 0, .str [], .str []] [(0, 19)]), iO 21 (.build [.int 0, .nilS, .int 0, .int 0, .int 0, .str [], .str []] [(false, 0, 1, 18), (false, 1, 1, 20)]), iZ (.store true 7 8 21)]))
 (.ops [iO 22 (.bin .add .int 16 (aI 1)), iO 16 (.mv 22)])))
def f199m (G : Nat → AVal) : MC :=
 .seq (.ops [iO 6 (.alloc 7 [.int 0, .nilS, .int 0, .int 0, .int 0, .str [], .str []])])
 (.seq (.ops [iO 7 (.mv (aI 0))])
 (.seq (.block 0
 (.loop (f199b0 G)))
 (.seq (.ops [iO 13 (.mv 2), ⟨some 14, none, .callV 13 []⟩, iO 8 (.alloc 7 [.int 0, .nilS, .int 0, .int 0, .int 0, .str [], .str []]), iZ (.store true 7 8 14)])
 (.seq (.seq (.ops [iO 15 (.mv 7), iO 16 (.mv (aI 0))])
 (.block 2
 (.loop (f199b1 G))))
 (.seq (.ops [iO 23 (.load true 7 8), iZ (.store true 7 6 23)])
 (.ret))))))
def f199 (G : Nat → AVal) : AFn := ⟨24, [.cell 6 true 7], f199m G⟩
theorem f199_c (G : Nat → AVal) : cmpFn Tryz.prog G [] 199 = some (f199 G) := by kernel_rfl
def f200m (G : Nat → AVal) : MC :=
 .seq (.ops [iO 1 (.mv (.val (.bool false)))])
 (.seq (.ops [iO 2 (.load false 1 0), iC 3 81 [2, (aS [110, 111, 116])], iO 1 (.mv 3)])
 (.ret))
def f200 (G : Nat → AVal) : AFn := ⟨4, [.tmp 1], f200m G⟩
theorem f200_c (G : Nat → AVal) : cmpFn Tryz.prog G [] 200 = some (f200 G) := by kernel_rfl
def f201m (G : Nat → AVal) : MC :=
 .seq (.ops [iO 2 (.alloc 7 [.int 0, .nilS, .int 0, .int 0, .int 0, .str [], .str []])])
 (.seq (.ops [iO 6 (.mv 0), iC 7 204 [6], iO 3 (.alloc 7 [.int 0, .nilS, .int 0, .int 0, .int 0, .str [], .str []]), iZ (.store true 7 3 7)])
 (.seq (.seq (.ops [iO 8 (.mv 0), iO 9 (.bslice false 1 6 [.str []] [(0, (aS [61])), (1, (aS [60, 62])), (2, (aS [60])), (3, (aS [60, 61])), (4, (aS [62])), (5, (aS [62, 61]))]), iC 10 205 [8, 9, (aI 1)], iO 4 (.mv 10)])
 (.seq (.ops [iO 11 (.mv 4), iO 12 (.bin .neq .int 11 (aI 0))])
 (.cond 12
 (.seq (.draw (.rd [⟨0, iO 13 (.mv 4), false, true⟩, ⟨1, iO 14 (.load true 7 3), false, true⟩, ⟨2, iO 15 (.mv 0), false, false⟩]
 (.ef ⟨3, iC 16 204 [15], true, false⟩ [0, 1]
 (.rd [⟨4, iO 17 (.bslice true 7 2 [.int 0, .nilS, .int 0, .int 0, .int 0, .str [], .str []] [(0, 14), (1, 16)]), false, false⟩, ⟨5, iO 18 (.build [.int 0, .nilS, .int 0, .int 0, .int 0, .str [], .str []] [(false, 0, 1, 13), (false, 1, 1, 17)]), false, false⟩]
 (.ef ⟨6, iZ (.store true 7 2 18), true, false⟩ []
 (.nil))))))
 (.ret))
 (.skip))))
 (.seq (.seq (.ops [iO 19 (.mv 0), iC 20 81 [19, (aS [105, 115])]])
 (.cond 20
 (.seq (.ops [iO 5 (.mv (aI 19))])
 (.seq (.seq (.ops [iO 21 (.mv 0), iC 22 81 [21, (aS [110, 111, 116])]])
 (.cond 22
 (.ops [iO 5 (.mv (aI 20))])
 (.skip)))
 (.seq (.ops [iO 23 (.mv 0), iO 24 (.bslice false 1 1 [.str []] [(0, (aS [110, 117, 108, 108]))]), iC 25 79 [23, 24]])
 (.seq (.ops [iO 26 (.mv 5), iO 27 (.load true 7 3), iO 28 (.bslice true 7 1 [.int 0, .nilS, .int 0, .int 0, .int 0, .str [], .str []] [(0, 27)]), iO 29 (.build [.int 0, .nilS, .int 0, .int 0, .int 0, .str [], .str []] [(false, 0, 1, 26), (false, 1, 1, 28)]), iZ (.store true 7 2 29)])
 (.ret)))))
 (.skip)))
 (.seq (.ops [iO 30 (.load true 7 3), iZ (.store true 7 2 30)])
 (.ret)))))
def f201 (G : Nat → AVal) : AFn := ⟨31, [.cell 2 true 7], f201m G⟩
theorem f201_c (G : Nat → AVal) : cmpFn Tryz.prog G [] 201 = some (f201 G) := by kernel_rfl
def f204m (G : Nat → AVal) : MC :=
 .seq (.ops [iO 1 (.box false 1 0), iO 2 (.alloc 7 [.int 0, .nilS, .int 0, .int 0, .int 0, .str [], .str []])])
 (.seq (.ops [iO 3 (.load false 1 1), iO 4 (.load false 1 1), iO 5 (.mkfn (.func 206) [4] []), iO 6 (.mkfn (.func 207) [] [1]), iC 7 175 [3, 5, 6], iZ (.store true 7 2 7)])
 (.ret))
def f204 (G : Nat → AVal) : AFn := ⟨8, [.cell 2 true 7], f204m G⟩
theorem f204_c (G : Nat → AVal) : cmpFn Tryz.prog G [] 204 = some (f204 G) := by kernel_rfl
def f205b0 (G : Nat → AVal) : MC :=
 .seq (.ops [iO 12 (.bin .lss .int 11 10)])
 (.seq (.cond 12
 (.skip)
 (.exit 0))
 (.seq (.block 1
 (.seq (.ops [iO 13 (.mv 11), iO 14 (.iaddr 1 9 11), iO 15 (.load false 1 14), iO 7 (.mv 13), iO 8 (.mv 15)])
 (.seq (.ops [iO 16 (.mv 0), iO 17 (.mv 8), iC 18 129 [16, 17]])
 (.cond 18
 (.seq (.ops [iO 19 (.mv 2), iO 20 (.mv 7), iO 21 (.bin .add .int 19 20), iO 6 (.mv 21)])
 (.ret))
 (.skip)))))
 (.ops [iO 22 (.bin .add .int 11 (aI 1)), iO 11 (.mv 22)])))
def f205m (G : Nat → AVal) : MC :=
 .seq (.ops [iO 6 (.mv (aI 0))])
 (.seq (.seq (.ops [iO 9 (.mv 1), iO 10 (.lenS 9), iO 11 (.mv (aI 0))])
 (.block 0
 (.loop (f205b0 G))))
 (.seq (.ops [iO 6 (.mv (aI 0))])
 (.ret)))
def f205 (G : Nat → AVal) : AFn := ⟨23, [.tmp 6], f205m G⟩
theorem f205_c (G : Nat → AVal) : cmpFn Tryz.prog G [] 205 = some (f205 G) := by kernel_rfl
def f206m (G : Nat → AVal) : MC :=
 .seq (.ops [iO 1 (.box false 1 0), iO 2 (.alloc 7 [.int 0, .nilS, .int 0, .int 0, .int 0, .str [], .str []])])
 (.seq (.ops [iO 3 (.load false 1 1), iO 4 (.load false 1 1), iO 5 (.mkfn (.func 208) [4] []), iO 6 (.mkfn (.func 209) [] [1]), iC 7 175 [3, 5, 6], iZ (.store true 7 2 7)])
 (.ret))
def f206 (G : Nat → AVal) : AFn := ⟨8, [.cell 2 true 7], f206m G⟩
theorem f206_c (G : Nat → AVal) : cmpFn Tryz.prog G [] 206 = some (f206 G) := by kernel_rfl
def f207m (G : Nat → AVal) : MC :=
 .seq (.ops [iO 1 (.mv (aI 0))])
 (.seq (.seq (.ops [iO 2 (.load false 1 0), iC 3 129 [2, (aS [124, 124])]])
 (.cond 3
 (.seq (.ops [iO 1 (.mv (aI 12))])
 (.ret))
 (.skip)))
 (.seq (.ops [iO 4 (.load false 1 0), iO 5 (.bslice false 1 2 [.str []] [(0, (aS [43])), (1, (aS [45]))]), iC 6 205 [4, 5, (aI 7)], iO 1 (.mv 6)])
 (.ret)))
def f207 (G : Nat → AVal) : AFn := ⟨7, [.tmp 1], f207m G⟩
theorem f207_c (G : Nat → AVal) : cmpFn Tryz.prog G [] 207 = some (f207 G) := by kernel_rfl
def f208m (G : Nat → AVal) : MC :=
 .seq (.ops [iO 1 (.box false 1 0), iO 2 (.alloc 7 [.int 0, .nilS, .int 0, .int 0, .int 0, .str [], .str []])])
 (.seq (.ops [iO 3 (.mkfn (.func 210) [] [1]), iO 4 (.load false 1 1), iO 5 (.mkfn (.func 211) [4] []), iC 6 199 [(aI 13), 3, 5], iZ (.store true 7 2 6)])
 (.ret))
def f208 (G : Nat → AVal) : AFn := ⟨7, [.cell 2 true 7], f208m G⟩
theorem f208_c (G : Nat → AVal) : cmpFn Tryz.prog G [] 208 = some (f208 G) := by kernel_rfl
def f209m (G : Nat → AVal) : MC :=
 .seq (.ops [iO 1 (.mv (aI 0))])
 (.seq (.ops [iO 2 (.load false 1 0), iO 3 (.bslice false 1 3 [.str []] [(0, (aS [42])), (1, (aS [47])), (2, (aS [37]))]), iC 4 205 [2, 3, (aI 9)], iO 1 (.mv 4)])
 (.ret))
def f209 (G : Nat → AVal) : AFn := ⟨5, [.tmp 1], f209m G⟩
theorem f209_c (G : Nat → AVal) : cmpFn Tryz.prog G [] 209 = some (f209 G) := by kernel_rfl
def f210m (G : Nat → AVal) : MC :=
 .seq (.ops [iO 1 (.mv (.val (.bool false)))])
 (.seq (.ops [iO 2 (.load false 1 0), iC 3 129 [2, (aS [45])], iO 1 (.mv 3)])
 (.ret))
def f210 (G : Nat → AVal) : AFn := ⟨4, [.tmp 1], f210m G⟩
theorem f210_c (G : Nat → AVal) : cmpFn Tryz.prog G [] 210 = some (f210 G) := by kernel_rfl
def f211m (G : Nat → AVal) : MC :=
 .seq (.ops [iO 2 (.alloc 7 [.int 0, .nilS, .int 0, .int 0, .int 0, .str [], .str []])])
 (.seq (.ops [iO 5 (.mv 0), iC 6 78 [5], iO 3 (.alloc 4 [.int 0, .str [], .int 0, .int 0]), iZ (.store true 4 3 6)])
 (.seq (.ops [iO 7 (.faddr 2 3), iO 8 (.load false 1 7), iO 9 (.faddr 3 3), iO 10 (.load false 1 9), iO 11 (.build [.int 0, .nilS, .int 0, .int 0, .int 0, .str [], .str []] [(false, 0, 1, (aI 21)), (false, 3, 1, 8), (false, 4, 1, 10)]), iO 4 (.alloc 7 [.int 0, .nilS, .int 0, .int 0, .int 0, .str [], .str []]), iZ (.store true 7 4 11)])
 (.seq (.seq (.ops [iO 12 (.faddr 0 3), iO 13 (.load false 1 12)])
 (.block 0
 (.seq (.ops [iO 17 (.bin .eql .int 13 (aI 2)), iO 16 (.mv 17)])
 (.cond 16
 (.ops [iO 18 (.faddr 2 4), iZ (.store false 1 18 (aI 2))])
 (.seq (.ops [iO 20 (.bin .eql .int 13 (aI 3)), iO 19 (.mv 20)])
 (.cond 19
 (.ops [iO 21 (.faddr 2 4), iZ (.store false 1 21 (aI 3))])
 (.seq (.ops [iO 23 (.bin .eql .int 13 (aI 4)), iO 22 (.mv 23)])
 (.cond 22
 (.draw (.rd [⟨0, iO 24 (.faddr 1 3), false, true⟩, ⟨1, iO 25 (.load false 1 24), false, true⟩, ⟨2, iO 26 (.faddr 2 4), false, false⟩]
 (.ef ⟨3, iZ (.store false 1 26 (aI 4)), true, false⟩ [0, 1]
 (.rd [⟨4, iO 27 (.faddr 5 4), false, false⟩]
 (.ef ⟨5, iZ (.store false 1 27 25), true, false⟩ []
 (.nil))))))
 (.seq (.ops [iO 29 (.bin .eql .int 13 (aI 1)), iO 28 (.mv 29)])
 (.cond 28
 (.seq (.ops [iO 30 (.mv 0), iO 31 (.faddr 1 3), iO 32 (.load false 1 31), iC 33 212 [30, 32], iZ (.store true 7 2 33)])
 (.ret))
 (.seq (.ops [iO 14 (.mv 0), iC 15 213 [14], iZ (.store true 7 2 15)])
 (.ret))))))))))))
 (.seq (.ops [iO 34 (.mv 0), iO 35 (.mv 0), iO 36 (.nilck 35), iO 37 (.faddr 0 36), iO 38 (.load false 1 37), iO 39 (.slc 4 38 (some (aI 1)) none none), iO 40 (.nilck 34), iO 41 (.faddr 0 40), iZ (.store false 1 41 39)])
 (.seq (.ops [iO 42 (.load true 7 4), iZ (.store true 7 2 42)])
 (.ret))))))
def f211 (G : Nat → AVal) : AFn := ⟨43, [.cell 2 true 7], f211m G⟩
theorem f211_c (G : Nat → AVal) : cmpFn Tryz.prog G [] 211 = some (f211 G) := by kernel_rfl
def f212m (G : Nat → AVal) : MC :=
 .seq (.ops [iO 4 (.alloc 7 [.int 0, .nilS, .int 0, .int 0, .int 0, .str [], .str []])])
 (.seq (.ops [iO 7 (.build [.int 0, .nilS, .int 0, .int 0, .int 0, .str [], .str []] [(false, 0, 1, (aI 21))]), iO 5 (.alloc 7 [.int 0, .nilS, .int 0, .int 0, .int 0, .str [], .str []]), iZ (.store true 7 5 7)])
 (.seq (.seq (.ops [iO 8 (.mv 1)])
 (.block 0
 (.seq (.ops [iO 22 (.bin .eql .str 8 (aS [110, 117, 108, 108])), iO 21 (.mv 22)])
 (.cond 21
 (.skip)
 (.seq (.ops [iO 24 (.bin .eql .str 8 (aS [116, 114, 117, 101])), iO 23 (.mv 24)])
 (.cond 23
 (.ops [iO 25 (.faddr 2 5), iZ (.store false 1 25 (aI 1)), iO 26 (.faddr 3 5), iZ (.store false 1 26 (aI 1))])
 (.seq (.ops [iO 28 (.bin .eql .str 8 (aS [102, 97, 108, 115, 101])), iO 27 (.mv 28)])
 (.cond 27
 (.ops [iO 29 (.faddr 2 5), iZ (.store false 1 29 (aI 1))])
 (.seq (.ops [iO 31 (.bin .eql .str 8 (aS [110, 97, 110])), iO 30 (.mv 31)])
 (.cond 30
 (.ops [iO 32 (.faddr 2 5), iZ (.store false 1 32 (aI 3)), iO 33 (.faddr 4 5), iZ (.store false 1 33 (aI (-1)))])
 (.seq (.ops [iO 35 (.bin .eql .str 8 (aS [105, 110, 102, 105, 110, 105, 116, 121])), iO 34 (.mv 35)])
 (.cond 34
 (.ops [iO 36 (.faddr 2 5), iZ (.store false 1 36 (aI 3)), iO 37 (.faddr 4 5), iZ (.store false 1 37 (aI (-2)))])
 (.seq (.seq (.ops [iO 39 (.bin .eql .str 8 (aS [105, 110, 116])), iO 38 (.mv 39)])
 (.cond 38
 (.skip)
 (.ops [iO 40 (.bin .eql .str 8 (aS [114, 101, 97, 108])), iO 38 (.mv 40)])))
 (.cond 38
 (.seq (.ops [iO 41 (.mv 0), iO 42 (.mv 1), iO 43 (.bslice false 1 1 [.str []] [(0, 42)]), iC 44 79 [41, 43]])
 (.seq (.ops [iO 6 (.mv (aI 14))])
 (.seq (.seq (.ops [iO 45 (.mv 1), iO 46 (.bin .eql .str 45 (aS [114, 101, 97, 108]))])
 (.cond 46
 (.ops [iO 6 (.mv (aI 15))])
 (.skip)))
 (.seq (.ops [iO 47 (.mv 6), iO 48 (.mv 0), iC 49 213 [48], iO 50 (.bslice true 7 1 [.int 0, .nilS, .int 0, .int 0, .int 0, .str [], .str []] [(0, 49)]), iO 51 (.build [.int 0, .nilS, .int 0, .int 0, .int 0, .str [], .str []] [(false, 0, 1, 47), (false, 1, 1, 50)]), iZ (.store true 7 4 51)])
 (.ret)))))
 (.seq (.ops [iO 9 (.mv 0), iC 10 82 [9], iO 11 (.build [.int 0, .nilS, .int 0, .int 0, .int 0, .str [], .str []] [(false, 0, 1, (aI 22)), (false, 5, 1, 10)]), iZ (.store true 7 5 11)])
 (.seq (.seq (.ops [iO 12 (.mv 0), iC 13 129 [12, (aS [46])]])
 (.cond 13
 (.draw (.rd [⟨0, iO 14 (.faddr 5 5), false, true⟩, ⟨1, iO 15 (.load false 1 14), false, true⟩, ⟨2, iO 16 (.mv 0), false, false⟩, ⟨4, iO 18 (.faddr 6 5), false, true⟩]
 (.ef ⟨3, iC 17 82 [16], true, false⟩ [0, 1, 4]
 (.ef ⟨5, iZ (.store false 1 18 15), true, false⟩ []
 (.rd [⟨6, iO 19 (.faddr 5 5), false, false⟩]
 (.ef ⟨7, iZ (.store false 1 19 17), true, false⟩ []
 (.nil)))))))
 (.skip)))
 (.seq (.ops [iO 20 (.load true 7 5), iZ (.store true 7 4 20)])
 (.ret))))))))))))))))))
 (.seq (.ops [iO 52 (.mv 0), iO 53 (.mv 1), iO 54 (.bslice false 1 1 [.str []] [(0, 53)]), iC 55 79 [52, 54]])
 (.seq (.ops [iO 56 (.load true 7 5), iZ (.store true 7 4 56)])
 (.ret)))))
def f212 (G : Nat → AVal) : AFn := ⟨57, [.cell 4 true 7], f212m G⟩
theorem f212_c (G : Nat → AVal) : cmpFn Tryz.prog G [] 212 = some (f212 G) := by kernel_rfl
def f213m (G : Nat → AVal) : MC :=
 .seq (.ops [iO 2 (.alloc 7 [.int 0, .nilS, .int 0, .int 0, .int 0, .str [], .str []])])
 (.seq (.seq (.ops [iO 5 (.mv 0), iC 6 78 [5], iO 3 (.alloc 4 [.int 0, .str [], .int 0, .int 0]), iZ (.store true 4 3 6)])
 (.seq (.ops [iO 7 (.faddr 0 3), iO 8 (.load false 1 7), iO 9 (.bin .eql .int 8 (aI 5)), iO 10 (.mv 9), iG 11 10 true (.faddr 1 3), iG 12 10 true (.load false 1 11), iG 13 10 true (.bin .eql .str 12 (aS [40])), iO 14 (.pick 10 13 (.val (.bool false))), iO 15 (.mv 14), iG 16 15 true (.mv 0), iG 17 15 true (.nilck 16), iG 18 15 true (.faddr 1 17), iG 19 15 true (.load false 1 18), iG 20 15 true (.bin .eql .int 19 (aI 40)), iO 21 (.pick 15 20 (.val (.bool false)))])
 (.cond 21
 (.ops [iC 22 27 [(aI 5)]])
 (.skip))))
 (.seq (.ops [iO 23 (.mv 0), iC 24 120 [23, (aS [40])]])
 (.seq (.ops [iO 25 (.mv 0), iO 26 (.nilck 25), iO 27 (.faddr 1 26), iO 28 (.load false 1 27), iO 29 (.bin .add .int 28 (aI 1)), iO 30 (.nilck 25), iO 31 (.faddr 1 30), iZ (.store false 1 31 29)])
 (.seq (.ops [iO 32 (.mv 0), iC 33 158 [32], iO 4 (.alloc 7 [.int 0, .nilS, .int 0, .int 0, .int 0, .str [], .str []]), iZ (.store true 7 4 33)])
 (.seq (.ops [iO 34 (.mv 0), iO 35 (.nilck 34), iO 36 (.faddr 1 35), iO 37 (.load false 1 36), iO 38 (.bin .sub .int 37 (aI 1)), iO 39 (.nilck 34), iO 40 (.faddr 1 39), iZ (.store false 1 40 38)])
 (.seq (.ops [iO 41 (.mv 0), iC 42 120 [41, (aS [41])]])
 (.seq (.ops [iO 43 (.load true 7 4), iZ (.store true 7 2 43)])
 (.ret))))))))
def f213 (G : Nat → AVal) : AFn := ⟨44, [.cell 2 true 7], f213m G⟩
theorem f213_c (G : Nat → AVal) : cmpFn Tryz.prog G [] 213 = some (f213 G) := by kernel_rfl
end Go.Abs
namespace Go.Abs
open Go Go.RowKit Go.Proofs
def f24b0 (G : Nat → AVal) : MC :=
 .block 1
 (.seq (.ops [iO 13 (.mv 0), iC 14 71 [13, (aS [32, 9, 10, 13])], iO 0 (.mv 14)])
 (.seq (.seq (.ops [iO 15 (.mv 0), iO 16 (.bin .eql .str 15 (aS []))])
 (.cond 16
 (.seq (.ops [iO 17 (.mv 4), iO 2 (.mv 17), iO 3 (.mv (aI 0))])
 (.ret))
 (.skip)))
 (.seq (.ops [iO 5 (.mv (.val (.clo (.func 72) [] [])))])
 (.seq (.seq (.ops [iO 18 (.mv 0), iO 19 (.idxS 18 (aI 0)), iO 6 (.mv 19)])
 (.block 2
 (.seq (.ops [iO 21 (.mv 6), iC 22 73 [21], iO 20 (.mv 22)])
 (.cond 20
 (.ops [iO 5 (.mv (.val (.clo (.func 74) [] [])))])
 (.seq (.ops [iO 24 (.mv 6), iC 25 75 [24], iO 23 (.mv 25)])
 (.cond 23
 (.ops [iO 5 (.mv (.val (.clo (.func 76) [] [])))])
 (.seq (.ops [iO 27 (.mv 6), iO 28 (.bin .eql .int 27 (.val (.atom (.int .u8 39)))), iO 26 (.mv 28)])
 (.cond 26
 (.ops [iO 5 (.mv (.val (.clo (.func 77) [] [])))])
 (.skip)))))))))
 (.seq (.ops [iO 30 (.mv 5), iO 31 (.mv 0), ⟨some 32, none, .callV 30 [31]⟩, iO 29 (.mv 32), iO 33 (.extract 29 0), iO 34 (.extract 29 1), iO 35 (.extract 29 2), iO 7 (.alloc 4 [.int 0, .str [], .int 0, .int 0]), iZ (.store true 4 7 33), iO 8 (.mv 34), iO 9 (.mv 35)])
 (.seq (.seq (.ops [iO 36 (.mv 9), iO 37 (.bin .neq .int 36 (aI 0))])
 (.cond 37
 (.seq (.ops [iO 38 (.mv 9), iO 2 (.mv (.val .nilS)), iO 3 (.mv 38)])
 (.ret))
 (.skip)))
 (.seq (.ops [iO 39 (.mv 4), iO 40 (.load true 4 7), iO 41 (.bslice true 4 1 [.int 0, .str [], .int 0, .int 0] [(0, 40)]), iO 42 (.append 4 40 39 41), iO 4 (.mv 42)])
 (.ops [iO 43 (.mv 0), iO 44 (.mv 8), iO 45 (.sslc 43 (some 44) none), iO 0 (.mv 45)]))))))))
def f24m (G : Nat → AVal) : MC :=
 .seq (.ops [iO 2 (.mv (.val .nilS)), iO 3 (.mv (aI 0))])
 (.seq (.seq (.ops [iO 10 (.mv 0), iO 11 (.lenStr 10), iO 12 (.bin .gtr .int 11 (aI 4000))])
 (.cond 12
 (.seq (.ops [iO 2 (.mv (.val .nilS)), iO 3 (.mv (aI 1))])
 (.ret))
 (.skip)))
 (.seq (.ops [iO 4 (.mv (.val .nilS))])
 (.block 0
 (.loop (f24b0 G)))))
def f24 (G : Nat → AVal) : AFn := ⟨46, [.tmp 2, .tmp 3], f24m G⟩
theorem f24_c (G : Nat → AVal) : cmpFn Tryz.prog G [] 24 = some (f24 G) := by kernel_rfl
def f105m (G : Nat → AVal) : MC :=
 .seq (.ops [iO 2 (.mv (.val (.bool false)))])
 (.seq (.seq (.ops [iO 3 (.mv 0)])
 (.block 0
 (.seq (.seq (.ops [iO 5 (.bin .eql .str 3 (aS [97, 110, 100])), iO 4 (.mv 5)])
 (.cond 4
 (.skip)
 (.seq (.ops [iO 6 (.bin .eql .str 3 (aS [97, 115])), iO 4 (.mv 6)])
 (.cond 4
 (.skip)
 (.seq (.ops [iO 7 (.bin .eql .str 3 (aS [98, 101, 103, 105, 110])), iO 4 (.mv 7)])
 (.cond 4
 (.skip)
 (.seq (.ops [iO 8 (.bin .eql .str 3 (aS [98, 111, 111, 108])), iO 4 (.mv 8)])
 (.cond 4
 (.skip)
 (.seq (.ops [iO 9 (.bin .eql .str 3 (aS [98, 121])), iO 4 (.mv 9)])
 (.cond 4
 (.skip)
 (.seq (.ops [iO 10 (.bin .eql .str 3 (aS [99, 111, 109, 109, 105, 116])), iO 4 (.mv 10)])
 (.cond 4
 (.skip)
 (.seq (.ops [iO 11 (.bin .eql .str 3 (aS [99, 114, 101, 97, 116, 101])), iO 4 (.mv 11)])
 (.cond 4
 (.skip)
 (.seq (.ops [iO 12 (.bin .eql .str 3 (aS [100, 101, 108, 101, 116, 101])), iO 4 (.mv 12)])
 (.cond 4
 (.skip)
 (.seq (.ops [iO 13 (.bin .eql .str 3 (aS [100, 101, 115, 99])), iO 4 (.mv 13)])
 (.cond 4
 (.skip)
 (.seq (.ops [iO 14 (.bin .eql .str 3 (aS [100, 114, 111, 112])), iO 4 (.mv 14)])
 (.cond 4
 (.skip)
 (.seq (.ops [iO 15 (.bin .eql .str 3 (aS [102, 97, 108, 115, 101])), iO 4 (.mv 15)])
 (.cond 4
 (.skip)
 (.seq (.ops [iO 16 (.bin .eql .str 3 (aS [102, 114, 111, 109])), iO 4 (.mv 16)])
 (.cond 4
 (.skip)
 (.seq (.ops [iO 17 (.bin .eql .str 3 (aS [105, 110, 100, 101, 120])), iO 4 (.mv 17)])
 (.cond 4
 (.skip)
 (.seq (.ops [iO 18 (.bin .eql .str 3 (aS [105, 110, 102, 105, 110, 105, 116, 121])), iO 4 (.mv 18)])
 (.cond 4
 (.skip)
 (.seq (.ops [iO 19 (.bin .eql .str 3 (aS [105, 110, 110, 101, 114])), iO 4 (.mv 19)])
 (.cond 4
 (.skip)
 (.seq (.ops [iO 20 (.bin .eql .str 3 (aS [105, 110, 115, 101, 114, 116])), iO 4 (.mv 20)])
 (.cond 4
 (.skip)
 (.seq (.ops [iO 21 (.bin .eql .str 3 (aS [105, 110, 116])), iO 4 (.mv 21)])
 (.cond 4
 (.skip)
 (.seq (.ops [iO 22 (.bin .eql .str 3 (aS [105, 110, 116, 111])), iO 4 (.mv 22)])
 (.cond 4
 (.skip)
 (.seq (.ops [iO 23 (.bin .eql .str 3 (aS [105, 115])), iO 4 (.mv 23)])
 (.cond 4
 (.skip)
 (.seq (.ops [iO 24 (.bin .eql .str 3 (aS [106, 111, 105, 110])), iO 4 (.mv 24)])
 (.cond 4
 (.skip)
 (.seq (.ops [iO 25 (.bin .eql .str 3 (aS [110, 97, 110])), iO 4 (.mv 25)])
 (.cond 4
 (.skip)
 (.seq (.ops [iO 26 (.bin .eql .str 3 (aS [110, 111, 116])), iO 4 (.mv 26)])
 (.cond 4
 (.skip)
 (.seq (.ops [iO 27 (.bin .eql .str 3 (aS [110, 117, 108, 108])), iO 4 (.mv 27)])
 (.cond 4
 (.skip)
 (.seq (.ops [iO 28 (.bin .eql .str 3 (aS [111, 110])), iO 4 (.mv 28)])
 (.cond 4
 (.skip)
 (.seq (.ops [iO 29 (.bin .eql .str 3 (aS [111, 114])), iO 4 (.mv 29)])
 (.cond 4
 (.skip)
 (.seq (.ops [iO 30 (.bin .eql .str 3 (aS [111, 114, 100, 101, 114])), iO 4 (.mv 30)])
 (.cond 4
 (.skip)
 (.seq (.ops [iO 31 (.bin .eql .str 3 (aS [114, 101, 97, 108])), iO 4 (.mv 31)])
 (.cond 4
 (.skip)
 (.seq (.ops [iO 32 (.bin .eql .str 3 (aS [114, 111, 108, 108, 98, 97, 99, 107])), iO 4 (.mv 32)])
 (.cond 4
 (.skip)
 (.seq (.ops [iO 33 (.bin .eql .str 3 (aS [115, 101, 108, 101, 99, 116])), iO 4 (.mv 33)])
 (.cond 4
 (.skip)
 (.seq (.ops [iO 34 (.bin .eql .str 3 (aS [115, 101, 116])), iO 4 (.mv 34)])
 (.cond 4
 (.skip)
 (.seq (.ops [iO 35 (.bin .eql .str 3 (aS [116, 97, 98, 108, 101])), iO 4 (.mv 35)])
 (.cond 4
 (.skip)
 (.seq (.ops [iO 36 (.bin .eql .str 3 (aS [116, 101, 120, 116])), iO 4 (.mv 36)])
 (.cond 4
 (.skip)
 (.seq (.ops [iO 37 (.bin .eql .str 3 (aS [116, 114, 117, 101])), iO 4 (.mv 37)])
 (.cond 4
 (.skip)
 (.seq (.ops [iO 38 (.bin .eql .str 3 (aS [117, 110, 105, 113, 117, 101])), iO 4 (.mv 38)])
 (.cond 4
 (.skip)
 (.seq (.ops [iO 39 (.bin .eql .str 3 (aS [117, 112, 100, 97, 116, 101])), iO 4 (.mv 39)])
 (.cond 4
 (.skip)
 (.seq (.ops [iO 40 (.bin .eql .str 3 (aS [118, 97, 108, 117, 101, 115])), iO 4 (.mv 40)])
 (.cond 4
 (.skip)
 (.ops [iO 41 (.bin .eql .str 3 (aS [119, 104, 101, 114, 101])), iO 4 (.mv 41)])))))))))))))))))))))))))))))))))))))))))))))))))))))))))))))))))))))))))
 (.cond 4
 (.seq (.ops [iO 2 (.mv (.val (.bool true)))])
 (.ret))
 (.skip)))))
 (.seq (.ops [iO 2 (.mv (.val (.bool false)))])
 (.ret)))
def f105 (G : Nat → AVal) : AFn := ⟨42, [.tmp 2], f105m G⟩
theorem f105_c (G : Nat → AVal) : cmpFn Tryz.prog G [] 105 = some (f105 G) := by kernel_rfl
def f71m (G : Nat → AVal) : MC :=
 .seq (.ops [iO 4 (.mv (aS []))])
 (.seq (.seq (.ops [iO 7 (.mv 0), iO 8 (.bin .eql .str 7 (aS [])), iO 9 (.mv 8), iG 10 9 false (.mv 1), iG 11 9 false (.bin .eql .str 10 (aS [])), iO 12 (.pick 9 (.val (.bool true)) 11)])
 (.cond 12
 (.seq (.ops [iO 13 (.mv 0), iO 4 (.mv 13)])
 (.ret))
 (.skip)))
 (.seq (.seq (.ops [iO 14 (.mv 1), iO 15 (.lenStr 14), iO 16 (.bin .eql .int 15 (aI 1)), iO 17 (.mv 16), iG 18 17 true (.mv 1), iG 19 17 true (.idxS 18 (aI 0)), iG 20 17 true (.bin .lss .int 19 (.val (.atom (.int .u8 128)))), iO 21 (.pick 17 20 (.val (.bool false)))])
 (.cond 21
 (.seq (.ops [iO 22 (.mv 0), iO 23 (.mv 1), iO 24 (.idxS 23 (aI 0)), iC 25 112 [22, 24], iO 4 (.mv 25)])
 (.ret))
 (.skip)))
 (.seq (.seq (.ops [iO 27 (.mv 1), iC 28 113 [27], iO 26 (.mv 28), iO 29 (.extract 26 0), iO 30 (.extract 26 1), iO 5 (.alloc 256 [.bool false, .bool false, .bool false, .bool false, .bool false, .bool false, .bool false, .bool false, .bool false, .bool false, .bool false, .bool false, .bool false, .bool false, .bool false, .bool false, .bool false, .bool false, .bool false, .bool false, .bool false, .bool false, .bool false, .bool false, .bool false, .bool false, .bool false, .bool false, .bool false, .bool false, .bool false, .bool false, .bool false, .bool false, .bool false, .bool false, .bool false, .bool false, .bool false, .bool false, .bool false, .bool false, .bool false, .bool false, .bool false, .bool false, .bool false, .bool false, .bool false, .bool false, .bool false, .bool false, .bool false, .bool false, .bool false, .bool false, .bool false, .bool false, .bool false, .bool false, .bool false, .bool false, .bool false, .bool false, .bool false, .bool false, .bool false, .bool false, .bool false, .bool false, .bool false, .bool false, .bool false, .bool false, .bool false, .bool false, .bool false, .bool false, .bool false, .bool false, .bool false, .bool false, .bool false, .bool false, .bool false, .bool false, .bool false, .bool false, .bool false, .bool false, .bool false, .bool false, .bool false, .bool false, .bool false, .bool false, .bool false, .bool false, .bool false, .bool false, .bool false, .bool false, .bool false, .bool false, .bool false, .bool false, .bool false, .bool false, .bool false, .bool false, .bool false, .bool false, .bool false, .bool false, .bool false, .bool false, .bool false, .bool false, .bool false, .bool false, .bool false, .bool false, .bool false, .bool false, .bool false, .bool false, .bool false, .bool false, .bool false, .bool false, .bool false, .bool false, .bool false, .bool false, .bool false, .bool false, .bool false, .bool false, .bool false, .bool false, .bool false, .bool false, .bool false, .bool false, .bool false, .bool false, .bool false, .bool false, .bool false, .bool false, .bool false, .bool false, .bool false, .bool false, .bool false, .bool false, .bool false, .bool false, .bool false, .bool false, .bool false, .bool false, .bool false, .bool false, .bool false, .bool false, .bool false, .bool false, .bool false, .bool false, .bool false, .bool false, .bool false, .bool false, .bool false, .bool false, .bool false, .bool false, .bool false, .bool false, .bool false, .bool false, .bool false, .bool false, .bool false, .bool false, .bool false, .bool false, .bool false, .bool false, .bool false, .bool false, .bool false, .bool false, .bool false, .bool false, .bool false, .bool false, .bool false, .bool false, .bool false, .bool false, .bool false, .bool false, .bool false, .bool false, .bool false, .bool false, .bool false, .bool false, .bool false, .bool false, .bool false, .bool false, .bool false, .bool false, .bool false, .bool false, .bool false, .bool false, .bool false, .bool false, .bool false, .bool false, .bool false, .bool false, .bool false, .bool false, .bool false, .bool false, .bool false, .bool false, .bool false, .bool false, .bool false, .bool false, .bool false, .bool false, .bool false, .bool false, .bool false, .bool false, .bool false, .bool false, .bool false, .bool false, .bool false, .bool false, .bool false, .bool false, .bool false, .bool false, .bool false, .bool false, .bool false, .bool false]), iZ (.store true 256 5 29), iO 6 (.mv 30)])
 (.seq (.ops [iO 31 (.mv 6)])
 (.cond 31
 (.seq (.ops [iO 32 (.mv 0), iC 33 114 [32, 5], iO 4 (.mv 33)])
 (.ret))
 (.skip))))
 (.seq (.ops [iO 34 (.mv 0), iO 35 (.mv 1), iC 36 115 [34, 35], iO 4 (.mv 36)])
 (.ret)))))
def f71 (G : Nat → AVal) : AFn := ⟨37, [.tmp 4], f71m G⟩
theorem f71_c (G : Nat → AVal) : cmpFn Tryz.prog G [] 71 = some (f71 G) := by kernel_rfl
def f72m (G : Nat → AVal) : MC :=
 .seq (.ops [iO 2 (.alloc 4 [.int 0, .str [], .int 0, .int 0]), iO 3 (.mv (aI 0)), iO 4 (.mv (aI 0))])
 (.seq (.ops [iO 5 (.mv (aI 1))])
 (.seq (.seq (.ops [iO 6 (.mv 0), iO 7 (.lenStr 6), iO 8 (.bin .gtr .int 7 (aI 1)), iO 9 (.mv 8), iG 10 9 true (.bslice false 1 4 [.str []] [(0, (aS [60, 62])), (1, (aS [60, 61])), (2, (aS [62, 61])), (3, (aS [124, 124]))]), iG 11 9 true (.mv 0), iG 12 9 true (.sslc 11 none (some (aI 2))), ⟨some 13, some (9, true), .call 116 [10, 12]⟩, iO 14 (.pick 9 13 (.val (.bool false)))])
 (.cond 14
 (.ops [iO 5 (.mv (aI 2))])
 (.seq (.ops [iO 15 (.mv 0), iO 16 (.idxS 15 (aI 0)), iC 17 117 [(aS [40, 41, 44, 46, 42, 43, 45, 47, 37, 61, 60, 62]), 16], iO 18 (.bin .lss .int 17 (aI 0))])
 (.cond 18
 (.seq (.ops [iO 19 (.build [.int 0, .str [], .int 0, .int 0] []), iZ (.store true 4 2 19), iO 3 (.mv (aI 0)), iO 4 (.mv (aI 120))])
 (.ret))
 (.skip)))))
 (.seq (.ops [iO 20 (.mv 0), iO 21 (.mv 5), iO 22 (.sslc 20 none (some 21)), iO 23 (.build [.int 0, .str [], .int 0, .int 0] [(false, 0, 1, (aI 5)), (false, 1, 1, 22)]), iO 24 (.mv 5), iZ (.store true 4 2 23), iO 3 (.mv 24), iO 4 (.mv (aI 0))])
 (.ret))))
def f72 (G : Nat → AVal) : AFn := ⟨25, [.cell 2 true 4, .tmp 3, .tmp 4], f72m G⟩
theorem f72_c (G : Nat → AVal) : cmpFn Tryz.prog G [] 72 = some (f72 G) := by kernel_rfl
def f73m (G : Nat → AVal) : MC :=
 .seq (.ops [iO 2 (.mv (.val (.bool false)))])
 (.seq (.ops [iO 3 (.mv 0), iO 4 (.bin .geq .int 3 (.val (.atom (.int .u8 97)))), iO 5 (.mv 4), iG 6 5 true (.mv 0), iG 7 5 true (.bin .leq .int 6 (.val (.atom (.int .u8 122)))), iO 8 (.pick 5 7 (.val (.bool false))), iO 9 (.mv 8), iG 10 9 false (.mv 0), iG 11 9 false (.bin .geq .int 10 (.val (.atom (.int .u8 65)))), iG 12 9 false (.mv 11), iG 13 12 true (.mv 0), iG 14 12 true (.bin .leq .int 13 (.val (.atom (.int .u8 90)))), iG 15 9 false (.pick 12 14 (.val (.bool false))), iO 16 (.pick 9 (.val (.bool true)) 15), iO 17 (.mv 16), iG 18 17 false (.mv 0), iG 19 17 false (.bin .eql .int 18 (.val (.atom (.int .u8 95)))), iO 20 (.pick 17 (.val (.bool true)) 19), iO 2 (.mv 20)])
 (.ret))
def f73 (G : Nat → AVal) : AFn := ⟨21, [.tmp 2], f73m G⟩
theorem f73_c (G : Nat → AVal) : cmpFn Tryz.prog G [] 73 = some (f73 G) := by kernel_rfl
def f74m (G : Nat → AVal) : MC :=
 .seq (.ops [iO 2 (.alloc 4 [.int 0, .str [], .int 0, .int 0]), iO 3 (.mv (aI 0)), iO 4 (.mv (aI 0))])
 (.seq (.ops [iO 6 (.mv 0), iC 7 102 [6, (.val (.clo (.func 103) [] []))], iO 5 (.mv 7)])
 (.seq (.seq (.ops [iO 8 (.mv 5), iO 9 (.bin .gtr .int 8 (aI 32))])
 (.cond 9
 (.seq (.ops [iO 10 (.build [.int 0, .str [], .int 0, .int 0] []), iZ (.store true 4 2 10), iO 3 (.mv (aI 0)), iO 4 (.mv (aI 122))])
 (.ret))
 (.skip)))
 (.seq (.ops [iO 11 (.mv 0), iO 12 (.mv 5), iO 13 (.sslc 11 none (some 12)), iC 14 104 [13], iO 15 (.build [.int 0, .str [], .int 0, .int 0] [(false, 0, 1, (aI 1)), (false, 1, 1, 14)]), iO 16 (.mv 5), iZ (.store true 4 2 15), iO 3 (.mv 16), iO 4 (.mv (aI 0))])
 (.ret))))
def f74 (G : Nat → AVal) : AFn := ⟨17, [.cell 2 true 4, .tmp 3, .tmp 4], f74m G⟩
theorem f74_c (G : Nat → AVal) : cmpFn Tryz.prog G [] 74 = some (f74 G) := by kernel_rfl
def f75m (G : Nat → AVal) : MC :=
 .seq (.ops [iO 2 (.mv (.val (.bool false)))])
 (.seq (.ops [iO 3 (.mv 0), iO 4 (.bin .geq .int 3 (.val (.atom (.int .u8 48)))), iO 5 (.mv 4), iG 6 5 true (.mv 0), iG 7 5 true (.bin .leq .int 6 (.val (.atom (.int .u8 57)))), iO 8 (.pick 5 7 (.val (.bool false))), iO 2 (.mv 8)])
 (.ret))
def f75 (G : Nat → AVal) : AFn := ⟨9, [.tmp 2], f75m G⟩
theorem f75_c (G : Nat → AVal) : cmpFn Tryz.prog G [] 75 = some (f75 G) := by kernel_rfl
def f76m (G : Nat → AVal) : MC :=
 .seq (.ops [iO 2 (.alloc 4 [.int 0, .str [], .int 0, .int 0]), iO 3 (.mv (aI 0)), iO 4 (.mv (aI 0))])
 (.seq (.ops [iO 12 (.mv 0), iC 13 102 [12, (.val (.clo (.func 75) [] []))], iO 5 (.mv 13)])
 (.seq (.ops [iO 6 (.mv (aI 0))])
 (.seq (.seq (.ops [iO 14 (.mv 0), iO 15 (.mv 5), iO 16 (.sslc 14 (some 15) none), iO 7 (.mv 16)])
 (.seq (.ops [iO 17 (.mv 7), iC 18 118 [17, (aS [46])]])
 (.cond 18
 (.ops [iO 19 (.mv 7), iO 20 (.sslc 19 (some (aI 1)) none), iC 21 102 [20, (.val (.clo (.func 75) [] []))], iO 6 (.mv 21)])
 (.skip))))
 (.seq (.seq (.ops [iO 22 (.mv 6), iO 23 (.bin .eql .int 22 (aI 0))])
 (.cond 23
 (.seq (.ops [iO 25 (.mv 0), iO 26 (.mv 5), iO 27 (.sslc 25 none (some 26)), iC 28 119 [27], iO 24 (.mv 28), iO 29 (.extract 24 0), iO 30 (.extract 24 1), iO 8 (.mv 29), iO 9 (.mv 30)])
 (.seq (.seq (.ops [iO 31 (.mv 5), iO 32 (.bin .gtr .int 31 (aI 19)), iO 33 (.mv 32), iG 34 33 false (.mv 9), iG 35 33 false (.un .not 34), iO 36 (.pick 33 (.val (.bool true)) 35)])
 (.cond 36
 (.seq (.ops [iO 37 (.build [.int 0, .str [], .int 0, .int 0] []), iZ (.store true 4 2 37), iO 3 (.mv (aI 0)), iO 4 (.mv (aI 11))])
 (.ret))
 (.skip)))
 (.seq (.ops [iO 38 (.mv 8), iO 39 (.build [.int 0, .str [], .int 0, .int 0] [(false, 0, 1, (aI 2)), (false, 2, 1, 38)]), iO 40 (.mv 5), iZ (.store true 4 2 39), iO 3 (.mv 40), iO 4 (.mv (aI 0))])
 (.ret))))
 (.skip)))
 (.seq (.seq (.ops [iO 41 (.mv 5), iO 42 (.mv 6), iO 43 (.bin .add .int 41 42), iO 44 (.bin .gtr .int 43 (aI 15))])
 (.cond 44
 (.seq (.ops [iO 45 (.build [.int 0, .str [], .int 0, .int 0] []), iZ (.store true 4 2 45), iO 3 (.mv (aI 0)), iO 4 (.mv (aI 11))])
 (.ret))
 (.skip)))
 (.seq (.draw (.rd [⟨0, iO 47 (.mv 0), false, false⟩, ⟨1, iO 48 (.mv 5), false, false⟩, ⟨2, iO 49 (.sslc 47 none (some 48)), false, false⟩, ⟨3, iO 50 (.mv 0), false, false⟩, ⟨4, iO 51 (.mv 5), false, false⟩, ⟨5, iO 52 (.bin .add .int 51 (aI 1)), false, false⟩, ⟨6, iO 53 (.mv 5), false, false⟩, ⟨7, iO 54 (.bin .add .int 53 (aI 1)), false, false⟩, ⟨8, iO 55 (.mv 6), false, false⟩, ⟨9, iO 56 (.bin .add .int 54 55), false, false⟩, ⟨10, iO 57 (.sslc 50 (some 52) (some 56)), false, false⟩, ⟨11, iO 58 (.bin .add .int 49 57), false, false⟩]
 (.ef ⟨12, iC 59 119 [58], true, false⟩ []
 (.rd [⟨13, iO 46 (.mv 59), false, false⟩, ⟨14, iO 60 (.extract 46 0), false, false⟩, ⟨15, iO 61 (.extract 46 1), false, false⟩, ⟨16, iO 10 (.mv 60), false, false⟩, ⟨17, iO 11 (.mv 61), false, false⟩]
 (.nil)))))
 (.seq (.ops [iO 62 (.mv 10), iO 63 (.mv 6), iO 64 (.build [.int 0, .str [], .int 0, .int 0] [(false, 0, 1, (aI 3)), (false, 2, 1, 62), (false, 3, 1, 63)]), iO 65 (.mv 5), iO 66 (.bin .add .int 65 (aI 1)), iO 67 (.mv 6), iO 68 (.bin .add .int 66 67), iZ (.store true 4 2 64), iO 3 (.mv 68), iO 4 (.mv (aI 0))])
 (.ret))))))))
def f76 (G : Nat → AVal) : AFn := ⟨69, [.cell 2 true 4, .tmp 3, .tmp 4], f76m G⟩
theorem f76_c (G : Nat → AVal) : cmpFn Tryz.prog G [] 76 = some (f76 G) := by kernel_rfl
def f77b0 (G : Nat → AVal) : MC :=
 .block 1
 (.seq (.ops [iO 8 (.mv 0), iO 9 (.mv 6), iO 10 (.sslc 8 (some 9) none), iC 11 117 [10, (.val (.atom (.int .u8 39)))], iO 7 (.mv 11)])
 (.seq (.seq (.ops [iO 12 (.mv 7), iO 13 (.bin .lss .int 12 (aI 0))])
 (.cond 13
 (.seq (.ops [iO 14 (.build [.int 0, .str [], .int 0, .int 0] []), iZ (.store true 4 2 14), iO 3 (.mv (aI 0)), iO 4 (.mv (aI 121))])
 (.ret))
 (.skip)))
 (.seq (.ops [iO 15 (.mv 5), iO 16 (.mv 0), iO 17 (.mv 6), iO 18 (.mv 6), iO 19 (.mv 7), iO 20 (.bin .add .int 18 19), iO 21 (.sslc 16 (some 17) (some 20)), iO 22 (.bin .add .int 15 21), iO 5 (.mv 22)])
 (.seq (.ops [iO 23 (.mv 6), iO 24 (.mv 7), iO 25 (.bin .add .int 24 (aI 1)), iO 26 (.bin .add .int 23 25), iO 6 (.mv 26)])
 (.seq (.seq (.ops [iO 27 (.mv 0), iO 28 (.mv 6), iO 29 (.sslc 27 (some 28) none), iC 30 118 [29, (aS [39])], iO 31 (.un .not 30)])
 (.cond 31
 (.seq (.seq (.ops [iO 32 (.mv 5), iO 33 (.lenStr 32), iO 34 (.bin .gtr .int 33 (aI 200))])
 (.cond 34
 (.seq (.ops [iO 35 (.build [.int 0, .str [], .int 0, .int 0] []), iZ (.store true 4 2 35), iO 3 (.mv (aI 0)), iO 4 (.mv (aI 1))])
 (.ret))
 (.skip)))
 (.seq (.ops [iO 36 (.mv 5), iO 37 (.build [.int 0, .str [], .int 0, .int 0] [(false, 0, 1, (aI 4)), (false, 1, 1, 36)]), iO 38 (.mv 6), iZ (.store true 4 2 37), iO 3 (.mv 38), iO 4 (.mv (aI 0))])
 (.ret)))
 (.skip)))
 (.seq (.ops [iO 39 (.mv 5), iO 40 (.bin .add .int 39 (aS [39])), iO 5 (.mv 40)])
 (.ops [iO 41 (.mv 6), iO 42 (.bin .add .int 41 (aI 1)), iO 6 (.mv 42)])))))))
def f77m (G : Nat → AVal) : MC :=
 .seq (.ops [iO 2 (.alloc 4 [.int 0, .str [], .int 0, .int 0]), iO 3 (.mv (aI 0)), iO 4 (.mv (aI 0))])
 (.seq (.ops [iO 5 (.mv (aS []))])
 (.seq (.ops [iO 6 (.mv (aI 1))])
 (.block 0
 (.loop (f77b0 G)))))
def f77 (G : Nat → AVal) : AFn := ⟨43, [.cell 2 true 4, .tmp 3, .tmp 4], f77m G⟩
theorem f77_c (G : Nat → AVal) : cmpFn Tryz.prog G [] 77 = some (f77 G) := by kernel_rfl
def f102m (G : Nat → AVal) : MC :=
 .seq (.ops [iO 3 (.box false 1 1), iO 4 (.mv (aI 0))])
 (.seq (.seq (.ops [iO 6 (.mv 0), iO 7 (.conv .strBytes 6), iO 8 (.mkfn (.func 144) [] [3]), iC 9 143 [7, 8], iO 5 (.mv 9)])
 (.seq (.ops [iO 10 (.mv 5), iO 11 (.bin .geq .int 10 (aI 0))])
 (.cond 11
 (.seq (.ops [iO 12 (.mv 5), iO 4 (.mv 12)])
 (.ret))
 (.skip))))
 (.seq (.ops [iO 13 (.mv 0), iO 14 (.lenStr 13), iO 4 (.mv 14)])
 (.ret)))
def f102 (G : Nat → AVal) : AFn := ⟨15, [.tmp 4], f102m G⟩
theorem f102_c (G : Nat → AVal) : cmpFn Tryz.prog G [] 102 = some (f102 G) := by kernel_rfl
def f103m (G : Nat → AVal) : MC :=
 .seq (.ops [iO 2 (.mv (.val (.bool false)))])
 (.seq (.ops [iO 3 (.mv 0), iC 4 73 [3], iO 5 (.mv 4), iG 6 5 false (.mv 0), ⟨some 7, some (5, false), .call 75 [6]⟩, iO 8 (.pick 5 (.val (.bool true)) 7), iO 2 (.mv 8)])
 (.ret))
def f103 (G : Nat → AVal) : AFn := ⟨9, [.tmp 2], f103m G⟩
theorem f103_c (G : Nat → AVal) : cmpFn Tryz.prog G [] 103 = some (f103 G) := by kernel_rfl
def f112b0 (G : Nat → AVal) : MC :=
 .seq (.seq (.ops [iO 5 (.mv 0), iO 6 (.lenStr 5), iO 7 (.bin .gtr .int 6 (aI 0)), iO 8 (.mv 7), iG 9 8 true (.mv 0), iG 10 8 true (.idxS 9 (aI 0)), iG 11 8 true (.mv 1), iG 12 8 true (.bin .eql .int 10 11), iO 13 (.pick 8 12 (.val (.bool false)))])
 (.cond 13
 (.skip)
 (.exit 0)))
 (.block 1
 (.ops [iO 14 (.mv 0), iO 15 (.sslc 14 (some (aI 1)) none), iO 0 (.mv 15)]))
def f112m (G : Nat → AVal) : MC :=
 .seq (.ops [iO 4 (.mv (aS []))])
 (.seq (.block 0
 (.loop (f112b0 G)))
 (.seq (.ops [iO 16 (.mv 0), iO 4 (.mv 16)])
 (.ret)))
def f112 (G : Nat → AVal) : AFn := ⟨17, [.tmp 4], f112m G⟩
theorem f112_c (G : Nat → AVal) : cmpFn Tryz.prog G [] 112 = some (f112 G) := by kernel_rfl
def f113b0 (G : Nat → AVal) : MC :=
 .seq (.seq (.ops [iO 6 (.mv 4), iO 7 (.mv 0), iO 8 (.lenStr 7), iO 9 (.bin .lss .int 6 8)])
 (.cond 9
 (.skip)
 (.exit 0)))
 (.seq (.block 1
 (.seq (.ops [iO 12 (.mv 0), iO 13 (.mv 4), iO 14 (.idxS 12 13), iO 5 (.mv 14)])
 (.seq (.seq (.ops [iO 15 (.mv 5), iO 16 (.bin .geq .int 15 (.val (.atom (.int .u8 128))))])
 (.cond 16
 (.seq (.ops [iO 17 (.load true 256 2), iZ (.store true 256 2 17), iO 3 (.mv (.val (.bool false)))])
 (.ret))
 (.skip)))
 (.ops [iO 18 (.mv 5), iO 19 (.iaddrA 256 1 2 18), iZ (.store false 1 19 (.val (.bool true)))]))))
 (.ops [iO 10 (.mv 4), iO 11 (.bin .add .int 10 (aI 1)), iO 4 (.mv 11)]))
def f113m (G : Nat → AVal) : MC :=
 .seq (.ops [iO 2 (.alloc 256 [.bool false, .bool false, .bool false, .bool false, .bool false, .bool false, .bool false, .bool false, .bool false, .bool false, .bool false, .bool false, .bool false, .bool false, .bool false, .bool false, .bool false, .bool false, .bool false, .bool false, .bool false, .bool false, .bool false, .bool false, .bool false, .bool false, .bool false, .bool false, .bool false, .bool false, .bool false, .bool false, .bool false, .bool false, .bool false, .bool false, .bool false, .bool false, .bool false, .bool false, .bool false, .bool false, .bool false, .bool false, .bool false, .bool false, .bool false, .bool false, .bool false, .bool false, .bool false, .bool false, .bool false, .bool false, .bool false, .bool false, .bool false, .bool false, .bool false, .bool false, .bool false, .bool false, .bool false, .bool false, .bool false, .bool false, .bool false, .bool false, .bool false, .bool false, .bool false, .bool false, .bool false, .bool false, .bool false, .bool false, .bool false, .bool false, .bool false, .bool false, .bool false, .bool false, .bool false, .bool false, .bool false, .bool false, .bool false, .bool false, .bool false, .bool false, .bool false, .bool false, .bool false, .bool false, .bool false, .bool false, .bool false, .bool false, .bool false, .bool false, .bool false, .bool false, .bool false, .bool false, .bool false, .bool false, .bool false, .bool false, .bool false, .bool false, .bool false, .bool false, .bool false, .bool false, .bool false, .bool false, .bool false, .bool false, .bool false, .bool false, .bool false, .bool false, .bool false, .bool false, .bool false, .bool false, .bool false, .bool false, .bool false, .bool false, .bool false, .bool false, .bool false, .bool false, .bool false, .bool false, .bool false, .bool false, .bool false, .bool false, .bool false, .bool false, .bool false, .bool false, .bool false, .bool false, .bool false, .bool false, .bool false, .bool false, .bool false, .bool false, .bool false, .bool false, .bool false, .bool false, .bool false, .bool false, .bool false, .bool false, .bool false, .bool false, .bool false, .bool false, .bool false, .bool false, .bool false, .bool false, .bool false, .bool false, .bool false, .bool false, .bool false, .bool false, .bool false, .bool false, .bool false, .bool false, .bool false, .bool false, .bool false, .bool false, .bool false, .bool false, .bool false, .bool false, .bool false, .bool false, .bool false, .bool false, .bool false, .bool false, .bool false, .bool false, .bool false, .bool false, .bool false, .bool false, .bool false, .bool false, .bool false, .bool false, .bool false, .bool false, .bool false, .bool false, .bool false, .bool false, .bool false, .bool false, .bool false, .bool false, .bool false, .bool false, .bool false, .bool false, .bool false, .bool false, .bool false, .bool false, .bool false, .bool false, .bool false, .bool false, .bool false, .bool false, .bool false, .bool false, .bool false, .bool false, .bool false, .bool false, .bool false, .bool false, .bool false, .bool false, .bool false, .bool false, .bool false, .bool false, .bool false, .bool false, .bool false, .bool false, .bool false, .bool false, .bool false, .bool false, .bool false, .bool false, .bool false, .bool false, .bool false, .bool false, .bool false, .bool false]), iO 3 (.mv (.val (.bool false)))])
 (.seq (.seq (.ops [iO 4 (.mv (aI 0))])
 (.block 0
 (.loop (f113b0 G))))
 (.seq (.ops [iO 20 (.load true 256 2), iZ (.store true 256 2 20), iO 3 (.mv (.val (.bool true)))])
 (.ret)))
def f113 (G : Nat → AVal) : AFn := ⟨21, [.cell 2 true 256, .tmp 3], f113m G⟩
theorem f113_c (G : Nat → AVal) : cmpFn Tryz.prog G [] 113 = some (f113 G) := by kernel_rfl
def f114b0 (G : Nat → AVal) : MC :=
 .seq (.seq (.ops [iO 5 (.mv 0), iO 6 (.lenStr 5), iO 7 (.bin .gtr .int 6 (aI 0))])
 (.cond 7
 (.skip)
 (.exit 0)))
 (.block 1
 (.seq (.seq (.ops [iO 8 (.mv 1), iO 9 (.mv 0), iO 10 (.idxS 9 (aI 0)), iC 11 152 [8, 10], iO 12 (.un .not 11)])
 (.cond 12
 (.exit 0)
 (.skip)))
 (.ops [iO 13 (.mv 0), iO 14 (.sslc 13 (some (aI 1)) none), iO 0 (.mv 14)])))
def f114m (G : Nat → AVal) : MC :=
 .seq (.ops [iO 4 (.mv (aS []))])
 (.seq (.block 0
 (.loop (f114b0 G)))
 (.seq (.ops [iO 15 (.mv 0), iO 4 (.mv 15)])
 (.ret)))
def f114 (G : Nat → AVal) : AFn := ⟨16, [.tmp 4], f114m G⟩
theorem f114_c (G : Nat → AVal) : cmpFn Tryz.prog G [] 114 = some (f114 G) := by kernel_rfl
def f116m (G : Nat → AVal) : MC :=
 .seq (.ops [iO 4 (.mv (.val (.bool false)))])
 (.seq (.ops [iO 5 (.mv 0), iO 6 (.mv 1), iC 7 155 [5, 6], iO 8 (.bin .geq .int 7 (aI 0)), iO 4 (.mv 8)])
 (.ret))
def f116 (G : Nat → AVal) : AFn := ⟨9, [.tmp 4], f116m G⟩
theorem f116_c (G : Nat → AVal) : cmpFn Tryz.prog G [] 116 = some (f116 G) := by kernel_rfl
def f118m (G : Nat → AVal) : MC :=
 .seq (.ops [iO 4 (.mv (.val (.bool false)))])
 (.seq (.ops [iO 5 (.mv 0), iO 6 (.mv 1), iC 7 157 [5, 6], iO 4 (.mv 7)])
 (.ret))
def f118 (G : Nat → AVal) : AFn := ⟨8, [.tmp 4], f118m G⟩
theorem f118_c (G : Nat → AVal) : cmpFn Tryz.prog G [] 118 = some (f118 G) := by kernel_rfl
def f119b0 (G : Nat → AVal) : MC :=
 .seq (.ops [iO 12 (.bin .lss .int 11 10)])
 (.seq (.cond 12
 (.skip)
 (.exit 0))
 (.seq (.block 1
 (.seq (.ops [iO 13 (.iaddr 1 9 11), iO 14 (.load false 1 13), iO 6 (.mv 14)])
 (.seq (.ops [iO 15 (.mv 6), iO 16 (.bin .sub .int 15 (.val (.atom (.int .u8 48)))), iO 17 (.conv (.toInt .i64) 16), iO 7 (.mv 17)])
 (.seq (.seq (.ops [iO 18 (.mv 4), iO 19 (.mv 7), iO 20 (.bin .sub .int (aI 9223372036854775807) 19), iO 21 (.bin .quo .int 20 (aI 10)), iO 22 (.bin .gtr .int 18 21)])
 (.cond 22
 (.seq (.ops [iO 2 (.mv (aI 0)), iO 3 (.mv (.val (.bool false)))])
 (.ret))
 (.skip)))
 (.ops [iO 23 (.mv 4), iO 24 (.bin .mul .int 23 (aI 10)), iO 25 (.mv 7), iO 26 (.bin .add .int 24 25), iO 4 (.mv 26)])))))
 (.ops [iO 27 (.bin .add .int 11 (aI 1)), iO 11 (.mv 27)])))
def f119m (G : Nat → AVal) : MC :=
 .seq (.ops [iO 2 (.mv (aI 0)), iO 3 (.mv (.val (.bool false)))])
 (.seq (.ops [iO 4 (.mv (aI 0))])
 (.seq (.seq (.ops [iO 8 (.mv 0), iO 9 (.conv .strBytes 8), iO 10 (.lenS 9), iO 11 (.mv (aI 0))])
 (.block 0
 (.loop (f119b0 G))))
 (.seq (.ops [iO 28 (.mv 4), iO 2 (.mv 28), iO 3 (.mv (.val (.bool true)))])
 (.ret))))
def f119 (G : Nat → AVal) : AFn := ⟨29, [.tmp 2, .tmp 3], f119m G⟩
theorem f119_c (G : Nat → AVal) : cmpFn Tryz.prog G [] 119 = some (f119 G) := by kernel_rfl
def f143b0 (G : Nat → AVal) : MC :=
 .seq (.ops [iO 9 (.bin .lss .int 8 7)])
 (.seq (.cond 9
 (.skip)
 (.exit 0))
 (.seq (.block 1
 (.seq (.ops [iO 10 (.mv 8), iO 5 (.mv 10)])
 (.seq (.ops [iO 11 (.mv 1), iO 12 (.mv 0), iO 13 (.mv 5), iO 14 (.iaddr 1 12 13), iO 15 (.load false 1 14), ⟨some 16, none, .callV 11 [15]⟩])
 (.cond 16
 (.seq (.ops [iO 17 (.mv 5), iO 4 (.mv 17)])
 (.ret))
 (.skip)))))
 (.ops [iO 18 (.bin .add .int 8 (aI 1)), iO 8 (.mv 18)])))
def f143m (G : Nat → AVal) : MC :=
 .seq (.ops [iO 4 (.mv (aI 0))])
 (.seq (.seq (.ops [iO 6 (.mv 0), iO 7 (.lenS 6), iO 8 (.mv (aI 0))])
 (.block 0
 (.loop (f143b0 G))))
 (.seq (.ops [iO 4 (.mv (aI (-1)))])
 (.ret)))
def f143 (G : Nat → AVal) : AFn := ⟨19, [.tmp 4], f143m G⟩
theorem f143_c (G : Nat → AVal) : cmpFn Tryz.prog G [] 143 = some (f143 G) := by kernel_rfl
def f144m (G : Nat → AVal) : MC :=
 .seq (.ops [iO 3 (.mv (.val (.bool false)))])
 (.seq (.ops [iO 4 (.load false 1 1), iO 5 (.mv 0), ⟨some 6, none, .callV 4 [5]⟩, iO 7 (.un .not 6), iO 3 (.mv 7)])
 (.ret))
def f144 (G : Nat → AVal) : AFn := ⟨8, [.tmp 3], f144m G⟩
theorem f144_c (G : Nat → AVal) : cmpFn Tryz.prog G [] 144 = some (f144 G) := by kernel_rfl
def f155b0 (G : Nat → AVal) : MC :=
 .seq (.ops [iO 9 (.bin .lss .int 8 7)])
 (.seq (.cond 9
 (.skip)
 (.exit 0))
 (.seq (.block 1
 (.seq (.ops [iO 10 (.mv 8), iO 5 (.mv 10)])
 (.seq (.ops [iO 11 (.mv 1), iO 12 (.mv 0), iO 13 (.mv 5), iO 14 (.iaddr 1 12 13), iO 15 (.load false 1 14), iO 16 (.bin .eql .str 11 15)])
 (.cond 16
 (.seq (.ops [iO 17 (.mv 5), iO 4 (.mv 17)])
 (.ret))
 (.skip)))))
 (.ops [iO 18 (.bin .add .int 8 (aI 1)), iO 8 (.mv 18)])))
def f155m (G : Nat → AVal) : MC :=
 .seq (.ops [iO 4 (.mv (aI 0))])
 (.seq (.seq (.ops [iO 6 (.mv 0), iO 7 (.lenS 6), iO 8 (.mv (aI 0))])
 (.block 0
 (.loop (f155b0 G))))
 (.seq (.ops [iO 4 (.mv (aI (-1)))])
 (.ret)))
def f155 (G : Nat → AVal) : AFn := ⟨19, [.tmp 4], f155m G⟩
theorem f155_c (G : Nat → AVal) : cmpFn Tryz.prog G [] 155 = some (f155 G) := by kernel_rfl
def f152m (G : Nat → AVal) : MC :=
 .seq (.ops [iO 4 (.mv (.val (.bool false)))])
 (.seq (.ops [iO 5 (.mv 0), iO 6 (.mv 1), iO 7 (.nilck 5), iO 8 (.iaddrA 256 1 7 6), iO 9 (.load false 1 8), iO 4 (.mv 9)])
 (.ret))
def f152 (G : Nat → AVal) : AFn := ⟨10, [.tmp 4], f152m G⟩
theorem f152_c (G : Nat → AVal) : cmpFn Tryz.prog G [] 152 = some (f152 G) := by kernel_rfl
def f157m (G : Nat → AVal) : MC :=
 .seq (.ops [iO 4 (.mv (.val (.bool false)))])
 (.seq (.ops [iO 5 (.mv 0), iO 6 (.lenStr 5), iO 7 (.mv 1), iO 8 (.lenStr 7), iO 9 (.bin .geq .int 6 8), iO 10 (.mv 9), iG 11 10 true (.mv 0), iG 12 10 true (.mv 1), iG 13 10 true (.lenStr 12), iG 14 10 true (.sslc 11 none (some 13)), iG 15 10 true (.mv 1), iG 16 10 true (.bin .eql .str 14 15), iO 17 (.pick 10 16 (.val (.bool false))), iO 4 (.mv 17)])
 (.ret))
def f157 (G : Nat → AVal) : AFn := ⟨18, [.tmp 4], f157m G⟩
theorem f157_c (G : Nat → AVal) : cmpFn Tryz.prog G [] 157 = some (f157 G) := by kernel_rfl
end Go.Abs
namespace Go.Abs
open Go Go.RowKit Go.Proofs
def f148b0 (G : Nat → AVal) : MC :=
 .seq (.seq (.ops [iO 6 (.mv 4), iO 7 (.bin .lss .int 6 (aI 37))])
 (.cond 7
 (.skip)
 (.exit 0)))
 (.seq (.block 1
 (.seq (.ops [iO 10 (.mv 4), iO 11 (.iaddrA 37 1 3 10), iO 12 (.load false 1 11), iO 13 (.mv 0), iO 14 (.bin .eql .str 12 13)])
 (.cond 14
 (.seq (.ops [iO 2 (.mv (.val (.bool true)))])
 (.ret))
 (.skip))))
 (.ops [iO 8 (.mv 4), iO 9 (.bin .add .int 8 (aI 1)), iO 4 (.mv 9)]))
def f148m (G : Nat → AVal) : MC :=
 .seq (.ops [iO 2 (.mv (.val (.bool false)))])
 (.seq (.ops [iO 5 (.build [.str [], .str [], .str [], .str [], .str [], .str [], .str [], .str [], .str [], .str [], .str [], .str [], .str [], .str [], .str [], .str [], .str [], .str [], .str [], .str [], .str [], .str [], .str [], .str [], .str [], .str [], .str [], .str [], .str [], .str [], .str [], .str [], .str [], .str [], .str [], .str [], .str []] [(false, 0, 1, (aS [97, 110, 100])), (false, 1, 1, (aS [97, 115])), (false, 2, 1, (aS [98, 101, 103, 105, 110])), (false, 3, 1, (aS [98, 111, 111, 108])), (false, 4, 1, (aS [98, 121])), (false, 5, 1, (aS [99, 111, 109, 109, 105, 116])), (false, 6, 1, (aS [99, 114, 101, 97, 116, 101])), (false, 7, 1, (aS [100, 101, 108, 101, 116, 101])), (false, 8, 1, (aS [100, 101, 115, 99])), (false, 9, 1, (aS [100, 114, 111, 112])), (false, 10, 1, (aS [102, 97, 108, 115, 101])), (false, 11, 1, (aS [102, 114, 111, 109])), (false, 12, 1, (aS [105, 110, 100, 101, 120])), (false, 13, 1, (aS [105, 110, 102, 105, 110, 105, 116, 121])), (false, 14, 1, (aS [105, 110, 110, 101, 114])), (false, 15, 1, (aS [105, 110, 115, 101, 114, 116])), (false, 16, 1, (aS [105, 110, 116])), (false, 17, 1, (aS [105, 110, 116, 111])), (false, 18, 1, (aS [105, 115])), (false, 19, 1, (aS [106, 111, 105, 110])), (false, 20, 1, (aS [110, 97, 110])), (false, 21, 1, (aS [110, 111, 116])), (false, 22, 1, (aS [110, 117, 108, 108])), (false, 23, 1, (aS [111, 110])), (false, 24, 1, (aS [111, 114])), (false, 25, 1, (aS [111, 114, 100, 101, 114])), (false, 26, 1, (aS [114, 101, 97, 108])), (false, 27, 1, (aS [114, 111, 108, 108, 98, 97, 99, 107])), (false, 28, 1, (aS [115, 101, 108, 101, 99, 116])), (false, 29, 1, (aS [115, 101, 116])), (false, 30, 1, (aS [116, 97, 98, 108, 101])), (false, 31, 1, (aS [116, 101, 120, 116])), (false, 32, 1, (aS [116, 114, 117, 101])), (false, 33, 1, (aS [117, 110, 105, 113, 117, 101])), (false, 34, 1, (aS [117, 112, 100, 97, 116, 101])), (false, 35, 1, (aS [118, 97, 108, 117, 101, 115])), (false, 36, 1, (aS [119, 104, 101, 114, 101]))]), iO 3 (.alloc 37 [.str [], .str [], .str [], .str [], .str [], .str [], .str [], .str [], .str [], .str [], .str [], .str [], .str [], .str [], .str [], .str [], .str [], .str [], .str [], .str [], .str [], .str [], .str [], .str [], .str [], .str [], .str [], .str [], .str [], .str [], .str [], .str [], .str [], .str [], .str [], .str [], .str []]), iZ (.store true 37 3 5)])
 (.seq (.seq (.ops [iO 4 (.mv (aI 0))])
 (.block 0
 (.loop (f148b0 G))))
 (.seq (.ops [iO 2 (.mv (.val (.bool false)))])
 (.ret))))
def f148 (G : Nat → AVal) : AFn := ⟨15, [.tmp 2], f148m G⟩
theorem f148_c (G : Nat → AVal) : cmpFn Tryz.prog G [] 148 = some (f148 G) := by kernel_rfl
def f107b0 (G : Nat → AVal) : MC :=
 .seq (.seq (.ops [iO 20 (.mv 3), iO 21 (.mv 0), iO 22 (.lenStr 21), iO 23 (.bin .lss .int 20 22)])
 (.cond 23
 (.skip)
 (.exit 0)))
 (.seq (.block 1
 (.seq (.draw (.rd [⟨0, iO 26 (.mv 0), false, false⟩, ⟨1, iO 27 (.mv 3), false, false⟩, ⟨2, iO 28 (.idxS 26 27), false, false⟩, ⟨4, iO 30 (.mv 0), false, true⟩, ⟨5, iO 31 (.mv 3), false, true⟩, ⟨6, iO 32 (.idxS 30 31), false, true⟩]
 (.ef ⟨3, iC 29 150 [28], true, false⟩ [4, 5, 6]
 (.rd [⟨7, iO 33 (.bin .neq .int 29 32), false, false⟩, ⟨8, iO 34 (.mv 33), false, false⟩, ⟨9, iG 35 34 false (.mv 0), false, false⟩, ⟨10, iG 36 34 false (.mv 3), false, false⟩, ⟨11, iG 37 34 false (.idxS 35 36), false, false⟩]
 (.ef ⟨12, ⟨some 38, some (34, false), .call 149 [37]⟩, true, false⟩ []
 (.rd [⟨13, iG 39 34 false (.un .not 38), false, false⟩, ⟨14, iG 40 34 false (.mv 39), false, false⟩, ⟨15, iG 41 40 true (.mv 0), false, false⟩, ⟨16, iG 42 40 true (.mv 3), false, false⟩, ⟨17, iG 43 40 true (.idxS 41 42), false, false⟩]
 (.ef ⟨18, ⟨some 44, some (40, true), .call 151 [43]⟩, true, false⟩ []
 (.rd [⟨19, iG 45 40 true (.un .not 44), false, false⟩, ⟨20, iG 46 34 false (.pick 40 45 (.val (.bool false))), false, false⟩, ⟨21, iO 47 (.pick 34 (.val (.bool true)) 46), false, false⟩]
 (.nil)))))))))
 (.cond 47
 (.seq (.ops [iO 2 (.mv (.val (.bool false)))])
 (.ret))
 (.skip))))
 (.ops [iO 24 (.mv 3), iO 25 (.bin .add .int 24 (aI 1)), iO 3 (.mv 25)]))
def f107m (G : Nat → AVal) : MC :=
 .seq (.ops [iO 2 (.mv (.val (.bool false)))])
 (.seq (.seq (.ops [iO 4 (.mv 0), iO 5 (.lenStr 4), iO 6 (.bin .lss .int 5 (aI 1)), iO 7 (.mv 6), iG 8 7 false (.mv 0), iG 9 7 false (.lenStr 8), iG 10 7 false (.bin .gtr .int 9 (aI 32)), iO 11 (.pick 7 (.val (.bool true)) 10), iO 12 (.mv 11), iG 13 12 false (.mv 0), ⟨some 14, some (12, false), .call 148 [13]⟩, iO 15 (.pick 12 (.val (.bool true)) 14)])
 (.cond 15
 (.seq (.ops [iO 2 (.mv (.val (.bool false)))])
 (.ret))
 (.skip)))
 (.seq (.seq (.ops [iO 16 (.mv 0), iO 17 (.idxS 16 (aI 0)), iC 18 149 [17], iO 19 (.un .not 18)])
 (.cond 19
 (.seq (.ops [iO 2 (.mv (.val (.bool false)))])
 (.ret))
 (.skip)))
 (.seq (.seq (.ops [iO 3 (.mv (aI 0))])
 (.block 0
 (.loop (f107b0 G))))
 (.seq (.ops [iO 2 (.mv (.val (.bool true)))])
 (.ret)))))
def f107 (G : Nat → AVal) : AFn := ⟨48, [.tmp 2], f107m G⟩
theorem f107_c (G : Nat → AVal) : cmpFn Tryz.prog G [] 107 = some (f107 G) := by kernel_rfl
def f97b0 (G : Nat → AVal) : MC :=
 .seq (.seq (.ops [iO 18 (.mv 3), iO 19 (.lenStr 18), iO 20 (.faddr 3 1), iO 21 (.load false 1 20), iO 22 (.bin .leq .int 19 21)])
 (.cond 22
 (.skip)
 (.exit 1)))
 (.block 2
 (.ops [iO 23 (.mv 3), iO 24 (.bin .add .int (aS [48]) 23), iO 3 (.mv 24)]))
def f97b1 (G : Nat → AVal) : MC :=
 .seq (.seq (.ops [iO 44 (.mv 5), iO 45 (.faddr 1 1), iO 46 (.load false 1 45), iO 47 (.lenStr 46), iO 48 (.bin .lss .int 44 47)])
 (.cond 48
 (.skip)
 (.exit 3)))
 (.seq (.block 4
 (.seq (.ops [iO 51 (.mv 4), iO 52 (.faddr 1 1), iO 53 (.load false 1 52), iO 54 (.mv 5), iO 55 (.idxS 53 54), iO 56 (.bslice false 1 1 [.atom (.int .u8 0)] [(0, 55)]), iO 57 (.append 1 1 51 56), iO 4 (.mv 57)])
 (.seq (.ops [iO 58 (.faddr 1 1), iO 59 (.load false 1 58), iO 60 (.mv 5), iO 61 (.idxS 59 60), iO 62 (.bin .eql .int 61 (.val (.atom (.int .u8 39))))])
 (.cond 62
 (.ops [iO 63 (.mv 4), iO 64 (.bslice false 1 1 [.atom (.int .u8 0)] [(0, (.val (.atom (.int .u8 39))))]), iO 65 (.append 1 1 63 64), iO 4 (.mv 65)])
 (.skip)))))
 (.ops [iO 49 (.mv 5), iO 50 (.bin .add .int 49 (aI 1)), iO 5 (.mv 50)]))
def f97m (G : Nat → AVal) : MC :=
 .seq (.ops [iO 1 (.box true 4 0), iO 2 (.mv (aS []))])
 (.seq (.seq (.ops [iO 6 (.faddr 0 1), iO 7 (.load false 1 6)])
 (.block 0
 (.seq (.ops [iO 9 (.bin .eql .int 7 (aI 2)), iO 8 (.mv 9)])
 (.cond 8
 (.seq (.ops [iO 10 (.faddr 2 1), iO 11 (.load false 1 10), iC 12 141 [11], iO 2 (.mv 12)])
 (.ret))
 (.seq (.ops [iO 14 (.bin .eql .int 7 (aI 3)), iO 13 (.mv 14)])
 (.cond 13
 (.seq (.ops [iO 15 (.faddr 2 1), iO 16 (.load false 1 15), iC 17 141 [16], iO 3 (.mv 17)])
 (.seq (.block 1
 (.loop (f97b0 G)))
 (.seq (.draw (.rd [⟨0, iO 25 (.mv 3), false, false⟩, ⟨1, iO 26 (.mv 3), false, false⟩, ⟨2, iO 27 (.lenStr 26), false, false⟩, ⟨3, iO 28 (.faddr 3 1), false, false⟩, ⟨4, iO 29 (.load false 1 28), false, false⟩, ⟨5, iO 30 (.bin .sub .int 27 29), false, false⟩, ⟨6, iO 31 (.sslc 25 none (some 30)), false, false⟩, ⟨7, iO 32 (.bin .add .int 31 (aS [46])), false, false⟩, ⟨8, iO 33 (.mv 3), false, false⟩, ⟨9, iO 34 (.mv 3), false, false⟩, ⟨10, iO 35 (.lenStr 34), false, false⟩, ⟨11, iO 36 (.faddr 3 1), false, false⟩, ⟨12, iO 37 (.load false 1 36), false, false⟩, ⟨13, iO 38 (.bin .sub .int 35 37), false, false⟩, ⟨14, iO 39 (.sslc 33 (some 38) none), false, false⟩, ⟨15, iO 40 (.bin .add .int 32 39), false, false⟩, ⟨16, iO 2 (.mv 40), false, false⟩]
 (.nil)))
 (.ret))))
 (.seq (.ops [iO 42 (.bin .eql .int 7 (aI 4)), iO 41 (.mv 42)])
 (.cond 41
 (.seq (.ops [iO 43 (.brow false 1 1 [.atom (.int .u8 0)] [(0, (.val (.atom (.int .u8 39))))]), iO 4 (.mv 43)])
 (.seq (.seq (.ops [iO 5 (.mv (aI 0))])
 (.block 3
 (.loop (f97b1 G))))
 (.seq (.ops [iO 66 (.mv 4), iO 67 (.bslice false 1 1 [.atom (.int .u8 0)] [(0, (.val (.atom (.int .u8 39))))]), iO 68 (.append 1 1 66 67), iO 69 (.conv .bytesStr 68), iO 2 (.mv 69)])
 (.ret))))
 (.skip)))))))))
 (.seq (.ops [iO 70 (.faddr 1 1), iO 71 (.load false 1 70), iO 2 (.mv 71)])
 (.ret)))
def f97 (G : Nat → AVal) : AFn := ⟨72, [.tmp 2], f97m G⟩
theorem f97_c (G : Nat → AVal) : cmpFn Tryz.prog G [43] 97 = some (f97 G) := by kernel_rfl
def f149m (G : Nat → AVal) : MC :=
 .seq (.ops [iO 2 (.mv (.val (.bool false)))])
 (.seq (.ops [iO 3 (.mv 0), iO 4 (.bin .eql .int 3 (.val (.atom (.int .u8 95)))), iO 5 (.mv 4), iG 6 5 false (.mv 0), ⟨some 7, some (5, false), .call 150 [6]⟩, iG 8 5 false (.bin .leq .int (.val (.atom (.int .u8 97))) 7), iG 9 5 false (.mv 8), iG 10 9 true (.mv 0), ⟨some 11, some (9, true), .call 150 [10]⟩, iG 12 9 true (.bin .leq .int 11 (.val (.atom (.int .u8 122)))), iG 13 5 false (.pick 9 12 (.val (.bool false))), iO 14 (.pick 5 (.val (.bool true)) 13), iO 2 (.mv 14)])
 (.ret))
def f149 (G : Nat → AVal) : AFn := ⟨15, [.tmp 2], f149m G⟩
theorem f149_c (G : Nat → AVal) : cmpFn Tryz.prog G [] 149 = some (f149 G) := by kernel_rfl
def f150m (G : Nat → AVal) : MC :=
 .seq (.ops [iO 2 (.mv (.val (.atom (.int .u8 0))))])
 (.seq (.seq (.ops [iO 3 (.mv 0), iO 4 (.bin .leq .int (.val (.atom (.int .u8 65))) 3), iO 5 (.mv 4), iG 6 5 true (.mv 0), iG 7 5 true (.bin .leq .int 6 (.val (.atom (.int .u8 90)))), iO 8 (.pick 5 7 (.val (.bool false)))])
 (.cond 8
 (.seq (.ops [iO 9 (.mv 0), iO 10 (.bin .add .int 9 (.val (.atom (.int .u8 32)))), iO 2 (.mv 10)])
 (.ret))
 (.skip)))
 (.seq (.ops [iO 11 (.mv 0), iO 2 (.mv 11)])
 (.ret)))
def f150 (G : Nat → AVal) : AFn := ⟨12, [.tmp 2], f150m G⟩
theorem f150_c (G : Nat → AVal) : cmpFn Tryz.prog G [] 150 = some (f150 G) := by kernel_rfl
def f151m (G : Nat → AVal) : MC :=
 .seq (.ops [iO 2 (.mv (.val (.bool false)))])
 (.seq (.ops [iO 3 (.mv 0), iO 4 (.bin .leq .int (.val (.atom (.int .u8 48))) 3), iO 5 (.mv 4), iG 6 5 true (.mv 0), iG 7 5 true (.bin .leq .int 6 (.val (.atom (.int .u8 57)))), iO 8 (.pick 5 7 (.val (.bool false))), iO 2 (.mv 8)])
 (.ret))
def f151 (G : Nat → AVal) : AFn := ⟨9, [.tmp 2], f151m G⟩
theorem f151_c (G : Nat → AVal) : cmpFn Tryz.prog G [] 151 = some (f151 G) := by kernel_rfl
def f141b0 (G : Nat → AVal) : MC :=
 .seq (.seq (.ops [iO 4 (.mv 0), iO 5 (.bin .gtr .int 4 (aI 9))])
 (.cond 5
 (.skip)
 (.exit 0)))
 (.block 1
 (.seq (.ops [iO 6 (.mv 0), iO 7 (.bin .rem .int 6 (aI 10)), iO 8 (.bin .add .int (aI 48) 7), iO 9 (.conv (.toInt .u8) 8), iO 10 (.bslice false 1 1 [.atom (.int .u8 0)] [(0, 9)]), iO 11 (.conv .bytesStr 10), iO 12 (.mv 3), iO 13 (.bin .add .int 11 12), iO 3 (.mv 13)])
 (.ops [iO 14 (.mv 0), iO 15 (.bin .quo .int 14 (aI 10)), iO 0 (.mv 15)])))
def f141m (G : Nat → AVal) : MC :=
 .seq (.ops [iO 2 (.mv (aS []))])
 (.seq (.ops [iO 3 (.mv (aS []))])
 (.seq (.block 0
 (.loop (f141b0 G)))
 (.seq (.ops [iO 16 (.mv 0), iO 17 (.bin .add .int (aI 48) 16), iO 18 (.conv (.toInt .u8) 17), iO 19 (.bslice false 1 1 [.atom (.int .u8 0)] [(0, 18)]), iO 20 (.conv .bytesStr 19), iO 21 (.mv 3), iO 22 (.bin .add .int 20 21), iO 2 (.mv 22)])
 (.ret))))
def f141 (G : Nat → AVal) : AFn := ⟨23, [.tmp 2], f141m G⟩
theorem f141_c (G : Nat → AVal) : cmpFn Tryz.prog G [] 141 = some (f141 G) := by kernel_rfl
end Go.Abs
namespace Go.Abs
open Go Go.RowKit Go.Proofs
def f121b0 (G : Nat → AVal) : MC :=
 .seq (.block 1
 (.seq (.ops [iO 10 (.mv 2), ⟨some 11, none, .callV 10 []⟩])
 (.seq (.seq (.ops [iO 12 (.mv 0), iC 13 78 [12], iO 7 (.alloc 4 [.int 0, .str [], .int 0, .int 0]), iZ (.store true 4 7 13)])
 (.seq (.ops [iO 14 (.faddr 0 7), iO 15 (.load false 1 14), iO 16 (.bin .neq .int 15 (aI 5)), iO 17 (.mv 16), iG 18 17 false (.faddr 1 7), iG 19 17 false (.load false 1 18), iG 20 17 false (.bin .neq .str 19 (aS [44])), iO 21 (.pick 17 (.val (.bool true)) 20)])
 (.cond 21
 (.ret)
 (.skip))))
 (.seq (.seq (.ops [iO 22 (.mv 6), iO 23 (.mv 1), iO 24 (.bin .eql .int 22 23)])
 (.cond 24
 (.ops [iC 25 27 [(aI 151)]])
 (.skip)))
 (.ops [iO 26 (.mv 0), iC 27 129 [26, (aS [44])]])))))
 (.ops [iO 8 (.mv 6), iO 9 (.bin .add .int 8 (aI 1)), iO 6 (.mv 9)])
def f121m (G : Nat → AVal) : MC :=
 .seq (.ops [iO 6 (.mv (aI 1))])
 (.block 0
 (.loop (f121b0 G)))
def f121 (G : Nat → AVal) : AFn := ⟨28, [], f121m G⟩
theorem f121_c (G : Nat → AVal) : cmpFn Tryz.prog G [] 121 = some (f121 G) := by kernel_rfl
def f122m (G : Nat → AVal) : MC :=
 .draw (.rd [⟨0, iO 2 (.load false 1 0), false, true⟩, ⟨1, iO 3 (.load false 1 0), false, true⟩, ⟨2, iO 4 (.nilck 3), false, true⟩, ⟨3, iO 5 (.faddr 3 4), false, true⟩, ⟨4, iO 6 (.load false 1 5), false, true⟩, ⟨5, iO 7 (.load false 1 1), false, false⟩]
 (.ef ⟨6, iC 8 123 [7], true, false⟩ [0, 1, 2, 3, 4]
 (.rd [⟨7, iO 9 (.bslice true 3 1 [.str [], .int 0, .bool false] [(0, 8)]), false, false⟩]
 (.ef ⟨8, iO 10 (.append 3 32 6 9), true, false⟩ [0]
 (.rd [⟨9, iO 11 (.nilck 2), false, false⟩, ⟨10, iO 12 (.faddr 3 11), false, false⟩]
 (.ef ⟨11, iZ (.store false 1 12 10), true, false⟩ []
 (.nil)))))))
def f122 (G : Nat → AVal) : AFn := ⟨13, [], f122m G⟩
theorem f122_c (G : Nat → AVal) : cmpFn Tryz.prog G [] 122 = some (f122 G) := by kernel_rfl
def f123m (G : Nat → AVal) : MC :=
 .seq (.ops [iO 2 (.alloc 3 [.str [], .int 0, .bool false])])
 (.seq (.ops [iO 3 (.mv 0), iC 4 82 [3], iO 5 (.faddr 0 2), iZ (.store false 1 5 4)])
 (.seq (.block 0
 (.seq (.ops [iO 11 (.mv 0), iC 12 81 [11, (aS [105, 110, 116])], iO 10 (.mv 12)])
 (.cond 10
 (.ops [iO 13 (.faddr 1 2), iZ (.store false 1 13 (aI 2))])
 (.seq (.ops [iO 15 (.mv 0), iC 16 81 [15, (aS [114, 101, 97, 108])], iO 14 (.mv 16)])
 (.cond 14
 (.ops [iO 17 (.faddr 1 2), iZ (.store false 1 17 (aI 3))])
 (.seq (.ops [iO 19 (.mv 0), iC 20 81 [19, (aS [98, 111, 111, 108])], iO 18 (.mv 20)])
 (.cond 18
 (.ops [iO 21 (.faddr 1 2), iZ (.store false 1 21 (aI 1))])
 (.seq (.ops [iO 6 (.mv 0), iO 7 (.bslice false 1 1 [.str []] [(0, (aS [116, 101, 120, 116]))]), iC 8 79 [6, 7]])
 (.ops [iO 9 (.faddr 1 2), iZ (.store false 1 9 (aI 4))])))))))))
 (.seq (.seq (.ops [iO 22 (.mv 0), iC 23 81 [22, (aS [110, 111, 116])]])
 (.cond 23
 (.seq (.ops [iO 24 (.mv 0), iO 25 (.bslice false 1 1 [.str []] [(0, (aS [110, 117, 108, 108]))]), iC 26 79 [24, 25]])
 (.ops [iO 27 (.faddr 2 2), iZ (.store false 1 27 (.val (.bool true)))]))
 (.skip)))
 (.seq (.ops [iO 28 (.load true 3 2), iZ (.store true 3 2 28)])
 (.ret)))))
def f123 (G : Nat → AVal) : AFn := ⟨29, [.cell 2 true 3], f123m G⟩
theorem f123_c (G : Nat → AVal) : cmpFn Tryz.prog G [] 123 = some (f123 G) := by kernel_rfl
def f124m (G : Nat → AVal) : MC :=
 .draw (.rd [⟨0, iO 2 (.load false 1 0), false, true⟩, ⟨1, iO 3 (.load false 1 0), false, true⟩, ⟨2, iO 4 (.nilck 3), false, true⟩, ⟨3, iO 5 (.faddr 4 4), false, true⟩, ⟨4, iO 6 (.load false 1 5), false, true⟩, ⟨5, iO 7 (.load false 1 1), false, false⟩]
 (.ef ⟨6, iC 8 82 [7], true, false⟩ [0, 1, 2, 3, 4]
 (.rd [⟨7, iO 9 (.bslice false 1 1 [.str []] [(0, 8)]), false, false⟩]
 (.ef ⟨8, iO 10 (.append 1 16 6 9), true, false⟩ [0]
 (.rd [⟨9, iO 11 (.nilck 2), false, false⟩, ⟨10, iO 12 (.faddr 4 11), false, false⟩]
 (.ef ⟨11, iZ (.store false 1 12 10), true, false⟩ []
 (.nil)))))))
def f124 (G : Nat → AVal) : AFn := ⟨13, [], f124m G⟩
theorem f124_c (G : Nat → AVal) : cmpFn Tryz.prog G [] 124 = some (f124 G) := by kernel_rfl
def f126m (G : Nat → AVal) : MC :=
 .seq (.ops [iO 2 (.alloc 1 [.nilS])])
 (.seq (.ops [iO 3 (.load false 1 0), iC 4 120 [3, (aS [40])]])
 (.seq (.ops [iO 5 (.load false 1 0), iO 6 (.mkfn (.func 127) [] [2, 0]), iC 7 121 [5, (aI 50), 6]])
 (.seq (.ops [iO 8 (.load false 1 0), iC 9 120 [8, (aS [41])]])
 (.draw (.rd [⟨0, iO 10 (.load false 1 1), false, true⟩, ⟨1, iO 11 (.load false 1 1), false, false⟩, ⟨2, iO 12 (.nilck 11), false, false⟩, ⟨3, iO 13 (.faddr 6 12), false, false⟩, ⟨4, iO 14 (.load false 1 13), false, false⟩, ⟨5, iO 15 (.load false 1 2), false, false⟩, ⟨6, iO 16 (.bslice false 1 1 [.nilS] [(0, 15)]), false, false⟩]
 (.ef ⟨7, iO 17 (.append 1 24 14 16), true, false⟩ [0]
 (.rd [⟨8, iO 18 (.nilck 10), false, false⟩, ⟨9, iO 19 (.faddr 6 18), false, false⟩]
 (.ef ⟨10, iZ (.store false 1 19 17), true, false⟩ []
 (.nil)))))))))
def f126 (G : Nat → AVal) : AFn := ⟨20, [], f126m G⟩
theorem f126_c (G : Nat → AVal) : cmpFn Tryz.prog G [] 126 = some (f126 G) := by kernel_rfl
def f127m (G : Nat → AVal) : MC :=
 .draw (.rd [⟨0, iO 2 (.load false 1 0), false, true⟩, ⟨1, iO 3 (.load false 1 1), false, false⟩, ⟨3, iO 5 (.lenS 2), false, true⟩, ⟨4, iO 6 (.bslice true 7 1 [.int 0, .nilS, .int 0, .int 0, .int 0, .str [], .str []] [(0, (.val (.agg [.int 0, .nilS, .int 0, .int 0, .int 0, .str [], .str []])))]), false, true⟩]
 (.ef ⟨2, iC 4 128 [3], true, false⟩ [0, 3, 4]
 (.ef ⟨5, iO 7 (.append 7 88 2 6), true, false⟩ []
 (.rd [⟨6, iO 8 (.iaddr 7 7 5), false, true⟩]
 (.or (.ef ⟨7, iZ (.store true 7 8 4), true, false⟩ []
 (.ef ⟨8, iZ (.store false 1 0 7), true, false⟩ []
 (.nil)))
 (.ef ⟨8, iZ (.store false 1 0 7), true, false⟩ [6]
 (.ef ⟨7, iZ (.store true 7 8 4), true, false⟩ []
 (.nil))))))))
def f127 (G : Nat → AVal) : AFn := ⟨9, [], f127m G⟩
theorem f127_c (G : Nat → AVal) : cmpFn Tryz.prog G [] 127 = some (f127 G) := by kernel_rfl
def f130m (G : Nat → AVal) : MC :=
 .seq (.ops [iO 3 (.load false 1 0), iC 4 128 [3], iO 5 (.build [.int 0, .nilS, .int 0, .int 0, .int 0, .str [], .str [], .str []] [(true, 0, 7, 4)]), iO 2 (.alloc 8 [.int 0, .nilS, .int 0, .int 0, .int 0, .str [], .str [], .str []]), iZ (.store true 8 2 5)])
 (.seq (.seq (.ops [iO 6 (.load false 1 0), iC 7 81 [6, (aS [97, 115])]])
 (.cond 7
 (.ops [iO 8 (.load false 1 0), iC 9 82 [8], iO 10 (.faddr 7 2), iZ (.store false 1 10 9)])
 (.skip)))
 (.draw (.rd [⟨0, iO 11 (.load false 1 1), false, true⟩, ⟨1, iO 12 (.load false 1 1), false, false⟩, ⟨2, iO 13 (.nilck 12), false, false⟩, ⟨3, iO 14 (.faddr 7 13), false, false⟩, ⟨4, iO 15 (.load false 1 14), false, false⟩, ⟨5, iO 16 (.load true 8 2), false, false⟩, ⟨6, iO 17 (.bslice true 8 1 [.int 0, .nilS, .int 0, .int 0, .int 0, .str [], .str [], .str []] [(0, 16)]), false, false⟩]
 (.ef ⟨7, iO 18 (.append 8 104 15 17), true, false⟩ [0]
 (.rd [⟨8, iO 19 (.nilck 11), false, false⟩, ⟨9, iO 20 (.faddr 7 19), false, false⟩]
 (.ef ⟨10, iZ (.store false 1 20 18), true, false⟩ []
 (.nil)))))))
def f130 (G : Nat → AVal) : AFn := ⟨21, [], f130m G⟩
theorem f130_c (G : Nat → AVal) : cmpFn Tryz.prog G [] 130 = some (f130 G) := by kernel_rfl
def f131m (G : Nat → AVal) : MC :=
 .seq (.ops [iO 2 (.alloc 9 [.str [], .str [], .int 0, .nilS, .int 0, .int 0, .int 0, .str [], .str []])])
 (.seq (.ops [iO 3 (.mv 0), iC 4 82 [3], iO 5 (.faddr 0 2), iZ (.store false 1 5 4)])
 (.seq (.seq (.ops [iO 6 (.mv 0), iC 7 81 [6, (aS [97, 115])]])
 (.cond 7
 (.ops [iO 8 (.mv 0), iC 9 82 [8], iO 10 (.faddr 1 2), iZ (.store false 1 10 9)])
 (.skip)))
 (.seq (.ops [iO 11 (.load true 9 2), iZ (.store true 9 2 11)])
 (.ret))))
def f131 (G : Nat → AVal) : AFn := ⟨12, [.cell 2 true 9], f131m G⟩
theorem f131_c (G : Nat → AVal) : cmpFn Tryz.prog G [] 131 = some (f131 G) := by kernel_rfl
def f132m (G : Nat → AVal) : MC :=
 .draw (.rd [⟨0, iO 2 (.load false 1 0), false, true⟩, ⟨1, iO 3 (.load false 1 0), false, true⟩, ⟨2, iO 4 (.nilck 3), false, true⟩, ⟨3, iO 5 (.faddr 16 4), false, true⟩, ⟨4, iO 6 (.load false 1 5), false, true⟩, ⟨5, iO 7 (.load false 1 1), false, false⟩, ⟨7, iO 9 (.load false 1 1), false, true⟩]
 (.ef ⟨6, iC 8 128 [7], true, false⟩ [0, 1, 2, 3, 4, 7]
 (.ef ⟨8, iC 10 81 [9, (aS [100, 101, 115, 99])], true, false⟩ [0, 1, 2, 3, 4]
 (.rd [⟨9, iO 11 (.build [.int 0, .nilS, .int 0, .int 0, .int 0, .str [], .str [], .bool false] [(true, 0, 7, 8), (false, 7, 1, 10)]), false, false⟩, ⟨10, iO 12 (.bslice true 8 1 [.int 0, .nilS, .int 0, .int 0, .int 0, .str [], .str [], .bool false] [(0, 11)]), false, false⟩]
 (.ef ⟨11, iO 13 (.append 8 96 6 12), true, false⟩ [0]
 (.rd [⟨12, iO 14 (.nilck 2), false, false⟩, ⟨13, iO 15 (.faddr 16 14), false, false⟩]
 (.ef ⟨14, iZ (.store false 1 15 13), true, false⟩ []
 (.nil))))))))
def f132 (G : Nat → AVal) : AFn := ⟨16, [], f132m G⟩
theorem f132_c (G : Nat → AVal) : cmpFn Tryz.prog G [] 132 = some (f132 G) := by kernel_rfl
def f133m (G : Nat → AVal) : MC :=
 .seq (.ops [iO 3 (.load false 1 0), iC 4 82 [3], iO 2 (.mv 4)])
 (.seq (.ops [iO 5 (.load false 1 0), iC 6 120 [5, (aS [61])]])
 (.draw (.rd [⟨0, iO 7 (.load false 1 1), false, true⟩, ⟨1, iO 8 (.load false 1 1), false, true⟩, ⟨2, iO 9 (.nilck 8), false, true⟩, ⟨3, iO 10 (.faddr 17 9), false, true⟩, ⟨4, iO 11 (.load false 1 10), false, true⟩, ⟨5, iO 12 (.mv 2), false, true⟩, ⟨6, iO 13 (.load false 1 0), false, false⟩]
 (.ef ⟨7, iC 14 128 [13], true, false⟩ [0, 1, 2, 3, 4, 5]
 (.rd [⟨8, iO 15 (.build [.str [], .int 0, .nilS, .int 0, .int 0, .int 0, .str [], .str []] [(false, 0, 1, 12), (true, 1, 7, 14)]), false, false⟩, ⟨9, iO 16 (.bslice true 8 1 [.str [], .int 0, .nilS, .int 0, .int 0, .int 0, .str [], .str []] [(0, 15)]), false, false⟩]
 (.ef ⟨10, iO 17 (.append 8 104 11 16), true, false⟩ [0]
 (.rd [⟨11, iO 18 (.nilck 7), false, false⟩, ⟨12, iO 19 (.faddr 17 18), false, false⟩]
 (.ef ⟨13, iZ (.store false 1 19 17), true, false⟩ []
 (.nil)))))))))
def f133 (G : Nat → AVal) : AFn := ⟨20, [], f133m G⟩
theorem f133_c (G : Nat → AVal) : cmpFn Tryz.prog G [] 133 = some (f133 G) := by kernel_rfl
def f80m (G : Nat → AVal) : MC :=
 .seq (.ops [iO 2 (.box false 1 0), iO 3 (.box false 1 1)])
 (.seq (.seq (.ops [iO 4 (.load false 1 2), iC 5 81 [4, (aS [116, 97, 98, 108, 101])]])
 (.cond 5
 (.seq (.draw (.rd [⟨0, iO 6 (.load false 1 3), false, true⟩, ⟨1, iO 7 (.load false 1 3), false, true⟩, ⟨2, iO 8 (.load false 1 2), false, false⟩]
 (.ef ⟨3, iC 9 82 [8], true, false⟩ [0, 1]
 (.rd [⟨4, iO 10 (.nilck 6), false, false⟩, ⟨5, iO 11 (.faddr 0 10), false, false⟩]
 (.ef ⟨6, iZ (.store false 1 11 (aI 1)), true, false⟩ [1]
 (.rd [⟨7, iO 12 (.nilck 7), false, false⟩, ⟨8, iO 13 (.faddr 1 12), false, false⟩]
 (.ef ⟨9, iZ (.store false 1 13 9), true, false⟩ []
 (.nil))))))))
 (.seq (.ops [iO 14 (.load false 1 2), iC 15 120 [14, (aS [40])]])
 (.seq (.ops [iO 16 (.load false 1 2), iO 17 (.mkfn (.func 122) [] [3, 2]), iC 18 121 [16, (aI 16), 17]])
 (.seq (.ops [iO 19 (.load false 1 2), iC 20 120 [19, (aS [41])]])
 (.ret)))))
 (.skip)))
 (.seq (.draw (.rd [⟨0, iO 21 (.load false 1 3), false, true⟩, ⟨1, iO 22 (.load false 1 3), false, true⟩, ⟨2, iO 23 (.load false 1 2), false, false⟩]
 (.ef ⟨3, iC 24 81 [23, (aS [117, 110, 105, 113, 117, 101])], true, false⟩ [0, 1]
 (.rd [⟨4, iO 25 (.nilck 21), false, false⟩, ⟨5, iO 26 (.faddr 0 25), false, false⟩]
 (.ef ⟨6, iZ (.store false 1 26 (aI 3)), true, false⟩ [1]
 (.rd [⟨7, iO 27 (.nilck 22), false, false⟩, ⟨8, iO 28 (.faddr 5 27), false, false⟩]
 (.ef ⟨9, iZ (.store false 1 28 24), true, false⟩ []
 (.nil))))))))
 (.seq (.ops [iO 29 (.load false 1 2), iO 30 (.bslice false 1 1 [.str []] [(0, (aS [105, 110, 100, 101, 120]))]), iC 31 79 [29, 30]])
 (.seq (.draw (.rd [⟨0, iO 32 (.load false 1 3), false, true⟩, ⟨1, iO 33 (.load false 1 2), false, false⟩]
 (.ef ⟨2, iC 34 82 [33], true, false⟩ [0]
 (.rd [⟨3, iO 35 (.nilck 32), false, false⟩, ⟨4, iO 36 (.faddr 2 35), false, false⟩]
 (.ef ⟨5, iZ (.store false 1 36 34), true, false⟩ []
 (.nil))))))
 (.seq (.ops [iO 37 (.load false 1 2), iO 38 (.bslice false 1 1 [.str []] [(0, (aS [111, 110]))]), iC 39 79 [37, 38]])
 (.seq (.draw (.rd [⟨0, iO 40 (.load false 1 3), false, true⟩, ⟨1, iO 41 (.load false 1 2), false, false⟩]
 (.ef ⟨2, iC 42 82 [41], true, false⟩ [0]
 (.rd [⟨3, iO 43 (.nilck 40), false, false⟩, ⟨4, iO 44 (.faddr 1 43), false, false⟩]
 (.ef ⟨5, iZ (.store false 1 44 42), true, false⟩ []
 (.nil))))))
 (.seq (.ops [iO 45 (.load false 1 2), iC 46 120 [45, (aS [40])]])
 (.seq (.ops [iO 47 (.load false 1 2), iO 48 (.mkfn (.func 124) [] [3, 2]), iC 49 121 [47, (aI 4), 48]])
 (.ops [iO 50 (.load false 1 2), iC 51 120 [50, (aS [41])]])))))))))
def f80 (G : Nat → AVal) : AFn := ⟨52, [], f80m G⟩
theorem f80_c (G : Nat → AVal) : cmpFn Tryz.prog G [] 80 = some (f80 G) := by kernel_rfl
def f83m (G : Nat → AVal) : MC :=
 .seq (.ops [iO 2 (.box false 1 0), iO 3 (.box false 1 1)])
 (.seq (.ops [iO 4 (.load false 1 2), iO 5 (.bslice false 1 1 [.str []] [(0, (aS [105, 110, 116, 111]))]), iC 6 79 [4, 5]])
 (.seq (.draw (.rd [⟨0, iO 7 (.load false 1 3), false, true⟩, ⟨1, iO 8 (.load false 1 3), false, true⟩, ⟨2, iO 9 (.load false 1 2), false, false⟩]
 (.ef ⟨3, iC 10 82 [9], true, false⟩ [0, 1]
 (.rd [⟨4, iO 11 (.nilck 7), false, false⟩, ⟨5, iO 12 (.faddr 0 11), false, false⟩]
 (.ef ⟨6, iZ (.store false 1 12 (aI 5)), true, false⟩ [1]
 (.rd [⟨7, iO 13 (.nilck 8), false, false⟩, ⟨8, iO 14 (.faddr 1 13), false, false⟩]
 (.ef ⟨9, iZ (.store false 1 14 10), true, false⟩ []
 (.nil))))))))
 (.seq (.ops [iO 15 (.load false 1 2), iO 16 (.bslice false 1 1 [.str []] [(0, (aS [118, 97, 108, 117, 101, 115]))]), iC 17 79 [15, 16]])
 (.ops [iO 18 (.load false 1 2), iO 19 (.mkfn (.func 126) [] [2, 3]), iC 20 121 [18, (aI 50), 19]]))))
def f83 (G : Nat → AVal) : AFn := ⟨21, [], f83m G⟩
theorem f83_c (G : Nat → AVal) : cmpFn Tryz.prog G [] 83 = some (f83 G) := by kernel_rfl
def f84b0 (G : Nat → AVal) : MC :=
 .seq (.seq (.ops [iO 26 (.faddr 0 4), iO 27 (.load false 1 26), iO 28 (.bin .eql .int 27 (aI 1)), iO 29 (.mv 28), iG 30 29 true (.faddr 1 4), iG 31 29 true (.load false 1 30), iG 32 29 true (.bin .eql .str 31 (aS [105, 110, 110, 101, 114])), iG 33 29 true (.mv 32), iG 34 33 false (.faddr 1 4), iG 35 33 false (.load false 1 34), iG 36 33 false (.bin .eql .str 35 (aS [106, 111, 105, 110])), iG 37 29 true (.pick 33 (.val (.bool true)) 36), iO 38 (.pick 29 37 (.val (.bool false)))])
 (.cond 38
 (.skip)
 (.exit 0)))
 (.seq (.block 1
 (.seq (.seq (.ops [iO 41 (.load false 1 3), iO 42 (.nilck 41), iO 43 (.faddr 8 42), iO 44 (.load false 1 43), iO 45 (.lenS 44), iO 46 (.bin .eql .int 45 (aI 4))])
 (.cond 46
 (.ops [iC 47 27 [(aI 151)]])
 (.skip)))
 (.seq (.ops [iO 48 (.load false 1 2), iC 49 81 [48, (aS [105, 110, 110, 101, 114])]])
 (.seq (.ops [iO 50 (.load false 1 2), iO 51 (.bslice false 1 1 [.str []] [(0, (aS [106, 111, 105, 110]))]), iC 52 79 [50, 51]])
 (.seq (.ops [iO 53 (.load false 1 2), iC 54 131 [53], iO 5 (.alloc 9 [.str [], .str [], .int 0, .nilS, .int 0, .int 0, .int 0, .str [], .str []]), iZ (.store true 9 5 54)])
 (.seq (.ops [iO 55 (.load false 1 2), iO 56 (.bslice false 1 1 [.str []] [(0, (aS [111, 110]))]), iC 57 79 [55, 56]])
 (.seq (.ops [iO 58 (.load false 1 2), iC 59 128 [58], iO 60 (.faddr 2 5), iZ (.store true 7 60 59)])
 (.draw (.rd [⟨0, iO 61 (.load false 1 3), false, true⟩, ⟨1, iO 62 (.load false 1 3), false, false⟩, ⟨2, iO 63 (.nilck 62), false, false⟩, ⟨3, iO 64 (.faddr 8 63), false, false⟩, ⟨4, iO 65 (.load false 1 64), false, false⟩, ⟨5, iO 66 (.load true 9 5), false, false⟩, ⟨6, iO 67 (.bslice true 9 1 [.str [], .str [], .int 0, .nilS, .int 0, .int 0, .int 0, .str [], .str []] [(0, 66)]), false, false⟩]
 (.ef ⟨7, iO 68 (.append 9 120 65 67), true, false⟩ [0]
 (.rd [⟨8, iO 69 (.nilck 61), false, false⟩, ⟨9, iO 70 (.faddr 8 69), false, false⟩]
 (.ef ⟨10, iZ (.store false 1 70 68), true, false⟩ []
 (.nil)))))))))))))
 (.seq (.seq (.ops [iO 71 (.load true 4 4)])
 (.ops [iO 4 (.alloc 4 [.int 0, .str [], .int 0, .int 0]), iZ (.store true 4 4 71)]))
 (.ops [iO 39 (.load false 1 2), iC 40 78 [39], iZ (.store true 4 4 40)])))
def f84m (G : Nat → AVal) : MC :=
 .seq (.ops [iO 2 (.box false 1 0), iO 3 (.box false 1 1)])
 (.seq (.ops [iO 6 (.load false 1 3), iO 7 (.nilck 6), iO 8 (.faddr 0 7), iZ (.store false 1 8 (aI 6))])
 (.seq (.seq (.ops [iO 9 (.load false 1 2), iC 10 129 [9, (aS [42])], iO 11 (.un .not 10)])
 (.cond 11
 (.ops [iO 12 (.load false 1 2), iO 13 (.mkfn (.func 130) [] [2, 3]), iC 14 121 [12, (aI 50), 13]])
 (.skip)))
 (.seq (.ops [iO 15 (.load false 1 2), iO 16 (.bslice false 1 1 [.str []] [(0, (aS [102, 114, 111, 109]))]), iC 17 79 [15, 16]])
 (.seq (.draw (.rd [⟨0, iO 18 (.load false 1 3), false, true⟩, ⟨1, iO 19 (.load false 1 2), false, false⟩]
 (.ef ⟨2, iC 20 131 [19], true, false⟩ [0]
 (.ef ⟨3, iO 21 (.brow true 9 1 [.str [], .str [], .int 0, .nilS, .int 0, .int 0, .int 0, .str [], .str []] [(0, 20)]), true, false⟩ [0]
 (.rd [⟨4, iO 22 (.nilck 18), false, false⟩, ⟨5, iO 23 (.faddr 8 22), false, false⟩]
 (.ef ⟨6, iZ (.store false 1 23 21), true, false⟩ []
 (.nil)))))))
 (.seq (.seq (.ops [iO 24 (.load false 1 2), iC 25 78 [24], iO 4 (.alloc 4 [.int 0, .str [], .int 0, .int 0]), iZ (.store true 4 4 25)])
 (.block 0
 (.loop (f84b0 G))))
 (.seq (.ops [iO 72 (.load false 1 2), iO 73 (.load false 1 3), iC 74 86 [72, 73]])
 (.seq (.ops [iO 75 (.load false 1 2), iC 76 81 [75, (aS [111, 114, 100, 101, 114])]])
 (.cond 76
 (.seq (.ops [iO 77 (.load false 1 2), iO 78 (.bslice false 1 1 [.str []] [(0, (aS [98, 121]))]), iC 79 79 [77, 78]])
 (.ops [iO 80 (.load false 1 2), iO 81 (.mkfn (.func 132) [] [3, 2]), iC 82 121 [80, (aI 50), 81]]))
 (.skip)))))))))
def f84 (G : Nat → AVal) : AFn := ⟨83, [], f84m G⟩
theorem f84_c (G : Nat → AVal) : cmpFn Tryz.prog G [21] 84 = some (f84 G) := by kernel_rfl
def f85m (G : Nat → AVal) : MC :=
 .seq (.ops [iO 2 (.box false 1 0), iO 3 (.box false 1 1)])
 (.seq (.draw (.rd [⟨0, iO 4 (.load false 1 3), false, true⟩, ⟨1, iO 5 (.load false 1 3), false, true⟩, ⟨2, iO 6 (.load false 1 2), false, false⟩]
 (.ef ⟨3, iC 7 82 [6], true, false⟩ [0, 1]
 (.rd [⟨4, iO 8 (.nilck 4), false, false⟩, ⟨5, iO 9 (.faddr 0 8), false, false⟩]
 (.ef ⟨6, iZ (.store false 1 9 (aI 7)), true, false⟩ [1]
 (.rd [⟨7, iO 10 (.nilck 5), false, false⟩, ⟨8, iO 11 (.faddr 1 10), false, false⟩]
 (.ef ⟨9, iZ (.store false 1 11 7), true, false⟩ []
 (.nil))))))))
 (.seq (.ops [iO 12 (.load false 1 2), iO 13 (.bslice false 1 1 [.str []] [(0, (aS [115, 101, 116]))]), iC 14 79 [12, 13]])
 (.seq (.ops [iO 15 (.load false 1 2), iO 16 (.mkfn (.func 133) [] [2, 3]), iC 17 121 [15, (aI 50), 16]])
 (.ops [iO 18 (.load false 1 2), iO 19 (.load false 1 3), iC 20 86 [18, 19]]))))
def f85 (G : Nat → AVal) : AFn := ⟨21, [], f85m G⟩
theorem f85_c (G : Nat → AVal) : cmpFn Tryz.prog G [] 85 = some (f85 G) := by kernel_rfl
def f86m (G : Nat → AVal) : MC :=
 .seq (.ops [iO 4 (.mv 0), iC 5 81 [4, (aS [119, 104, 101, 114, 101])]])
 (.cond 5
 (.ops [iO 6 (.mv 1), iO 7 (.mv 0), iC 8 128 [7], iO 9 (.nilck 6), iO 10 (.faddr 9 9), iZ (.store true 7 10 8)])
 (.skip))
def f86 (G : Nat → AVal) : AFn := ⟨11, [], f86m G⟩
theorem f86_c (G : Nat → AVal) : cmpFn Tryz.prog G [] 86 = some (f86 G) := by kernel_rfl
def f26m (G : Nat → AVal) : MC :=
 .seq (.ops [iO 2 (.alloc 18 [.int 0, .str [], .str [], .nilS, .nilS, .bool false, .nilS, .nilS, .nilS, .int 0, .nilS, .int 0, .int 0, .int 0, .str [], .str [], .nilS, .nilS])])
 (.seq (.ops [iO 4 (.mv 0), iC 5 78 [4], iO 3 (.alloc 4 [.int 0, .str [], .int 0, .int 0]), iZ (.store true 4 3 5)])
 (.seq (.ops [iO 6 (.mv 0), iO 7 (.faddr 1 3), iO 8 (.load false 1 7), iO 9 (.bslice false 1 1 [.str []] [(0, 8)]), iC 10 79 [6, 9]])
 (.seq (.seq (.ops [iO 11 (.faddr 0 3), iO 12 (.load false 1 11), iO 13 (.bin .neq .int 12 (aI 1))])
 (.cond 13
 (.ops [iC 14 27 [(aI 130)]])
 (.skip)))
 (.seq (.seq (.ops [iO 15 (.faddr 1 3), iO 16 (.load false 1 15)])
 (.block 0
 (.seq (.ops [iO 19 (.bin .eql .str 16 (aS [99, 114, 101, 97, 116, 101])), iO 18 (.mv 19)])
 (.cond 18
 (.ops [iO 20 (.mv 0), iC 21 80 [20, 2]])
 (.seq (.ops [iO 23 (.bin .eql .str 16 (aS [100, 114, 111, 112])), iO 22 (.mv 23)])
 (.cond 22
 (.seq (.ops [iO 24 (.faddr 0 2), iZ (.store false 1 24 (aI 4))])
 (.seq (.ops [iO 25 (.mv 0), iC 26 81 [25, (aS [116, 97, 98, 108, 101])]])
 (.cond 26
 (.ops [iO 27 (.mv 0), iC 28 82 [27], iO 29 (.faddr 0 2), iZ (.store false 1 29 (aI 2)), iO 30 (.faddr 1 2), iZ (.store false 1 30 28)])
 (.seq (.ops [iO 31 (.mv 0), iO 32 (.bslice false 1 1 [.str []] [(0, (aS [105, 110, 100, 101, 120]))]), iC 33 79 [31, 32]])
 (.ops [iO 34 (.mv 0), iC 35 82 [34], iO 36 (.faddr 2 2), iZ (.store false 1 36 35)])))))
 (.seq (.ops [iO 38 (.bin .eql .str 16 (aS [105, 110, 115, 101, 114, 116])), iO 37 (.mv 38)])
 (.cond 37
 (.ops [iO 39 (.mv 0), iC 40 83 [39, 2]])
 (.seq (.ops [iO 42 (.bin .eql .str 16 (aS [115, 101, 108, 101, 99, 116])), iO 41 (.mv 42)])
 (.cond 41
 (.ops [iO 43 (.mv 0), iC 44 84 [43, 2]])
 (.seq (.ops [iO 46 (.bin .eql .str 16 (aS [117, 112, 100, 97, 116, 101])), iO 45 (.mv 46)])
 (.cond 45
 (.ops [iO 47 (.mv 0), iC 48 85 [47, 2]])
 (.seq (.ops [iO 50 (.bin .eql .str 16 (aS [100, 101, 108, 101, 116, 101])), iO 49 (.mv 50)])
 (.cond 49
 (.seq (.ops [iO 51 (.mv 0), iO 52 (.bslice false 1 1 [.str []] [(0, (aS [102, 114, 111, 109]))]), iC 53 79 [51, 52]])
 (.seq (.ops [iO 54 (.mv 0), iC 55 82 [54], iO 56 (.faddr 0 2), iZ (.store false 1 56 (aI 8)), iO 57 (.faddr 1 2), iZ (.store false 1 57 55)])
 (.ops [iO 58 (.mv 0), iC 59 86 [58, 2]])))
 (.seq (.ops [iO 61 (.bin .eql .str 16 (aS [98, 101, 103, 105, 110])), iO 60 (.mv 61)])
 (.cond 60
 (.ops [iO 62 (.faddr 0 2), iZ (.store false 1 62 (aI 9))])
 (.seq (.ops [iO 64 (.bin .eql .str 16 (aS [99, 111, 109, 109, 105, 116])), iO 63 (.mv 64)])
 (.cond 63
 (.ops [iO 65 (.faddr 0 2), iZ (.store false 1 65 (aI 10))])
 (.seq (.ops [iO 67 (.bin .eql .str 16 (aS [114, 111, 108, 108, 98, 97, 99, 107])), iO 66 (.mv 67)])
 (.cond 66
 (.ops [iO 68 (.faddr 0 2), iZ (.store false 1 68 (aI 11))])
 (.ops [iC 17 27 [(aI 130)]])))))))))))))))))))))
 (.seq (.ops [iO 69 (.load true 18 2), iZ (.store true 18 2 69)])
 (.ret))))))
def f26 (G : Nat → AVal) : AFn := ⟨70, [.cell 2 true 18], f26m G⟩
theorem f26_c (G : Nat → AVal) : cmpFn Tryz.prog G [] 26 = some (f26 G) := by kernel_rfl
end Go.Abs
namespace Go.Abs
open Go Go.RowKit Go.Proofs
def f12p0 (G : Nat → AVal) : MC :=
 .ops [iO 2 (.alloc 18 [.int 0, .str [], .str [], .nilS, .nilS, .bool false, .nilS, .nilS, .nilS, .int 0, .nilS, .int 0, .int 0, .int 0, .str [], .str [], .nilS, .nilS]), iO 3 (.alloc 1 [.int 0])]
def f12p1 (G : Nat → AVal) : MC :=
 .ops [iO 7 (.mv 0), iC 8 24 [7], iO 6 (.mv 8), iO 9 (.extract 6 0), iO 10 (.extract 6 1), iO 4 (.mv 9), iZ (.store false 1 3 10)]
def f12p2 (G : Nat → AVal) : MC :=
 .seq (.ops [iO 11 (.load false 1 3), iO 12 (.bin .neq .int 11 (aI 0))])
 (.cond 12
 (.seq (.draw (.rd [⟨0, iO 13 (.load true 18 2), false, false⟩, ⟨1, iO 14 (.load false 1 3), false, true⟩]
 (.ef ⟨2, iZ (.store true 18 2 13), true, false⟩ [1]
 (.ef ⟨3, iZ (.store false 1 3 14), true, false⟩ []
 (.nil)))))
 (.ret))
 (.skip))
def f12m (G : Nat → AVal) : MC :=
 .seq (.ops [iO 16 (.mv 4), iO 17 (.build [.nilS, .int 0, .int 0] [(false, 0, 1, 16)]), iO 18 (.box true 3 17), iO 5 (.mv 18)])
 (.seq (.ops [iO 19 (.mv 5), iC 20 26 [19], iZ (.store true 18 2 20)])
 (.seq (.seq (.ops [iO 21 (.mv 5), iO 22 (.nilck 21), iO 23 (.faddr 0 22), iO 24 (.load false 1 23), iO 25 (.lenS 24), iO 26 (.bin .gtr .int 25 (aI 0))])
 (.cond 26
 (.ops [iC 27 27 [(aI 130)]])
 (.skip)))
 (.seq (.seq (.ops [iO 28 (.mv 5), iO 29 (.nilck 28), iO 30 (.faddr 2 29), iO 31 (.load false 1 30), iO 32 (.bin .gtr .int 31 (aI 40))])
 (.cond 32
 (.ops [iC 33 27 [(aI 5)]])
 (.skip)))
 (.seq (.ops [iO 34 (.load true 18 2), iZ (.store true 18 2 34), iZ (.store false 1 3 (aI 0))])
 (.ret)))))
def f12 (G : Nat → AVal) : AFnD := ⟨35, [.cell 2 true 18, .cell 3 false 1], [f12p0 G, f12p1 G, f12p2 G], [iO 15 (.mkfn (.func 25) [] [2, 3])], 15, f12m G⟩
theorem f12_c (G : Nat → AVal) : cmpFnD Tryz.prog G 12 = some (f12 G) := by kernel_rfl
def f25m (G : Nat → AVal) : MC :=
 .seq (.ops [iO 6 (.mv 2), iO 7 (.bin .neq (.nilP (.iface true)) 6 (.val (.atom (.nilIface))))])
 (.cond 7
 (.seq (.ops [iO 9 (.mv 2), iO 10 (.tassert 60 true (.agg [.int 0]) 9), iO 8 (.mv 10), iO 11 (.extract 8 0), iO 12 (.extract 8 1), iO 3 (.alloc 1 [.int 0]), iZ (.store true 1 3 11), iO 4 (.mv 12)])
 (.seq (.seq (.ops [iO 13 (.mv 4), iO 14 (.un .not 13)])
 (.cond 14
 (.ops [iO 15 (.mv 2), iZ (.panic 15)])
 (.skip)))
 (.draw (.rd [⟨0, iO 16 (.build [.int 0, .str [], .str [], .nilS, .nilS, .bool false, .nilS, .nilS, .nilS, .int 0, .nilS, .int 0, .int 0, .int 0, .str [], .str [], .nilS, .nilS] []), false, false⟩, ⟨1, iO 17 (.faddr 0 3), false, true⟩, ⟨2, iO 18 (.load false 1 17), false, true⟩]
 (.ef ⟨3, iZ (.store true 18 0 16), true, false⟩ [1, 2]
 (.ef ⟨4, iZ (.store false 1 1 18), true, false⟩ []
 (.nil)))))))
 (.skip))
def f25 (G : Nat → AVal) : ADef := ⟨19, 5, 2, f25m G⟩
theorem f25_c (G : Nat → AVal) : cmpDef Tryz.prog G 25 = some (f25 G) := by kernel_rfl
end Go.Abs
namespace Go.Abs
open Go Go.RowKit Go.Proofs
def f28m (G : Nat → AVal) : MC :=
 .seq (.ops [iO 2 (.box true 7 0), iO 3 (.box true 7 1), iO 4 (.mv (.val (.bool false)))])
 (.seq (.seq (.ops [iO 5 (.faddr 0 2), iO 6 (.load false 1 5), iO 7 (.faddr 0 3), iO 8 (.load false 1 7), iO 9 (.bin .neq .int 6 8), iO 10 (.mv 9), iG 11 10 false (.faddr 2 2), iG 12 10 false (.load false 1 11), iG 13 10 false (.faddr 2 3), iG 14 10 false (.load false 1 13), iG 15 10 false (.bin .neq .int 12 14), iO 16 (.pick 10 (.val (.bool true)) 15), iO 17 (.mv 16), iG 18 17 false (.faddr 3 2), iG 19 17 false (.load false 1 18), iG 20 17 false (.faddr 3 3), iG 21 17 false (.load false 1 20), iG 22 17 false (.bin .neq .int 19 21), iO 23 (.pick 17 (.val (.bool true)) 22), iO 24 (.mv 23), iG 25 24 false (.faddr 4 2), iG 26 24 false (.load false 1 25), iG 27 24 false (.faddr 4 3), iG 28 24 false (.load false 1 27), iG 29 24 false (.bin .neq .int 26 28), iO 30 (.pick 24 (.val (.bool true)) 29), iO 31 (.mv 30), iG 32 31 false (.faddr 5 2), iG 33 31 false (.load false 1 32), iG 34 31 false (.faddr 5 3), iG 35 31 false (.load false 1 34), iG 36 31 false (.bin .neq .str 33 35), iO 37 (.pick 31 (.val (.bool true)) 36), iO 38 (.mv 37), iG 39 38 false (.faddr 6 2), iG 40 38 false (.load false 1 39), iG 41 38 false (.faddr 6 3), iG 42 38 false (.load false 1 41), iG 43 38 false (.bin .neq .str 40 42), iO 44 (.pick 38 (.val (.bool true)) 43)])
 (.cond 44
 (.seq (.ops [iO 4 (.mv (.val (.bool false)))])
 (.ret))
 (.skip)))
 (.seq (.ops [iO 45 (.faddr 1 2), iO 46 (.load false 1 45), iO 47 (.faddr 1 3), iO 48 (.load false 1 47), iC 49 29 [46, 48], iO 4 (.mv 49)])
 (.ret)))
def f28 (G : Nat → AVal) : AFn := ⟨50, [.tmp 4], f28m G⟩
theorem f28_c (G : Nat → AVal) : cmpFn Tryz.prog G [] 28 = some (f28 G) := by kernel_rfl
def f29b0 (G : Nat → AVal) : MC :=
 .seq (.seq (.ops [iO 11 (.mv 5), iO 12 (.mv 0), iO 13 (.lenS 12), iO 14 (.bin .lss .int 11 13)])
 (.cond 14
 (.skip)
 (.exit 0)))
 (.seq (.block 1
 (.seq (.draw (.rd [⟨0, iO 17 (.mv 0), false, false⟩, ⟨1, iO 18 (.mv 5), false, false⟩, ⟨2, iO 19 (.iaddr 7 17 18), false, false⟩, ⟨3, iO 20 (.load true 7 19), false, false⟩, ⟨4, iO 21 (.mv 1), false, false⟩, ⟨5, iO 22 (.mv 5), false, false⟩, ⟨6, iO 23 (.iaddr 7 21 22), false, false⟩, ⟨7, iO 24 (.load true 7 23), false, false⟩]
 (.ef ⟨8, iC 25 28 [20, 24], true, false⟩ []
 (.rd [⟨9, iO 26 (.un .not 25), false, false⟩]
 (.nil)))))
 (.cond 26
 (.seq (.ops [iO 4 (.mv (.val (.bool false)))])
 (.ret))
 (.skip))))
 (.ops [iO 15 (.mv 5), iO 16 (.bin .add .int 15 (aI 1)), iO 5 (.mv 16)]))
def f29m (G : Nat → AVal) : MC :=
 .seq (.ops [iO 4 (.mv (.val (.bool false)))])
 (.seq (.seq (.ops [iO 6 (.mv 0), iO 7 (.lenS 6), iO 8 (.mv 1), iO 9 (.lenS 8), iO 10 (.bin .neq .int 7 9)])
 (.cond 10
 (.seq (.ops [iO 4 (.mv (.val (.bool false)))])
 (.ret))
 (.skip)))
 (.seq (.seq (.ops [iO 5 (.mv (aI 0))])
 (.block 0
 (.loop (f29b0 G))))
 (.seq (.ops [iO 4 (.mv (.val (.bool true)))])
 (.ret))))
def f29 (G : Nat → AVal) : AFn := ⟨27, [.tmp 4], f29m G⟩
theorem f29_c (G : Nat → AVal) : cmpFn Tryz.prog G [] 29 = some (f29 G) := by kernel_rfl
end Go.Abs
namespace Go.Abs
open Go Go.RowKit Go.Proofs
def f23b0 (G : Nat → AVal) : MC :=
 .seq (.seq (.ops [iO 6 (.mv 4), iO 7 (.faddr 1 1), iO 8 (.load false 1 7), iO 9 (.lenS 8), iO 10 (.bin .lss .int 6 9)])
 (.cond 10
 (.skip)
 (.exit 0)))
 (.seq (.block 1
 (.seq (.ops [iO 13 (.faddr 1 1), iO 14 (.load false 1 13), iO 15 (.mv 4), iO 16 (.iaddr 7 14 15), iO 17 (.load true 7 16), iC 18 23 [17], iO 19 (.bin .add .int 18 (aI 1)), iO 5 (.mv 19)])
 (.seq (.ops [iO 20 (.mv 5), iO 21 (.mv 3), iO 22 (.bin .gtr .int 20 21)])
 (.cond 22
 (.ops [iO 23 (.mv 5), iO 3 (.mv 23)])
 (.skip)))))
 (.ops [iO 11 (.mv 4), iO 12 (.bin .add .int 11 (aI 1)), iO 4 (.mv 12)]))
def f23m (G : Nat → AVal) : MC :=
 .seq (.ops [iO 1 (.box true 7 0), iO 2 (.mv (aI 0))])
 (.seq (.ops [iO 3 (.mv (aI 0))])
 (.seq (.seq (.ops [iO 4 (.mv (aI 0))])
 (.block 0
 (.loop (f23b0 G))))
 (.seq (.ops [iO 24 (.mv 3), iO 2 (.mv 24)])
 (.ret))))
def f23 (G : Nat → AVal) : AFn := ⟨25, [.tmp 2], f23m G⟩
theorem f23_c (G : Nat → AVal) : cmpFn Tryz.prog G [] 23 = some (f23 G) := by kernel_rfl
end Go.Abs
namespace Go.Abs
open Go Go.RowKit Go.Proofs
def f68b0 (G : Nat → AVal) : MC :=
 .seq (.seq (.ops [iO 45 (.mv 3), iO 46 (.faddr 1 1), iO 47 (.load false 1 46), iO 48 (.lenS 47), iO 49 (.bin .lss .int 45 48)])
 (.cond 49
 (.skip)
 (.exit 0)))
 (.seq (.block 1
 (.seq (.ops [iO 52 (.faddr 1 1), iO 53 (.load false 1 52), iO 54 (.mv 3), iO 55 (.iaddr 7 53 54), iO 56 (.load true 7 55), iC 57 68 [56], iO 58 (.un .not 57)])
 (.cond 58
 (.seq (.ops [iO 2 (.mv (.val (.bool false)))])
 (.ret))
 (.skip))))
 (.ops [iO 50 (.mv 3), iO 51 (.bin .add .int 50 (aI 1)), iO 3 (.mv 51)]))
def f68m (G : Nat → AVal) : MC :=
 .seq (.ops [iO 1 (.box true 7 0), iO 2 (.mv (.val (.bool false)))])
 (.seq (.seq (.draw (.rd [⟨0, iO 4 (.faddr 1 1), false, true⟩, ⟨1, iO 5 (.load false 1 4), false, true⟩, ⟨2, iO 6 (.lenS 5), false, true⟩, ⟨3, iO 7 (.faddr 0 1), false, false⟩, ⟨4, iO 8 (.load false 1 7), false, false⟩]
 (.ef ⟨5, iC 9 108 [8], true, false⟩ [0, 1, 2]
 (.rd [⟨6, iO 10 (.bin .neq .int 6 9), false, false⟩]
 (.nil)))))
 (.cond 10
 (.seq (.ops [iO 2 (.mv (.val (.bool false)))])
 (.ret))
 (.skip)))
 (.seq (.seq (.ops [iO 11 (.faddr 0 1), iO 12 (.load false 1 11), iO 13 (.bin .eql .int 12 (aI 21))])
 (.cond 13
 (.seq (.ops [iO 14 (.load true 7 1), iC 15 109 [14], iO 2 (.mv 15)])
 (.ret))
 (.skip)))
 (.seq (.seq (.ops [iO 16 (.faddr 2 1), iO 17 (.load false 1 16), iO 18 (.bin .neq .int 17 (aI 0)), iO 19 (.mv 18), iG 20 19 false (.faddr 3 1), iG 21 19 false (.load false 1 20), iG 22 19 false (.bin .neq .int 21 (aI 0)), iO 23 (.pick 19 (.val (.bool true)) 22), iO 24 (.mv 23), iG 25 24 false (.faddr 4 1), iG 26 24 false (.load false 1 25), iG 27 24 false (.bin .neq .int 26 (aI 0)), iO 28 (.pick 24 (.val (.bool true)) 27)])
 (.cond 28
 (.seq (.ops [iO 2 (.mv (.val (.bool false)))])
 (.ret))
 (.skip)))
 (.seq (.seq (.ops [iO 29 (.faddr 0 1), iO 30 (.load false 1 29), iO 31 (.bin .eql .int 30 (aI 22))])
 (.cond 31
 (.seq (.ops [iO 32 (.faddr 5 1), iO 33 (.load false 1 32), iC 34 107 [33], iO 35 (.mv 34), iG 36 35 true (.faddr 6 1), iG 37 35 true (.load false 1 36), iG 38 35 true (.bin .eql .str 37 (aS [])), iG 39 35 true (.mv 38), iG 40 39 false (.faddr 6 1), iG 41 39 false (.load false 1 40), ⟨some 42, some (39, false), .call 107 [41]⟩, iG 43 35 true (.pick 39 (.val (.bool true)) 42), iO 44 (.pick 35 43 (.val (.bool false))), iO 2 (.mv 44)])
 (.ret))
 (.skip)))
 (.seq (.seq (.ops [iO 3 (.mv (aI 0))])
 (.block 0
 (.loop (f68b0 G))))
 (.seq (.ops [iO 59 (.faddr 5 1), iO 60 (.load false 1 59), iO 61 (.bin .eql .str 60 (aS [])), iO 62 (.mv 61), iG 63 62 true (.faddr 6 1), iG 64 62 true (.load false 1 63), iG 65 62 true (.bin .eql .str 64 (aS [])), iO 66 (.pick 62 65 (.val (.bool false))), iO 2 (.mv 66)])
 (.ret)))))))
def f68 (G : Nat → AVal) : AFn := ⟨67, [.tmp 2], f68m G⟩
theorem f68_c (G : Nat → AVal) : cmpFn Tryz.prog G [] 68 = some (f68 G) := by kernel_rfl
def f43m (G : Nat → AVal) : MC :=
 .seq (.ops [iO 1 (.box true 7 0), iO 2 (.mv (aS []))])
 (.seq (.seq (.ops [iO 7 (.faddr 0 1), iO 8 (.load false 1 7), iO 9 (.bin .eql .int 8 (aI 21))])
 (.cond 9
 (.seq (.ops [iO 10 (.build [.str [], .str [], .str []] [(false, 0, 1, (aS [70, 65, 76, 83, 69])), (false, 1, 1, (aS [84, 82, 85, 69])), (false, 2, 1, (aS [78, 85, 76, 76]))]), iO 3 (.alloc 3 [.str [], .str [], .str []]), iZ (.store true 3 3 10)])
 (.seq (.block 0
 (.seq (.ops [iO 12 (.faddr 2 1), iO 13 (.load false 1 12), iO 14 (.bin .eql .int 13 (aI 0)), iO 11 (.mv 14)])
 (.cond 11
 (.seq (.ops [iO 15 (.iaddrA 3 1 3 (aI 2)), iO 16 (.load false 1 15), iO 2 (.mv 16)])
 (.ret))
 (.seq (.ops [iO 18 (.faddr 2 1), iO 19 (.load false 1 18), iO 20 (.bin .eql .int 19 (aI 1)), iO 17 (.mv 20)])
 (.cond 17
 (.seq (.ops [iO 21 (.faddr 3 1), iO 22 (.load false 1 21), iO 23 (.iaddrA 3 1 3 22), iO 24 (.load false 1 23), iO 2 (.mv 24)])
 (.ret))
 (.seq (.ops [iO 26 (.faddr 2 1), iO 27 (.load false 1 26), iO 28 (.bin .eql .int 27 (aI 3)), iO 29 (.mv 28), iG 30 29 true (.faddr 4 1), iG 31 29 true (.load false 1 30), iG 32 29 true (.bin .eql .int 31 (aI (-1))), iO 33 (.pick 29 32 (.val (.bool false))), iO 25 (.mv 33)])
 (.cond 25
 (.seq (.ops [iO 2 (.mv (aS [78, 65, 78]))])
 (.ret))
 (.seq (.ops [iO 35 (.faddr 2 1), iO 36 (.load false 1 35), iO 37 (.bin .eql .int 36 (aI 3)), iO 38 (.mv 37), iG 39 38 true (.faddr 4 1), iG 40 38 true (.load false 1 39), iG 41 38 true (.bin .eql .int 40 (aI (-2))), iO 42 (.pick 38 41 (.val (.bool false))), iO 34 (.mv 42)])
 (.cond 34
 (.seq (.ops [iO 2 (.mv (aS [73, 78, 70, 73, 78, 73, 84, 89]))])
 (.ret))
 (.skip))))))))))
 (.seq (.ops [iO 43 (.faddr 2 1), iO 44 (.load false 1 43), iO 45 (.faddr 5 1), iO 46 (.load false 1 45), iO 47 (.faddr 3 1), iO 48 (.load false 1 47), iO 49 (.faddr 4 1), iO 50 (.load false 1 49), iO 51 (.build [.int 0, .str [], .int 0, .int 0] [(false, 0, 1, 44), (false, 1, 1, 46), (false, 2, 1, 48), (false, 3, 1, 50)]), iC 52 97 [51], iO 2 (.mv 52)])
 (.ret))))
 (.skip)))
 (.seq (.seq (.ops [iO 53 (.faddr 0 1), iO 54 (.load false 1 53), iO 55 (.bin .eql .int 54 (aI 22))])
 (.cond 55
 (.seq (.seq (.ops [iO 56 (.faddr 6 1), iO 57 (.load false 1 56), iO 58 (.bin .eql .str 57 (aS []))])
 (.cond 58
 (.seq (.ops [iO 59 (.faddr 5 1), iO 60 (.load false 1 59), iO 2 (.mv 60)])
 (.ret))
 (.skip)))
 (.seq (.ops [iO 61 (.faddr 6 1), iO 62 (.load false 1 61), iO 63 (.bin .add .int 62 (aS [46])), iO 64 (.faddr 5 1), iO 65 (.load false 1 64), iO 66 (.bin .add .int 63 65), iO 2 (.mv 66)])
 (.ret)))
 (.skip)))
 (.seq (.ops [iO 67 (.build [.str [], .str [], .str [], .str [], .str [], .str [], .str [], .str [], .str [], .str [], .str [], .str [], .str [], .str [], .str [], .str [], .str [], .str [], .str [], .str [], .str [], .str [], .str []] [(false, 13, 1, (aS [40, 45, 32])), (false, 14, 1, (aS [73, 78, 84, 40])), (false, 15, 1, (aS [82, 69, 65, 76, 40])), (false, 16, 1, (aS [40, 78, 79, 84, 32])), (false, 19, 1, (aS [40])), (false, 20, 1, (aS [40]))]), iO 4 (.alloc 23 [.str [], .str [], .str [], .str [], .str [], .str [], .str [], .str [], .str [], .str [], .str [], .str [], .str [], .str [], .str [], .str [], .str [], .str [], .str [], .str [], .str [], .str [], .str []]), iZ (.store true 23 4 67)])
 (.seq (.ops [iO 68 (.build [.str [], .str [], .str [], .str [], .str [], .str [], .str [], .str [], .str [], .str [], .str [], .str [], .str [], .str [], .str [], .str [], .str [], .str [], .str [], .str [], .str [], .str [], .str []] [(false, 13, 1, (aS [41])), (false, 14, 1, (aS [41])), (false, 15, 1, (aS [41])), (false, 16, 1, (aS [41])), (false, 19, 1, (aS [32, 73, 83, 32, 78, 85, 76, 76, 41])), (false, 20, 1, (aS [32, 73, 83, 32, 78, 79, 84, 32, 78, 85, 76, 76, 41]))]), iO 5 (.alloc 23 [.str [], .str [], .str [], .str [], .str [], .str [], .str [], .str [], .str [], .str [], .str [], .str [], .str [], .str [], .str [], .str [], .str [], .str [], .str [], .str [], .str [], .str [], .str []]), iZ (.store true 23 5 68)])
 (.seq (.seq (.ops [iO 69 (.faddr 1 1), iO 70 (.load false 1 69), iO 71 (.lenS 70), iO 72 (.bin .eql .int 71 (aI 1))])
 (.cond 72
 (.seq (.draw (.rd [⟨0, iO 73 (.faddr 0 1), false, true⟩, ⟨1, iO 74 (.load false 1 73), false, true⟩, ⟨2, iO 75 (.iaddrA 23 1 4 74), false, true⟩, ⟨3, iO 76 (.load false 1 75), false, true⟩, ⟨4, iO 77 (.faddr 1 1), false, false⟩, ⟨5, iO 78 (.load false 1 77), false, false⟩, ⟨6, iO 79 (.iaddr 7 78 (aI 0)), false, false⟩, ⟨7, iO 80 (.load true 7 79), false, false⟩, ⟨10, iO 83 (.faddr 0 1), false, true⟩, ⟨11, iO 84 (.load false 1 83), false, true⟩, ⟨12, iO 85 (.iaddrA 23 1 5 84), false, true⟩, ⟨13, iO 86 (.load false 1 85), false, true⟩]
 (.ef ⟨8, iC 81 43 [80], true, false⟩ [0, 1, 2, 3, 10, 11, 12, 13]
 (.rd [⟨9, iO 82 (.bin .add .int 76 81), false, false⟩, ⟨14, iO 87 (.bin .add .int 82 86), false, false⟩, ⟨15, iO 2 (.mv 87), false, false⟩]
 (.nil)))))
 (.ret))
 (.skip)))
 (.seq (.ops [iO 88 (.build [.str [], .str [], .str [], .str [], .str [], .str [], .str [], .str [], .str [], .str [], .str [], .str [], .str [], .str [], .str [], .str [], .str [], .str [], .str [], .str [], .str [], .str [], .str []] [(false, 1, 1, (aS [61])), (false, 2, 1, (aS [60, 62])), (false, 3, 1, (aS [60])), (false, 4, 1, (aS [60, 61])), (false, 5, 1, (aS [62])), (false, 6, 1, (aS [62, 61])), (false, 7, 1, (aS [43])), (false, 8, 1, (aS [45])), (false, 9, 1, (aS [42])), (false, 10, 1, (aS [47])), (false, 11, 1, (aS [37])), (false, 12, 1, (aS [124, 124])), (false, 17, 1, (aS [65, 78, 68])), (false, 18, 1, (aS [79, 82]))]), iO 6 (.alloc 23 [.str [], .str [], .str [], .str [], .str [], .str [], .str [], .str [], .str [], .str [], .str [], .str [], .str [], .str [], .str [], .str [], .str [], .str [], .str [], .str [], .str [], .str [], .str []]), iZ (.store true 23 6 88)])
 (.seq (.draw (.rd [⟨0, iO 89 (.faddr 1 1), false, false⟩, ⟨1, iO 90 (.load false 1 89), false, false⟩, ⟨2, iO 91 (.iaddr 7 90 (aI 0)), false, false⟩, ⟨3, iO 92 (.load true 7 91), false, false⟩, ⟨7, iO 96 (.faddr 0 1), false, true⟩, ⟨8, iO 97 (.load false 1 96), false, true⟩, ⟨9, iO 98 (.iaddrA 23 1 6 97), false, true⟩, ⟨10, iO 99 (.load false 1 98), false, true⟩, ⟨13, iO 102 (.faddr 1 1), false, true⟩, ⟨14, iO 103 (.load false 1 102), false, true⟩, ⟨15, iO 104 (.iaddr 7 103 (aI 1)), false, true⟩, ⟨16, iO 105 (.load true 7 104), false, true⟩]
 (.ef ⟨4, iC 93 43 [92], true, false⟩ [7, 8, 9, 10, 13, 14, 15, 16]
 (.rd [⟨5, iO 94 (.bin .add .int (aS [40]) 93), false, true⟩, ⟨6, iO 95 (.bin .add .int 94 (aS [32])), false, true⟩, ⟨11, iO 100 (.bin .add .int 95 99), false, true⟩, ⟨12, iO 101 (.bin .add .int 100 (aS [32])), false, true⟩]
 (.ef ⟨17, iC 106 43 [105], true, false⟩ [5, 6, 7, 8, 9, 10, 11, 12]
 (.rd [⟨18, iO 107 (.bin .add .int 101 106), false, false⟩, ⟨19, iO 108 (.bin .add .int 107 (aS [41])), false, false⟩, ⟨20, iO 2 (.mv 108), false, false⟩]
 (.nil)))))))
 (.ret))))))))
def f43 (G : Nat → AVal) : AFn := ⟨109, [.tmp 2], f43m G⟩
theorem f43_c (G : Nat → AVal) : cmpFn Tryz.prog G [] 43 = some (f43 G) := by kernel_rfl
def f108m (G : Nat → AVal) : MC :=
 .seq (.ops [iO 2 (.mv (aI 0))])
 (.seq (.ops [iO 4 (.build [.int 0, .int 0, .int 0, .int 0, .int 0, .int 0, .int 0, .int 0, .int 0, .int 0, .int 0, .int 0, .int 0, .int 0, .int 0, .int 0, .int 0, .int 0, .int 0, .int 0, .int 0, .int 0, .int 0] [(false, 0, 1, (aI (-1))), (false, 1, 1, (aI 2)), (false, 2, 1, (aI 2)), (false, 3, 1, (aI 2)), (false, 4, 1, (aI 2)), (false, 5, 1, (aI 2)), (false, 6, 1, (aI 2)), (false, 7, 1, (aI 2)), (false, 8, 1, (aI 2)), (false, 9, 1, (aI 2)), (false, 10, 1, (aI 2)), (false, 11, 1, (aI 2)), (false, 12, 1, (aI 2)), (false, 13, 1, (aI 1)), (false, 14, 1, (aI 1)), (false, 15, 1, (aI 1)), (false, 16, 1, (aI 1)), (false, 17, 1, (aI 2)), (false, 18, 1, (aI 2)), (false, 19, 1, (aI 1)), (false, 20, 1, (aI 1)), (false, 21, 1, (aI 0)), (false, 22, 1, (aI 0))]), iO 3 (.alloc 23 [.int 0, .int 0, .int 0, .int 0, .int 0, .int 0, .int 0, .int 0, .int 0, .int 0, .int 0, .int 0, .int 0, .int 0, .int 0, .int 0, .int 0, .int 0, .int 0, .int 0, .int 0, .int 0, .int 0]), iZ (.store true 23 3 4)])
 (.seq (.seq (.ops [iO 5 (.mv 0), iO 6 (.bin .lss .int 5 (aI 1)), iO 7 (.mv 6), iG 8 7 false (.mv 0), iG 9 7 false (.bin .gtr .int 8 (aI 22)), iO 10 (.pick 7 (.val (.bool true)) 9)])
 (.cond 10
 (.seq (.ops [iO 2 (.mv (aI (-1)))])
 (.ret))
 (.skip)))
 (.seq (.ops [iO 11 (.mv 0), iO 12 (.iaddrA 23 1 3 11), iO 13 (.load false 1 12), iO 2 (.mv 13)])
 (.ret))))
def f108 (G : Nat → AVal) : AFn := ⟨14, [.tmp 2], f108m G⟩
theorem f108_c (G : Nat → AVal) : cmpFn Tryz.prog G [] 108 = some (f108 G) := by kernel_rfl
def f109m (G : Nat → AVal) : MC :=
 .seq (.ops [iO 1 (.box true 7 0), iO 2 (.mv (.val (.bool false)))])
 (.seq (.seq (.ops [iO 4 (.faddr 6 1), iO 5 (.load false 1 4), iO 6 (.bin .neq .str 5 (aS []))])
 (.cond 6
 (.seq (.ops [iO 2 (.mv (.val (.bool false)))])
 (.ret))
 (.skip)))
 (.seq (.seq (.ops [iO 7 (.faddr 2 1), iO 8 (.load false 1 7)])
 (.block 0
 (.seq (.seq (.ops [iO 10 (.bin .eql .int 8 (aI 0)), iO 9 (.mv 10)])
 (.cond 9
 (.skip)
 (.seq (.ops [iO 11 (.bin .eql .int 8 (aI 1)), iO 9 (.mv 11)])
 (.cond 9
 (.skip)
 (.ops [iO 12 (.bin .eql .int 8 (aI 2)), iO 9 (.mv 12)])))))
 (.cond 9
 (.seq (.ops [iO 3 (.mv (aI 0))])
 (.seq (.seq (.ops [iO 13 (.faddr 2 1), iO 14 (.load false 1 13), iO 15 (.bin .eql .int 14 (aI 1))])
 (.cond 15
 (.ops [iO 3 (.mv (aI 1))])
 (.skip)))
 (.seq (.seq (.ops [iO 16 (.faddr 2 1), iO 17 (.load false 1 16), iO 18 (.bin .eql .int 17 (aI 2))])
 (.cond 18
 (.ops [iO 3 (.mv (aI 9223372036854775807))])
 (.skip)))
 (.seq (.ops [iO 19 (.faddr 3 1), iO 20 (.load false 1 19), iO 21 (.bin .geq .int 20 (aI 0)), iO 22 (.mv 21), iG 23 22 true (.faddr 3 1), iG 24 22 true (.load false 1 23), iG 25 22 true (.mv 3), iG 26 22 true (.bin .leq .int 24 25), iO 27 (.pick 22 26 (.val (.bool false))), iO 28 (.mv 27), iG 29 28 true (.faddr 4 1), iG 30 28 true (.load false 1 29), iG 31 28 true (.bin .eql .int 30 (aI 0)), iO 32 (.pick 28 31 (.val (.bool false))), iO 33 (.mv 32), iG 34 33 true (.faddr 5 1), iG 35 33 true (.load false 1 34), iG 36 33 true (.bin .eql .str 35 (aS [])), iO 37 (.pick 33 36 (.val (.bool false))), iO 2 (.mv 37)])
 (.ret)))))
 (.seq (.ops [iO 39 (.bin .eql .int 8 (aI 3)), iO 38 (.mv 39)])
 (.cond 38
 (.seq (.seq (.ops [iO 40 (.faddr 4 1), iO 41 (.load false 1 40), iO 42 (.bin .eql .int 41 (aI (-1))), iO 43 (.mv 42), iG 44 43 false (.faddr 4 1), iG 45 43 false (.load false 1 44), iG 46 43 false (.bin .eql .int 45 (aI (-2))), iO 47 (.pick 43 (.val (.bool true)) 46)])
 (.cond 47
 (.seq (.ops [iO 48 (.faddr 3 1), iO 49 (.load false 1 48), iO 50 (.bin .eql .int 49 (aI 0)), iO 51 (.mv 50), iG 52 51 true (.faddr 5 1), iG 53 51 true (.load false 1 52), iG 54 51 true (.bin .eql .str 53 (aS [])), iO 55 (.pick 51 54 (.val (.bool false))), iO 2 (.mv 55)])
 (.ret))
 (.skip)))
 (.seq (.seq (.ops [iO 56 (.faddr 5 1), iO 57 (.load false 1 56), iO 58 (.bin .neq .str 57 (aS [])), iO 59 (.mv 58), iG 60 59 false (.faddr 4 1), iG 61 59 false (.load false 1 60), iG 62 59 false (.bin .lss .int 61 (aI 1)), iO 63 (.pick 59 (.val (.bool true)) 62), iO 64 (.mv 63), iG 65 64 false (.faddr 4 1), iG 66 64 false (.load false 1 65), iG 67 64 false (.bin .gtr .int 66 (aI 14)), iO 68 (.pick 64 (.val (.bool true)) 67), iO 69 (.mv 68), iG 70 69 false (.faddr 3 1), iG 71 69 false (.load false 1 70), iG 72 69 false (.bin .lss .int 71 (aI 0)), iO 73 (.pick 69 (.val (.bool true)) 72)])
 (.cond 73
 (.seq (.ops [iO 2 (.mv (.val (.bool false)))])
 (.ret))
 (.skip)))
 (.seq (.ops [iO 74 (.faddr 3 1), iO 75 (.load false 1 74), iO 76 (.bin .lss .int 75 (aI 1000000000000000)), iO 2 (.mv 76)])
 (.ret))))
 (.seq (.ops [iO 78 (.bin .eql .int 8 (aI 4)), iO 77 (.mv 78)])
 (.cond 77
 (.seq (.ops [iO 79 (.faddr 3 1), iO 80 (.load false 1 79), iO 81 (.bin .eql .int 80 (aI 0)), iO 82 (.mv 81), iG 83 82 true (.faddr 4 1), iG 84 82 true (.load false 1 83), iG 85 82 true (.bin .eql .int 84 (aI 0)), iO 86 (.pick 82 85 (.val (.bool false))), iO 87 (.mv 86), iG 88 87 true (.faddr 5 1), iG 89 87 true (.load false 1 88), iG 90 87 true (.lenStr 89), iG 91 87 true (.bin .lss .int 90 (aI 201)), iO 92 (.pick 87 91 (.val (.bool false))), iO 2 (.mv 92)])
 (.ret))
 (.skip)))))))))
 (.seq (.ops [iO 2 (.mv (.val (.bool false)))])
 (.ret))))
def f109 (G : Nat → AVal) : AFn := ⟨93, [.tmp 2], f109m G⟩
theorem f109_c (G : Nat → AVal) : cmpFn Tryz.prog G [] 109 = some (f109 G) := by kernel_rfl
end Go.Abs
namespace Go.Abs
open Go Go.RowKit Go.Proofs
def f100m (G : Nat → AVal) : MC :=
 .seq (.ops [iO 2 (.mv (aI 0))])
 (.seq (.block 0
 (.seq (.ops [iO 4 (.mv 0), iO 5 (.bin .eql .int 4 (aI 21)), iO 6 (.mv 5), iG 7 6 false (.mv 0), iG 8 6 false (.bin .eql .int 7 (aI 22)), iO 9 (.pick 6 (.val (.bool true)) 8), iO 3 (.mv 9)])
 (.cond 3
 (.seq (.ops [iO 2 (.mv (aI 0))])
 (.ret))
 (.seq (.seq (.ops [iO 11 (.mv 0), iO 12 (.bin .geq .int 11 (aI 1)), iO 13 (.mv 12), iG 14 13 true (.mv 0), iG 15 13 true (.bin .leq .int 14 (aI 12)), iO 16 (.pick 13 15 (.val (.bool false))), iO 10 (.mv 16)])
 (.cond 10
 (.skip)
 (.seq (.ops [iO 17 (.mv 0), iO 18 (.bin .eql .int 17 (aI 17)), iO 10 (.mv 18)])
 (.cond 10
 (.skip)
 (.ops [iO 19 (.mv 0), iO 20 (.bin .eql .int 19 (aI 18)), iO 10 (.mv 20)])))))
 (.cond 10
 (.seq (.ops [iO 2 (.mv (aI 2))])
 (.ret))
 (.seq (.ops [iO 22 (.mv 0), iO 23 (.bin .geq .int 22 (aI 13)), iO 24 (.mv 23), iG 25 24 true (.mv 0), iG 26 24 true (.bin .leq .int 25 (aI 20)), iO 27 (.pick 24 26 (.val (.bool false))), iO 21 (.mv 27)])
 (.cond 21
 (.seq (.ops [iO 2 (.mv (aI 1))])
 (.ret))
 (.skip))))))))
 (.seq (.ops [iO 2 (.mv (aI (-1)))])
 (.ret)))
def f100 (G : Nat → AVal) : AFn := ⟨28, [.tmp 2], f100m G⟩
theorem f100_c (G : Nat → AVal) : cmpFn Tryz.prog G [] 100 = some (f100 G) := by kernel_rfl
def f101m (G : Nat → AVal) : MC :=
 .seq (.ops [iO 1 (.box true 7 0), iO 2 (.mv (.val (.bool false)))])
 (.seq (.seq (.ops [iO 3 (.faddr 6 1), iO 4 (.load false 1 3), iO 5 (.bin .neq .str 4 (aS [])), iO 6 (.mv 5), iG 7 6 false (.faddr 2 1), iG 8 6 false (.load false 1 7), iG 9 6 false (.bin .neq .int 8 (aI 4)), iG 10 6 false (.mv 9), iG 11 10 true (.faddr 5 1), iG 12 10 true (.load false 1 11), iG 13 10 true (.bin .neq .str 12 (aS [])), iG 14 6 false (.pick 10 13 (.val (.bool false))), iO 15 (.pick 6 (.val (.bool true)) 14), iO 16 (.mv 15), iG 17 16 false (.faddr 2 1), iG 18 16 false (.load false 1 17), iG 19 16 false (.bin .neq .int 18 (aI 3)), iG 20 16 false (.mv 19), iG 21 20 true (.faddr 4 1), iG 22 20 true (.load false 1 21), iG 23 20 true (.bin .neq .int 22 (aI 0)), iG 24 16 false (.pick 20 23 (.val (.bool false))), iO 25 (.pick 16 (.val (.bool true)) 24)])
 (.cond 25
 (.seq (.ops [iO 2 (.mv (.val (.bool false)))])
 (.ret))
 (.skip)))
 (.seq (.seq (.ops [iO 26 (.faddr 2 1), iO 27 (.load false 1 26)])
 (.block 0
 (.seq (.ops [iO 29 (.bin .eql .int 27 (aI 0)), iO 28 (.mv 29)])
 (.cond 28
 (.seq (.ops [iO 30 (.faddr 3 1), iO 31 (.load false 1 30), iO 32 (.bin .eql .int 31 (aI 0)), iO 2 (.mv 32)])
 (.ret))
 (.seq (.ops [iO 34 (.bin .eql .int 27 (aI 1)), iO 33 (.mv 34)])
 (.cond 33
 (.seq (.ops [iO 35 (.faddr 3 1), iO 36 (.load false 1 35), iO 37 (.bin .eql .int 36 (aI 0)), iO 38 (.mv 37), iG 39 38 false (.faddr 3 1), iG 40 38 false (.load false 1 39), iG 41 38 false (.bin .eql .int 40 (aI 1)), iO 42 (.pick 38 (.val (.bool true)) 41), iO 2 (.mv 42)])
 (.ret))
 (.seq (.ops [iO 44 (.bin .eql .int 27 (aI 2)), iO 43 (.mv 44)])
 (.cond 43
 (.seq (.ops [iO 45 (.faddr 3 1), iO 46 (.load false 1 45), iO 47 (.bin .geq .int 46 (aI 0)), iO 2 (.mv 47)])
 (.ret))
 (.seq (.ops [iO 49 (.bin .eql .int 27 (aI 4)), iO 48 (.mv 49)])
 (.cond 48
 (.seq (.ops [iO 50 (.faddr 3 1), iO 51 (.load false 1 50), iO 52 (.bin .eql .int 51 (aI 0)), iO 53 (.mv 52), iG 54 53 true (.faddr 5 1), iG 55 53 true (.load false 1 54), iG 56 53 true (.lenStr 55), iG 57 53 true (.bin .leq .int 56 (aI 200)), iO 58 (.pick 53 57 (.val (.bool false))), iO 2 (.mv 58)])
 (.ret))
 (.seq (.ops [iO 60 (.bin .eql .int 27 (aI 3)), iO 59 (.mv 60)])
 (.cond 59
 (.seq (.seq (.ops [iO 61 (.faddr 4 1), iO 62 (.load false 1 61), iO 63 (.bin .eql .int 62 (aI (-1))), iO 64 (.mv 63), iG 65 64 false (.faddr 4 1), iG 66 64 false (.load false 1 65), iG 67 64 false (.bin .eql .int 66 (aI (-2))), iO 68 (.pick 64 (.val (.bool true)) 67)])
 (.cond 68
 (.seq (.ops [iO 69 (.faddr 3 1), iO 70 (.load false 1 69), iO 71 (.bin .eql .int 70 (aI 0)), iO 2 (.mv 71)])
 (.ret))
 (.skip)))
 (.seq (.ops [iO 72 (.faddr 4 1), iO 73 (.load false 1 72), iO 74 (.bin .geq .int 73 (aI 1)), iO 75 (.mv 74), iG 76 75 true (.faddr 4 1), iG 77 75 true (.load false 1 76), iG 78 75 true (.bin .leq .int 77 (aI 14)), iO 79 (.pick 75 78 (.val (.bool false))), iO 80 (.mv 79), iG 81 80 true (.faddr 3 1), iG 82 80 true (.load false 1 81), iG 83 80 true (.bin .geq .int 82 (aI 0)), iO 84 (.pick 80 83 (.val (.bool false))), iO 85 (.mv 84), iG 86 85 true (.faddr 3 1), iG 87 85 true (.load false 1 86), iG 88 85 true (.bin .leq .int 87 (aI 999999999999999)), iO 89 (.pick 85 88 (.val (.bool false))), iO 90 (.mv 89), iG 91 90 true (.faddr 3 1), iG 92 90 true (.load false 1 91), iG 93 90 true (.faddr 4 1), iG 94 90 true (.load false 1 93), ⟨some 95, some (90, true), .call 140 [92, 94]⟩, iG 96 90 true (.lenStr 95), iG 97 90 true (.bin .leq .int 96 (aI 16)), iO 98 (.pick 90 97 (.val (.bool false))), iO 2 (.mv 98)])
 (.ret)))
 (.skip)))))))))))))
 (.seq (.ops [iO 2 (.mv (.val (.bool false)))])
 (.ret))))
def f101 (G : Nat → AVal) : AFn := ⟨99, [.tmp 2], f101m G⟩
theorem f101_c (G : Nat → AVal) : cmpFn Tryz.prog G [] 101 = some (f101 G) := by kernel_rfl
def f140b0 (G : Nat → AVal) : MC :=
 .seq (.seq (.ops [iO 8 (.mv 5), iO 9 (.lenStr 8), iO 10 (.mv 1), iO 11 (.bin .leq .int 9 10)])
 (.cond 11
 (.skip)
 (.exit 0)))
 (.block 1
 (.ops [iO 12 (.mv 5), iO 13 (.bin .add .int (aS [48]) 12), iO 5 (.mv 13)]))
def f140m (G : Nat → AVal) : MC :=
 .seq (.ops [iO 4 (.mv (aS []))])
 (.seq (.ops [iO 6 (.mv 0), iC 7 138 [6, (aI 10)], iO 5 (.mv 7)])
 (.seq (.block 0
 (.loop (f140b0 G)))
 (.seq (.draw (.rd [⟨0, iO 14 (.mv 5), false, false⟩, ⟨1, iO 15 (.mv 5), false, false⟩, ⟨2, iO 16 (.lenStr 15), false, false⟩, ⟨3, iO 17 (.mv 1), false, false⟩, ⟨4, iO 18 (.bin .sub .int 16 17), false, false⟩, ⟨5, iO 19 (.sslc 14 none (some 18)), false, false⟩, ⟨6, iO 20 (.bin .add .int 19 (aS [46])), false, false⟩, ⟨7, iO 21 (.mv 5), false, false⟩, ⟨8, iO 22 (.mv 5), false, false⟩, ⟨9, iO 23 (.lenStr 22), false, false⟩, ⟨10, iO 24 (.mv 1), false, false⟩, ⟨11, iO 25 (.bin .sub .int 23 24), false, false⟩, ⟨12, iO 26 (.sslc 21 (some 25) none), false, false⟩, ⟨13, iO 27 (.bin .add .int 20 26), false, false⟩, ⟨14, iO 4 (.mv 27), false, false⟩]
 (.nil)))
 (.ret))))
def f140 (G : Nat → AVal) : AFn := ⟨28, [.tmp 4], f140m G⟩
theorem f140_c (G : Nat → AVal) : cmpFn Tryz.prog G [] 140 = some (f140 G) := by kernel_rfl
def f90m (G : Nat → AVal) : MC :=
 .seq (.ops [iO 1 (.box true 7 0), iO 2 (.mv (aS []))])
 (.seq (.block 0
 (.seq (.ops [iO 4 (.faddr 2 1), iO 5 (.load false 1 4), iO 6 (.bin .eql .int 5 (aI 0)), iO 3 (.mv 6)])
 (.cond 3
 (.seq (.ops [iO 2 (.mv (aS [78, 85, 76, 76]))])
 (.ret))
 (.seq (.ops [iO 8 (.faddr 2 1), iO 9 (.load false 1 8), iO 10 (.bin .eql .int 9 (aI 1)), iO 7 (.mv 10)])
 (.cond 7
 (.seq (.ops [iO 11 (.faddr 3 1), iO 12 (.load false 1 11), iO 13 (.bin .eql .int 12 (aI 1)), iC 14 137 [13], iC 15 136 [14], iO 2 (.mv 15)])
 (.ret))
 (.seq (.ops [iO 17 (.faddr 2 1), iO 18 (.load false 1 17), iO 19 (.bin .eql .int 18 (aI 2)), iO 16 (.mv 19)])
 (.cond 16
 (.seq (.ops [iO 20 (.faddr 3 1), iO 21 (.load false 1 20), iC 22 138 [21, (aI 10)], iO 2 (.mv 22)])
 (.ret))
 (.seq (.ops [iO 24 (.faddr 2 1), iO 25 (.load false 1 24), iO 26 (.bin .eql .int 25 (aI 4)), iO 23 (.mv 26)])
 (.cond 23
 (.seq (.ops [iO 27 (.faddr 5 1), iO 28 (.load false 1 27), iC 29 139 [28, (aS [39]), (aS [39, 39])], iO 30 (.bin .add .int (aS [39]) 29), iO 31 (.bin .add .int 30 (aS [39])), iO 2 (.mv 31)])
 (.ret))
 (.seq (.ops [iO 33 (.faddr 4 1), iO 34 (.load false 1 33), iO 35 (.bin .eql .int 34 (aI (-1))), iO 32 (.mv 35)])
 (.cond 32
 (.seq (.ops [iO 2 (.mv (aS [78, 65, 78]))])
 (.ret))
 (.seq (.ops [iO 37 (.faddr 4 1), iO 38 (.load false 1 37), iO 39 (.bin .eql .int 38 (aI (-2))), iO 36 (.mv 39)])
 (.cond 36
 (.seq (.ops [iO 2 (.mv (aS [73, 78, 70, 73, 78, 73, 84, 89]))])
 (.ret))
 (.skip))))))))))))))
 (.seq (.ops [iO 40 (.faddr 3 1), iO 41 (.load false 1 40), iO 42 (.faddr 4 1), iO 43 (.load false 1 42), iC 44 140 [41, 43], iO 2 (.mv 44)])
 (.ret)))
def f90 (G : Nat → AVal) : AFn := ⟨45, [.tmp 2], f90m G⟩
theorem f90_c (G : Nat → AVal) : cmpFn Tryz.prog G [] 90 = some (f90 G) := by kernel_rfl
def f91m (G : Nat → AVal) : MC :=
 .seq (.ops [iO 2 (.mv (aS []))])
 (.seq (.seq (.ops [iO 3 (.mv 0)])
 (.block 0
 (.seq (.ops [iO 5 (.bin .eql .int 3 (aI 17)), iO 4 (.mv 5)])
 (.cond 4
 (.seq (.ops [iO 2 (.mv (aS [65, 78, 68]))])
 (.ret))
 (.seq (.ops [iO 7 (.bin .eql .int 3 (aI 18)), iO 6 (.mv 7)])
 (.cond 6
 (.seq (.ops [iO 2 (.mv (aS [79, 82]))])
 (.ret))
 (.skip)))))))
 (.seq (.ops [iO 8 (.build [.str [], .str [], .str [], .str [], .str [], .str [], .str [], .str [], .str [], .str [], .str [], .str [], .str []] [(false, 0, 1, (aS [])), (false, 1, 1, (aS [61])), (false, 2, 1, (aS [60, 62])), (false, 3, 1, (aS [60])), (false, 4, 1, (aS [60, 61])), (false, 5, 1, (aS [62])), (false, 6, 1, (aS [62, 61])), (false, 7, 1, (aS [43])), (false, 8, 1, (aS [45])), (false, 9, 1, (aS [42])), (false, 10, 1, (aS [47])), (false, 11, 1, (aS [37])), (false, 12, 1, (aS [124, 124]))]), iO 9 (.mv 0), iO 10 (.idxA 13 false 1 8 9), iO 2 (.mv 10)])
 (.ret)))
def f91 (G : Nat → AVal) : AFn := ⟨11, [.tmp 2], f91m G⟩
theorem f91_c (G : Nat → AVal) : cmpFn Tryz.prog G [] 91 = some (f91 G) := by kernel_rfl
def f51m (G : Nat → AVal) : MC :=
 .seq (.ops [iO 1 (.box true 7 0), iO 2 (.mv (.val (.bool false)))])
 (.seq (.block 0
 (.seq (.draw (.rd [⟨0, iO 4 (.faddr 1 1), false, true⟩, ⟨1, iO 5 (.load false 1 4), false, true⟩, ⟨2, iO 6 (.lenS 5), false, true⟩, ⟨3, iO 7 (.faddr 0 1), false, false⟩, ⟨4, iO 8 (.load false 1 7), false, false⟩]
 (.ef ⟨5, iC 9 100 [8], true, false⟩ [0, 1, 2]
 (.rd [⟨6, iO 10 (.bin .neq .int 6 9), false, false⟩, ⟨7, iO 3 (.mv 10), false, false⟩]
 (.nil)))))
 (.cond 3
 (.seq (.ops [iO 2 (.mv (.val (.bool false)))])
 (.ret))
 (.seq (.ops [iO 12 (.faddr 0 1), iO 13 (.load false 1 12), iO 14 (.bin .eql .int 13 (aI 21)), iO 11 (.mv 14)])
 (.cond 11
 (.seq (.ops [iO 15 (.load true 7 1), iC 16 101 [15], iO 2 (.mv 16)])
 (.ret))
 (.seq (.ops [iO 18 (.faddr 2 1), iO 19 (.load false 1 18), iO 20 (.bin .neq .int 19 (aI 0)), iO 21 (.mv 20), iG 22 21 false (.faddr 3 1), iG 23 21 false (.load false 1 22), iG 24 21 false (.bin .neq .int 23 (aI 0)), iO 25 (.pick 21 (.val (.bool true)) 24), iO 26 (.mv 25), iG 27 26 false (.faddr 4 1), iG 28 26 false (.load false 1 27), iG 29 26 false (.bin .neq .int 28 (aI 0)), iO 30 (.pick 26 (.val (.bool true)) 29), iO 17 (.mv 30)])
 (.cond 17
 (.seq (.ops [iO 2 (.mv (.val (.bool false)))])
 (.ret))
 (.seq (.ops [iO 32 (.faddr 0 1), iO 33 (.load false 1 32), iO 34 (.bin .eql .int 33 (aI 22)), iO 31 (.mv 34)])
 (.cond 31
 (.seq (.ops [iO 35 (.faddr 5 1), iO 36 (.load false 1 35), iC 37 57 [36], iO 38 (.mv 37), iG 39 38 true (.faddr 6 1), iG 40 38 true (.load false 1 39), ⟨some 41, some (38, true), .call 52 [40]⟩, iO 42 (.pick 38 41 (.val (.bool false))), iO 2 (.mv 42)])
 (.ret))
 (.skip))))))))))
 (.seq (.ops [iO 43 (.faddr 5 1), iO 44 (.load false 1 43), iO 45 (.bin .eql .str 44 (aS [])), iO 46 (.mv 45), iG 47 46 true (.faddr 6 1), iG 48 46 true (.load false 1 47), iG 49 46 true (.bin .eql .str 48 (aS [])), iO 50 (.pick 46 49 (.val (.bool false))), iO 51 (.mv 50), iG 52 51 true (.faddr 1 1), iG 53 51 true (.load false 1 52), ⟨some 54, some (51, true), .call 17 [53, (.val (.clo (.func 51) [] []))]⟩, iO 55 (.pick 51 54 (.val (.bool false))), iO 2 (.mv 55)])
 (.ret)))
def f51 (G : Nat → AVal) : AFn := ⟨56, [.tmp 2], f51m G⟩
theorem f51_c (G : Nat → AVal) : cmpFn Tryz.prog G [] 51 = some (f51 G) := by kernel_rfl
def f52m (G : Nat → AVal) : MC :=
 .seq (.ops [iO 2 (.mv (.val (.bool false)))])
 (.seq (.ops [iO 3 (.mv 0), iO 4 (.bin .eql .str 3 (aS [])), iO 5 (.mv 4), iG 6 5 false (.mv 0), ⟨some 7, some (5, false), .call 57 [6]⟩, iO 8 (.pick 5 (.val (.bool true)) 7), iO 2 (.mv 8)])
 (.ret))
def f52 (G : Nat → AVal) : AFn := ⟨9, [.tmp 2], f52m G⟩
theorem f52_c (G : Nat → AVal) : cmpFn Tryz.prog G [] 52 = some (f52 G) := by kernel_rfl
def f57m (G : Nat → AVal) : MC :=
 .seq (.ops [iO 2 (.mv (.val (.bool false)))])
 (.seq (.ops [iO 3 (.mv 0), iO 4 (.bin .neq .str 3 (aS [])), iO 5 (.mv 4), iG 6 5 true (.mv 0), iG 7 5 true (.lenStr 6), iG 8 5 true (.bin .leq .int 7 (aI 32)), iO 9 (.pick 5 8 (.val (.bool false))), iO 10 (.mv 9), iG 11 10 true (.mv 0), iG 12 10 true (.idxS 11 (aI 0)), ⟨some 13, some (10, true), .call 73 [12]⟩, iO 14 (.pick 10 13 (.val (.bool false))), iO 15 (.mv 14), iG 16 15 true (.mv 0), ⟨some 17, some (15, true), .call 102 [16, (.val (.clo (.func 103) [] []))]⟩, iG 18 15 true (.mv 0), iG 19 15 true (.lenStr 18), iG 20 15 true (.bin .eql .int 17 19), iO 21 (.pick 15 20 (.val (.bool false))), iO 22 (.mv 21), iG 23 22 true (.mv 0), iG 24 22 true (.mv 0), ⟨some 25, some (22, true), .call 104 [24]⟩, iG 26 22 true (.bin .eql .str 23 25), iO 27 (.pick 22 26 (.val (.bool false))), iO 28 (.mv 27), iG 29 28 true (.mv 0), ⟨some 30, some (28, true), .call 105 [29]⟩, iG 31 28 true (.un .not 30), iO 32 (.pick 28 31 (.val (.bool false))), iO 2 (.mv 32)])
 (.ret))
def f57 (G : Nat → AVal) : AFn := ⟨33, [.tmp 2], f57m G⟩
theorem f57_c (G : Nat → AVal) : cmpFn Tryz.prog G [] 57 = some (f57 G) := by kernel_rfl
def f106m (G : Nat → AVal) : MC :=
 .seq (.ops [iO 1 (.box true 7 0), iO 2 (.mv (.val (.bool false)))])
 (.seq (.ops [iO 3 (.faddr 0 1), iO 4 (.load false 1 3), iO 5 (.bin .eql .int 4 (aI 0)), iO 6 (.mv 5), iG 7 6 true (.faddr 1 1), iG 8 6 true (.load false 1 7), iG 9 6 true (.lenS 8), iG 10 6 true (.bin .eql .int 9 (aI 0)), iO 11 (.pick 6 10 (.val (.bool false))), iO 12 (.mv 11), iG 13 12 true (.faddr 2 1), iG 14 12 true (.load false 1 13), iG 15 12 true (.bin .eql .int 14 (aI 0)), iO 16 (.pick 12 15 (.val (.bool false))), iO 17 (.mv 16), iG 18 17 true (.faddr 3 1), iG 19 17 true (.load false 1 18), iG 20 17 true (.bin .eql .int 19 (aI 0)), iO 21 (.pick 17 20 (.val (.bool false))), iO 22 (.mv 21), iG 23 22 true (.faddr 4 1), iG 24 22 true (.load false 1 23), iG 25 22 true (.bin .eql .int 24 (aI 0)), iO 26 (.pick 22 25 (.val (.bool false))), iO 27 (.mv 26), iG 28 27 true (.faddr 5 1), iG 29 27 true (.load false 1 28), iG 30 27 true (.bin .eql .str 29 (aS [])), iO 31 (.pick 27 30 (.val (.bool false))), iO 32 (.mv 31), iG 33 32 true (.faddr 6 1), iG 34 32 true (.load false 1 33), iG 35 32 true (.bin .eql .str 34 (aS [])), iO 36 (.pick 32 35 (.val (.bool false))), iO 2 (.mv 36)])
 (.ret))
def f106 (G : Nat → AVal) : AFn := ⟨37, [.tmp 2], f106m G⟩
theorem f106_c (G : Nat → AVal) : cmpFn Tryz.prog G [] 106 = some (f106 G) := by kernel_rfl
def f65m (G : Nat → AVal) : MC :=
 .seq (.ops [iO 1 (.box true 7 0), iO 2 (.mv (.val (.bool false)))])
 (.seq (.ops [iO 3 (.load true 7 1), iC 4 106 [3], iO 5 (.mv 4), iG 6 5 false (.load true 7 1), ⟨some 7, some (5, false), .call 51 [6]⟩, iO 8 (.pick 5 (.val (.bool true)) 7), iO 2 (.mv 8)])
 (.ret))
def f65 (G : Nat → AVal) : AFn := ⟨9, [.tmp 2], f65m G⟩
theorem f65_c (G : Nat → AVal) : cmpFn Tryz.prog G [] 65 = some (f65 G) := by kernel_rfl
def f17b0 (G : Nat → AVal) : MC :=
 .seq (.ops [iO 10 (.bin .lss .int 9 8)])
 (.seq (.cond 10
 (.skip)
 (.exit 0))
 (.seq (.block 1
 (.seq (.ops [iO 11 (.iaddr 7 7 9), iO 12 (.load true 7 11), iO 6 (.alloc 7 [.int 0, .nilS, .int 0, .int 0, .int 0, .str [], .str []]), iZ (.store true 7 6 12)])
 (.seq (.ops [iO 13 (.mv 1), iO 14 (.load true 7 6), ⟨some 15, none, .callV 13 [14]⟩, iO 16 (.un .not 15)])
 (.cond 16
 (.seq (.ops [iO 4 (.mv (.val (.bool false)))])
 (.ret))
 (.skip)))))
 (.ops [iO 17 (.bin .add .int 9 (aI 1)), iO 9 (.mv 17)])))
def f17m (G : Nat → AVal) : MC :=
 .seq (.ops [iO 4 (.mv (.val (.bool false)))])
 (.seq (.seq (.ops [iO 7 (.mv 0), iO 8 (.lenS 7), iO 9 (.mv (aI 0))])
 (.block 0
 (.loop (f17b0 G))))
 (.seq (.ops [iO 4 (.mv (.val (.bool true)))])
 (.ret)))
def f17 (G : Nat → AVal) : AFn := ⟨18, [.tmp 4], f17m G⟩
theorem f17_c (G : Nat → AVal) : cmpFn Tryz.prog G [] 17 = some (f17 G) := by kernel_rfl
end Go.Abs
namespace Go.Abs
open Go Go.RowKit Go.Proofs
def f46m (G : Nat → AVal) : MC :=
 .seq (.ops [iO 2 (.mv (aS [])), iO 3 (.mv (.val (.bool false)))])
 (.seq (.ops [iO 5 (.build [.str [], .str [], .str [], .str [], .str [], .str [], .str [], .str [], .str [], .str [], .str [], .str []] [(false, 0, 1, (aS [])), (false, 1, 1, (aS [116, 99])), (false, 2, 1, (aS [116])), (false, 3, 1, (aS [105, 116, 110])), (false, 4, 1, (aS [105])), (false, 5, 1, (aS [116, 114])), (false, 6, 1, (aS [115, 119])), (false, 7, 1, (aS [116, 117, 119])), (false, 8, 1, (aS [116, 119])), (false, 9, 1, (aS [])), (false, 10, 1, (aS [])), (false, 11, 1, (aS []))]), iO 4 (.alloc 12 [.str [], .str [], .str [], .str [], .str [], .str [], .str [], .str [], .str [], .str [], .str [], .str []]), iZ (.store true 12 4 5)])
 (.seq (.seq (.ops [iO 6 (.mv 0), iO 7 (.bin .lss .int 6 (aI 1)), iO 8 (.mv 7), iG 9 8 false (.mv 0), iG 10 8 false (.bin .gtr .int 9 (aI 11)), iO 11 (.pick 8 (.val (.bool true)) 10)])
 (.cond 11
 (.seq (.ops [iO 2 (.mv (aS [])), iO 3 (.mv (.val (.bool false)))])
 (.ret))
 (.skip)))
 (.seq (.ops [iO 12 (.mv 0), iO 13 (.iaddrA 12 1 4 12), iO 14 (.load false 1 13), iO 2 (.mv 14), iO 3 (.mv (.val (.bool true)))])
 (.ret))))
def f46 (G : Nat → AVal) : AFn := ⟨15, [.tmp 2, .tmp 3], f46m G⟩
theorem f46_c (G : Nat → AVal) : cmpFn Tryz.prog G [] 46 = some (f46 G) := by kernel_rfl
def f47m (G : Nat → AVal) : MC :=
 .seq (.ops [iO 7 (.mv (.val (.bool false)))])
 (.seq (.seq (.ops [iO 8 (.load false 1 3), iO 9 (.mv 0), iC 10 48 [8, 9]])
 (.cond 10
 (.seq (.ops [iO 11 (.mv 2), iO 7 (.mv 11)])
 (.ret))
 (.skip)))
 (.seq (.ops [iO 12 (.mv 1), iO 7 (.mv 12)])
 (.ret)))
def f47 (G : Nat → AVal) : AFn := ⟨13, [.tmp 7], f47m G⟩
theorem f47_c (G : Nat → AVal) : cmpFn Tryz.prog G [] 47 = some (f47 G) := by kernel_rfl
def f16m (G : Nat → AVal) : MC :=
 .seq (.ops [iO 1 (.box true 18 0), iO 2 (.mv (.val (.bool false)))])
 (.seq (.ops [iO 10 (.faddr 0 1), iO 11 (.load false 1 10), iC 12 46 [11], iO 9 (.mv 12), iO 13 (.extract 9 0), iO 14 (.extract 9 1), iO 3 (.alloc 1 [.str []]), iZ (.store false 1 3 13), iO 4 (.mv 14)])
 (.seq (.ops [iO 15 (.mkfn (.func 47) [] [3]), iO 5 (.mv 15)])
 (.seq (.ops [iO 16 (.faddr 7 1), iO 17 (.load false 1 16), iC 18 49 [17, (.val (.clo (.func 50) [] []))], iO 6 (.mv 18)])
 (.seq (.ops [iO 19 (.faddr 16 1), iO 20 (.load false 1 19), iC 21 53 [20, (.val (.clo (.func 54) [] []))], iO 7 (.mv 21)])
 (.seq (.ops [iO 22 (.faddr 17 1), iO 23 (.load false 1 22), iC 24 55 [23, (.val (.clo (.func 56) [] []))], iO 8 (.mv 24)])
 (.seq (.draw (.rd [⟨0, iO 25 (.mv 4), false, false⟩, ⟨1, iO 26 (.mv 25), false, false⟩, ⟨2, iG 27 26 true (.mv 5), false, true⟩, ⟨3, iG 28 26 true (.faddr 1 1), false, true⟩, ⟨4, iG 29 26 true (.load false 1 28), false, true⟩, ⟨5, iG 30 26 true (.bin .eql .str 29 (aS [])), false, true⟩, ⟨6, iG 31 26 true (.faddr 1 1), false, false⟩, ⟨7, iG 32 26 true (.load false 1 31), false, false⟩]
 (.ef ⟨8, ⟨some 33, some (26, true), .call 57 [32]⟩, true, false⟩ [2, 3, 4, 5]
 (.ef ⟨9, ⟨some 34, some (26, true), .callV 27 [(aS [116]), 30, 33]⟩, true, false⟩ []
 (.rd [⟨10, iO 35 (.pick 26 34 (.val (.bool false))), false, false⟩, ⟨11, iO 36 (.mv 35), false, false⟩, ⟨12, iG 37 36 true (.mv 5), false, true⟩, ⟨13, iG 38 36 true (.faddr 2 1), false, true⟩, ⟨14, iG 39 36 true (.load false 1 38), false, true⟩, ⟨15, iG 40 36 true (.bin .eql .str 39 (aS [])), false, true⟩, ⟨16, iG 41 36 true (.faddr 2 1), false, false⟩, ⟨17, iG 42 36 true (.load false 1 41), false, false⟩]
 (.ef ⟨18, ⟨some 43, some (36, true), .call 57 [42]⟩, true, false⟩ [12, 13, 14, 15]
 (.ef ⟨19, ⟨some 44, some (36, true), .callV 37 [(aS [105]), 40, 43]⟩, true, false⟩ []
 (.rd [⟨20, iO 45 (.pick 36 44 (.val (.bool false))), false, false⟩, ⟨21, iO 46 (.mv 45), false, false⟩, ⟨22, iG 47 46 true (.mv 5), false, true⟩, ⟨23, iG 48 46 true (.faddr 3 1), false, true⟩, ⟨24, iG 49 46 true (.load false 1 48), false, true⟩, ⟨25, iG 50 46 true (.lenS 49), false, true⟩, ⟨26, iG 51 46 true (.bin .eql .int 50 (aI 0)), false, true⟩, ⟨27, iG 52 46 true (.faddr 3 1), false, false⟩, ⟨28, iG 53 46 true (.load false 1 52), false, false⟩, ⟨29, iG 54 46 true (.lenS 53), false, false⟩]
 (.ef ⟨30, ⟨some 55, some (46, true), .call 58 [54, (aI 1), (aI 16)]⟩, true, false⟩ [22, 23, 24, 25, 26]
 (.rd [⟨31, iG 56 46 true (.mv 55), false, false⟩, ⟨32, iG 57 56 true (.faddr 3 1), false, false⟩, ⟨33, iG 58 56 true (.load false 1 57), false, false⟩]
 (.ef ⟨34, ⟨some 59, some (56, true), .call 59 [58, (.val (.clo (.func 60) [] []))]⟩, true, false⟩ [22, 23, 24, 25, 26]
 (.rd [⟨35, iG 60 46 true (.pick 56 59 (.val (.bool false))), false, false⟩]
 (.ef ⟨36, ⟨some 61, some (46, true), .callV 47 [(aS [99]), 51, 60]⟩, true, false⟩ []
 (.rd [⟨37, iO 62 (.pick 46 61 (.val (.bool false))), false, false⟩, ⟨38, iO 63 (.mv 62), false, false⟩, ⟨39, iG 64 63 true (.mv 5), false, true⟩, ⟨40, iG 65 63 true (.faddr 4 1), false, false⟩, ⟨41, iG 66 63 true (.load false 1 65), false, false⟩, ⟨42, iG 67 63 true (.lenS 66), false, false⟩, ⟨43, iG 68 63 true (.bin .eql .int 67 (aI 0)), false, false⟩, ⟨44, iG 69 63 true (.mv 68), false, false⟩, ⟨45, iG 70 69 true (.faddr 5 1), false, true⟩, ⟨46, iG 71 69 true (.load false 1 70), false, true⟩, ⟨47, iG 72 69 true (.un .not 71), false, true⟩, ⟨48, iG 73 63 true (.pick 69 72 (.val (.bool false))), false, true⟩, ⟨49, iG 74 63 true (.faddr 4 1), false, false⟩, ⟨50, iG 75 63 true (.load false 1 74), false, false⟩, ⟨51, iG 76 63 true (.lenS 75), false, false⟩]
 (.ef ⟨52, ⟨some 77, some (63, true), .call 58 [76, (aI 1), (aI 4)]⟩, true, false⟩ [39, 45, 46, 47, 48]
 (.rd [⟨53, iG 78 63 true (.mv 77), false, false⟩, ⟨54, iG 79 78 true (.faddr 4 1), false, false⟩, ⟨55, iG 80 78 true (.load false 1 79), false, false⟩]
 (.ef ⟨56, ⟨some 81, some (78, true), .call 61 [80, (.val (.clo (.func 57) [] []))]⟩, true, false⟩ [39, 45, 46, 47, 48]
 (.rd [⟨57, iG 82 63 true (.pick 78 81 (.val (.bool false))), false, false⟩]
 (.ef ⟨58, ⟨some 83, some (63, true), .callV 64 [(aS [110]), 73, 82]⟩, true, false⟩ []
 (.rd [⟨59, iO 84 (.pick 63 83 (.val (.bool false))), false, false⟩, ⟨60, iO 85 (.mv 84), false, false⟩, ⟨61, iG 86 85 true (.mv 5), false, true⟩, ⟨62, iG 87 85 true (.faddr 6 1), false, true⟩, ⟨63, iG 88 85 true (.load false 1 87), false, true⟩, ⟨64, iG 89 85 true (.lenS 88), false, true⟩, ⟨65, iG 90 85 true (.bin .eql .int 89 (aI 0)), false, true⟩, ⟨66, iG 91 85 true (.faddr 6 1), false, false⟩, ⟨67, iG 92 85 true (.load false 1 91), false, false⟩, ⟨68, iG 93 85 true (.lenS 92), false, false⟩]
 (.ef ⟨69, ⟨some 94, some (85, true), .call 58 [93, (aI 1), (aI 50)]⟩, true, false⟩ [61, 62, 63, 64, 65]
 (.rd [⟨70, iG 95 85 true (.mv 94), false, false⟩, ⟨71, iG 96 95 true (.faddr 6 1), false, false⟩, ⟨72, iG 97 95 true (.load false 1 96), false, false⟩]
 (.ef ⟨73, ⟨some 98, some (95, true), .call 62 [97, (.val (.clo (.func 63) [] []))]⟩, true, false⟩ [61, 62, 63, 64, 65]
 (.rd [⟨74, iG 99 85 true (.pick 95 98 (.val (.bool false))), false, false⟩]
 (.ef ⟨75, ⟨some 100, some (85, true), .callV 86 [(aS [114]), 90, 99]⟩, true, false⟩ []
 (.rd [⟨76, iO 101 (.pick 85 100 (.val (.bool false))), false, false⟩, ⟨77, iO 102 (.mv 101), false, false⟩, ⟨78, iG 103 102 true (.mv 5), false, true⟩, ⟨79, iG 104 102 true (.faddr 7 1), false, true⟩, ⟨80, iG 105 102 true (.load false 1 104), false, true⟩, ⟨81, iG 106 102 true (.lenS 105), false, true⟩, ⟨82, iG 107 102 true (.faddr 8 1), false, true⟩, ⟨83, iG 108 102 true (.load false 1 107), false, true⟩, ⟨84, iG 109 102 true (.lenS 108), false, true⟩, ⟨85, iG 110 102 true (.bin .add .int 106 109), false, true⟩, ⟨86, iG 111 102 true (.faddr 16 1), false, true⟩, ⟨87, iG 112 102 true (.load false 1 111), false, true⟩, ⟨88, iG 113 102 true (.lenS 112), false, true⟩, ⟨89, iG 114 102 true (.bin .add .int 110 113), false, true⟩, ⟨90, iG 115 102 true (.bin .eql .int 114 (aI 0)), false, true⟩, ⟨91, iG 116 102 true (.faddr 7 1), false, false⟩, ⟨92, iG 117 102 true (.load false 1 116), false, false⟩, ⟨93, iG 118 102 true (.lenS 117), false, false⟩, ⟨94, iG 119 102 true (.bin .leq .int 118 (aI 50)), false, false⟩, ⟨95, iG 120 102 true (.mv 119), false, false⟩, ⟨96, iG 121 120 true (.mv 6), false, false⟩, ⟨97, iG 122 102 true (.pick 120 121 (.val (.bool false))), false, false⟩, ⟨98, iG 123 102 true (.mv 122), false, false⟩, ⟨99, iG 124 123 true (.faddr 8 1), false, false⟩, ⟨100, iG 125 123 true (.load false 1 124), false, false⟩]
 (.ef ⟨101, ⟨some 126, some (123, true), .call 64 [125]⟩, true, false⟩ [78, 79, 80, 81, 82, 83, 84, 85, 86, 87, 88, 89, 90]
 (.rd [⟨102, iG 127 102 true (.pick 123 126 (.val (.bool false))), false, false⟩, ⟨103, iG 128 102 true (.mv 127), false, false⟩, ⟨104, iG 129 128 true (.faddr 16 1), false, false⟩, ⟨105, iG 130 128 true (.load false 1 129), false, false⟩, ⟨106, iG 131 128 true (.lenS 130), false, false⟩, ⟨107, iG 132 128 true (.bin .leq .int 131 (aI 50)), false, false⟩, ⟨108, iG 133 102 true (.pick 128 132 (.val (.bool false))), false, false⟩, ⟨109, iG 134 102 true (.mv 133), false, false⟩, ⟨110, iG 135 134 true (.mv 7), false, false⟩, ⟨111, iG 136 102 true (.pick 134 135 (.val (.bool false))), false, false⟩]
 (.ef ⟨112, ⟨some 137, some (102, true), .callV 103 [(aS [115]), 115, 136]⟩, true, false⟩ []
 (.rd [⟨113, iO 138 (.pick 102 137 (.val (.bool false))), false, false⟩, ⟨114, iO 139 (.mv 138), false, false⟩, ⟨115, iG 140 139 true (.mv 5), false, true⟩, ⟨116, iG 141 139 true (.faddr 17 1), false, true⟩, ⟨117, iG 142 139 true (.load false 1 141), false, true⟩, ⟨118, iG 143 139 true (.lenS 142), false, true⟩, ⟨119, iG 144 139 true (.bin .eql .int 143 (aI 0)), false, true⟩, ⟨120, iG 145 139 true (.faddr 17 1), false, false⟩, ⟨121, iG 146 139 true (.load false 1 145), false, false⟩, ⟨122, iG 147 139 true (.lenS 146), false, false⟩]
 (.ef ⟨123, ⟨some 148, some (139, true), .call 58 [147, (aI 1), (aI 50)]⟩, true, false⟩ [115, 116, 117, 118, 119]
 (.rd [⟨124, iG 149 139 true (.mv 148), false, false⟩, ⟨125, iG 150 149 true (.mv 8), false, false⟩, ⟨126, iG 151 139 true (.pick 149 150 (.val (.bool false))), false, false⟩]
 (.ef ⟨127, ⟨some 152, some (139, true), .callV 140 [(aS [117]), 144, 151]⟩, true, false⟩ []
 (.rd [⟨128, iO 153 (.pick 139 152 (.val (.bool false))), false, false⟩, ⟨129, iO 154 (.mv 153), false, false⟩, ⟨130, iG 155 154 true (.mv 5), false, true⟩, ⟨131, iG 156 154 true (.faddr 9 1), false, false⟩, ⟨132, iG 157 154 true (.load true 7 156), false, false⟩, ⟨140, iG 165 154 true (.faddr 9 1), false, true⟩, ⟨141, iG 166 154 true (.load true 7 165), false, true⟩]
 (.ef ⟨133, ⟨some 158, some (154, true), .call 65 [157]⟩, true, false⟩ [130, 140, 141]
 (.rd [⟨134, iG 159 154 true (.mv 158), false, false⟩, ⟨135, iG 160 159 true (.faddr 9 1), false, true⟩, ⟨136, iG 161 159 true (.faddr 0 160), false, true⟩, ⟨137, iG 162 159 true (.load false 1 161), false, true⟩, ⟨138, iG 163 159 true (.bin .eql .int 162 (aI 0)), false, true⟩, ⟨139, iG 164 154 true (.pick 159 163 (.val (.bool false))), false, true⟩]
 (.ef ⟨142, ⟨some 167, some (154, true), .call 65 [166]⟩, true, false⟩ [130, 135, 136, 137, 138, 139]
 (.ef ⟨143, ⟨some 168, some (154, true), .callV 155 [(aS [119]), 164, 167]⟩, true, false⟩ []
 (.rd [⟨144, iO 169 (.pick 154 168 (.val (.bool false))), false, false⟩, ⟨145, iO 2 (.mv 169), false, false⟩]
 (.nil))))))))))))))))))))))))))))))))))))))))
 (.ret)))))))
def f16 (G : Nat → AVal) : AFn := ⟨170, [.tmp 2], f16m G⟩
theorem f16_c (G : Nat → AVal) : cmpFn Tryz.prog G [] 16 = some (f16 G) := by kernel_rfl
def f58m (G : Nat → AVal) : MC :=
 .seq (.ops [iO 6 (.mv (.val (.bool false)))])
 (.seq (.ops [iO 7 (.mv 0), iO 8 (.mv 1), iO 9 (.bin .geq .int 7 8), iO 10 (.mv 9), iG 11 10 true (.mv 0), iG 12 10 true (.mv 2), iG 13 10 true (.bin .leq .int 11 12), iO 14 (.pick 10 13 (.val (.bool false))), iO 6 (.mv 14)])
 (.ret))
def f58 (G : Nat → AVal) : AFn := ⟨15, [.tmp 6], f58m G⟩
theorem f58_c (G : Nat → AVal) : cmpFn Tryz.prog G [] 58 = some (f58 G) := by kernel_rfl
def f59b0 (G : Nat → AVal) : MC :=
 .seq (.ops [iO 10 (.bin .lss .int 9 8)])
 (.seq (.cond 10
 (.skip)
 (.exit 0))
 (.seq (.block 1
 (.seq (.ops [iO 11 (.iaddr 3 7 9), iO 12 (.load true 3 11), iO 6 (.alloc 3 [.str [], .int 0, .bool false]), iZ (.store true 3 6 12)])
 (.seq (.ops [iO 13 (.mv 1), iO 14 (.load true 3 6), ⟨some 15, none, .callV 13 [14]⟩, iO 16 (.un .not 15)])
 (.cond 16
 (.seq (.ops [iO 4 (.mv (.val (.bool false)))])
 (.ret))
 (.skip)))))
 (.ops [iO 17 (.bin .add .int 9 (aI 1)), iO 9 (.mv 17)])))
def f59m (G : Nat → AVal) : MC :=
 .seq (.ops [iO 4 (.mv (.val (.bool false)))])
 (.seq (.seq (.ops [iO 7 (.mv 0), iO 8 (.lenS 7), iO 9 (.mv (aI 0))])
 (.block 0
 (.loop (f59b0 G))))
 (.seq (.ops [iO 4 (.mv (.val (.bool true)))])
 (.ret)))
def f59 (G : Nat → AVal) : AFn := ⟨18, [.tmp 4], f59m G⟩
theorem f59_c (G : Nat → AVal) : cmpFn Tryz.prog G [] 59 = some (f59 G) := by kernel_rfl
def f60m (G : Nat → AVal) : MC :=
 .seq (.ops [iO 1 (.box true 3 0), iO 2 (.mv (.val (.bool false)))])
 (.seq (.ops [iO 3 (.faddr 0 1), iO 4 (.load false 1 3), iC 5 57 [4], iO 6 (.mv 5), iG 7 6 true (.faddr 1 1), iG 8 6 true (.load false 1 7), iG 9 6 true (.bin .geq .int 8 (aI 1)), iO 10 (.pick 6 9 (.val (.bool false))), iO 11 (.mv 10), iG 12 11 true (.faddr 1 1), iG 13 11 true (.load false 1 12), iG 14 11 true (.bin .leq .int 13 (aI 4)), iO 15 (.pick 11 14 (.val (.bool false))), iO 2 (.mv 15)])
 (.ret))
def f60 (G : Nat → AVal) : AFn := ⟨16, [.tmp 2], f60m G⟩
theorem f60_c (G : Nat → AVal) : cmpFn Tryz.prog G [] 60 = some (f60 G) := by kernel_rfl
def f61b0 (G : Nat → AVal) : MC :=
 .seq (.ops [iO 10 (.bin .lss .int 9 8)])
 (.seq (.cond 10
 (.skip)
 (.exit 0))
 (.seq (.block 1
 (.seq (.ops [iO 11 (.iaddr 1 7 9), iO 12 (.load false 1 11), iO 6 (.mv 12)])
 (.seq (.ops [iO 13 (.mv 1), iO 14 (.mv 6), ⟨some 15, none, .callV 13 [14]⟩, iO 16 (.un .not 15)])
 (.cond 16
 (.seq (.ops [iO 4 (.mv (.val (.bool false)))])
 (.ret))
 (.skip)))))
 (.ops [iO 17 (.bin .add .int 9 (aI 1)), iO 9 (.mv 17)])))
def f61m (G : Nat → AVal) : MC :=
 .seq (.ops [iO 4 (.mv (.val (.bool false)))])
 (.seq (.seq (.ops [iO 7 (.mv 0), iO 8 (.lenS 7), iO 9 (.mv (aI 0))])
 (.block 0
 (.loop (f61b0 G))))
 (.seq (.ops [iO 4 (.mv (.val (.bool true)))])
 (.ret)))
def f61 (G : Nat → AVal) : AFn := ⟨18, [.tmp 4], f61m G⟩
theorem f61_c (G : Nat → AVal) : cmpFn Tryz.prog G [] 61 = some (f61 G) := by kernel_rfl
def f62b0 (G : Nat → AVal) : MC :=
 .seq (.ops [iO 10 (.bin .lss .int 9 8)])
 (.seq (.cond 10
 (.skip)
 (.exit 0))
 (.seq (.block 1
 (.seq (.ops [iO 11 (.iaddr 1 7 9), iO 12 (.load false 1 11), iO 6 (.mv 12)])
 (.seq (.ops [iO 13 (.mv 1), iO 14 (.mv 6), ⟨some 15, none, .callV 13 [14]⟩, iO 16 (.un .not 15)])
 (.cond 16
 (.seq (.ops [iO 4 (.mv (.val (.bool false)))])
 (.ret))
 (.skip)))))
 (.ops [iO 17 (.bin .add .int 9 (aI 1)), iO 9 (.mv 17)])))
def f62m (G : Nat → AVal) : MC :=
 .seq (.ops [iO 4 (.mv (.val (.bool false)))])
 (.seq (.seq (.ops [iO 7 (.mv 0), iO 8 (.lenS 7), iO 9 (.mv (aI 0))])
 (.block 0
 (.loop (f62b0 G))))
 (.seq (.ops [iO 4 (.mv (.val (.bool true)))])
 (.ret)))
def f62 (G : Nat → AVal) : AFn := ⟨18, [.tmp 4], f62m G⟩
theorem f62_c (G : Nat → AVal) : cmpFn Tryz.prog G [] 62 = some (f62 G) := by kernel_rfl
def f63m (G : Nat → AVal) : MC :=
 .seq (.ops [iO 2 (.mv (.val (.bool false)))])
 (.seq (.ops [iO 3 (.mv 0), iO 4 (.lenS 3), iC 5 58 [4, (aI 1), (aI 50)], iO 6 (.mv 5), iG 7 6 true (.mv 0), ⟨some 8, some (6, true), .call 17 [7, (.val (.clo (.func 51) [] []))]⟩, iO 9 (.pick 6 8 (.val (.bool false))), iO 2 (.mv 9)])
 (.ret))
def f63 (G : Nat → AVal) : AFn := ⟨10, [.tmp 2], f63m G⟩
theorem f63_c (G : Nat → AVal) : cmpFn Tryz.prog G [] 63 = some (f63 G) := by kernel_rfl
def f64b0 (G : Nat → AVal) : MC :=
 .seq (.ops [iO 8 (.bin .lss .int 7 6)])
 (.seq (.cond 8
 (.skip)
 (.exit 0))
 (.seq (.block 1
 (.seq (.ops [iO 9 (.mv 7), iO 10 (.iaddr 9 5 7), iO 11 (.load true 9 10), iO 4 (.alloc 9 [.str [], .str [], .int 0, .nilS, .int 0, .int 0, .int 0, .str [], .str []]), iO 3 (.mv 9), iZ (.store true 9 4 11)])
 (.seq (.ops [iO 12 (.faddr 0 4), iO 13 (.load false 1 12), iC 14 57 [13], iO 15 (.un .not 14), iO 16 (.mv 15), iG 17 16 false (.faddr 1 4), iG 18 16 false (.load false 1 17), ⟨some 19, some (16, false), .call 52 [18]⟩, iG 20 16 false (.un .not 19), iO 21 (.pick 16 (.val (.bool true)) 20), iO 22 (.mv 21), iG 23 22 false (.mv 3), iG 24 22 false (.bin .eql .int 23 (aI 0)), iG 25 22 false (.mv 24), iG 26 25 true (.faddr 2 4), iG 27 25 true (.faddr 0 26), iG 28 25 true (.load false 1 27), iG 29 25 true (.bin .neq .int 28 (aI 0)), iG 30 22 false (.pick 25 29 (.val (.bool false))), iO 31 (.pick 22 (.val (.bool true)) 30), iO 32 (.mv 31), iG 33 32 false (.faddr 2 4), iG 34 32 false (.load true 7 33), ⟨some 35, some (32, false), .call 65 [34]⟩, iG 36 32 false (.un .not 35), iO 37 (.pick 32 (.val (.bool true)) 36), iO 38 (.mv 37), iG 39 38 false (.mv 3), iG 40 38 false (.bin .gtr .int 39 (aI 0)), iG 41 38 false (.mv 40), iG 42 41 true (.faddr 2 4), iG 43 41 true (.faddr 0 42), iG 44 41 true (.load false 1 43), iG 45 41 true (.bin .eql .int 44 (aI 0)), iG 46 38 false (.pick 41 45 (.val (.bool false))), iO 47 (.pick 38 (.val (.bool true)) 46)])
 (.cond 47
 (.seq (.ops [iO 2 (.mv (.val (.bool false)))])
 (.ret))
 (.skip)))))
 (.ops [iO 48 (.bin .add .int 7 (aI 1)), iO 7 (.mv 48)])))
def f64m (G : Nat → AVal) : MC :=
 .seq (.ops [iO 2 (.mv (.val (.bool false)))])
 (.seq (.seq (.ops [iO 5 (.mv 0), iO 6 (.lenS 5), iO 7 (.mv (aI 0))])
 (.block 0
 (.loop (f64b0 G))))
 (.seq (.ops [iO 49 (.mv 0), iO 50 (.lenS 49), iC 51 58 [50, (aI 1), (aI 4)], iO 2 (.mv 51)])
 (.ret)))
def f64 (G : Nat → AVal) : AFn := ⟨52, [.tmp 2], f64m G⟩
theorem f64_c (G : Nat → AVal) : cmpFn Tryz.prog G [] 64 = some (f64 G) := by kernel_rfl
def f49b0 (G : Nat → AVal) : MC :=
 .seq (.ops [iO 10 (.bin .lss .int 9 8)])
 (.seq (.cond 10
 (.skip)
 (.exit 0))
 (.seq (.block 1
 (.seq (.ops [iO 11 (.iaddr 8 7 9), iO 12 (.load true 8 11), iO 6 (.alloc 8 [.int 0, .nilS, .int 0, .int 0, .int 0, .str [], .str [], .str []]), iZ (.store true 8 6 12)])
 (.seq (.ops [iO 13 (.mv 1), iO 14 (.load true 8 6), ⟨some 15, none, .callV 13 [14]⟩, iO 16 (.un .not 15)])
 (.cond 16
 (.seq (.ops [iO 4 (.mv (.val (.bool false)))])
 (.ret))
 (.skip)))))
 (.ops [iO 17 (.bin .add .int 9 (aI 1)), iO 9 (.mv 17)])))
def f49m (G : Nat → AVal) : MC :=
 .seq (.ops [iO 4 (.mv (.val (.bool false)))])
 (.seq (.seq (.ops [iO 7 (.mv 0), iO 8 (.lenS 7), iO 9 (.mv (aI 0))])
 (.block 0
 (.loop (f49b0 G))))
 (.seq (.ops [iO 4 (.mv (.val (.bool true)))])
 (.ret)))
def f49 (G : Nat → AVal) : AFn := ⟨18, [.tmp 4], f49m G⟩
theorem f49_c (G : Nat → AVal) : cmpFn Tryz.prog G [] 49 = some (f49 G) := by kernel_rfl
def f50m (G : Nat → AVal) : MC :=
 .seq (.ops [iO 1 (.box true 8 0), iO 2 (.mv (.val (.bool false)))])
 (.seq (.ops [iO 3 (.faddr 0 1), iO 4 (.load true 7 3), iC 5 51 [4], iO 6 (.mv 5), iG 7 6 true (.faddr 7 1), iG 8 6 true (.load false 1 7), ⟨some 9, some (6, true), .call 52 [8]⟩, iO 10 (.pick 6 9 (.val (.bool false))), iO 2 (.mv 10)])
 (.ret))
def f50 (G : Nat → AVal) : AFn := ⟨11, [.tmp 2], f50m G⟩
theorem f50_c (G : Nat → AVal) : cmpFn Tryz.prog G [] 50 = some (f50 G) := by kernel_rfl
def f53b0 (G : Nat → AVal) : MC :=
 .seq (.ops [iO 10 (.bin .lss .int 9 8)])
 (.seq (.cond 10
 (.skip)
 (.exit 0))
 (.seq (.block 1
 (.seq (.ops [iO 11 (.iaddr 8 7 9), iO 12 (.load true 8 11), iO 6 (.alloc 8 [.int 0, .nilS, .int 0, .int 0, .int 0, .str [], .str [], .bool false]), iZ (.store true 8 6 12)])
 (.seq (.ops [iO 13 (.mv 1), iO 14 (.load true 8 6), ⟨some 15, none, .callV 13 [14]⟩, iO 16 (.un .not 15)])
 (.cond 16
 (.seq (.ops [iO 4 (.mv (.val (.bool false)))])
 (.ret))
 (.skip)))))
 (.ops [iO 17 (.bin .add .int 9 (aI 1)), iO 9 (.mv 17)])))
def f53m (G : Nat → AVal) : MC :=
 .seq (.ops [iO 4 (.mv (.val (.bool false)))])
 (.seq (.seq (.ops [iO 7 (.mv 0), iO 8 (.lenS 7), iO 9 (.mv (aI 0))])
 (.block 0
 (.loop (f53b0 G))))
 (.seq (.ops [iO 4 (.mv (.val (.bool true)))])
 (.ret)))
def f53 (G : Nat → AVal) : AFn := ⟨18, [.tmp 4], f53m G⟩
theorem f53_c (G : Nat → AVal) : cmpFn Tryz.prog G [] 53 = some (f53 G) := by kernel_rfl
def f54m (G : Nat → AVal) : MC :=
 .seq (.ops [iO 1 (.box true 8 0), iO 2 (.mv (.val (.bool false)))])
 (.seq (.ops [iO 3 (.faddr 0 1), iO 4 (.load true 7 3), iC 5 51 [4], iO 2 (.mv 5)])
 (.ret))
def f54 (G : Nat → AVal) : AFn := ⟨6, [.tmp 2], f54m G⟩
theorem f54_c (G : Nat → AVal) : cmpFn Tryz.prog G [] 54 = some (f54 G) := by kernel_rfl
def f55b0 (G : Nat → AVal) : MC :=
 .seq (.ops [iO 10 (.bin .lss .int 9 8)])
 (.seq (.cond 10
 (.skip)
 (.exit 0))
 (.seq (.block 1
 (.seq (.ops [iO 11 (.iaddr 8 7 9), iO 12 (.load true 8 11), iO 6 (.alloc 8 [.str [], .int 0, .nilS, .int 0, .int 0, .int 0, .str [], .str []]), iZ (.store true 8 6 12)])
 (.seq (.ops [iO 13 (.mv 1), iO 14 (.load true 8 6), ⟨some 15, none, .callV 13 [14]⟩, iO 16 (.un .not 15)])
 (.cond 16
 (.seq (.ops [iO 4 (.mv (.val (.bool false)))])
 (.ret))
 (.skip)))))
 (.ops [iO 17 (.bin .add .int 9 (aI 1)), iO 9 (.mv 17)])))
def f55m (G : Nat → AVal) : MC :=
 .seq (.ops [iO 4 (.mv (.val (.bool false)))])
 (.seq (.seq (.ops [iO 7 (.mv 0), iO 8 (.lenS 7), iO 9 (.mv (aI 0))])
 (.block 0
 (.loop (f55b0 G))))
 (.seq (.ops [iO 4 (.mv (.val (.bool true)))])
 (.ret)))
def f55 (G : Nat → AVal) : AFn := ⟨18, [.tmp 4], f55m G⟩
theorem f55_c (G : Nat → AVal) : cmpFn Tryz.prog G [] 55 = some (f55 G) := by kernel_rfl
def f56m (G : Nat → AVal) : MC :=
 .seq (.ops [iO 1 (.box true 8 0), iO 2 (.mv (.val (.bool false)))])
 (.seq (.ops [iO 3 (.faddr 0 1), iO 4 (.load false 1 3), iC 5 57 [4], iO 6 (.mv 5), iG 7 6 true (.faddr 1 1), iG 8 6 true (.load true 7 7), ⟨some 9, some (6, true), .call 51 [8]⟩, iO 10 (.pick 6 9 (.val (.bool false))), iO 2 (.mv 10)])
 (.ret))
def f56 (G : Nat → AVal) : AFn := ⟨11, [.tmp 2], f56m G⟩
theorem f56_c (G : Nat → AVal) : cmpFn Tryz.prog G [] 56 = some (f56 G) := by kernel_rfl
end Go.Abs
namespace Go.Abs
open Go Go.RowKit Go.Proofs
def f37m (G : Nat → AVal) : MC :=
 .seq (.ops [iO 1 (.box true 7 0), iO 2 (.mv (aS []))])
 (.seq (.seq (.ops [iO 4 (.faddr 0 1), iO 5 (.load false 1 4)])
 (.block 0
 (.seq (.ops [iO 7 (.bin .eql .int 5 (aI 21)), iO 6 (.mv 7)])
 (.cond 6
 (.seq (.ops [iO 8 (.load true 7 1), iC 9 90 [8], iO 2 (.mv 9)])
 (.ret))
 (.seq (.ops [iO 11 (.bin .eql .int 5 (aI 22)), iO 10 (.mv 11)])
 (.cond 10
 (.seq (.seq (.ops [iO 12 (.faddr 6 1), iO 13 (.load false 1 12), iO 14 (.bin .neq .str 13 (aS []))])
 (.cond 14
 (.seq (.ops [iO 15 (.faddr 6 1), iO 16 (.load false 1 15), iO 17 (.bin .add .int 16 (aS [46])), iO 18 (.faddr 5 1), iO 19 (.load false 1 18), iO 20 (.bin .add .int 17 19), iO 2 (.mv 20)])
 (.ret))
 (.skip)))
 (.seq (.ops [iO 21 (.faddr 5 1), iO 22 (.load false 1 21), iO 2 (.mv 22)])
 (.ret)))
 (.skip)))))))
 (.seq (.ops [iO 23 (.faddr 1 1), iO 24 (.load false 1 23), iO 25 (.iaddr 7 24 (aI 0)), iO 26 (.load true 7 25), iC 27 37 [26], iO 3 (.mv 27)])
 (.seq (.seq (.ops [iO 28 (.faddr 0 1), iO 29 (.load false 1 28)])
 (.block 1
 (.seq (.ops [iO 31 (.bin .eql .int 29 (aI 13)), iO 30 (.mv 31)])
 (.cond 30
 (.seq (.ops [iO 32 (.mv 3), iO 33 (.bin .add .int (aS [40, 45, 32]) 32), iO 34 (.bin .add .int 33 (aS [41])), iO 2 (.mv 34)])
 (.ret))
 (.seq (.ops [iO 36 (.bin .eql .int 29 (aI 16)), iO 35 (.mv 36)])
 (.cond 35
 (.seq (.ops [iO 37 (.mv 3), iO 38 (.bin .add .int (aS [40, 78, 79, 84, 32]) 37), iO 39 (.bin .add .int 38 (aS [41])), iO 2 (.mv 39)])
 (.ret))
 (.seq (.ops [iO 41 (.bin .eql .int 29 (aI 19)), iO 40 (.mv 41)])
 (.cond 40
 (.seq (.ops [iO 42 (.mv 3), iO 43 (.bin .add .int (aS [40]) 42), iO 44 (.bin .add .int 43 (aS [32, 73, 83, 32, 78, 85, 76, 76, 41])), iO 2 (.mv 44)])
 (.ret))
 (.seq (.ops [iO 46 (.bin .eql .int 29 (aI 20)), iO 45 (.mv 46)])
 (.cond 45
 (.seq (.ops [iO 47 (.mv 3), iO 48 (.bin .add .int (aS [40]) 47), iO 49 (.bin .add .int 48 (aS [32, 73, 83, 32, 78, 79, 84, 32, 78, 85, 76, 76, 41])), iO 2 (.mv 49)])
 (.ret))
 (.seq (.ops [iO 51 (.bin .eql .int 29 (aI 14)), iO 50 (.mv 51)])
 (.cond 50
 (.seq (.ops [iO 52 (.mv 3), iO 53 (.bin .add .int (aS [73, 78, 84, 40]) 52), iO 54 (.bin .add .int 53 (aS [41])), iO 2 (.mv 54)])
 (.ret))
 (.seq (.ops [iO 56 (.bin .eql .int 29 (aI 15)), iO 55 (.mv 56)])
 (.cond 55
 (.seq (.ops [iO 57 (.mv 3), iO 58 (.bin .add .int (aS [82, 69, 65, 76, 40]) 57), iO 59 (.bin .add .int 58 (aS [41])), iO 2 (.mv 59)])
 (.ret))
 (.skip)))))))))))))))
 (.seq (.draw (.rd [⟨0, iO 60 (.mv 3), false, true⟩, ⟨1, iO 61 (.bin .add .int (aS [40]) 60), false, true⟩, ⟨2, iO 62 (.bin .add .int 61 (aS [32])), false, true⟩, ⟨3, iO 63 (.faddr 0 1), false, false⟩, ⟨4, iO 64 (.load false 1 63), false, false⟩, ⟨8, iO 68 (.faddr 1 1), false, true⟩, ⟨9, iO 69 (.load false 1 68), false, true⟩, ⟨10, iO 70 (.iaddr 7 69 (aI 1)), false, true⟩, ⟨11, iO 71 (.load true 7 70), false, true⟩]
 (.ef ⟨5, iC 65 91 [64], true, false⟩ [0, 1, 2, 8, 9, 10, 11]
 (.rd [⟨6, iO 66 (.bin .add .int 62 65), false, true⟩, ⟨7, iO 67 (.bin .add .int 66 (aS [32])), false, true⟩]
 (.ef ⟨12, iC 72 37 [71], true, false⟩ [0, 1, 2, 6, 7]
 (.rd [⟨13, iO 73 (.bin .add .int 67 72), false, false⟩, ⟨14, iO 74 (.bin .add .int 73 (aS [41])), false, false⟩, ⟨15, iO 2 (.mv 74), false, false⟩]
 (.nil)))))))
 (.ret)))))
def f37 (G : Nat → AVal) : AFn := ⟨75, [.tmp 2], f37m G⟩
theorem f37_c (G : Nat → AVal) : cmpFn Tryz.prog G [] 37 = some (f37 G) := by kernel_rfl
def f10m (G : Nat → AVal) : MC :=
 .seq (.ops [iO 1 (.box true 18 0), iO 2 (.mv (aI 0))])
 (.seq (.seq (.ops [iO 3 (.load true 18 1), iC 4 16 [3], iO 5 (.un .not 4)])
 (.cond 5
 (.seq (.ops [iO 2 (.mv (aI 2))])
 (.ret))
 (.skip)))
 (.seq (.seq (.ops [iO 6 (.load true 18 1), iC 7 18 [6], iC 8 17 [7, (.val (.clo (.func 19) [] []))], iO 9 (.un .not 8)])
 (.cond 9
 (.seq (.ops [iO 2 (.mv (aI 5))])
 (.ret))
 (.skip)))
 (.seq (.ops [iO 2 (.mv (aI 0))])
 (.ret))))
def f10 (G : Nat → AVal) : AFn := ⟨10, [.tmp 2], f10m G⟩
theorem f10_c (G : Nat → AVal) : cmpFn Tryz.prog G [] 10 = some (f10 G) := by kernel_rfl
def f18b0 (G : Nat → AVal) : MC :=
 .seq (.ops [iO 21 (.bin .lss .int 20 19)])
 (.seq (.cond 21
 (.skip)
 (.exit 0))
 (.seq (.block 1
 (.seq (.ops [iO 22 (.iaddr 1 18 20), iO 23 (.load false 1 22), iO 5 (.mv 23)])
 (.ops [iO 24 (.mv 3), iO 25 (.mv 5), iO 26 (.append 7 88 24 25), iO 3 (.mv 26)])))
 (.ops [iO 27 (.bin .add .int 20 (aI 1)), iO 20 (.mv 27)])))
def f18b1 (G : Nat → AVal) : MC :=
 .seq (.ops [iO 32 (.bin .lss .int 31 30)])
 (.seq (.cond 32
 (.skip)
 (.exit 2))
 (.seq (.block 3
 (.seq (.ops [iO 33 (.iaddr 8 29 31), iO 34 (.load true 8 33), iO 7 (.alloc 8 [.int 0, .nilS, .int 0, .int 0, .int 0, .str [], .str [], .str []]), iZ (.store true 8 7 34)])
 (.ops [iO 35 (.mv 3), iO 36 (.faddr 0 7), iO 37 (.load true 7 36), iO 38 (.bslice true 7 1 [.int 0, .nilS, .int 0, .int 0, .int 0, .str [], .str []] [(0, 37)]), iO 39 (.append 7 88 35 38), iO 3 (.mv 39)])))
 (.ops [iO 40 (.bin .add .int 31 (aI 1)), iO 31 (.mv 40)])))
def f18b2 (G : Nat → AVal) : MC :=
 .seq (.ops [iO 45 (.bin .lss .int 44 43)])
 (.seq (.cond 45
 (.skip)
 (.exit 4))
 (.seq (.block 5
 (.seq (.ops [iO 46 (.iaddr 9 42 44), iO 47 (.load true 9 46), iO 9 (.alloc 9 [.str [], .str [], .int 0, .nilS, .int 0, .int 0, .int 0, .str [], .str []]), iZ (.store true 9 9 47)])
 (.ops [iO 48 (.mv 3), iO 49 (.faddr 2 9), iO 50 (.load true 7 49), iO 51 (.bslice true 7 1 [.int 0, .nilS, .int 0, .int 0, .int 0, .str [], .str []] [(0, 50)]), iO 52 (.append 7 88 48 51), iO 3 (.mv 52)])))
 (.ops [iO 53 (.bin .add .int 44 (aI 1)), iO 44 (.mv 53)])))
def f18b3 (G : Nat → AVal) : MC :=
 .seq (.ops [iO 58 (.bin .lss .int 57 56)])
 (.seq (.cond 58
 (.skip)
 (.exit 6))
 (.seq (.block 7
 (.seq (.ops [iO 59 (.iaddr 8 55 57), iO 60 (.load true 8 59), iO 11 (.alloc 8 [.int 0, .nilS, .int 0, .int 0, .int 0, .str [], .str [], .bool false]), iZ (.store true 8 11 60)])
 (.ops [iO 61 (.mv 3), iO 62 (.faddr 0 11), iO 63 (.load true 7 62), iO 64 (.bslice true 7 1 [.int 0, .nilS, .int 0, .int 0, .int 0, .str [], .str []] [(0, 63)]), iO 65 (.append 7 88 61 64), iO 3 (.mv 65)])))
 (.ops [iO 66 (.bin .add .int 57 (aI 1)), iO 57 (.mv 66)])))
def f18b4 (G : Nat → AVal) : MC :=
 .seq (.ops [iO 71 (.bin .lss .int 70 69)])
 (.seq (.cond 71
 (.skip)
 (.exit 8))
 (.seq (.block 9
 (.seq (.ops [iO 72 (.iaddr 8 68 70), iO 73 (.load true 8 72), iO 13 (.alloc 8 [.str [], .int 0, .nilS, .int 0, .int 0, .int 0, .str [], .str []]), iZ (.store true 8 13 73)])
 (.ops [iO 74 (.mv 3), iO 75 (.faddr 1 13), iO 76 (.load true 7 75), iO 77 (.bslice true 7 1 [.int 0, .nilS, .int 0, .int 0, .int 0, .str [], .str []] [(0, 76)]), iO 78 (.append 7 88 74 77), iO 3 (.mv 78)])))
 (.ops [iO 79 (.bin .add .int 70 (aI 1)), iO 70 (.mv 79)])))
def f18m (G : Nat → AVal) : MC :=
 .seq (.ops [iO 1 (.box true 18 0), iO 2 (.mv (.val .nilS))])
 (.seq (.ops [iO 14 (.faddr 9 1), iO 15 (.load true 7 14), iO 16 (.bslice true 7 1 [.int 0, .nilS, .int 0, .int 0, .int 0, .str [], .str []] [(0, 15)]), iO 3 (.mv 16)])
 (.seq (.seq (.ops [iO 17 (.faddr 6 1), iO 18 (.load false 1 17), iO 19 (.lenS 18), iO 20 (.mv (aI 0))])
 (.block 0
 (.loop (f18b0 G))))
 (.seq (.seq (.ops [iO 28 (.faddr 7 1), iO 29 (.load false 1 28), iO 30 (.lenS 29), iO 31 (.mv (aI 0))])
 (.block 2
 (.loop (f18b1 G))))
 (.seq (.seq (.ops [iO 41 (.faddr 8 1), iO 42 (.load false 1 41), iO 43 (.lenS 42), iO 44 (.mv (aI 0))])
 (.block 4
 (.loop (f18b2 G))))
 (.seq (.seq (.ops [iO 54 (.faddr 16 1), iO 55 (.load false 1 54), iO 56 (.lenS 55), iO 57 (.mv (aI 0))])
 (.block 6
 (.loop (f18b3 G))))
 (.seq (.seq (.ops [iO 67 (.faddr 17 1), iO 68 (.load false 1 67), iO 69 (.lenS 68), iO 70 (.mv (aI 0))])
 (.block 8
 (.loop (f18b4 G))))
 (.seq (.ops [iO 80 (.mv 3), iO 2 (.mv 80)])
 (.ret))))))))
def f18 (G : Nat → AVal) : AFn := ⟨81, [.tmp 2], f18m G⟩
theorem f18_c (G : Nat → AVal) : cmpFn Tryz.prog G [] 18 = some (f18 G) := by kernel_rfl
def f19m (G : Nat → AVal) : MC :=
 .seq (.ops [iO 1 (.box true 7 0), iO 2 (.mv (.val (.bool false)))])
 (.seq (.ops [iO 3 (.load true 7 1), iC 4 20 [3], iO 5 (.bin .leq .int 4 (aI 40)), iO 2 (.mv 5)])
 (.ret))
def f19 (G : Nat → AVal) : AFn := ⟨6, [.tmp 2], f19m G⟩
theorem f19_c (G : Nat → AVal) : cmpFn Tryz.prog G [] 19 = some (f19 G) := by kernel_rfl
def f14m (G : Nat → AVal) : MC :=
 .seq (.ops [iO 1 (.box true 18 0), iO 2 (.mv (aS []))])
 (.seq (.seq (.ops [iO 4 (.faddr 0 1), iO 5 (.load false 1 4)])
 (.block 0
 (.seq (.ops [iO 7 (.bin .eql .int 5 (aI 1)), iO 6 (.mv 7)])
 (.cond 6
 (.seq (.draw (.rd [⟨0, iO 8 (.faddr 1 1), false, true⟩, ⟨1, iO 9 (.load false 1 8), false, true⟩, ⟨2, iO 10 (.bin .add .int (aS [67, 82, 69, 65, 84, 69, 32, 84, 65, 66, 76, 69, 32]) 9), false, true⟩, ⟨3, iO 11 (.bin .add .int 10 (aS [32, 40])), false, true⟩, ⟨4, iO 12 (.faddr 3 1), false, false⟩, ⟨5, iO 13 (.load false 1 12), false, false⟩]
 (.ef ⟨6, iC 14 31 [13, (.val (.clo (.func 32) [] []))], true, false⟩ [0, 1, 2, 3]
 (.rd [⟨7, iO 15 (.bin .add .int 11 14), false, false⟩, ⟨8, iO 16 (.bin .add .int 15 (aS [41])), false, false⟩, ⟨9, iO 2 (.mv 16), false, false⟩]
 (.nil)))))
 (.ret))
 (.seq (.ops [iO 18 (.bin .eql .int 5 (aI 2)), iO 17 (.mv 18)])
 (.cond 17
 (.seq (.ops [iO 19 (.faddr 1 1), iO 20 (.load false 1 19), iO 21 (.bin .add .int (aS [68, 82, 79, 80, 32, 84, 65, 66, 76, 69, 32]) 20), iO 2 (.mv 21)])
 (.ret))
 (.seq (.ops [iO 23 (.bin .eql .int 5 (aI 3)), iO 22 (.mv 23)])
 (.cond 22
 (.seq (.ops [iO 3 (.mv (aS [67, 82, 69, 65, 84, 69, 32, 73, 78, 68, 69, 88, 32]))])
 (.seq (.seq (.ops [iO 24 (.faddr 5 1), iO 25 (.load false 1 24)])
 (.cond 25
 (.ops [iO 3 (.mv (aS [67, 82, 69, 65, 84, 69, 32, 85, 78, 73, 81, 85, 69, 32, 73, 78, 68, 69, 88, 32]))])
 (.skip)))
 (.seq (.draw (.rd [⟨0, iO 26 (.mv 3), false, true⟩, ⟨1, iO 27 (.faddr 2 1), false, true⟩, ⟨2, iO 28 (.load false 1 27), false, true⟩, ⟨3, iO 29 (.bin .add .int 26 28), false, true⟩, ⟨4, iO 30 (.bin .add .int 29 (aS [32, 79, 78, 32])), false, true⟩, ⟨5, iO 31 (.faddr 1 1), false, true⟩, ⟨6, iO 32 (.load false 1 31), false, true⟩, ⟨7, iO 33 (.bin .add .int 30 32), false, true⟩, ⟨8, iO 34 (.bin .add .int 33 (aS [32, 40])), false, true⟩, ⟨9, iO 35 (.faddr 4 1), false, false⟩, ⟨10, iO 36 (.load false 1 35), false, false⟩]
 (.ef ⟨11, iC 37 33 [36, (aS [44, 32])], true, false⟩ [0, 1, 2, 3, 4, 5, 6, 7, 8]
 (.rd [⟨12, iO 38 (.bin .add .int 34 37), false, false⟩, ⟨13, iO 39 (.bin .add .int 38 (aS [41])), false, false⟩, ⟨14, iO 2 (.mv 39), false, false⟩]
 (.nil)))))
 (.ret))))
 (.seq (.ops [iO 41 (.bin .eql .int 5 (aI 4)), iO 40 (.mv 41)])
 (.cond 40
 (.seq (.ops [iO 42 (.faddr 2 1), iO 43 (.load false 1 42), iO 44 (.bin .add .int (aS [68, 82, 79, 80, 32, 73, 78, 68, 69, 88, 32]) 43), iO 2 (.mv 44)])
 (.ret))
 (.seq (.ops [iO 46 (.bin .eql .int 5 (aI 5)), iO 45 (.mv 46)])
 (.cond 45
 (.seq (.draw (.rd [⟨0, iO 47 (.faddr 1 1), false, true⟩, ⟨1, iO 48 (.load false 1 47), false, true⟩, ⟨2, iO 49 (.bin .add .int (aS [73, 78, 83, 69, 82, 84, 32, 73, 78, 84, 79, 32]) 48), false, true⟩, ⟨3, iO 50 (.bin .add .int 49 (aS [32, 86, 65, 76, 85, 69, 83, 32])), false, true⟩, ⟨4, iO 51 (.faddr 6 1), false, false⟩, ⟨5, iO 52 (.load false 1 51), false, false⟩]
 (.ef ⟨6, iC 53 34 [52, (.val (.clo (.func 35) [] []))], true, false⟩ [0, 1, 2, 3]
 (.rd [⟨7, iO 54 (.bin .add .int 50 53), false, false⟩, ⟨8, iO 2 (.mv 54), false, false⟩]
 (.nil)))))
 (.ret))
 (.seq (.ops [iO 56 (.bin .eql .int 5 (aI 6)), iO 55 (.mv 56)])
 (.cond 55
 (.seq (.ops [iO 57 (.load true 18 1), iC 58 38 [57], iO 2 (.mv 58)])
 (.ret))
 (.seq (.ops [iO 60 (.bin .eql .int 5 (aI 7)), iO 59 (.mv 60)])
 (.cond 59
 (.seq (.draw (.rd [⟨0, iO 61 (.faddr 1 1), false, true⟩, ⟨1, iO 62 (.load false 1 61), false, true⟩, ⟨2, iO 63 (.bin .add .int (aS [85, 80, 68, 65, 84, 69, 32]) 62), false, true⟩, ⟨3, iO 64 (.bin .add .int 63 (aS [32, 83, 69, 84, 32])), false, true⟩, ⟨4, iO 65 (.faddr 17 1), false, false⟩, ⟨5, iO 66 (.load false 1 65), false, false⟩, ⟨8, iO 69 (.faddr 9 1), false, true⟩, ⟨9, iO 70 (.load true 7 69), false, true⟩]
 (.ef ⟨6, iC 67 39 [66, (.val (.clo (.func 40) [] []))], true, false⟩ [0, 1, 2, 3, 8, 9]
 (.rd [⟨7, iO 68 (.bin .add .int 64 67), false, true⟩]
 (.ef ⟨10, iC 71 41 [70], true, false⟩ [0, 1, 2, 3, 7]
 (.rd [⟨11, iO 72 (.bin .add .int 68 71), false, false⟩, ⟨12, iO 2 (.mv 72), false, false⟩]
 (.nil)))))))
 (.ret))
 (.seq (.ops [iO 74 (.bin .eql .int 5 (aI 8)), iO 73 (.mv 74)])
 (.cond 73
 (.seq (.draw (.rd [⟨0, iO 75 (.faddr 1 1), false, true⟩, ⟨1, iO 76 (.load false 1 75), false, true⟩, ⟨2, iO 77 (.bin .add .int (aS [68, 69, 76, 69, 84, 69, 32, 70, 82, 79, 77, 32]) 76), false, true⟩, ⟨3, iO 78 (.faddr 9 1), false, false⟩, ⟨4, iO 79 (.load true 7 78), false, false⟩]
 (.ef ⟨5, iC 80 41 [79], true, false⟩ [0, 1, 2]
 (.rd [⟨6, iO 81 (.bin .add .int 77 80), false, false⟩, ⟨7, iO 2 (.mv 81), false, false⟩]
 (.nil)))))
 (.ret))
 (.seq (.ops [iO 83 (.bin .eql .int 5 (aI 9)), iO 82 (.mv 83)])
 (.cond 82
 (.seq (.ops [iO 2 (.mv (aS [66, 69, 71, 73, 78]))])
 (.ret))
 (.seq (.ops [iO 85 (.bin .eql .int 5 (aI 10)), iO 84 (.mv 85)])
 (.cond 84
 (.seq (.ops [iO 2 (.mv (aS [67, 79, 77, 77, 73, 84]))])
 (.ret))
 (.skip)))))))))))))))))))))))
 (.seq (.ops [iO 2 (.mv (aS [82, 79, 76, 76, 66, 65, 67, 75]))])
 (.ret)))
def f14 (G : Nat → AVal) : AFn := ⟨86, [.tmp 2], f14m G⟩
theorem f14_c (G : Nat → AVal) : cmpFn Tryz.prog G [] 14 = some (f14 G) := by kernel_rfl
def f31b0 (G : Nat → AVal) : MC :=
 .seq (.ops [iO 11 (.bin .lss .int 10 9)])
 (.seq (.cond 11
 (.skip)
 (.exit 0))
 (.seq (.block 1
 (.seq (.ops [iO 12 (.iaddr 3 8 10), iO 13 (.load true 3 12), iO 7 (.alloc 3 [.str [], .int 0, .bool false]), iZ (.store true 3 7 13)])
 (.ops [iO 14 (.mv 5), iO 15 (.mv 1), iO 16 (.load true 3 7), ⟨some 17, none, .callV 15 [16]⟩, iO 18 (.bslice false 1 1 [.str []] [(0, 17)]), iO 19 (.append 1 16 14 18), iO 5 (.mv 19)])))
 (.ops [iO 20 (.bin .add .int 10 (aI 1)), iO 10 (.mv 20)])))
def f31m (G : Nat → AVal) : MC :=
 .seq (.ops [iO 4 (.mv (aS []))])
 (.seq (.ops [iO 5 (.mv (.val .nilS))])
 (.seq (.seq (.ops [iO 8 (.mv 0), iO 9 (.lenS 8), iO 10 (.mv (aI 0))])
 (.block 0
 (.loop (f31b0 G))))
 (.seq (.ops [iO 21 (.mv 5), iC 22 33 [21, (aS [44, 32])], iO 4 (.mv 22)])
 (.ret))))
def f31 (G : Nat → AVal) : AFn := ⟨23, [.tmp 4], f31m G⟩
theorem f31_c (G : Nat → AVal) : cmpFn Tryz.prog G [] 31 = some (f31 G) := by kernel_rfl
def f32m (G : Nat → AVal) : MC :=
 .seq (.ops [iO 1 (.box true 3 0), iO 2 (.mv (aS []))])
 (.seq (.draw (.rd [⟨0, iO 4 (.faddr 0 1), false, false⟩, ⟨1, iO 5 (.load false 1 4), false, false⟩, ⟨2, iO 6 (.bin .add .int 5 (aS [32])), false, false⟩, ⟨3, iO 7 (.build [.str [], .str [], .str [], .str [], .str []] [(false, 0, 1, (aS [])), (false, 1, 1, (aS [66, 79, 79, 76])), (false, 2, 1, (aS [73, 78, 84])), (false, 3, 1, (aS [82, 69, 65, 76])), (false, 4, 1, (aS [84, 69, 88, 84]))]), false, false⟩, ⟨4, iO 8 (.faddr 1 1), false, false⟩, ⟨5, iO 9 (.load false 1 8), false, false⟩, ⟨6, iO 10 (.idxA 5 false 1 7 9), false, false⟩, ⟨7, iO 11 (.bin .add .int 6 10), false, false⟩, ⟨8, iO 3 (.mv 11), false, false⟩]
 (.nil)))
 (.seq (.seq (.ops [iO 12 (.faddr 2 1), iO 13 (.load false 1 12)])
 (.cond 13
 (.ops [iO 14 (.mv 3), iO 15 (.bin .add .int 14 (aS [32, 78, 79, 84, 32, 78, 85, 76, 76])), iO 3 (.mv 15)])
 (.skip)))
 (.seq (.ops [iO 16 (.mv 3), iO 2 (.mv 16)])
 (.ret))))
def f32 (G : Nat → AVal) : AFn := ⟨17, [.tmp 2], f32m G⟩
theorem f32_c (G : Nat → AVal) : cmpFn Tryz.prog G [] 32 = some (f32 G) := by kernel_rfl
def f34b0 (G : Nat → AVal) : MC :=
 .seq (.ops [iO 11 (.bin .lss .int 10 9)])
 (.seq (.cond 11
 (.skip)
 (.exit 0))
 (.seq (.block 1
 (.seq (.ops [iO 12 (.iaddr 1 8 10), iO 13 (.load false 1 12), iO 7 (.mv 13)])
 (.ops [iO 14 (.mv 5), iO 15 (.mv 1), iO 16 (.mv 7), ⟨some 17, none, .callV 15 [16]⟩, iO 18 (.bslice false 1 1 [.str []] [(0, 17)]), iO 19 (.append 1 16 14 18), iO 5 (.mv 19)])))
 (.ops [iO 20 (.bin .add .int 10 (aI 1)), iO 10 (.mv 20)])))
def f34m (G : Nat → AVal) : MC :=
 .seq (.ops [iO 4 (.mv (aS []))])
 (.seq (.ops [iO 5 (.mv (.val .nilS))])
 (.seq (.seq (.ops [iO 8 (.mv 0), iO 9 (.lenS 8), iO 10 (.mv (aI 0))])
 (.block 0
 (.loop (f34b0 G))))
 (.seq (.ops [iO 21 (.mv 5), iC 22 33 [21, (aS [44, 32])], iO 4 (.mv 22)])
 (.ret))))
def f34 (G : Nat → AVal) : AFn := ⟨23, [.tmp 4], f34m G⟩
theorem f34_c (G : Nat → AVal) : cmpFn Tryz.prog G [] 34 = some (f34 G) := by kernel_rfl
def f35m (G : Nat → AVal) : MC :=
 .seq (.ops [iO 2 (.mv (aS []))])
 (.seq (.ops [iO 3 (.mv 0), iC 4 36 [3, (.val (.clo (.func 37) [] []))], iO 5 (.bin .add .int (aS [40]) 4), iO 6 (.bin .add .int 5 (aS [41])), iO 2 (.mv 6)])
 (.ret))
def f35 (G : Nat → AVal) : AFn := ⟨7, [.tmp 2], f35m G⟩
theorem f35_c (G : Nat → AVal) : cmpFn Tryz.prog G [] 35 = some (f35 G) := by kernel_rfl
def f36b0 (G : Nat → AVal) : MC :=
 .seq (.ops [iO 11 (.bin .lss .int 10 9)])
 (.seq (.cond 11
 (.skip)
 (.exit 0))
 (.seq (.block 1
 (.seq (.ops [iO 12 (.iaddr 7 8 10), iO 13 (.load true 7 12), iO 7 (.alloc 7 [.int 0, .nilS, .int 0, .int 0, .int 0, .str [], .str []]), iZ (.store true 7 7 13)])
 (.ops [iO 14 (.mv 5), iO 15 (.mv 1), iO 16 (.load true 7 7), ⟨some 17, none, .callV 15 [16]⟩, iO 18 (.bslice false 1 1 [.str []] [(0, 17)]), iO 19 (.append 1 16 14 18), iO 5 (.mv 19)])))
 (.ops [iO 20 (.bin .add .int 10 (aI 1)), iO 10 (.mv 20)])))
def f36m (G : Nat → AVal) : MC :=
 .seq (.ops [iO 4 (.mv (aS []))])
 (.seq (.ops [iO 5 (.mv (.val .nilS))])
 (.seq (.seq (.ops [iO 8 (.mv 0), iO 9 (.lenS 8), iO 10 (.mv (aI 0))])
 (.block 0
 (.loop (f36b0 G))))
 (.seq (.ops [iO 21 (.mv 5), iC 22 33 [21, (aS [44, 32])], iO 4 (.mv 22)])
 (.ret))))
def f36 (G : Nat → AVal) : AFn := ⟨23, [.tmp 4], f36m G⟩
theorem f36_c (G : Nat → AVal) : cmpFn Tryz.prog G [] 36 = some (f36 G) := by kernel_rfl
def f39b0 (G : Nat → AVal) : MC :=
 .seq (.ops [iO 11 (.bin .lss .int 10 9)])
 (.seq (.cond 11
 (.skip)
 (.exit 0))
 (.seq (.block 1
 (.seq (.ops [iO 12 (.iaddr 8 8 10), iO 13 (.load true 8 12), iO 7 (.alloc 8 [.str [], .int 0, .nilS, .int 0, .int 0, .int 0, .str [], .str []]), iZ (.store true 8 7 13)])
 (.ops [iO 14 (.mv 5), iO 15 (.mv 1), iO 16 (.load true 8 7), ⟨some 17, none, .callV 15 [16]⟩, iO 18 (.bslice false 1 1 [.str []] [(0, 17)]), iO 19 (.append 1 16 14 18), iO 5 (.mv 19)])))
 (.ops [iO 20 (.bin .add .int 10 (aI 1)), iO 10 (.mv 20)])))
def f39m (G : Nat → AVal) : MC :=
 .seq (.ops [iO 4 (.mv (aS []))])
 (.seq (.ops [iO 5 (.mv (.val .nilS))])
 (.seq (.seq (.ops [iO 8 (.mv 0), iO 9 (.lenS 8), iO 10 (.mv (aI 0))])
 (.block 0
 (.loop (f39b0 G))))
 (.seq (.ops [iO 21 (.mv 5), iC 22 33 [21, (aS [44, 32])], iO 4 (.mv 22)])
 (.ret))))
def f39 (G : Nat → AVal) : AFn := ⟨23, [.tmp 4], f39m G⟩
theorem f39_c (G : Nat → AVal) : cmpFn Tryz.prog G [] 39 = some (f39 G) := by kernel_rfl
def f40m (G : Nat → AVal) : MC :=
 .seq (.ops [iO 1 (.box true 8 0), iO 2 (.mv (aS []))])
 (.seq (.draw (.rd [⟨0, iO 3 (.faddr 0 1), false, true⟩, ⟨1, iO 4 (.load false 1 3), false, true⟩, ⟨2, iO 5 (.bin .add .int 4 (aS [32, 61, 32])), false, true⟩, ⟨3, iO 6 (.faddr 1 1), false, false⟩, ⟨4, iO 7 (.load true 7 6), false, false⟩]
 (.ef ⟨5, iC 8 37 [7], true, false⟩ [0, 1, 2]
 (.rd [⟨6, iO 9 (.bin .add .int 5 8), false, false⟩, ⟨7, iO 2 (.mv 9), false, false⟩]
 (.nil)))))
 (.ret))
def f40 (G : Nat → AVal) : AFn := ⟨10, [.tmp 2], f40m G⟩
theorem f40_c (G : Nat → AVal) : cmpFn Tryz.prog G [] 40 = some (f40 G) := by kernel_rfl
def f38b0 (G : Nat → AVal) : MC :=
 .seq (.ops [iO 18 (.bin .lss .int 17 16)])
 (.seq (.cond 18
 (.skip)
 (.exit 0))
 (.seq (.block 1
 (.seq (.ops [iO 19 (.mv 17), iO 20 (.iaddr 9 15 17), iO 21 (.load true 9 20), iO 5 (.alloc 9 [.str [], .str [], .int 0, .nilS, .int 0, .int 0, .int 0, .str [], .str []]), iO 4 (.mv 19), iZ (.store true 9 5 21)])
 (.seq (.ops [iO 22 (.mv 4), iO 23 (.bin .eql .int 22 (aI 0))])
 (.cond 23
 (.ops [iO 24 (.mv 3), iO 25 (.faddr 0 5), iO 26 (.load false 1 25), iO 27 (.faddr 1 5), iO 28 (.load false 1 27), iC 29 94 [26, 28], iO 30 (.bin .add .int (aS [32, 70, 82, 79, 77, 32]) 29), iO 31 (.bin .add .int 24 30), iO 3 (.mv 31)])
 (.draw (.rd [⟨0, iO 32 (.mv 3), false, true⟩, ⟨1, iO 33 (.faddr 0 5), false, false⟩, ⟨2, iO 34 (.load false 1 33), false, false⟩, ⟨3, iO 35 (.faddr 1 5), false, false⟩, ⟨4, iO 36 (.load false 1 35), false, false⟩, ⟨8, iO 40 (.faddr 2 5), false, true⟩, ⟨9, iO 41 (.load true 7 40), false, true⟩]
 (.ef ⟨5, iC 37 94 [34, 36], true, false⟩ [0, 8, 9]
 (.rd [⟨6, iO 38 (.bin .add .int (aS [32, 73, 78, 78, 69, 82, 32, 74, 79, 73, 78, 32]) 37), false, true⟩, ⟨7, iO 39 (.bin .add .int 38 (aS [32, 79, 78, 32])), false, true⟩]
 (.ef ⟨10, iC 42 37 [41], true, false⟩ [0, 6, 7]
 (.rd [⟨11, iO 43 (.bin .add .int 39 42), false, false⟩, ⟨12, iO 44 (.bin .add .int 32 43), false, false⟩, ⟨13, iO 3 (.mv 44), false, false⟩]
 (.nil)))))))))))
 (.ops [iO 45 (.bin .add .int 17 (aI 1)), iO 17 (.mv 45)])))
def f38m (G : Nat → AVal) : MC :=
 .seq (.ops [iO 1 (.box true 18 0), iO 2 (.mv (aS []))])
 (.seq (.ops [iO 3 (.mv (aS [83, 69, 76, 69, 67, 84, 32, 42]))])
 (.seq (.seq (.ops [iO 6 (.faddr 7 1), iO 7 (.load false 1 6), iO 8 (.lenS 7), iO 9 (.bin .gtr .int 8 (aI 0))])
 (.cond 9
 (.ops [iO 10 (.faddr 7 1), iO 11 (.load false 1 10), iC 12 92 [11, (.val (.clo (.func 93) [] []))], iO 13 (.bin .add .int (aS [83, 69, 76, 69, 67, 84, 32]) 12), iO 3 (.mv 13)])
 (.skip)))
 (.seq (.seq (.ops [iO 14 (.faddr 8 1), iO 15 (.load false 1 14), iO 16 (.lenS 15), iO 17 (.mv (aI 0))])
 (.block 0
 (.loop (f38b0 G))))
 (.seq (.ops [iO 46 (.mv 3), iO 47 (.faddr 9 1), iO 48 (.load true 7 47), iC 49 41 [48], iO 50 (.bin .add .int 46 49), iO 3 (.mv 50)])
 (.seq (.seq (.ops [iO 51 (.faddr 16 1), iO 52 (.load false 1 51), iO 53 (.lenS 52), iO 54 (.bin .gtr .int 53 (aI 0))])
 (.cond 54
 (.ops [iO 55 (.mv 3), iO 56 (.faddr 16 1), iO 57 (.load false 1 56), iC 58 95 [57, (.val (.clo (.func 96) [] []))], iO 59 (.bin .add .int (aS [32, 79, 82, 68, 69, 82, 32, 66, 89, 32]) 58), iO 60 (.bin .add .int 55 59), iO 3 (.mv 60)])
 (.skip)))
 (.seq (.ops [iO 61 (.mv 3), iO 2 (.mv 61)])
 (.ret)))))))
def f38 (G : Nat → AVal) : AFn := ⟨62, [.tmp 2], f38m G⟩
theorem f38_c (G : Nat → AVal) : cmpFn Tryz.prog G [] 38 = some (f38 G) := by kernel_rfl
def f92b0 (G : Nat → AVal) : MC :=
 .seq (.ops [iO 11 (.bin .lss .int 10 9)])
 (.seq (.cond 11
 (.skip)
 (.exit 0))
 (.seq (.block 1
 (.seq (.ops [iO 12 (.iaddr 8 8 10), iO 13 (.load true 8 12), iO 7 (.alloc 8 [.int 0, .nilS, .int 0, .int 0, .int 0, .str [], .str [], .str []]), iZ (.store true 8 7 13)])
 (.ops [iO 14 (.mv 5), iO 15 (.mv 1), iO 16 (.load true 8 7), ⟨some 17, none, .callV 15 [16]⟩, iO 18 (.bslice false 1 1 [.str []] [(0, 17)]), iO 19 (.append 1 16 14 18), iO 5 (.mv 19)])))
 (.ops [iO 20 (.bin .add .int 10 (aI 1)), iO 10 (.mv 20)])))
def f92m (G : Nat → AVal) : MC :=
 .seq (.ops [iO 4 (.mv (aS []))])
 (.seq (.ops [iO 5 (.mv (.val .nilS))])
 (.seq (.seq (.ops [iO 8 (.mv 0), iO 9 (.lenS 8), iO 10 (.mv (aI 0))])
 (.block 0
 (.loop (f92b0 G))))
 (.seq (.ops [iO 21 (.mv 5), iC 22 33 [21, (aS [44, 32])], iO 4 (.mv 22)])
 (.ret))))
def f92 (G : Nat → AVal) : AFn := ⟨23, [.tmp 4], f92m G⟩
theorem f92_c (G : Nat → AVal) : cmpFn Tryz.prog G [] 92 = some (f92 G) := by kernel_rfl
def f93m (G : Nat → AVal) : MC :=
 .seq (.ops [iO 1 (.box true 8 0), iO 2 (.mv (aS []))])
 (.seq (.draw (.rd [⟨0, iO 3 (.faddr 0 1), false, false⟩, ⟨1, iO 4 (.load true 7 3), false, false⟩, ⟨3, iO 6 (.faddr 7 1), false, true⟩, ⟨4, iO 7 (.load false 1 6), false, true⟩]
 (.ef ⟨2, iC 5 37 [4], true, false⟩ [3, 4]
 (.ef ⟨5, iC 8 94 [5, 7], true, false⟩ []
 (.rd [⟨6, iO 2 (.mv 8), false, false⟩]
 (.nil))))))
 (.ret))
def f93 (G : Nat → AVal) : AFn := ⟨9, [.tmp 2], f93m G⟩
theorem f93_c (G : Nat → AVal) : cmpFn Tryz.prog G [] 93 = some (f93 G) := by kernel_rfl
def f94m (G : Nat → AVal) : MC :=
 .seq (.ops [iO 4 (.mv (aS []))])
 (.seq (.seq (.ops [iO 5 (.mv 1), iO 6 (.bin .eql .str 5 (aS []))])
 (.cond 6
 (.seq (.ops [iO 7 (.mv 0), iO 4 (.mv 7)])
 (.ret))
 (.skip)))
 (.seq (.ops [iO 8 (.mv 0), iO 9 (.bin .add .int 8 (aS [32, 65, 83, 32])), iO 10 (.mv 1), iO 11 (.bin .add .int 9 10), iO 4 (.mv 11)])
 (.ret)))
def f94 (G : Nat → AVal) : AFn := ⟨12, [.tmp 4], f94m G⟩
theorem f94_c (G : Nat → AVal) : cmpFn Tryz.prog G [] 94 = some (f94 G) := by kernel_rfl
def f95b0 (G : Nat → AVal) : MC :=
 .seq (.ops [iO 11 (.bin .lss .int 10 9)])
 (.seq (.cond 11
 (.skip)
 (.exit 0))
 (.seq (.block 1
 (.seq (.ops [iO 12 (.iaddr 8 8 10), iO 13 (.load true 8 12), iO 7 (.alloc 8 [.int 0, .nilS, .int 0, .int 0, .int 0, .str [], .str [], .bool false]), iZ (.store true 8 7 13)])
 (.ops [iO 14 (.mv 5), iO 15 (.mv 1), iO 16 (.load true 8 7), ⟨some 17, none, .callV 15 [16]⟩, iO 18 (.bslice false 1 1 [.str []] [(0, 17)]), iO 19 (.append 1 16 14 18), iO 5 (.mv 19)])))
 (.ops [iO 20 (.bin .add .int 10 (aI 1)), iO 10 (.mv 20)])))
def f95m (G : Nat → AVal) : MC :=
 .seq (.ops [iO 4 (.mv (aS []))])
 (.seq (.ops [iO 5 (.mv (.val .nilS))])
 (.seq (.seq (.ops [iO 8 (.mv 0), iO 9 (.lenS 8), iO 10 (.mv (aI 0))])
 (.block 0
 (.loop (f95b0 G))))
 (.seq (.ops [iO 21 (.mv 5), iC 22 33 [21, (aS [44, 32])], iO 4 (.mv 22)])
 (.ret))))
def f95 (G : Nat → AVal) : AFn := ⟨23, [.tmp 4], f95m G⟩
theorem f95_c (G : Nat → AVal) : cmpFn Tryz.prog G [] 95 = some (f95 G) := by kernel_rfl
def f96m (G : Nat → AVal) : MC :=
 .seq (.ops [iO 1 (.box true 8 0), iO 2 (.mv (aS []))])
 (.seq (.seq (.ops [iO 3 (.faddr 7 1), iO 4 (.load false 1 3)])
 (.cond 4
 (.seq (.ops [iO 5 (.faddr 0 1), iO 6 (.load true 7 5), iC 7 37 [6], iO 8 (.bin .add .int 7 (aS [32, 68, 69, 83, 67])), iO 2 (.mv 8)])
 (.ret))
 (.skip)))
 (.seq (.ops [iO 9 (.faddr 0 1), iO 10 (.load true 7 9), iC 11 37 [10], iO 2 (.mv 11)])
 (.ret)))
def f96 (G : Nat → AVal) : AFn := ⟨12, [.tmp 2], f96m G⟩
theorem f96_c (G : Nat → AVal) : cmpFn Tryz.prog G [] 96 = some (f96 G) := by kernel_rfl
def f41m (G : Nat → AVal) : MC :=
 .seq (.ops [iO 1 (.box true 7 0), iO 2 (.mv (aS []))])
 (.seq (.seq (.ops [iO 3 (.faddr 0 1), iO 4 (.load false 1 3), iO 5 (.bin .eql .int 4 (aI 0))])
 (.cond 5
 (.seq (.ops [iO 2 (.mv (aS []))])
 (.ret))
 (.skip)))
 (.seq (.ops [iO 6 (.load true 7 1), iC 7 37 [6], iO 8 (.bin .add .int (aS [32, 87, 72, 69, 82, 69, 32]) 7), iO 2 (.mv 8)])
 (.ret)))
def f41 (G : Nat → AVal) : AFn := ⟨9, [.tmp 2], f41m G⟩
theorem f41_c (G : Nat → AVal) : cmpFn Tryz.prog G [] 41 = some (f41 G) := by kernel_rfl
def f8m (G : Nat → AVal) : MC :=
 .seq (.ops [iO 1 (.box true 18 0), iO 2 (.mv (aS [])), iO 3 (.mv (aI 0))])
 (.seq (.seq (.ops [iO 6 (.load true 18 1), iC 7 10 [6], iO 4 (.mv 7)])
 (.seq (.ops [iO 8 (.mv 4), iO 9 (.bin .neq .int 8 (aI 0))])
 (.cond 9
 (.seq (.ops [iO 10 (.mv 4), iO 2 (.mv (aS [])), iO 3 (.mv 10)])
 (.ret))
 (.skip))))
 (.seq (.ops [iO 11 (.load true 18 1), iC 12 14 [11], iO 5 (.mv 12)])
 (.seq (.seq (.ops [iO 13 (.mv 5), iO 14 (.lenStr 13), iO 15 (.bin .gtr .int 14 (aI 4000))])
 (.cond 15
 (.seq (.ops [iO 2 (.mv (aS [])), iO 3 (.mv (aI 1))])
 (.ret))
 (.skip)))
 (.seq (.ops [iO 16 (.mv 5), iO 2 (.mv 16), iO 3 (.mv (aI 0))])
 (.ret)))))
def f8 (G : Nat → AVal) : AFn := ⟨17, [.tmp 2, .tmp 3], f8m G⟩
theorem f8_c (G : Nat → AVal) : cmpFn Tryz.prog G [] 8 = some (f8 G) := by kernel_rfl
end Go.Abs
namespace Go.Abs
open Go Go.RowKit Go.Proofs
def f3m (G : Nat → AVal) : MC :=
 .seq (.ops [iO 1 (.box true 18 0), iO 2 (.mv (.val (.bool false)))])
 (.seq (.seq (.ops [iC 7 7 [], iO 8 (.un .not 7)])
 (.cond 8
 (.seq (.ops [iO 2 (.mv (.val (.bool false)))])
 (.ret))
 (.skip)))
 (.seq (.ops [iO 10 (.load true 18 1), iC 11 8 [10], iO 9 (.mv 11), iO 12 (.extract 9 0), iO 13 (.extract 9 1), iO 3 (.mv 12), iO 4 (.mv 13)])
 (.seq (.ops [iO 15 (.load true 18 1), iC 16 9 [15], iO 14 (.mv 16), iO 17 (.extract 14 0), iO 18 (.extract 14 1), iO 5 (.mv 17), iO 6 (.mv 18)])
 (.seq (.draw (.rd [⟨0, iO 19 (.mv 3), false, false⟩, ⟨1, iO 20 (.mv 5), false, false⟩, ⟨2, iO 21 (.bin .eql .str 19 20), false, false⟩, ⟨3, iO 22 (.mv 21), false, false⟩, ⟨4, iG 23 22 true (.mv 4), false, false⟩, ⟨5, iG 24 22 true (.mv 6), false, false⟩, ⟨6, iG 25 22 true (.bin .eql .int 23 24), false, false⟩, ⟨7, iO 26 (.pick 22 25 (.val (.bool false))), false, false⟩, ⟨8, iO 27 (.mv 26), false, false⟩, ⟨9, iG 28 27 true (.load true 18 1), false, false⟩, ⟨11, iG 30 27 true (.load true 18 1), false, true⟩]
 (.ef ⟨10, ⟨some 29, some (27, true), .call 10 [28]⟩, true, false⟩ [11]
 (.ef ⟨12, ⟨some 31, some (27, true), .call 11 [30]⟩, true, false⟩ []
 (.rd [⟨13, iG 32 27 true (.bin .eql .int 29 31), false, false⟩, ⟨14, iO 33 (.pick 27 32 (.val (.bool false))), false, false⟩, ⟨15, iO 2 (.mv 33), false, false⟩]
 (.nil))))))
 (.ret)))))
def f3 (G : Nat → AVal) : AFn := ⟨34, [.tmp 2], f3m G⟩
theorem f3_c (G : Nat → AVal) : cmpFn Tryz.prog G [] 3 = some (f3 G) := by kernel_rfl
def f4m (G : Nat → AVal) : MC :=
 .seq (.ops [iO 1 (.box true 18 0), iO 2 (.mv (.val (.bool false)))])
 (.seq (.seq (.ops [iC 6 7 [], iO 7 (.un .not 6)])
 (.cond 7
 (.seq (.ops [iO 2 (.mv (.val (.bool false)))])
 (.ret))
 (.skip)))
 (.seq (.ops [iO 9 (.load true 18 1), iC 10 8 [9], iO 8 (.mv 10), iO 11 (.extract 8 0), iO 12 (.extract 8 1), iO 3 (.mv 11), iO 4 (.mv 12)])
 (.seq (.seq (.ops [iO 13 (.mv 4), iO 14 (.bin .neq .int 13 (aI 0))])
 (.cond 14
 (.seq (.ops [iO 15 (.mv 3), iO 16 (.bin .eql .str 15 (aS [])), iO 17 (.mv 16), iG 18 17 true (.load true 18 1), ⟨some 19, some (17, true), .call 10 [18]⟩, iG 20 17 true (.bin .neq .int 19 (aI 0)), iO 21 (.pick 17 20 (.val (.bool false))), iO 22 (.mv 21), iG 23 22 false (.mv 4), iG 24 22 false (.bin .eql .int 23 (aI 1)), iO 25 (.pick 22 (.val (.bool true)) 24), iO 2 (.mv 25)])
 (.ret))
 (.skip)))
 (.seq (.ops [iO 27 (.mv 3), iC 28 12 [27], iO 26 (.mv 28), iO 29 (.extract 26 0), iO 30 (.extract 26 1), iO 5 (.alloc 18 [.int 0, .str [], .str [], .nilS, .nilS, .bool false, .nilS, .nilS, .nilS, .int 0, .nilS, .int 0, .int 0, .int 0, .str [], .str [], .nilS, .nilS]), iZ (.store true 18 5 29), iO 4 (.mv 30)])
 (.seq (.ops [iO 31 (.mv 4), iO 32 (.bin .eql .int 31 (aI 0)), iO 33 (.mv 32), iG 34 33 true (.load true 18 5), iG 35 33 true (.load true 18 1), ⟨some 36, some (33, true), .call 13 [34, 35]⟩, iO 37 (.pick 33 36 (.val (.bool false))), iO 2 (.mv 37)])
 (.ret))))))
def f4 (G : Nat → AVal) : AFn := ⟨38, [.tmp 2], f4m G⟩
def f5m (G : Nat → AVal) : MC :=
 .seq (.ops [iO 2 (.mv (.val (.bool false)))])
 (.seq (.seq (.ops [iC 9 7 [], iO 10 (.un .not 9)])
 (.cond 10
 (.seq (.ops [iO 2 (.mv (.val (.bool false)))])
 (.ret))
 (.skip)))
 (.seq (.ops [iO 12 (.mv 0), iC 13 12 [12], iO 11 (.mv 13), iO 14 (.extract 11 0), iO 15 (.extract 11 1), iO 3 (.alloc 18 [.int 0, .str [], .str [], .nilS, .nilS, .bool false, .nilS, .nilS, .nilS, .int 0, .nilS, .int 0, .int 0, .int 0, .str [], .str [], .nilS, .nilS]), iZ (.store true 18 3 14), iO 4 (.mv 15)])
 (.seq (.seq (.ops [iO 16 (.mv 4), iO 17 (.bin .neq .int 16 (aI 0))])
 (.cond 17
 (.seq (.ops [iO 18 (.load true 18 3), iO 19 (.build [.int 0, .str [], .str [], .nilS, .nilS, .bool false, .nilS, .nilS, .nilS, .int 0, .nilS, .int 0, .int 0, .int 0, .str [], .str [], .nilS, .nilS] []), iC 20 13 [18, 19], iO 2 (.mv 20)])
 (.ret))
 (.skip)))
 (.seq (.seq (.ops [iO 21 (.load true 18 3), iC 22 10 [21], iO 23 (.bin .neq .int 22 (aI 0))])
 (.cond 23
 (.seq (.ops [iO 2 (.mv (.val (.bool false)))])
 (.ret))
 (.skip)))
 (.seq (.ops [iO 25 (.load true 18 3), iC 26 8 [25], iO 24 (.mv 26), iO 27 (.extract 24 0), iO 28 (.extract 24 1), iO 5 (.mv 27), iO 4 (.mv 28)])
 (.seq (.seq (.ops [iO 29 (.mv 4), iO 30 (.bin .neq .int 29 (aI 0))])
 (.cond 30
 (.seq (.ops [iO 31 (.mv 4), iO 32 (.bin .eql .int 31 (aI 1)), iO 2 (.mv 32)])
 (.ret))
 (.skip)))
 (.seq (.ops [iO 34 (.mv 5), iC 35 12 [34], iO 33 (.mv 35), iO 36 (.extract 33 0), iO 37 (.extract 33 1), iO 6 (.alloc 18 [.int 0, .str [], .str [], .nilS, .nilS, .bool false, .nilS, .nilS, .nilS, .int 0, .nilS, .int 0, .int 0, .int 0, .str [], .str [], .nilS, .nilS]), iZ (.store true 18 6 36), iO 4 (.mv 37)])
 (.seq (.ops [iO 39 (.load true 18 6), iC 40 8 [39], iO 38 (.mv 40), iO 41 (.extract 38 0), iO 42 (.extract 38 1), iO 7 (.mv 41), iO 8 (.mv 42)])
 (.seq (.ops [iO 43 (.mv 4), iO 44 (.bin .eql .int 43 (aI 0)), iO 45 (.mv 44), iG 46 45 true (.mv 8), iG 47 45 true (.bin .eql .int 46 (aI 0)), iO 48 (.pick 45 47 (.val (.bool false))), iO 49 (.mv 48), iG 50 49 true (.mv 7), iG 51 49 true (.mv 5), iG 52 49 true (.bin .eql .str 50 51), iO 53 (.pick 49 52 (.val (.bool false))), iO 54 (.mv 53), iG 55 54 true (.load true 18 6), iG 56 54 true (.load true 18 3), ⟨some 57, some (54, true), .call 13 [55, 56]⟩, iO 58 (.pick 54 57 (.val (.bool false))), iO 2 (.mv 58)])
 (.ret))))))))))
def f5 (G : Nat → AVal) : AFn := ⟨59, [.tmp 2], f5m G⟩
def f6m (G : Nat → AVal) : MC :=
 .seq (.ops [iO 1 (.box true 7 0), iO 2 (.mv (.val (.bool false)))])
 (.seq (.seq (.ops [iC 13 7 [], iO 14 (.un .not 13)])
 (.cond 14
 (.seq (.ops [iO 2 (.mv (.val (.bool false)))])
 (.ret))
 (.skip)))
 (.seq (.draw (.rd [⟨0, iO 15 (.build [.int 0, .str [], .str [], .nilS, .nilS, .bool false, .nilS, .nilS, .nilS, .int 0, .nilS, .int 0, .int 0, .int 0, .str [], .str [], .nilS, .nilS] [(false, 0, 1, (aI 8)), (false, 1, 1, (aS [116]))]), false, true⟩, ⟨1, iO 16 (.load true 7 1), false, true⟩, ⟨2, iO 17 (.build [.int 0, .str [], .str [], .nilS, .nilS, .bool false, .nilS, .nilS, .nilS, .int 0, .nilS, .int 0, .int 0, .int 0, .str [], .str [], .nilS, .nilS] [(false, 0, 1, (aI 8)), (false, 1, 1, (aS [116])), (true, 9, 7, 16)]), false, true⟩]
 (.or (.ef ⟨3, iO 3 (.alloc 18 [.int 0, .str [], .str [], .nilS, .nilS, .bool false, .nilS, .nilS, .nilS, .int 0, .nilS, .int 0, .int 0, .int 0, .str [], .str [], .nilS, .nilS]), true, false⟩ [0, 1, 2]
 (.ef ⟨4, iO 4 (.alloc 18 [.int 0, .str [], .str [], .nilS, .nilS, .bool false, .nilS, .nilS, .nilS, .int 0, .nilS, .int 0, .int 0, .int 0, .str [], .str [], .nilS, .nilS]), true, false⟩ [0, 1, 2]
 (.ef ⟨5, iZ (.store true 18 3 15), true, false⟩ [1, 2]
 (.ef ⟨6, iZ (.store true 18 4 17), true, false⟩ []
 (.nil)))))
 (.ef ⟨4, iO 4 (.alloc 18 [.int 0, .str [], .str [], .nilS, .nilS, .bool false, .nilS, .nilS, .nilS, .int 0, .nilS, .int 0, .int 0, .int 0, .str [], .str [], .nilS, .nilS]), true, false⟩ [0, 1, 2]
 (.ef ⟨3, iO 3 (.alloc 18 [.int 0, .str [], .str [], .nilS, .nilS, .bool false, .nilS, .nilS, .nilS, .int 0, .nilS, .int 0, .int 0, .int 0, .str [], .str [], .nilS, .nilS]), true, false⟩ [0, 1, 2]
 (.ef ⟨5, iZ (.store true 18 3 15), true, false⟩ [1, 2]
 (.ef ⟨6, iZ (.store true 18 4 17), true, false⟩ []
 (.nil))))))))
 (.seq (.ops [iO 18 (.load true 7 1), iO 19 (.build [.int 0, .nilS, .int 0, .int 0, .int 0, .str [], .str [], .str []] [(true, 0, 7, 18)]), iO 20 (.bslice true 8 1 [.int 0, .nilS, .int 0, .int 0, .int 0, .str [], .str [], .str []] [(0, 19)]), iO 21 (.build [.str [], .str [], .int 0, .nilS, .int 0, .int 0, .int 0, .str [], .str []] [(false, 0, 1, (aS [116]))]), iO 22 (.bslice true 9 1 [.str [], .str [], .int 0, .nilS, .int 0, .int 0, .int 0, .str [], .str []] [(0, 21)]), iO 23 (.build [.int 0, .str [], .str [], .nilS, .nilS, .bool false, .nilS, .nilS, .nilS, .int 0, .nilS, .int 0, .int 0, .int 0, .str [], .str [], .nilS, .nilS] [(false, 0, 1, (aI 6)), (false, 7, 1, 20), (false, 8, 1, 22)]), iO 5 (.alloc 18 [.int 0, .str [], .str [], .nilS, .nilS, .bool false, .nilS, .nilS, .nilS, .int 0, .nilS, .int 0, .int 0, .int 0, .str [], .str [], .nilS, .nilS]), iZ (.store true 18 5 23)])
 (.seq (.ops [iO 25 (.load true 18 3), iC 26 8 [25], iO 24 (.mv 26), iO 27 (.extract 24 0), iO 28 (.extract 24 1), iO 6 (.mv 27), iO 7 (.mv 28)])
 (.seq (.ops [iO 30 (.load true 18 4), iC 31 8 [30], iO 29 (.mv 31), iO 32 (.extract 29 0), iO 33 (.extract 29 1), iO 8 (.mv 32), iO 9 (.mv 33)])
 (.seq (.ops [iO 35 (.load true 18 5), iC 36 8 [35], iO 34 (.mv 36), iO 37 (.extract 34 0), iO 38 (.extract 34 1), iO 10 (.mv 37), iO 11 (.mv 38)])
 (.seq (.seq (.ops [iO 39 (.mv 9), iO 40 (.bin .neq .int 39 (aI 0)), iO 41 (.mv 40), iG 42 41 false (.mv 11), iG 43 41 false (.bin .neq .int 42 (aI 0)), iO 44 (.pick 41 (.val (.bool true)) 43), iO 45 (.mv 44), iG 46 45 false (.mv 7), iG 47 45 false (.bin .neq .int 46 (aI 0)), iO 48 (.pick 45 (.val (.bool true)) 47), iO 49 (.mv 48), iG 50 49 false (.mv 8), iG 51 49 false (.lenStr 50), iG 52 49 false (.mv 6), iG 53 49 false (.lenStr 52), iG 54 49 false (.bin .leq .int 51 53), iO 55 (.pick 49 (.val (.bool true)) 54)])
 (.cond 55
 (.seq (.ops [iO 56 (.mv 7), iO 57 (.bin .eql .int 56 (aI 0)), iO 58 (.mv 57), iG 59 58 true (.mv 9), iG 60 58 true (.bin .neq .int 59 (aI 0)), iG 61 58 true (.mv 60), iG 62 61 false (.mv 11), iG 63 61 false (.bin .neq .int 62 (aI 0)), iG 64 58 true (.pick 61 (.val (.bool true)) 63), iO 65 (.pick 58 64 (.val (.bool false))), iO 2 (.mv 65)])
 (.ret))
 (.skip)))
 (.seq (.ops [iO 66 (.mv 8), iO 67 (.mv 6), iO 68 (.lenStr 67), iO 69 (.sslc 66 (some 68) none), iO 12 (.mv 69)])
 (.seq (.ops [iO 70 (.mv 12), iO 71 (.lenStr 70), iO 72 (.bin .gtr .int 71 (aI 7)), iO 73 (.mv 72), iG 74 73 true (.mv 12), iG 75 73 true (.sslc 74 none (some (aI 7))), iG 76 73 true (.bin .eql .str 75 (aS [32, 87, 72, 69, 82, 69, 32])), iO 77 (.pick 73 76 (.val (.bool false))), iO 78 (.mv 77), iG 79 78 true (.mv 10), iG 80 78 true (.mv 12), iG 81 78 true (.sslc 80 (some (aI 7)) none), iG 82 78 true (.bin .add .int (aS [83, 69, 76, 69, 67, 84, 32]) 81), iG 83 78 true (.bin .add .int 82 (aS [32, 70, 82, 79, 77, 32, 116])), iG 84 78 true (.bin .eql .str 79 83), iO 85 (.pick 78 84 (.val (.bool false))), iO 2 (.mv 85)])
 (.ret))))))))))
def f6 (G : Nat → AVal) : AFn := ⟨86, [.tmp 2], f6m G⟩
def f7m (G : Nat → AVal) : MC :=
 .seq (.ops [iO 0 (.mv (.val (.bool false)))])
 (.seq (.ops [iC 6 12 [(aS [115, 101, 108, 101, 99, 116, 32, 97, 46, 120, 32, 44, 32, 45, 49, 43, 98, 42, 50, 32, 97, 115, 32, 99, 32, 102, 114, 111, 109, 32, 116, 32, 97, 115, 32, 97, 32, 106, 111, 105, 110, 32, 117, 32, 111, 110, 32, 110, 111, 116, 32, 120, 32, 105, 115, 32, 110, 117, 108, 108, 32, 111, 114, 100, 101, 114, 32, 98, 121, 32, 55, 46, 53, 48, 32, 100, 101, 115, 99])], iO 5 (.mv 6), iO 7 (.extract 5 0), iO 8 (.extract 5 1), iO 1 (.alloc 18 [.int 0, .str [], .str [], .nilS, .nilS, .bool false, .nilS, .nilS, .nilS, .int 0, .nilS, .int 0, .int 0, .int 0, .str [], .str [], .nilS, .nilS]), iZ (.store true 18 1 7), iO 2 (.mv 8)])
 (.seq (.ops [iO 10 (.load true 18 1), iC 11 8 [10], iO 9 (.mv 11), iO 12 (.extract 9 0), iO 13 (.extract 9 1), iO 3 (.mv 12), iO 4 (.mv 13)])
 (.seq (.ops [iO 14 (.mv 2), iO 15 (.bin .eql .int 14 (aI 0)), iO 16 (.mv 15), iG 17 16 true (.mv 4), iG 18 16 true (.bin .eql .int 17 (aI 0)), iO 19 (.pick 16 18 (.val (.bool false))), iO 20 (.mv 19), iG 21 20 true (.mv 3), iG 22 20 true (.bin .eql .str 21 (aS [83, 69, 76, 69, 67, 84, 32, 97, 46, 120, 44, 32, 40, 40, 45, 32, 49, 41, 32, 43, 32, 40, 98, 32, 42, 32, 50, 41, 41, 32, 65, 83, 32, 99, 32, 70, 82, 79, 77, 32, 116, 32, 65, 83, 32, 97, 32, 73, 78, 78, 69, 82, 32, 74, 79, 73, 78, 32, 117, 32, 79, 78, 32, 40, 78, 79, 84, 32, 40, 120, 32, 73, 83, 32, 78, 85, 76, 76, 41, 41, 32, 79, 82, 68, 69, 82, 32, 66, 89, 32, 55, 46, 53, 48, 32, 68, 69, 83, 67])), iO 23 (.pick 20 22 (.val (.bool false))), iO 24 (.mv 23), iG 25 24 true (.load true 18 1), ⟨some 26, some (24, true), .call 10 [25]⟩, iG 27 24 true (.bin .eql .int 26 (aI 0)), iO 28 (.pick 24 27 (.val (.bool false))), iO 0 (.mv 28)])
 (.ret))))
def f7 (G : Nat → AVal) : AFn := ⟨29, [.tmp 0], f7m G⟩
theorem f7_c (G : Nat → AVal) : cmpFn Tryz.prog G [] 7 = some (f7 G) := by kernel_rfl
end Go.Abs
namespace Go.Abs
open Go Go.RowKit Go.Proofs
def f9m (G : Nat → AVal) : MC :=
 .seq (.ops [iO 1 (.box true 18 0), iO 2 (.mv (aS [])), iO 3 (.mv (aI 0))])
 (.seq (.ops [iO 6 (.load true 18 1), iC 7 11 [6], iO 4 (.mv 7)])
 (.seq (.seq (.ops [iO 8 (.mv 4), iO 9 (.bin .neq .int 8 (aI 0))])
 (.cond 9
 (.seq (.ops [iO 10 (.mv 4), iO 2 (.mv (aS [])), iO 3 (.mv 10)])
 (.ret))
 (.skip)))
 (.seq (.ops [iO 11 (.load true 18 1), iC 12 15 [11], iO 5 (.mv 12)])
 (.seq (.seq (.ops [iO 13 (.mv 5), iO 14 (.lenStr 13), iO 15 (.bin .gtr .int 14 (aI 4000))])
 (.cond 15
 (.seq (.ops [iO 2 (.mv (aS [])), iO 3 (.mv (aI 1))])
 (.ret))
 (.skip)))
 (.seq (.ops [iO 16 (.mv 5), iO 2 (.mv 16), iO 3 (.mv (aI 0))])
 (.ret))))))
def f9 (G : Nat → AVal) : AFn := ⟨17, [.tmp 2, .tmp 3], f9m G⟩
theorem f9_c (G : Nat → AVal) : cmpFn Tryz.prog G [] 9 = some (f9 G) := by kernel_rfl
def f11b0 (G : Nat → AVal) : MC :=
 .seq (.seq (.ops [iO 10 (.mv 4), iO 11 (.mv 3), iO 12 (.lenS 11), iO 13 (.bin .lss .int 10 12)])
 (.cond 13
 (.skip)
 (.exit 0)))
 (.seq (.block 1
 (.seq (.ops [iO 16 (.mv 3), iO 17 (.mv 4), iO 18 (.iaddr 7 16 17), iO 19 (.load true 7 18), iC 20 23 [19], iO 21 (.bin .gtr .int 20 (aI 40))])
 (.cond 21
 (.seq (.ops [iO 2 (.mv (aI 5))])
 (.ret))
 (.skip))))
 (.ops [iO 14 (.mv 4), iO 15 (.bin .add .int 14 (aI 1)), iO 4 (.mv 15)]))
def f11m (G : Nat → AVal) : MC :=
 .seq (.ops [iO 1 (.box true 18 0), iO 2 (.mv (aI 0))])
 (.seq (.seq (.ops [iO 5 (.load true 18 1), iC 6 21 [5], iO 7 (.un .not 6)])
 (.cond 7
 (.seq (.ops [iO 2 (.mv (aI 2))])
 (.ret))
 (.skip)))
 (.seq (.ops [iO 8 (.load true 18 1), iC 9 22 [8], iO 3 (.mv 9)])
 (.seq (.seq (.ops [iO 4 (.mv (aI 0))])
 (.block 0
 (.loop (f11b0 G))))
 (.seq (.ops [iO 2 (.mv (aI 0))])
 (.ret)))))
def f11 (G : Nat → AVal) : AFn := ⟨22, [.tmp 2], f11m G⟩
theorem f11_c (G : Nat → AVal) : cmpFn Tryz.prog G [] 11 = some (f11 G) := by kernel_rfl
def f15b0 (G : Nat → AVal) : MC :=
 .seq (.seq (.ops [iO 20 (.mv 5), iO 21 (.faddr 3 1), iO 22 (.load false 1 21), iO 23 (.lenS 22), iO 24 (.bin .lss .int 20 23)])
 (.cond 24
 (.skip)
 (.exit 1)))
 (.seq (.block 2
 (.seq (.draw (.rd [⟨0, iO 27 (.mv 3), false, true⟩, ⟨1, iO 28 (.mv 5), false, false⟩, ⟨3, iO 30 (.faddr 3 1), false, true⟩, ⟨4, iO 31 (.load false 1 30), false, true⟩, ⟨5, iO 32 (.mv 5), false, true⟩, ⟨6, iO 33 (.iaddr 3 31 32), false, true⟩, ⟨7, iO 34 (.faddr 0 33), false, true⟩, ⟨8, iO 35 (.load false 1 34), false, true⟩, ⟨10, iO 37 (.faddr 3 1), false, true⟩, ⟨11, iO 38 (.load false 1 37), false, true⟩, ⟨12, iO 39 (.mv 5), false, true⟩, ⟨13, iO 40 (.iaddr 3 38 39), false, true⟩, ⟨14, iO 41 (.faddr 1 40), false, true⟩, ⟨15, iO 42 (.load false 1 41), false, true⟩, ⟨16, iO 43 (.iaddrA 5 1 4 42), false, true⟩, ⟨17, iO 44 (.load false 1 43), false, true⟩]
 (.ef ⟨2, iC 29 42 [28], true, false⟩ [0, 3, 4, 5, 6, 7, 8, 10, 11, 12, 13, 14, 15, 16, 17]
 (.rd [⟨9, iO 36 (.bin .add .int 29 35), false, false⟩, ⟨18, iO 45 (.bin .add .int 36 44), false, false⟩, ⟨19, iO 46 (.bin .add .int 27 45), false, false⟩, ⟨20, iO 3 (.mv 46), false, false⟩]
 (.nil)))))
 (.seq (.ops [iO 47 (.faddr 3 1), iO 48 (.load false 1 47), iO 49 (.mv 5), iO 50 (.iaddr 3 48 49), iO 51 (.faddr 2 50), iO 52 (.load false 1 51)])
 (.cond 52
 (.ops [iO 53 (.mv 3), iO 54 (.bin .add .int 53 (aS [32, 78, 79, 84, 32, 78, 85, 76, 76])), iO 3 (.mv 54)])
 (.skip)))))
 (.ops [iO 25 (.mv 5), iO 26 (.bin .add .int 25 (aI 1)), iO 5 (.mv 26)]))
def f15b1 (G : Nat → AVal) : MC :=
 .seq (.seq (.ops [iO 78 (.mv 6), iO 79 (.faddr 4 1), iO 80 (.load false 1 79), iO 81 (.lenS 80), iO 82 (.bin .lss .int 78 81)])
 (.cond 82
 (.skip)
 (.exit 3)))
 (.seq (.block 4
 (.draw (.rd [⟨0, iO 85 (.mv 3), false, true⟩, ⟨1, iO 86 (.mv 6), false, false⟩, ⟨3, iO 88 (.faddr 4 1), false, true⟩, ⟨4, iO 89 (.load false 1 88), false, true⟩, ⟨5, iO 90 (.mv 6), false, true⟩, ⟨6, iO 91 (.iaddr 1 89 90), false, true⟩, ⟨7, iO 92 (.load false 1 91), false, true⟩]
 (.ef ⟨2, iC 87 42 [86], true, false⟩ [0, 3, 4, 5, 6, 7]
 (.rd [⟨8, iO 93 (.bin .add .int 87 92), false, false⟩, ⟨9, iO 94 (.bin .add .int 85 93), false, false⟩, ⟨10, iO 3 (.mv 94), false, false⟩]
 (.nil))))))
 (.ops [iO 83 (.mv 6), iO 84 (.bin .add .int 83 (aI 1)), iO 6 (.mv 84)]))
def f15b2 (G : Nat → AVal) : MC :=
 .seq (.seq (.ops [iO 120 (.mv 8), iO 121 (.faddr 6 1), iO 122 (.load false 1 121), iO 123 (.mv 7), iO 124 (.iaddr 1 122 123), iO 125 (.load false 1 124), iO 126 (.lenS 125), iO 127 (.bin .lss .int 120 126)])
 (.cond 127
 (.skip)
 (.exit 7)))
 (.seq (.block 8
 (.draw (.rd [⟨0, iO 130 (.mv 3), false, true⟩, ⟨1, iO 131 (.mv 8), false, false⟩, ⟨3, iO 133 (.faddr 6 1), false, true⟩, ⟨4, iO 134 (.load false 1 133), false, true⟩, ⟨5, iO 135 (.mv 7), false, true⟩, ⟨6, iO 136 (.iaddr 1 134 135), false, true⟩, ⟨7, iO 137 (.load false 1 136), false, true⟩, ⟨8, iO 138 (.mv 8), false, true⟩, ⟨9, iO 139 (.iaddr 7 137 138), false, true⟩, ⟨10, iO 140 (.load true 7 139), false, true⟩]
 (.ef ⟨2, iC 132 42 [131], true, false⟩ [0, 3, 4, 5, 6, 7, 8, 9, 10]
 (.ef ⟨11, iC 141 43 [140], true, false⟩ [0]
 (.rd [⟨12, iO 142 (.bin .add .int 132 141), false, false⟩, ⟨13, iO 143 (.bin .add .int 130 142), false, false⟩, ⟨14, iO 3 (.mv 143), false, false⟩]
 (.nil)))))))
 (.ops [iO 128 (.mv 8), iO 129 (.bin .add .int 128 (aI 1)), iO 8 (.mv 129)]))
def f15b3 (G : Nat → AVal) : MC :=
 .seq (.seq (.ops [iO 108 (.mv 7), iO 109 (.faddr 6 1), iO 110 (.load false 1 109), iO 111 (.lenS 110), iO 112 (.bin .lss .int 108 111)])
 (.cond 112
 (.skip)
 (.exit 5)))
 (.seq (.block 6
 (.seq (.ops [iO 115 (.mv 3), iO 116 (.mv 7), iC 117 42 [116], iO 118 (.bin .add .int 117 (aS [40])), iO 119 (.bin .add .int 115 118), iO 3 (.mv 119)])
 (.seq (.seq (.ops [iO 8 (.mv (aI 0))])
 (.block 7
 (.loop (f15b2 G))))
 (.ops [iO 144 (.mv 3), iO 145 (.bin .add .int 144 (aS [41])), iO 3 (.mv 145)]))))
 (.ops [iO 113 (.mv 7), iO 114 (.bin .add .int 113 (aI 1)), iO 7 (.mv 114)]))
def f15b4 (G : Nat → AVal) : MC :=
 .seq (.seq (.ops [iO 157 (.mv 9), iO 158 (.faddr 17 1), iO 159 (.load false 1 158), iO 160 (.lenS 159), iO 161 (.bin .lss .int 157 160)])
 (.cond 161
 (.skip)
 (.exit 9)))
 (.seq (.block 10
 (.draw (.rd [⟨0, iO 164 (.mv 3), false, true⟩, ⟨1, iO 165 (.mv 9), false, false⟩, ⟨3, iO 167 (.faddr 17 1), false, true⟩, ⟨4, iO 168 (.load false 1 167), false, true⟩, ⟨5, iO 169 (.mv 9), false, true⟩, ⟨6, iO 170 (.iaddr 8 168 169), false, true⟩, ⟨7, iO 171 (.faddr 0 170), false, true⟩, ⟨8, iO 172 (.load false 1 171), false, true⟩, ⟨11, iO 175 (.faddr 17 1), false, true⟩, ⟨12, iO 176 (.load false 1 175), false, true⟩, ⟨13, iO 177 (.mv 9), false, true⟩, ⟨14, iO 178 (.iaddr 8 176 177), false, true⟩, ⟨15, iO 179 (.faddr 1 178), false, true⟩, ⟨16, iO 180 (.load true 7 179), false, true⟩]
 (.ef ⟨2, iC 166 42 [165], true, false⟩ [0, 3, 4, 5, 6, 7, 8, 11, 12, 13, 14, 15, 16]
 (.rd [⟨9, iO 173 (.bin .add .int 166 172), false, true⟩, ⟨10, iO 174 (.bin .add .int 173 (aS [32, 61, 32])), false, true⟩]
 (.ef ⟨17, iC 181 43 [180], true, false⟩ [0, 3, 4, 5, 6, 7, 8, 9, 10]
 (.rd [⟨18, iO 182 (.bin .add .int 174 181), false, false⟩, ⟨19, iO 183 (.bin .add .int 164 182), false, false⟩, ⟨20, iO 3 (.mv 183), false, false⟩]
 (.nil))))))))
 (.ops [iO 162 (.mv 9), iO 163 (.bin .add .int 162 (aI 1)), iO 9 (.mv 163)]))
def f15m (G : Nat → AVal) : MC :=
 .seq (.ops [iO 1 (.box true 18 0), iO 2 (.mv (aS []))])
 (.seq (.ops [iO 3 (.mv (aS []))])
 (.seq (.seq (.ops [iO 11 (.faddr 0 1), iO 12 (.load false 1 11)])
 (.block 0
 (.seq (.ops [iO 14 (.bin .eql .int 12 (aI 1)), iO 13 (.mv 14)])
 (.cond 13
 (.seq (.ops [iO 15 (.build [.str [], .str [], .str [], .str [], .str []] [(false, 0, 1, (aS [])), (false, 1, 1, (aS [32, 66, 79, 79, 76])), (false, 2, 1, (aS [32, 73, 78, 84])), (false, 3, 1, (aS [32, 82, 69, 65, 76])), (false, 4, 1, (aS [32, 84, 69, 88, 84]))]), iO 4 (.alloc 5 [.str [], .str [], .str [], .str [], .str []]), iZ (.store true 5 4 15)])
 (.seq (.ops [iO 16 (.faddr 1 1), iO 17 (.load false 1 16), iO 18 (.bin .add .int (aS [67, 82, 69, 65, 84, 69, 32, 84, 65, 66, 76, 69, 32]) 17), iO 19 (.bin .add .int 18 (aS [32, 40])), iO 3 (.mv 19)])
 (.seq (.seq (.ops [iO 5 (.mv (aI 0))])
 (.block 1
 (.loop (f15b0 G))))
 (.seq (.ops [iO 55 (.mv 3), iO 56 (.bin .add .int 55 (aS [41])), iO 2 (.mv 56)])
 (.ret)))))
 (.seq (.ops [iO 58 (.bin .eql .int 12 (aI 2)), iO 57 (.mv 58)])
 (.cond 57
 (.seq (.ops [iO 59 (.faddr 1 1), iO 60 (.load false 1 59), iO 61 (.bin .add .int (aS [68, 82, 79, 80, 32, 84, 65, 66, 76, 69, 32]) 60), iO 2 (.mv 61)])
 (.ret))
 (.seq (.ops [iO 63 (.bin .eql .int 12 (aI 3)), iO 62 (.mv 63)])
 (.cond 62
 (.seq (.ops [iO 3 (.mv (aS [67, 82, 69, 65, 84, 69, 32]))])
 (.seq (.seq (.ops [iO 64 (.faddr 5 1), iO 65 (.load false 1 64)])
 (.cond 65
 (.ops [iO 66 (.mv 3), iO 67 (.bin .add .int 66 (aS [85, 78, 73, 81, 85, 69, 32])), iO 3 (.mv 67)])
 (.skip)))
 (.seq (.ops [iO 68 (.mv 3), iO 69 (.faddr 2 1), iO 70 (.load false 1 69), iO 71 (.bin .add .int (aS [73, 78, 68, 69, 88, 32]) 70), iO 72 (.bin .add .int 71 (aS [32, 79, 78, 32])), iO 73 (.faddr 1 1), iO 74 (.load false 1 73), iO 75 (.bin .add .int 72 74), iO 76 (.bin .add .int 75 (aS [32, 40])), iO 77 (.bin .add .int 68 76), iO 3 (.mv 77)])
 (.seq (.seq (.ops [iO 6 (.mv (aI 0))])
 (.block 3
 (.loop (f15b1 G))))
 (.seq (.ops [iO 95 (.mv 3), iO 96 (.bin .add .int 95 (aS [41])), iO 2 (.mv 96)])
 (.ret))))))
 (.seq (.ops [iO 98 (.bin .eql .int 12 (aI 4)), iO 97 (.mv 98)])
 (.cond 97
 (.seq (.ops [iO 99 (.faddr 2 1), iO 100 (.load false 1 99), iO 101 (.bin .add .int (aS [68, 82, 79, 80, 32, 73, 78, 68, 69, 88, 32]) 100), iO 2 (.mv 101)])
 (.ret))
 (.seq (.ops [iO 103 (.bin .eql .int 12 (aI 5)), iO 102 (.mv 103)])
 (.cond 102
 (.seq (.ops [iO 104 (.faddr 1 1), iO 105 (.load false 1 104), iO 106 (.bin .add .int (aS [73, 78, 83, 69, 82, 84, 32, 73, 78, 84, 79, 32]) 105), iO 107 (.bin .add .int 106 (aS [32, 86, 65, 76, 85, 69, 83, 32])), iO 3 (.mv 107)])
 (.seq (.seq (.ops [iO 7 (.mv (aI 0))])
 (.block 5
 (.loop (f15b3 G))))
 (.seq (.ops [iO 146 (.mv 3), iO 2 (.mv 146)])
 (.ret))))
 (.seq (.ops [iO 148 (.bin .eql .int 12 (aI 6)), iO 147 (.mv 148)])
 (.cond 147
 (.seq (.ops [iO 149 (.load true 18 1), iC 150 44 [149], iO 2 (.mv 150)])
 (.ret))
 (.seq (.ops [iO 152 (.bin .eql .int 12 (aI 7)), iO 151 (.mv 152)])
 (.cond 151
 (.seq (.ops [iO 153 (.faddr 1 1), iO 154 (.load false 1 153), iO 155 (.bin .add .int (aS [85, 80, 68, 65, 84, 69, 32]) 154), iO 156 (.bin .add .int 155 (aS [32, 83, 69, 84, 32])), iO 3 (.mv 156)])
 (.seq (.seq (.ops [iO 9 (.mv (aI 0))])
 (.block 9
 (.loop (f15b4 G))))
 (.seq (.ops [iO 184 (.mv 3), iO 185 (.faddr 9 1), iO 186 (.load true 7 185), iC 187 45 [186], iO 188 (.bin .add .int 184 187), iO 2 (.mv 188)])
 (.ret))))
 (.seq (.ops [iO 190 (.bin .eql .int 12 (aI 8)), iO 189 (.mv 190)])
 (.cond 189
 (.seq (.draw (.rd [⟨0, iO 191 (.faddr 1 1), false, true⟩, ⟨1, iO 192 (.load false 1 191), false, true⟩, ⟨2, iO 193 (.bin .add .int (aS [68, 69, 76, 69, 84, 69, 32, 70, 82, 79, 77, 32]) 192), false, true⟩, ⟨3, iO 194 (.faddr 9 1), false, false⟩, ⟨4, iO 195 (.load true 7 194), false, false⟩]
 (.ef ⟨5, iC 196 45 [195], true, false⟩ [0, 1, 2]
 (.rd [⟨6, iO 197 (.bin .add .int 193 196), false, false⟩, ⟨7, iO 2 (.mv 197), false, false⟩]
 (.nil)))))
 (.ret))
 (.skip)))))))))))))))))))
 (.seq (.ops [iO 198 (.build [.str [], .str [], .str []] [(false, 0, 1, (aS [66, 69, 71, 73, 78])), (false, 1, 1, (aS [67, 79, 77, 77, 73, 84])), (false, 2, 1, (aS [82, 79, 76, 76, 66, 65, 67, 75]))]), iO 10 (.alloc 3 [.str [], .str [], .str []]), iZ (.store true 3 10 198)])
 (.seq (.ops [iO 199 (.faddr 0 1), iO 200 (.load false 1 199), iO 201 (.bin .sub .int 200 (aI 9)), iO 202 (.iaddrA 3 1 10 201), iO 203 (.load false 1 202), iO 2 (.mv 203)])
 (.ret)))))
def f15 (G : Nat → AVal) : AFn := ⟨204, [.tmp 2], f15m G⟩
theorem f15_c (G : Nat → AVal) : cmpFn Tryz.prog G [] 15 = some (f15 G) := by kernel_rfl
def f21b0 (G : Nat → AVal) : MC :=
 .seq (.seq (.ops [iO 85 (.mv 5), iO 86 (.faddr 3 1), iO 87 (.load false 1 86), iO 88 (.lenS 87), iO 89 (.bin .lss .int 85 88)])
 (.cond 89
 (.skip)
 (.exit 0)))
 (.seq (.block 1
 (.seq (.ops [iO 92 (.faddr 3 1), iO 93 (.load false 1 92), iO 94 (.mv 5), iO 95 (.iaddr 3 93 94), iO 96 (.faddr 0 95), iO 97 (.load false 1 96), iC 98 66 [97], iO 99 (.un .not 98), iO 100 (.mv 99), iG 101 100 false (.faddr 3 1), iG 102 100 false (.load false 1 101), iG 103 100 false (.mv 5), iG 104 100 false (.iaddr 3 102 103), iG 105 100 false (.faddr 1 104), iG 106 100 false (.load false 1 105), ⟨some 107, some (100, false), .call 67 [106, (aI 1), (aI 4)]⟩, iG 108 100 false (.un .not 107), iO 109 (.pick 100 (.val (.bool true)) 108)])
 (.cond 109
 (.seq (.ops [iO 2 (.mv (.val (.bool false)))])
 (.ret))
 (.skip))))
 (.ops [iO 90 (.mv 5), iO 91 (.bin .add .int 90 (aI 1)), iO 5 (.mv 91)]))
def f21b1 (G : Nat → AVal) : MC :=
 .seq (.seq (.ops [iO 135 (.mv 6), iO 136 (.faddr 4 1), iO 137 (.load false 1 136), iO 138 (.lenS 137), iO 139 (.bin .lss .int 135 138)])
 (.cond 139
 (.skip)
 (.exit 2)))
 (.seq (.block 3
 (.seq (.ops [iO 142 (.faddr 4 1), iO 143 (.load false 1 142), iO 144 (.mv 6), iO 145 (.iaddr 1 143 144), iO 146 (.load false 1 145), iC 147 66 [146], iO 148 (.un .not 147)])
 (.cond 148
 (.seq (.ops [iO 2 (.mv (.val (.bool false)))])
 (.ret))
 (.skip))))
 (.ops [iO 140 (.mv 6), iO 141 (.bin .add .int 140 (aI 1)), iO 6 (.mv 141)]))
def f21b2 (G : Nat → AVal) : MC :=
 .seq (.seq (.ops [iO 185 (.mv 8), iO 186 (.faddr 6 1), iO 187 (.load false 1 186), iO 188 (.mv 7), iO 189 (.iaddr 1 187 188), iO 190 (.load false 1 189), iO 191 (.lenS 190), iO 192 (.bin .lss .int 185 191)])
 (.cond 192
 (.skip)
 (.exit 6)))
 (.seq (.block 7
 (.seq (.ops [iO 195 (.faddr 6 1), iO 196 (.load false 1 195), iO 197 (.mv 7), iO 198 (.iaddr 1 196 197), iO 199 (.load false 1 198), iO 200 (.mv 8), iO 201 (.iaddr 7 199 200), iO 202 (.load true 7 201), iC 203 68 [202], iO 204 (.un .not 203)])
 (.cond 204
 (.seq (.ops [iO 2 (.mv (.val (.bool false)))])
 (.ret))
 (.skip))))
 (.ops [iO 193 (.mv 8), iO 194 (.bin .add .int 193 (aI 1)), iO 8 (.mv 194)]))
def f21b3 (G : Nat → AVal) : MC :=
 .seq (.seq (.ops [iO 170 (.mv 7), iO 171 (.faddr 6 1), iO 172 (.load false 1 171), iO 173 (.lenS 172), iO 174 (.bin .lss .int 170 173)])
 (.cond 174
 (.skip)
 (.exit 4)))
 (.seq (.block 5
 (.seq (.seq (.ops [iO 177 (.faddr 6 1), iO 178 (.load false 1 177), iO 179 (.mv 7), iO 180 (.iaddr 1 178 179), iO 181 (.load false 1 180), iO 182 (.lenS 181), iC 183 67 [182, (aI 1), (aI 50)], iO 184 (.un .not 183)])
 (.cond 184
 (.seq (.ops [iO 2 (.mv (.val (.bool false)))])
 (.ret))
 (.skip)))
 (.seq (.ops [iO 8 (.mv (aI 0))])
 (.block 6
 (.loop (f21b2 G))))))
 (.ops [iO 175 (.mv 7), iO 176 (.bin .add .int 175 (aI 1)), iO 7 (.mv 176)]))
def f21m (G : Nat → AVal) : MC :=
 .seq (.ops [iO 1 (.box true 18 0), iO 2 (.mv (.val (.bool false)))])
 (.seq (.seq (.ops [iO 9 (.faddr 0 1), iO 10 (.load false 1 9), iO 11 (.bin .lss .int 10 (aI 1)), iO 12 (.mv 11), iG 13 12 false (.faddr 0 1), iG 14 12 false (.load false 1 13), iG 15 12 false (.bin .gtr .int 14 (aI 11)), iO 16 (.pick 12 (.val (.bool true)) 15)])
 (.cond 16
 (.seq (.ops [iO 2 (.mv (.val (.bool false)))])
 (.ret))
 (.skip)))
 (.seq (.ops [iO 17 (.build [.bool false, .bool false, .bool false, .bool false, .bool false, .bool false, .bool false, .bool false, .bool false, .bool false, .bool false, .bool false] [(false, 0, 1, (.val (.bool false))), (false, 1, 1, (.val (.bool true))), (false, 2, 1, (.val (.bool true))), (false, 3, 1, (.val (.bool true))), (false, 4, 1, (.val (.bool false))), (false, 5, 1, (.val (.bool true))), (false, 6, 1, (.val (.bool false))), (false, 7, 1, (.val (.bool true))), (false, 8, 1, (.val (.bool true))), (false, 9, 1, (.val (.bool false))), (false, 10, 1, (.val (.bool false))), (false, 11, 1, (.val (.bool false)))]), iO 3 (.alloc 12 [.bool false, .bool false, .bool false, .bool false, .bool false, .bool false, .bool false, .bool false, .bool false, .bool false, .bool false, .bool false]), iZ (.store true 12 3 17)])
 (.seq (.seq (.ops [iO 18 (.faddr 0 1), iO 19 (.load false 1 18), iO 20 (.iaddrA 12 1 3 19), iO 21 (.load false 1 20), iO 22 (.mv 21), iG 23 22 true (.faddr 1 1), iG 24 22 true (.load false 1 23), ⟨some 25, some (22, true), .call 66 [24]⟩, iG 26 22 true (.un .not 25), iO 27 (.pick 22 26 (.val (.bool false))), iO 28 (.mv 27), iG 29 28 false (.faddr 0 1), iG 30 28 false (.load false 1 29), iG 31 28 false (.iaddrA 12 1 3 30), iG 32 28 false (.load false 1 31), iG 33 28 false (.un .not 32), iG 34 28 false (.mv 33), iG 35 34 true (.faddr 1 1), iG 36 34 true (.load false 1 35), iG 37 34 true (.bin .neq .str 36 (aS [])), iG 38 28 false (.pick 34 37 (.val (.bool false))), iO 39 (.pick 28 (.val (.bool true)) 38)])
 (.cond 39
 (.seq (.ops [iO 2 (.mv (.val (.bool false)))])
 (.ret))
 (.skip)))
 (.seq (.ops [iO 40 (.faddr 0 1), iO 41 (.load false 1 40), iO 42 (.bin .eql .int 41 (aI 3)), iO 43 (.mv 42), iG 44 43 false (.faddr 0 1), iG 45 43 false (.load false 1 44), iG 46 43 false (.bin .eql .int 45 (aI 4)), iO 47 (.pick 43 (.val (.bool true)) 46), iO 4 (.mv 47)])
 (.seq (.seq (.ops [iO 48 (.mv 4), iO 49 (.mv 48), iG 50 49 true (.faddr 2 1), iG 51 49 true (.load false 1 50), ⟨some 52, some (49, true), .call 66 [51]⟩, iG 53 49 true (.un .not 52), iO 54 (.pick 49 53 (.val (.bool false))), iO 55 (.mv 54), iG 56 55 false (.mv 4), iG 57 55 false (.un .not 56), iG 58 55 false (.mv 57), iG 59 58 true (.faddr 2 1), iG 60 58 true (.load false 1 59), iG 61 58 true (.bin .neq .str 60 (aS [])), iG 62 55 false (.pick 58 61 (.val (.bool false))), iO 63 (.pick 55 (.val (.bool true)) 62)])
 (.cond 63
 (.seq (.ops [iO 2 (.mv (.val (.bool false)))])
 (.ret))
 (.skip)))
 (.seq (.seq (.ops [iO 64 (.faddr 0 1), iO 65 (.load false 1 64), iO 66 (.bin .eql .int 65 (aI 1)), iO 67 (.mv 66), iG 68 67 true (.faddr 3 1), iG 69 67 true (.load false 1 68), iG 70 67 true (.lenS 69), ⟨some 71, some (67, true), .call 67 [70, (aI 1), (aI 16)]⟩, iG 72 67 true (.un .not 71), iO 73 (.pick 67 72 (.val (.bool false))), iO 74 (.mv 73), iG 75 74 false (.faddr 0 1), iG 76 74 false (.load false 1 75), iG 77 74 false (.bin .neq .int 76 (aI 1)), iG 78 74 false (.mv 77), iG 79 78 true (.faddr 3 1), iG 80 78 true (.load false 1 79), iG 81 78 true (.lenS 80), iG 82 78 true (.bin .gtr .int 81 (aI 0)), iG 83 74 false (.pick 78 82 (.val (.bool false))), iO 84 (.pick 74 (.val (.bool true)) 83)])
 (.cond 84
 (.seq (.ops [iO 2 (.mv (.val (.bool false)))])
 (.ret))
 (.skip)))
 (.seq (.seq (.ops [iO 5 (.mv (aI 0))])
 (.block 0
 (.loop (f21b0 G))))
 (.seq (.seq (.ops [iO 110 (.faddr 0 1), iO 111 (.load false 1 110), iO 112 (.bin .eql .int 111 (aI 3)), iO 113 (.mv 112), iG 114 113 true (.faddr 4 1), iG 115 113 true (.load false 1 114), iG 116 113 true (.lenS 115), ⟨some 117, some (113, true), .call 67 [116, (aI 1), (aI 4)]⟩, iG 118 113 true (.un .not 117), iO 119 (.pick 113 118 (.val (.bool false))), iO 120 (.mv 119), iG 121 120 false (.faddr 0 1), iG 122 120 false (.load false 1 121), iG 123 120 false (.bin .neq .int 122 (aI 3)), iG 124 120 false (.mv 123), iG 125 124 true (.faddr 4 1), iG 126 124 true (.load false 1 125), iG 127 124 true (.lenS 126), iG 128 124 true (.bin .gtr .int 127 (aI 0)), iG 129 124 true (.mv 128), iG 130 129 false (.faddr 5 1), iG 131 129 false (.load false 1 130), iG 132 124 true (.pick 129 (.val (.bool true)) 131), iG 133 120 false (.pick 124 132 (.val (.bool false))), iO 134 (.pick 120 (.val (.bool true)) 133)])
 (.cond 134
 (.seq (.ops [iO 2 (.mv (.val (.bool false)))])
 (.ret))
 (.skip)))
 (.seq (.seq (.ops [iO 6 (.mv (aI 0))])
 (.block 2
 (.loop (f21b1 G))))
 (.seq (.seq (.ops [iO 149 (.faddr 0 1), iO 150 (.load false 1 149), iO 151 (.bin .eql .int 150 (aI 5)), iO 152 (.mv 151), iG 153 152 true (.faddr 6 1), iG 154 152 true (.load false 1 153), iG 155 152 true (.lenS 154), ⟨some 156, some (152, true), .call 67 [155, (aI 1), (aI 50)]⟩, iG 157 152 true (.un .not 156), iO 158 (.pick 152 157 (.val (.bool false))), iO 159 (.mv 158), iG 160 159 false (.faddr 0 1), iG 161 159 false (.load false 1 160), iG 162 159 false (.bin .neq .int 161 (aI 5)), iG 163 159 false (.mv 162), iG 164 163 true (.faddr 6 1), iG 165 163 true (.load false 1 164), iG 166 163 true (.lenS 165), iG 167 163 true (.bin .gtr .int 166 (aI 0)), iG 168 159 false (.pick 163 167 (.val (.bool false))), iO 169 (.pick 159 (.val (.bool true)) 168)])
 (.cond 169
 (.seq (.ops [iO 2 (.mv (.val (.bool false)))])
 (.ret))
 (.skip)))
 (.seq (.seq (.ops [iO 7 (.mv (aI 0))])
 (.block 4
 (.loop (f21b3 G))))
 (.seq (.ops [iO 205 (.load true 18 1), iC 206 69 [205], iO 207 (.mv 206), iG 208 207 true (.load true 18 1), ⟨some 209, some (207, true), .call 70 [208]⟩, iO 210 (.pick 207 209 (.val (.bool false))), iO 2 (.mv 210)])
 (.ret)))))))))))))
def f21 (G : Nat → AVal) : AFn := ⟨211, [.tmp 2], f21m G⟩
theorem f21_c (G : Nat → AVal) : cmpFn Tryz.prog G [] 21 = some (f21 G) := by kernel_rfl
def f22b0 (G : Nat → AVal) : MC :=
 .seq (.seq (.ops [iO 20 (.mv 5), iO 21 (.faddr 6 1), iO 22 (.load false 1 21), iO 23 (.mv 4), iO 24 (.iaddr 1 22 23), iO 25 (.load false 1 24), iO 26 (.lenS 25), iO 27 (.bin .lss .int 20 26)])
 (.cond 27
 (.skip)
 (.exit 2)))
 (.seq (.block 3
 (.ops [iO 30 (.mv 3), iO 31 (.faddr 6 1), iO 32 (.load false 1 31), iO 33 (.mv 4), iO 34 (.iaddr 1 32 33), iO 35 (.load false 1 34), iO 36 (.mv 5), iO 37 (.iaddr 7 35 36), iO 38 (.load true 7 37), iO 39 (.bslice true 7 1 [.int 0, .nilS, .int 0, .int 0, .int 0, .str [], .str []] [(0, 38)]), iO 40 (.append 7 88 30 39), iO 3 (.mv 40)]))
 (.ops [iO 28 (.mv 5), iO 29 (.bin .add .int 28 (aI 1)), iO 5 (.mv 29)]))
def f22b1 (G : Nat → AVal) : MC :=
 .seq (.seq (.ops [iO 13 (.mv 4), iO 14 (.faddr 6 1), iO 15 (.load false 1 14), iO 16 (.lenS 15), iO 17 (.bin .lss .int 13 16)])
 (.cond 17
 (.skip)
 (.exit 0)))
 (.seq (.block 1
 (.seq (.ops [iO 5 (.mv (aI 0))])
 (.block 2
 (.loop (f22b0 G)))))
 (.ops [iO 18 (.mv 4), iO 19 (.bin .add .int 18 (aI 1)), iO 4 (.mv 19)]))
def f22b2 (G : Nat → AVal) : MC :=
 .seq (.seq (.ops [iO 41 (.mv 6), iO 42 (.faddr 7 1), iO 43 (.load false 1 42), iO 44 (.lenS 43), iO 45 (.bin .lss .int 41 44)])
 (.cond 45
 (.skip)
 (.exit 4)))
 (.seq (.block 5
 (.ops [iO 48 (.mv 3), iO 49 (.faddr 7 1), iO 50 (.load false 1 49), iO 51 (.mv 6), iO 52 (.iaddr 8 50 51), iO 53 (.faddr 0 52), iO 54 (.load true 7 53), iO 55 (.bslice true 7 1 [.int 0, .nilS, .int 0, .int 0, .int 0, .str [], .str []] [(0, 54)]), iO 56 (.append 7 88 48 55), iO 3 (.mv 56)]))
 (.ops [iO 46 (.mv 6), iO 47 (.bin .add .int 46 (aI 1)), iO 6 (.mv 47)]))
def f22b3 (G : Nat → AVal) : MC :=
 .seq (.seq (.ops [iO 57 (.mv 7), iO 58 (.faddr 8 1), iO 59 (.load false 1 58), iO 60 (.lenS 59), iO 61 (.bin .lss .int 57 60)])
 (.cond 61
 (.skip)
 (.exit 6)))
 (.seq (.block 7
 (.ops [iO 64 (.mv 3), iO 65 (.faddr 8 1), iO 66 (.load false 1 65), iO 67 (.mv 7), iO 68 (.iaddr 9 66 67), iO 69 (.faddr 2 68), iO 70 (.load true 7 69), iO 71 (.bslice true 7 1 [.int 0, .nilS, .int 0, .int 0, .int 0, .str [], .str []] [(0, 70)]), iO 72 (.append 7 88 64 71), iO 3 (.mv 72)]))
 (.ops [iO 62 (.mv 7), iO 63 (.bin .add .int 62 (aI 1)), iO 7 (.mv 63)]))
def f22b4 (G : Nat → AVal) : MC :=
 .seq (.seq (.ops [iO 73 (.mv 8), iO 74 (.faddr 16 1), iO 75 (.load false 1 74), iO 76 (.lenS 75), iO 77 (.bin .lss .int 73 76)])
 (.cond 77
 (.skip)
 (.exit 8)))
 (.seq (.block 9
 (.ops [iO 80 (.mv 3), iO 81 (.faddr 16 1), iO 82 (.load false 1 81), iO 83 (.mv 8), iO 84 (.iaddr 8 82 83), iO 85 (.faddr 0 84), iO 86 (.load true 7 85), iO 87 (.bslice true 7 1 [.int 0, .nilS, .int 0, .int 0, .int 0, .str [], .str []] [(0, 86)]), iO 88 (.append 7 88 80 87), iO 3 (.mv 88)]))
 (.ops [iO 78 (.mv 8), iO 79 (.bin .add .int 78 (aI 1)), iO 8 (.mv 79)]))
def f22b5 (G : Nat → AVal) : MC :=
 .seq (.seq (.ops [iO 89 (.mv 9), iO 90 (.faddr 17 1), iO 91 (.load false 1 90), iO 92 (.lenS 91), iO 93 (.bin .lss .int 89 92)])
 (.cond 93
 (.skip)
 (.exit 10)))
 (.seq (.block 11
 (.ops [iO 96 (.mv 3), iO 97 (.faddr 17 1), iO 98 (.load false 1 97), iO 99 (.mv 9), iO 100 (.iaddr 8 98 99), iO 101 (.faddr 1 100), iO 102 (.load true 7 101), iO 103 (.bslice true 7 1 [.int 0, .nilS, .int 0, .int 0, .int 0, .str [], .str []] [(0, 102)]), iO 104 (.append 7 88 96 103), iO 3 (.mv 104)]))
 (.ops [iO 94 (.mv 9), iO 95 (.bin .add .int 94 (aI 1)), iO 9 (.mv 95)]))
def f22m (G : Nat → AVal) : MC :=
 .seq (.ops [iO 1 (.box true 18 0), iO 2 (.mv (.val .nilS))])
 (.seq (.ops [iO 10 (.faddr 9 1), iO 11 (.load true 7 10), iO 12 (.bslice true 7 1 [.int 0, .nilS, .int 0, .int 0, .int 0, .str [], .str []] [(0, 11)]), iO 3 (.mv 12)])
 (.seq (.seq (.ops [iO 4 (.mv (aI 0))])
 (.block 0
 (.loop (f22b1 G))))
 (.seq (.seq (.ops [iO 6 (.mv (aI 0))])
 (.block 4
 (.loop (f22b2 G))))
 (.seq (.seq (.ops [iO 7 (.mv (aI 0))])
 (.block 6
 (.loop (f22b3 G))))
 (.seq (.seq (.ops [iO 8 (.mv (aI 0))])
 (.block 8
 (.loop (f22b4 G))))
 (.seq (.seq (.ops [iO 9 (.mv (aI 0))])
 (.block 10
 (.loop (f22b5 G))))
 (.seq (.ops [iO 105 (.mv 3), iO 2 (.mv 105)])
 (.ret))))))))
def f22 (G : Nat → AVal) : AFn := ⟨106, [.tmp 2], f22m G⟩
theorem f22_c (G : Nat → AVal) : cmpFn Tryz.prog G [] 22 = some (f22 G) := by kernel_rfl
def f42m (G : Nat → AVal) : MC :=
 .seq (.ops [iO 2 (.mv (aS []))])
 (.seq (.seq (.ops [iO 3 (.mv 0), iO 4 (.bin .gtr .int 3 (aI 0))])
 (.cond 4
 (.seq (.ops [iO 2 (.mv (aS [44, 32]))])
 (.ret))
 (.skip)))
 (.seq (.ops [iO 2 (.mv (aS []))])
 (.ret)))
def f42 (G : Nat → AVal) : AFn := ⟨5, [.tmp 2], f42m G⟩
theorem f42_c (G : Nat → AVal) : cmpFn Tryz.prog G [] 42 = some (f42 G) := by kernel_rfl
def f44b0 (G : Nat → AVal) : MC :=
 .seq (.seq (.ops [iO 13 (.mv 4), iO 14 (.faddr 7 1), iO 15 (.load false 1 14), iO 16 (.lenS 15), iO 17 (.bin .lss .int 13 16)])
 (.cond 17
 (.skip)
 (.exit 0)))
 (.seq (.block 1
 (.draw (.rd [⟨0, iO 20 (.mv 3), false, true⟩, ⟨1, iO 21 (.mv 4), false, false⟩, ⟨3, iO 23 (.faddr 7 1), false, true⟩, ⟨4, iO 24 (.load false 1 23), false, true⟩, ⟨5, iO 25 (.mv 4), false, true⟩, ⟨6, iO 26 (.iaddr 8 24 25), false, true⟩, ⟨7, iO 27 (.faddr 0 26), false, true⟩, ⟨8, iO 28 (.load true 7 27), false, true⟩, ⟨10, iO 30 (.faddr 7 1), false, true⟩, ⟨11, iO 31 (.load false 1 30), false, true⟩, ⟨12, iO 32 (.mv 4), false, true⟩, ⟨13, iO 33 (.iaddr 8 31 32), false, true⟩, ⟨14, iO 34 (.faddr 7 33), false, true⟩, ⟨15, iO 35 (.load false 1 34), false, true⟩]
 (.ef ⟨2, iC 22 42 [21], true, false⟩ [0, 3, 4, 5, 6, 7, 8, 10, 11, 12, 13, 14, 15]
 (.ef ⟨9, iC 29 43 [28], true, false⟩ [0, 10, 11, 12, 13, 14, 15]
 (.ef ⟨16, iC 36 98 [29, 35], true, false⟩ [0]
 (.rd [⟨17, iO 37 (.bin .add .int 22 36), false, false⟩, ⟨18, iO 38 (.bin .add .int 20 37), false, false⟩, ⟨19, iO 3 (.mv 38), false, false⟩]
 (.nil))))))))
 (.ops [iO 18 (.mv 4), iO 19 (.bin .add .int 18 (aI 1)), iO 4 (.mv 19)]))
def f44b1 (G : Nat → AVal) : MC :=
 .seq (.seq (.ops [iO 53 (.mv 5), iO 54 (.faddr 8 1), iO 55 (.load false 1 54), iO 56 (.lenS 55), iO 57 (.bin .lss .int 53 56)])
 (.cond 57
 (.skip)
 (.exit 2)))
 (.seq (.block 3
 (.draw (.rd [⟨0, iO 60 (.mv 3), false, true⟩, ⟨1, iO 61 (.faddr 8 1), false, false⟩, ⟨2, iO 62 (.load false 1 61), false, false⟩, ⟨3, iO 63 (.mv 5), false, false⟩, ⟨4, iO 64 (.iaddr 9 62 63), false, false⟩, ⟨5, iO 65 (.faddr 0 64), false, false⟩, ⟨6, iO 66 (.load false 1 65), false, false⟩, ⟨7, iO 67 (.faddr 8 1), false, false⟩, ⟨8, iO 68 (.load false 1 67), false, false⟩, ⟨9, iO 69 (.mv 5), false, false⟩, ⟨10, iO 70 (.iaddr 9 68 69), false, false⟩, ⟨11, iO 71 (.faddr 1 70), false, false⟩, ⟨12, iO 72 (.load false 1 71), false, false⟩, ⟨16, iO 76 (.faddr 8 1), false, true⟩, ⟨17, iO 77 (.load false 1 76), false, true⟩, ⟨18, iO 78 (.mv 5), false, true⟩, ⟨19, iO 79 (.iaddr 9 77 78), false, true⟩, ⟨20, iO 80 (.faddr 2 79), false, true⟩, ⟨21, iO 81 (.load true 7 80), false, true⟩]
 (.ef ⟨13, iC 73 98 [66, 72], true, false⟩ [0, 16, 17, 18, 19, 20, 21]
 (.rd [⟨14, iO 74 (.bin .add .int (aS [32, 73, 78, 78, 69, 82, 32, 74, 79, 73, 78, 32]) 73), false, true⟩, ⟨15, iO 75 (.bin .add .int 74 (aS [32, 79, 78, 32])), false, true⟩]
 (.ef ⟨22, iC 82 43 [81], true, false⟩ [0, 14, 15]
 (.rd [⟨23, iO 83 (.bin .add .int 75 82), false, false⟩, ⟨24, iO 84 (.bin .add .int 60 83), false, false⟩, ⟨25, iO 3 (.mv 84), false, false⟩]
 (.nil))))))))
 (.ops [iO 58 (.mv 5), iO 59 (.bin .add .int 58 (aI 1)), iO 5 (.mv 59)]))
def f44b2 (G : Nat → AVal) : MC :=
 .seq (.seq (.ops [iO 90 (.mv 6), iO 91 (.faddr 16 1), iO 92 (.load false 1 91), iO 93 (.lenS 92), iO 94 (.bin .lss .int 90 93)])
 (.cond 94
 (.skip)
 (.exit 4)))
 (.seq (.block 5
 (.seq (.seq (.ops [iO 97 (.mv 6), iO 98 (.bin .eql .int 97 (aI 0))])
 (.cond 98
 (.ops [iO 99 (.mv 3), iO 100 (.bin .add .int 99 (aS [32, 79, 82, 68, 69, 82, 32, 66, 89, 32])), iO 3 (.mv 100)])
 (.skip)))
 (.seq (.draw (.rd [⟨0, iO 101 (.mv 3), false, true⟩, ⟨1, iO 102 (.mv 6), false, false⟩, ⟨3, iO 104 (.faddr 16 1), false, true⟩, ⟨4, iO 105 (.load false 1 104), false, true⟩, ⟨5, iO 106 (.mv 6), false, true⟩, ⟨6, iO 107 (.iaddr 8 105 106), false, true⟩, ⟨7, iO 108 (.faddr 0 107), false, true⟩, ⟨8, iO 109 (.load true 7 108), false, true⟩]
 (.ef ⟨2, iC 103 42 [102], true, false⟩ [0, 3, 4, 5, 6, 7, 8]
 (.ef ⟨9, iC 110 43 [109], true, false⟩ [0]
 (.rd [⟨10, iO 111 (.bin .add .int 103 110), false, false⟩, ⟨11, iO 112 (.bin .add .int 101 111), false, false⟩, ⟨12, iO 3 (.mv 112), false, false⟩]
 (.nil))))))
 (.seq (.ops [iO 113 (.faddr 16 1), iO 114 (.load false 1 113), iO 115 (.mv 6), iO 116 (.iaddr 8 114 115), iO 117 (.faddr 7 116), iO 118 (.load false 1 117)])
 (.cond 118
 (.ops [iO 119 (.mv 3), iO 120 (.bin .add .int 119 (aS [32, 68, 69, 83, 67])), iO 3 (.mv 120)])
 (.skip))))))
 (.ops [iO 95 (.mv 6), iO 96 (.bin .add .int 95 (aI 1)), iO 6 (.mv 96)]))
def f44m (G : Nat → AVal) : MC :=
 .seq (.ops [iO 1 (.box true 18 0), iO 2 (.mv (aS []))])
 (.seq (.ops [iO 3 (.mv (aS [83, 69, 76, 69, 67, 84, 32]))])
 (.seq (.seq (.ops [iO 7 (.faddr 7 1), iO 8 (.load false 1 7), iO 9 (.lenS 8), iO 10 (.bin .eql .int 9 (aI 0))])
 (.cond 10
 (.ops [iO 11 (.mv 3), iO 12 (.bin .add .int 11 (aS [42])), iO 3 (.mv 12)])
 (.skip)))
 (.seq (.seq (.ops [iO 4 (.mv (aI 0))])
 (.block 0
 (.loop (f44b0 G))))
 (.seq (.draw (.rd [⟨0, iO 39 (.mv 3), false, true⟩, ⟨1, iO 40 (.faddr 8 1), false, false⟩, ⟨2, iO 41 (.load false 1 40), false, false⟩, ⟨3, iO 42 (.iaddr 9 41 (aI 0)), false, false⟩, ⟨4, iO 43 (.faddr 0 42), false, false⟩, ⟨5, iO 44 (.load false 1 43), false, false⟩, ⟨6, iO 45 (.faddr 8 1), false, false⟩, ⟨7, iO 46 (.load false 1 45), false, false⟩, ⟨8, iO 47 (.iaddr 9 46 (aI 0)), false, false⟩, ⟨9, iO 48 (.faddr 1 47), false, false⟩, ⟨10, iO 49 (.load false 1 48), false, false⟩]
 (.ef ⟨11, iC 50 98 [44, 49], true, false⟩ [0]
 (.rd [⟨12, iO 51 (.bin .add .int (aS [32, 70, 82, 79, 77, 32]) 50), false, false⟩, ⟨13, iO 52 (.bin .add .int 39 51), false, false⟩, ⟨14, iO 3 (.mv 52), false, false⟩]
 (.nil)))))
 (.seq (.seq (.ops [iO 5 (.mv (aI 1))])
 (.block 2
 (.loop (f44b1 G))))
 (.seq (.ops [iO 85 (.mv 3), iO 86 (.faddr 9 1), iO 87 (.load true 7 86), iC 88 45 [87], iO 89 (.bin .add .int 85 88), iO 3 (.mv 89)])
 (.seq (.seq (.ops [iO 6 (.mv (aI 0))])
 (.block 4
 (.loop (f44b2 G))))
 (.seq (.ops [iO 121 (.mv 3), iO 2 (.mv 121)])
 (.ret)))))))))
def f44 (G : Nat → AVal) : AFn := ⟨122, [.tmp 2], f44m G⟩
theorem f44_c (G : Nat → AVal) : cmpFn Tryz.prog G [] 44 = some (f44 G) := by kernel_rfl
def f45m (G : Nat → AVal) : MC :=
 .seq (.ops [iO 1 (.box true 7 0), iO 2 (.mv (aS []))])
 (.seq (.seq (.ops [iO 3 (.faddr 0 1), iO 4 (.load false 1 3), iO 5 (.bin .eql .int 4 (aI 0))])
 (.cond 5
 (.seq (.ops [iO 2 (.mv (aS []))])
 (.ret))
 (.skip)))
 (.seq (.ops [iO 6 (.load true 7 1), iC 7 43 [6], iO 8 (.bin .add .int (aS [32, 87, 72, 69, 82, 69, 32]) 7), iO 2 (.mv 8)])
 (.ret)))
def f45 (G : Nat → AVal) : AFn := ⟨9, [.tmp 2], f45m G⟩
theorem f45_c (G : Nat → AVal) : cmpFn Tryz.prog G [] 45 = some (f45 G) := by kernel_rfl
def f66m (G : Nat → AVal) : MC :=
 .seq (.ops [iO 2 (.mv (.val (.bool false)))])
 (.seq (.ops [iO 3 (.mv 0), iC 4 107 [3], iO 2 (.mv 4)])
 (.ret))
def f66 (G : Nat → AVal) : AFn := ⟨5, [.tmp 2], f66m G⟩
theorem f66_c (G : Nat → AVal) : cmpFn Tryz.prog G [] 66 = some (f66 G) := by kernel_rfl
def f67m (G : Nat → AVal) : MC :=
 .seq (.ops [iO 6 (.mv (.val (.bool false)))])
 (.seq (.ops [iO 7 (.mv 0), iO 8 (.mv 1), iO 9 (.bin .geq .int 7 8), iO 10 (.mv 9), iG 11 10 true (.mv 0), iG 12 10 true (.mv 2), iG 13 10 true (.bin .leq .int 11 12), iO 14 (.pick 10 13 (.val (.bool false))), iO 6 (.mv 14)])
 (.ret))
def f67 (G : Nat → AVal) : AFn := ⟨15, [.tmp 6], f67m G⟩
theorem f67_c (G : Nat → AVal) : cmpFn Tryz.prog G [] 67 = some (f67 G) := by kernel_rfl
def f69b0 (G : Nat → AVal) : MC :=
 .seq (.seq (.ops [iO 39 (.mv 3), iO 40 (.faddr 7 1), iO 41 (.load false 1 40), iO 42 (.lenS 41), iO 43 (.bin .lss .int 39 42)])
 (.cond 43
 (.skip)
 (.exit 0)))
 (.seq (.block 1
 (.seq (.ops [iO 46 (.faddr 7 1), iO 47 (.load false 1 46), iO 48 (.mv 3), iO 49 (.iaddr 8 47 48), iO 50 (.faddr 0 49), iO 51 (.load true 7 50), iC 52 68 [51], iO 53 (.un .not 52), iO 54 (.mv 53), iG 55 54 false (.faddr 7 1), iG 56 54 false (.load false 1 55), iG 57 54 false (.mv 3), iG 58 54 false (.iaddr 8 56 57), iG 59 54 false (.faddr 7 58), iG 60 54 false (.load false 1 59), iG 61 54 false (.bin .neq .str 60 (aS [])), iG 62 54 false (.mv 61), iG 63 62 true (.faddr 7 1), iG 64 62 true (.load false 1 63), iG 65 62 true (.mv 3), iG 66 62 true (.iaddr 8 64 65), iG 67 62 true (.faddr 7 66), iG 68 62 true (.load false 1 67), ⟨some 69, some (62, true), .call 66 [68]⟩, iG 70 62 true (.un .not 69), iG 71 54 false (.pick 62 70 (.val (.bool false))), iO 72 (.pick 54 (.val (.bool true)) 71)])
 (.cond 72
 (.seq (.ops [iO 2 (.mv (.val (.bool false)))])
 (.ret))
 (.skip))))
 (.ops [iO 44 (.mv 3), iO 45 (.bin .add .int 44 (aI 1)), iO 3 (.mv 45)]))
def f69b1 (G : Nat → AVal) : MC :=
 .seq (.seq (.ops [iO 73 (.mv 4), iO 74 (.faddr 8 1), iO 75 (.load false 1 74), iO 76 (.lenS 75), iO 77 (.bin .lss .int 73 76)])
 (.cond 77
 (.skip)
 (.exit 2)))
 (.seq (.block 3
 (.seq (.ops [iO 80 (.faddr 8 1), iO 81 (.load false 1 80), iO 82 (.mv 4), iO 83 (.iaddr 9 81 82), iO 84 (.load true 9 83), iO 5 (.alloc 9 [.str [], .str [], .int 0, .nilS, .int 0, .int 0, .int 0, .str [], .str []]), iZ (.store true 9 5 84)])
 (.seq (.ops [iO 85 (.faddr 0 5), iO 86 (.load false 1 85), iC 87 66 [86], iO 88 (.un .not 87), iO 89 (.mv 88), iG 90 89 false (.faddr 1 5), iG 91 89 false (.load false 1 90), iG 92 89 false (.bin .neq .str 91 (aS [])), iG 93 89 false (.mv 92), iG 94 93 true (.faddr 1 5), iG 95 93 true (.load false 1 94), ⟨some 96, some (93, true), .call 66 [95]⟩, iG 97 93 true (.un .not 96), iG 98 89 false (.pick 93 97 (.val (.bool false))), iO 99 (.pick 89 (.val (.bool true)) 98), iO 100 (.mv 99), iG 101 100 false (.mv 4), iG 102 100 false (.bin .eql .int 101 (aI 0)), iG 103 100 false (.mv 102), iG 104 103 true (.faddr 2 5), iG 105 103 true (.load true 7 104), ⟨some 106, some (103, true), .call 110 [105]⟩, iG 107 103 true (.un .not 106), iG 108 100 false (.pick 103 107 (.val (.bool false))), iO 109 (.pick 100 (.val (.bool true)) 108), iO 110 (.mv 109), iG 111 110 false (.mv 4), iG 112 110 false (.bin .gtr .int 111 (aI 0)), iG 113 110 false (.mv 112), iG 114 113 true (.faddr 2 5), iG 115 113 true (.load true 7 114), ⟨some 116, some (113, true), .call 68 [115]⟩, iG 117 113 true (.un .not 116), iG 118 110 false (.pick 113 117 (.val (.bool false))), iO 119 (.pick 110 (.val (.bool true)) 118)])
 (.cond 119
 (.seq (.ops [iO 2 (.mv (.val (.bool false)))])
 (.ret))
 (.skip)))))
 (.ops [iO 78 (.mv 4), iO 79 (.bin .add .int 78 (aI 1)), iO 4 (.mv 79)]))
def f69b2 (G : Nat → AVal) : MC :=
 .seq (.seq (.ops [iO 120 (.mv 6), iO 121 (.faddr 16 1), iO 122 (.load false 1 121), iO 123 (.lenS 122), iO 124 (.bin .lss .int 120 123)])
 (.cond 124
 (.skip)
 (.exit 4)))
 (.seq (.block 5
 (.seq (.ops [iO 127 (.faddr 16 1), iO 128 (.load false 1 127), iO 129 (.mv 6), iO 130 (.iaddr 8 128 129), iO 131 (.faddr 0 130), iO 132 (.load true 7 131), iC 133 68 [132], iO 134 (.un .not 133)])
 (.cond 134
 (.seq (.ops [iO 2 (.mv (.val (.bool false)))])
 (.ret))
 (.skip))))
 (.ops [iO 125 (.mv 6), iO 126 (.bin .add .int 125 (aI 1)), iO 6 (.mv 126)]))
def f69m (G : Nat → AVal) : MC :=
 .seq (.ops [iO 1 (.box true 18 0), iO 2 (.mv (.val (.bool false)))])
 (.seq (.seq (.ops [iO 7 (.faddr 0 1), iO 8 (.load false 1 7), iO 9 (.bin .neq .int 8 (aI 6))])
 (.cond 9
 (.seq (.ops [iO 10 (.faddr 7 1), iO 11 (.load false 1 10), iO 12 (.lenS 11), iO 13 (.faddr 8 1), iO 14 (.load false 1 13), iO 15 (.lenS 14), iO 16 (.bin .add .int 12 15), iO 17 (.faddr 16 1), iO 18 (.load false 1 17), iO 19 (.lenS 18), iO 20 (.bin .add .int 16 19), iO 21 (.bin .eql .int 20 (aI 0)), iO 2 (.mv 21)])
 (.ret))
 (.skip)))
 (.seq (.seq (.ops [iO 22 (.faddr 7 1), iO 23 (.load false 1 22), iO 24 (.lenS 23), iO 25 (.bin .gtr .int 24 (aI 50)), iO 26 (.mv 25), iG 27 26 false (.faddr 8 1), iG 28 26 false (.load false 1 27), iG 29 26 false (.lenS 28), ⟨some 30, some (26, false), .call 67 [29, (aI 1), (aI 4)]⟩, iG 31 26 false (.un .not 30), iO 32 (.pick 26 (.val (.bool true)) 31), iO 33 (.mv 32), iG 34 33 false (.faddr 16 1), iG 35 33 false (.load false 1 34), iG 36 33 false (.lenS 35), iG 37 33 false (.bin .gtr .int 36 (aI 50)), iO 38 (.pick 33 (.val (.bool true)) 37)])
 (.cond 38
 (.seq (.ops [iO 2 (.mv (.val (.bool false)))])
 (.ret))
 (.skip)))
 (.seq (.seq (.ops [iO 3 (.mv (aI 0))])
 (.block 0
 (.loop (f69b0 G))))
 (.seq (.seq (.ops [iO 4 (.mv (aI 0))])
 (.block 2
 (.loop (f69b1 G))))
 (.seq (.seq (.ops [iO 6 (.mv (aI 0))])
 (.block 4
 (.loop (f69b2 G))))
 (.seq (.ops [iO 2 (.mv (.val (.bool true)))])
 (.ret)))))))
def f69 (G : Nat → AVal) : AFn := ⟨135, [.tmp 2], f69m G⟩
theorem f69_c (G : Nat → AVal) : cmpFn Tryz.prog G [] 69 = some (f69 G) := by kernel_rfl
def f70b0 (G : Nat → AVal) : MC :=
 .seq (.seq (.ops [iO 25 (.mv 3), iO 26 (.faddr 17 1), iO 27 (.load false 1 26), iO 28 (.lenS 27), iO 29 (.bin .lss .int 25 28)])
 (.cond 29
 (.skip)
 (.exit 0)))
 (.seq (.block 1
 (.seq (.ops [iO 32 (.faddr 17 1), iO 33 (.load false 1 32), iO 34 (.mv 3), iO 35 (.iaddr 8 33 34), iO 36 (.faddr 0 35), iO 37 (.load false 1 36), iC 38 66 [37], iO 39 (.un .not 38), iO 40 (.mv 39), iG 41 40 false (.faddr 17 1), iG 42 40 false (.load false 1 41), iG 43 40 false (.mv 3), iG 44 40 false (.iaddr 8 42 43), iG 45 40 false (.faddr 1 44), iG 46 40 false (.load true 7 45), ⟨some 47, some (40, false), .call 68 [46]⟩, iG 48 40 false (.un .not 47), iO 49 (.pick 40 (.val (.bool true)) 48)])
 (.cond 49
 (.seq (.ops [iO 2 (.mv (.val (.bool false)))])
 (.ret))
 (.skip))))
 (.ops [iO 30 (.mv 3), iO 31 (.bin .add .int 30 (aI 1)), iO 3 (.mv 31)]))
def f70m (G : Nat → AVal) : MC :=
 .seq (.ops [iO 1 (.box true 18 0), iO 2 (.mv (.val (.bool false)))])
 (.seq (.seq (.ops [iO 4 (.faddr 0 1), iO 5 (.load false 1 4), iO 6 (.bin .eql .int 5 (aI 7)), iO 7 (.mv 6), iG 8 7 true (.faddr 17 1), iG 9 7 true (.load false 1 8), iG 10 7 true (.lenS 9), ⟨some 11, some (7, true), .call 67 [10, (aI 1), (aI 50)]⟩, iG 12 7 true (.un .not 11), iO 13 (.pick 7 12 (.val (.bool false))), iO 14 (.mv 13), iG 15 14 false (.faddr 0 1), iG 16 14 false (.load false 1 15), iG 17 14 false (.bin .neq .int 16 (aI 7)), iG 18 14 false (.mv 17), iG 19 18 true (.faddr 17 1), iG 20 18 true (.load false 1 19), iG 21 18 true (.lenS 20), iG 22 18 true (.bin .gtr .int 21 (aI 0)), iG 23 14 false (.pick 18 22 (.val (.bool false))), iO 24 (.pick 14 (.val (.bool true)) 23)])
 (.cond 24
 (.seq (.ops [iO 2 (.mv (.val (.bool false)))])
 (.ret))
 (.skip)))
 (.seq (.seq (.ops [iO 3 (.mv (aI 0))])
 (.block 0
 (.loop (f70b0 G))))
 (.seq (.seq (.ops [iO 50 (.faddr 0 1), iO 51 (.load false 1 50), iO 52 (.bin .lss .int 51 (aI 6)), iO 53 (.mv 52), iG 54 53 false (.faddr 0 1), iG 55 53 false (.load false 1 54), iG 56 53 false (.bin .gtr .int 55 (aI 8)), iO 57 (.pick 53 (.val (.bool true)) 56)])
 (.cond 57
 (.seq (.ops [iO 58 (.faddr 9 1), iO 59 (.load true 7 58), iC 60 110 [59], iO 2 (.mv 60)])
 (.ret))
 (.skip)))
 (.seq (.ops [iO 61 (.faddr 9 1), iO 62 (.load true 7 61), iC 63 111 [62], iO 2 (.mv 63)])
 (.ret)))))
def f70 (G : Nat → AVal) : AFn := ⟨64, [.tmp 2], f70m G⟩
theorem f70_c (G : Nat → AVal) : cmpFn Tryz.prog G [] 70 = some (f70 G) := by kernel_rfl
def f98m (G : Nat → AVal) : MC :=
 .seq (.ops [iO 4 (.mv (aS []))])
 (.seq (.seq (.ops [iO 5 (.mv 1), iO 6 (.bin .neq .str 5 (aS []))])
 (.cond 6
 (.seq (.ops [iO 7 (.mv 0), iO 8 (.bin .add .int 7 (aS [32, 65, 83, 32])), iO 9 (.mv 1), iO 10 (.bin .add .int 8 9), iO 4 (.mv 10)])
 (.ret))
 (.skip)))
 (.seq (.ops [iO 11 (.mv 0), iO 4 (.mv 11)])
 (.ret)))
def f98 (G : Nat → AVal) : AFn := ⟨12, [.tmp 4], f98m G⟩
theorem f98_c (G : Nat → AVal) : cmpFn Tryz.prog G [] 98 = some (f98 G) := by kernel_rfl
def f110m (G : Nat → AVal) : MC :=
 .seq (.ops [iO 1 (.box true 7 0), iO 2 (.mv (.val (.bool false)))])
 (.seq (.ops [iO 3 (.load true 7 1), iO 4 (.build [.int 0, .nilS, .int 0, .int 0, .int 0, .str [], .str []] []), iC 5 28 [3, 4], iO 2 (.mv 5)])
 (.ret))
def f110 (G : Nat → AVal) : AFn := ⟨6, [.tmp 2], f110m G⟩
theorem f110_c (G : Nat → AVal) : cmpFn Tryz.prog G [] 110 = some (f110 G) := by kernel_rfl
def f111m (G : Nat → AVal) : MC :=
 .seq (.ops [iO 1 (.box true 7 0), iO 2 (.mv (.val (.bool false)))])
 (.seq (.ops [iO 3 (.load true 7 1), iC 4 110 [3], iO 5 (.mv 4), iG 6 5 false (.load true 7 1), ⟨some 7, some (5, false), .call 68 [6]⟩, iO 8 (.pick 5 (.val (.bool true)) 7), iO 2 (.mv 8)])
 (.ret))
def f111 (G : Nat → AVal) : AFn := ⟨9, [.tmp 2], f111m G⟩
theorem f111_c (G : Nat → AVal) : cmpFn Tryz.prog G [] 111 = some (f111 G) := by kernel_rfl
end Go.Abs
