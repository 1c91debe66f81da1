/- More of the seat's functions, translated; the checks. Conditions: none. -/
import Derived.Test.YtcogkenmdbaiiaaGreatDoorMF
import Derived.Test.YtcogkenmdbaiiaaGreatDoorA25
import Derived.Test.YtcogkenmdbaiiaaGreatDoorProg
import Derived.KernelRfl
set_option linter.unusedVariables false
namespace Go.Abs
open Go Go.RowKit Go.Proofs
def f3m (G : Nat → AVal) : MC :=
 .seq (.ops [iO 0 (.mv (.val (.bool false)))])
 (.seq (.seq (.ops [iC 1 8 [], iO 2 (.un .not 1)])
 (.cond 2
 (.seq (.ops [iO 0 (.mv (.val (.bool false)))])
 (.ret))
 (.skip)))
 (.seq (.ops [iO 0 (.mv (.val (.bool true)))])
 (.ret)))
def f3 (G : Nat → AVal) : AFn := ⟨3, [.tmp 0], f3m G⟩
def f4m (G : Nat → AVal) : MC :=
 .seq (.ops [iO 2 (.mv (.val (.bool false)))])
 (.seq (.seq (.ops [iC 7 8 [], iO 8 (.un .not 7)])
 (.cond 8
 (.seq (.ops [iO 2 (.mv (.val (.bool false)))])
 (.ret))
 (.skip)))
 (.seq (.ops [iO 10 (.mv 0), iC 11 9 [10], iO 9 (.mv 11), iO 12 (.extract 9 0), iO 13 (.extract 9 1), iO 3 (.alloc 18 [.int 0, .str [], .str [], .nilS, .nilS, .bool false, .nilS, .nilS, .nilS, .int 0, .nilS, .int 0, .int 0, .int 0, .str [], .str [], .nilS, .nilS]), iZ (.store true 18 3 12), iO 4 (.mv 13)])
 (.seq (.ops [iO 15 (.mv 0), iC 16 10 [15], iO 14 (.mv 16), iO 17 (.extract 14 0), iO 18 (.extract 14 1), iO 5 (.alloc 18 [.int 0, .str [], .str [], .nilS, .nilS, .bool false, .nilS, .nilS, .nilS, .int 0, .nilS, .int 0, .int 0, .int 0, .str [], .str [], .nilS, .nilS]), iZ (.store true 18 5 17), iO 6 (.mv 18)])
 (.seq (.ops [iO 19 (.mv 4), iO 20 (.mv 6), iO 21 (.bin .eql .int 19 20), iO 22 (.mv 21), iG 23 22 true (.load true 18 3), iG 24 22 true (.load true 18 5), ⟨some 25, some (22, true), .call 11 [23, 24]⟩, iO 26 (.pick 22 25 (.val (.bool false))), iO 2 (.mv 26)])
 (.ret)))))
def f4 (G : Nat → AVal) : AFn := ⟨27, [.tmp 2], f4m G⟩
theorem f4_c (G : Nat → AVal) : cmpFn Tryz.prog G [] 4 = some (f4 G) := by kernel_rfl
def f5b0 (G : Nat → AVal) : MC :=
 .seq (.ops [iO 28 (.bin .lss .int 27 26)])
 (.seq (.cond 28
 (.skip)
 (.exit 0))
 (.seq (.block 1
 (.seq (.ops [iO 29 (.iaddr 4 25 27), iO 30 (.load true 4 29), iO 10 (.alloc 4 [.int 0, .str [], .int 0, .int 0]), iZ (.store true 4 10 30)])
 (.seq (.ops [iO 31 (.mv 8), iO 32 (.load true 4 10), iC 33 13 [32], iO 34 (.conv .strBytes 33), iO 35 (.append 1 1 31 34), iO 8 (.mv 35)])
 (.ops [iO 36 (.mv 8), iO 37 (.mv 7), iO 38 (.mv 1), iO 39 (.bin .and .int 38 (.val (.atom (.int .u8 3)))), iO 40 (.idxS 37 39), iO 41 (.bslice false 1 1 [.atom (.int .u8 0)] [(0, 40)]), iO 42 (.append 1 1 36 41), iO 8 (.mv 42)]))))
 (.ops [iO 43 (.bin .add .int 27 (aI 1)), iO 27 (.mv 43)])))
def f5m (G : Nat → AVal) : MC :=
 .seq (.ops [iO 4 (.mv (.val (.bool false)))])
 (.seq (.seq (.ops [iC 15 8 [], iO 16 (.un .not 15)])
 (.cond 16
 (.seq (.ops [iO 4 (.mv (.val (.bool false)))])
 (.ret))
 (.skip)))
 (.seq (.ops [iO 18 (.mv 0), iC 19 12 [18], iO 17 (.mv 19), iO 20 (.extract 17 0), iO 21 (.extract 17 1), iO 5 (.mv 20), iO 6 (.mv 21)])
 (.seq (.seq (.ops [iO 22 (.mv 6), iO 23 (.bin .neq .int 22 (aI 0))])
 (.cond 23
 (.seq (.ops [iO 4 (.mv (.val (.bool true)))])
 (.ret))
 (.skip)))
 (.seq (.ops [iO 7 (.mv (aS [32, 9, 10, 13]))])
 (.seq (.ops [iO 24 (.bslice false 1 0 [.atom (.int .u8 0)] []), iO 8 (.mv 24)])
 (.seq (.seq (.ops [iO 25 (.mv 5), iO 26 (.lenS 25), iO 27 (.mv (aI 0))])
 (.block 0
 (.loop (f5b0 G))))
 (.seq (.seq (.ops [iO 44 (.mv 8), iO 45 (.lenS 44), iO 46 (.bin .gtr .int 45 (aI 4000))])
 (.cond 46
 (.seq (.ops [iO 4 (.mv (.val (.bool true)))])
 (.ret))
 (.skip)))
 (.seq (.ops [iO 48 (.mv 0), iC 49 9 [48], iO 47 (.mv 49), iO 50 (.extract 47 0), iO 51 (.extract 47 1), iO 11 (.alloc 18 [.int 0, .str [], .str [], .nilS, .nilS, .bool false, .nilS, .nilS, .nilS, .int 0, .nilS, .int 0, .int 0, .int 0, .str [], .str [], .nilS, .nilS]), iZ (.store true 18 11 50), iO 12 (.mv 51)])
 (.seq (.ops [iO 53 (.mv 8), iO 54 (.conv .bytesStr 53), iC 55 9 [54], iO 52 (.mv 55), iO 56 (.extract 52 0), iO 57 (.extract 52 1), iO 13 (.alloc 18 [.int 0, .str [], .str [], .nilS, .nilS, .bool false, .nilS, .nilS, .nilS, .int 0, .nilS, .int 0, .int 0, .int 0, .str [], .str [], .nilS, .nilS]), iZ (.store true 18 13 56), iO 14 (.mv 57)])
 (.seq (.ops [iO 58 (.mv 12), iO 59 (.mv 14), iO 60 (.bin .eql .int 58 59), iO 61 (.mv 60), iG 62 61 true (.load true 18 11), iG 63 61 true (.load true 18 13), ⟨some 64, some (61, true), .call 11 [62, 63]⟩, iO 65 (.pick 61 64 (.val (.bool false))), iO 4 (.mv 65)])
 (.ret)))))))))))
def f5 (G : Nat → AVal) : AFn := ⟨66, [.tmp 4], f5m G⟩
def f6b0 (G : Nat → AVal) : MC :=
 .seq (.ops [iO 17 (.bin .lss .int 16 15)])
 (.seq (.cond 17
 (.skip)
 (.exit 0))
 (.seq (.block 1
 (.seq (.ops [iO 18 (.mv 16), iO 5 (.mv 18)])
 (.seq (.seq (.ops [iO 19 (.mv 3), iO 20 (.mv 5), iO 21 (.iaddr 1 19 20), iO 22 (.load false 1 21), iO 23 (.bin .eql .int 22 (.val (.atom (.int .u8 39))))])
 (.cond 23
 (.ops [iO 24 (.mv 4), iO 25 (.un .not 24), iO 4 (.mv 25)])
 (.skip)))
 (.seq (.ops [iO 26 (.mv 4), iO 27 (.un .not 26), iO 28 (.mv 27), iG 29 28 true (.mv 3), iG 30 28 true (.mv 5), iG 31 28 true (.iaddr 1 29 30), iG 32 28 true (.load false 1 31), iG 33 28 true (.bin .geq .int 32 (.val (.atom (.int .u8 97)))), iO 34 (.pick 28 33 (.val (.bool false))), iO 35 (.mv 34), iG 36 35 true (.mv 3), iG 37 35 true (.mv 5), iG 38 35 true (.iaddr 1 36 37), iG 39 35 true (.load false 1 38), iG 40 35 true (.bin .leq .int 39 (.val (.atom (.int .u8 122)))), iO 41 (.pick 35 40 (.val (.bool false)))])
 (.cond 41
 (.ops [iO 42 (.mv 3), iO 43 (.mv 5), iO 44 (.iaddr 1 42 43), iO 45 (.load false 1 44), iO 46 (.bin .sub .int 45 (.val (.atom (.int .u8 32)))), iO 47 (.iaddr 1 42 43), iZ (.store false 1 47 46)])
 (.skip))))))
 (.ops [iO 48 (.bin .add .int 16 (aI 1)), iO 16 (.mv 48)])))
def f6m (G : Nat → AVal) : MC :=
 .seq (.ops [iO 2 (.mv (.val (.bool false)))])
 (.seq (.seq (.ops [iC 10 8 [], iO 11 (.un .not 10)])
 (.cond 11
 (.seq (.ops [iO 2 (.mv (.val (.bool false)))])
 (.ret))
 (.skip)))
 (.seq (.ops [iO 12 (.mv 0), iO 13 (.conv .strBytes 12), iO 3 (.mv 13), iO 4 (.mv (.val (.bool false)))])
 (.seq (.seq (.ops [iO 14 (.mv 3), iO 15 (.lenS 14), iO 16 (.mv (aI 0))])
 (.block 0
 (.loop (f6b0 G))))
 (.seq (.ops [iO 50 (.mv 0), iC 51 9 [50], iO 49 (.mv 51), iO 52 (.extract 49 0), iO 53 (.extract 49 1), iO 6 (.alloc 18 [.int 0, .str [], .str [], .nilS, .nilS, .bool false, .nilS, .nilS, .nilS, .int 0, .nilS, .int 0, .int 0, .int 0, .str [], .str [], .nilS, .nilS]), iZ (.store true 18 6 52), iO 7 (.mv 53)])
 (.seq (.ops [iO 55 (.mv 3), iO 56 (.conv .bytesStr 55), iC 57 9 [56], iO 54 (.mv 57), iO 58 (.extract 54 0), iO 59 (.extract 54 1), iO 8 (.alloc 18 [.int 0, .str [], .str [], .nilS, .nilS, .bool false, .nilS, .nilS, .nilS, .int 0, .nilS, .int 0, .int 0, .int 0, .str [], .str [], .nilS, .nilS]), iZ (.store true 18 8 58), iO 9 (.mv 59)])
 (.seq (.ops [iO 60 (.mv 7), iO 61 (.mv 9), iO 62 (.bin .eql .int 60 61), iO 63 (.mv 62), iG 64 63 true (.load true 18 6), iG 65 63 true (.load true 18 8), ⟨some 66, some (63, true), .call 11 [64, 65]⟩, iO 67 (.pick 63 66 (.val (.bool false))), iO 2 (.mv 67)])
 (.ret)))))))
def f6 (G : Nat → AVal) : AFn := ⟨68, [.tmp 2], f6m G⟩
def f8m (G : Nat → AVal) : MC :=
 .seq (.ops [iO 0 (.mv (.val (.bool false)))])
 (.seq (.ops [iC 7 9 [(aS [68, 69, 76, 69, 84, 69, 32, 70, 82, 79, 77, 32, 116, 32, 87, 72, 69, 82, 69, 32, 78, 79, 84, 32, 97, 32, 61, 32, 45, 49, 32, 43, 32, 98, 32, 42, 32, 50])], iO 6 (.mv 7), iO 8 (.extract 6 0), iO 9 (.extract 6 1), iO 1 (.alloc 18 [.int 0, .str [], .str [], .nilS, .nilS, .bool false, .nilS, .nilS, .nilS, .int 0, .nilS, .int 0, .int 0, .int 0, .str [], .str [], .nilS, .nilS]), iZ (.store true 18 1 8), iO 2 (.mv 9)])
 (.seq (.ops [iC 11 9 [(aS [83, 69, 76, 69, 67, 84, 32, 97, 32, 70, 82, 79, 77])], iO 10 (.mv 11), iO 12 (.extract 10 0), iO 13 (.extract 10 1), iO 3 (.alloc 18 [.int 0, .str [], .str [], .nilS, .nilS, .bool false, .nilS, .nilS, .nilS, .int 0, .nilS, .int 0, .int 0, .int 0, .str [], .str [], .nilS, .nilS]), iZ (.store true 18 3 12), iO 4 (.mv 13)])
 (.seq (.ops [iO 14 (.faddr 9 1), iO 15 (.load true 7 14), iO 5 (.alloc 7 [.int 0, .nilS, .int 0, .int 0, .int 0, .str [], .str []]), iZ (.store true 7 5 15)])
 (.seq (.seq (.ops [iO 16 (.mv 2), iO 17 (.bin .neq .int 16 (aI 0)), iO 18 (.mv 17), iG 19 18 false (.mv 4), iG 20 18 false (.bin .neq .int 19 (aI 130)), iO 21 (.pick 18 (.val (.bool true)) 20), iO 22 (.mv 21), iG 23 22 false (.faddr 0 1), iG 24 22 false (.load false 1 23), iG 25 22 false (.bin .neq .int 24 (aI 8)), iO 26 (.pick 22 (.val (.bool true)) 25), iO 27 (.mv 26), iG 28 27 false (.faddr 1 1), iG 29 27 false (.load false 1 28), iG 30 27 false (.bin .neq .str 29 (aS [116])), iO 31 (.pick 27 (.val (.bool true)) 30), iO 32 (.mv 31), iG 33 32 false (.faddr 0 5), iG 34 32 false (.load false 1 33), iG 35 32 false (.bin .neq .int 34 (aI 16)), iO 36 (.pick 32 (.val (.bool true)) 35), iO 37 (.mv 36), iG 38 37 false (.faddr 1 5), iG 39 37 false (.load false 1 38), iG 40 37 false (.lenS 39), iG 41 37 false (.bin .neq .int 40 (aI 1)), iO 42 (.pick 37 (.val (.bool true)) 41), iO 43 (.mv 42), iG 44 43 false (.faddr 1 5), iG 45 43 false (.load false 1 44), iG 46 43 false (.iaddr 7 45 (aI 0)), iG 47 43 false (.faddr 0 46), iG 48 43 false (.load false 1 47), iG 49 43 false (.bin .neq .int 48 (aI 1)), iO 50 (.pick 43 (.val (.bool true)) 49), iO 51 (.mv 50), iG 52 51 false (.faddr 1 5), iG 53 51 false (.load false 1 52), iG 54 51 false (.iaddr 7 53 (aI 0)), iG 55 51 false (.faddr 1 54), iG 56 51 false (.load false 1 55), iG 57 51 false (.lenS 56), iG 58 51 false (.bin .neq .int 57 (aI 2)), iO 59 (.pick 51 (.val (.bool true)) 58)])
 (.cond 59
 (.seq (.ops [iO 0 (.mv (.val (.bool false)))])
 (.ret))
 (.skip)))
 (.seq (.ops [iO 60 (.faddr 1 5), iO 61 (.load false 1 60), iO 62 (.iaddr 7 61 (aI 0)), iO 63 (.faddr 1 62), iO 64 (.load false 1 63), iO 65 (.iaddr 7 64 (aI 1)), iO 66 (.faddr 0 65), iO 67 (.load false 1 66), iO 68 (.bin .eql .int 67 (aI 7)), iO 69 (.mv 68), iG 70 69 true (.load true 7 5), ⟨some 71, some (69, true), .call 18 [70]⟩, iG 72 69 true (.bin .eql .int 71 (aI 4)), iO 73 (.pick 69 72 (.val (.bool false))), iO 0 (.mv 73)])
 (.ret))))))
def f8 (G : Nat → AVal) : AFn := ⟨74, [.tmp 0], f8m G⟩
theorem f8_c (G : Nat → AVal) : cmpFn Tryz.prog G [] 8 = some (f8 G) := by kernel_rfl
def f11b0 (G : Nat → AVal) : MC :=
 .seq (.seq (.ops [iO 107 (.mv 5), iO 108 (.faddr 3 2), iO 109 (.load false 1 108), iO 110 (.lenS 109), iO 111 (.bin .lss .int 107 110)])
 (.cond 111
 (.skip)
 (.exit 0)))
 (.seq (.block 1
 (.seq (.draw (.rd [⟨0, iO 114 (.faddr 3 2), false, false⟩, ⟨1, iO 115 (.load false 1 114), false, false⟩, ⟨2, iO 116 (.mv 5), false, false⟩, ⟨3, iO 117 (.iaddr 3 115 116), false, false⟩, ⟨4, iO 118 (.load true 3 117), false, false⟩, ⟨5, iO 119 (.faddr 3 3), false, false⟩, ⟨6, iO 120 (.load false 1 119), false, false⟩, ⟨7, iO 121 (.mv 5), false, false⟩, ⟨8, iO 122 (.iaddr 3 120 121), false, false⟩, ⟨9, iO 123 (.load true 3 122), false, false⟩, ⟨10, iO 124 (.bin .neq (.agg [(false, 0, 1, .str), (false, 1, 1, .int), (false, 2, 1, .bool)]) 118 123), false, false⟩]
 (.nil)))
 (.cond 124
 (.seq (.ops [iO 4 (.mv (.val (.bool false)))])
 (.ret))
 (.skip))))
 (.ops [iO 112 (.mv 5), iO 113 (.bin .add .int 112 (aI 1)), iO 5 (.mv 113)]))
def f11b1 (G : Nat → AVal) : MC :=
 .seq (.seq (.ops [iO 125 (.mv 6), iO 126 (.faddr 4 2), iO 127 (.load false 1 126), iO 128 (.lenS 127), iO 129 (.bin .lss .int 125 128)])
 (.cond 129
 (.skip)
 (.exit 2)))
 (.seq (.block 3
 (.seq (.draw (.rd [⟨0, iO 132 (.faddr 4 2), false, false⟩, ⟨1, iO 133 (.load false 1 132), false, false⟩, ⟨2, iO 134 (.mv 6), false, false⟩, ⟨3, iO 135 (.iaddr 1 133 134), false, false⟩, ⟨4, iO 136 (.load false 1 135), false, false⟩, ⟨5, iO 137 (.faddr 4 3), false, false⟩, ⟨6, iO 138 (.load false 1 137), false, false⟩, ⟨7, iO 139 (.mv 6), false, false⟩, ⟨8, iO 140 (.iaddr 1 138 139), false, false⟩, ⟨9, iO 141 (.load false 1 140), false, false⟩, ⟨10, iO 142 (.bin .neq .str 136 141), false, false⟩]
 (.nil)))
 (.cond 142
 (.seq (.ops [iO 4 (.mv (.val (.bool false)))])
 (.ret))
 (.skip))))
 (.ops [iO 130 (.mv 6), iO 131 (.bin .add .int 130 (aI 1)), iO 6 (.mv 131)]))
def f11b2 (G : Nat → AVal) : MC :=
 .seq (.seq (.ops [iO 143 (.mv 7), iO 144 (.faddr 6 2), iO 145 (.load false 1 144), iO 146 (.lenS 145), iO 147 (.bin .lss .int 143 146)])
 (.cond 147
 (.skip)
 (.exit 4)))
 (.seq (.block 5
 (.seq (.draw (.rd [⟨0, iO 150 (.faddr 6 2), false, false⟩, ⟨1, iO 151 (.load false 1 150), false, false⟩, ⟨2, iO 152 (.mv 7), false, false⟩, ⟨3, iO 153 (.iaddr 1 151 152), false, false⟩, ⟨4, iO 154 (.load false 1 153), false, false⟩, ⟨5, iO 155 (.faddr 6 3), false, false⟩, ⟨6, iO 156 (.load false 1 155), false, false⟩, ⟨7, iO 157 (.mv 7), false, false⟩, ⟨8, iO 158 (.iaddr 1 156 157), false, false⟩, ⟨9, iO 159 (.load false 1 158), false, false⟩]
 (.ef ⟨10, iC 160 25 [154, 159], true, false⟩ []
 (.rd [⟨11, iO 161 (.un .not 160), false, false⟩]
 (.nil)))))
 (.cond 161
 (.seq (.ops [iO 4 (.mv (.val (.bool false)))])
 (.ret))
 (.skip))))
 (.ops [iO 148 (.mv 7), iO 149 (.bin .add .int 148 (aI 1)), iO 7 (.mv 149)]))
def f11b3 (G : Nat → AVal) : MC :=
 .seq (.seq (.ops [iO 162 (.mv 8), iO 163 (.faddr 7 2), iO 164 (.load false 1 163), iO 165 (.lenS 164), iO 166 (.bin .lss .int 162 165)])
 (.cond 166
 (.skip)
 (.exit 6)))
 (.seq (.block 7
 (.seq (.draw (.rd [⟨0, iO 169 (.faddr 7 2), false, false⟩, ⟨1, iO 170 (.load false 1 169), false, false⟩, ⟨2, iO 171 (.mv 8), false, false⟩, ⟨3, iO 172 (.iaddr 8 170 171), false, false⟩, ⟨4, iO 173 (.faddr 7 172), false, false⟩, ⟨5, iO 174 (.load false 1 173), false, false⟩, ⟨6, iO 175 (.faddr 7 3), false, false⟩, ⟨7, iO 176 (.load false 1 175), false, false⟩, ⟨8, iO 177 (.mv 8), false, false⟩, ⟨9, iO 178 (.iaddr 8 176 177), false, false⟩, ⟨10, iO 179 (.faddr 7 178), false, false⟩, ⟨11, iO 180 (.load false 1 179), false, false⟩, ⟨12, iO 181 (.bin .neq .str 174 180), false, false⟩, ⟨13, iO 182 (.mv 181), false, false⟩, ⟨14, iG 183 182 false (.faddr 7 2), false, false⟩, ⟨15, iG 184 182 false (.load false 1 183), false, false⟩, ⟨16, iG 185 182 false (.mv 8), false, false⟩, ⟨17, iG 186 182 false (.iaddr 8 184 185), false, false⟩, ⟨18, iG 187 182 false (.faddr 0 186), false, false⟩, ⟨19, iG 188 182 false (.load true 7 187), false, false⟩, ⟨20, iG 189 182 false (.faddr 7 3), false, false⟩, ⟨21, iG 190 182 false (.load false 1 189), false, false⟩, ⟨22, iG 191 182 false (.mv 8), false, false⟩, ⟨23, iG 192 182 false (.iaddr 8 190 191), false, false⟩, ⟨24, iG 193 182 false (.faddr 0 192), false, false⟩, ⟨25, iG 194 182 false (.load true 7 193), false, false⟩]
 (.ef ⟨26, ⟨some 195, some (182, false), .call 17 [188, 194]⟩, true, false⟩ []
 (.rd [⟨27, iG 196 182 false (.un .not 195), false, false⟩, ⟨28, iO 197 (.pick 182 (.val (.bool true)) 196), false, false⟩]
 (.nil)))))
 (.cond 197
 (.seq (.ops [iO 4 (.mv (.val (.bool false)))])
 (.ret))
 (.skip))))
 (.ops [iO 167 (.mv 8), iO 168 (.bin .add .int 167 (aI 1)), iO 8 (.mv 168)]))
def f11b4 (G : Nat → AVal) : MC :=
 .seq (.seq (.ops [iO 198 (.mv 9), iO 199 (.faddr 8 2), iO 200 (.load false 1 199), iO 201 (.lenS 200), iO 202 (.bin .lss .int 198 201)])
 (.cond 202
 (.skip)
 (.exit 8)))
 (.seq (.block 9
 (.seq (.draw (.rd [⟨0, iO 205 (.faddr 8 2), false, false⟩, ⟨1, iO 206 (.load false 1 205), false, false⟩, ⟨2, iO 207 (.mv 9), false, false⟩, ⟨3, iO 208 (.iaddr 9 206 207), false, false⟩, ⟨4, iO 209 (.faddr 0 208), false, false⟩, ⟨5, iO 210 (.load false 1 209), false, false⟩, ⟨6, iO 211 (.faddr 8 3), false, false⟩, ⟨7, iO 212 (.load false 1 211), false, false⟩, ⟨8, iO 213 (.mv 9), false, false⟩, ⟨9, iO 214 (.iaddr 9 212 213), false, false⟩, ⟨10, iO 215 (.faddr 0 214), false, false⟩, ⟨11, iO 216 (.load false 1 215), false, false⟩, ⟨12, iO 217 (.bin .neq .str 210 216), false, false⟩, ⟨13, iO 218 (.mv 217), false, false⟩, ⟨14, iG 219 218 false (.faddr 8 2), false, false⟩, ⟨15, iG 220 218 false (.load false 1 219), false, false⟩, ⟨16, iG 221 218 false (.mv 9), false, false⟩, ⟨17, iG 222 218 false (.iaddr 9 220 221), false, false⟩, ⟨18, iG 223 218 false (.faddr 1 222), false, false⟩, ⟨19, iG 224 218 false (.load false 1 223), false, false⟩, ⟨20, iG 225 218 false (.faddr 8 3), false, false⟩, ⟨21, iG 226 218 false (.load false 1 225), false, false⟩, ⟨22, iG 227 218 false (.mv 9), false, false⟩, ⟨23, iG 228 218 false (.iaddr 9 226 227), false, false⟩, ⟨24, iG 229 218 false (.faddr 1 228), false, false⟩, ⟨25, iG 230 218 false (.load false 1 229), false, false⟩, ⟨26, iG 231 218 false (.bin .neq .str 224 230), false, false⟩, ⟨27, iO 232 (.pick 218 (.val (.bool true)) 231), false, false⟩, ⟨28, iO 233 (.mv 232), false, false⟩, ⟨29, iG 234 233 false (.faddr 8 2), false, false⟩, ⟨30, iG 235 233 false (.load false 1 234), false, false⟩, ⟨31, iG 236 233 false (.mv 9), false, false⟩, ⟨32, iG 237 233 false (.iaddr 9 235 236), false, false⟩, ⟨33, iG 238 233 false (.faddr 2 237), false, false⟩, ⟨34, iG 239 233 false (.load true 7 238), false, false⟩, ⟨35, iG 240 233 false (.faddr 8 3), false, false⟩, ⟨36, iG 241 233 false (.load false 1 240), false, false⟩, ⟨37, iG 242 233 false (.mv 9), false, false⟩, ⟨38, iG 243 233 false (.iaddr 9 241 242), false, false⟩, ⟨39, iG 244 233 false (.faddr 2 243), false, false⟩, ⟨40, iG 245 233 false (.load true 7 244), false, false⟩]
 (.ef ⟨41, ⟨some 246, some (233, false), .call 17 [239, 245]⟩, true, false⟩ []
 (.rd [⟨42, iG 247 233 false (.un .not 246), false, false⟩, ⟨43, iO 248 (.pick 233 (.val (.bool true)) 247), false, false⟩]
 (.nil)))))
 (.cond 248
 (.seq (.ops [iO 4 (.mv (.val (.bool false)))])
 (.ret))
 (.skip))))
 (.ops [iO 203 (.mv 9), iO 204 (.bin .add .int 203 (aI 1)), iO 9 (.mv 204)]))
def f11m (G : Nat → AVal) : MC :=
 .seq (.ops [iO 2 (.box true 18 0), iO 3 (.box true 18 1), iO 4 (.mv (.val (.bool false)))])
 (.seq (.seq (.ops [iO 10 (.faddr 0 2), iO 11 (.load false 1 10), iO 12 (.faddr 0 3), iO 13 (.load false 1 12), iO 14 (.bin .neq .int 11 13), iO 15 (.mv 14), iG 16 15 false (.faddr 1 2), iG 17 15 false (.load false 1 16), iG 18 15 false (.faddr 1 3), iG 19 15 false (.load false 1 18), iG 20 15 false (.bin .neq .str 17 19), iO 21 (.pick 15 (.val (.bool true)) 20), iO 22 (.mv 21), iG 23 22 false (.faddr 2 2), iG 24 22 false (.load false 1 23), iG 25 22 false (.faddr 2 3), iG 26 22 false (.load false 1 25), iG 27 22 false (.bin .neq .str 24 26), iO 28 (.pick 22 (.val (.bool true)) 27), iO 29 (.mv 28), iG 30 29 false (.faddr 5 2), iG 31 29 false (.load false 1 30), iG 32 29 false (.faddr 5 3), iG 33 29 false (.load false 1 32), iG 34 29 false (.bin .neq .bool 31 33), iO 35 (.pick 29 (.val (.bool true)) 34), iO 36 (.mv 35), iG 37 36 false (.faddr 3 2), iG 38 36 false (.load false 1 37), iG 39 36 false (.lenS 38), iG 40 36 false (.faddr 3 3), iG 41 36 false (.load false 1 40), iG 42 36 false (.lenS 41), iG 43 36 false (.bin .neq .int 39 42), iO 44 (.pick 36 (.val (.bool true)) 43), iO 45 (.mv 44), iG 46 45 false (.faddr 4 2), iG 47 45 false (.load false 1 46), iG 48 45 false (.lenS 47), iG 49 45 false (.faddr 4 3), iG 50 45 false (.load false 1 49), iG 51 45 false (.lenS 50), iG 52 45 false (.bin .neq .int 48 51), iO 53 (.pick 45 (.val (.bool true)) 52), iO 54 (.mv 53), iG 55 54 false (.faddr 6 2), iG 56 54 false (.load false 1 55), iG 57 54 false (.lenS 56), iG 58 54 false (.faddr 6 3), iG 59 54 false (.load false 1 58), iG 60 54 false (.lenS 59), iG 61 54 false (.bin .neq .int 57 60), iO 62 (.pick 54 (.val (.bool true)) 61), iO 63 (.mv 62), iG 64 63 false (.faddr 7 2), iG 65 63 false (.load false 1 64), iG 66 63 false (.lenS 65), iG 67 63 false (.faddr 7 3), iG 68 63 false (.load false 1 67), iG 69 63 false (.lenS 68), iG 70 63 false (.bin .neq .int 66 69), iO 71 (.pick 63 (.val (.bool true)) 70), iO 72 (.mv 71), iG 73 72 false (.faddr 8 2), iG 74 72 false (.load false 1 73), iG 75 72 false (.lenS 74), iG 76 72 false (.faddr 8 3), iG 77 72 false (.load false 1 76), iG 78 72 false (.lenS 77), iG 79 72 false (.bin .neq .int 75 78), iO 80 (.pick 72 (.val (.bool true)) 79), iO 81 (.mv 80), iG 82 81 false (.faddr 16 2), iG 83 81 false (.load false 1 82), iG 84 81 false (.lenS 83), iG 85 81 false (.faddr 16 3), iG 86 81 false (.load false 1 85), iG 87 81 false (.lenS 86), iG 88 81 false (.bin .neq .int 84 87), iO 89 (.pick 81 (.val (.bool true)) 88), iO 90 (.mv 89), iG 91 90 false (.faddr 17 2), iG 92 90 false (.load false 1 91), iG 93 90 false (.lenS 92), iG 94 90 false (.faddr 17 3), iG 95 90 false (.load false 1 94), iG 96 90 false (.lenS 95), iG 97 90 false (.bin .neq .int 93 96), iO 98 (.pick 90 (.val (.bool true)) 97), iO 99 (.mv 98), iG 100 99 false (.faddr 9 2), iG 101 99 false (.load true 7 100), iG 102 99 false (.faddr 9 3), iG 103 99 false (.load true 7 102), ⟨some 104, some (99, false), .call 17 [101, 103]⟩, iG 105 99 false (.un .not 104), iO 106 (.pick 99 (.val (.bool true)) 105)])
 (.cond 106
 (.seq (.ops [iO 4 (.mv (.val (.bool false)))])
 (.ret))
 (.skip)))
 (.seq (.seq (.ops [iO 5 (.mv (aI 0))])
 (.block 0
 (.loop (f11b0 G))))
 (.seq (.seq (.ops [iO 6 (.mv (aI 0))])
 (.block 2
 (.loop (f11b1 G))))
 (.seq (.seq (.ops [iO 7 (.mv (aI 0))])
 (.block 4
 (.loop (f11b2 G))))
 (.seq (.seq (.ops [iO 8 (.mv (aI 0))])
 (.block 6
 (.loop (f11b3 G))))
 (.seq (.seq (.ops [iO 9 (.mv (aI 0))])
 (.block 8
 (.loop (f11b4 G))))
 (.seq (.ops [iO 249 (.load true 18 2), iO 250 (.load true 18 3), iC 251 26 [249, 250], iO 4 (.mv 251)])
 (.ret))))))))
def f11 (G : Nat → AVal) : AFn := ⟨252, [.tmp 4], f11m G⟩
theorem f11_c (G : Nat → AVal) : cmpFn Tryz.prog G [] 11 = some (f11 G) := by kernel_rfl
def f17m (G : Nat → AVal) : MC :=
 .seq (.ops [iO 2 (.box true 7 0), iO 3 (.box true 7 1), iO 4 (.mv (.val (.bool false)))])
 (.seq (.seq (.ops [iO 5 (.faddr 0 2), iO 6 (.load false 1 5), iO 7 (.faddr 0 3), iO 8 (.load false 1 7), iO 9 (.bin .neq .int 6 8), iO 10 (.mv 9), iG 11 10 false (.faddr 2 2), iG 12 10 false (.load false 1 11), iG 13 10 false (.faddr 2 3), iG 14 10 false (.load false 1 13), iG 15 10 false (.bin .neq .int 12 14), iO 16 (.pick 10 (.val (.bool true)) 15), iO 17 (.mv 16), iG 18 17 false (.faddr 3 2), iG 19 17 false (.load false 1 18), iG 20 17 false (.faddr 3 3), iG 21 17 false (.load false 1 20), iG 22 17 false (.bin .neq .int 19 21), iO 23 (.pick 17 (.val (.bool true)) 22), iO 24 (.mv 23), iG 25 24 false (.faddr 4 2), iG 26 24 false (.load false 1 25), iG 27 24 false (.faddr 4 3), iG 28 24 false (.load false 1 27), iG 29 24 false (.bin .neq .int 26 28), iO 30 (.pick 24 (.val (.bool true)) 29), iO 31 (.mv 30), iG 32 31 false (.faddr 5 2), iG 33 31 false (.load false 1 32), iG 34 31 false (.faddr 5 3), iG 35 31 false (.load false 1 34), iG 36 31 false (.bin .neq .str 33 35), iO 37 (.pick 31 (.val (.bool true)) 36), iO 38 (.mv 37), iG 39 38 false (.faddr 6 2), iG 40 38 false (.load false 1 39), iG 41 38 false (.faddr 6 3), iG 42 38 false (.load false 1 41), iG 43 38 false (.bin .neq .str 40 42), iO 44 (.pick 38 (.val (.bool true)) 43)])
 (.cond 44
 (.seq (.ops [iO 4 (.mv (.val (.bool false)))])
 (.ret))
 (.skip)))
 (.seq (.ops [iO 45 (.faddr 1 2), iO 46 (.load false 1 45), iO 47 (.faddr 1 3), iO 48 (.load false 1 47), iC 49 25 [46, 48], iO 4 (.mv 49)])
 (.ret)))
def f17 (G : Nat → AVal) : AFn := ⟨50, [.tmp 4], f17m G⟩
theorem f17_c (G : Nat → AVal) : cmpFn Tryz.prog G [] 17 = some (f17 G) := by kernel_rfl
def f25b0 (G : Nat → AVal) : MC :=
 .seq (.seq (.ops [iO 11 (.mv 5), iO 12 (.mv 0), iO 13 (.lenS 12), iO 14 (.bin .lss .int 11 13)])
 (.cond 14
 (.skip)
 (.exit 0)))
 (.seq (.block 1
 (.seq (.draw (.rd [⟨0, iO 17 (.mv 0), false, false⟩, ⟨1, iO 18 (.mv 5), false, false⟩, ⟨2, iO 19 (.iaddr 7 17 18), false, false⟩, ⟨3, iO 20 (.load true 7 19), false, false⟩, ⟨4, iO 21 (.mv 1), false, false⟩, ⟨5, iO 22 (.mv 5), false, false⟩, ⟨6, iO 23 (.iaddr 7 21 22), false, false⟩, ⟨7, iO 24 (.load true 7 23), false, false⟩]
 (.ef ⟨8, iC 25 17 [20, 24], true, false⟩ []
 (.rd [⟨9, iO 26 (.un .not 25), false, false⟩]
 (.nil)))))
 (.cond 26
 (.seq (.ops [iO 4 (.mv (.val (.bool false)))])
 (.ret))
 (.skip))))
 (.ops [iO 15 (.mv 5), iO 16 (.bin .add .int 15 (aI 1)), iO 5 (.mv 16)]))
def f25m (G : Nat → AVal) : MC :=
 .seq (.ops [iO 4 (.mv (.val (.bool false)))])
 (.seq (.seq (.ops [iO 6 (.mv 0), iO 7 (.lenS 6), iO 8 (.mv 1), iO 9 (.lenS 8), iO 10 (.bin .neq .int 7 9)])
 (.cond 10
 (.seq (.ops [iO 4 (.mv (.val (.bool false)))])
 (.ret))
 (.skip)))
 (.seq (.seq (.ops [iO 5 (.mv (aI 0))])
 (.block 0
 (.loop (f25b0 G))))
 (.seq (.ops [iO 4 (.mv (.val (.bool true)))])
 (.ret))))
def f25 (G : Nat → AVal) : AFn := ⟨27, [.tmp 4], f25m G⟩
theorem f25_c (G : Nat → AVal) : cmpFn Tryz.prog G [] 25 = some (f25 G) := by kernel_rfl
def f26b0 (G : Nat → AVal) : MC :=
 .seq (.seq (.ops [iO 7 (.mv 5), iO 8 (.faddr 16 2), iO 9 (.load false 1 8), iO 10 (.lenS 9), iO 11 (.bin .lss .int 7 10)])
 (.cond 11
 (.skip)
 (.exit 0)))
 (.seq (.block 1
 (.seq (.draw (.rd [⟨0, iO 14 (.faddr 16 2), false, false⟩, ⟨1, iO 15 (.load false 1 14), false, false⟩, ⟨2, iO 16 (.mv 5), false, false⟩, ⟨3, iO 17 (.iaddr 8 15 16), false, false⟩, ⟨4, iO 18 (.faddr 7 17), false, false⟩, ⟨5, iO 19 (.load false 1 18), false, false⟩, ⟨6, iO 20 (.faddr 16 3), false, false⟩, ⟨7, iO 21 (.load false 1 20), false, false⟩, ⟨8, iO 22 (.mv 5), false, false⟩, ⟨9, iO 23 (.iaddr 8 21 22), false, false⟩, ⟨10, iO 24 (.faddr 7 23), false, false⟩, ⟨11, iO 25 (.load false 1 24), false, false⟩, ⟨12, iO 26 (.bin .neq .bool 19 25), false, false⟩, ⟨13, iO 27 (.mv 26), false, false⟩, ⟨14, iG 28 27 false (.faddr 16 2), false, false⟩, ⟨15, iG 29 27 false (.load false 1 28), false, false⟩, ⟨16, iG 30 27 false (.mv 5), false, false⟩, ⟨17, iG 31 27 false (.iaddr 8 29 30), false, false⟩, ⟨18, iG 32 27 false (.faddr 0 31), false, false⟩, ⟨19, iG 33 27 false (.load true 7 32), false, false⟩, ⟨20, iG 34 27 false (.faddr 16 3), false, false⟩, ⟨21, iG 35 27 false (.load false 1 34), false, false⟩, ⟨22, iG 36 27 false (.mv 5), false, false⟩, ⟨23, iG 37 27 false (.iaddr 8 35 36), false, false⟩, ⟨24, iG 38 27 false (.faddr 0 37), false, false⟩, ⟨25, iG 39 27 false (.load true 7 38), false, false⟩]
 (.ef ⟨26, ⟨some 40, some (27, false), .call 17 [33, 39]⟩, true, false⟩ []
 (.rd [⟨27, iG 41 27 false (.un .not 40), false, false⟩, ⟨28, iO 42 (.pick 27 (.val (.bool true)) 41), false, false⟩]
 (.nil)))))
 (.cond 42
 (.seq (.ops [iO 4 (.mv (.val (.bool false)))])
 (.ret))
 (.skip))))
 (.ops [iO 12 (.mv 5), iO 13 (.bin .add .int 12 (aI 1)), iO 5 (.mv 13)]))
def f26b1 (G : Nat → AVal) : MC :=
 .seq (.seq (.ops [iO 43 (.mv 6), iO 44 (.faddr 17 2), iO 45 (.load false 1 44), iO 46 (.lenS 45), iO 47 (.bin .lss .int 43 46)])
 (.cond 47
 (.skip)
 (.exit 2)))
 (.seq (.block 3
 (.seq (.draw (.rd [⟨0, iO 50 (.faddr 17 2), false, false⟩, ⟨1, iO 51 (.load false 1 50), false, false⟩, ⟨2, iO 52 (.mv 6), false, false⟩, ⟨3, iO 53 (.iaddr 8 51 52), false, false⟩, ⟨4, iO 54 (.faddr 0 53), false, false⟩, ⟨5, iO 55 (.load false 1 54), false, false⟩, ⟨6, iO 56 (.faddr 17 3), false, false⟩, ⟨7, iO 57 (.load false 1 56), false, false⟩, ⟨8, iO 58 (.mv 6), false, false⟩, ⟨9, iO 59 (.iaddr 8 57 58), false, false⟩, ⟨10, iO 60 (.faddr 0 59), false, false⟩, ⟨11, iO 61 (.load false 1 60), false, false⟩, ⟨12, iO 62 (.bin .neq .str 55 61), false, false⟩, ⟨13, iO 63 (.mv 62), false, false⟩, ⟨14, iG 64 63 false (.faddr 17 2), false, false⟩, ⟨15, iG 65 63 false (.load false 1 64), false, false⟩, ⟨16, iG 66 63 false (.mv 6), false, false⟩, ⟨17, iG 67 63 false (.iaddr 8 65 66), false, false⟩, ⟨18, iG 68 63 false (.faddr 1 67), false, false⟩, ⟨19, iG 69 63 false (.load true 7 68), false, false⟩, ⟨20, iG 70 63 false (.faddr 17 3), false, false⟩, ⟨21, iG 71 63 false (.load false 1 70), false, false⟩, ⟨22, iG 72 63 false (.mv 6), false, false⟩, ⟨23, iG 73 63 false (.iaddr 8 71 72), false, false⟩, ⟨24, iG 74 63 false (.faddr 1 73), false, false⟩, ⟨25, iG 75 63 false (.load true 7 74), false, false⟩]
 (.ef ⟨26, ⟨some 76, some (63, false), .call 17 [69, 75]⟩, true, false⟩ []
 (.rd [⟨27, iG 77 63 false (.un .not 76), false, false⟩, ⟨28, iO 78 (.pick 63 (.val (.bool true)) 77), false, false⟩]
 (.nil)))))
 (.cond 78
 (.seq (.ops [iO 4 (.mv (.val (.bool false)))])
 (.ret))
 (.skip))))
 (.ops [iO 48 (.mv 6), iO 49 (.bin .add .int 48 (aI 1)), iO 6 (.mv 49)]))
def f26m (G : Nat → AVal) : MC :=
 .seq (.ops [iO 2 (.box true 18 0), iO 3 (.box true 18 1), iO 4 (.mv (.val (.bool false)))])
 (.seq (.seq (.ops [iO 5 (.mv (aI 0))])
 (.block 0
 (.loop (f26b0 G))))
 (.seq (.seq (.ops [iO 6 (.mv (aI 0))])
 (.block 2
 (.loop (f26b1 G))))
 (.seq (.ops [iO 4 (.mv (.val (.bool true)))])
 (.ret))))
def f26 (G : Nat → AVal) : AFn := ⟨79, [.tmp 4], f26m G⟩
theorem f26_c (G : Nat → AVal) : cmpFn Tryz.prog G [] 26 = some (f26 G) := by kernel_rfl
end Go.Abs
set_option linter.unusedVariables false
namespace Go.Abs
open Go Go.RowKit Go.Proofs
def f10m (G : Nat → AVal) : MC :=
 .seq (.ops [iO 2 (.alloc 18 [.int 0, .str [], .str [], .nilS, .nilS, .bool false, .nilS, .nilS, .nilS, .int 0, .nilS, .int 0, .int 0, .int 0, .str [], .str [], .nilS, .nilS]), iO 3 (.mv (aI 0))])
 (.seq (.ops [iO 9 (.mv 0), iC 10 12 [9], iO 8 (.mv 10), iO 11 (.extract 8 0), iO 12 (.extract 8 1), iO 4 (.mv 11), iO 5 (.mv 12)])
 (.seq (.seq (.ops [iO 13 (.mv 5), iO 14 (.bin .neq .int 13 (aI 0))])
 (.cond 14
 (.seq (.ops [iO 15 (.build [.int 0, .str [], .str [], .nilS, .nilS, .bool false, .nilS, .nilS, .nilS, .int 0, .nilS, .int 0, .int 0, .int 0, .str [], .str [], .nilS, .nilS] []), iO 16 (.mv 5), iZ (.store true 18 2 15), iO 3 (.mv 16)])
 (.ret))
 (.skip)))
 (.seq (.ops [iO 17 (.mv 4), iO 18 (.build [.nilS, .int 0, .int 0, .int 0, .int 0] [(false, 0, 1, 17)]), iO 19 (.box true 5 18), iO 6 (.mv 19)])
 (.seq (.ops [iO 20 (.mv 6), iC 21 23 [20], iO 7 (.alloc 18 [.int 0, .str [], .str [], .nilS, .nilS, .bool false, .nilS, .nilS, .nilS, .int 0, .nilS, .int 0, .int 0, .int 0, .str [], .str [], .nilS, .nilS]), iZ (.store true 18 7 21)])
 (.seq (.seq (.draw (.rd [⟨0, iO 22 (.mv 6), false, false⟩, ⟨1, iO 23 (.nilck 22), false, false⟩, ⟨2, iO 24 (.faddr 3 23), false, false⟩, ⟨3, iO 25 (.load false 1 24), false, false⟩, ⟨4, iO 26 (.bin .eql .int 25 (aI 0)), false, false⟩, ⟨5, iO 27 (.mv 26), false, false⟩, ⟨6, iG 28 27 true (.mv 6), false, false⟩, ⟨7, iG 29 27 true (.nilck 28), false, false⟩, ⟨8, iG 30 27 true (.faddr 1 29), false, false⟩, ⟨9, iG 31 27 true (.load false 1 30), false, false⟩, ⟨10, iG 32 27 true (.mv 6), false, false⟩, ⟨11, iG 33 27 true (.nilck 32), false, false⟩, ⟨12, iG 34 27 true (.faddr 0 33), false, false⟩, ⟨13, iG 35 27 true (.load false 1 34), false, false⟩, ⟨14, iG 36 27 true (.lenS 35), false, false⟩, ⟨15, iG 37 27 true (.bin .lss .int 31 36), false, false⟩, ⟨16, iO 38 (.pick 27 37 (.val (.bool false))), false, false⟩]
 (.nil)))
 (.cond 38
 (.ops [iO 39 (.mv 6), iC 40 24 [39, (aI 130)]])
 (.skip)))
 (.seq (.seq (.ops [iO 41 (.mv 6), iO 42 (.nilck 41), iO 43 (.faddr 4 42), iO 44 (.load false 1 43), iO 45 (.bin .gtr .int 44 (aI 40))])
 (.cond 45
 (.ops [iO 46 (.mv 6), iC 47 24 [46, (aI 5)]])
 (.skip)))
 (.seq (.seq (.ops [iO 48 (.mv 6), iO 49 (.nilck 48), iO 50 (.faddr 3 49), iO 51 (.load false 1 50), iO 52 (.bin .neq .int 51 (aI 0))])
 (.cond 52
 (.seq (.draw (.rd [⟨0, iO 53 (.build [.int 0, .str [], .str [], .nilS, .nilS, .bool false, .nilS, .nilS, .nilS, .int 0, .nilS, .int 0, .int 0, .int 0, .str [], .str [], .nilS, .nilS] []), false, false⟩, ⟨1, iO 54 (.mv 6), false, true⟩, ⟨2, iO 55 (.nilck 54), false, true⟩, ⟨3, iO 56 (.faddr 3 55), false, true⟩, ⟨4, iO 57 (.load false 1 56), false, true⟩]
 (.ef ⟨5, iZ (.store true 18 2 53), true, false⟩ [1, 2, 3, 4]
 (.rd [⟨6, iO 3 (.mv 57), false, false⟩]
 (.nil)))))
 (.ret))
 (.skip)))
 (.seq (.ops [iO 58 (.load true 18 7), iZ (.store true 18 2 58), iO 3 (.mv (aI 0))])
 (.ret)))))))))
def f10 (G : Nat → AVal) : AFn := ⟨59, [.cell 2 true 18, .tmp 3], f10m G⟩
theorem f10_c (G : Nat → AVal) : cmpFn Tryz.prog G [] 10 = some (f10 G) := by kernel_rfl
def f23b0 (G : Nat → AVal) : MC :=
 .seq (.seq (.ops [iO 45 (.mv 0), iO 46 (.nilck 45), iO 47 (.faddr 3 46), iO 48 (.load false 1 47), iO 49 (.bin .eql .int 48 (aI 0))])
 (.cond 49
 (.skip)
 (.exit 1)))
 (.block 2
 (.seq (.ops [iO 50 (.mv 0), iC 51 50 [50], iO 52 (.build [.str [], .int 0, .nilS, .int 0, .int 0, .int 0, .str [], .str []] [(false, 0, 1, 51)]), iO 4 (.alloc 8 [.str [], .int 0, .nilS, .int 0, .int 0, .int 0, .str [], .str []]), iZ (.store true 8 4 52)])
 (.seq (.ops [iO 53 (.mv 0), iC 54 51 [53, (aI 5), (aS [61])]])
 (.seq (.ops [iO 55 (.mv 0), iC 56 54 [55], iO 57 (.faddr 1 4), iZ (.store true 7 57 56)])
 (.seq (.ops [iO 58 (.faddr 17 3), iO 59 (.load false 1 58), iO 60 (.load true 8 4), iO 61 (.bslice true 8 1 [.str [], .int 0, .nilS, .int 0, .int 0, .int 0, .str [], .str []] [(0, 60)]), iO 62 (.append 8 104 59 61), iO 63 (.faddr 17 3), iZ (.store false 1 63 62)])
 (.seq (.ops [iO 64 (.mv 0), iO 65 (.faddr 17 3), iO 66 (.load false 1 65), iO 67 (.lenS 66), iC 68 55 [64, 67, (aI 50)], iO 69 (.un .not 68)])
 (.cond 69
 (.exit 1)
 (.skip))))))))
def f23m (G : Nat → AVal) : MC :=
 .seq (.ops [iO 2 (.alloc 18 [.int 0, .str [], .str [], .nilS, .nilS, .bool false, .nilS, .nilS, .nilS, .int 0, .nilS, .int 0, .int 0, .int 0, .str [], .str [], .nilS, .nilS])])
 (.seq (.ops [iO 5 (.build [.int 0, .str [], .str [], .nilS, .nilS, .bool false, .nilS, .nilS, .nilS, .int 0, .nilS, .int 0, .int 0, .int 0, .str [], .str [], .nilS, .nilS] []), iO 3 (.alloc 18 [.int 0, .str [], .str [], .nilS, .nilS, .bool false, .nilS, .nilS, .nilS, .int 0, .nilS, .int 0, .int 0, .int 0, .str [], .str [], .nilS, .nilS]), iZ (.store true 18 3 5)])
 (.seq (.block 0
 (.seq (.ops [iO 9 (.mv 0), iC 10 48 [9, (aI 1), (aS [99, 114, 101, 97, 116, 101])], iO 8 (.mv 10)])
 (.cond 8
 (.seq (.ops [iO 11 (.mv 0), iC 12 49 [11], iZ (.store true 18 2 12)])
 (.ret))
 (.seq (.ops [iO 14 (.mv 0), iC 15 48 [14, (aI 1), (aS [100, 114, 111, 112])], iO 13 (.mv 15)])
 (.cond 13
 (.seq (.seq (.ops [iO 16 (.mv 0), iC 17 48 [16, (aI 1), (aS [116, 97, 98, 108, 101])]])
 (.cond 17
 (.seq (.ops [iO 18 (.mv 0), iC 19 50 [18], iO 20 (.build [.int 0, .str [], .str [], .nilS, .nilS, .bool false, .nilS, .nilS, .nilS, .int 0, .nilS, .int 0, .int 0, .int 0, .str [], .str [], .nilS, .nilS] [(false, 0, 1, (aI 2)), (false, 1, 1, 19)]), iZ (.store true 18 2 20)])
 (.ret))
 (.skip)))
 (.seq (.ops [iO 21 (.mv 0), iC 22 51 [21, (aI 1), (aS [105, 110, 100, 101, 120])]])
 (.seq (.ops [iO 23 (.mv 0), iC 24 50 [23], iO 25 (.build [.int 0, .str [], .str [], .nilS, .nilS, .bool false, .nilS, .nilS, .nilS, .int 0, .nilS, .int 0, .int 0, .int 0, .str [], .str [], .nilS, .nilS] [(false, 0, 1, (aI 4)), (false, 2, 1, 24)]), iZ (.store true 18 2 25)])
 (.ret))))
 (.seq (.ops [iO 27 (.mv 0), iC 28 48 [27, (aI 1), (aS [105, 110, 115, 101, 114, 116])], iO 26 (.mv 28)])
 (.cond 26
 (.seq (.ops [iO 29 (.mv 0), iC 30 52 [29], iZ (.store true 18 2 30)])
 (.ret))
 (.seq (.ops [iO 32 (.mv 0), iC 33 48 [32, (aI 1), (aS [115, 101, 108, 101, 99, 116])], iO 31 (.mv 33)])
 (.cond 31
 (.seq (.ops [iO 34 (.mv 0), iC 35 53 [34], iZ (.store true 18 2 35)])
 (.ret))
 (.seq (.ops [iO 37 (.mv 0), iC 38 48 [37, (aI 1), (aS [117, 112, 100, 97, 116, 101])], iO 36 (.mv 38)])
 (.cond 36
 (.seq (.ops [iO 39 (.faddr 0 3), iZ (.store false 1 39 (aI 7))])
 (.seq (.ops [iO 40 (.mv 0), iC 41 50 [40], iO 42 (.faddr 1 3), iZ (.store false 1 42 41)])
 (.seq (.ops [iO 43 (.mv 0), iC 44 51 [43, (aI 1), (aS [115, 101, 116])]])
 (.seq (.block 1
 (.loop (f23b0 G)))
 (.ops [iO 70 (.mv 0), iC 71 56 [70], iO 72 (.faddr 9 3), iZ (.store true 7 72 71)])))))
 (.seq (.ops [iO 74 (.mv 0), iC 75 48 [74, (aI 1), (aS [100, 101, 108, 101, 116, 101])], iO 73 (.mv 75)])
 (.cond 73
 (.seq (.ops [iO 76 (.mv 0), iC 77 51 [76, (aI 1), (aS [102, 114, 111, 109])]])
 (.seq (.ops [iO 78 (.faddr 0 3), iZ (.store false 1 78 (aI 8))])
 (.seq (.ops [iO 79 (.mv 0), iC 80 50 [79], iO 81 (.faddr 1 3), iZ (.store false 1 81 80)])
 (.ops [iO 82 (.mv 0), iC 83 56 [82], iO 84 (.faddr 9 3), iZ (.store true 7 84 83)]))))
 (.seq (.ops [iO 86 (.mv 0), iC 87 48 [86, (aI 1), (aS [98, 101, 103, 105, 110])], iO 85 (.mv 87)])
 (.cond 85
 (.ops [iO 88 (.faddr 0 3), iZ (.store false 1 88 (aI 9))])
 (.seq (.ops [iO 90 (.mv 0), iC 91 48 [90, (aI 1), (aS [99, 111, 109, 109, 105, 116])], iO 89 (.mv 91)])
 (.cond 89
 (.ops [iO 92 (.faddr 0 3), iZ (.store false 1 92 (aI 10))])
 (.seq (.ops [iO 94 (.mv 0), iC 95 48 [94, (aI 1), (aS [114, 111, 108, 108, 98, 97, 99, 107])], iO 93 (.mv 95)])
 (.cond 93
 (.ops [iO 96 (.faddr 0 3), iZ (.store false 1 96 (aI 11))])
 (.ops [iO 6 (.mv 0), iC 7 24 [6, (aI 130)]]))))))))))))))))))))
 (.seq (.ops [iO 97 (.load true 18 3), iZ (.store true 18 2 97)])
 (.ret))))
def f23 (G : Nat → AVal) : AFn := ⟨98, [.cell 2 true 18], f23m G⟩
theorem f23_c (G : Nat → AVal) : cmpFn Tryz.prog G [] 23 = some (f23 G) := by kernel_rfl
def f24m (G : Nat → AVal) : MC :=
 .seq (.ops [iO 4 (.mv 0), iO 5 (.nilck 4), iO 6 (.faddr 3 5), iO 7 (.load false 1 6), iO 8 (.bin .eql .int 7 (aI 0))])
 (.cond 8
 (.ops [iO 9 (.mv 0), iO 10 (.mv 1), iO 11 (.nilck 9), iO 12 (.faddr 3 11), iZ (.store false 1 12 10)])
 (.skip))
def f24 (G : Nat → AVal) : AFn := ⟨13, [], f24m G⟩
theorem f24_c (G : Nat → AVal) : cmpFn Tryz.prog G [] 24 = some (f24 G) := by kernel_rfl
def f48m (G : Nat → AVal) : MC :=
 .seq (.ops [iO 6 (.mv (.val (.bool false)))])
 (.seq (.seq (.ops [iO 7 (.mv 0), iO 8 (.mv 1), iO 9 (.mv 2), iC 10 90 [7, 8, 9]])
 (.cond 10
 (.seq (.ops [iO 11 (.mv 0), iO 12 (.nilck 11), iO 13 (.faddr 1 12), iO 14 (.load false 1 13), iO 15 (.bin .add .int 14 (aI 1)), iO 16 (.nilck 11), iO 17 (.faddr 1 16), iZ (.store false 1 17 15)])
 (.seq (.ops [iO 6 (.mv (.val (.bool true)))])
 (.ret)))
 (.skip)))
 (.seq (.ops [iO 6 (.mv (.val (.bool false)))])
 (.ret)))
def f48 (G : Nat → AVal) : AFn := ⟨18, [.tmp 6], f48m G⟩
theorem f48_c (G : Nat → AVal) : cmpFn Tryz.prog G [] 48 = some (f48 G) := by kernel_rfl
def f49b0 (G : Nat → AVal) : MC :=
 .seq (.seq (.ops [iO 24 (.mv 6), iO 25 (.bin .lss .int 24 (aI 5))])
 (.cond 25
 (.skip)
 (.exit 2)))
 (.seq (.block 3
 (.seq (.ops [iO 28 (.faddr 1 4), iO 29 (.load false 1 28), iO 30 (.bin .eql .int 29 (aI 0)), iO 31 (.mv 30), iG 32 31 true (.mv 0), iG 33 31 true (.mv 6), iG 34 31 true (.iaddrA 5 1 5 33), iG 35 31 true (.load false 1 34), ⟨some 36, some (31, true), .call 48 [32, (aI 1), 35]⟩, iO 37 (.pick 31 36 (.val (.bool false)))])
 (.cond 37
 (.ops [iO 38 (.mv 6), iO 39 (.faddr 1 4), iZ (.store false 1 39 38)])
 (.skip))))
 (.ops [iO 26 (.mv 6), iO 27 (.bin .add .int 26 (aI 1)), iO 6 (.mv 27)]))
def f49b1 (G : Nat → AVal) : MC :=
 .seq (.seq (.ops [iO 15 (.mv 0), iO 16 (.nilck 15), iO 17 (.faddr 3 16), iO 18 (.load false 1 17), iO 19 (.bin .eql .int 18 (aI 0))])
 (.cond 19
 (.skip)
 (.exit 0)))
 (.block 1
 (.seq (.ops [iO 20 (.mv 0), iC 21 50 [20], iO 22 (.build [.str [], .int 0, .bool false] [(false, 0, 1, 21)]), iO 4 (.alloc 3 [.str [], .int 0, .bool false]), iZ (.store true 3 4 22)])
 (.seq (.ops [iO 23 (.build [.str [], .str [], .str [], .str [], .str []] [(false, 0, 1, (aS [])), (false, 1, 1, (aS [98, 111, 111, 108])), (false, 2, 1, (aS [105, 110, 116])), (false, 3, 1, (aS [114, 101, 97, 108])), (false, 4, 1, (aS [116, 101, 120, 116]))]), iO 5 (.alloc 5 [.str [], .str [], .str [], .str [], .str []]), iZ (.store true 5 5 23)])
 (.seq (.seq (.ops [iO 6 (.mv (aI 1))])
 (.block 2
 (.loop (f49b0 G))))
 (.seq (.seq (.ops [iO 40 (.faddr 1 4), iO 41 (.load false 1 40), iO 42 (.bin .eql .int 41 (aI 0))])
 (.cond 42
 (.ops [iO 43 (.mv 0), iC 44 24 [43, (aI 130)]])
 (.skip)))
 (.seq (.seq (.ops [iO 45 (.mv 0), iC 46 48 [45, (aI 1), (aS [110, 111, 116])]])
 (.cond 46
 (.seq (.ops [iO 47 (.mv 0), iC 48 51 [47, (aI 1), (aS [110, 117, 108, 108])]])
 (.ops [iO 49 (.faddr 2 4), iZ (.store false 1 49 (.val (.bool true)))]))
 (.skip)))
 (.seq (.ops [iO 50 (.faddr 3 3), iO 51 (.load false 1 50), iO 52 (.load true 3 4), iO 53 (.bslice true 3 1 [.str [], .int 0, .bool false] [(0, 52)]), iO 54 (.append 3 32 51 53), iO 55 (.faddr 3 3), iZ (.store false 1 55 54)])
 (.seq (.ops [iO 56 (.mv 0), iO 57 (.faddr 3 3), iO 58 (.load false 1 57), iO 59 (.lenS 58), iC 60 55 [56, 59, (aI 16)], iO 61 (.un .not 60)])
 (.cond 61
 (.exit 0)
 (.skip))))))))))
def f49b2 (G : Nat → AVal) : MC :=
 .seq (.seq (.ops [iO 81 (.mv 0), iO 82 (.nilck 81), iO 83 (.faddr 3 82), iO 84 (.load false 1 83), iO 85 (.bin .eql .int 84 (aI 0))])
 (.cond 85
 (.skip)
 (.exit 4)))
 (.block 5
 (.seq (.draw (.rd [⟨0, iO 86 (.faddr 4 3), false, true⟩, ⟨1, iO 87 (.load false 1 86), false, true⟩, ⟨2, iO 88 (.mv 0), false, false⟩]
 (.ef ⟨3, iC 89 50 [88], true, false⟩ [0, 1]
 (.rd [⟨4, iO 90 (.bslice false 1 1 [.str []] [(0, 89)]), false, false⟩]
 (.ef ⟨5, iO 91 (.append 1 16 87 90), true, false⟩ []
 (.rd [⟨6, iO 92 (.faddr 4 3), false, false⟩]
 (.ef ⟨7, iZ (.store false 1 92 91), true, false⟩ []
 (.nil))))))))
 (.seq (.ops [iO 93 (.mv 0), iO 94 (.faddr 4 3), iO 95 (.load false 1 94), iO 96 (.lenS 95), iC 97 55 [93, 96, (aI 4)], iO 98 (.un .not 97)])
 (.cond 98
 (.exit 4)
 (.skip)))))
def f49m (G : Nat → AVal) : MC :=
 .seq (.ops [iO 2 (.alloc 18 [.int 0, .str [], .str [], .nilS, .nilS, .bool false, .nilS, .nilS, .nilS, .int 0, .nilS, .int 0, .int 0, .int 0, .str [], .str [], .nilS, .nilS])])
 (.seq (.ops [iO 7 (.build [.int 0, .str [], .str [], .nilS, .nilS, .bool false, .nilS, .nilS, .nilS, .int 0, .nilS, .int 0, .int 0, .int 0, .str [], .str [], .nilS, .nilS] [(false, 0, 1, (aI 1))]), iO 3 (.alloc 18 [.int 0, .str [], .str [], .nilS, .nilS, .bool false, .nilS, .nilS, .nilS, .int 0, .nilS, .int 0, .int 0, .int 0, .str [], .str [], .nilS, .nilS]), iZ (.store true 18 3 7)])
 (.seq (.seq (.ops [iO 8 (.mv 0), iC 9 48 [8, (aI 1), (aS [116, 97, 98, 108, 101])]])
 (.cond 9
 (.seq (.ops [iO 10 (.mv 0), iC 11 50 [10], iO 12 (.faddr 1 3), iZ (.store false 1 12 11)])
 (.seq (.ops [iO 13 (.mv 0), iC 14 51 [13, (aI 5), (aS [40])]])
 (.seq (.block 0
 (.loop (f49b1 G)))
 (.seq (.ops [iO 62 (.mv 0), iC 63 51 [62, (aI 5), (aS [41])]])
 (.seq (.ops [iO 64 (.load true 18 3), iZ (.store true 18 2 64)])
 (.ret))))))
 (.skip)))
 (.seq (.ops [iO 65 (.faddr 0 3), iZ (.store false 1 65 (aI 3))])
 (.seq (.ops [iO 66 (.mv 0), iC 67 48 [66, (aI 1), (aS [117, 110, 105, 113, 117, 101])], iO 68 (.faddr 5 3), iZ (.store false 1 68 67)])
 (.seq (.ops [iO 69 (.mv 0), iC 70 51 [69, (aI 1), (aS [105, 110, 100, 101, 120])]])
 (.seq (.ops [iO 71 (.mv 0), iC 72 50 [71], iO 73 (.faddr 2 3), iZ (.store false 1 73 72)])
 (.seq (.ops [iO 74 (.mv 0), iC 75 51 [74, (aI 1), (aS [111, 110])]])
 (.seq (.ops [iO 76 (.mv 0), iC 77 50 [76], iO 78 (.faddr 1 3), iZ (.store false 1 78 77)])
 (.seq (.ops [iO 79 (.mv 0), iC 80 51 [79, (aI 5), (aS [40])]])
 (.seq (.block 4
 (.loop (f49b2 G)))
 (.seq (.ops [iO 99 (.mv 0), iC 100 51 [99, (aI 5), (aS [41])]])
 (.seq (.ops [iO 101 (.load true 18 3), iZ (.store true 18 2 101)])
 (.ret)))))))))))))
def f49 (G : Nat → AVal) : AFn := ⟨102, [.cell 2 true 18], f49m G⟩
theorem f49_c (G : Nat → AVal) : cmpFn Tryz.prog G [] 49 = some (f49 G) := by kernel_rfl
def f50m (G : Nat → AVal) : MC :=
 .seq (.ops [iO 2 (.mv (aS []))])
 (.seq (.seq (.draw (.rd [⟨0, iO 4 (.mv 0), false, false⟩, ⟨1, iO 5 (.nilck 4), false, false⟩, ⟨2, iO 6 (.faddr 3 5), false, false⟩, ⟨3, iO 7 (.load false 1 6), false, false⟩, ⟨4, iO 8 (.bin .eql .int 7 (aI 0)), false, false⟩, ⟨5, iO 9 (.mv 8), false, false⟩, ⟨6, iG 10 9 true (.mv 0), false, false⟩, ⟨7, iG 11 9 true (.nilck 10), false, false⟩, ⟨8, iG 12 9 true (.faddr 1 11), false, false⟩, ⟨9, iG 13 9 true (.load false 1 12), false, false⟩, ⟨10, iG 14 9 true (.mv 0), false, false⟩, ⟨11, iG 15 9 true (.nilck 14), false, false⟩, ⟨12, iG 16 9 true (.faddr 0 15), false, false⟩, ⟨13, iG 17 9 true (.load false 1 16), false, false⟩, ⟨14, iG 18 9 true (.lenS 17), false, false⟩, ⟨15, iG 19 9 true (.bin .lss .int 13 18), false, false⟩, ⟨16, iO 20 (.pick 9 19 (.val (.bool false))), false, false⟩]
 (.nil)))
 (.cond 20
 (.seq (.draw (.rd [⟨0, iO 21 (.mv 0), false, true⟩, ⟨1, iO 22 (.nilck 21), false, true⟩, ⟨2, iO 23 (.faddr 0 22), false, true⟩, ⟨3, iO 24 (.load false 1 23), false, true⟩, ⟨4, iO 25 (.mv 0), false, true⟩, ⟨5, iO 26 (.nilck 25), false, true⟩, ⟨6, iO 27 (.faddr 1 26), false, true⟩, ⟨7, iO 28 (.load false 1 27), false, true⟩, ⟨8, iO 29 (.iaddr 4 24 28), false, true⟩, ⟨9, iO 30 (.load true 4 29), false, true⟩]
 (.ef ⟨10, iO 3 (.alloc 4 [.int 0, .str [], .int 0, .int 0]), true, false⟩ [0, 1, 2, 3, 4, 5, 6, 7, 8, 9]
 (.ef ⟨11, iZ (.store true 4 3 30), true, false⟩ []
 (.nil)))))
 (.seq (.ops [iO 31 (.faddr 0 3), iO 32 (.load false 1 31), iO 33 (.bin .eql .int 32 (aI 1)), iO 34 (.mv 33), iG 35 34 true (.faddr 1 3), iG 36 34 true (.load false 1 35), ⟨some 37, some (34, true), .call 63 [36]⟩, iG 38 34 true (.un .not 37), iO 39 (.pick 34 38 (.val (.bool false)))])
 (.cond 39
 (.seq (.ops [iO 40 (.mv 0), iO 41 (.nilck 40), iO 42 (.faddr 1 41), iO 43 (.load false 1 42), iO 44 (.bin .add .int 43 (aI 1)), iO 45 (.nilck 40), iO 46 (.faddr 1 45), iZ (.store false 1 46 44)])
 (.seq (.ops [iO 47 (.faddr 1 3), iO 48 (.load false 1 47), iO 2 (.mv 48)])
 (.ret)))
 (.skip))))
 (.skip)))
 (.seq (.ops [iO 49 (.mv 0), iC 50 24 [49, (aI 130)]])
 (.seq (.ops [iO 2 (.mv (aS []))])
 (.ret))))
def f50 (G : Nat → AVal) : AFn := ⟨51, [.tmp 2], f50m G⟩
theorem f50_c (G : Nat → AVal) : cmpFn Tryz.prog G [] 50 = some (f50 G) := by kernel_rfl
def f51m (G : Nat → AVal) : MC :=
 .seq (.ops [iO 6 (.mv 0), iO 7 (.mv 1), iO 8 (.mv 2), iC 9 48 [6, 7, 8], iO 10 (.un .not 9)])
 (.cond 10
 (.ops [iO 11 (.mv 0), iC 12 24 [11, (aI 130)]])
 (.skip))
def f51 (G : Nat → AVal) : AFn := ⟨13, [], f51m G⟩
theorem f51_c (G : Nat → AVal) : cmpFn Tryz.prog G [] 51 = some (f51 G) := by kernel_rfl
def f52b0 (G : Nat → AVal) : MC :=
 .seq (.seq (.ops [iO 20 (.mv 0), iO 21 (.nilck 20), iO 22 (.faddr 3 21), iO 23 (.load false 1 22), iO 24 (.bin .eql .int 23 (aI 0))])
 (.cond 24
 (.skip)
 (.exit 2)))
 (.block 3
 (.seq (.ops [iO 25 (.mv 4), iO 26 (.mv 0), iC 27 54 [26], iO 28 (.bslice true 7 1 [.int 0, .nilS, .int 0, .int 0, .int 0, .str [], .str []] [(0, 27)]), iO 29 (.append 7 88 25 28), iO 4 (.mv 29)])
 (.seq (.ops [iO 30 (.mv 0), iO 31 (.mv 4), iO 32 (.lenS 31), iC 33 55 [30, 32, (aI 50)], iO 34 (.un .not 33)])
 (.cond 34
 (.exit 2)
 (.skip)))))
def f52b1 (G : Nat → AVal) : MC :=
 .seq (.seq (.ops [iO 12 (.mv 0), iO 13 (.nilck 12), iO 14 (.faddr 3 13), iO 15 (.load false 1 14), iO 16 (.bin .eql .int 15 (aI 0))])
 (.cond 16
 (.skip)
 (.exit 0)))
 (.block 1
 (.seq (.ops [iO 17 (.bslice true 7 0 [.int 0, .nilS, .int 0, .int 0, .int 0, .str [], .str []] []), iO 4 (.mv 17)])
 (.seq (.ops [iO 18 (.mv 0), iC 19 51 [18, (aI 5), (aS [40])]])
 (.seq (.block 2
 (.loop (f52b0 G)))
 (.seq (.ops [iO 35 (.mv 0), iC 36 51 [35, (aI 5), (aS [41])]])
 (.seq (.ops [iO 37 (.faddr 6 3), iO 38 (.load false 1 37), iO 39 (.mv 4), iO 40 (.bslice false 1 1 [.nilS] [(0, 39)]), iO 41 (.append 1 24 38 40), iO 42 (.faddr 6 3), iZ (.store false 1 42 41)])
 (.seq (.ops [iO 43 (.mv 0), iO 44 (.faddr 6 3), iO 45 (.load false 1 44), iO 46 (.lenS 45), iC 47 55 [43, 46, (aI 50)], iO 48 (.un .not 47)])
 (.cond 48
 (.exit 0)
 (.skip)))))))))
def f52m (G : Nat → AVal) : MC :=
 .seq (.ops [iO 2 (.alloc 18 [.int 0, .str [], .str [], .nilS, .nilS, .bool false, .nilS, .nilS, .nilS, .int 0, .nilS, .int 0, .int 0, .int 0, .str [], .str [], .nilS, .nilS])])
 (.seq (.ops [iO 5 (.mv 0), iC 6 51 [5, (aI 1), (aS [105, 110, 116, 111])]])
 (.seq (.ops [iO 7 (.mv 0), iC 8 50 [7], iO 9 (.build [.int 0, .str [], .str [], .nilS, .nilS, .bool false, .nilS, .nilS, .nilS, .int 0, .nilS, .int 0, .int 0, .int 0, .str [], .str [], .nilS, .nilS] [(false, 0, 1, (aI 5)), (false, 1, 1, 8)]), iO 3 (.alloc 18 [.int 0, .str [], .str [], .nilS, .nilS, .bool false, .nilS, .nilS, .nilS, .int 0, .nilS, .int 0, .int 0, .int 0, .str [], .str [], .nilS, .nilS]), iZ (.store true 18 3 9)])
 (.seq (.ops [iO 10 (.mv 0), iC 11 51 [10, (aI 1), (aS [118, 97, 108, 117, 101, 115])]])
 (.seq (.block 0
 (.loop (f52b1 G)))
 (.seq (.ops [iO 49 (.load true 18 3), iZ (.store true 18 2 49)])
 (.ret))))))
def f52 (G : Nat → AVal) : AFn := ⟨50, [.cell 2 true 18], f52m G⟩
theorem f52_c (G : Nat → AVal) : cmpFn Tryz.prog G [] 52 = some (f52 G) := by kernel_rfl
def f53b0 (G : Nat → AVal) : MC :=
 .seq (.seq (.ops [iO 11 (.mv 0), iO 12 (.nilck 11), iO 13 (.faddr 3 12), iO 14 (.load false 1 13), iO 15 (.bin .eql .int 14 (aI 0))])
 (.cond 15
 (.skip)
 (.exit 0)))
 (.block 1
 (.seq (.ops [iO 16 (.mv 0), iC 17 54 [16], iO 18 (.build [.int 0, .nilS, .int 0, .int 0, .int 0, .str [], .str [], .str []] [(true, 0, 7, 17)]), iO 4 (.alloc 8 [.int 0, .nilS, .int 0, .int 0, .int 0, .str [], .str [], .str []]), iZ (.store true 8 4 18)])
 (.seq (.ops [iO 19 (.mv 0), iC 20 91 [19], iO 21 (.faddr 7 4), iZ (.store false 1 21 20)])
 (.seq (.ops [iO 22 (.faddr 7 3), iO 23 (.load false 1 22), iO 24 (.load true 8 4), iO 25 (.bslice true 8 1 [.int 0, .nilS, .int 0, .int 0, .int 0, .str [], .str [], .str []] [(0, 24)]), iO 26 (.append 8 104 23 25), iO 27 (.faddr 7 3), iZ (.store false 1 27 26)])
 (.seq (.ops [iO 28 (.mv 0), iO 29 (.faddr 7 3), iO 30 (.load false 1 29), iO 31 (.lenS 30), iC 32 55 [28, 31, (aI 50)], iO 33 (.un .not 32)])
 (.cond 33
 (.exit 0)
 (.skip)))))))
def f53b1 (G : Nat → AVal) : MC :=
 .seq (.seq (.ops [iO 48 (.mv 0), iC 49 90 [48, (aI 1), (aS [105, 110, 110, 101, 114])], iO 50 (.mv 49), iG 51 50 false (.mv 0), ⟨some 52, some (50, false), .call 90 [51, (aI 1), (aS [106, 111, 105, 110])]⟩, iO 53 (.pick 50 (.val (.bool true)) 52)])
 (.cond 53
 (.skip)
 (.exit 2)))
 (.block 3
 (.seq (.seq (.ops [iO 54 (.faddr 8 3), iO 55 (.load false 1 54), iO 56 (.lenS 55), iO 57 (.bin .eql .int 56 (aI 4))])
 (.cond 57
 (.seq (.ops [iO 58 (.mv 0), iC 59 24 [58, (aI 151)]])
 (.exit 2))
 (.skip)))
 (.seq (.ops [iO 60 (.mv 0), iC 61 48 [60, (aI 1), (aS [105, 110, 110, 101, 114])]])
 (.seq (.ops [iO 62 (.mv 0), iC 63 51 [62, (aI 1), (aS [106, 111, 105, 110])]])
 (.seq (.ops [iO 64 (.mv 0), iC 65 50 [64], iO 66 (.build [.str [], .str [], .int 0, .nilS, .int 0, .int 0, .int 0, .str [], .str []] [(false, 0, 1, 65)]), iZ (.store true 9 5 66)])
 (.seq (.ops [iO 67 (.mv 0), iC 68 91 [67], iO 69 (.faddr 1 5), iZ (.store false 1 69 68)])
 (.seq (.ops [iO 70 (.mv 0), iC 71 51 [70, (aI 1), (aS [111, 110])]])
 (.seq (.ops [iO 72 (.mv 0), iC 73 54 [72], iO 74 (.faddr 2 5), iZ (.store true 7 74 73)])
 (.ops [iO 75 (.faddr 8 3), iO 76 (.load false 1 75), iO 77 (.load true 9 5), iO 78 (.bslice true 9 1 [.str [], .str [], .int 0, .nilS, .int 0, .int 0, .int 0, .str [], .str []] [(0, 77)]), iO 79 (.append 9 120 76 78), iO 80 (.faddr 8 3), iZ (.store false 1 80 79)])))))))))
def f53b2 (G : Nat → AVal) : MC :=
 .seq (.seq (.ops [iO 88 (.mv 0), iO 89 (.nilck 88), iO 90 (.faddr 3 89), iO 91 (.load false 1 90), iO 92 (.bin .eql .int 91 (aI 0))])
 (.cond 92
 (.skip)
 (.exit 4)))
 (.block 5
 (.seq (.ops [iO 93 (.mv 0), iC 94 54 [93], iO 95 (.build [.int 0, .nilS, .int 0, .int 0, .int 0, .str [], .str [], .bool false] [(true, 0, 7, 94)]), iO 6 (.alloc 8 [.int 0, .nilS, .int 0, .int 0, .int 0, .str [], .str [], .bool false]), iZ (.store true 8 6 95)])
 (.seq (.ops [iO 96 (.mv 0), iC 97 48 [96, (aI 1), (aS [100, 101, 115, 99])], iO 98 (.faddr 7 6), iZ (.store false 1 98 97)])
 (.seq (.ops [iO 99 (.faddr 16 3), iO 100 (.load false 1 99), iO 101 (.load true 8 6), iO 102 (.bslice true 8 1 [.int 0, .nilS, .int 0, .int 0, .int 0, .str [], .str [], .bool false] [(0, 101)]), iO 103 (.append 8 96 100 102), iO 104 (.faddr 16 3), iZ (.store false 1 104 103)])
 (.seq (.ops [iO 105 (.mv 0), iO 106 (.faddr 16 3), iO 107 (.load false 1 106), iO 108 (.lenS 107), iC 109 55 [105, 108, (aI 50)], iO 110 (.un .not 109)])
 (.cond 110
 (.exit 4)
 (.skip)))))))
def f53m (G : Nat → AVal) : MC :=
 .seq (.ops [iO 2 (.alloc 18 [.int 0, .str [], .str [], .nilS, .nilS, .bool false, .nilS, .nilS, .nilS, .int 0, .nilS, .int 0, .int 0, .int 0, .str [], .str [], .nilS, .nilS])])
 (.seq (.ops [iO 7 (.build [.int 0, .str [], .str [], .nilS, .nilS, .bool false, .nilS, .nilS, .nilS, .int 0, .nilS, .int 0, .int 0, .int 0, .str [], .str [], .nilS, .nilS] [(false, 0, 1, (aI 6))]), iO 3 (.alloc 18 [.int 0, .str [], .str [], .nilS, .nilS, .bool false, .nilS, .nilS, .nilS, .int 0, .nilS, .int 0, .int 0, .int 0, .str [], .str [], .nilS, .nilS]), iZ (.store true 18 3 7)])
 (.seq (.seq (.ops [iO 8 (.mv 0), iC 9 48 [8, (aI 5), (aS [42])], iO 10 (.un .not 9)])
 (.cond 10
 (.block 0
 (.loop (f53b0 G)))
 (.skip)))
 (.seq (.ops [iO 34 (.mv 0), iC 35 51 [34, (aI 1), (aS [102, 114, 111, 109])]])
 (.seq (.ops [iO 36 (.mv 0), iC 37 50 [36], iO 38 (.build [.str [], .str [], .int 0, .nilS, .int 0, .int 0, .int 0, .str [], .str []] [(false, 0, 1, 37)]), iO 5 (.alloc 9 [.str [], .str [], .int 0, .nilS, .int 0, .int 0, .int 0, .str [], .str []]), iZ (.store true 9 5 38)])
 (.seq (.ops [iO 39 (.mv 0), iC 40 91 [39], iO 41 (.faddr 1 5), iZ (.store false 1 41 40)])
 (.seq (.ops [iO 42 (.faddr 8 3), iO 43 (.load false 1 42), iO 44 (.load true 9 5), iO 45 (.bslice true 9 1 [.str [], .str [], .int 0, .nilS, .int 0, .int 0, .int 0, .str [], .str []] [(0, 44)]), iO 46 (.append 9 120 43 45), iO 47 (.faddr 8 3), iZ (.store false 1 47 46)])
 (.seq (.block 2
 (.loop (f53b1 G)))
 (.seq (.ops [iO 81 (.mv 0), iC 82 56 [81], iO 83 (.faddr 9 3), iZ (.store true 7 83 82)])
 (.seq (.seq (.ops [iO 84 (.mv 0), iC 85 48 [84, (aI 1), (aS [111, 114, 100, 101, 114])]])
 (.cond 85
 (.seq (.ops [iO 86 (.mv 0), iC 87 51 [86, (aI 1), (aS [98, 121])]])
 (.block 4
 (.loop (f53b2 G))))
 (.skip)))
 (.seq (.ops [iO 111 (.load true 18 3), iZ (.store true 18 2 111)])
 (.ret)))))))))))
def f53 (G : Nat → AVal) : AFn := ⟨112, [.cell 2 true 18], f53m G⟩
theorem f53_c (G : Nat → AVal) : cmpFn Tryz.prog G [] 53 = some (f53 G) := by kernel_rfl
def f54m (G : Nat → AVal) : MC :=
 .seq (.ops [iO 2 (.alloc 7 [.int 0, .nilS, .int 0, .int 0, .int 0, .str [], .str []])])
 (.seq (.ops [iO 4 (.mv 0), iC 5 92 [4, (aI 0)], iO 3 (.alloc 7 [.int 0, .nilS, .int 0, .int 0, .int 0, .str [], .str []]), iZ (.store true 7 3 5)])
 (.seq (.seq (.draw (.rd [⟨0, iO 6 (.mv 0), false, false⟩, ⟨1, iO 7 (.nilck 6), false, false⟩, ⟨2, iO 8 (.faddr 3 7), false, false⟩, ⟨3, iO 9 (.load false 1 8), false, false⟩, ⟨4, iO 10 (.bin .eql .int 9 (aI 0)), false, false⟩, ⟨5, iO 11 (.mv 10), false, false⟩, ⟨6, iG 12 11 true (.load true 7 3), false, false⟩, ⟨8, iG 14 11 true (.mv 0), false, true⟩, ⟨9, iG 15 11 true (.nilck 14), false, true⟩, ⟨10, iG 16 11 true (.faddr 4 15), false, true⟩, ⟨11, iG 17 11 true (.load false 1 16), false, true⟩]
 (.ef ⟨7, ⟨some 13, some (11, true), .call 15 [12]⟩, true, false⟩ [8, 9, 10, 11]
 (.rd [⟨12, iG 18 11 true (.bin .gtr .int 13 17), false, false⟩, ⟨13, iO 19 (.pick 11 18 (.val (.bool false))), false, false⟩]
 (.nil)))))
 (.cond 19
 (.ops [iO 20 (.mv 0), iO 21 (.load true 7 3), iC 22 15 [21], iO 23 (.nilck 20), iO 24 (.faddr 4 23), iZ (.store false 1 24 22)])
 (.skip)))
 (.seq (.ops [iO 25 (.load true 7 3), iZ (.store true 7 2 25)])
 (.ret))))
def f54 (G : Nat → AVal) : AFn := ⟨26, [.cell 2 true 7], f54m G⟩
theorem f54_c (G : Nat → AVal) : cmpFn Tryz.prog G [] 54 = some (f54 G) := by kernel_rfl
def f55m (G : Nat → AVal) : MC :=
 .seq (.ops [iO 6 (.mv (.val (.bool false)))])
 (.seq (.seq (.ops [iO 7 (.mv 0), iC 8 90 [7, (aI 5), (aS [44])], iO 9 (.un .not 8)])
 (.cond 9
 (.seq (.ops [iO 6 (.mv (.val (.bool false)))])
 (.ret))
 (.skip)))
 (.seq (.seq (.ops [iO 10 (.mv 1), iO 11 (.mv 2), iO 12 (.bin .eql .int 10 11)])
 (.cond 12
 (.seq (.ops [iO 13 (.mv 0), iC 14 24 [13, (aI 151)]])
 (.seq (.ops [iO 6 (.mv (.val (.bool false)))])
 (.ret)))
 (.skip)))
 (.seq (.ops [iO 15 (.mv 0), iO 16 (.nilck 15), iO 17 (.faddr 1 16), iO 18 (.load false 1 17), iO 19 (.bin .add .int 18 (aI 1)), iO 20 (.nilck 15), iO 21 (.faddr 1 20), iZ (.store false 1 21 19)])
 (.seq (.ops [iO 6 (.mv (.val (.bool true)))])
 (.ret)))))
def f55 (G : Nat → AVal) : AFn := ⟨22, [.tmp 6], f55m G⟩
theorem f55_c (G : Nat → AVal) : cmpFn Tryz.prog G [] 55 = some (f55 G) := by kernel_rfl
def f56m (G : Nat → AVal) : MC :=
 .seq (.ops [iO 2 (.alloc 7 [.int 0, .nilS, .int 0, .int 0, .int 0, .str [], .str []])])
 (.seq (.seq (.ops [iO 3 (.mv 0), iC 4 48 [3, (aI 1), (aS [119, 104, 101, 114, 101])]])
 (.cond 4
 (.seq (.ops [iO 5 (.mv 0), iC 6 54 [5], iZ (.store true 7 2 6)])
 (.ret))
 (.skip)))
 (.seq (.ops [iO 7 (.build [.int 0, .nilS, .int 0, .int 0, .int 0, .str [], .str []] []), iZ (.store true 7 2 7)])
 (.ret)))
def f56 (G : Nat → AVal) : AFn := ⟨8, [.cell 2 true 7], f56m G⟩
theorem f56_c (G : Nat → AVal) : cmpFn Tryz.prog G [] 56 = some (f56 G) := by kernel_rfl
def f90m (G : Nat → AVal) : MC :=
 .seq (.ops [iO 6 (.mv (.val (.bool false)))])
 (.seq (.draw (.rd [⟨0, iO 7 (.mv 0), false, false⟩, ⟨1, iO 8 (.nilck 7), false, false⟩, ⟨2, iO 9 (.faddr 3 8), false, false⟩, ⟨3, iO 10 (.load false 1 9), false, false⟩, ⟨4, iO 11 (.bin .eql .int 10 (aI 0)), false, false⟩, ⟨5, iO 12 (.mv 11), false, false⟩, ⟨6, iG 13 12 true (.mv 0), false, false⟩, ⟨7, iG 14 12 true (.nilck 13), false, false⟩, ⟨8, iG 15 12 true (.faddr 1 14), false, false⟩, ⟨9, iG 16 12 true (.load false 1 15), false, false⟩, ⟨10, iG 17 12 true (.mv 0), false, false⟩, ⟨11, iG 18 12 true (.nilck 17), false, false⟩, ⟨12, iG 19 12 true (.faddr 0 18), false, false⟩, ⟨13, iG 20 12 true (.load false 1 19), false, false⟩, ⟨14, iG 21 12 true (.lenS 20), false, false⟩, ⟨15, iG 22 12 true (.bin .lss .int 16 21), false, false⟩, ⟨16, iO 23 (.pick 12 22 (.val (.bool false))), false, false⟩, ⟨17, iO 24 (.mv 23), false, false⟩, ⟨18, iG 25 24 true (.mv 0), false, false⟩, ⟨19, iG 26 24 true (.nilck 25), false, false⟩, ⟨20, iG 27 24 true (.faddr 0 26), false, false⟩, ⟨21, iG 28 24 true (.load false 1 27), false, false⟩, ⟨22, iG 29 24 true (.mv 0), false, false⟩, ⟨23, iG 30 24 true (.nilck 29), false, false⟩, ⟨24, iG 31 24 true (.faddr 1 30), false, false⟩, ⟨25, iG 32 24 true (.load false 1 31), false, false⟩, ⟨26, iG 33 24 true (.iaddr 4 28 32), false, false⟩, ⟨27, iG 34 24 true (.faddr 0 33), false, false⟩, ⟨28, iG 35 24 true (.load false 1 34), false, false⟩, ⟨29, iG 36 24 true (.mv 1), false, false⟩, ⟨30, iG 37 24 true (.bin .eql .int 35 36), false, false⟩, ⟨31, iO 38 (.pick 24 37 (.val (.bool false))), false, false⟩, ⟨32, iO 39 (.mv 38), false, false⟩, ⟨33, iG 40 39 true (.mv 0), false, false⟩, ⟨34, iG 41 39 true (.nilck 40), false, false⟩, ⟨35, iG 42 39 true (.faddr 0 41), false, false⟩, ⟨36, iG 43 39 true (.load false 1 42), false, false⟩, ⟨37, iG 44 39 true (.mv 0), false, false⟩, ⟨38, iG 45 39 true (.nilck 44), false, false⟩, ⟨39, iG 46 39 true (.faddr 1 45), false, false⟩, ⟨40, iG 47 39 true (.load false 1 46), false, false⟩, ⟨41, iG 48 39 true (.iaddr 4 43 47), false, false⟩, ⟨42, iG 49 39 true (.faddr 1 48), false, false⟩, ⟨43, iG 50 39 true (.load false 1 49), false, false⟩, ⟨44, iG 51 39 true (.mv 2), false, false⟩, ⟨45, iG 52 39 true (.bin .eql .str 50 51), false, false⟩, ⟨46, iO 53 (.pick 39 52 (.val (.bool false))), false, false⟩, ⟨47, iO 6 (.mv 53), false, false⟩]
 (.nil)))
 (.ret))
def f90 (G : Nat → AVal) : AFn := ⟨54, [.tmp 6], f90m G⟩
theorem f90_c (G : Nat → AVal) : cmpFn Tryz.prog G [] 90 = some (f90 G) := by kernel_rfl
def f91m (G : Nat → AVal) : MC :=
 .seq (.ops [iO 2 (.mv (aS []))])
 (.seq (.seq (.ops [iO 3 (.mv 0), iC 4 48 [3, (aI 1), (aS [97, 115])]])
 (.cond 4
 (.seq (.ops [iO 5 (.mv 0), iC 6 50 [5], iO 2 (.mv 6)])
 (.ret))
 (.skip)))
 (.seq (.ops [iO 2 (.mv (aS []))])
 (.ret)))
def f91 (G : Nat → AVal) : AFn := ⟨7, [.tmp 2], f91m G⟩
theorem f91_c (G : Nat → AVal) : cmpFn Tryz.prog G [] 91 = some (f91 G) := by kernel_rfl
def f92b0 (G : Nat → AVal) : MC :=
 .seq (.seq (.ops [iO 22 (.mv 1), iO 23 (.bin .eql .int 22 (aI 2)), iO 24 (.mv 23), iG 25 24 true (.mv 0), ⟨some 26, some (24, true), .call 48 [25, (aI 1), (aS [110, 111, 116])]⟩, iO 27 (.pick 24 26 (.val (.bool false))), iO 28 (.mv 27), iG 29 28 false (.mv 1), iG 30 28 false (.bin .eql .int 29 (aI 6)), iG 31 28 false (.mv 30), iG 32 31 true (.mv 0), ⟨some 33, some (31, true), .call 48 [32, (aI 5), (aS [45])]⟩, iG 34 28 false (.pick 31 33 (.val (.bool false))), iO 35 (.pick 28 (.val (.bool true)) 34)])
 (.cond 35
 (.skip)
 (.exit 1)))
 (.block 2
 (.ops [iO 36 (.mv 5), iO 37 (.bin .add .int 36 (aI 1)), iO 5 (.mv 37)]))
def f92b1 (G : Nat → AVal) : MC :=
 .seq (.seq (.ops [iO 44 (.mv 8), iO 45 (.mv 5), iO 46 (.bin .lss .int 44 45)])
 (.cond 46
 (.skip)
 (.exit 3)))
 (.seq (.block 4
 (.ops [iO 49 (.mv 6), iO 50 (.load true 7 7), iO 51 (.bslice true 7 1 [.int 0, .nilS, .int 0, .int 0, .int 0, .str [], .str []] [(0, 50)]), iO 52 (.build [.int 0, .nilS, .int 0, .int 0, .int 0, .str [], .str []] [(false, 0, 1, 49), (false, 1, 1, 51)]), iZ (.store true 7 7 52)]))
 (.ops [iO 47 (.mv 8), iO 48 (.bin .add .int 47 (aI 1)), iO 8 (.mv 48)]))
def f92b2 (G : Nat → AVal) : MC :=
 .block 6
 (.seq (.ops [iO 66 (.mv 0), iO 67 (.mv 1), iC 68 110 [66, 67], iO 10 (.mv 68)])
 (.seq (.seq (.ops [iO 69 (.mv 10), iO 70 (.bin .eql .int 69 (aI 0))])
 (.cond 70
 (.seq (.ops [iO 71 (.load true 7 9), iZ (.store true 7 4 71)])
 (.ret))
 (.skip)))
 (.seq (.ops [iO 72 (.mv 0), iO 73 (.mv 1), iO 74 (.bin .add .int 73 (aI 1)), iC 75 92 [72, 74], iO 11 (.alloc 7 [.int 0, .nilS, .int 0, .int 0, .int 0, .str [], .str []]), iZ (.store true 7 11 75)])
 (.ops [iO 76 (.mv 10), iO 77 (.load true 7 9), iO 78 (.load true 7 11), iO 79 (.bslice true 7 2 [.int 0, .nilS, .int 0, .int 0, .int 0, .str [], .str []] [(0, 77), (1, 78)]), iO 80 (.build [.int 0, .nilS, .int 0, .int 0, .int 0, .str [], .str []] [(false, 0, 1, 76), (false, 1, 1, 79)]), iZ (.store true 7 9 80)]))))
def f92m (G : Nat → AVal) : MC :=
 .seq (.ops [iO 4 (.alloc 7 [.int 0, .nilS, .int 0, .int 0, .int 0, .str [], .str []])])
 (.seq (.seq (.ops [iO 12 (.mv 0), iO 13 (.nilck 12), iO 14 (.faddr 3 13), iO 15 (.load false 1 14), iO 16 (.bin .neq .int 15 (aI 0))])
 (.cond 16
 (.seq (.ops [iO 17 (.build [.int 0, .nilS, .int 0, .int 0, .int 0, .str [], .str []] []), iZ (.store true 7 4 17)])
 (.ret))
 (.skip)))
 (.seq (.seq (.ops [iO 18 (.mv 1)])
 (.block 0
 (.seq (.seq (.ops [iO 20 (.bin .eql .int 18 (aI 2)), iO 19 (.mv 20)])
 (.cond 19
 (.skip)
 (.ops [iO 21 (.bin .eql .int 18 (aI 6)), iO 19 (.mv 21)])))
 (.cond 19
 (.seq (.ops [iO 5 (.mv (aI 0)), iO 6 (.mv (aI 16))])
 (.seq (.block 1
 (.loop (f92b0 G)))
 (.seq (.seq (.ops [iO 38 (.mv 1), iO 39 (.bin .eql .int 38 (aI 6))])
 (.cond 39
 (.ops [iO 6 (.mv (aI 13))])
 (.skip)))
 (.seq (.ops [iO 40 (.mv 0), iO 41 (.mv 1), iO 42 (.bin .add .int 41 (aI 1)), iC 43 92 [40, 42], iO 7 (.alloc 7 [.int 0, .nilS, .int 0, .int 0, .int 0, .str [], .str []]), iZ (.store true 7 7 43)])
 (.seq (.seq (.ops [iO 8 (.mv (aI 0))])
 (.block 3
 (.loop (f92b1 G))))
 (.seq (.ops [iO 53 (.load true 7 7), iZ (.store true 7 4 53)])
 (.ret)))))))
 (.seq (.ops [iO 55 (.bin .eql .int 18 (aI 3)), iO 54 (.mv 55)])
 (.cond 54
 (.seq (.ops [iO 56 (.mv 0), iC 57 108 [56], iZ (.store true 7 4 57)])
 (.ret))
 (.seq (.ops [iO 59 (.bin .eql .int 18 (aI 7)), iO 58 (.mv 59)])
 (.cond 58
 (.seq (.ops [iO 60 (.mv 0), iC 61 109 [60], iZ (.store true 7 4 61)])
 (.ret))
 (.skip)))))))))
 (.seq (.ops [iO 62 (.mv 0), iO 63 (.mv 1), iO 64 (.bin .add .int 63 (aI 1)), iC 65 92 [62, 64], iO 9 (.alloc 7 [.int 0, .nilS, .int 0, .int 0, .int 0, .str [], .str []]), iZ (.store true 7 9 65)])
 (.block 5
 (.loop (f92b2 G))))))
def f92 (G : Nat → AVal) : AFn := ⟨81, [.cell 4 true 7], f92m G⟩
theorem f92_c (G : Nat → AVal) : cmpFn Tryz.prog G [] 92 = some (f92 G) := by kernel_rfl
def f108b0 (G : Nat → AVal) : MC :=
 .seq (.seq (.ops [iO 11 (.mv 5), iO 12 (.bin .lss .int 11 (aI 6))])
 (.cond 12
 (.skip)
 (.exit 0)))
 (.seq (.block 1
 (.seq (.ops [iO 15 (.mv 0), iO 16 (.mv 5), iO 17 (.iaddrA 6 1 4 16), iO 18 (.load false 1 17), iC 19 48 [15, (aI 5), 18]])
 (.cond 19
 (.seq (.ops [iO 20 (.mv 0), iC 21 92 [20, (aI 4)], iO 6 (.alloc 7 [.int 0, .nilS, .int 0, .int 0, .int 0, .str [], .str []]), iZ (.store true 7 6 21)])
 (.seq (.ops [iO 22 (.mv 5), iO 23 (.bin .add .int 22 (aI 1)), iO 24 (.load true 7 3), iO 25 (.load true 7 6), iO 26 (.bslice true 7 2 [.int 0, .nilS, .int 0, .int 0, .int 0, .str [], .str []] [(0, 24), (1, 25)]), iO 27 (.build [.int 0, .nilS, .int 0, .int 0, .int 0, .str [], .str []] [(false, 0, 1, 23), (false, 1, 1, 26)]), iZ (.store true 7 2 27)])
 (.ret)))
 (.skip))))
 (.ops [iO 13 (.mv 5), iO 14 (.bin .add .int 13 (aI 1)), iO 5 (.mv 14)]))
def f108m (G : Nat → AVal) : MC :=
 .seq (.ops [iO 2 (.alloc 7 [.int 0, .nilS, .int 0, .int 0, .int 0, .str [], .str []])])
 (.seq (.ops [iO 8 (.mv 0), iC 9 92 [8, (aI 4)], iO 3 (.alloc 7 [.int 0, .nilS, .int 0, .int 0, .int 0, .str [], .str []]), iZ (.store true 7 3 9)])
 (.seq (.ops [iO 10 (.build [.str [], .str [], .str [], .str [], .str [], .str []] [(false, 0, 1, (aS [61])), (false, 1, 1, (aS [60, 62])), (false, 2, 1, (aS [60])), (false, 3, 1, (aS [60, 61])), (false, 4, 1, (aS [62])), (false, 5, 1, (aS [62, 61]))]), iO 4 (.alloc 6 [.str [], .str [], .str [], .str [], .str [], .str []]), iZ (.store true 6 4 10)])
 (.seq (.seq (.ops [iO 5 (.mv (aI 0))])
 (.block 0
 (.loop (f108b0 G))))
 (.seq (.seq (.ops [iO 28 (.mv 0), iC 29 48 [28, (aI 1), (aS [105, 115])], iO 30 (.un .not 29)])
 (.cond 30
 (.seq (.ops [iO 31 (.load true 7 3), iZ (.store true 7 2 31)])
 (.ret))
 (.skip)))
 (.seq (.ops [iO 7 (.mv (aI 19))])
 (.seq (.seq (.ops [iO 32 (.mv 0), iC 33 48 [32, (aI 1), (aS [110, 111, 116])]])
 (.cond 33
 (.ops [iO 7 (.mv (aI 20))])
 (.skip)))
 (.seq (.ops [iO 34 (.mv 0), iC 35 51 [34, (aI 1), (aS [110, 117, 108, 108])]])
 (.seq (.ops [iO 36 (.mv 7), iO 37 (.load true 7 3), iO 38 (.bslice true 7 1 [.int 0, .nilS, .int 0, .int 0, .int 0, .str [], .str []] [(0, 37)]), iO 39 (.build [.int 0, .nilS, .int 0, .int 0, .int 0, .str [], .str []] [(false, 0, 1, 36), (false, 1, 1, 38)]), iZ (.store true 7 2 39)])
 (.ret)))))))))
def f108 (G : Nat → AVal) : AFn := ⟨40, [.cell 2 true 7], f108m G⟩
theorem f108_c (G : Nat → AVal) : cmpFn Tryz.prog G [] 108 = some (f108 G) := by kernel_rfl
def f109m (G : Nat → AVal) : MC :=
 .seq (.ops [iO 2 (.alloc 7 [.int 0, .nilS, .int 0, .int 0, .int 0, .str [], .str []])])
 (.seq (.seq (.draw (.rd [⟨0, iO 7 (.mv 0), false, false⟩, ⟨1, iO 8 (.nilck 7), false, false⟩, ⟨2, iO 9 (.faddr 1 8), false, false⟩, ⟨3, iO 10 (.load false 1 9), false, false⟩, ⟨4, iO 11 (.mv 0), false, false⟩, ⟨5, iO 12 (.nilck 11), false, false⟩, ⟨6, iO 13 (.faddr 0 12), false, false⟩, ⟨7, iO 14 (.load false 1 13), false, false⟩, ⟨8, iO 15 (.lenS 14), false, false⟩, ⟨9, iO 16 (.bin .eql .int 10 15), false, false⟩]
 (.nil)))
 (.cond 16
 (.seq (.ops [iO 17 (.mv 0), iC 18 24 [17, (aI 130)]])
 (.seq (.ops [iO 19 (.build [.int 0, .nilS, .int 0, .int 0, .int 0, .str [], .str []] []), iZ (.store true 7 2 19)])
 (.ret)))
 (.skip)))
 (.seq (.draw (.rd [⟨0, iO 20 (.mv 0), false, true⟩, ⟨1, iO 21 (.nilck 20), false, true⟩, ⟨2, iO 22 (.faddr 0 21), false, true⟩, ⟨3, iO 23 (.load false 1 22), false, true⟩, ⟨4, iO 24 (.mv 0), false, true⟩, ⟨5, iO 25 (.nilck 24), false, true⟩, ⟨6, iO 26 (.faddr 1 25), false, true⟩, ⟨7, iO 27 (.load false 1 26), false, true⟩, ⟨8, iO 28 (.iaddr 4 23 27), false, true⟩, ⟨9, iO 29 (.load true 4 28), false, true⟩]
 (.ef ⟨10, iO 3 (.alloc 4 [.int 0, .str [], .int 0, .int 0]), true, false⟩ [0, 1, 2, 3, 4, 5, 6, 7, 8, 9]
 (.ef ⟨11, iZ (.store true 4 3 29), true, false⟩ []
 (.nil)))))
 (.seq (.seq (.ops [iO 30 (.faddr 0 3), iO 31 (.load false 1 30), iO 32 (.bin .geq .int 31 (aI 2)), iO 33 (.mv 32), iG 34 33 true (.faddr 0 3), iG 35 33 true (.load false 1 34), iG 36 33 true (.bin .leq .int 35 (aI 4)), iO 37 (.pick 33 36 (.val (.bool false)))])
 (.cond 37
 (.seq (.ops [iO 38 (.mv 0), iO 39 (.nilck 38), iO 40 (.faddr 1 39), iO 41 (.load false 1 40), iO 42 (.bin .add .int 41 (aI 1)), iO 43 (.nilck 38), iO 44 (.faddr 1 43), iZ (.store false 1 44 42)])
 (.seq (.ops [iO 45 (.faddr 0 3), iO 46 (.load false 1 45), iO 47 (.faddr 2 3), iO 48 (.load false 1 47), iO 49 (.faddr 3 3), iO 50 (.load false 1 49), iO 51 (.faddr 1 3), iO 52 (.load false 1 51), iO 53 (.build [.int 0, .nilS, .int 0, .int 0, .int 0, .str [], .str []] [(false, 0, 1, (aI 21)), (false, 2, 1, 46), (false, 3, 1, 48), (false, 4, 1, 50), (false, 5, 1, 52)]), iZ (.store true 7 2 53)])
 (.ret)))
 (.skip)))
 (.seq (.block 0
 (.seq (.ops [iO 55 (.mv 0), iC 56 48 [55, (aI 1), (aS [110, 117, 108, 108])], iO 54 (.mv 56)])
 (.cond 54
 (.seq (.ops [iO 57 (.build [.int 0, .nilS, .int 0, .int 0, .int 0, .str [], .str []] [(false, 0, 1, (aI 21))]), iZ (.store true 7 2 57)])
 (.ret))
 (.seq (.ops [iO 59 (.mv 0), iC 60 48 [59, (aI 1), (aS [116, 114, 117, 101])], iO 58 (.mv 60)])
 (.cond 58
 (.seq (.ops [iO 61 (.build [.int 0, .nilS, .int 0, .int 0, .int 0, .str [], .str []] [(false, 0, 1, (aI 21)), (false, 2, 1, (aI 1)), (false, 3, 1, (aI 1))]), iZ (.store true 7 2 61)])
 (.ret))
 (.seq (.ops [iO 63 (.mv 0), iC 64 48 [63, (aI 1), (aS [102, 97, 108, 115, 101])], iO 62 (.mv 64)])
 (.cond 62
 (.seq (.ops [iO 65 (.build [.int 0, .nilS, .int 0, .int 0, .int 0, .str [], .str []] [(false, 0, 1, (aI 21)), (false, 2, 1, (aI 1))]), iZ (.store true 7 2 65)])
 (.ret))
 (.seq (.ops [iO 67 (.mv 0), iC 68 48 [67, (aI 1), (aS [110, 97, 110])], iO 66 (.mv 68)])
 (.cond 66
 (.seq (.ops [iO 69 (.build [.int 0, .nilS, .int 0, .int 0, .int 0, .str [], .str []] [(false, 0, 1, (aI 21)), (false, 2, 1, (aI 3)), (false, 4, 1, (aI (-1)))]), iZ (.store true 7 2 69)])
 (.ret))
 (.seq (.ops [iO 71 (.mv 0), iC 72 48 [71, (aI 1), (aS [105, 110, 102, 105, 110, 105, 116, 121])], iO 70 (.mv 72)])
 (.cond 70
 (.seq (.ops [iO 73 (.build [.int 0, .nilS, .int 0, .int 0, .int 0, .str [], .str []] [(false, 0, 1, (aI 21)), (false, 2, 1, (aI 3)), (false, 4, 1, (aI (-2)))]), iZ (.store true 7 2 73)])
 (.ret))
 (.seq (.ops [iO 75 (.mv 0), iC 76 48 [75, (aI 1), (aS [105, 110, 116])], iO 74 (.mv 76)])
 (.cond 74
 (.seq (.ops [iO 77 (.mv 0), iC 78 123 [77], iO 4 (.alloc 7 [.int 0, .nilS, .int 0, .int 0, .int 0, .str [], .str []]), iZ (.store true 7 4 78)])
 (.seq (.ops [iO 79 (.load true 7 4), iO 80 (.bslice true 7 1 [.int 0, .nilS, .int 0, .int 0, .int 0, .str [], .str []] [(0, 79)]), iO 81 (.build [.int 0, .nilS, .int 0, .int 0, .int 0, .str [], .str []] [(false, 0, 1, (aI 14)), (false, 1, 1, 80)]), iZ (.store true 7 2 81)])
 (.ret)))
 (.seq (.ops [iO 83 (.mv 0), iC 84 48 [83, (aI 1), (aS [114, 101, 97, 108])], iO 82 (.mv 84)])
 (.cond 82
 (.seq (.ops [iO 85 (.mv 0), iC 86 123 [85], iO 5 (.alloc 7 [.int 0, .nilS, .int 0, .int 0, .int 0, .str [], .str []]), iZ (.store true 7 5 86)])
 (.seq (.ops [iO 87 (.load true 7 5), iO 88 (.bslice true 7 1 [.int 0, .nilS, .int 0, .int 0, .int 0, .str [], .str []] [(0, 87)]), iO 89 (.build [.int 0, .nilS, .int 0, .int 0, .int 0, .str [], .str []] [(false, 0, 1, (aI 15)), (false, 1, 1, 88)]), iZ (.store true 7 2 89)])
 (.ret)))
 (.seq (.ops [iO 91 (.faddr 0 3), iO 92 (.load false 1 91), iO 93 (.bin .eql .int 92 (aI 5)), iO 90 (.mv 93)])
 (.cond 90
 (.seq (.ops [iO 94 (.mv 0), iC 95 123 [94], iZ (.store true 7 2 95)])
 (.ret))
 (.skip))))))))))))))))))
 (.seq (.ops [iO 96 (.mv 0), iC 97 50 [96], iO 98 (.build [.int 0, .nilS, .int 0, .int 0, .int 0, .str [], .str []] [(false, 0, 1, (aI 22)), (false, 5, 1, 97)]), iO 6 (.alloc 7 [.int 0, .nilS, .int 0, .int 0, .int 0, .str [], .str []]), iZ (.store true 7 6 98)])
 (.seq (.seq (.ops [iO 99 (.mv 0), iC 100 48 [99, (aI 5), (aS [46])]])
 (.cond 100
 (.seq (.ops [iO 101 (.faddr 5 6), iO 102 (.load false 1 101), iO 103 (.faddr 6 6), iZ (.store false 1 103 102)])
 (.ops [iO 104 (.mv 0), iC 105 50 [104], iO 106 (.faddr 5 6), iZ (.store false 1 106 105)]))
 (.skip)))
 (.seq (.ops [iO 107 (.load true 7 6), iZ (.store true 7 2 107)])
 (.ret))))))))
def f109 (G : Nat → AVal) : AFn := ⟨108, [.cell 2 true 7], f109m G⟩
theorem f109_c (G : Nat → AVal) : cmpFn Tryz.prog G [] 109 = some (f109 G) := by kernel_rfl
def f110b0 (G : Nat → AVal) : MC :=
 .seq (.seq (.ops [iO 25 (.mv 9), iO 26 (.bin .lss .int 25 (aI 3))])
 (.cond 26
 (.skip)
 (.exit 0)))
 (.seq (.block 1
 (.seq (.ops [iO 29 (.mv 1), iO 30 (.bin .sub .int 29 (aI 4)), iO 31 (.bin .mul .int 30 (aI 3)), iO 32 (.mv 9), iO 33 (.bin .add .int 31 32), iO 10 (.mv 33)])
 (.seq (.ops [iO 34 (.mv 0), iO 35 (.mv 10), iO 36 (.iaddrA 6 1 7 35), iO 37 (.load false 1 36), iC 38 48 [34, (aI 5), 37]])
 (.cond 38
 (.seq (.ops [iO 39 (.mv 10), iO 40 (.iaddrA 6 1 8 39), iO 41 (.load false 1 40), iO 4 (.mv 41)])
 (.ret))
 (.skip)))))
 (.ops [iO 27 (.mv 9), iO 28 (.bin .add .int 27 (aI 1)), iO 9 (.mv 28)]))
def f110m (G : Nat → AVal) : MC :=
 .seq (.ops [iO 4 (.mv (aI 0))])
 (.seq (.ops [iO 11 (.build [.str [], .str [], .str [], .str [], .str [], .str []] [(false, 0, 1, (aS [111, 114])), (false, 1, 1, (aS [97, 110, 100])), (false, 2, 1, (aS [])), (false, 3, 1, (aS [])), (false, 4, 1, (aS [])), (false, 5, 1, (aS []))]), iO 5 (.alloc 6 [.str [], .str [], .str [], .str [], .str [], .str []]), iZ (.store true 6 5 11)])
 (.seq (.ops [iO 12 (.build [.int 0, .int 0, .int 0, .int 0, .int 0, .int 0] [(false, 0, 1, (aI 18)), (false, 1, 1, (aI 17)), (false, 2, 1, (aI 0)), (false, 3, 1, (aI 0)), (false, 4, 1, (aI 0)), (false, 5, 1, (aI 0))]), iO 6 (.alloc 6 [.int 0, .int 0, .int 0, .int 0, .int 0, .int 0]), iZ (.store true 6 6 12)])
 (.seq (.seq (.ops [iO 13 (.mv 1), iO 14 (.bin .lss .int 13 (aI 2))])
 (.cond 14
 (.seq (.seq (.ops [iO 15 (.mv 0), iO 16 (.mv 1), iO 17 (.iaddrA 6 1 5 16), iO 18 (.load false 1 17), iC 19 48 [15, (aI 1), 18]])
 (.cond 19
 (.seq (.ops [iO 20 (.mv 1), iO 21 (.iaddrA 6 1 6 20), iO 22 (.load false 1 21), iO 4 (.mv 22)])
 (.ret))
 (.skip)))
 (.seq (.ops [iO 4 (.mv (aI 0))])
 (.ret)))
 (.skip)))
 (.seq (.ops [iO 23 (.build [.str [], .str [], .str [], .str [], .str [], .str []] [(false, 0, 1, (aS [43])), (false, 1, 1, (aS [45])), (false, 2, 1, (aS [124, 124])), (false, 3, 1, (aS [42])), (false, 4, 1, (aS [47])), (false, 5, 1, (aS [37]))]), iO 7 (.alloc 6 [.str [], .str [], .str [], .str [], .str [], .str []]), iZ (.store true 6 7 23)])
 (.seq (.ops [iO 24 (.build [.int 0, .int 0, .int 0, .int 0, .int 0, .int 0] [(false, 0, 1, (aI 7)), (false, 1, 1, (aI 8)), (false, 2, 1, (aI 12)), (false, 3, 1, (aI 9)), (false, 4, 1, (aI 10)), (false, 5, 1, (aI 11))]), iO 8 (.alloc 6 [.int 0, .int 0, .int 0, .int 0, .int 0, .int 0]), iZ (.store true 6 8 24)])
 (.seq (.seq (.ops [iO 9 (.mv (aI 0))])
 (.block 0
 (.loop (f110b0 G))))
 (.seq (.ops [iO 4 (.mv (aI 0))])
 (.ret))))))))
def f110 (G : Nat → AVal) : AFn := ⟨42, [.tmp 4], f110m G⟩
theorem f110_c (G : Nat → AVal) : cmpFn Tryz.prog G [] 110 = some (f110 G) := by kernel_rfl
def f123m (G : Nat → AVal) : MC :=
 .seq (.ops [iO 2 (.alloc 7 [.int 0, .nilS, .int 0, .int 0, .int 0, .str [], .str []])])
 (.seq (.seq (.ops [iO 4 (.mv 0), iC 5 90 [4, (aI 5), (aS [40])], iO 6 (.mv 5), iG 7 6 true (.mv 0), iG 8 6 true (.nilck 7), iG 9 6 true (.faddr 2 8), iG 10 6 true (.load false 1 9), iG 11 6 true (.bin .eql .int 10 (aI 40)), iO 12 (.pick 6 11 (.val (.bool false)))])
 (.cond 12
 (.ops [iO 13 (.mv 0), iC 14 24 [13, (aI 5)]])
 (.skip)))
 (.seq (.ops [iO 15 (.mv 0), iC 16 51 [15, (aI 5), (aS [40])]])
 (.seq (.ops [iO 17 (.mv 0), iO 18 (.nilck 17), iO 19 (.faddr 2 18), iO 20 (.load false 1 19), iO 21 (.bin .add .int 20 (aI 1)), iO 22 (.nilck 17), iO 23 (.faddr 2 22), iZ (.store false 1 23 21)])
 (.seq (.ops [iO 24 (.mv 0), iC 25 92 [24, (aI 0)], iO 3 (.alloc 7 [.int 0, .nilS, .int 0, .int 0, .int 0, .str [], .str []]), iZ (.store true 7 3 25)])
 (.seq (.ops [iO 26 (.mv 0), iO 27 (.nilck 26), iO 28 (.faddr 2 27), iO 29 (.load false 1 28), iO 30 (.bin .sub .int 29 (aI 1)), iO 31 (.nilck 26), iO 32 (.faddr 2 31), iZ (.store false 1 32 30)])
 (.seq (.ops [iO 33 (.mv 0), iC 34 51 [33, (aI 5), (aS [41])]])
 (.seq (.ops [iO 35 (.load true 7 3), iZ (.store true 7 2 35)])
 (.ret))))))))
def f123 (G : Nat → AVal) : AFn := ⟨36, [.cell 2 true 7], f123m G⟩
theorem f123_c (G : Nat → AVal) : cmpFn Tryz.prog G [] 123 = some (f123 G) := by kernel_rfl
end Go.Abs
set_option linter.unusedVariables false
namespace Go.Abs
open Go Go.RowKit Go.Proofs
def f15b0 (G : Nat → AVal) : MC :=
 .seq (.seq (.ops [iO 6 (.mv 4), iO 7 (.faddr 1 1), iO 8 (.load false 1 7), iO 9 (.lenS 8), iO 10 (.bin .lss .int 6 9)])
 (.cond 10
 (.skip)
 (.exit 0)))
 (.seq (.block 1
 (.seq (.ops [iO 13 (.faddr 1 1), iO 14 (.load false 1 13), iO 15 (.mv 4), iO 16 (.iaddr 7 14 15), iO 17 (.load true 7 16), iC 18 15 [17], iO 19 (.bin .add .int 18 (aI 1)), iO 5 (.mv 19)])
 (.seq (.ops [iO 20 (.mv 5), iO 21 (.mv 3), iO 22 (.bin .gtr .int 20 21)])
 (.cond 22
 (.ops [iO 23 (.mv 5), iO 3 (.mv 23)])
 (.skip)))))
 (.ops [iO 11 (.mv 4), iO 12 (.bin .add .int 11 (aI 1)), iO 4 (.mv 12)]))
def f15m (G : Nat → AVal) : MC :=
 .seq (.ops [iO 1 (.box true 7 0), iO 2 (.mv (aI 0))])
 (.seq (.ops [iO 3 (.mv (aI 0))])
 (.seq (.seq (.ops [iO 4 (.mv (aI 0))])
 (.block 0
 (.loop (f15b0 G))))
 (.seq (.ops [iO 24 (.mv 3), iO 2 (.mv 24)])
 (.ret))))
def f15 (G : Nat → AVal) : AFn := ⟨25, [.tmp 2], f15m G⟩
theorem f15_c (G : Nat → AVal) : cmpFn Tryz.prog G [] 15 = some (f15 G) := by kernel_rfl
end Go.Abs
