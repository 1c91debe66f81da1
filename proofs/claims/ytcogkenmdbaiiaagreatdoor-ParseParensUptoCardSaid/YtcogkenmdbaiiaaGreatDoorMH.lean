/- More of the seat's functions, translated; the checks. Conditions: none. -/
import Derived.Test.YtcogkenmdbaiiaaGreatDoorMF
import Derived.Test.YtcogkenmdbaiiaaGreatDoorA25
import Derived.Test.YtcogkenmdbaiiaaGreatDoorProg
import Derived.KernelRfl
set_option linter.unusedVariables false
namespace Go.Abs
open Go Go.RowKit Go.Proofs
def f3m (G : Nat → AVal) : MC :=
 .seq (.ops [iO 0 (.mv (.val (.bool false)))])
 (.seq (.seq (.ops [iC 1 8 [], iO 2 (.un .not 1)])
 (.cond 2
 (.seq (.ops [iO 0 (.mv (.val (.bool false)))])
 (.ret))
 (.skip)))
 (.seq (.ops [iO 0 (.mv (.val (.bool true)))])
 (.ret)))
def f3 (G : Nat → AVal) : AFn := ⟨3, [.tmp 0], f3m G⟩
def f4m (G : Nat → AVal) : MC :=
 .seq (.ops [iO 2 (.mv (.val (.bool false)))])
 (.seq (.seq (.ops [iC 7 8 [], iO 8 (.un .not 7)])
 (.cond 8
 (.seq (.ops [iO 2 (.mv (.val (.bool false)))])
 (.ret))
 (.skip)))
 (.seq (.ops [iO 10 (.mv 0), iC 11 9 [10], iO 9 (.mv 11), iO 12 (.extract 9 0), iO 13 (.extract 9 1), iO 3 (.alloc 18 [.int 0, .str [], .str [], .nilS, .nilS, .bool false, .nilS, .nilS, .nilS, .int 0, .nilS, .int 0, .int 0, .int 0, .str [], .str [], .nilS, .nilS]), iZ (.store true 18 3 12), iO 4 (.mv 13)])
 (.seq (.ops [iO 15 (.mv 0), iC 16 10 [15], iO 14 (.mv 16), iO 17 (.extract 14 0), iO 18 (.extract 14 1), iO 5 (.alloc 18 [.int 0, .str [], .str [], .nilS, .nilS, .bool false, .nilS, .nilS, .nilS, .int 0, .nilS, .int 0, .int 0, .int 0, .str [], .str [], .nilS, .nilS]), iZ (.store true 18 5 17), iO 6 (.mv 18)])
 (.seq (.ops [iO 19 (.mv 4), iO 20 (.mv 6), iO 21 (.bin .eql .int 19 20), iO 22 (.mv 21), iG 23 22 true (.load true 18 3), iG 24 22 true (.load true 18 5), ⟨some 25, some (22, true), .call 11 [23, 24]⟩, iO 26 (.pick 22 25 (.val (.bool false))), iO 2 (.mv 26)])
 (.ret)))))
def f4 (G : Nat → AVal) : AFn := ⟨27, [.tmp 2], f4m G⟩
def f5b0 (G : Nat → AVal) : MC :=
 .seq (.ops [iO 28 (.bin .lss .int 27 26)])
 (.seq (.cond 28
 (.skip)
 (.exit 0))
 (.seq (.block 1
 (.seq (.ops [iO 29 (.iaddr 4 25 27), iO 30 (.load true 4 29), iO 10 (.alloc 4 [.int 0, .str [], .int 0, .int 0]), iZ (.store true 4 10 30)])
 (.seq (.ops [iO 31 (.mv 8), iO 32 (.load true 4 10), iC 33 13 [32], iO 34 (.conv .strBytes 33), iO 35 (.append 1 1 31 34), iO 8 (.mv 35)])
 (.ops [iO 36 (.mv 8), iO 37 (.mv 7), iO 38 (.mv 1), iO 39 (.bin .and .int 38 (.val (.atom (.int .u8 3)))), iO 40 (.idxS 37 39), iO 41 (.bslice false 1 1 [.atom (.int .u8 0)] [(0, 40)]), iO 42 (.append 1 1 36 41), iO 8 (.mv 42)]))))
 (.ops [iO 43 (.bin .add .int 27 (aI 1)), iO 27 (.mv 43)])))
def f5m (G : Nat → AVal) : MC :=
 .seq (.ops [iO 4 (.mv (.val (.bool false)))])
 (.seq (.seq (.ops [iC 15 8 [], iO 16 (.un .not 15)])
 (.cond 16
 (.seq (.ops [iO 4 (.mv (.val (.bool false)))])
 (.ret))
 (.skip)))
 (.seq (.ops [iO 18 (.mv 0), iC 19 12 [18], iO 17 (.mv 19), iO 20 (.extract 17 0), iO 21 (.extract 17 1), iO 5 (.mv 20), iO 6 (.mv 21)])
 (.seq (.seq (.ops [iO 22 (.mv 6), iO 23 (.bin .neq .int 22 (aI 0))])
 (.cond 23
 (.seq (.ops [iO 4 (.mv (.val (.bool true)))])
 (.ret))
 (.skip)))
 (.seq (.ops [iO 7 (.mv (aS [32, 9, 10, 13]))])
 (.seq (.ops [iO 24 (.bslice false 1 0 [.atom (.int .u8 0)] []), iO 8 (.mv 24)])
 (.seq (.seq (.ops [iO 25 (.mv 5), iO 26 (.lenS 25), iO 27 (.mv (aI 0))])
 (.block 0
 (.loop (f5b0 G))))
 (.seq (.seq (.ops [iO 44 (.mv 8), iO 45 (.lenS 44), iO 46 (.bin .gtr .int 45 (aI 4000))])
 (.cond 46
 (.seq (.ops [iO 4 (.mv (.val (.bool true)))])
 (.ret))
 (.skip)))
 (.seq (.ops [iO 48 (.mv 0), iC 49 9 [48], iO 47 (.mv 49), iO 50 (.extract 47 0), iO 51 (.extract 47 1), iO 11 (.alloc 18 [.int 0, .str [], .str [], .nilS, .nilS, .bool false, .nilS, .nilS, .nilS, .int 0, .nilS, .int 0, .int 0, .int 0, .str [], .str [], .nilS, .nilS]), iZ (.store true 18 11 50), iO 12 (.mv 51)])
 (.seq (.ops [iO 53 (.mv 8), iO 54 (.conv .bytesStr 53), iC 55 9 [54], iO 52 (.mv 55), iO 56 (.extract 52 0), iO 57 (.extract 52 1), iO 13 (.alloc 18 [.int 0, .str [], .str [], .nilS, .nilS, .bool false, .nilS, .nilS, .nilS, .int 0, .nilS, .int 0, .int 0, .int 0, .str [], .str [], .nilS, .nilS]), iZ (.store true 18 13 56), iO 14 (.mv 57)])
 (.seq (.ops [iO 58 (.mv 12), iO 59 (.mv 14), iO 60 (.bin .eql .int 58 59), iO 61 (.mv 60), iG 62 61 true (.load true 18 11), iG 63 61 true (.load true 18 13), ⟨some 64, some (61, true), .call 11 [62, 63]⟩, iO 65 (.pick 61 64 (.val (.bool false))), iO 4 (.mv 65)])
 (.ret)))))))))))
def f5 (G : Nat → AVal) : AFn := ⟨66, [.tmp 4], f5m G⟩
def f6b0 (G : Nat → AVal) : MC :=
 .seq (.ops [iO 17 (.bin .lss .int 16 15)])
 (.seq (.cond 17
 (.skip)
 (.exit 0))
 (.seq (.block 1
 (.seq (.ops [iO 18 (.mv 16), iO 5 (.mv 18)])
 (.seq (.seq (.ops [iO 19 (.mv 3), iO 20 (.mv 5), iO 21 (.iaddr 1 19 20), iO 22 (.load false 1 21), iO 23 (.bin .eql .int 22 (.val (.atom (.int .u8 39))))])
 (.cond 23
 (.ops [iO 24 (.mv 4), iO 25 (.un .not 24), iO 4 (.mv 25)])
 (.skip)))
 (.seq (.ops [iO 26 (.mv 4), iO 27 (.un .not 26), iO 28 (.mv 27), iG 29 28 true (.mv 3), iG 30 28 true (.mv 5), iG 31 28 true (.iaddr 1 29 30), iG 32 28 true (.load false 1 31), iG 33 28 true (.bin .geq .int 32 (.val (.atom (.int .u8 97)))), iO 34 (.pick 28 33 (.val (.bool false))), iO 35 (.mv 34), iG 36 35 true (.mv 3), iG 37 35 true (.mv 5), iG 38 35 true (.iaddr 1 36 37), iG 39 35 true (.load false 1 38), iG 40 35 true (.bin .leq .int 39 (.val (.atom (.int .u8 122)))), iO 41 (.pick 35 40 (.val (.bool false)))])
 (.cond 41
 (.ops [iO 42 (.mv 3), iO 43 (.mv 5), iO 44 (.iaddr 1 42 43), iO 45 (.load false 1 44), iO 46 (.bin .sub .int 45 (.val (.atom (.int .u8 32)))), iO 47 (.iaddr 1 42 43), iZ (.store false 1 47 46)])
 (.skip))))))
 (.ops [iO 48 (.bin .add .int 16 (aI 1)), iO 16 (.mv 48)])))
def f6m (G : Nat → AVal) : MC :=
 .seq (.ops [iO 2 (.mv (.val (.bool false)))])
 (.seq (.seq (.ops [iC 10 8 [], iO 11 (.un .not 10)])
 (.cond 11
 (.seq (.ops [iO 2 (.mv (.val (.bool false)))])
 (.ret))
 (.skip)))
 (.seq (.ops [iO 12 (.mv 0), iO 13 (.conv .strBytes 12), iO 3 (.mv 13), iO 4 (.mv (.val (.bool false)))])
 (.seq (.seq (.ops [iO 14 (.mv 3), iO 15 (.lenS 14), iO 16 (.mv (aI 0))])
 (.block 0
 (.loop (f6b0 G))))
 (.seq (.ops [iO 50 (.mv 0), iC 51 9 [50], iO 49 (.mv 51), iO 52 (.extract 49 0), iO 53 (.extract 49 1), iO 6 (.alloc 18 [.int 0, .str [], .str [], .nilS, .nilS, .bool false, .nilS, .nilS, .nilS, .int 0, .nilS, .int 0, .int 0, .int 0, .str [], .str [], .nilS, .nilS]), iZ (.store true 18 6 52), iO 7 (.mv 53)])
 (.seq (.ops [iO 55 (.mv 3), iO 56 (.conv .bytesStr 55), iC 57 9 [56], iO 54 (.mv 57), iO 58 (.extract 54 0), iO 59 (.extract 54 1), iO 8 (.alloc 18 [.int 0, .str [], .str [], .nilS, .nilS, .bool false, .nilS, .nilS, .nilS, .int 0, .nilS, .int 0, .int 0, .int 0, .str [], .str [], .nilS, .nilS]), iZ (.store true 18 8 58), iO 9 (.mv 59)])
 (.seq (.ops [iO 60 (.mv 7), iO 61 (.mv 9), iO 62 (.bin .eql .int 60 61), iO 63 (.mv 62), iG 64 63 true (.load true 18 6), iG 65 63 true (.load true 18 8), ⟨some 66, some (63, true), .call 11 [64, 65]⟩, iO 67 (.pick 63 66 (.val (.bool false))), iO 2 (.mv 67)])
 (.ret)))))))
def f6 (G : Nat → AVal) : AFn := ⟨68, [.tmp 2], f6m G⟩
def f8m (G : Nat → AVal) : MC :=
 .seq (.ops [iO 0 (.mv (.val (.bool false)))])
 (.seq (.ops [iC 7 9 [(aS [68, 69, 76, 69, 84, 69, 32, 70, 82, 79, 77, 32, 116, 32, 87, 72, 69, 82, 69, 32, 78, 79, 84, 32, 97, 32, 61, 32, 45, 49, 32, 43, 32, 98, 32, 42, 32, 50])], iO 6 (.mv 7), iO 8 (.extract 6 0), iO 9 (.extract 6 1), iO 1 (.alloc 18 [.int 0, .str [], .str [], .nilS, .nilS, .bool false, .nilS, .nilS, .nilS, .int 0, .nilS, .int 0, .int 0, .int 0, .str [], .str [], .nilS, .nilS]), iZ (.store true 18 1 8), iO 2 (.mv 9)])
 (.seq (.ops [iC 11 9 [(aS [83, 69, 76, 69, 67, 84, 32, 97, 32, 70, 82, 79, 77])], iO 10 (.mv 11), iO 12 (.extract 10 0), iO 13 (.extract 10 1), iO 3 (.alloc 18 [.int 0, .str [], .str [], .nilS, .nilS, .bool false, .nilS, .nilS, .nilS, .int 0, .nilS, .int 0, .int 0, .int 0, .str [], .str [], .nilS, .nilS]), iZ (.store true 18 3 12), iO 4 (.mv 13)])
 (.seq (.ops [iO 14 (.faddr 9 1), iO 15 (.load true 7 14), iO 5 (.alloc 7 [.int 0, .nilS, .int 0, .int 0, .int 0, .str [], .str []]), iZ (.store true 7 5 15)])
 (.seq (.seq (.ops [iO 16 (.mv 2), iO 17 (.bin .neq .int 16 (aI 0)), iO 18 (.mv 17), iG 19 18 false (.mv 4), iG 20 18 false (.bin .neq .int 19 (aI 130)), iO 21 (.pick 18 (.val (.bool true)) 20), iO 22 (.mv 21), iG 23 22 false (.faddr 0 1), iG 24 22 false (.load false 1 23), iG 25 22 false (.bin .neq .int 24 (aI 8)), iO 26 (.pick 22 (.val (.bool true)) 25), iO 27 (.mv 26), iG 28 27 false (.faddr 1 1), iG 29 27 false (.load false 1 28), iG 30 27 false (.bin .neq .str 29 (aS [116])), iO 31 (.pick 27 (.val (.bool true)) 30), iO 32 (.mv 31), iG 33 32 false (.faddr 0 5), iG 34 32 false (.load false 1 33), iG 35 32 false (.bin .neq .int 34 (aI 16)), iO 36 (.pick 32 (.val (.bool true)) 35), iO 37 (.mv 36), iG 38 37 false (.faddr 1 5), iG 39 37 false (.load false 1 38), iG 40 37 false (.lenS 39), iG 41 37 false (.bin .neq .int 40 (aI 1)), iO 42 (.pick 37 (.val (.bool true)) 41), iO 43 (.mv 42), iG 44 43 false (.faddr 1 5), iG 45 43 false (.load false 1 44), iG 46 43 false (.iaddr 7 45 (aI 0)), iG 47 43 false (.faddr 0 46), iG 48 43 false (.load false 1 47), iG 49 43 false (.bin .neq .int 48 (aI 1)), iO 50 (.pick 43 (.val (.bool true)) 49), iO 51 (.mv 50), iG 52 51 false (.faddr 1 5), iG 53 51 false (.load false 1 52), iG 54 51 false (.iaddr 7 53 (aI 0)), iG 55 51 false (.faddr 1 54), iG 56 51 false (.load false 1 55), iG 57 51 false (.lenS 56), iG 58 51 false (.bin .neq .int 57 (aI 2)), iO 59 (.pick 51 (.val (.bool true)) 58)])
 (.cond 59
 (.seq (.ops [iO 0 (.mv (.val (.bool false)))])
 (.ret))
 (.skip)))
 (.seq (.ops [iO 60 (.faddr 1 5), iO 61 (.load false 1 60), iO 62 (.iaddr 7 61 (aI 0)), iO 63 (.faddr 1 62), iO 64 (.load false 1 63), iO 65 (.iaddr 7 64 (aI 1)), iO 66 (.faddr 0 65), iO 67 (.load false 1 66), iO 68 (.bin .eql .int 67 (aI 7)), iO 69 (.mv 68), iG 70 69 true (.load true 7 5), ⟨some 71, some (69, true), .call 18 [70]⟩, iG 72 69 true (.bin .eql .int 71 (aI 4)), iO 73 (.pick 69 72 (.val (.bool false))), iO 0 (.mv 73)])
 (.ret))))))
def f8 (G : Nat → AVal) : AFn := ⟨74, [.tmp 0], f8m G⟩
theorem f8_c (G : Nat → AVal) : cmpFn Tryz.prog G [] 8 = some (f8 G) := by kernel_rfl
def f11b0 (G : Nat → AVal) : MC :=
 .seq (.seq (.ops [iO 107 (.mv 5), iO 108 (.faddr 3 2), iO 109 (.load false 1 108), iO 110 (.lenS 109), iO 111 (.bin .lss .int 107 110)])
 (.cond 111
 (.skip)
 (.exit 0)))
 (.seq (.block 1
 (.seq (.draw (.rd [⟨0, iO 114 (.faddr 3 2), false, false⟩, ⟨1, iO 115 (.load false 1 114), false, false⟩, ⟨2, iO 116 (.mv 5), false, false⟩, ⟨3, iO 117 (.iaddr 3 115 116), false, false⟩, ⟨4, iO 118 (.load true 3 117), false, false⟩, ⟨5, iO 119 (.faddr 3 3), false, false⟩, ⟨6, iO 120 (.load false 1 119), false, false⟩, ⟨7, iO 121 (.mv 5), false, false⟩, ⟨8, iO 122 (.iaddr 3 120 121), false, false⟩, ⟨9, iO 123 (.load true 3 122), false, false⟩, ⟨10, iO 124 (.bin .neq (.agg [(false, 0, 1, .str), (false, 1, 1, .int), (false, 2, 1, .bool)]) 118 123), false, false⟩]
 (.nil)))
 (.cond 124
 (.seq (.ops [iO 4 (.mv (.val (.bool false)))])
 (.ret))
 (.skip))))
 (.ops [iO 112 (.mv 5), iO 113 (.bin .add .int 112 (aI 1)), iO 5 (.mv 113)]))
def f11b1 (G : Nat → AVal) : MC :=
 .seq (.seq (.ops [iO 125 (.mv 6), iO 126 (.faddr 4 2), iO 127 (.load false 1 126), iO 128 (.lenS 127), iO 129 (.bin .lss .int 125 128)])
 (.cond 129
 (.skip)
 (.exit 2)))
 (.seq (.block 3
 (.seq (.draw (.rd [⟨0, iO 132 (.faddr 4 2), false, false⟩, ⟨1, iO 133 (.load false 1 132), false, false⟩, ⟨2, iO 134 (.mv 6), false, false⟩, ⟨3, iO 135 (.iaddr 1 133 134), false, false⟩, ⟨4, iO 136 (.load false 1 135), false, false⟩, ⟨5, iO 137 (.faddr 4 3), false, false⟩, ⟨6, iO 138 (.load false 1 137), false, false⟩, ⟨7, iO 139 (.mv 6), false, false⟩, ⟨8, iO 140 (.iaddr 1 138 139), false, false⟩, ⟨9, iO 141 (.load false 1 140), false, false⟩, ⟨10, iO 142 (.bin .neq .str 136 141), false, false⟩]
 (.nil)))
 (.cond 142
 (.seq (.ops [iO 4 (.mv (.val (.bool false)))])
 (.ret))
 (.skip))))
 (.ops [iO 130 (.mv 6), iO 131 (.bin .add .int 130 (aI 1)), iO 6 (.mv 131)]))
def f11b2 (G : Nat → AVal) : MC :=
 .seq (.seq (.ops [iO 143 (.mv 7), iO 144 (.faddr 6 2), iO 145 (.load false 1 144), iO 146 (.lenS 145), iO 147 (.bin .lss .int 143 146)])
 (.cond 147
 (.skip)
 (.exit 4)))
 (.seq (.block 5
 (.seq (.draw (.rd [⟨0, iO 150 (.faddr 6 2), false, false⟩, ⟨1, iO 151 (.load false 1 150), false, false⟩, ⟨2, iO 152 (.mv 7), false, false⟩, ⟨3, iO 153 (.iaddr 1 151 152), false, false⟩, ⟨4, iO 154 (.load false 1 153), false, false⟩, ⟨5, iO 155 (.faddr 6 3), false, false⟩, ⟨6, iO 156 (.load false 1 155), false, false⟩, ⟨7, iO 157 (.mv 7), false, false⟩, ⟨8, iO 158 (.iaddr 1 156 157), false, false⟩, ⟨9, iO 159 (.load false 1 158), false, false⟩]
 (.ef ⟨10, iC 160 25 [154, 159], true, false⟩ []
 (.rd [⟨11, iO 161 (.un .not 160), false, false⟩]
 (.nil)))))
 (.cond 161
 (.seq (.ops [iO 4 (.mv (.val (.bool false)))])
 (.ret))
 (.skip))))
 (.ops [iO 148 (.mv 7), iO 149 (.bin .add .int 148 (aI 1)), iO 7 (.mv 149)]))
def f11b3 (G : Nat → AVal) : MC :=
 .seq (.seq (.ops [iO 162 (.mv 8), iO 163 (.faddr 7 2), iO 164 (.load false 1 163), iO 165 (.lenS 164), iO 166 (.bin .lss .int 162 165)])
 (.cond 166
 (.skip)
 (.exit 6)))
 (.seq (.block 7
 (.seq (.draw (.rd [⟨0, iO 169 (.faddr 7 2), false, false⟩, ⟨1, iO 170 (.load false 1 169), false, false⟩, ⟨2, iO 171 (.mv 8), false, false⟩, ⟨3, iO 172 (.iaddr 8 170 171), false, false⟩, ⟨4, iO 173 (.faddr 7 172), false, false⟩, ⟨5, iO 174 (.load false 1 173), false, false⟩, ⟨6, iO 175 (.faddr 7 3), false, false⟩, ⟨7, iO 176 (.load false 1 175), false, false⟩, ⟨8, iO 177 (.mv 8), false, false⟩, ⟨9, iO 178 (.iaddr 8 176 177), false, false⟩, ⟨10, iO 179 (.faddr 7 178), false, false⟩, ⟨11, iO 180 (.load false 1 179), false, false⟩, ⟨12, iO 181 (.bin .neq .str 174 180), false, false⟩, ⟨13, iO 182 (.mv 181), false, false⟩, ⟨14, iG 183 182 false (.faddr 7 2), false, false⟩, ⟨15, iG 184 182 false (.load false 1 183), false, false⟩, ⟨16, iG 185 182 false (.mv 8), false, false⟩, ⟨17, iG 186 182 false (.iaddr 8 184 185), false, false⟩, ⟨18, iG 187 182 false (.faddr 0 186), false, false⟩, ⟨19, iG 188 182 false (.load true 7 187), false, false⟩, ⟨20, iG 189 182 false (.faddr 7 3), false, false⟩, ⟨21, iG 190 182 false (.load false 1 189), false, false⟩, ⟨22, iG 191 182 false (.mv 8), false, false⟩, ⟨23, iG 192 182 false (.iaddr 8 190 191), false, false⟩, ⟨24, iG 193 182 false (.faddr 0 192), false, false⟩, ⟨25, iG 194 182 false (.load true 7 193), false, false⟩]
 (.ef ⟨26, ⟨some 195, some (182, false), .call 17 [188, 194]⟩, true, false⟩ []
 (.rd [⟨27, iG 196 182 false (.un .not 195), false, false⟩, ⟨28, iO 197 (.pick 182 (.val (.bool true)) 196), false, false⟩]
 (.nil)))))
 (.cond 197
 (.seq (.ops [iO 4 (.mv (.val (.bool false)))])
 (.ret))
 (.skip))))
 (.ops [iO 167 (.mv 8), iO 168 (.bin .add .int 167 (aI 1)), iO 8 (.mv 168)]))
def f11b4 (G : Nat → AVal) : MC :=
 .seq (.seq (.ops [iO 198 (.mv 9), iO 199 (.faddr 8 2), iO 200 (.load false 1 199), iO 201 (.lenS 200), iO 202 (.bin .lss .int 198 201)])
 (.cond 202
 (.skip)
 (.exit 8)))
 (.seq (.block 9
 (.seq (.draw (.rd [⟨0, iO 205 (.faddr 8 2), false, false⟩, ⟨1, iO 206 (.load false 1 205), false, false⟩, ⟨2, iO 207 (.mv 9), false, false⟩, ⟨3, iO 208 (.iaddr 9 206 207), false, false⟩, ⟨4, iO 209 (.faddr 0 208), false, false⟩, ⟨5, iO 210 (.load false 1 209), false, false⟩, ⟨6, iO 211 (.faddr 8 3), false, false⟩, ⟨7, iO 212 (.load false 1 211), false, false⟩, ⟨8, iO 213 (.mv 9), false, false⟩, ⟨9, iO 214 (.iaddr 9 212 213), false, false⟩, ⟨10, iO 215 (.faddr 0 214), false, false⟩, ⟨11, iO 216 (.load false 1 215), false, false⟩, ⟨12, iO 217 (.bin .neq .str 210 216), false, false⟩, ⟨13, iO 218 (.mv 217), false, false⟩, ⟨14, iG 219 218 false (.faddr 8 2), false, false⟩, ⟨15, iG 220 218 false (.load false 1 219), false, false⟩, ⟨16, iG 221 218 false (.mv 9), false, false⟩, ⟨17, iG 222 218 false (.iaddr 9 220 221), false, false⟩, ⟨18, iG 223 218 false (.faddr 1 222), false, false⟩, ⟨19, iG 224 218 false (.load false 1 223), false, false⟩, ⟨20, iG 225 218 false (.faddr 8 3), false, false⟩, ⟨21, iG 226 218 false (.load false 1 225), false, false⟩, ⟨22, iG 227 218 false (.mv 9), false, false⟩, ⟨23, iG 228 218 false (.iaddr 9 226 227), false, false⟩, ⟨24, iG 229 218 false (.faddr 1 228), false, false⟩, ⟨25, iG 230 218 false (.load false 1 229), false, false⟩, ⟨26, iG 231 218 false (.bin .neq .str 224 230), false, false⟩, ⟨27, iO 232 (.pick 218 (.val (.bool true)) 231), false, false⟩, ⟨28, iO 233 (.mv 232), false, false⟩, ⟨29, iG 234 233 false (.faddr 8 2), false, false⟩, ⟨30, iG 235 233 false (.load false 1 234), false, false⟩, ⟨31, iG 236 233 false (.mv 9), false, false⟩, ⟨32, iG 237 233 false (.iaddr 9 235 236), false, false⟩, ⟨33, iG 238 233 false (.faddr 2 237), false, false⟩, ⟨34, iG 239 233 false (.load true 7 238), false, false⟩, ⟨35, iG 240 233 false (.faddr 8 3), false, false⟩, ⟨36, iG 241 233 false (.load false 1 240), false, false⟩, ⟨37, iG 242 233 false (.mv 9), false, false⟩, ⟨38, iG 243 233 false (.iaddr 9 241 242), false, false⟩, ⟨39, iG 244 233 false (.faddr 2 243), false, false⟩, ⟨40, iG 245 233 false (.load true 7 244), false, false⟩]
 (.ef ⟨41, ⟨some 246, some (233, false), .call 17 [239, 245]⟩, true, false⟩ []
 (.rd [⟨42, iG 247 233 false (.un .not 246), false, false⟩, ⟨43, iO 248 (.pick 233 (.val (.bool true)) 247), false, false⟩]
 (.nil)))))
 (.cond 248
 (.seq (.ops [iO 4 (.mv (.val (.bool false)))])
 (.ret))
 (.skip))))
 (.ops [iO 203 (.mv 9), iO 204 (.bin .add .int 203 (aI 1)), iO 9 (.mv 204)]))
def f11m (G : Nat → AVal) : MC :=
 .seq (.ops [iO 2 (.box true 18 0), iO 3 (.box true 18 1), iO 4 (.mv (.val (.bool false)))])
 (.seq (.seq (.ops [iO 10 (.faddr 0 2), iO 11 (.load false 1 10), iO 12 (.faddr 0 3), iO 13 (.load false 1 12), iO 14 (.bin .neq .int 11 13), iO 15 (.mv 14), iG 16 15 false (.faddr 1 2), iG 17 15 false (.load false 1 16), iG 18 15 false (.faddr 1 3), iG 19 15 false (.load false 1 18), iG 20 15 false (.bin .neq .str 17 19), iO 21 (.pick 15 (.val (.bool true)) 20), iO 22 (.mv 21), iG 23 22 false (.faddr 2 2), iG 24 22 false (.load false 1 23), iG 25 22 false (.faddr 2 3), iG 26 22 false (.load false 1 25), iG 27 22 false (.bin .neq .str 24 26), iO 28 (.pick 22 (.val (.bool true)) 27), iO 29 (.mv 28), iG 30 29 false (.faddr 5 2), iG 31 29 false (.load false 1 30), iG 32 29 false (.faddr 5 3), iG 33 29 false (.load false 1 32), iG 34 29 false (.bin .neq .bool 31 33), iO 35 (.pick 29 (.val (.bool true)) 34), iO 36 (.mv 35), iG 37 36 false (.faddr 3 2), iG 38 36 false (.load false 1 37), iG 39 36 false (.lenS 38), iG 40 36 false (.faddr 3 3), iG 41 36 false (.load false 1 40), iG 42 36 false (.lenS 41), iG 43 36 false (.bin .neq .int 39 42), iO 44 (.pick 36 (.val (.bool true)) 43), iO 45 (.mv 44), iG 46 45 false (.faddr 4 2), iG 47 45 false (.load false 1 46), iG 48 45 false (.lenS 47), iG 49 45 false (.faddr 4 3), iG 50 45 false (.load false 1 49), iG 51 45 false (.lenS 50), iG 52 45 false (.bin .neq .int 48 51), iO 53 (.pick 45 (.val (.bool true)) 52), iO 54 (.mv 53), iG 55 54 false (.faddr 6 2), iG 56 54 false (.load false 1 55), iG 57 54 false (.lenS 56), iG 58 54 false (.faddr 6 3), iG 59 54 false (.load false 1 58), iG 60 54 false (.lenS 59), iG 61 54 false (.bin .neq .int 57 60), iO 62 (.pick 54 (.val (.bool true)) 61), iO 63 (.mv 62), iG 64 63 false (.faddr 7 2), iG 65 63 false (.load false 1 64), iG 66 63 false (.lenS 65), iG 67 63 false (.faddr 7 3), iG 68 63 false (.load false 1 67), iG 69 63 false (.lenS 68), iG 70 63 false (.bin .neq .int 66 69), iO 71 (.pick 63 (.val (.bool true)) 70), iO 72 (.mv 71), iG 73 72 false (.faddr 8 2), iG 74 72 false (.load false 1 73), iG 75 72 false (.lenS 74), iG 76 72 false (.faddr 8 3), iG 77 72 false (.load false 1 76), iG 78 72 false (.lenS 77), iG 79 72 false (.bin .neq .int 75 78), iO 80 (.pick 72 (.val (.bool true)) 79), iO 81 (.mv 80), iG 82 81 false (.faddr 16 2), iG 83 81 false (.load false 1 82), iG 84 81 false (.lenS 83), iG 85 81 false (.faddr 16 3), iG 86 81 false (.load false 1 85), iG 87 81 false (.lenS 86), iG 88 81 false (.bin .neq .int 84 87), iO 89 (.pick 81 (.val (.bool true)) 88), iO 90 (.mv 89), iG 91 90 false (.faddr 17 2), iG 92 90 false (.load false 1 91), iG 93 90 false (.lenS 92), iG 94 90 false (.faddr 17 3), iG 95 90 false (.load false 1 94), iG 96 90 false (.lenS 95), iG 97 90 false (.bin .neq .int 93 96), iO 98 (.pick 90 (.val (.bool true)) 97), iO 99 (.mv 98), iG 100 99 false (.faddr 9 2), iG 101 99 false (.load true 7 100), iG 102 99 false (.faddr 9 3), iG 103 99 false (.load true 7 102), ⟨some 104, some (99, false), .call 17 [101, 103]⟩, iG 105 99 false (.un .not 104), iO 106 (.pick 99 (.val (.bool true)) 105)])
 (.cond 106
 (.seq (.ops [iO 4 (.mv (.val (.bool false)))])
 (.ret))
 (.skip)))
 (.seq (.seq (.ops [iO 5 (.mv (aI 0))])
 (.block 0
 (.loop (f11b0 G))))
 (.seq (.seq (.ops [iO 6 (.mv (aI 0))])
 (.block 2
 (.loop (f11b1 G))))
 (.seq (.seq (.ops [iO 7 (.mv (aI 0))])
 (.block 4
 (.loop (f11b2 G))))
 (.seq (.seq (.ops [iO 8 (.mv (aI 0))])
 (.block 6
 (.loop (f11b3 G))))
 (.seq (.seq (.ops [iO 9 (.mv (aI 0))])
 (.block 8
 (.loop (f11b4 G))))
 (.seq (.ops [iO 249 (.load true 18 2), iO 250 (.load true 18 3), iC 251 26 [249, 250], iO 4 (.mv 251)])
 (.ret))))))))
def f11 (G : Nat → AVal) : AFn := ⟨252, [.tmp 4], f11m G⟩
theorem f11_c (G : Nat → AVal) : cmpFn Tryz.prog G [] 11 = some (f11 G) := by kernel_rfl
def f17m (G : Nat → AVal) : MC :=
 .seq (.ops [iO 2 (.box true 7 0), iO 3 (.box true 7 1), iO 4 (.mv (.val (.bool false)))])
 (.seq (.seq (.ops [iO 5 (.faddr 0 2), iO 6 (.load false 1 5), iO 7 (.faddr 0 3), iO 8 (.load false 1 7), iO 9 (.bin .neq .int 6 8), iO 10 (.mv 9), iG 11 10 false (.faddr 2 2), iG 12 10 false (.load false 1 11), iG 13 10 false (.faddr 2 3), iG 14 10 false (.load false 1 13), iG 15 10 false (.bin .neq .int 12 14), iO 16 (.pick 10 (.val (.bool true)) 15), iO 17 (.mv 16), iG 18 17 false (.faddr 3 2), iG 19 17 false (.load false 1 18), iG 20 17 false (.faddr 3 3), iG 21 17 false (.load false 1 20), iG 22 17 false (.bin .neq .int 19 21), iO 23 (.pick 17 (.val (.bool true)) 22), iO 24 (.mv 23), iG 25 24 false (.faddr 4 2), iG 26 24 false (.load false 1 25), iG 27 24 false (.faddr 4 3), iG 28 24 false (.load false 1 27), iG 29 24 false (.bin .neq .int 26 28), iO 30 (.pick 24 (.val (.bool true)) 29), iO 31 (.mv 30), iG 32 31 false (.faddr 5 2), iG 33 31 false (.load false 1 32), iG 34 31 false (.faddr 5 3), iG 35 31 false (.load false 1 34), iG 36 31 false (.bin .neq .str 33 35), iO 37 (.pick 31 (.val (.bool true)) 36), iO 38 (.mv 37), iG 39 38 false (.faddr 6 2), iG 40 38 false (.load false 1 39), iG 41 38 false (.faddr 6 3), iG 42 38 false (.load false 1 41), iG 43 38 false (.bin .neq .str 40 42), iO 44 (.pick 38 (.val (.bool true)) 43)])
 (.cond 44
 (.seq (.ops [iO 4 (.mv (.val (.bool false)))])
 (.ret))
 (.skip)))
 (.seq (.ops [iO 45 (.faddr 1 2), iO 46 (.load false 1 45), iO 47 (.faddr 1 3), iO 48 (.load false 1 47), iC 49 25 [46, 48], iO 4 (.mv 49)])
 (.ret)))
def f17 (G : Nat → AVal) : AFn := ⟨50, [.tmp 4], f17m G⟩
theorem f17_c (G : Nat → AVal) : cmpFn Tryz.prog G [] 17 = some (f17 G) := by kernel_rfl
def f25b0 (G : Nat → AVal) : MC :=
 .seq (.seq (.ops [iO 11 (.mv 5), iO 12 (.mv 0), iO 13 (.lenS 12), iO 14 (.bin .lss .int 11 13)])
 (.cond 14
 (.skip)
 (.exit 0)))
 (.seq (.block 1
 (.seq (.draw (.rd [⟨0, iO 17 (.mv 0), false, false⟩, ⟨1, iO 18 (.mv 5), false, false⟩, ⟨2, iO 19 (.iaddr 7 17 18), false, false⟩, ⟨3, iO 20 (.load true 7 19), false, false⟩, ⟨4, iO 21 (.mv 1), false, false⟩, ⟨5, iO 22 (.mv 5), false, false⟩, ⟨6, iO 23 (.iaddr 7 21 22), false, false⟩, ⟨7, iO 24 (.load true 7 23), false, false⟩]
 (.ef ⟨8, iC 25 17 [20, 24], true, false⟩ []
 (.rd [⟨9, iO 26 (.un .not 25), false, false⟩]
 (.nil)))))
 (.cond 26
 (.seq (.ops [iO 4 (.mv (.val (.bool false)))])
 (.ret))
 (.skip))))
 (.ops [iO 15 (.mv 5), iO 16 (.bin .add .int 15 (aI 1)), iO 5 (.mv 16)]))
def f25m (G : Nat → AVal) : MC :=
 .seq (.ops [iO 4 (.mv (.val (.bool false)))])
 (.seq (.seq (.ops [iO 6 (.mv 0), iO 7 (.lenS 6), iO 8 (.mv 1), iO 9 (.lenS 8), iO 10 (.bin .neq .int 7 9)])
 (.cond 10
 (.seq (.ops [iO 4 (.mv (.val (.bool false)))])
 (.ret))
 (.skip)))
 (.seq (.seq (.ops [iO 5 (.mv (aI 0))])
 (.block 0
 (.loop (f25b0 G))))
 (.seq (.ops [iO 4 (.mv (.val (.bool true)))])
 (.ret))))
def f25 (G : Nat → AVal) : AFn := ⟨27, [.tmp 4], f25m G⟩
theorem f25_c (G : Nat → AVal) : cmpFn Tryz.prog G [] 25 = some (f25 G) := by kernel_rfl
def f26b0 (G : Nat → AVal) : MC :=
 .seq (.seq (.ops [iO 7 (.mv 5), iO 8 (.faddr 16 2), iO 9 (.load false 1 8), iO 10 (.lenS 9), iO 11 (.bin .lss .int 7 10)])
 (.cond 11
 (.skip)
 (.exit 0)))
 (.seq (.block 1
 (.seq (.draw (.rd [⟨0, iO 14 (.faddr 16 2), false, false⟩, ⟨1, iO 15 (.load false 1 14), false, false⟩, ⟨2, iO 16 (.mv 5), false, false⟩, ⟨3, iO 17 (.iaddr 8 15 16), false, false⟩, ⟨4, iO 18 (.faddr 7 17), false, false⟩, ⟨5, iO 19 (.load false 1 18), false, false⟩, ⟨6, iO 20 (.faddr 16 3), false, false⟩, ⟨7, iO 21 (.load false 1 20), false, false⟩, ⟨8, iO 22 (.mv 5), false, false⟩, ⟨9, iO 23 (.iaddr 8 21 22), false, false⟩, ⟨10, iO 24 (.faddr 7 23), false, false⟩, ⟨11, iO 25 (.load false 1 24), false, false⟩, ⟨12, iO 26 (.bin .neq .bool 19 25), false, false⟩, ⟨13, iO 27 (.mv 26), false, false⟩, ⟨14, iG 28 27 false (.faddr 16 2), false, false⟩, ⟨15, iG 29 27 false (.load false 1 28), false, false⟩, ⟨16, iG 30 27 false (.mv 5), false, false⟩, ⟨17, iG 31 27 false (.iaddr 8 29 30), false, false⟩, ⟨18, iG 32 27 false (.faddr 0 31), false, false⟩, ⟨19, iG 33 27 false (.load true 7 32), false, false⟩, ⟨20, iG 34 27 false (.faddr 16 3), false, false⟩, ⟨21, iG 35 27 false (.load false 1 34), false, false⟩, ⟨22, iG 36 27 false (.mv 5), false, false⟩, ⟨23, iG 37 27 false (.iaddr 8 35 36), false, false⟩, ⟨24, iG 38 27 false (.faddr 0 37), false, false⟩, ⟨25, iG 39 27 false (.load true 7 38), false, false⟩]
 (.ef ⟨26, ⟨some 40, some (27, false), .call 17 [33, 39]⟩, true, false⟩ []
 (.rd [⟨27, iG 41 27 false (.un .not 40), false, false⟩, ⟨28, iO 42 (.pick 27 (.val (.bool true)) 41), false, false⟩]
 (.nil)))))
 (.cond 42
 (.seq (.ops [iO 4 (.mv (.val (.bool false)))])
 (.ret))
 (.skip))))
 (.ops [iO 12 (.mv 5), iO 13 (.bin .add .int 12 (aI 1)), iO 5 (.mv 13)]))
def f26b1 (G : Nat → AVal) : MC :=
 .seq (.seq (.ops [iO 43 (.mv 6), iO 44 (.faddr 17 2), iO 45 (.load false 1 44), iO 46 (.lenS 45), iO 47 (.bin .lss .int 43 46)])
 (.cond 47
 (.skip)
 (.exit 2)))
 (.seq (.block 3
 (.seq (.draw (.rd [⟨0, iO 50 (.faddr 17 2), false, false⟩, ⟨1, iO 51 (.load false 1 50), false, false⟩, ⟨2, iO 52 (.mv 6), false, false⟩, ⟨3, iO 53 (.iaddr 8 51 52), false, false⟩, ⟨4, iO 54 (.faddr 0 53), false, false⟩, ⟨5, iO 55 (.load false 1 54), false, false⟩, ⟨6, iO 56 (.faddr 17 3), false, false⟩, ⟨7, iO 57 (.load false 1 56), false, false⟩, ⟨8, iO 58 (.mv 6), false, false⟩, ⟨9, iO 59 (.iaddr 8 57 58), false, false⟩, ⟨10, iO 60 (.faddr 0 59), false, false⟩, ⟨11, iO 61 (.load false 1 60), false, false⟩, ⟨12, iO 62 (.bin .neq .str 55 61), false, false⟩, ⟨13, iO 63 (.mv 62), false, false⟩, ⟨14, iG 64 63 false (.faddr 17 2), false, false⟩, ⟨15, iG 65 63 false (.load false 1 64), false, false⟩, ⟨16, iG 66 63 false (.mv 6), false, false⟩, ⟨17, iG 67 63 false (.iaddr 8 65 66), false, false⟩, ⟨18, iG 68 63 false (.faddr 1 67), false, false⟩, ⟨19, iG 69 63 false (.load true 7 68), false, false⟩, ⟨20, iG 70 63 false (.faddr 17 3), false, false⟩, ⟨21, iG 71 63 false (.load false 1 70), false, false⟩, ⟨22, iG 72 63 false (.mv 6), false, false⟩, ⟨23, iG 73 63 false (.iaddr 8 71 72), false, false⟩, ⟨24, iG 74 63 false (.faddr 1 73), false, false⟩, ⟨25, iG 75 63 false (.load true 7 74), false, false⟩]
 (.ef ⟨26, ⟨some 76, some (63, false), .call 17 [69, 75]⟩, true, false⟩ []
 (.rd [⟨27, iG 77 63 false (.un .not 76), false, false⟩, ⟨28, iO 78 (.pick 63 (.val (.bool true)) 77), false, false⟩]
 (.nil)))))
 (.cond 78
 (.seq (.ops [iO 4 (.mv (.val (.bool false)))])
 (.ret))
 (.skip))))
 (.ops [iO 48 (.mv 6), iO 49 (.bin .add .int 48 (aI 1)), iO 6 (.mv 49)]))
def f26m (G : Nat → AVal) : MC :=
 .seq (.ops [iO 2 (.box true 18 0), iO 3 (.box true 18 1), iO 4 (.mv (.val (.bool false)))])
 (.seq (.seq (.ops [iO 5 (.mv (aI 0))])
 (.block 0
 (.loop (f26b0 G))))
 (.seq (.seq (.ops [iO 6 (.mv (aI 0))])
 (.block 2
 (.loop (f26b1 G))))
 (.seq (.ops [iO 4 (.mv (.val (.bool true)))])
 (.ret))))
def f26 (G : Nat → AVal) : AFn := ⟨79, [.tmp 4], f26m G⟩
theorem f26_c (G : Nat → AVal) : cmpFn Tryz.prog G [] 26 = some (f26 G) := by kernel_rfl
end Go.Abs
set_option linter.unusedVariables false
namespace Go.Abs
open Go Go.RowKit Go.Proofs
def f15b0 (G : Nat → AVal) : MC :=
 .seq (.seq (.ops [iO 6 (.mv 4), iO 7 (.faddr 1 1), iO 8 (.load false 1 7), iO 9 (.lenS 8), iO 10 (.bin .lss .int 6 9)])
 (.cond 10
 (.skip)
 (.exit 0)))
 (.seq (.block 1
 (.seq (.ops [iO 13 (.faddr 1 1), iO 14 (.load false 1 13), iO 15 (.mv 4), iO 16 (.iaddr 7 14 15), iO 17 (.load true 7 16), iC 18 15 [17], iO 19 (.bin .add .int 18 (aI 1)), iO 5 (.mv 19)])
 (.seq (.ops [iO 20 (.mv 5), iO 21 (.mv 3), iO 22 (.bin .gtr .int 20 21)])
 (.cond 22
 (.ops [iO 23 (.mv 5), iO 3 (.mv 23)])
 (.skip)))))
 (.ops [iO 11 (.mv 4), iO 12 (.bin .add .int 11 (aI 1)), iO 4 (.mv 12)]))
def f15m (G : Nat → AVal) : MC :=
 .seq (.ops [iO 1 (.box true 7 0), iO 2 (.mv (aI 0))])
 (.seq (.ops [iO 3 (.mv (aI 0))])
 (.seq (.seq (.ops [iO 4 (.mv (aI 0))])
 (.block 0
 (.loop (f15b0 G))))
 (.seq (.ops [iO 24 (.mv 3), iO 2 (.mv 24)])
 (.ret))))
def f15 (G : Nat → AVal) : AFn := ⟨25, [.tmp 2], f15m G⟩
theorem f15_c (G : Nat → AVal) : cmpFn Tryz.prog G [] 15 = some (f15 G) := by kernel_rfl
end Go.Abs
set_option linter.unusedVariables false
namespace Go.Abs
open Go Go.RowKit Go.Proofs
def f7b0 (G : Nat → AVal) : MC :=
 .seq (.seq (.ops [iO 28 (.mv 8), iO 29 (.mv 1), iO 30 (.bin .and .int 29 (aI 15)), iO 31 (.bin .lss .int 28 30)])
 (.cond 31
 (.skip)
 (.exit 0)))
 (.seq (.block 1
 (.seq (.ops [iO 34 (.mv 6), iO 35 (.bin .add .int 34 (aS [40])), iO 6 (.mv 35)])
 (.ops [iO 36 (.mv 7), iO 37 (.bin .add .int 36 (aS [41])), iO 7 (.mv 37)])))
 (.ops [iO 32 (.mv 8), iO 33 (.bin .add .int 32 (aI 1)), iO 8 (.mv 33)]))
def f7m (G : Nat → AVal) : MC :=
 .seq (.ops [iO 2 (.box true 7 0), iO 4 (.mv (.val (.bool false)))])
 (.seq (.seq (.ops [iC 13 8 [], iO 14 (.un .not 13)])
 (.cond 14
 (.seq (.ops [iO 4 (.mv (.val (.bool false)))])
 (.ret))
 (.skip)))
 (.seq (.seq (.ops [iO 15 (.load true 7 2), iC 16 14 [15], iO 17 (.un .not 16), iO 18 (.mv 17), iG 19 18 false (.load true 7 2), ⟨some 20, some (18, false), .call 15 [19]⟩, iG 21 18 false (.bin .gtr .int 20 (aI 20)), iO 22 (.pick 18 (.val (.bool true)) 21)])
 (.cond 22
 (.seq (.ops [iO 4 (.mv (.val (.bool true)))])
 (.ret))
 (.skip)))
 (.seq (.ops [iO 23 (.load true 7 2), iC 24 16 [23], iO 5 (.mv 24)])
 (.seq (.seq (.ops [iO 25 (.mv 5), iO 26 (.lenStr 25), iO 27 (.bin .gtr .int 26 (aI 3000))])
 (.cond 27
 (.seq (.ops [iO 4 (.mv (.val (.bool true)))])
 (.ret))
 (.skip)))
 (.seq (.ops [iO 6 (.mv (aS [])), iO 7 (.mv (aS []))])
 (.seq (.seq (.ops [iO 8 (.mv (aI 0))])
 (.block 0
 (.loop (f7b0 G))))
 (.seq (.ops [iO 39 (.mv 5), iO 40 (.bin .add .int (aS [68, 69, 76, 69, 84, 69, 32, 70, 82, 79, 77, 32, 116, 32, 87, 72, 69, 82, 69, 32]) 39), iC 41 9 [40], iO 38 (.mv 41), iO 42 (.extract 38 0), iO 43 (.extract 38 1), iO 9 (.alloc 18 [.int 0, .str [], .str [], .nilS, .nilS, .bool false, .nilS, .nilS, .nilS, .int 0, .nilS, .int 0, .int 0, .int 0, .str [], .str [], .nilS, .nilS]), iZ (.store true 18 9 42), iO 10 (.mv 43)])
 (.seq (.ops [iO 45 (.mv 6), iO 46 (.bin .add .int (aS [68, 69, 76, 69, 84, 69, 32, 70, 82, 79, 77, 32, 116, 32, 87, 72, 69, 82, 69, 32]) 45), iO 47 (.mv 5), iO 48 (.bin .add .int 46 47), iO 49 (.mv 7), iO 50 (.bin .add .int 48 49), iC 51 9 [50], iO 44 (.mv 51), iO 52 (.extract 44 0), iO 53 (.extract 44 1), iO 11 (.alloc 18 [.int 0, .str [], .str [], .nilS, .nilS, .bool false, .nilS, .nilS, .nilS, .int 0, .nilS, .int 0, .int 0, .int 0, .str [], .str [], .nilS, .nilS]), iZ (.store true 18 11 52), iO 12 (.mv 53)])
 (.seq (.ops [iO 54 (.mv 10), iO 55 (.bin .eql .int 54 (aI 0)), iO 56 (.mv 55), iG 57 56 true (.mv 12), iG 58 56 true (.bin .eql .int 57 (aI 0)), iO 59 (.pick 56 58 (.val (.bool false))), iO 60 (.mv 59), iG 61 60 true (.load true 18 9), iG 62 60 true (.load true 18 11), ⟨some 63, some (60, true), .call 11 [61, 62]⟩, iO 64 (.pick 60 63 (.val (.bool false))), iO 65 (.mv 64), iG 66 65 true (.faddr 9 9), iG 67 65 true (.load true 7 66), iG 68 65 true (.load true 7 2), ⟨some 69, some (65, true), .call 17 [67, 68]⟩, iO 70 (.pick 65 69 (.val (.bool false))), iO 4 (.mv 70)])
 (.ret))))))))))
def f7 (G : Nat → AVal) : AFn := ⟨71, [.tmp 4], f7m G⟩
theorem f7_c (G : Nat → AVal) : cmpFn Tryz.prog G [] 7 = some (f7 G) := by kernel_rfl
def f14b0 (G : Nat → AVal) : MC :=
 .seq (.seq (.ops [iO 45 (.mv 3), iO 46 (.faddr 1 1), iO 47 (.load false 1 46), iO 48 (.lenS 47), iO 49 (.bin .lss .int 45 48)])
 (.cond 49
 (.skip)
 (.exit 0)))
 (.seq (.block 1
 (.seq (.ops [iO 52 (.faddr 1 1), iO 53 (.load false 1 52), iO 54 (.mv 3), iO 55 (.iaddr 7 53 54), iO 56 (.load true 7 55), iC 57 14 [56], iO 58 (.un .not 57)])
 (.cond 58
 (.seq (.ops [iO 2 (.mv (.val (.bool false)))])
 (.ret))
 (.skip))))
 (.ops [iO 50 (.mv 3), iO 51 (.bin .add .int 50 (aI 1)), iO 3 (.mv 51)]))
def f14m (G : Nat → AVal) : MC :=
 .seq (.ops [iO 1 (.box true 7 0), iO 2 (.mv (.val (.bool false)))])
 (.seq (.seq (.draw (.rd [⟨0, iO 4 (.faddr 1 1), false, true⟩, ⟨1, iO 5 (.load false 1 4), false, true⟩, ⟨2, iO 6 (.lenS 5), false, true⟩, ⟨3, iO 7 (.faddr 0 1), false, false⟩, ⟨4, iO 8 (.load false 1 7), false, false⟩]
 (.ef ⟨5, iC 9 29 [8], true, false⟩ [0, 1, 2]
 (.rd [⟨6, iO 10 (.bin .neq .int 6 9), false, false⟩]
 (.nil)))))
 (.cond 10
 (.seq (.ops [iO 2 (.mv (.val (.bool false)))])
 (.ret))
 (.skip)))
 (.seq (.seq (.ops [iO 11 (.faddr 0 1), iO 12 (.load false 1 11), iO 13 (.bin .eql .int 12 (aI 21))])
 (.cond 13
 (.seq (.ops [iO 14 (.load true 7 1), iC 15 30 [14], iO 2 (.mv 15)])
 (.ret))
 (.skip)))
 (.seq (.seq (.ops [iO 16 (.faddr 2 1), iO 17 (.load false 1 16), iO 18 (.bin .neq .int 17 (aI 0)), iO 19 (.mv 18), iG 20 19 false (.faddr 3 1), iG 21 19 false (.load false 1 20), iG 22 19 false (.bin .neq .int 21 (aI 0)), iO 23 (.pick 19 (.val (.bool true)) 22), iO 24 (.mv 23), iG 25 24 false (.faddr 4 1), iG 26 24 false (.load false 1 25), iG 27 24 false (.bin .neq .int 26 (aI 0)), iO 28 (.pick 24 (.val (.bool true)) 27)])
 (.cond 28
 (.seq (.ops [iO 2 (.mv (.val (.bool false)))])
 (.ret))
 (.skip)))
 (.seq (.seq (.ops [iO 29 (.faddr 0 1), iO 30 (.load false 1 29), iO 31 (.bin .eql .int 30 (aI 22))])
 (.cond 31
 (.seq (.ops [iO 32 (.faddr 5 1), iO 33 (.load false 1 32), iC 34 31 [33], iO 35 (.mv 34), iG 36 35 true (.faddr 6 1), iG 37 35 true (.load false 1 36), iG 38 35 true (.bin .eql .str 37 (aS [])), iG 39 35 true (.mv 38), iG 40 39 false (.faddr 6 1), iG 41 39 false (.load false 1 40), ⟨some 42, some (39, false), .call 31 [41]⟩, iG 43 35 true (.pick 39 (.val (.bool true)) 42), iO 44 (.pick 35 43 (.val (.bool false))), iO 2 (.mv 44)])
 (.ret))
 (.skip)))
 (.seq (.seq (.ops [iO 3 (.mv (aI 0))])
 (.block 0
 (.loop (f14b0 G))))
 (.seq (.ops [iO 59 (.faddr 5 1), iO 60 (.load false 1 59), iO 61 (.bin .eql .str 60 (aS [])), iO 62 (.mv 61), iG 63 62 true (.faddr 6 1), iG 64 62 true (.load false 1 63), iG 65 62 true (.bin .eql .str 64 (aS [])), iO 66 (.pick 62 65 (.val (.bool false))), iO 2 (.mv 66)])
 (.ret)))))))
def f14 (G : Nat → AVal) : AFn := ⟨67, [.tmp 2], f14m G⟩
theorem f14_c (G : Nat → AVal) : cmpFn Tryz.prog G [] 14 = some (f14 G) := by kernel_rfl
def f16m (G : Nat → AVal) : MC :=
 .seq (.ops [iO 1 (.box true 7 0), iO 2 (.mv (aS []))])
 (.seq (.seq (.ops [iO 7 (.faddr 0 1), iO 8 (.load false 1 7), iO 9 (.bin .eql .int 8 (aI 21))])
 (.cond 9
 (.seq (.ops [iO 10 (.build [.str [], .str [], .str []] [(false, 0, 1, (aS [70, 65, 76, 83, 69])), (false, 1, 1, (aS [84, 82, 85, 69])), (false, 2, 1, (aS [78, 85, 76, 76]))]), iO 3 (.alloc 3 [.str [], .str [], .str []]), iZ (.store true 3 3 10)])
 (.seq (.block 0
 (.seq (.ops [iO 12 (.faddr 2 1), iO 13 (.load false 1 12), iO 14 (.bin .eql .int 13 (aI 0)), iO 11 (.mv 14)])
 (.cond 11
 (.seq (.ops [iO 15 (.iaddrA 3 1 3 (aI 2)), iO 16 (.load false 1 15), iO 2 (.mv 16)])
 (.ret))
 (.seq (.ops [iO 18 (.faddr 2 1), iO 19 (.load false 1 18), iO 20 (.bin .eql .int 19 (aI 1)), iO 17 (.mv 20)])
 (.cond 17
 (.seq (.ops [iO 21 (.faddr 3 1), iO 22 (.load false 1 21), iO 23 (.iaddrA 3 1 3 22), iO 24 (.load false 1 23), iO 2 (.mv 24)])
 (.ret))
 (.seq (.ops [iO 26 (.faddr 2 1), iO 27 (.load false 1 26), iO 28 (.bin .eql .int 27 (aI 3)), iO 29 (.mv 28), iG 30 29 true (.faddr 4 1), iG 31 29 true (.load false 1 30), iG 32 29 true (.bin .eql .int 31 (aI (-1))), iO 33 (.pick 29 32 (.val (.bool false))), iO 25 (.mv 33)])
 (.cond 25
 (.seq (.ops [iO 2 (.mv (aS [78, 65, 78]))])
 (.ret))
 (.seq (.ops [iO 35 (.faddr 2 1), iO 36 (.load false 1 35), iO 37 (.bin .eql .int 36 (aI 3)), iO 38 (.mv 37), iG 39 38 true (.faddr 4 1), iG 40 38 true (.load false 1 39), iG 41 38 true (.bin .eql .int 40 (aI (-2))), iO 42 (.pick 38 41 (.val (.bool false))), iO 34 (.mv 42)])
 (.cond 34
 (.seq (.ops [iO 2 (.mv (aS [73, 78, 70, 73, 78, 73, 84, 89]))])
 (.ret))
 (.skip))))))))))
 (.seq (.ops [iO 43 (.faddr 2 1), iO 44 (.load false 1 43), iO 45 (.faddr 5 1), iO 46 (.load false 1 45), iO 47 (.faddr 3 1), iO 48 (.load false 1 47), iO 49 (.faddr 4 1), iO 50 (.load false 1 49), iO 51 (.build [.int 0, .str [], .int 0, .int 0] [(false, 0, 1, 44), (false, 1, 1, 46), (false, 2, 1, 48), (false, 3, 1, 50)]), iC 52 13 [51], iO 2 (.mv 52)])
 (.ret))))
 (.skip)))
 (.seq (.seq (.ops [iO 53 (.faddr 0 1), iO 54 (.load false 1 53), iO 55 (.bin .eql .int 54 (aI 22))])
 (.cond 55
 (.seq (.seq (.ops [iO 56 (.faddr 6 1), iO 57 (.load false 1 56), iO 58 (.bin .eql .str 57 (aS []))])
 (.cond 58
 (.seq (.ops [iO 59 (.faddr 5 1), iO 60 (.load false 1 59), iO 2 (.mv 60)])
 (.ret))
 (.skip)))
 (.seq (.ops [iO 61 (.faddr 6 1), iO 62 (.load false 1 61), iO 63 (.bin .add .int 62 (aS [46])), iO 64 (.faddr 5 1), iO 65 (.load false 1 64), iO 66 (.bin .add .int 63 65), iO 2 (.mv 66)])
 (.ret)))
 (.skip)))
 (.seq (.ops [iO 67 (.build [.str [], .str [], .str [], .str [], .str [], .str [], .str [], .str [], .str [], .str [], .str [], .str [], .str [], .str [], .str [], .str [], .str [], .str [], .str [], .str [], .str [], .str [], .str []] [(false, 13, 1, (aS [40, 45, 32])), (false, 14, 1, (aS [73, 78, 84, 40])), (false, 15, 1, (aS [82, 69, 65, 76, 40])), (false, 16, 1, (aS [40, 78, 79, 84, 32])), (false, 19, 1, (aS [40])), (false, 20, 1, (aS [40]))]), iO 4 (.alloc 23 [.str [], .str [], .str [], .str [], .str [], .str [], .str [], .str [], .str [], .str [], .str [], .str [], .str [], .str [], .str [], .str [], .str [], .str [], .str [], .str [], .str [], .str [], .str []]), iZ (.store true 23 4 67)])
 (.seq (.ops [iO 68 (.build [.str [], .str [], .str [], .str [], .str [], .str [], .str [], .str [], .str [], .str [], .str [], .str [], .str [], .str [], .str [], .str [], .str [], .str [], .str [], .str [], .str [], .str [], .str []] [(false, 13, 1, (aS [41])), (false, 14, 1, (aS [41])), (false, 15, 1, (aS [41])), (false, 16, 1, (aS [41])), (false, 19, 1, (aS [32, 73, 83, 32, 78, 85, 76, 76, 41])), (false, 20, 1, (aS [32, 73, 83, 32, 78, 79, 84, 32, 78, 85, 76, 76, 41]))]), iO 5 (.alloc 23 [.str [], .str [], .str [], .str [], .str [], .str [], .str [], .str [], .str [], .str [], .str [], .str [], .str [], .str [], .str [], .str [], .str [], .str [], .str [], .str [], .str [], .str [], .str []]), iZ (.store true 23 5 68)])
 (.seq (.seq (.ops [iO 69 (.faddr 1 1), iO 70 (.load false 1 69), iO 71 (.lenS 70), iO 72 (.bin .eql .int 71 (aI 1))])
 (.cond 72
 (.seq (.draw (.rd [⟨0, iO 73 (.faddr 0 1), false, true⟩, ⟨1, iO 74 (.load false 1 73), false, true⟩, ⟨2, iO 75 (.iaddrA 23 1 4 74), false, true⟩, ⟨3, iO 76 (.load false 1 75), false, true⟩, ⟨4, iO 77 (.faddr 1 1), false, false⟩, ⟨5, iO 78 (.load false 1 77), false, false⟩, ⟨6, iO 79 (.iaddr 7 78 (aI 0)), false, false⟩, ⟨7, iO 80 (.load true 7 79), false, false⟩, ⟨10, iO 83 (.faddr 0 1), false, true⟩, ⟨11, iO 84 (.load false 1 83), false, true⟩, ⟨12, iO 85 (.iaddrA 23 1 5 84), false, true⟩, ⟨13, iO 86 (.load false 1 85), false, true⟩]
 (.ef ⟨8, iC 81 16 [80], true, false⟩ [0, 1, 2, 3, 10, 11, 12, 13]
 (.rd [⟨9, iO 82 (.bin .add .int 76 81), false, false⟩, ⟨14, iO 87 (.bin .add .int 82 86), false, false⟩, ⟨15, iO 2 (.mv 87), false, false⟩]
 (.nil)))))
 (.ret))
 (.skip)))
 (.seq (.ops [iO 88 (.build [.str [], .str [], .str [], .str [], .str [], .str [], .str [], .str [], .str [], .str [], .str [], .str [], .str [], .str [], .str [], .str [], .str [], .str [], .str [], .str [], .str [], .str [], .str []] [(false, 1, 1, (aS [61])), (false, 2, 1, (aS [60, 62])), (false, 3, 1, (aS [60])), (false, 4, 1, (aS [60, 61])), (false, 5, 1, (aS [62])), (false, 6, 1, (aS [62, 61])), (false, 7, 1, (aS [43])), (false, 8, 1, (aS [45])), (false, 9, 1, (aS [42])), (false, 10, 1, (aS [47])), (false, 11, 1, (aS [37])), (false, 12, 1, (aS [124, 124])), (false, 17, 1, (aS [65, 78, 68])), (false, 18, 1, (aS [79, 82]))]), iO 6 (.alloc 23 [.str [], .str [], .str [], .str [], .str [], .str [], .str [], .str [], .str [], .str [], .str [], .str [], .str [], .str [], .str [], .str [], .str [], .str [], .str [], .str [], .str [], .str [], .str []]), iZ (.store true 23 6 88)])
 (.seq (.draw (.rd [⟨0, iO 89 (.faddr 1 1), false, false⟩, ⟨1, iO 90 (.load false 1 89), false, false⟩, ⟨2, iO 91 (.iaddr 7 90 (aI 0)), false, false⟩, ⟨3, iO 92 (.load true 7 91), false, false⟩, ⟨7, iO 96 (.faddr 0 1), false, true⟩, ⟨8, iO 97 (.load false 1 96), false, true⟩, ⟨9, iO 98 (.iaddrA 23 1 6 97), false, true⟩, ⟨10, iO 99 (.load false 1 98), false, true⟩, ⟨13, iO 102 (.faddr 1 1), false, true⟩, ⟨14, iO 103 (.load false 1 102), false, true⟩, ⟨15, iO 104 (.iaddr 7 103 (aI 1)), false, true⟩, ⟨16, iO 105 (.load true 7 104), false, true⟩]
 (.ef ⟨4, iC 93 16 [92], true, false⟩ [7, 8, 9, 10, 13, 14, 15, 16]
 (.rd [⟨5, iO 94 (.bin .add .int (aS [40]) 93), false, true⟩, ⟨6, iO 95 (.bin .add .int 94 (aS [32])), false, true⟩, ⟨11, iO 100 (.bin .add .int 95 99), false, true⟩, ⟨12, iO 101 (.bin .add .int 100 (aS [32])), false, true⟩]
 (.ef ⟨17, iC 106 16 [105], true, false⟩ [5, 6, 7, 8, 9, 10, 11, 12]
 (.rd [⟨18, iO 107 (.bin .add .int 101 106), false, false⟩, ⟨19, iO 108 (.bin .add .int 107 (aS [41])), false, false⟩, ⟨20, iO 2 (.mv 108), false, false⟩]
 (.nil)))))))
 (.ret))))))))
def f16 (G : Nat → AVal) : AFn := ⟨109, [.tmp 2], f16m G⟩
theorem f16_c (G : Nat → AVal) : cmpFn Tryz.prog G [] 16 = some (f16 G) := by kernel_rfl
def f29m (G : Nat → AVal) : MC :=
 .seq (.ops [iO 2 (.mv (aI 0))])
 (.seq (.ops [iO 4 (.build [.int 0, .int 0, .int 0, .int 0, .int 0, .int 0, .int 0, .int 0, .int 0, .int 0, .int 0, .int 0, .int 0, .int 0, .int 0, .int 0, .int 0, .int 0, .int 0, .int 0, .int 0, .int 0, .int 0] [(false, 0, 1, (aI (-1))), (false, 1, 1, (aI 2)), (false, 2, 1, (aI 2)), (false, 3, 1, (aI 2)), (false, 4, 1, (aI 2)), (false, 5, 1, (aI 2)), (false, 6, 1, (aI 2)), (false, 7, 1, (aI 2)), (false, 8, 1, (aI 2)), (false, 9, 1, (aI 2)), (false, 10, 1, (aI 2)), (false, 11, 1, (aI 2)), (false, 12, 1, (aI 2)), (false, 13, 1, (aI 1)), (false, 14, 1, (aI 1)), (false, 15, 1, (aI 1)), (false, 16, 1, (aI 1)), (false, 17, 1, (aI 2)), (false, 18, 1, (aI 2)), (false, 19, 1, (aI 1)), (false, 20, 1, (aI 1)), (false, 21, 1, (aI 0)), (false, 22, 1, (aI 0))]), iO 3 (.alloc 23 [.int 0, .int 0, .int 0, .int 0, .int 0, .int 0, .int 0, .int 0, .int 0, .int 0, .int 0, .int 0, .int 0, .int 0, .int 0, .int 0, .int 0, .int 0, .int 0, .int 0, .int 0, .int 0, .int 0]), iZ (.store true 23 3 4)])
 (.seq (.seq (.ops [iO 5 (.mv 0), iO 6 (.bin .lss .int 5 (aI 1)), iO 7 (.mv 6), iG 8 7 false (.mv 0), iG 9 7 false (.bin .gtr .int 8 (aI 22)), iO 10 (.pick 7 (.val (.bool true)) 9)])
 (.cond 10
 (.seq (.ops [iO 2 (.mv (aI (-1)))])
 (.ret))
 (.skip)))
 (.seq (.ops [iO 11 (.mv 0), iO 12 (.iaddrA 23 1 3 11), iO 13 (.load false 1 12), iO 2 (.mv 13)])
 (.ret))))
def f29 (G : Nat → AVal) : AFn := ⟨14, [.tmp 2], f29m G⟩
theorem f29_c (G : Nat → AVal) : cmpFn Tryz.prog G [] 29 = some (f29 G) := by kernel_rfl
def f30m (G : Nat → AVal) : MC :=
 .seq (.ops [iO 1 (.box true 7 0), iO 2 (.mv (.val (.bool false)))])
 (.seq (.seq (.ops [iO 4 (.faddr 6 1), iO 5 (.load false 1 4), iO 6 (.bin .neq .str 5 (aS []))])
 (.cond 6
 (.seq (.ops [iO 2 (.mv (.val (.bool false)))])
 (.ret))
 (.skip)))
 (.seq (.seq (.ops [iO 7 (.faddr 2 1), iO 8 (.load false 1 7)])
 (.block 0
 (.seq (.seq (.ops [iO 10 (.bin .eql .int 8 (aI 0)), iO 9 (.mv 10)])
 (.cond 9
 (.skip)
 (.seq (.ops [iO 11 (.bin .eql .int 8 (aI 1)), iO 9 (.mv 11)])
 (.cond 9
 (.skip)
 (.ops [iO 12 (.bin .eql .int 8 (aI 2)), iO 9 (.mv 12)])))))
 (.cond 9
 (.seq (.ops [iO 3 (.mv (aI 0))])
 (.seq (.seq (.ops [iO 13 (.faddr 2 1), iO 14 (.load false 1 13), iO 15 (.bin .eql .int 14 (aI 1))])
 (.cond 15
 (.ops [iO 3 (.mv (aI 1))])
 (.skip)))
 (.seq (.seq (.ops [iO 16 (.faddr 2 1), iO 17 (.load false 1 16), iO 18 (.bin .eql .int 17 (aI 2))])
 (.cond 18
 (.ops [iO 3 (.mv (aI 9223372036854775807))])
 (.skip)))
 (.seq (.ops [iO 19 (.faddr 3 1), iO 20 (.load false 1 19), iO 21 (.bin .geq .int 20 (aI 0)), iO 22 (.mv 21), iG 23 22 true (.faddr 3 1), iG 24 22 true (.load false 1 23), iG 25 22 true (.mv 3), iG 26 22 true (.bin .leq .int 24 25), iO 27 (.pick 22 26 (.val (.bool false))), iO 28 (.mv 27), iG 29 28 true (.faddr 4 1), iG 30 28 true (.load false 1 29), iG 31 28 true (.bin .eql .int 30 (aI 0)), iO 32 (.pick 28 31 (.val (.bool false))), iO 33 (.mv 32), iG 34 33 true (.faddr 5 1), iG 35 33 true (.load false 1 34), iG 36 33 true (.bin .eql .str 35 (aS [])), iO 37 (.pick 33 36 (.val (.bool false))), iO 2 (.mv 37)])
 (.ret)))))
 (.seq (.ops [iO 39 (.bin .eql .int 8 (aI 3)), iO 38 (.mv 39)])
 (.cond 38
 (.seq (.seq (.ops [iO 40 (.faddr 4 1), iO 41 (.load false 1 40), iO 42 (.bin .eql .int 41 (aI (-1))), iO 43 (.mv 42), iG 44 43 false (.faddr 4 1), iG 45 43 false (.load false 1 44), iG 46 43 false (.bin .eql .int 45 (aI (-2))), iO 47 (.pick 43 (.val (.bool true)) 46)])
 (.cond 47
 (.seq (.ops [iO 48 (.faddr 3 1), iO 49 (.load false 1 48), iO 50 (.bin .eql .int 49 (aI 0)), iO 51 (.mv 50), iG 52 51 true (.faddr 5 1), iG 53 51 true (.load false 1 52), iG 54 51 true (.bin .eql .str 53 (aS [])), iO 55 (.pick 51 54 (.val (.bool false))), iO 2 (.mv 55)])
 (.ret))
 (.skip)))
 (.seq (.seq (.ops [iO 56 (.faddr 5 1), iO 57 (.load false 1 56), iO 58 (.bin .neq .str 57 (aS [])), iO 59 (.mv 58), iG 60 59 false (.faddr 4 1), iG 61 59 false (.load false 1 60), iG 62 59 false (.bin .lss .int 61 (aI 1)), iO 63 (.pick 59 (.val (.bool true)) 62), iO 64 (.mv 63), iG 65 64 false (.faddr 4 1), iG 66 64 false (.load false 1 65), iG 67 64 false (.bin .gtr .int 66 (aI 14)), iO 68 (.pick 64 (.val (.bool true)) 67), iO 69 (.mv 68), iG 70 69 false (.faddr 3 1), iG 71 69 false (.load false 1 70), iG 72 69 false (.bin .lss .int 71 (aI 0)), iO 73 (.pick 69 (.val (.bool true)) 72)])
 (.cond 73
 (.seq (.ops [iO 2 (.mv (.val (.bool false)))])
 (.ret))
 (.skip)))
 (.seq (.ops [iO 74 (.faddr 3 1), iO 75 (.load false 1 74), iO 76 (.bin .lss .int 75 (aI 1000000000000000)), iO 2 (.mv 76)])
 (.ret))))
 (.seq (.ops [iO 78 (.bin .eql .int 8 (aI 4)), iO 77 (.mv 78)])
 (.cond 77
 (.seq (.ops [iO 79 (.faddr 3 1), iO 80 (.load false 1 79), iO 81 (.bin .eql .int 80 (aI 0)), iO 82 (.mv 81), iG 83 82 true (.faddr 4 1), iG 84 82 true (.load false 1 83), iG 85 82 true (.bin .eql .int 84 (aI 0)), iO 86 (.pick 82 85 (.val (.bool false))), iO 87 (.mv 86), iG 88 87 true (.faddr 5 1), iG 89 87 true (.load false 1 88), iG 90 87 true (.lenStr 89), iG 91 87 true (.bin .lss .int 90 (aI 201)), iO 92 (.pick 87 91 (.val (.bool false))), iO 2 (.mv 92)])
 (.ret))
 (.skip)))))))))
 (.seq (.ops [iO 2 (.mv (.val (.bool false)))])
 (.ret))))
def f30 (G : Nat → AVal) : AFn := ⟨93, [.tmp 2], f30m G⟩
theorem f30_c (G : Nat → AVal) : cmpFn Tryz.prog G [] 30 = some (f30 G) := by kernel_rfl
end Go.Abs
