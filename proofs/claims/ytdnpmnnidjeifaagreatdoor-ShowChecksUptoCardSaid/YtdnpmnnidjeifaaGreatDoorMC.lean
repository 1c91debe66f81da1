/- Walks of the seat's functions, and their plain laws. Conditions: none but the lengths and the tables; definitions and lemmas. -/
import Derived.Test.YtdnpmnnidjeifaaGreatDoorMB
import Derived.Test.YtdnpmnnidjeifaaGreatDoorMA
set_option linter.unusedSimpArgs false
set_option linter.unusedVariables false
namespace Go.Abs
open Go Go.RowKit Go.Proofs Go.Lx Go.Pz
variable {w0 : World}
def hs1 (st : Stm) : Bool := hasB (usesT st.kind) 116 (decide (st.table = [])) (nameB st.table)
def hs2 (st : Stm) : Bool := hasB (usesT st.kind) 105 (decide (st.index = [])) (nameB st.index)
def hs3 (st : Stm) : Bool := hasB (usesT st.kind) 99 st.cols.isEmpty (between st.cols.length 1 16 && st.cols.all colB)
def hs4 (st : Stm) : Bool := hasB (usesT st.kind) 110 (st.names.isEmpty && !st.uniq) (between st.names.length 1 4 && st.names.all nameB)
def hs5 (st : Stm) : Bool := hasB (usesT st.kind) 114 st.rows.isEmpty (between st.rows.length 1 50 && st.rows.all rowB)
def itemsB (st : Stm) : Bool := st.items.all fun x => okE x.e && aliasB x.name
def orderB (st : Stm) : Bool := st.order.all fun x => okE x.e
def setsB (st : Stm) : Bool := st.sets.all fun x => nameB x.col && okE x.e
def hs6 (st : Stm) : Bool := hasB (usesT st.kind) 115 (st.items.isEmpty && st.src.isEmpty && st.order.isEmpty) (decide (st.items.length ≤ 50) && itemsB st && (between st.src.length 1 4 && srcB st.src) && decide (st.order.length ≤ 50) && orderB st)
def hs7 (st : Stm) : Bool := hasB (usesT st.kind) 117 st.sets.isEmpty (between st.sets.length 1 50 && setsB st)
def hs8 (st : Stm) : Bool := hasB (usesT st.kind) 119 (zeroB st.wher) (perB st.wher)
def rightB (st : Stm) : Bool := kindB st.kind && hs1 st && hs2 st && hs3 st && hs4 st && hs5 st && hs6 st && hs7 st && hs8 st
theorem count_between (n a b : Nat) : (decide ((a : Int) ≤ (n : Int)) && decide ((n : Int) ≤ (b : Int))) = between n a b := by unfold between; rw [Bool.eq_iff_iff]; simp
theorem len_empty {α : Type} (l : List α) : ((l.length : Int) == 0) = l.isEmpty := by cases l <;> simp; omega
theorem names_get {ns : List Bs} {i : Nat} (h : i < ns.length) : (namesC ns).getD i [] = [.str ns[i]] := by
 rw [getD_eq _ _ _ (show i < (namesC ns).length by simpa using h)]; simp [namesC]
theorem pcols_get {ns : List Pz.Col} {i : Nat} (h : i < ns.length) : (pcolsC ns).getD i [] = pcolC ns[i] := by
 rw [getD_eq _ _ _ (show i < (pcolsC ns).length by simpa using h)]; simp [pcolsC]
theorem flat_len {α : Type} : ∀ {l : List (List α)} {r : List α}, r ∈ l → r.length ≤ l.flatten.length
 | [], r, h => by simp at h
 | a :: l, r, h => by
   rcases List.mem_cons.1 h with rfl | h
   ·simp
   ·have := flat_len h
    rw [List.flatten_cons, List.length_append]; omega
theorem rows_len {st : Stm} (hm : Sm st) {r : List Ex} (h : r ∈ st.rows) : r.length ≤ 4000000 := by
 have h1 := flat_len h
 have h2 := hm.ex
 simp only [exsS, List.length_cons, List.length_append] at h2
 omega
def f16d7 : DT := .rd [⟨128, iO 153 (.pick 139 152 (.val (.bool false))), false, false⟩, ⟨129, iO 154 (.mv 153), false, false⟩, ⟨130, iG 155 154 true (.mv 5), false, true⟩, ⟨131, iG 156 154 true (.faddr 9 1), false, false⟩, ⟨132, iG 157 154 true (.load true 7 156), false, false⟩, ⟨140, iG 165 154 true (.faddr 9 1), false, true⟩, ⟨141, iG 166 154 true (.load true 7 165), false, true⟩]
 (.ef ⟨133, ⟨some 158, some (154, true), .call 65 [157]⟩, true, false⟩ [130, 140, 141]
 (.rd [⟨134, iG 159 154 true (.mv 158), false, false⟩, ⟨135, iG 160 159 true (.faddr 9 1), false, true⟩, ⟨136, iG 161 159 true (.faddr 0 160), false, true⟩, ⟨137, iG 162 159 true (.load false 1 161), false, true⟩, ⟨138, iG 163 159 true (.bin .eql .int 162 (aI 0)), false, true⟩, ⟨139, iG 164 154 true (.pick 159 163 (.val (.bool false))), false, true⟩]
 (.ef ⟨142, ⟨some 167, some (154, true), .call 65 [166]⟩, true, false⟩ [130, 135, 136, 137, 138, 139]
 (.ef ⟨143, ⟨some 168, some (154, true), .callV 155 [(aS [119]), 164, 167]⟩, true, false⟩ []
 (.rd [⟨144, iO 169 (.pick 154 168 (.val (.bool false))), false, false⟩, ⟨145, iO 2 (.mv 169), false, false⟩]
 (.nil))))))
def f16d6 : DT := .rd [⟨113, iO 138 (.pick 102 137 (.val (.bool false))), false, false⟩, ⟨114, iO 139 (.mv 138), false, false⟩, ⟨115, iG 140 139 true (.mv 5), false, true⟩, ⟨116, iG 141 139 true (.faddr 17 1), false, true⟩, ⟨117, iG 142 139 true (.load false 1 141), false, true⟩, ⟨118, iG 143 139 true (.lenS 142), false, true⟩, ⟨119, iG 144 139 true (.bin .eql .int 143 (aI 0)), false, true⟩, ⟨120, iG 145 139 true (.faddr 17 1), false, false⟩, ⟨121, iG 146 139 true (.load false 1 145), false, false⟩, ⟨122, iG 147 139 true (.lenS 146), false, false⟩]
 (.ef ⟨123, ⟨some 148, some (139, true), .call 58 [147, (aI 1), (aI 50)]⟩, true, false⟩ [115, 116, 117, 118, 119]
 (.rd [⟨124, iG 149 139 true (.mv 148), false, false⟩, ⟨125, iG 150 149 true (.mv 8), false, false⟩, ⟨126, iG 151 139 true (.pick 149 150 (.val (.bool false))), false, false⟩]
 (.ef ⟨127, ⟨some 152, some (139, true), .callV 140 [(aS [117]), 144, 151]⟩, true, false⟩ []
 f16d7)))
def f16d5 : DT := .rd [⟨76, iO 101 (.pick 85 100 (.val (.bool false))), false, false⟩, ⟨77, iO 102 (.mv 101), false, false⟩, ⟨78, iG 103 102 true (.mv 5), false, true⟩, ⟨79, iG 104 102 true (.faddr 7 1), false, true⟩, ⟨80, iG 105 102 true (.load false 1 104), false, true⟩, ⟨81, iG 106 102 true (.lenS 105), false, true⟩, ⟨82, iG 107 102 true (.faddr 8 1), false, true⟩, ⟨83, iG 108 102 true (.load false 1 107), false, true⟩, ⟨84, iG 109 102 true (.lenS 108), false, true⟩, ⟨85, iG 110 102 true (.bin .add .int 106 109), false, true⟩, ⟨86, iG 111 102 true (.faddr 16 1), false, true⟩, ⟨87, iG 112 102 true (.load false 1 111), false, true⟩, ⟨88, iG 113 102 true (.lenS 112), false, true⟩, ⟨89, iG 114 102 true (.bin .add .int 110 113), false, true⟩, ⟨90, iG 115 102 true (.bin .eql .int 114 (aI 0)), false, true⟩, ⟨91, iG 116 102 true (.faddr 7 1), false, false⟩, ⟨92, iG 117 102 true (.load false 1 116), false, false⟩, ⟨93, iG 118 102 true (.lenS 117), false, false⟩, ⟨94, iG 119 102 true (.bin .leq .int 118 (aI 50)), false, false⟩, ⟨95, iG 120 102 true (.mv 119), false, false⟩, ⟨96, iG 121 120 true (.mv 6), false, false⟩, ⟨97, iG 122 102 true (.pick 120 121 (.val (.bool false))), false, false⟩, ⟨98, iG 123 102 true (.mv 122), false, false⟩, ⟨99, iG 124 123 true (.faddr 8 1), false, false⟩, ⟨100, iG 125 123 true (.load false 1 124), false, false⟩]
 (.ef ⟨101, ⟨some 126, some (123, true), .call 64 [125]⟩, true, false⟩ [78, 79, 80, 81, 82, 83, 84, 85, 86, 87, 88, 89, 90]
 (.rd [⟨102, iG 127 102 true (.pick 123 126 (.val (.bool false))), false, false⟩, ⟨103, iG 128 102 true (.mv 127), false, false⟩, ⟨104, iG 129 128 true (.faddr 16 1), false, false⟩, ⟨105, iG 130 128 true (.load false 1 129), false, false⟩, ⟨106, iG 131 128 true (.lenS 130), false, false⟩, ⟨107, iG 132 128 true (.bin .leq .int 131 (aI 50)), false, false⟩, ⟨108, iG 133 102 true (.pick 128 132 (.val (.bool false))), false, false⟩, ⟨109, iG 134 102 true (.mv 133), false, false⟩, ⟨110, iG 135 134 true (.mv 7), false, false⟩, ⟨111, iG 136 102 true (.pick 134 135 (.val (.bool false))), false, false⟩]
 (.ef ⟨112, ⟨some 137, some (102, true), .callV 103 [(aS [115]), 115, 136]⟩, true, false⟩ []
 f16d6)))
def f16d4 : DT := .rd [⟨59, iO 84 (.pick 63 83 (.val (.bool false))), false, false⟩, ⟨60, iO 85 (.mv 84), false, false⟩, ⟨61, iG 86 85 true (.mv 5), false, true⟩, ⟨62, iG 87 85 true (.faddr 6 1), false, true⟩, ⟨63, iG 88 85 true (.load false 1 87), false, true⟩, ⟨64, iG 89 85 true (.lenS 88), false, true⟩, ⟨65, iG 90 85 true (.bin .eql .int 89 (aI 0)), false, true⟩, ⟨66, iG 91 85 true (.faddr 6 1), false, false⟩, ⟨67, iG 92 85 true (.load false 1 91), false, false⟩, ⟨68, iG 93 85 true (.lenS 92), false, false⟩]
 (.ef ⟨69, ⟨some 94, some (85, true), .call 58 [93, (aI 1), (aI 50)]⟩, true, false⟩ [61, 62, 63, 64, 65]
 (.rd [⟨70, iG 95 85 true (.mv 94), false, false⟩, ⟨71, iG 96 95 true (.faddr 6 1), false, false⟩, ⟨72, iG 97 95 true (.load false 1 96), false, false⟩]
 (.ef ⟨73, ⟨some 98, some (95, true), .call 62 [97, (.val (.clo (.func 63) [] []))]⟩, true, false⟩ [61, 62, 63, 64, 65]
 (.rd [⟨74, iG 99 85 true (.pick 95 98 (.val (.bool false))), false, false⟩]
 (.ef ⟨75, ⟨some 100, some (85, true), .callV 86 [(aS [114]), 90, 99]⟩, true, false⟩ []
 f16d5)))))
def f16d3 : DT := .rd [⟨37, iO 62 (.pick 46 61 (.val (.bool false))), false, false⟩, ⟨38, iO 63 (.mv 62), false, false⟩, ⟨39, iG 64 63 true (.mv 5), false, true⟩, ⟨40, iG 65 63 true (.faddr 4 1), false, false⟩, ⟨41, iG 66 63 true (.load false 1 65), false, false⟩, ⟨42, iG 67 63 true (.lenS 66), false, false⟩, ⟨43, iG 68 63 true (.bin .eql .int 67 (aI 0)), false, false⟩, ⟨44, iG 69 63 true (.mv 68), false, false⟩, ⟨45, iG 70 69 true (.faddr 5 1), false, true⟩, ⟨46, iG 71 69 true (.load false 1 70), false, true⟩, ⟨47, iG 72 69 true (.un .not 71), false, true⟩, ⟨48, iG 73 63 true (.pick 69 72 (.val (.bool false))), false, true⟩, ⟨49, iG 74 63 true (.faddr 4 1), false, false⟩, ⟨50, iG 75 63 true (.load false 1 74), false, false⟩, ⟨51, iG 76 63 true (.lenS 75), false, false⟩]
 (.ef ⟨52, ⟨some 77, some (63, true), .call 58 [76, (aI 1), (aI 4)]⟩, true, false⟩ [39, 45, 46, 47, 48]
 (.rd [⟨53, iG 78 63 true (.mv 77), false, false⟩, ⟨54, iG 79 78 true (.faddr 4 1), false, false⟩, ⟨55, iG 80 78 true (.load false 1 79), false, false⟩]
 (.ef ⟨56, ⟨some 81, some (78, true), .call 61 [80, (.val (.clo (.func 57) [] []))]⟩, true, false⟩ [39, 45, 46, 47, 48]
 (.rd [⟨57, iG 82 63 true (.pick 78 81 (.val (.bool false))), false, false⟩]
 (.ef ⟨58, ⟨some 83, some (63, true), .callV 64 [(aS [110]), 73, 82]⟩, true, false⟩ []
 f16d4)))))
def f16d2 : DT := .rd [⟨20, iO 45 (.pick 36 44 (.val (.bool false))), false, false⟩, ⟨21, iO 46 (.mv 45), false, false⟩, ⟨22, iG 47 46 true (.mv 5), false, true⟩, ⟨23, iG 48 46 true (.faddr 3 1), false, true⟩, ⟨24, iG 49 46 true (.load false 1 48), false, true⟩, ⟨25, iG 50 46 true (.lenS 49), false, true⟩, ⟨26, iG 51 46 true (.bin .eql .int 50 (aI 0)), false, true⟩, ⟨27, iG 52 46 true (.faddr 3 1), false, false⟩, ⟨28, iG 53 46 true (.load false 1 52), false, false⟩, ⟨29, iG 54 46 true (.lenS 53), false, false⟩]
 (.ef ⟨30, ⟨some 55, some (46, true), .call 58 [54, (aI 1), (aI 16)]⟩, true, false⟩ [22, 23, 24, 25, 26]
 (.rd [⟨31, iG 56 46 true (.mv 55), false, false⟩, ⟨32, iG 57 56 true (.faddr 3 1), false, false⟩, ⟨33, iG 58 56 true (.load false 1 57), false, false⟩]
 (.ef ⟨34, ⟨some 59, some (56, true), .call 59 [58, (.val (.clo (.func 60) [] []))]⟩, true, false⟩ [22, 23, 24, 25, 26]
 (.rd [⟨35, iG 60 46 true (.pick 56 59 (.val (.bool false))), false, false⟩]
 (.ef ⟨36, ⟨some 61, some (46, true), .callV 47 [(aS [99]), 51, 60]⟩, true, false⟩ []
 f16d3)))))
def f16d1 : DT := .rd [⟨10, iO 35 (.pick 26 34 (.val (.bool false))), false, false⟩, ⟨11, iO 36 (.mv 35), false, false⟩, ⟨12, iG 37 36 true (.mv 5), false, true⟩, ⟨13, iG 38 36 true (.faddr 2 1), false, true⟩, ⟨14, iG 39 36 true (.load false 1 38), false, true⟩, ⟨15, iG 40 36 true (.bin .eql .str 39 (aS [])), false, true⟩, ⟨16, iG 41 36 true (.faddr 2 1), false, false⟩, ⟨17, iG 42 36 true (.load false 1 41), false, false⟩]
 (.ef ⟨18, ⟨some 43, some (36, true), .call 57 [42]⟩, true, false⟩ [12, 13, 14, 15]
 (.ef ⟨19, ⟨some 44, some (36, true), .callV 37 [(aS [105]), 40, 43]⟩, true, false⟩ []
 f16d2))
def f16h (G : Nat → AVal) : MC :=
 .seq (.ops [iO 1 (.box true 18 0), iO 2 (.mv (.val (.bool false)))])
 (.seq (.ops [iO 10 (.faddr 0 1), iO 11 (.load false 1 10), iC 12 46 [11], iO 9 (.mv 12), iO 13 (.extract 9 0), iO 14 (.extract 9 1), iO 3 (.alloc 1 [.str []]), iZ (.store false 1 3 13), iO 4 (.mv 14)])
 (.seq (.ops [iO 15 (.mkfn (.func 47) [] [3]), iO 5 (.mv 15)])
 (.seq (.ops [iO 16 (.faddr 7 1), iO 17 (.load false 1 16), iC 18 49 [17, (.val (.clo (.func 50) [] []))], iO 6 (.mv 18)])
 (.seq (.ops [iO 19 (.faddr 16 1), iO 20 (.load false 1 19), iC 21 53 [20, (.val (.clo (.func 54) [] []))], iO 7 (.mv 21)])
 (.seq (.ops [iO 22 (.faddr 17 1), iO 23 (.load false 1 22), iC 24 55 [23, (.val (.clo (.func 56) [] []))], iO 8 (.mv 24)])
 (.seq (.draw (.rd [⟨0, iO 25 (.mv 4), false, false⟩, ⟨1, iO 26 (.mv 25), false, false⟩, ⟨2, iG 27 26 true (.mv 5), false, true⟩, ⟨3, iG 28 26 true (.faddr 1 1), false, true⟩, ⟨4, iG 29 26 true (.load false 1 28), false, true⟩, ⟨5, iG 30 26 true (.bin .eql .str 29 (aS [])), false, true⟩, ⟨6, iG 31 26 true (.faddr 1 1), false, false⟩, ⟨7, iG 32 26 true (.load false 1 31), false, false⟩]
 (.ef ⟨8, ⟨some 33, some (26, true), .call 57 [32]⟩, true, false⟩ [2, 3, 4, 5]
 (.ef ⟨9, ⟨some 34, some (26, true), .callV 27 [(aS [116]), 30, 33]⟩, true, false⟩ []
 f16d1))))
 (.ret)))))))
theorem f16m_eq (G : Nat → AVal) : f16m G = f16h G := rfl
end Go.Abs
namespace Go.Abs
open Go Go.RowKit Go.Proofs Go.Lx Go.Pz
variable {w0 : World}
def fromB (st : Stm) : Bool := between st.src.length 1 4 && srcB st.src
structure E16 (st : Stm) (b : Nat) (a : Tmps) : Prop where
 a1 : get a 1 = .ptr b 0 0
 a5 : get a 5 = .clo (.func 47) [] [.ptr (b + 1) 0 0]
 a6 : get a 6 = .bool (itemsB st)
 a7 : get a 7 = .bool (orderB st)
 a8 : get a 8 = .bool (setsB st)
structure C16 (w0 : World) (st : Stm) (b : Nat) (H : Heap) : Prop where
 cells : ∃ fC fN fR fI fF fO fS eR eI eF fl' es' k' n' s' t' q' eO eS, H[b]? = some (.cells 18 [[AVal.int st.kind, .str st.table, .str st.index, .list fC (pcolsC st.cols), .list fN (namesC st.names), .bool st.uniq, .list fR eR, .list fI eI, .list fF eF, .int (opOf st.wher), .list fl' es', .int k', .int n', .int s', .str t', .str q', .list fO eO, .list fS eS]] (some 1)) ∧
  eR.length = st.rows.length ∧ eI.length = st.items.length ∧ eF.length = st.src.length ∧ eO.length = st.order.length ∧ eS.length = st.sets.length ∧
  (ACalls Tryz.prog (B0 w0) 65 [.agg [.int (opOf st.wher), .list fl' es', .int k', .int n', .int s', .str t', .str q']] H fun e S' => e = .ret (.bool (perB st.wher)) ∧ S' = H) ∧
  (ACalls Tryz.prog (B0 w0) 64 [.list fF eF] H fun e S' => e = .ret (.bool (fromB st)) ∧ S' = H) ∧
  (ACalls Tryz.prog (B0 w0) 59 [.list fC (pcolsC st.cols), .clo (.func 60) [] []] H fun e S' => e = .ret (.bool (st.cols.all colB)) ∧ S' = H) ∧
  (ACalls Tryz.prog (B0 w0) 61 [.list fN (namesC st.names), .clo (.func 57) [] []] H fun e S' => e = .ret (.bool (st.names.all nameB)) ∧ S' = H) ∧
  (ACalls Tryz.prog (B0 w0) 62 [.list fR eR, .clo (.func 63) [] []] H fun e S' => e = .ret (.bool (st.rows.all rowB)) ∧ S' = H)
 u : H[b + 1]? = some (.cells 1 [[.str (usesT st.kind)]] (some 1))
section
variable {st : Stm} {b : Nat} {H : Heap} {a : Tmps} {p q : Bool} {Kp : AVal → Heap → Prop} {Q : Tmps → Heap → Prop}
set_option maxHeartbeats 2000000 in
theorem w16d7 (hc : C16 w0 st b H) (hm : Sm st) (he : E16 st b a) (hp : get a 139 = .bool p) (hq : p = true → get a 152 = .bool q) (hQ : ∀ a', get a' 2 = .bool (p && (q && hs8 st)) → Q a' H) :
  drawWp (ACalls Tryz.prog (B0 w0)) Kp f16d7 [] a H Q := by
 obtain ⟨⟨fC, fN, fR, fI, fF, fO, fS, eR, eI, eF, fl', es', k', n', s', t', q', eO, eS, hg, lR, lI, lF, lO, lS, h65, h64, h59, h61, h62⟩, hu⟩ := id hc
 obtain ⟨a1, a5, a6, a7, a8⟩ := id he
 have h47 := fun c z r => w47 (w0 := w0) hu c z r
 have hpq : (p && q) = true ∨ (p && q) = false := by cases (p && q) <;> simp
 rcases hpq with hpq | hpq
 rotate_left 1
 ·have hcase : p = false ∨ p = true ∧ q = false := by revert hpq; cases p <;> cases q <;> simp
  rcases hcase with rfl | ⟨rfl, rfl⟩
  ·simp [f16d7, hp, a1, a5, a6, a7, a8]
   exact hQ _ (by simp)
  ·have hq := hq rfl
   simp [f16d7, hp, hq, a1, a5, a6, a7, a8]
   exact hQ _ (by simp)
 rw [Bool.and_eq_true] at hpq
 obtain ⟨rfl, rfl⟩ := hpq
 have hq := hq rfl
 simp only [Bool.true_and] at hQ
 simp [f16d7, a1, a5, a6, a7, a8, hp, hq, hg]
 refine h65.use ?_
 rintro e S1 ⟨rfl, rfl⟩
 cases hw : perB st.wher with
 | false =>
   simp [a1, a5, a6, a7, a8, hp, hq, hg]
   refine h65.use ?_
   rintro e S1 ⟨rfl, rfl⟩
   simp [a1, a5, a6, a7, a8, hp, hq, hg]
   refine (h47 _ _ _).use ?_
   rintro e S1 ⟨rfl, rfl⟩
   have hz : zeroB st.wher = false := by
    have := hw
    simp only [perB, Bool.or_eq_false_iff] at this
    exact this.1
   have e8 : hasB (usesT st.kind) 119 false false = hs8 st := by rw [hs8, hz, hw]
   simp [hw, e8]
   exact hQ _ (by simp)
 | true =>
   have e8 : hasB (usesT st.kind) 119 (opOf st.wher == 0) true = hs8 st := by
    rw [hs8, hw]
    by_cases h0 : opOf st.wher = 0
    ·have := perB_zero h0
     rw [hw] at this
     rw [← this]; simp [h0]
    ·rw [zeroB_not h0, beq_eq_false_iff_ne.2 h0]
   simp [a1, a5, a6, a7, a8, hp, hq, hg]
   refine h65.use ?_
   rintro e S1 ⟨rfl, rfl⟩
   simp [a1, a5, a6, a7, a8, hp, hq, hg, hw]
   refine (h47 _ _ _).use ?_
   rintro e S1 ⟨rfl, rfl⟩
   simp [e8]
   exact hQ _ (by simp)
set_option maxHeartbeats 2000000 in
theorem w16d6 (hc : C16 w0 st b H) (hm : Sm st) (he : E16 st b a) (hp : get a 102 = .bool p) (hq : p = true → get a 137 = .bool q) (hQ : ∀ a', get a' 2 = .bool (p && (q && (hs7 st && hs8 st))) → Q a' H) :
  drawWp (ACalls Tryz.prog (B0 w0)) Kp f16d6 [] a H Q := by
 obtain ⟨⟨fC, fN, fR, fI, fF, fO, fS, eR, eI, eF, fl', es', k', n', s', t', q', eO, eS, hg, lR, lI, lF, lO, lS, h65, h64, h59, h61, h62⟩, hu⟩ := id hc
 obtain ⟨a1, a5, a6, a7, a8⟩ := id he
 have h47 := fun c z r => w47 (w0 := w0) hu c z r
 have hpq : (p && q) = true ∨ (p && q) = false := by cases (p && q) <;> simp
 rcases hpq with hpq | hpq
 rotate_left 1
 ·have hcase : p = false ∨ p = true ∧ q = false := by revert hpq; cases p <;> cases q <;> simp
  rcases hcase with rfl | ⟨rfl, rfl⟩
  ·simp [f16d6, hp, a1, a5, a6, a7, a8]
   refine w16d7 hc hm ⟨by simp [a1], by simp [a5], by simp [a6], by simp [a7], by simp [a8]⟩ (p := false) (q := false) (by simp) (by simp) ?_
   intro a' h
   exact hQ a' (by simpa using h)
  ·have hq := hq rfl
   simp [f16d6, hp, hq, a1, a5, a6, a7, a8]
   refine w16d7 hc hm ⟨by simp [a1], by simp [a5], by simp [a6], by simp [a7], by simp [a8]⟩ (p := false) (q := false) (by simp) (by simp) ?_
   intro a' h
   exact hQ a' (by simpa using h)
 rw [Bool.and_eq_true] at hpq
 obtain ⟨rfl, rfl⟩ := hpq
 have hq := hq rfl
 simp only [Bool.true_and] at hQ
 simp [f16d6, a1, a5, a6, a7, a8, hp, hq, hg, lS]
 refine (w58 _ _ _ _).use ?_
 rintro e S1 ⟨rfl, rfl⟩
 rw [show (decide (1 ≤ (st.sets.length : Int)) && decide ((st.sets.length : Int) ≤ 50)) = between st.sets.length 1 50 from count_between _ _ _]
 have e7 : hasB (usesT st.kind) 117 ((st.sets.length : Int) == 0) (between st.sets.length 1 50 && setsB st) = hs7 st := by rw [len_empty, hs7]
 cases hb : between st.sets.length 1 50 with
 | false =>
   rw [hb, Bool.false_and] at e7
   simp [a1, a5, a6, a7, a8, hp, hq, hg, lS]
   refine (h47 _ _ _).use ?_
   rintro e S1 ⟨rfl, rfl⟩
   simp [e7]
   refine w16d7 hc hm ⟨by simp [a1], by simp [a5], by simp [a6], by simp [a7], by simp [a8]⟩ (p := true) (q := hs7 st) (by simp) (by simp) ?_
   intro a' h
   exact hQ a' (by simpa using h)
 | true =>
   rw [hb, Bool.true_and] at e7
   simp [a1, a5, a6, a7, a8, hp, hq, hg, lS]
   refine (h47 _ _ _).use ?_
   rintro e S1 ⟨rfl, rfl⟩
   simp [e7]
   refine w16d7 hc hm ⟨by simp [a1], by simp [a5], by simp [a6], by simp [a7], by simp [a8]⟩ (p := true) (q := hs7 st) (by simp) (by simp) ?_
   intro a' h
   exact hQ a' (by simpa using h)
set_option maxHeartbeats 2000000 in
theorem w16d5 (hc : C16 w0 st b H) (hm : Sm st) (he : E16 st b a) (hp : get a 85 = .bool p) (hq : p = true → get a 100 = .bool q) (hQ : ∀ a', get a' 2 = .bool (p && (q && (hs6 st && (hs7 st && hs8 st)))) → Q a' H) :
  drawWp (ACalls Tryz.prog (B0 w0)) Kp f16d5 [] a H Q := by
 obtain ⟨⟨fC, fN, fR, fI, fF, fO, fS, eR, eI, eF, fl', es', k', n', s', t', q', eO, eS, hg, lR, lI, lF, lO, lS, h65, h64, h59, h61, h62⟩, hu⟩ := id hc
 obtain ⟨a1, a5, a6, a7, a8⟩ := id he
 have h47 := fun c z r => w47 (w0 := w0) hu c z r
 have hpq : (p && q) = true ∨ (p && q) = false := by cases (p && q) <;> simp
 rcases hpq with hpq | hpq
 rotate_left 1
 ·have hcase : p = false ∨ p = true ∧ q = false := by revert hpq; cases p <;> cases q <;> simp
  rcases hcase with rfl | ⟨rfl, rfl⟩
  ·simp [f16d5, hp, a1, a5, a6, a7, a8]
   refine w16d6 hc hm ⟨by simp [a1], by simp [a5], by simp [a6], by simp [a7], by simp [a8]⟩ (p := false) (q := false) (by simp) (by simp) ?_
   intro a' h
   exact hQ a' (by simpa using h)
  ·have hq := hq rfl
   simp [f16d5, hp, hq, a1, a5, a6, a7, a8]
   refine w16d6 hc hm ⟨by simp [a1], by simp [a5], by simp [a6], by simp [a7], by simp [a8]⟩ (p := false) (q := false) (by simp) (by simp) ?_
   intro a' h
   exact hQ a' (by simpa using h)
 rw [Bool.and_eq_true] at hpq
 obtain ⟨rfl, rfl⟩ := hpq
 have hq := hq rfl
 simp only [Bool.true_and] at hQ
 have hmi := hm.items
 have hms := hm.src
 have hmo := hm.order
 have w1 : IntKind.i64.wrap ((st.items.length : Int) + (st.src.length : Int)) = ((st.items.length + st.src.length : Nat) : Int) := by rw [wrap64_in (by omega) (by omega)]; omega
 have w2 : IntKind.i64.wrap (((st.items.length + st.src.length : Nat) : Int) + (st.order.length : Int)) = ((st.items.length + st.src.length + st.order.length : Nat) : Int) := by rw [wrap64_in (by omega) (by omega)]; omega
 have w3 : (((st.items.length + st.src.length + st.order.length : Nat) : Int) == 0) = (st.items.isEmpty && st.src.isEmpty && st.order.isEmpty) := by
  rw [← len_empty, ← len_empty, ← len_empty, Bool.eq_iff_iff]; simp only [Bool.and_eq_true, beq_iff_eq]; omega
 have e6 : ∀ R, R = (decide (st.items.length ≤ 50) && itemsB st && fromB st && decide (st.order.length ≤ 50) && orderB st) → hasB (usesT st.kind) 115 (st.items.isEmpty && st.src.isEmpty && st.order.isEmpty) R = hs6 st := fun R h => by rw [h, hs6, fromB]
 have w1' : IntKind.i64.wrap ((st.items.length : Int) + (st.src.length : Int)) = ((st.items.length : Int) + (st.src.length : Int)) := by rw [w1]; omega
 have w2' : IntKind.i64.wrap (((st.items.length : Int) + (st.src.length : Int)) + (st.order.length : Int)) = ((st.items.length : Int) + (st.src.length : Int)) + (st.order.length : Int) := by rw [wrap64_in (by omega) (by omega)]
 have w3' : ((((st.items.length : Int) + (st.src.length : Int)) + (st.order.length : Int)) == 0) = (st.items.isEmpty && st.src.isEmpty && st.order.isEmpty) := by rw [← w3]; congr 1
 generalize (st.items.isEmpty && st.src.isEmpty && st.order.isEmpty) = Z at *
 by_cases c1 : st.items.length ≤ 50
 rotate_left 1
 ·have c1' : ¬ (st.items.length : Int) ≤ 50 := by omega
  simp [f16d5, a1, a5, a6, a7, a8, hp, hq, hg, lI, lF, lO, w1', w2', w3', c1, c1']
  refine (h47 _ _ _).use ?_
  rintro e S1 ⟨rfl, rfl⟩
  simp [e6 false (by simp [c1])]
  refine w16d6 hc hm ⟨by simp [a1], by simp [a5], by simp [a6], by simp [a7], by simp [a8]⟩ (p := true) (q := hs6 st) (by simp) (by simp) ?_
  intro a' h
  exact hQ a' (by simpa using h)
 have c1' : (st.items.length : Int) ≤ 50 := by omega
 cases c2 : itemsB st with
 | false =>
   simp [f16d5, a1, a5, a6, a7, a8, hp, hq, hg, lI, lF, lO, w1', w2', w3', c1, c1', c2]
   refine (h47 _ _ _).use ?_
   rintro e S1 ⟨rfl, rfl⟩
   simp [e6 false (by simp [c2])]
   refine w16d6 hc hm ⟨by simp [a1], by simp [a5], by simp [a6], by simp [a7], by simp [a8]⟩ (p := true) (q := hs6 st) (by simp) (by simp) ?_
   intro a' h
   exact hQ a' (by simpa using h)
 | true =>
 cases c3 : fromB st with
 | false =>
   rw [c3] at h64
   have e6f := e6 false (by simp [c1, c2, c3])
   simp [f16d5, a1, a5, a6, a7, a8, hp, hq, hg, lI, lF, lO, w1', w2', w3', c1, c1', c2]
   refine h64.use ?_
   rintro e S1 ⟨rfl, rfl⟩
   simp [a1, a5, a6, a7, a8, hp, hq, hg, lI, lF, lO, w1', w2', w3']
   refine (h47 _ _ _).use ?_
   rintro e S1 ⟨rfl, rfl⟩
   simp [e6f]
   refine w16d6 hc hm ⟨by simp [a1], by simp [a5], by simp [a6], by simp [a7], by simp [a8]⟩ (p := true) (q := hs6 st) (by simp) (by simp) ?_
   intro a' h
   exact hQ a' (by simpa using h)
 | true =>
 rw [c3] at h64
 by_cases c4 : st.order.length ≤ 50
 rotate_left 1
 ·have c4' : ¬ (st.order.length : Int) ≤ 50 := by omega
  have e6f := e6 false (by simp [c4])
  simp [f16d5, a1, a5, a6, a7, a8, hp, hq, hg, lI, lF, lO, w1', w2', w3', c1, c1', c2]
  refine h64.use ?_
  rintro e S1 ⟨rfl, rfl⟩
  simp [a1, a5, a6, a7, a8, hp, hq, hg, lI, lF, lO, w1', w2', w3', c4, c4']
  refine (h47 _ _ _).use ?_
  rintro e S1 ⟨rfl, rfl⟩
  simp [e6f]
  refine w16d6 hc hm ⟨by simp [a1], by simp [a5], by simp [a6], by simp [a7], by simp [a8]⟩ (p := true) (q := hs6 st) (by simp) (by simp) ?_
  intro a' h
  exact hQ a' (by simpa using h)
 have c4' : (st.order.length : Int) ≤ 50 := by omega
 have e6f := e6 (orderB st) (by simp [c1, c2, c3, c4])
 simp [f16d5, a1, a5, a6, a7, a8, hp, hq, hg, lI, lF, lO, w1', w2', w3', c1, c1', c2]
 refine h64.use ?_
 rintro e S1 ⟨rfl, rfl⟩
 simp [a1, a5, a6, a7, a8, hp, hq, hg, lI, lF, lO, w1', w2', w3', c4, c4']
 refine (h47 _ _ _).use ?_
 rintro e S1 ⟨rfl, rfl⟩
 simp [e6f]
 refine w16d6 hc hm ⟨by simp [a1], by simp [a5], by simp [a6], by simp [a7], by simp [a8]⟩ (p := true) (q := hs6 st) (by simp) (by simp) ?_
 intro a' h
 exact hQ a' (by simpa using h)
set_option maxHeartbeats 2000000 in
theorem w16d4 (hc : C16 w0 st b H) (hm : Sm st) (he : E16 st b a) (hp : get a 63 = .bool p) (hq : p = true → get a 83 = .bool q) (hQ : ∀ a', get a' 2 = .bool (p && (q && (hs5 st && (hs6 st && (hs7 st && hs8 st))))) → Q a' H) :
  drawWp (ACalls Tryz.prog (B0 w0)) Kp f16d4 [] a H Q := by
 obtain ⟨⟨fC, fN, fR, fI, fF, fO, fS, eR, eI, eF, fl', es', k', n', s', t', q', eO, eS, hg, lR, lI, lF, lO, lS, h65, h64, h59, h61, h62⟩, hu⟩ := id hc
 obtain ⟨a1, a5, a6, a7, a8⟩ := id he
 have h47 := fun c z r => w47 (w0 := w0) hu c z r
 have hpq : (p && q) = true ∨ (p && q) = false := by cases (p && q) <;> simp
 rcases hpq with hpq | hpq
 rotate_left 1
 ·have hcase : p = false ∨ p = true ∧ q = false := by revert hpq; cases p <;> cases q <;> simp
  rcases hcase with rfl | ⟨rfl, rfl⟩
  ·simp [f16d4, hp, a1, a5, a6, a7, a8]
   refine w16d5 hc hm ⟨by simp [a1], by simp [a5], by simp [a6], by simp [a7], by simp [a8]⟩ (p := false) (q := false) (by simp) (by simp) ?_
   intro a' h
   exact hQ a' (by simpa using h)
  ·have hq := hq rfl
   simp [f16d4, hp, hq, a1, a5, a6, a7, a8]
   refine w16d5 hc hm ⟨by simp [a1], by simp [a5], by simp [a6], by simp [a7], by simp [a8]⟩ (p := false) (q := false) (by simp) (by simp) ?_
   intro a' h
   exact hQ a' (by simpa using h)
 rw [Bool.and_eq_true] at hpq
 obtain ⟨rfl, rfl⟩ := hpq
 have hq := hq rfl
 simp only [Bool.true_and] at hQ
 have e5 : ∀ R, R = (between st.rows.length 1 50 && st.rows.all rowB) → hasB (usesT st.kind) 114 ((st.rows.length : Int) == 0) R = hs5 st := fun R h => by rw [h, hs5, len_empty]
 simp [f16d4, a1, a5, a6, a7, a8, hp, hq, hg, lR]
 refine (w58 _ _ _ _).use ?_
 rintro e S1 ⟨rfl, rfl⟩
 rw [show (decide (1 ≤ (st.rows.length : Int)) && decide ((st.rows.length : Int) ≤ 50)) = between st.rows.length 1 50 from count_between _ _ _]
 cases hb : between st.rows.length 1 50 with
 | false =>
   simp [a1, a5, a6, a7, a8, hp, hq, hg, lR]
   refine (h47 _ _ _).use ?_
   rintro e S1 ⟨rfl, rfl⟩
   simp [e5 false (by simp [hb])]
   refine w16d5 hc hm ⟨by simp [a1], by simp [a5], by simp [a6], by simp [a7], by simp [a8]⟩ (p := true) (q := hs5 st) (by simp) (by simp) ?_
   intro a' h
   exact hQ a' (by simpa using h)
 | true =>
   simp [a1, a5, a6, a7, a8, hp, hq, hg, lR]
   refine h62.use ?_
   rintro e S1 ⟨rfl, rfl⟩
   simp [a1, a5, a6, a7, a8, hp, hq, hg, lR]
   refine (h47 _ _ _).use ?_
   rintro e S1 ⟨rfl, rfl⟩
   simp [e5 (st.rows.all rowB) (by simp [hb])]
   refine w16d5 hc hm ⟨by simp [a1], by simp [a5], by simp [a6], by simp [a7], by simp [a8]⟩ (p := true) (q := hs5 st) (by simp) (by simp) ?_
   intro a' h
   exact hQ a' (by simpa using h)
set_option maxHeartbeats 2000000 in
theorem w16d3 (hc : C16 w0 st b H) (hm : Sm st) (he : E16 st b a) (hp : get a 46 = .bool p) (hq : p = true → get a 61 = .bool q) (hQ : ∀ a', get a' 2 = .bool (p && (q && (hs4 st && (hs5 st && (hs6 st && (hs7 st && hs8 st)))))) → Q a' H) :
  drawWp (ACalls Tryz.prog (B0 w0)) Kp f16d3 [] a H Q := by
 obtain ⟨⟨fC, fN, fR, fI, fF, fO, fS, eR, eI, eF, fl', es', k', n', s', t', q', eO, eS, hg, lR, lI, lF, lO, lS, h65, h64, h59, h61, h62⟩, hu⟩ := id hc
 obtain ⟨a1, a5, a6, a7, a8⟩ := id he
 have h47 := fun c z r => w47 (w0 := w0) hu c z r
 have hpq : (p && q) = true ∨ (p && q) = false := by cases (p && q) <;> simp
 rcases hpq with hpq | hpq
 rotate_left 1
 ·have hcase : p = false ∨ p = true ∧ q = false := by revert hpq; cases p <;> cases q <;> simp
  rcases hcase with rfl | ⟨rfl, rfl⟩
  ·simp [f16d3, hp, a1, a5, a6, a7, a8]
   refine w16d4 hc hm ⟨by simp [a1], by simp [a5], by simp [a6], by simp [a7], by simp [a8]⟩ (p := false) (q := false) (by simp) (by simp) ?_
   intro a' h
   exact hQ a' (by simpa using h)
  ·have hq := hq rfl
   simp [f16d3, hp, hq, a1, a5, a6, a7, a8]
   refine w16d4 hc hm ⟨by simp [a1], by simp [a5], by simp [a6], by simp [a7], by simp [a8]⟩ (p := false) (q := false) (by simp) (by simp) ?_
   intro a' h
   exact hQ a' (by simpa using h)
 rw [Bool.and_eq_true] at hpq
 obtain ⟨rfl, rfl⟩ := hpq
 have hq := hq rfl
 simp only [Bool.true_and] at hQ
 have e4 : ∀ Z R, Z = (st.names.isEmpty && !st.uniq) → R = (between st.names.length 1 4 && st.names.all nameB) → hasB (usesT st.kind) 110 Z R = hs4 st := fun Z R hZ h => by rw [h, hZ, hs4]
 have hl := len_empty st.names
 cases hz : st.names.isEmpty with
 | false =>
   rw [hz] at hl
   simp [f16d3, a1, a5, a6, a7, a8, hp, hq, hg, hl]
   refine (w58 _ _ _ _).use ?_
   rintro e S1 ⟨rfl, rfl⟩
   rw [show (decide (1 ≤ (st.names.length : Int)) && decide ((st.names.length : Int) ≤ 4)) = between st.names.length 1 4 from count_between _ _ _]
   cases hb : between st.names.length 1 4 with
   | false =>
     simp [a1, a5, a6, a7, a8, hp, hq, hg]
     refine (h47 _ _ _).use ?_
     rintro e S1 ⟨rfl, rfl⟩
     simp [e4 false false (by simp [hz]) (by simp [hb])]
     refine w16d4 hc hm ⟨by simp [a1], by simp [a5], by simp [a6], by simp [a7], by simp [a8]⟩ (p := true) (q := hs4 st) (by simp) (by simp) ?_
     intro a' h
     exact hQ a' (by simpa using h)
   | true =>
     simp [a1, a5, a6, a7, a8, hp, hq, hg]
     refine h61.use ?_
     rintro e S1 ⟨rfl, rfl⟩
     simp [a1, a5, a6, a7, a8, hp, hq, hg]
     refine (h47 _ _ _).use ?_
     rintro e S1 ⟨rfl, rfl⟩
     simp [e4 false (st.names.all nameB) (by simp [hz]) (by simp [hb])]
     refine w16d4 hc hm ⟨by simp [a1], by simp [a5], by simp [a6], by simp [a7], by simp [a8]⟩ (p := true) (q := hs4 st) (by simp) (by simp) ?_
     intro a' h
     exact hQ a' (by simpa using h)
 | true =>
   rw [hz] at hl
   simp [f16d3, a1, a5, a6, a7, a8, hp, hq, hg, hl]
   refine (w58 _ _ _ _).use ?_
   rintro e S1 ⟨rfl, rfl⟩
   rw [show (decide (1 ≤ (st.names.length : Int)) && decide ((st.names.length : Int) ≤ 4)) = between st.names.length 1 4 from count_between _ _ _]
   cases hb : between st.names.length 1 4 with
   | false =>
     simp [a1, a5, a6, a7, a8, hp, hq, hg]
     refine (h47 _ _ _).use ?_
     rintro e S1 ⟨rfl, rfl⟩
     simp [e4 (!st.uniq) false (by simp [hz]) (by simp [hb])]
     refine w16d4 hc hm ⟨by simp [a1], by simp [a5], by simp [a6], by simp [a7], by simp [a8]⟩ (p := true) (q := hs4 st) (by simp) (by simp) ?_
     intro a' h
     exact hQ a' (by simpa using h)
   | true =>
     simp [a1, a5, a6, a7, a8, hp, hq, hg]
     refine h61.use ?_
     rintro e S1 ⟨rfl, rfl⟩
     simp [a1, a5, a6, a7, a8, hp, hq, hg]
     refine (h47 _ _ _).use ?_
     rintro e S1 ⟨rfl, rfl⟩
     simp [e4 (!st.uniq) (st.names.all nameB) (by simp [hz]) (by simp [hb])]
     refine w16d4 hc hm ⟨by simp [a1], by simp [a5], by simp [a6], by simp [a7], by simp [a8]⟩ (p := true) (q := hs4 st) (by simp) (by simp) ?_
     intro a' h
     exact hQ a' (by simpa using h)
set_option maxHeartbeats 2000000 in
theorem w16d2 (hc : C16 w0 st b H) (hm : Sm st) (he : E16 st b a) (hp : get a 36 = .bool p) (hq : p = true → get a 44 = .bool q) (hQ : ∀ a', get a' 2 = .bool (p && (q && (hs3 st && (hs4 st && (hs5 st && (hs6 st && (hs7 st && hs8 st))))))) → Q a' H) :
  drawWp (ACalls Tryz.prog (B0 w0)) Kp f16d2 [] a H Q := by
 obtain ⟨⟨fC, fN, fR, fI, fF, fO, fS, eR, eI, eF, fl', es', k', n', s', t', q', eO, eS, hg, lR, lI, lF, lO, lS, h65, h64, h59, h61, h62⟩, hu⟩ := id hc
 obtain ⟨a1, a5, a6, a7, a8⟩ := id he
 have h47 := fun c z r => w47 (w0 := w0) hu c z r
 have hpq : (p && q) = true ∨ (p && q) = false := by cases (p && q) <;> simp
 rcases hpq with hpq | hpq
 rotate_left 1
 ·have hcase : p = false ∨ p = true ∧ q = false := by revert hpq; cases p <;> cases q <;> simp
  rcases hcase with rfl | ⟨rfl, rfl⟩
  ·simp [f16d2, hp, a1, a5, a6, a7, a8]
   refine w16d3 hc hm ⟨by simp [a1], by simp [a5], by simp [a6], by simp [a7], by simp [a8]⟩ (p := false) (q := false) (by simp) (by simp) ?_
   intro a' h
   exact hQ a' (by simpa using h)
  ·have hq := hq rfl
   simp [f16d2, hp, hq, a1, a5, a6, a7, a8]
   refine w16d3 hc hm ⟨by simp [a1], by simp [a5], by simp [a6], by simp [a7], by simp [a8]⟩ (p := false) (q := false) (by simp) (by simp) ?_
   intro a' h
   exact hQ a' (by simpa using h)
 rw [Bool.and_eq_true] at hpq
 obtain ⟨rfl, rfl⟩ := hpq
 have hq := hq rfl
 simp only [Bool.true_and] at hQ
 have e3 : ∀ R, R = (between st.cols.length 1 16 && st.cols.all colB) → hasB (usesT st.kind) 99 ((st.cols.length : Int) == 0) R = hs3 st := fun R h => by rw [h, hs3, len_empty]
 simp [f16d2, a1, a5, a6, a7, a8, hp, hq, hg]
 refine (w58 _ _ _ _).use ?_
 rintro e S1 ⟨rfl, rfl⟩
 rw [show (decide (1 ≤ (st.cols.length : Int)) && decide ((st.cols.length : Int) ≤ 16)) = between st.cols.length 1 16 from count_between _ _ _]
 cases hb : between st.cols.length 1 16 with
 | false =>
   simp [a1, a5, a6, a7, a8, hp, hq, hg]
   refine (h47 _ _ _).use ?_
   rintro e S1 ⟨rfl, rfl⟩
   simp [e3 false (by simp [hb])]
   refine w16d3 hc hm ⟨by simp [a1], by simp [a5], by simp [a6], by simp [a7], by simp [a8]⟩ (p := true) (q := hs3 st) (by simp) (by simp) ?_
   intro a' h
   exact hQ a' (by simpa using h)
 | true =>
   simp [a1, a5, a6, a7, a8, hp, hq, hg]
   refine h59.use ?_
   rintro e S1 ⟨rfl, rfl⟩
   simp [a1, a5, a6, a7, a8, hp, hq, hg]
   refine (h47 _ _ _).use ?_
   rintro e S1 ⟨rfl, rfl⟩
   simp [e3 (st.cols.all colB) (by simp [hb])]
   refine w16d3 hc hm ⟨by simp [a1], by simp [a5], by simp [a6], by simp [a7], by simp [a8]⟩ (p := true) (q := hs3 st) (by simp) (by simp) ?_
   intro a' h
   exact hQ a' (by simpa using h)
set_option maxHeartbeats 2000000 in
theorem w16d1 (hc : C16 w0 st b H) (hm : Sm st) (he : E16 st b a) (hp : get a 26 = .bool p) (hq : p = true → get a 34 = .bool q) (hQ : ∀ a', get a' 2 = .bool (p && (q && (hs2 st && (hs3 st && (hs4 st && (hs5 st && (hs6 st && (hs7 st && hs8 st)))))))) → Q a' H) :
  drawWp (ACalls Tryz.prog (B0 w0)) Kp f16d1 [] a H Q := by
 obtain ⟨⟨fC, fN, fR, fI, fF, fO, fS, eR, eI, eF, fl', es', k', n', s', t', q', eO, eS, hg, lR, lI, lF, lO, lS, h65, h64, h59, h61, h62⟩, hu⟩ := id hc
 obtain ⟨a1, a5, a6, a7, a8⟩ := id he
 have h47 := fun c z r => w47 (w0 := w0) hu c z r
 have hpq : (p && q) = true ∨ (p && q) = false := by cases (p && q) <;> simp
 rcases hpq with hpq | hpq
 rotate_left 1
 ·have hcase : p = false ∨ p = true ∧ q = false := by revert hpq; cases p <;> cases q <;> simp
  rcases hcase with rfl | ⟨rfl, rfl⟩
  ·simp [f16d1, hp, a1, a5, a6, a7, a8]
   refine w16d2 hc hm ⟨by simp [a1], by simp [a5], by simp [a6], by simp [a7], by simp [a8]⟩ (p := false) (q := false) (by simp) (by simp) ?_
   intro a' h
   exact hQ a' (by simpa using h)
  ·have hq := hq rfl
   simp [f16d1, hp, hq, a1, a5, a6, a7, a8]
   refine w16d2 hc hm ⟨by simp [a1], by simp [a5], by simp [a6], by simp [a7], by simp [a8]⟩ (p := false) (q := false) (by simp) (by simp) ?_
   intro a' h
   exact hQ a' (by simpa using h)
 rw [Bool.and_eq_true] at hpq
 obtain ⟨rfl, rfl⟩ := hpq
 have hq := hq rfl
 simp only [Bool.true_and] at hQ
 have e2 : hasB (usesT st.kind) 105 (decide (st.index = [])) (nameB st.index) = hs2 st := rfl
 simp [f16d1, a1, a5, a6, a7, a8, hp, hq, hg]
 refine (w57 _ _).use ?_
 rintro e S1 ⟨rfl, rfl⟩
 simp [a1, a5, a6, a7, a8, hp, hq, hg]
 refine (h47 _ _ _).use ?_
 rintro e S1 ⟨rfl, rfl⟩
 simp [e2]
 refine w16d2 hc hm ⟨by simp [a1], by simp [a5], by simp [a6], by simp [a7], by simp [a8]⟩ (p := true) (q := hs2 st) (by simp) (by simp) ?_
 intro a' h
 exact hQ a' (by simpa using h)
end
end Go.Abs
namespace Go.Abs
open Go Go.RowKit Go.Proofs Go.Lx Go.Pz
variable {w0 : World}
set_option maxHeartbeats 4000000 in
theorem w16 (hT : Tb w0) {st : Stm} (hm : Sm st) {c : List AVal} (hc : StV st c) (S : Heap) : ACalls Tryz.prog (B0 w0) 16 [.agg c] S fun e S' => e = .ret (.bool (rightB st)) ∧ S' = S := by
 obtain ⟨fC, fN, fR, fI, fF, fO, fS, eR, eI, eF, ew, eO, eS, rfl, hw, hR, hI, hF, hO, hS⟩ := hc
 refine ACalls.close (R := fun e S' => e = .ret (.bool (rightB st)) ∧ S'.take S.length = S) ?_ ?_
 rotate_left 1
 ·rintro e S' ⟨rfl, ht⟩
  exact .flat ht rfl ⟨rfl, rfl⟩
 have h65 := fun S => w65 hT (x := st.wher) (by have := (hm.w _ mem_wher).1; omega) (hm.w _ mem_wher).2 hw S
 have h64 := fun S => w64 hT (fl := fF) hF hm.src (fun x hx => hm.w _ (mem_src hx)) S
 have h49 := fun S => w49 (w0 := w0) (l := st.items) (es := eI) (p := fun x => okE x.e && aliasB x.name) (fo := 50) (S := S) (Rk.list fI eI) hI.1 (fun i hi => by obtain ⟨ev, h, e⟩ := hI.2 i hi; rw [e]; simp [ExV_len h])
  (fun i hi => by obtain ⟨ev, h, e⟩ := hI.2 i hi; rw [e]; have := List.all_eq_true.1 (ExV_one h); intro x hx; simp at hx; rcases hx with hx | rfl; exact this x hx; rfl) (by have := hm.items; omega)
  fun i hi g => w50 hT (hm.w _ (mem_items (List.getElem_mem hi))).1 (hm.w _ (mem_items (List.getElem_mem hi))).2 (hI.2 i hi) _
 have h53 := fun S => w53 (w0 := w0) (l := st.order) (es := eO) (p := fun x => okE x.e) (fo := 54) (S := S) (Rk.list fO eO) hO.1 (fun i hi => by obtain ⟨ev, h, e⟩ := hO.2 i hi; rw [e]; simp [ExV_len h])
  (fun i hi => by obtain ⟨ev, h, e⟩ := hO.2 i hi; rw [e]; have := List.all_eq_true.1 (ExV_one h); intro x hx; simp at hx; rcases hx with hx | rfl; exact this x hx; rfl) (by have := hm.order; omega)
  fun i hi g => w54 hT (hm.w _ (mem_order (List.getElem_mem hi))).1 (hm.w _ (mem_order (List.getElem_mem hi))).2 (hO.2 i hi) _
 have h55 := fun S => w55 (w0 := w0) (l := st.sets) (es := eS) (p := fun x => nameB x.col && okE x.e) (fo := 56) (S := S) (Rk.list fS eS) hS.1 (fun i hi => by obtain ⟨ev, h, e⟩ := hS.2 i hi; rw [e]; simp [ExV_len h])
  (fun i hi => by obtain ⟨ev, h, e⟩ := hS.2 i hi; rw [e]; have := List.all_eq_true.1 (ExV_one h); intro x hx; simp at hx; rcases hx with rfl | hx; rfl; exact this x hx) (by have := hm.sets; omega)
  fun i hi g => w56 hT (hm.w _ (mem_sets (List.getElem_mem hi))).1 (hm.w _ (mem_sets (List.getElem_mem hi))).2 (hS.2 i hi) _
 have h59 := fun S => w59 (w0 := w0) (l := st.cols) (es := pcolsC st.cols) (p := colB) (fo := 60) (S := S) (Rk.list fC _) (by simp) (fun i hi => by rw [pcols_get hi]; rfl)
  (fun i hi => by rw [pcols_get hi]; simp [pcolC]) (by have := hm.cols; omega)
  fun i hi g => by rw [pcols_get hi]; exact w60 _ _
 have h61 := fun S => w61 (w0 := w0) (l := st.names) (es := namesC st.names) (p := nameB) (fo := 57) (S := S) (Rk.list fN _) (by simp) (fun i hi => by rw [names_get hi]; rfl)
  (by have := hm.names; omega) fun i hi g => by rw [names_get hi]; exact w57 _ _
 have h62 := fun S => w62 (w0 := w0) (l := st.rows) (es := eR) (p := rowB) (fo := 63) (S := S) (Rk.list fR eR) hR.1 (fun i hi => by obtain ⟨fl, es, e, h⟩ := hR.2 i hi; rw [e]; rfl)
  (by have := hm.rows; omega) fun i hi g => by
   obtain ⟨fl, es, e, h⟩ := hR.2 i hi
   rw [e]
   have hsub : ∀ x ∈ st.rows[i], x ∈ exsS st := fun x hx => mem_rows (List.getElem_mem hi) hx
   exact w63 hT h (rows_len hm (List.getElem_mem hi)) (fun x hx => hm.w x (hsub x hx)) _
 obtain ⟨fl', es', k', n', s', t', q', rfl⟩ := ExV_cells hw
 refine fn_sound tryOrd (f16_c _) (by simp [f16]) ?_
 rw [f16, f16m_eq, f16h, mwp_seq]
 simp [-mwp_seq]
 rw [mwp_seq]
 simp [-mwp_seq]
 refine (w46 st.kind _).use ?_
 rintro e S1 ⟨rfl, rfl⟩
 simp [-mwp_seq]
 generalize hu : (if kindB st.kind = true then usesT st.kind else []) = u
 obtain ⟨H, hH⟩ : ∃ H, H = S ++ [AObj.cells 18 [[AVal.int st.kind, .str st.table, .str st.index, .list fC (pcolsC st.cols), .list fN (namesC st.names), .bool st.uniq, .list fR eR, .list fI eI, .list fF eF, .int (opOf st.wher), .list fl' es', .int k', .int n', .int s', .str t', .str q', .list fO eO, .list fS eS]] (some 1), .cells 1 [[.str u]] (some 1)] := ⟨_, rfl⟩
 have hg : H[S.length]? = some (.cells 18 [[AVal.int st.kind, .str st.table, .str st.index, .list fC (pcolsC st.cols), .list fN (namesC st.names), .bool st.uniq, .list fR eR, .list fI eI, .list fF eF, .int (opOf st.wher), .list fl' es', .int k', .int n', .int s', .str t', .str q', .list fO eO, .list fS eS]] (some 1)) := by rw [hH]; simp
 have hgu : H[S.length + 1]? = some (.cells 1 [[.str u]] (some 1)) := by rw [hH, List.getElem?_append_right (by omega)]; simp
 have ht : H.take S.length = S := by rw [hH]; simp
 rw [← hH]
 rw [mwp_seq]
 simp [-mwp_seq]
 rw [mwp_seq]
 simp [-mwp_seq, hg]
 refine (h49 _).use ?_
 rintro e S1 ⟨rfl, rfl⟩
 simp [-mwp_seq]
 rw [mwp_seq]
 simp [-mwp_seq, hg]
 refine (h53 _).use ?_
 rintro e S1 ⟨rfl, rfl⟩
 simp [-mwp_seq]
 rw [mwp_seq]
 simp [-mwp_seq, hg]
 refine (h55 _).use ?_
 rintro e S1 ⟨rfl, rfl⟩
 simp [-mwp_seq]
 rw [mwp_seq]
 cases hk : kindB st.kind with
 | false => simp [f16d1, f16d2, f16d3, f16d4, f16d5, f16d6, f16d7, hg, hk, rightB, ht]
 | true =>
 rw [hk, if_pos rfl] at hu
 subst hu
 have hC : C16 w0 st S.length S1 := ⟨⟨fC, fN, fR, fI, fF, fO, fS, eR, eI, eF, fl', es', k', n', s', t', q', eO, eS, hg, hR.1, hI.1, hF.1, hO.1, hS.1, h65 _, h64 _, h59 _, h61 _, h62 _⟩, hgu⟩
 have h47 := fun c z r => w47 (w0 := w0) hgu c z r
 simp [hg, hk]
 refine (w57 st.table _).use ?_
 rintro e S2 ⟨rfl, rfl⟩
 simp [hg]
 refine (h47 _ _ _).use ?_
 rintro e S2 ⟨rfl, rfl⟩
 rw [show hasB (usesT st.kind) 116 (decide (st.table = [])) (nameB st.table) = hs1 st from rfl]
 simp
 refine w16d1 hC hm ⟨by simp, by simp, by simp [itemsB], by simp [orderB], by simp [setsB]⟩ (p := true) (q := hs1 st) (by simp [hk]) (by simp) ?_
 intro a' h
 have hr : rightB st = (true && (hs1 st && (hs2 st && (hs3 st && (hs4 st && (hs5 st && (hs6 st && (hs7 st && hs8 st)))))))) := by simp [rightB, hk, Bool.and_assoc]
 simp [h, ht, hr]
end Go.Abs
namespace Go.Abs
open Go.Lx Go.Pz
theorem kind_cases {k : Int} (h : kindB k = true) : k = 1 ∨ k = 2 ∨ k = 3 ∨ k = 4 ∨ k = 5 ∨ k = 6 ∨ k = 7 ∨ k = 8 ∨ k = 9 ∨ k = 10 ∨ k = 11 := by
 simp only [kindB, Bool.and_eq_true, decide_eq_true_eq] at h; omega
section
variable {k : Int} (h : kindB k = true) (z r : Bool)
include h
theorem has_t : hasB (usesT k) 116 z r = if tableU k then r else z := by
 rcases kind_cases h with rfl | rfl | rfl | rfl | rfl | rfl | rfl | rfl | rfl | rfl | rfl <;> rfl
theorem has_i : hasB (usesT k) 105 z r = if indexU k then r else z := by
 rcases kind_cases h with rfl | rfl | rfl | rfl | rfl | rfl | rfl | rfl | rfl | rfl | rfl <;> rfl
theorem has_c : hasB (usesT k) 99 z r = if k = 1 then r else z := by
 rcases kind_cases h with rfl | rfl | rfl | rfl | rfl | rfl | rfl | rfl | rfl | rfl | rfl <;> rfl
theorem has_n : hasB (usesT k) 110 z r = if k = 3 then r else z := by
 rcases kind_cases h with rfl | rfl | rfl | rfl | rfl | rfl | rfl | rfl | rfl | rfl | rfl <;> rfl
theorem has_r : hasB (usesT k) 114 z r = if k = 5 then r else z := by
 rcases kind_cases h with rfl | rfl | rfl | rfl | rfl | rfl | rfl | rfl | rfl | rfl | rfl <;> rfl
theorem has_s : hasB (usesT k) 115 z r = if k = 6 then r else z := by
 rcases kind_cases h with rfl | rfl | rfl | rfl | rfl | rfl | rfl | rfl | rfl | rfl | rfl <;> rfl
theorem has_u : hasB (usesT k) 117 z r = if k = 7 then r else z := by
 rcases kind_cases h with rfl | rfl | rfl | rfl | rfl | rfl | rfl | rfl | rfl | rfl | rfl <;> rfl
theorem has_w : hasB (usesT k) 119 z r = if k = 6 ∨ k = 7 ∨ k = 8 then r else z := by
 rcases kind_cases h with rfl | rfl | rfl | rfl | rfl | rfl | rfl | rfl | rfl | rfl | rfl <;> rfl
end
theorem rightB_eq (st : Stm) : rightB st = okS st := by
 unfold rightB
 cases h : kindB st.kind with
 | false =>
   have h' : (decide (1 ≤ st.kind) && decide (st.kind ≤ 11)) = false := h
   simp [okS, h']
 | true =>
   have h' : (decide (1 ≤ st.kind) && decide (st.kind ≤ 11)) = true := h
   rw [hs1, hs2, hs3, hs4, hs5, hs6, hs7, hs8, has_t h, has_i h, has_c h, has_n h, has_r h, has_s h, has_u h, has_w h]
   have e : rowB = fun r => between r.length 1 50 && okL r := rfl
   rw [okS, h', e]
   simp only [itemsB, orderB, setsB, Bool.and_assoc]
end Go.Abs
namespace Go.Lx
open Go.Lib
end Go.Lx
namespace Go.Abs
open Go.Lx Go.Pz
end Go.Abs
namespace Go.Abs
open Go.Lx Go.Pz
theorem between_iff {n a b : Nat} : between n a b = true ↔ a ≤ n ∧ n ≤ b := by simp [between]
inductive OkS : Stm → Prop where
 | createT (t : Bs) (cs : List Pz.Col) (ht : nameB t = true) (h1 : 1 ≤ cs.length) (h2 : cs.length ≤ 16) (hc : ∀ c ∈ cs, colB c = true) : OkS { kind := 1, table := t, cols := cs }
 | dropT (t : Bs) (ht : nameB t = true) : OkS { kind := 2, table := t }
 | createI (u : Bool) (i t : Bs) (ns : List Bs) (hi : nameB i = true) (ht : nameB t = true) (h1 : 1 ≤ ns.length) (h2 : ns.length ≤ 4) (hn : ∀ n ∈ ns, nameB n = true) : OkS { kind := 3, uniq := u, index := i, table := t, names := ns }
 | dropI (i : Bs) (hi : nameB i = true) : OkS { kind := 4, index := i }
 | insert (t : Bs) (rs : List (List Ex)) (ht : nameB t = true) (h1 : 1 ≤ rs.length) (h2 : rs.length ≤ 50) (hr : ∀ r ∈ rs, 1 ≤ r.length ∧ r.length ≤ 50 ∧ okL r = true) : OkS { kind := 5, table := t, rows := rs }
 | query (is : List Itm) (s : Src) (fs : List Src) (w : Ex) (os : List Srt) (hi : is.length ≤ 50) (his : ∀ x ∈ is, okE x.e = true ∧ aliasB x.name = true) (hf : fs.length ≤ 3) (hs : nameB s.table = true ∧ aliasB s.alias = true ∧ zeroB s.on = true)
   (hfs : ∀ x ∈ fs, nameB x.table = true ∧ aliasB x.alias = true ∧ okE x.on = true) (hw : perB w = true) (ho : os.length ≤ 50) (hos : ∀ x ∈ os, okE x.e = true) : OkS { kind := 6, items := is, src := s :: fs, wher := w, order := os }
 | update (t : Bs) (zs : List Asn) (w : Ex) (ht : nameB t = true) (h1 : 1 ≤ zs.length) (h2 : zs.length ≤ 50) (hz : ∀ x ∈ zs, nameB x.col = true ∧ okE x.e = true) (hw : perB w = true) : OkS { kind := 7, table := t, sets := zs, wher := w }
 | delete (t : Bs) (w : Ex) (ht : nameB t = true) (hw : perB w = true) : OkS { kind := 8, table := t, wher := w }
 | trans (k : Int) (h1 : 9 ≤ k) (h2 : k ≤ 11) : OkS { kind := k }
theorem zeroB_eq {x : Ex} (h : zeroB x = true) : x = .zero := by
 obtain ⟨op, args, kind, num, scale, text, qual⟩ := x
 simp only [zeroB, Bool.and_eq_true, decide_eq_true_eq, List.isEmpty_iff] at h
 simp_all [Ex.zero]
theorem okS_iff {st : Stm} : okS st = true ↔ OkS st := by
 constructor
 ·intro h
  obtain ⟨kind, table, index, cols, names, uniq, rows, items, src, wher, order, sets⟩ := st
  simp only [okS, Bool.and_eq_true, decide_eq_true_eq] at h
  obtain ⟨⟨⟨⟨⟨⟨⟨⟨⟨k1, k2⟩, ht⟩, hi⟩, hc⟩, hn⟩, hr⟩, hq⟩, hs⟩, hw⟩ := h
  have hk : kind = 1 ∨ kind = 2 ∨ kind = 3 ∨ kind = 4 ∨ kind = 5 ∨ kind = 6 ∨ kind = 7 ∨ kind = 8 ∨ (9 ≤ kind ∧ kind ≤ 11) := by omega
  rcases hk with rfl | rfl | rfl | rfl | rfl | rfl | rfl | rfl | ⟨k3, k4⟩
  ·simp [tableU, indexU, between_iff] at ht hi hc hn hr hq hs hw
   obtain rfl := zeroB_eq hw
   simp_all
   exact .createT table cols ht hc.1.1 hc.1.2 hc.2
  ·simp [tableU, indexU, between_iff] at ht hi hc hn hr hq hs hw
   obtain rfl := zeroB_eq hw
   simp_all
   exact .dropT table ht
  ·simp [tableU, indexU, between_iff] at ht hi hc hn hr hq hs hw
   obtain rfl := zeroB_eq hw
   simp_all
   exact .createI uniq index table names hi ht hn.1.1 hn.1.2 hn.2
  ·simp [tableU, indexU, between_iff] at ht hi hc hn hr hq hs hw
   obtain rfl := zeroB_eq hw
   simp_all
   exact .dropI index hi
  ·simp [tableU, indexU, between_iff] at ht hi hc hn hr hq hs hw
   obtain rfl := zeroB_eq hw
   simp_all
   exact .insert table rows ht hr.1.1 hr.1.2 fun r hm => ⟨(hr.2 r hm).1.1, (hr.2 r hm).1.2, (hr.2 r hm).2⟩
  ·simp [tableU, indexU, between_iff] at ht hi hc hn hr hq hs hw
   obtain ⟨⟨⟨⟨⟨q1, q2⟩, q3, q4⟩, q5⟩, q6⟩, q7⟩ := hq
   simp_all
   cases src with
   | nil => simp at q3
   | cons s fs =>
     simp [srcB] at q5 q4
     exact .query items s fs wher order q1 q2 (by omega) ⟨q5.1.1.1, q5.1.1.2, q5.1.2⟩ (fun x hx => ⟨(q5.2 x hx).1.1, (q5.2 x hx).1.2, (q5.2 x hx).2⟩) hw q6 q7
  ·simp [tableU, indexU, between_iff] at ht hi hc hn hr hq hs hw
   simp_all
   exact .update table sets wher ht hs.1.1 hs.1.2 hs.2 hw
  ·simp [tableU, indexU, between_iff] at ht hi hc hn hr hq hs hw
   simp_all
   exact .delete table wher ht hw
  ·have n1 : ¬ kind = 1 := by omega
   have n2 : ¬ kind = 2 := by omega
   have n3 : ¬ kind = 3 := by omega
   have n4 : ¬ kind = 4 := by omega
   have n5 : ¬ kind = 5 := by omega
   have n6 : ¬ kind = 6 := by omega
   have n7 : ¬ kind = 7 := by omega
   have n8 : ¬ kind = 8 := by omega
   simp [tableU, indexU, n1, n2, n3, n4, n5, n6, n7, n8] at ht hi hc hn hr hq hs hw
   obtain rfl := zeroB_eq hw
   simp_all
   exact .trans kind k3 k4
 ·intro h
  have hz : zeroB Ex.zero = true := rfl
  cases h with
  | createT t cs ht h1 h2 hc => simp [okS, tableU, indexU, between_iff, hz, ht, h1, h2]; exact hc
  | dropT t ht => simp [okS, tableU, indexU, between_iff, hz, ht]
  | createI u i t ns hi ht h1 h2 hn => simp [okS, tableU, indexU, between_iff, hz, ht, hi, h1, h2]; exact hn
  | dropI i hi => simp [okS, tableU, indexU, between_iff, hz, hi]
  | insert t rs ht h1 h2 hr => simp [okS, tableU, indexU, between_iff, hz, ht, h1, h2]; exact fun r hm => ⟨⟨(hr r hm).1, (hr r hm).2.1⟩, (hr r hm).2.2⟩
  | query is s fs w os hi his hf hs hfs hw ho hos =>
    simp [okS, tableU, indexU, between_iff, srcB, hw, hi, ho, hs]
    exact ⟨⟨⟨his, by omega⟩, fun x hx => ⟨⟨(hfs x hx).1, (hfs x hx).2.1⟩, (hfs x hx).2.2⟩⟩, hos⟩
  | update t zs w ht h1 h2 hz hw => simp [okS, tableU, indexU, between_iff, ht, h1, h2, hw]; exact hz
  | delete t w ht hw => simp [okS, tableU, indexU, between_iff, ht, hw]
  | trans k h1 h2 =>
    have n1 : ¬ k = 1 := by omega
    have n2 : ¬ k = 2 := by omega
    have n3 : ¬ k = 3 := by omega
    have n4 : ¬ k = 4 := by omega
    have n5 : ¬ k = 5 := by omega
    have n6 : ¬ k = 6 := by omega
    have n7 : ¬ k = 7 := by omega
    have n8 : ¬ k = 8 := by omega
    simp [okS, tableU, indexU, n1, n2, n3, n4, n5, n6, n7, n8, hz]; omega
end Go.Abs
namespace Go.Abs
open Go.Lx Go.Pz
theorem joinT_eq : ∀ (l : List Bs), Lib.join l [44, 32] = joinT l
 | [] => rfl
 | [a] => by simp [Lib.join, List.intercalate, joinT]
 | a :: b :: r => by
   have h := joinT_eq (b :: r)
   simp only [Lib.join, List.intercalate, joinT] at h ⊢
   rw [List.intersperse_cons_cons, List.flatten_cons, List.flatten_cons, h]
   rfl
theorem joinT_len {c : Nat} : ∀ {l : List Bs}, (∀ a ∈ l, a.length ≤ c) → (joinT l).length ≤ l.length * (c + 2)
 | [], _ => by simp [joinT]
 | [a], h => by have := h a (by simp); simp [joinT]; omega
 | a :: b :: r, h => by
   have h1 := joinT_len (c := c) (l := b :: r) (fun x hx => h x (by simp [List.mem_cons.1 hx]))
   have h2 := h a (by simp)
   have e : (joinT (a :: b :: r)).length = a.length + 2 + (joinT (b :: r)).length := by simp [joinT]; omega
   rw [e, List.length_cons, Nat.add_mul]
   omega
theorem joinT_map_len {α : Type} {t : α → Bs} {c n : Nat} {l : List α} (h : ∀ a ∈ l, (t a).length ≤ c) (hl : l.length ≤ n) : (joinT (l.map t)).length ≤ n * (c + 2) := by
 have := joinT_len (c := c) (l := l.map t) (fun a ha => by obtain ⟨b, hb, rfl⟩ := List.mem_map.1 ha; exact h b hb)
 rw [List.length_map] at this
 exact Nat.le_trans this (Nat.mul_le_mul_right _ hl)
theorem asT_len {s n : Bs} (h : aliasB n = true) : (asT s n).length ≤ s.length + 36 := by
 unfold asT
 simp only [aliasB, Bool.or_eq_true, decide_eq_true_eq] at h
 split
 ·omega
 ·rename_i h0
  have := nameB_len (h.resolve_left h0)
  simp; omega
theorem textE_le {x : Ex} (ho : okE x = true) (hw : x.w ≤ 4000000) : (textE x).length ≤ 5000000000 := by
 have := textE_len x.w x (Nat.le_refl _) ho
 omega
theorem colT_len {c : Pz.Col} (h : colB c = true) : (colT c).length ≤ 60 := by
 simp only [colB, Bool.and_eq_true, decide_eq_true_eq] at h
 obtain ⟨⟨h1, h2⟩, h3⟩ := h
 have := nameB_len h1
 have ht : (typeT c.type).length ≤ 4 := by
  obtain ⟨n, hn⟩ : ∃ n : Nat, c.type = n := ⟨c.type.toNat, by omega⟩
  rw [hn]
  have hc : n = 1 ∨ n = 2 ∨ n = 3 ∨ n = 4 := by omega
  rcases hc with rfl | rfl | rfl | rfl <;> decide
 unfold colT
 split <;> simp <;> omega
theorem rowT_len {r : List Ex} (ho : okL r = true) (hl : r.length ≤ 50) (hw : ∀ x ∈ r, x.w ≤ 4000000) : (rowT r).length ≤ 250000000200 := by
 have := joinT_map_len (t := textE) (c := 5000000000) (n := 50) (l := r) (fun x hx => textE_le (okL_iff.1 ho x hx) (hw x hx)) hl
 simp [rowT]; omega
end Go.Abs
namespace Go.Abs
open Go Go.RowKit Go.Proofs Go.Lx Go.Pz
variable {w0 : World}
theorem w94 {s n : Bs} (hs : s.length ≤ 1000000000000000) (hn : n.length ≤ 1000000000000000) (S : Heap) : ACalls Tryz.prog (B0 w0) 94 [.str s, .str n] S fun e S' => e = .ret (.str (asT s n)) ∧ S' = S := by
 refine fn_sound tryOrd (f94_c _) (by simp [f94]) ?_
 by_cases h : n = []
 ·simp [f94, f94m, h, asT]
 ·simp [f94, f94m, h, asT]; omega
set_option maxHeartbeats 2000000 in
theorem w32 {c : Pz.Col} (h : colB c = true) (S : Heap) : ACalls Tryz.prog (B0 w0) 32 [.agg (pcolC c)] S fun e S' => e = .ret (.str (colT c)) ∧ S' = S := by
 refine ACalls.close (R := fun e S' => e = .ret (.str (colT c)) ∧ S'.take S.length = S) ?_ ?_
 rotate_left 1
 ·rintro e S' ⟨rfl, ht⟩
  exact .flat ht rfl ⟨rfl, rfl⟩
 obtain ⟨name, type, req⟩ := c
 simp only [colB, Bool.and_eq_true, decide_eq_true_eq] at h
 obtain ⟨⟨h1, h2⟩, h3⟩ := h
 have hn := nameB_len h1
 obtain ⟨n, rfl⟩ : ∃ n : Nat, type = n := ⟨type.toNat, by omega⟩
 have hc : n = 1 ∨ n = 2 ∨ n = 3 ∨ n = 4 := by omega
 refine fn_sound tryOrd (f32_c _) (by simp [f32]) ?_
 rcases hc with rfl | rfl | rfl | rfl <;> cases req
 all_goals
  simp [f32, f32m, pcolC, colT, typeT]
  try omega
theorem w41 (hT : Tb w0) {x : Ex} (hp : perB x = true) (hw : x.w ≤ 4000000) {ev : List AVal} (hev : ExV x ev) (S : Heap) : ACalls Tryz.prog (B0 w0) 41 [.agg ev] S fun e S' => e = .ret (.str (whereT x)) ∧ S' = S := by
 have h37 := fun ho S => w37 hT 4000000 (by omega) x hw ho ev hev S
 obtain ⟨fl, es, k, n, s, t, q, rfl⟩ := ExV_cells hev
 refine ACalls.close (R := fun e S' => e = .ret (.str (whereT x)) ∧ S'.take S.length = S) ?_ ?_
 rotate_left 1
 ·rintro e S' ⟨rfl, ht⟩
  exact .flat ht rfl ⟨rfl, rfl⟩
 refine fn_sound tryOrd (f41_c _) (by simp [f41]) ?_
 by_cases h0 : opOf x = 0
 ·simp [f41, f41m, h0, whereT]
 ·have b0 : (opOf x == 0) = false := beq_eq_false_iff_ne.2 h0
  rw [perB_ok h0] at hp
  have hl := textE_le hp hw
  simp [f41, f41m, h0, b0, whereT]
  refine (h37 hp _).use ?_
  rintro e S1 ⟨rfl, rfl⟩
  simp
  omega
theorem w40 (hT : Tb w0) {x : Asn} (hn : nameB x.col = true) (ho : okE x.e = true) (hw : x.e.w ≤ 4000000) {e : List AVal} (hv : AsnV x e) (S : Heap) : ACalls Tryz.prog (B0 w0) 40 [.agg e] S fun e S' => e = .ret (.str (setT x)) ∧ S' = S := by
 obtain ⟨ev, hev, rfl⟩ := hv
 have h37 := fun S => w37 hT 4000000 (by omega) x.e hw ho ev hev S
 have hl := textE_le ho hw
 have hnl := nameB_len hn
 obtain ⟨fl, es, k, n, s, t, q, rfl⟩ := ExV_cells hev
 refine ACalls.close (R := fun e S' => e = .ret (.str (setT x)) ∧ S'.take S.length = S) ?_ ?_
 rotate_left 1
 ·rintro e S' ⟨rfl, ht⟩
  exact .flat ht rfl ⟨rfl, rfl⟩
 refine fn_sound tryOrd (f40_c _) (by simp [f40]) ?_
 simp [f40, f40m, setT]
 refine ⟨by omega, ?_⟩
 refine (h37 _).use ?_
 rintro e S1 ⟨rfl, rfl⟩
 simp
 omega
theorem w93 (hT : Tb w0) {x : Itm} (hn : aliasB x.name = true) (ho : okE x.e = true) (hw : x.e.w ≤ 4000000) {e : List AVal} (hv : ItmV x e) (S : Heap) : ACalls Tryz.prog (B0 w0) 93 [.agg e] S fun e S' => e = .ret (.str (itemT x)) ∧ S' = S := by
 obtain ⟨ev, hev, rfl⟩ := hv
 have h37 := fun S => w37 hT 4000000 (by omega) x.e hw ho ev hev S
 have hl := textE_le ho hw
 have hnl : x.name.length ≤ 32 := by
  simp only [aliasB, Bool.or_eq_true, decide_eq_true_eq] at hn
  rcases hn with hn | hn
  ·simp [hn]
  ·exact nameB_len hn
 obtain ⟨fl, es, k, n, s, t, q, rfl⟩ := ExV_cells hev
 refine ACalls.close (R := fun e S' => e = .ret (.str (itemT x)) ∧ S'.take S.length = S) ?_ ?_
 rotate_left 1
 ·rintro e S' ⟨rfl, ht⟩
  exact .flat ht rfl ⟨rfl, rfl⟩
 refine fn_sound tryOrd (f93_c _) (by simp [f93]) ?_
 simp [f93, f93m, itemT]
 refine (h37 _).use ?_
 rintro e S1 ⟨rfl, rfl⟩
 simp
 refine (w94 (by omega) (by omega) _).use ?_
 rintro e S1 ⟨rfl, rfl⟩
 simp
theorem w96 (hT : Tb w0) {x : Srt} (ho : okE x.e = true) (hw : x.e.w ≤ 4000000) {e : List AVal} (hv : SrtV x e) (S : Heap) : ACalls Tryz.prog (B0 w0) 96 [.agg e] S fun e S' => e = .ret (.str (sortT x)) ∧ S' = S := by
 obtain ⟨ev, hev, rfl⟩ := hv
 have h37 := fun S => w37 hT 4000000 (by omega) x.e hw ho ev hev S
 have hl := textE_le ho hw
 obtain ⟨fl, es, k, n, s, t, q, rfl⟩ := ExV_cells hev
 refine ACalls.close (R := fun e S' => e = .ret (.str (sortT x)) ∧ S'.take S.length = S) ?_ ?_
 rotate_left 1
 ·rintro e S' ⟨rfl, ht⟩
  exact .flat ht rfl ⟨rfl, rfl⟩
 refine fn_sound tryOrd (f96_c _) (by simp [f96]) ?_
 cases hd : x.desc with
 | false =>
   simp [f96, f96m, sortT, hd]
   refine (h37 _).use ?_
   rintro e S1 ⟨rfl, rfl⟩
   simp
 | true =>
   simp [f96, f96m, sortT, hd]
   refine (h37 _).use ?_
   rintro e S1 ⟨rfl, rfl⟩
   simp
   omega
theorem w35 (hT : Tb w0) {r : List Ex} (ho : okL r = true) (hl : r.length ≤ 50) (hw : ∀ x ∈ r, x.w ≤ 4000000) {fl : Fl} {es : List (List AVal)} (hv : ExsV r es) (S : Heap) : ACalls Tryz.prog (B0 w0) 35 [.list fl es] S fun e S' => e = .ret (.str (rowT r)) ∧ S' = S := by
 have hel := ExsV_len hv
 have hlen := joinT_map_len (t := textE) (c := 5000000000) (n := 50) (l := r) (fun x hx => textE_le (okL_iff.1 ho x hx) (hw x hx)) hl
 have h36 := fun S => w36 (w0 := w0) (l := r) (es := es) (fl := fl) (t := textE) (fo := 37) hel (fun i hi => ExV_len (ExsV_get hv i hi)) (fun i hi => List.all_eq_true.1 (ExV_one (ExsV_get hv i hi))) (by omega) (by rw [joinT_eq]; omega)
  (fun i hi S => w37 hT 4000000 (by omega) r[i] (hw _ (List.getElem_mem hi)) (okL_iff.1 ho _ (List.getElem_mem hi)) _ (ExsV_get hv i hi) S) S
 rw [joinT_eq] at h36
 refine fn_sound tryOrd (f35_c _) (by simp [f35]) ?_
 simp [f35, f35m, rowT]
 refine (h36 _).use ?_
 rintro e S1 ⟨rfl, rfl⟩
 simp
 omega
end Go.Abs
namespace Go.Abs
open Go Go.RowKit Go.Proofs Go.Lx Go.Pz
variable {w0 : World}
def frT : Bs := [32, 70, 82, 79, 77, 32]
def ijT : Bs := [32, 73, 78, 78, 69, 82, 32, 74, 79, 73, 78, 32]
def onT : Bs := [32, 79, 78, 32]
def srcsT : List Src → Bs
 | [] => []
 | s :: r => frT ++ srcT s ++ joinsT r
theorem joinsT_snoc (r : List Src) (x : Src) : joinsT (r ++ [x]) = joinsT r ++ (ijT ++ srcT x ++ onT ++ textE x.on) := by
 simp [joinsT, ijT, onT]
theorem srcsT_step {l : List Src} {i : Nat} (h : i < l.length) (h0 : i ≠ 0) : srcsT (l.take (i + 1)) = srcsT (l.take i) ++ (ijT ++ srcT l[i] ++ onT ++ textE l[i].on) := by
 rw [List.take_add_one, List.getElem?_eq_getElem h, Option.toList_some]
 cases l with
 | nil => simp at h
 | cons s r =>
   obtain ⟨j, rfl⟩ : ∃ j, i = j + 1 := ⟨i - 1, by omega⟩
   rw [List.take_succ_cons, List.cons_append, srcsT, srcsT, joinsT_snoc, List.append_assoc (frT ++ srcT s)]
theorem srcsT_zero {l : List Src} (h : 0 < l.length) : srcsT (l.take 1) = frT ++ srcT l[0] := by
 cases l with
 | nil => simp at h
 | cons s r => simp [srcsT, joinsT]
def QrI (H0 : Heap) (l : List Src) (v : AVal) (base : Bs) (p : AVal) (n : Nat) (a : Tmps) (S' : Heap) : Prop :=
 ∃ (i : Nat) (g : Heap), n = l.length - i ∧ i ≤ l.length ∧ S' = H0 ++ g ∧ (base ++ srcsT (l.take i)).length ≤ 1000000000000 + i * 6000000000 ∧ get a 1 = p ∧ get a 3 = .str (base ++ srcsT (l.take i)) ∧ get a 15 = v ∧ get a 16 = .int l.length ∧ get a 17 = .int i
def QrQ (H0 : Heap) (p : AVal) (r : Bs) : AExit → Tmps → Heap → Prop
 | .normal, a, S' => ∃ g, S' = H0 ++ g ∧ get a 1 = p ∧ get a 3 = .str r ∧ r.length ≤ 2000000000000
 | _, _, _ => False
theorem aliasB_len {x : Bs} (h : aliasB x = true) : x.length ≤ 32 := by
 simp only [aliasB, Bool.or_eq_true, decide_eq_true_eq] at h
 rcases h with h | h
 ·simp [h]
 ·exact nameB_len h
set_option maxHeartbeats 4000000 in
theorem lp38 (hT : Tb w0) {l : List Src} {fl : Fl} {es : List (List AVal)} (hes : Al SrcV l es) (hl : l.length ≤ 4) (hn : ∀ x ∈ l, nameB x.table = true ∧ aliasB x.alias = true) (ho : ∀ i (h : i < l.length), i ≠ 0 → okE l[i].on = true) (hw : ∀ x ∈ l, x.on.w ≤ 4000000)
  {H0 : Heap} {a : Tmps} {base : Bs} (hb : base.length ≤ 1000000000000) {p : AVal} {G : Nat → AVal} (b1 : get a 1 = p) (b3 : get a 3 = .str base) (b15 : get a 15 = .list fl es) (b16 : get a 16 = .int l.length) (b17 : get a 17 = .int 0) :
  mwp (ACalls Tryz.prog (B0 w0)) (.block 0 (.loop (f38b0 G))) (QrQ H0 p (base ++ srcsT l)) a H0 := by
 obtain ⟨hel, hes⟩ := hes
 simp only [mwp_block]
 refine mwp_loop (I := QrI H0 l (.list fl es) base p) ⟨0, [], rfl, Nat.zero_le _, by simp, by simpa [srcsT] using hb, b1, by simpa [srcsT] using b3, b15, b16, b17⟩ ?_
 clear b1 b3 b15 b16 b17
 rintro m a S' ⟨i, g, rfl, hi, rfl, hbl, b1, b3, b15, b16, b17⟩
 by_cases hlt : i < l.length
 ·obtain ⟨ev, hev, he⟩ := hes i hlt
  have hle : i < es.length := by omega
  have q1 := li_addr (k := 9) (es := es) hle he (by simp [ExV_len hev]) fl
  have q2 := li_load (k := 9) (es := es) hle he (by simp [ExV_len hev]) true 9 0 (by omega)
  have hwx := hw _ (List.getElem_mem hlt)
  have hnx := hn _ (List.getElem_mem hlt)
  have h37 := fun (ho : okE l[i].on = true) S => w37 hT 4000000 (by omega) l[i].on hwx ho ev hev S
  have hox := ho i hlt
  have hst := fun h0 => srcsT_step hlt h0
  have hst0 : i = 0 → srcsT (l.take (i + 1)) = frT ++ srcT l[i] := fun h => by subst h; exact srcsT_zero hlt
  have hin : ∀ r : Bs, base ++ srcsT (l.take (i + 1)) = r → r.length ≤ 1000000000000 + (i + 1) * 6000000000 → (base ++ srcsT (l.take (i + 1))).length ≤ 1000000000000 + (i + 1) * 6000000000 := fun r h h' => by rw [h]; exact h'
  have n1 := nameB_len hnx.1
  have n2 := aliasB_len hnx.2
  have n3 := asT_len (s := l[i].table) hnx.2
  have n4 := fun (ho : okE l[i].on = true) => textE_le (x := l[i].on) ho hwx
  generalize l[i] = y at *
  generalize hacc : base ++ srcsT (l.take i) = acc at *
  obtain ⟨fl', es', k', n', s', t', q', rfl⟩ := ExV_cells hev
  have hltI : (i : Int) < (l.length : Int) := by omega
  have hw1 := wrapS i (by omega)
  have htk : ∀ c : List AVal, c.length = 9 → takeAt true 9 c 0 = .agg c := fun c hc => by simp [takeAt, List.take_of_length_le, hc]
  rw [htk _ rfl] at q2
  by_cases h0 : i = 0
  ·have hz := hst0 h0
   have hfin : base ++ srcsT (l.take (i + 1)) = acc ++ (frT ++ asT y.table y.alias) := by
    rw [hz, ← hacc, h0]; simp [srcsT, srcT]
   have bi : ((i : Int) == 0) = true := by simp [h0]
   have hlen : (base ++ srcsT (l.take (i + 1))).length ≤ 1000000000000 + (i + 1) * 6000000000 := by
    rw [hfin]; simp only [List.length_append, frT, List.length_cons, List.length_nil]; omega
   simp [f38b0, b1, b3, b15, b16, b17, hltI, q1, q2, bi]
   refine (w94 (s := y.table) (n := y.alias) (by omega) (by omega) _).use ?_
   rintro e S1 ⟨rfl, rfl⟩
   simp [b1, b3, b15, b16, b17, hw1]
   refine ⟨by omega, by omega, ?_⟩
   exact ⟨l.length - (i + 1), by omega, i + 1, _, rfl, by omega, rfl, hlen, by simp [b1], by rw [hfin]; simp [frT], by simp [b15], by simp [b16], by simp⟩
  ·have hz := hst h0
   have hoy := hox h0
   have n5 := n4 hoy
   have hfin : base ++ srcsT (l.take (i + 1)) = acc ++ (ijT ++ asT y.table y.alias ++ onT ++ textE y.on) := by
    rw [hz, ← hacc]; simp [srcT]
   have bi : ((i : Int) == 0) = false := beq_eq_false_iff_ne.2 (by omega)
   have hlen : (base ++ srcsT (l.take (i + 1))).length ≤ 1000000000000 + (i + 1) * 6000000000 := by
    rw [hfin]; simp only [List.length_append, ijT, onT, List.length_cons, List.length_nil]; omega
   simp [f38b0, b1, b3, b15, b16, b17, hltI, q1, q2, bi]
   refine (w94 (s := y.table) (n := y.alias) (by omega) (by omega) _).use ?_
   rintro e S1 ⟨rfl, rfl⟩
   simp [b1, b3, b15, b16, b17]
   refine ⟨by omega, by omega, ?_⟩
   refine (h37 hoy _).use ?_
   rintro e S1 ⟨rfl, rfl⟩
   simp [b1, b3, b15, b16, b17, hw1]
   refine ⟨by omega, by omega, by omega, ?_⟩
   exact ⟨l.length - (i + 1), by omega, i + 1, _, rfl, by omega, rfl, hlen, by simp [b1], by rw [hfin]; simp [ijT, onT], by simp [b15], by simp [b16], by simp⟩
 ·have hie : i = l.length := by omega
  subst hie
  rw [List.take_length] at b3 hbl
  simp [f38b0, b1, b3, b15, b16, b17]
  exact ⟨g, rfl, by simp [b1], by simp [b3], by omega⟩
end Go.Abs
namespace Go.Abs
open Go Go.RowKit Go.Proofs Go.Lx Go.Pz
variable {w0 : World}
def baseT (is : List Itm) : Bs := if is = [] then [83, 69, 76, 69, 67, 84, 32, 42] else [83, 69, 76, 69, 67, 84, 32] ++ joinT (is.map itemT)
def ordT (os : List Srt) : Bs := if os = [] then [] else [32, 79, 82, 68, 69, 82, 32, 66, 89, 32] ++ joinT (os.map sortT)
theorem queryT_eq (st : Stm) : queryT st = baseT st.items ++ srcsT st.src ++ whereT st.wher ++ ordT st.order := by
 unfold queryT baseT ordT
 by_cases h1 : st.items = [] <;> cases h2 : st.src <;> simp [h1, srcsT, frT]
theorem query_parts {st : Stm} (ho : OkS st) (hk : st.kind = 6) : (st.items.length ≤ 50 ∧ (∀ x ∈ st.items, okE x.e = true ∧ aliasB x.name = true)) ∧ (st.src.length ≤ 4 ∧ (∀ x ∈ st.src, nameB x.table = true ∧ aliasB x.alias = true) ∧ ∀ i (h : i < st.src.length), i ≠ 0 → okE st.src[i].on = true) ∧ perB st.wher = true ∧ (st.order.length ≤ 50 ∧ ∀ x ∈ st.order, okE x.e = true) := by
 cases ho with
 | query is s fs w os hi his hf hs hfs hw ho hos =>
   refine ⟨⟨hi, his⟩, ⟨by simp; omega, fun x hx => ?_, fun i h h0 => ?_⟩, hw, ho, hos⟩
   ·rcases List.mem_cons.1 hx with rfl | hx
    ·exact ⟨hs.1, hs.2.1⟩
    ·exact ⟨(hfs x hx).1, (hfs x hx).2.1⟩
   ·obtain ⟨j, rfl⟩ : ∃ j, i = j + 1 := ⟨i - 1, by omega⟩
    simp only [List.getElem_cons_succ]
    exact (hfs _ (List.getElem_mem _)).2.2
 | trans k h1 h2 => simp only at hk; omega
 | createT => simp at hk
 | dropT => simp at hk
 | createI => simp at hk
 | dropI => simp at hk
 | insert => simp at hk
 | update => simp at hk
 | delete => simp at hk
theorem itemT_le {x : Itm} (ho : okE x.e = true) (hn : aliasB x.name = true) (hw : x.e.w ≤ 4000000) : (itemT x).length ≤ 5000000040 := by
 have h1 := textE_le ho hw
 have h2 := asT_len (s := textE x.e) hn
 unfold itemT; omega
theorem sortT_le {x : Srt} (ho : okE x.e = true) (hw : x.e.w ≤ 4000000) : (sortT x).length ≤ 5000000040 := by
 have h1 := textE_le ho hw
 unfold sortT; split <;> simp <;> omega
theorem whereT_le {x : Ex} (hp : perB x = true) (hw : x.w ≤ 4000000) : (whereT x).length ≤ 5000000040 := by
 unfold whereT
 split
 ·simp
 ·rename_i h0
  rw [perB_ok h0] at hp
  have h1 := textE_le hp hw
  simp; omega
set_option maxHeartbeats 8000000 in
theorem w38 (hT : Tb w0) {st : Stm} (ho : OkS st) (hk : st.kind = 6) (hwd : ∀ x ∈ exsS st, x.w ≤ 4000000) {c : List AVal} (hc : StV st c) (S : Heap) : ACalls Tryz.prog (B0 w0) 38 [.agg c] S fun e S' => e = .ret (.str (queryT st)) ∧ S' = S := by
 obtain ⟨⟨hi1, hi2⟩, ⟨hf1, hf2, hf3⟩, hwp, hs1, hs2⟩ := query_parts ho hk
 obtain ⟨fC, fN, fR, fI, fF, fO, fS, eR, eI, eF, ew, eO, eS, rfl, hw, hR, hI, hF, hO, hS⟩ := hc
 refine ACalls.close (R := fun e S' => e = .ret (.str (queryT st)) ∧ S'.take S.length = S) ?_ ?_
 rotate_left 1
 ·rintro e S' ⟨rfl, ht⟩
  exact .flat ht rfl ⟨rfl, rfl⟩
 have j1 := joinT_map_len (t := itemT) (c := 5000000040) (n := 50) (l := st.items) (fun x hx => itemT_le (hi2 x hx).1 (hi2 x hx).2 (hwd _ (mem_items hx))) hi1
 have j2 := joinT_map_len (t := sortT) (c := 5000000040) (n := 50) (l := st.order) (fun x hx => sortT_le (hs2 x hx) (hwd _ (mem_order hx))) hs1
 have j3 := whereT_le hwp (hwd _ mem_wher)
 have h41 := fun S => w41 hT hwp (hwd _ mem_wher) hw S
 have h92 := fun S => w92 (w0 := w0) (l := st.items) (es := eI) (fl := fI) (t := itemT) (fo := 93) hI.1 (fun i hi => by obtain ⟨ev, h, e⟩ := hI.2 i hi; rw [e]; simp [ExV_len h])
  (fun i hi => by obtain ⟨ev, h, e⟩ := hI.2 i hi; rw [e]; have := List.all_eq_true.1 (ExV_one h); intro x hx; simp at hx; rcases hx with hx | rfl; exact this x hx; rfl) (by omega) (by rw [joinT_eq]; omega)
  (fun i hi S => w93 hT (hi2 _ (List.getElem_mem hi)).2 (hi2 _ (List.getElem_mem hi)).1 (hwd _ (mem_items (List.getElem_mem hi))) (hI.2 i hi) S) S
 have h95 := fun S => w95 (w0 := w0) (l := st.order) (es := eO) (fl := fO) (t := sortT) (fo := 96) hO.1 (fun i hi => by obtain ⟨ev, h, e⟩ := hO.2 i hi; rw [e]; simp [ExV_len h])
  (fun i hi => by obtain ⟨ev, h, e⟩ := hO.2 i hi; rw [e]; have := List.all_eq_true.1 (ExV_one h); intro x hx; simp at hx; rcases hx with hx | rfl; exact this x hx; rfl) (by omega) (by rw [joinT_eq]; omega)
  (fun i hi S => w96 hT (hs2 _ (List.getElem_mem hi)) (hwd _ (mem_order (List.getElem_mem hi))) (hO.2 i hi) S) S
 rw [joinT_eq] at h92 h95
 have eI0 : 0 < eI.length ↔ st.items ≠ [] := by rw [hI.1]; cases st.items <;> simp
 have eO0 : 0 < eO.length ↔ st.order ≠ [] := by rw [hO.1]; cases st.order <;> simp
 have hbl : (baseT st.items).length ≤ 1000000000000 := by unfold baseT; split <;> simp <;> omega
 have hol : (ordT st.order).length ≤ 1000000000000 := by unfold ordT; split <;> simp <;> omega
 have hq := queryT_eq st
 obtain ⟨fl', es', k', n', s', t', q', rfl⟩ := ExV_cells hw
 refine fn_sound tryOrd (f38_c _) (by simp [f38]) ?_
 rw [f38, f38m, mwp_seq]
 simp [-mwp_seq]
 obtain ⟨H, hH⟩ : ∃ H, H = S ++ [AObj.cells 18 [[AVal.int st.kind, .str st.table, .str st.index, .list fC (pcolsC st.cols), .list fN (namesC st.names), .bool st.uniq, .list fR eR, .list fI eI, .list fF eF, .int (opOf st.wher), .list fl' es', .int k', .int n', .int s', .str t', .str q', .list fO eO, .list fS eS]] (some 1)] := ⟨_, rfl⟩
 have hg : ∀ g : Heap, (H ++ g)[S.length]? = some (.cells 18 [[AVal.int st.kind, .str st.table, .str st.index, .list fC (pcolsC st.cols), .list fN (namesC st.names), .bool st.uniq, .list fR eR, .list fI eI, .list fF eF, .int (opOf st.wher), .list fl' es', .int k', .int n', .int s', .str t', .str q', .list fO eO, .list fS eS]] (some 1)) := fun g => by rw [hH]; simp
 have hg0 := hg []
 rw [List.append_nil] at hg0
 have ht : ∀ g : Heap, (H ++ g).take S.length = S := fun g => by rw [hH]; simp
 rw [← hH]
 rw [mwp_seq]
 simp [-mwp_seq]
 rw [mwp_seq]
 by_cases hie : st.items = []
 case' pos =>
  have eb : baseT st.items = [83, 69, 76, 69, 67, 84, 32, 42] := by rw [hie]; rfl
  have e0 : ¬ 0 < eI.length := fun h => eI0.1 h hie
  rw [mwp_seq]
  simp [-mwp_seq, -mwp_block, hg0, e0]
  rw [mwp_seq, mwp_seq]
  simp [-mwp_seq, -mwp_block, hg0, e0]
  refine mwp_mono _ _ (fun _ _ _ _ _ hr h => h.mono hr) ?_ (lp38 hT (fl := fF) hF hf1 hf2 hf3 (fun x hx => hwd _ (mem_src hx)) (base := baseT st.items) hbl (p := .ptr S.length 0 0) (by simp) (by simp [eb]) (by simp) (by simp [hF.1]) (by simp))
 case' neg =>
  have eb : baseT st.items = [83, 69, 76, 69, 67, 84, 32] ++ joinT (st.items.map itemT) := by unfold baseT; rw [if_neg hie]
  have e0 : 0 < eI.length := eI0.2 hie
  rw [mwp_seq]
  simp [-mwp_seq, -mwp_block, hg0, e0]
  refine (h92 _).use ?_
  rintro e S1 ⟨rfl, rfl⟩
  simp [-mwp_seq, -mwp_block]
  refine ⟨by omega, ?_⟩
  rw [mwp_seq, mwp_seq]
  simp [-mwp_seq, -mwp_block, hg0, e0]
  refine mwp_mono _ _ (fun _ _ _ _ _ hr h => h.mono hr) ?_ (lp38 hT (fl := fF) hF hf1 hf2 hf3 (fun x hx => hwd _ (mem_src hx)) (base := baseT st.items) hbl (p := .ptr S.length 0 0) (by simp) (by simp [eb]) (by simp) (by simp [hF.1]) (by simp))
 all_goals
  intro e a S' h
  cases e <;> first | exact h.elim | skip
  obtain ⟨g, rfl, b1, b3, hl3⟩ := h
  rw [List.length_append] at hl3
  simp only [afterX_normal]
  rw [mwp_seq]
  simp [-mwp_seq, -mwp_block, b1, b3, hg]
  refine (h41 _).use ?_
  rintro e S1 ⟨rfl, rfl⟩
  simp [-mwp_seq, -mwp_block]
  refine ⟨by omega, ?_⟩
  by_cases hoe : st.order = []
  ·have e1 : ¬ 0 < eO.length := fun h => eO0.1 h hoe
   have e2 : ordT st.order = [] := by rw [hoe]; rfl
   rw [e2, List.append_nil] at hq
   simp [b1, b3, hg, e1, hq, ht]
  ·have e1 : 0 < eO.length := eO0.2 hoe
   have e2 : ordT st.order = [32, 79, 82, 68, 69, 82, 32, 66, 89, 32] ++ joinT (st.order.map sortT) := by unfold ordT; rw [if_neg hoe]
   rw [e2] at hq
   simp [b1, b3, hg, e1]
   refine (h95 _).use ?_
   rintro e S1 ⟨rfl, rfl⟩
   simp [hq, ht]
   omega
end Go.Abs
namespace Go.Abs
open Go Go.RowKit Go.Proofs Go.Lx Go.Pz
variable {w0 : World}
theorem setT_le {x : Asn} (hn : nameB x.col = true) (ho : okE x.e = true) (hw : x.e.w ≤ 4000000) : (setT x).length ≤ 5000000040 := by
 have h1 := textE_le ho hw
 have h2 := nameB_len hn
 unfold setT; simp; omega
set_option maxHeartbeats 8000000 in
theorem w14 (hT : Tb w0) {st : Stm} (ho : OkS st) (hwd : ∀ x ∈ exsS st, x.w ≤ 4000000) {c : List AVal} (hc : StV st c) (S : Heap) : ACalls Tryz.prog (B0 w0) 14 [.agg c] S fun e S' => e = .ret (.str (formS st)) ∧ S' = S := by
 have h38 := fun hk S => w38 hT ho hk hwd hc S
 obtain ⟨fC, fN, fR, fI, fF, fO, fS, eR, eI, eF, ew, eO, eS, rfl, hw, hR, hI, hF, hO, hS⟩ := hc
 refine ACalls.close (R := fun e S' => e = .ret (.str (formS st)) ∧ S'.take S.length = S) ?_ ?_
 rotate_left 1
 ·rintro e S' ⟨rfl, ht⟩
  exact .flat ht rfl ⟨rfl, rfl⟩
 have h41 := fun hwp S => w41 hT hwp (hwd _ mem_wher) hw S
 obtain ⟨fl', es', k', n', s', t', q', rfl⟩ := ExV_cells hw
 refine fn_sound tryOrd (f14_c _) (by simp [f14]) ?_
 rw [f14, f14m, mwp_seq]
 simp [-mwp_seq]
 obtain ⟨H, hH⟩ : ∃ H, H = S ++ [AObj.cells 18 [[AVal.int st.kind, .str st.table, .str st.index, .list fC (pcolsC st.cols), .list fN (namesC st.names), .bool st.uniq, .list fR eR, .list fI eI, .list fF eF, .int (opOf st.wher), .list fl' es', .int k', .int n', .int s', .str t', .str q', .list fO eO, .list fS eS]] (some 1)] := ⟨_, rfl⟩
 have hg : H[S.length]? = some (.cells 18 [[AVal.int st.kind, .str st.table, .str st.index, .list fC (pcolsC st.cols), .list fN (namesC st.names), .bool st.uniq, .list fR eR, .list fI eI, .list fF eF, .int (opOf st.wher), .list fl' es', .int k', .int n', .int s', .str t', .str q', .list fO eO, .list fS eS]] (some 1)) := by rw [hH]; simp
 have ht : H.take S.length = S := by rw [hH]; simp
 rw [← hH]
 clear hH
 cases ho with
 | createT t cs ht1 h1 h2 hcs =>
   have hlen := joinT_map_len (t := colT) (c := 60) (n := 16) (l := cs) (fun x hx => colT_len (hcs x hx)) h2
   have h31 := fun S => w31 (w0 := w0) (l := cs) (es := pcolsC cs) (fl := fC) (t := colT) (fo := 32) (by simp [pcolsC]) (fun i hi => by rw [pcols_get hi]; rfl) (fun i hi => by rw [pcols_get hi]; simp [pcolC]) (by omega) (by rw [joinT_eq]; omega)
    (fun i hi S => by rw [pcols_get hi]; exact w32 (hcs _ (List.getElem_mem hi)) S) S
   rw [joinT_eq] at h31
   have hnl := nameB_len ht1
   simp [hg]
   refine ⟨by omega, by omega, ?_⟩
   refine (h31 _).use ?_
   rintro e S1 ⟨rfl, rfl⟩
   simp [hg, formS, ht]
   omega
 | dropT t ht1 =>
   have hnl := nameB_len ht1
   simp [hg, formS, ht]
   try omega
 | createI u i t ns hi ht1 h1 h2 hn =>
   have hlen := joinT_map_len (t := id) (c := 32) (n := 4) (l := ns) (fun x hx => nameB_len (hn x hx)) h2
   rw [List.map_id] at hlen
   have h33 := fun S => w33 (w0 := w0) (S := S) (v := .list fN (namesC ns)) (xs := ns) (sep := [44, 32]) (Rk.list fN _) (by omega) (by rw [joinT_eq]; omega)
   rw [joinT_eq] at h33
   have hnl := nameB_len ht1
   have hil := nameB_len hi
   cases u with
   | false =>
     simp [hg]
     refine ⟨by omega, by omega, by omega, by omega, ?_⟩
     refine (h33 _).use ?_
     rintro e S1 ⟨rfl, rfl⟩
     simp [hg, formS, ht]
     omega
   | true =>
     simp [hg]
     refine ⟨by omega, by omega, by omega, by omega, ?_⟩
     refine (h33 _).use ?_
     rintro e S1 ⟨rfl, rfl⟩
     simp [hg, formS, ht]
     omega
 | dropI i hi =>
   have hnl := nameB_len hi
   simp [hg, formS, ht]
   try omega
 | insert t rs ht1 h1 h2 hr =>
   have hwr : ∀ r ∈ rs, ∀ x ∈ r, x.w ≤ 4000000 := fun r hr x hx => hwd x (mem_rows (st := { kind := 5, table := t, rows := rs }) hr hx)
   have hlen := joinT_map_len (t := rowT) (c := 250000000200) (n := 50) (l := rs) (fun r hx => rowT_len (hr r hx).2.2 (hr r hx).2.1 (hwr r hx)) h2
   have h34 := fun S => w34 (w0 := w0) (l := rs) (es := eR) (fl := fR) (t := rowT) (fo := 35) hR.1 (fun i hi => by obtain ⟨fl, es, e, h⟩ := hR.2 i hi; rw [e]; rfl) (by omega) (by rw [joinT_eq]; omega)
    (fun i hi S => by
     obtain ⟨fl, es, e, h⟩ := hR.2 i hi
     rw [e]
     have hri := hr _ (List.getElem_mem hi)
     exact w35 hT hri.2.2 hri.2.1 (hwr _ (List.getElem_mem hi)) h S) S
   rw [joinT_eq] at h34
   have hnl := nameB_len ht1
   simp [hg]
   refine ⟨by omega, by omega, ?_⟩
   refine (h34 _).use ?_
   rintro e S1 ⟨rfl, rfl⟩
   simp [hg, formS, ht]
   omega
 | query is s fs w os hi his hf hs hfs hwp ho hos =>
   simp [hg]
   refine (h38 rfl _).use ?_
   rintro e S1 ⟨rfl, rfl⟩
   simp [formS, ht]
 | update t zs w ht1 h1 h2 hz hwp =>
   have hwz : ∀ x ∈ zs, x.e.w ≤ 4000000 := fun x hx => hwd _ (mem_sets (st := { kind := 7, table := t, sets := zs, wher := w }) hx)
   have hlen := joinT_map_len (t := setT) (c := 5000000040) (n := 50) (l := zs) (fun x hx => setT_le (hz x hx).1 (hz x hx).2 (hwz x hx)) h2
   have h39 := fun S => w39 (w0 := w0) (l := zs) (es := eS) (fl := fS) (t := setT) (fo := 40) hS.1 (fun i hi => by obtain ⟨ev, h, e⟩ := hS.2 i hi; rw [e]; simp [ExV_len h])
    (fun i hi => by obtain ⟨ev, h, e⟩ := hS.2 i hi; rw [e]; have := List.all_eq_true.1 (ExV_one h); intro x hx; simp at hx; rcases hx with rfl | hx; rfl; exact this x hx) (by omega) (by rw [joinT_eq]; omega)
    (fun i hi S => w40 hT (hz _ (List.getElem_mem hi)).1 (hz _ (List.getElem_mem hi)).2 (hwz _ (List.getElem_mem hi)) (hS.2 i hi) S) S
   rw [joinT_eq] at h39
   have hnl := nameB_len ht1
   have hwl := whereT_le hwp (hwd w (mem_wher (st := { kind := 7, table := t, sets := zs, wher := w })))
   simp [hg]
   refine ⟨by omega, by omega, ?_⟩
   refine (h39 _).use ?_
   rintro e S1 ⟨rfl, rfl⟩
   simp [hg]
   refine ⟨by omega, by omega, ?_⟩
   refine (h41 hwp _).use ?_
   rintro e S1 ⟨rfl, rfl⟩
   simp [hg, formS, ht]
   omega
 | delete t w ht1 hwp =>
   have hnl := nameB_len ht1
   have hwl := whereT_le hwp (hwd w (mem_wher (st := { kind := 8, table := t, wher := w })))
   simp [hg]
   refine ⟨by omega, ?_⟩
   refine (h41 hwp _).use ?_
   rintro e S1 ⟨rfl, rfl⟩
   simp [hg, formS, ht]
   omega
 | trans k h1 h2 =>
   have hk : k = 9 ∨ k = 10 ∨ k = 11 := by omega
   rcases hk with rfl | rfl | rfl <;> simp [hg, formS, ht]
end Go.Abs
namespace Go.Abs
open Go Go.RowKit Go.Proofs Go.Lx Go.Pz
variable {w0 : World}
theorem w20v : ∀ (n : Nat), n < 4000000000000000000 → ∀ (x : Ex), x.w ≤ n → ∀ (av : List AVal), ExV x av → ∀ (S : Heap), ACalls Tryz.prog (B0 w0) 20 [.agg av] S fun e S' => e = .ret (.int x.depth) ∧ S' = S := by
 intro n
 induction n using Nat.strongRecOn with
 | _ n ih =>
   intro hn x hx av hav S
   obtain ⟨op, args, kind, num, scale, text, qual⟩ := x
   rw [depth_mk]
   rw [w_mk] at hx
   rw [ExV_mk] at hav
   obtain ⟨fl, es, rfl, hes⟩ := hav
   have hal := wL_len args
   have hdl := depthL_le args
   have hel := ExsV_len hes
   refine ACalls.close (R := fun e S' => e = .ret (.int (depthL args)) ∧ S'.take S.length = S) ?_ ?_
   rotate_left 1
   ·rintro e S' ⟨rfl, ht⟩
    exact .flat ht rfl ⟨rfl, rfl⟩
   refine fn_sound tryOrd (f20_c _) (by simp [f20]) ?_
   simp [f20, f20m, hel]
   refine mwp_loop (I := fun m a S' => ∃ (i : Nat) (g : Heap), m = args.length - i ∧ i ≤ args.length ∧ S' = S ++ g ∧ get a 7 = .list fl es ∧ get a 8 = .int args.length ∧ get a 9 = .int i ∧ get a 3 = .int (depthL (args.take i))) (n := args.length)
    ⟨0, _, rfl, Nat.zero_le _, rfl, rfl, rfl, rfl, by simp [depthL_nil]⟩ ?_
   rintro m a S' ⟨i, g, rfl, hi, rfl, a7, a8, a9, a3⟩
   by_cases hlt : i < args.length
   ·have hltI : (i : Int) < (args.length : Int) := by omega
    have hv := ExsV_get hes i hlt
    have hlt2 : i < es.length := by omega
    have q1 := li_addr (k := 7) (es := es) hlt2 rfl (ExV_len hv) fl
    have q2 := li_load (k := 7) (es := es) hlt2 rfl (ExV_len hv) true 7 0 (by omega)
    have hmem := w_mem (List.getElem_mem hlt)
    have hd := ih (args[i].w) (by omega) (by omega) args[i] (Nat.le_refl _) _ hv
    have hl7 := ExV_len hv
    have h1v := List.all_eq_true.1 (ExV_one hv)
    generalize es.getD i [] = ev at *
    have htk2 : takeAt true 7 ev 0 = .agg ev := by simp [takeAt, List.take_of_length_le, hl7]
    rw [htk2] at q2
    have hdw := depth_le args[i]
    have htk : depthL (args.take (i + 1)) = max (depthL (args.take i)) (args[i].depth + 1) := by
     rw [List.take_add_one, List.getElem?_eq_getElem hlt, depthL_append, Option.toList_some, depthL_cons, depthL_nil]; omega
    have hw : IntKind.i64.wrap ((args[i].depth : Int) + 1) = ((args[i].depth + 1 : Nat) : Int) := wrapS _ (by omega)
    have hw2 := wrapS i (by omega)
    generalize args[i] = y at *
    simp [f20b0, a7, a8, a9, a3, hltI, q1, q2, hl7]
    refine ⟨h1v, ?_⟩
    refine (hd _).use ?_
    rintro e S1 ⟨rfl, rfl⟩
    simp [a7, a8, a9, a3, hw, hw2]
    refine ⟨args.length - (i + 1), by omega, i + 1, rfl, by omega, by simp, ?_⟩
    rw [htk]
    split <;> omega
   ·have hie : i = args.length := by omega
    subst hie
    rw [List.take_length] at a3
    simp [f20b0, a7, a8, a9, a3]
theorem w19 {x : Ex} (hw : x.w ≤ 4000000) {ev : List AVal} (hev : ExV x ev) (S : Heap) : ACalls Tryz.prog (B0 w0) 19 [.agg ev] S fun e S' => e = .ret (.bool (decide (x.depth ≤ 40))) ∧ S' = S := by
 have h20 := fun S => w20v (w0 := w0) 4000000 (by decide) x hw ev hev S
 obtain ⟨fl, es, k, n, s, t, q, rfl⟩ := ExV_cells hev
 refine ACalls.close (R := fun e S' => e = .ret (.bool (decide (x.depth ≤ 40))) ∧ S'.take S.length = S) ?_ ?_
 rotate_left 1
 ·rintro e S' ⟨rfl, ht⟩
  exact .flat ht rfl ⟨rfl, rfl⟩
 refine fn_sound tryOrd (f19_c _) (by simp [f19]) ?_
 simp [f19, f19m]
 refine (h20 _).use ?_
 rintro e S1 ⟨rfl, rfl⟩
 simp
 omega
end Go.Abs
namespace Go.Abs
open Go Go.RowKit Go.Proofs Go.Lx Go.Pz
variable {w0 : World}
section
variable {α : Type} {R : α → List AVal → Prop}
theorem Al.nil : Al R [] [] := ⟨rfl, fun i h => by simp at h⟩
theorem Al.cons {x : α} {l : List α} {e : List AVal} {es : List (List AVal)} (h : R x e) (h' : Al R l es) : Al R (x :: l) (e :: es) :=
 ⟨by simp [h'.1], fun i hi => by
  cases i with
  | zero => simpa using h
  | succ i => simpa using h'.2 i (by simpa using hi)⟩
theorem Al.uncons {x : α} {l : List α} {es : List (List AVal)} (h : Al R (x :: l) es) : ∃ e es', es = e :: es' ∧ R x e ∧ Al R l es' := by
 obtain ⟨h1, h2⟩ := h
 cases es with
 | nil => simp at h1
 | cons e es' =>
   refine ⟨e, es', rfl, h2 0 (by simp), by simpa using h1, fun i hi => h2 (i + 1) (by simpa using hi)⟩
theorem Al.empty {es : List (List AVal)} (h : Al R [] es) : es = [] := List.eq_nil_of_length_eq_zero h.1
theorem Al.app : ∀ {l : List α} {es : List (List AVal)} {l' : List α} {es' : List (List AVal)}, Al R l es → Al R l' es' → Al R (l ++ l') (es ++ es')
 | [], es, l', es', h, h' => by rw [h.empty]; exact h'
 | x :: l, es, l', es', h, h' => by
   obtain ⟨e, es2, rfl, h1, h2⟩ := h.uncons
   exact Al.cons h1 (Al.app h2 h')
theorem Al.map {β : Type} {R' : β → List AVal → Prop} {f : α → β} {g : List AVal → List AVal} (hR : ∀ x e, R x e → R' (f x) (g e)) : ∀ {l : List α} {es : List (List AVal)}, Al R l es → Al R' (l.map f) (es.map g)
 | [], es, h => by rw [h.empty]; exact Al.nil
 | x :: l, es, h => by
   obtain ⟨e, es2, rfl, h1, h2⟩ := h.uncons
   exact Al.cons (hR x e h1) (Al.map hR h2)
end
theorem ExsV.al {l : List Ex} {es : List (List AVal)} (h : ExsV l es) : Al ExV l es := ⟨ExsV_len h, fun i hi => ExsV_get h i hi⟩
def rowOf : List AVal → List (List AVal)
 | [.list _ es] => es
 | _ => []
def rowsC (eR : List (List AVal)) : List (List AVal) := (eR.map rowOf).flatten
def itC (e : List AVal) : List AVal := e.take 7
def srC (e : List AVal) : List AVal := (e.drop 2).take 7
def asC (e : List AVal) : List AVal := (e.drop 1).take 7
theorem rows_al : ∀ {rs : List (List Ex)} {eR : List (List AVal)}, Al RowV rs eR → Al ExV rs.flatten (rowsC eR)
 | [], es, h => by rw [h.empty]; exact Al.nil
 | x :: l, es, h => by
   obtain ⟨e, es2, rfl, ⟨fl, es3, rfl, h1⟩, h2⟩ := h.uncons
   exact Al.app h1.al (rows_al h2)
theorem items_al {l : List Itm} {es : List (List AVal)} (h : Al ItmV l es) : Al ExV (l.map (·.e)) (es.map itC) := Al.map (fun x e ⟨ev, h1, h2⟩ => by
 subst h2; rw [itC, List.take_append_of_le_length (by rw [ExV_len h1]; exact Nat.le_refl _), List.take_of_length_le (by rw [ExV_len h1]; exact Nat.le_refl _)]; exact h1) h
theorem order_al {l : List Srt} {es : List (List AVal)} (h : Al SrtV l es) : Al ExV (l.map (·.e)) (es.map itC) := Al.map (fun x e ⟨ev, h1, h2⟩ => by
 subst h2; rw [itC, List.take_append_of_le_length (by rw [ExV_len h1]; exact Nat.le_refl _), List.take_of_length_le (by rw [ExV_len h1]; exact Nat.le_refl _)]; exact h1) h
theorem src_al {l : List Src} {es : List (List AVal)} (h : Al SrcV l es) : Al ExV (l.map (·.on)) (es.map srC) := Al.map (fun x e ⟨ev, h1, h2⟩ => by
 subst h2; rw [srC]; simp only [List.drop_succ_cons, List.drop_zero]; rw [List.take_of_length_le (by rw [ExV_len h1]; exact Nat.le_refl _)]; exact h1) h
theorem sets_al {l : List Asn} {es : List (List AVal)} (h : Al AsnV l es) : Al ExV (l.map (·.e)) (es.map asC) := Al.map (fun x e ⟨ev, h1, h2⟩ => by
 subst h2; rw [asC]; simp only [List.drop_succ_cons, List.drop_zero]; rw [List.take_of_length_le (by rw [ExV_len h1]; exact Nat.le_refl _)]; exact h1) h
theorem al_seven {l : List Ex} {es : List (List AVal)} (h : Al ExV l es) : ∀ e ∈ es, e.length = 7 := fun e he => by
 obtain ⟨i, hi, rfl⟩ := List.getElem_of_mem he
 have := ExV_len (h.2 i (by rw [← h.1]; exact hi))
 rwa [getD_eq _ _ _ hi] at this
def ApO (S0 S : Heap) (u : AVal) (es : List (List AVal)) : Prop := (u = .list .full es ∧ es ≠ [] ∧ Own S0.length S0 S []) ∨ Own S0.length S0 S [(u, 7, es)]
theorem ApO.more {S0 S : Heap} {u : AVal} {es} (h : ApO S0 S u es) (g : Heap) : ApO S0 (S ++ g) u es := by
 rcases h with ⟨h1, h2, h3⟩ | h
 ·exact .inl ⟨h1, h2, h3.more g⟩
 ·exact .inr (h.more g)
theorem ApO.low {S0 S : Heap} {u : AVal} {es} (h : ApO S0 S u es) : ∀ j, j < S0.length → S[j]? = S0[j]? := by
 rcases h with ⟨h1, h2, h3⟩ | h
 ·exact h3.low
 ·exact h.low
theorem ApO.rk {S0 S : Heap} {u : AVal} {es} (h : ApO S0 S u es) : Rk 7 S u es := by
 rcases h with ⟨rfl, h2, h3⟩ | h
 ·exact .list _ _
 ·exact h.rk 0 rfl
theorem ApO.take {S0 S : Heap} {u : AVal} {es} (h : ApO S0 S u es) : S.take S0.length = S0 := by
 rcases h with ⟨h1, h2, h3⟩ | h
 ·exact h3.take rfl
 ·exact h.take rfl
theorem ApO.app {S0 S : Heap} {u : AVal} {es} (h : ApO S0 S u es) (hes : ∀ e ∈ es, e.length = 7) {y : AVal} {ys : List (List AVal)} (hy : srcOf S y = some (true, ys)) (hk : ∀ e ∈ ys, e.length = 7) (hb : es.length + ys.length ≤ 5000000) :
  ∃ u' S', appendR 7 88 S u y = .ok true u' S' ∧ ApO S0 S' u' (es ++ ys) := by
 have hb1 : (es.length + ys.length) * 88 ≤ 140737488355328 := by omega
 have hb2 : es.length + ys.length ≤ 4611686018427387903 := by omega
 rcases h with ⟨rfl, hne, h⟩ | h
 ·obtain ⟨e, r, rfl⟩ := List.exists_cons_of_ne_nil hne
  have d1 : decide (∀ e ∈ ys, e.length = 7) = true := by simpa using hk
  have d2 : decide (∀ x ∈ e :: r, x.length = 7) = true := decide_eq_true hes
  by_cases hys : ys = []
  ·subst hys
   refine ⟨.list .full (e :: r), S, ?_, .inl ⟨by simp, by simp, h⟩⟩
   simp only [appendR, hy, if_pos, d1, d2, Bool.true_and, Fl.isFull, Bool.and_true, hb1, hb2, decide_true]
   rfl
  ·refine ⟨.row S.length 0 ((e :: r).length + ys.length), S ++ [.cells 7 (e :: r ++ ys) none], ?_, .inr ?_⟩
   ·simp only [appendR, hy, if_neg hys, d1, d2, Bool.true_and, Fl.isFull, Bool.and_true, hb1, hb2, decide_true]
    rfl
   ·have := h.add 7 (e :: r ++ ys) none
    rw [List.length_append] at this
    exact this
 ·obtain ⟨S', h1, h2, _⟩ := h.app 0 rfl hy hk (by decide) hb1 hb2
  exact ⟨_, S', h1, .inr (by simpa using h2)⟩
def LxI (S0 : Heap) (p v : AVal) (n sl sn si : Nat) (F : Nat → List (List AVal)) (m : Nat) (a : Tmps) (S' : Heap) : Prop :=
 ∃ (i : Nat) (u : AVal), m = n - i ∧ i ≤ n ∧ get a 1 = p ∧ get a 3 = u ∧ get a sl = v ∧ get a sn = .int n ∧ get a si = .int i ∧ ApO S0 S' u (F i)
def LxQ (S0 : Heap) (p : AVal) (r : List (List AVal)) : AExit → Tmps → Heap → Prop
 | .normal, a, S' => ∃ u, get a 1 = p ∧ get a 3 = u ∧ ApO S0 S' u r
 | _, _, _ => False
def RF (base eR : List (List AVal)) (i : Nat) : List (List AVal) := base ++ rowsC (eR.take i)
def LF (base es : List (List AVal)) (C : List AVal → List AVal) (i : Nat) : List (List AVal) := base ++ (es.take i).map C
theorem rowsC_take {eR : List (List AVal)} {i : Nat} (h : i < eR.length) : rowsC (eR.take (i + 1)) = rowsC (eR.take i) ++ rowOf eR[i] := by
 rw [rowsC, map_take h, List.flatten_append]; simp [rowsC]
theorem rowsC_len {eR : List (List AVal)} : ∀ i, (rowsC (eR.take i)).length ≤ (rowsC eR).length := fun i => by
 conv => rhs; rw [← List.take_append_drop i eR]
 rw [rowsC, rowsC, List.map_append, List.flatten_append, List.length_append]; omega
set_option maxHeartbeats 1000000 in
theorem lp18_0 {rs : List (List Ex)} {eR : List (List AVal)} {fl : Fl} (hR : Al RowV rs eR) (hn : rs.length ≤ 4000000) {S0 S1 : Heap} {p u : AVal} {base : List (List AVal)} {a : Tmps} {G : Nat → AVal} (h7 : ∀ e ∈ base ++ rowsC eR, e.length = 7) (hbl : (base ++ rowsC eR).length ≤ 5000000)
  (ho : ApO S0 S1 u base) (b1 : get a 1 = p) (b3 : get a 3 = u) (bl : get a 18 = .list fl eR) (bn : get a 19 = .int rs.length) (bi : get a 20 = .int 0) : mwp (ACalls Tryz.prog (B0 w0)) (.block 0 (.loop (f18b0 G))) (LxQ S0 p (base ++ rowsC eR)) a S1 := by
 simp only [mwp_block]
 refine mwp_loop (I := LxI S0 p (.list fl eR) rs.length 18 19 20 (RF base eR)) ⟨0, u, rfl, Nat.zero_le _, b1, b3, bl, bn, bi, by simpa [rowsC, RF] using ho⟩ ?_
 clear b1 b3 bl bn bi ho
 rintro m a S' ⟨i, u, rfl, hi, b1, b3, bl, bn, bi, ho⟩
 rw [RF] at ho
 obtain ⟨hel, hR⟩ := hR
 by_cases hlt : i < rs.length
 ·obtain ⟨fl2, es, he, hv⟩ := hR i hlt
  have hle : i < eR.length := by omega
  have q1 := li_addr (k := 1) (es := eR) hle he rfl fl
  have q2 := li_load (k := 1) (es := eR) hle he rfl false 1 0 (by omega)
  have hst := rowsC_take hle
  have hro : rowOf eR[i] = es := by rw [getD_eq _ _ _ hle] at he; rw [he]; rfl
  rw [hro] at hst
  have hlen2 := rowsC_len (eR := eR) (i + 1)
  rw [hst, List.length_append] at hlen2
  rw [List.length_append] at hbl
  have hsub : ∀ e ∈ (base ++ rowsC (eR.take i)), e.length = 7 := fun e he => by
   rcases List.mem_append.1 he with he | he
   ·exact h7 e (by simp [he])
   ·refine h7 e (List.mem_append.2 (.inr ?_))
    rw [← List.take_append_drop i eR, rowsC, List.map_append, List.flatten_append]
    exact List.mem_append.2 (.inl he)
  obtain ⟨u', S2, happ, ho2⟩ := ho.app hsub (y := .list fl2 es) (ys := es) rfl (al_seven hv.al) (by rw [List.length_append]; omega)
  have htk : takeAt false 1 [.list fl2 es] 0 = .list fl2 es := rfl
  rw [htk] at q2
  have hltI : (i : Int) < (rs.length : Int) := by omega
  have hw := wrapS i (by omega)
  simp [-appendR, f18b0, b1, b3, bl, bn, bi, hltI, q1, q2]
  try simp [-appendR] at happ
  simp [-appendR, b1, b3, bl, bn, bi, happ, hw]
  exact ⟨rs.length - (i + 1), by omega, i + 1, _, rfl, by omega, by simp [b1], rfl, by simp [bl], by simp [bn], by simp, by rw [RF, hst, ← List.append_assoc]; exact ho2⟩
 ·have hie : i = rs.length := by omega
  subst hie
  rw [List.take_of_length_le (by omega)] at ho
  simp [f18b0, b1, b3, bl, bn, bi]
  exact ⟨u, by simp [b1], by simp [b3], ho⟩
set_option maxHeartbeats 2000000 in
theorem lp18_1 {l : List Itm} {es : List (List AVal)} {fl : Fl} (hR : Al ItmV l es) (hn : l.length ≤ 4000000) {S0 S1 : Heap} {p u : AVal} {base : List (List AVal)} {a : Tmps} {G : Nat → AVal} (h7 : ∀ e ∈ base, e.length = 7) (hbl : base.length + l.length ≤ 5000000)
  (ho : ApO S0 S1 u base) (b1 : get a 1 = p) (b3 : get a 3 = u) (bl : get a 29 = .list fl es) (bn : get a 30 = .int l.length) (bi : get a 31 = .int 0) : mwp (ACalls Tryz.prog (B0 w0)) (.block 2 (.loop (f18b1 G))) (LxQ S0 p (base ++ es.map itC)) a S1 := by
 simp only [mwp_block]
 refine mwp_loop (I := LxI S0 p (.list fl es) l.length 29 30 31 (LF base es itC)) ⟨0, u, rfl, Nat.zero_le _, b1, b3, bl, bn, bi, by simpa [LF] using ho⟩ ?_
 clear b1 b3 bl bn bi ho
 rintro m a S' ⟨i, u, rfl, hi, b1, b3, bl, bn, bi, ho⟩
 rw [LF] at ho
 obtain ⟨hel, hR⟩ := hR
 by_cases hlt : i < l.length
 ·obtain ⟨ev, hev, he⟩ := hR i hlt
  have hle : i < es.length := by omega
  have hall : ∀ e ∈ (base ++ (es.take i).map itC), e.length = 7 := fun e he => by
   rcases List.mem_append.1 he with he | he
   ·exact h7 e he
   ·obtain ⟨e', he', rfl⟩ := List.mem_map.1 he
    obtain ⟨j, hj, rfl⟩ := List.getElem_of_mem (List.mem_of_mem_take he')
    obtain ⟨ev', h1, h2⟩ := hR j (by omega)
    rw [getD_eq _ _ _ hj] at h2
    rw [h2, itC]; simp [ExV_len h1]
  have q1 := li_addr (k := 8) (es := es) hle he (by simp [ExV_len hev]) fl
  have q2 := li_load (k := 8) (es := es) hle he (by simp [ExV_len hev]) true 8 0 (by omega)
  have hst := map_take (t := itC) hle
  rw [getD_eq _ _ _ hle] at he
  generalize hy : l[i] = y at *
  obtain ⟨fl', es', k', n', s', t', q', rfl⟩ := ExV_cells hev
  have htk : ∀ c : List AVal, c.length = 8 → takeAt true 8 c 0 = .agg c := fun c hc => by simp [takeAt, List.take_of_length_le, hc]
  rw [htk _ rfl] at q2
  rw [he] at hst
  obtain ⟨u', S2, happ, ho2⟩ := (ho.more [AObj.cells 8 [es[i]] (some 1)]).app hall (y := .list .full [[.int (opOf y.e), .list fl' es', .int k', .int n', .int s', .str t', .str q']]) (ys := [[.int (opOf y.e), .list fl' es', .int k', .int n', .int s', .str t', .str q']]) rfl (by simp) (by simp; omega)
  rw [he] at happ
  have hltI : (i : Int) < (l.length : Int) := by omega
  have hw := wrapS i (by omega)
  simp [-appendR, f18b1, b1, b3, bl, bn, bi, hltI, q1, q2]
  try simp [-appendR] at happ
  simp [-appendR, b1, b3, bl, bn, bi, happ, hw]
  exact ⟨l.length - (i + 1), by omega, i + 1, _, rfl, by omega, by simp [b1], rfl, by simp [bl], by simp [bn], by simp, by rw [LF, hst, ← List.append_assoc]; exact ho2⟩
 ·have hie : i = l.length := by omega
  subst hie
  rw [List.take_of_length_le (by omega)] at ho
  simp [f18b1, b1, b3, bl, bn, bi]
  exact ⟨u, by simp [b1], by simp [b3], ho⟩
set_option maxHeartbeats 2000000 in
theorem lp18_2 {l : List Src} {es : List (List AVal)} {fl : Fl} (hR : Al SrcV l es) (hn : l.length ≤ 4000000) {S0 S1 : Heap} {p u : AVal} {base : List (List AVal)} {a : Tmps} {G : Nat → AVal} (h7 : ∀ e ∈ base, e.length = 7) (hbl : base.length + l.length ≤ 5000000)
  (ho : ApO S0 S1 u base) (b1 : get a 1 = p) (b3 : get a 3 = u) (bl : get a 42 = .list fl es) (bn : get a 43 = .int l.length) (bi : get a 44 = .int 0) : mwp (ACalls Tryz.prog (B0 w0)) (.block 4 (.loop (f18b2 G))) (LxQ S0 p (base ++ es.map srC)) a S1 := by
 simp only [mwp_block]
 refine mwp_loop (I := LxI S0 p (.list fl es) l.length 42 43 44 (LF base es srC)) ⟨0, u, rfl, Nat.zero_le _, b1, b3, bl, bn, bi, by simpa [LF] using ho⟩ ?_
 clear b1 b3 bl bn bi ho
 rintro m a S' ⟨i, u, rfl, hi, b1, b3, bl, bn, bi, ho⟩
 rw [LF] at ho
 obtain ⟨hel, hR⟩ := hR
 by_cases hlt : i < l.length
 ·obtain ⟨ev, hev, he⟩ := hR i hlt
  have hle : i < es.length := by omega
  have hall : ∀ e ∈ (base ++ (es.take i).map srC), e.length = 7 := fun e he => by
   rcases List.mem_append.1 he with he | he
   ·exact h7 e he
   ·obtain ⟨e', he', rfl⟩ := List.mem_map.1 he
    obtain ⟨j, hj, rfl⟩ := List.getElem_of_mem (List.mem_of_mem_take he')
    obtain ⟨ev', h1, h2⟩ := hR j (by omega)
    rw [getD_eq _ _ _ hj] at h2
    rw [h2, srC]; simp [ExV_len h1]
  have q1 := li_addr (k := 9) (es := es) hle he (by simp [ExV_len hev]) fl
  have q2 := li_load (k := 9) (es := es) hle he (by simp [ExV_len hev]) true 9 0 (by omega)
  have hst := map_take (t := srC) hle
  rw [getD_eq _ _ _ hle] at he
  generalize hy : l[i] = y at *
  obtain ⟨fl', es', k', n', s', t', q', rfl⟩ := ExV_cells hev
  have htk : ∀ c : List AVal, c.length = 9 → takeAt true 9 c 0 = .agg c := fun c hc => by simp [takeAt, List.take_of_length_le, hc]
  rw [htk _ rfl] at q2
  rw [he] at hst
  obtain ⟨u', S2, happ, ho2⟩ := (ho.more [AObj.cells 9 [es[i]] (some 1)]).app hall (y := .list .full [[.int (opOf y.on), .list fl' es', .int k', .int n', .int s', .str t', .str q']]) (ys := [[.int (opOf y.on), .list fl' es', .int k', .int n', .int s', .str t', .str q']]) rfl (by simp) (by simp; omega)
  rw [he] at happ
  have hltI : (i : Int) < (l.length : Int) := by omega
  have hw := wrapS i (by omega)
  simp [-appendR, f18b2, b1, b3, bl, bn, bi, hltI, q1, q2]
  try simp [-appendR] at happ
  simp [-appendR, b1, b3, bl, bn, bi, happ, hw]
  exact ⟨l.length - (i + 1), by omega, i + 1, _, rfl, by omega, by simp [b1], rfl, by simp [bl], by simp [bn], by simp, by rw [LF, hst, ← List.append_assoc]; exact ho2⟩
 ·have hie : i = l.length := by omega
  subst hie
  rw [List.take_of_length_le (by omega)] at ho
  simp [f18b2, b1, b3, bl, bn, bi]
  exact ⟨u, by simp [b1], by simp [b3], ho⟩
set_option maxHeartbeats 2000000 in
theorem lp18_3 {l : List Srt} {es : List (List AVal)} {fl : Fl} (hR : Al SrtV l es) (hn : l.length ≤ 4000000) {S0 S1 : Heap} {p u : AVal} {base : List (List AVal)} {a : Tmps} {G : Nat → AVal} (h7 : ∀ e ∈ base, e.length = 7) (hbl : base.length + l.length ≤ 5000000)
  (ho : ApO S0 S1 u base) (b1 : get a 1 = p) (b3 : get a 3 = u) (bl : get a 55 = .list fl es) (bn : get a 56 = .int l.length) (bi : get a 57 = .int 0) : mwp (ACalls Tryz.prog (B0 w0)) (.block 6 (.loop (f18b3 G))) (LxQ S0 p (base ++ es.map itC)) a S1 := by
 simp only [mwp_block]
 refine mwp_loop (I := LxI S0 p (.list fl es) l.length 55 56 57 (LF base es itC)) ⟨0, u, rfl, Nat.zero_le _, b1, b3, bl, bn, bi, by simpa [LF] using ho⟩ ?_
 clear b1 b3 bl bn bi ho
 rintro m a S' ⟨i, u, rfl, hi, b1, b3, bl, bn, bi, ho⟩
 rw [LF] at ho
 obtain ⟨hel, hR⟩ := hR
 by_cases hlt : i < l.length
 ·obtain ⟨ev, hev, he⟩ := hR i hlt
  have hle : i < es.length := by omega
  have hall : ∀ e ∈ (base ++ (es.take i).map itC), e.length = 7 := fun e he => by
   rcases List.mem_append.1 he with he | he
   ·exact h7 e he
   ·obtain ⟨e', he', rfl⟩ := List.mem_map.1 he
    obtain ⟨j, hj, rfl⟩ := List.getElem_of_mem (List.mem_of_mem_take he')
    obtain ⟨ev', h1, h2⟩ := hR j (by omega)
    rw [getD_eq _ _ _ hj] at h2
    rw [h2, itC]; simp [ExV_len h1]
  have q1 := li_addr (k := 8) (es := es) hle he (by simp [ExV_len hev]) fl
  have q2 := li_load (k := 8) (es := es) hle he (by simp [ExV_len hev]) true 8 0 (by omega)
  have hst := map_take (t := itC) hle
  rw [getD_eq _ _ _ hle] at he
  generalize hy : l[i] = y at *
  obtain ⟨fl', es', k', n', s', t', q', rfl⟩ := ExV_cells hev
  have htk : ∀ c : List AVal, c.length = 8 → takeAt true 8 c 0 = .agg c := fun c hc => by simp [takeAt, List.take_of_length_le, hc]
  rw [htk _ rfl] at q2
  rw [he] at hst
  obtain ⟨u', S2, happ, ho2⟩ := (ho.more [AObj.cells 8 [es[i]] (some 1)]).app hall (y := .list .full [[.int (opOf y.e), .list fl' es', .int k', .int n', .int s', .str t', .str q']]) (ys := [[.int (opOf y.e), .list fl' es', .int k', .int n', .int s', .str t', .str q']]) rfl (by simp) (by simp; omega)
  rw [he] at happ
  have hltI : (i : Int) < (l.length : Int) := by omega
  have hw := wrapS i (by omega)
  simp [-appendR, f18b3, b1, b3, bl, bn, bi, hltI, q1, q2]
  try simp [-appendR] at happ
  simp [-appendR, b1, b3, bl, bn, bi, happ, hw]
  exact ⟨l.length - (i + 1), by omega, i + 1, _, rfl, by omega, by simp [b1], rfl, by simp [bl], by simp [bn], by simp, by rw [LF, hst, ← List.append_assoc]; exact ho2⟩
 ·have hie : i = l.length := by omega
  subst hie
  rw [List.take_of_length_le (by omega)] at ho
  simp [f18b3, b1, b3, bl, bn, bi]
  exact ⟨u, by simp [b1], by simp [b3], ho⟩
set_option maxHeartbeats 2000000 in
theorem lp18_4 {l : List Asn} {es : List (List AVal)} {fl : Fl} (hR : Al AsnV l es) (hn : l.length ≤ 4000000) {S0 S1 : Heap} {p u : AVal} {base : List (List AVal)} {a : Tmps} {G : Nat → AVal} (h7 : ∀ e ∈ base, e.length = 7) (hbl : base.length + l.length ≤ 5000000)
  (ho : ApO S0 S1 u base) (b1 : get a 1 = p) (b3 : get a 3 = u) (bl : get a 68 = .list fl es) (bn : get a 69 = .int l.length) (bi : get a 70 = .int 0) : mwp (ACalls Tryz.prog (B0 w0)) (.block 8 (.loop (f18b4 G))) (LxQ S0 p (base ++ es.map asC)) a S1 := by
 simp only [mwp_block]
 refine mwp_loop (I := LxI S0 p (.list fl es) l.length 68 69 70 (LF base es asC)) ⟨0, u, rfl, Nat.zero_le _, b1, b3, bl, bn, bi, by simpa [LF] using ho⟩ ?_
 clear b1 b3 bl bn bi ho
 rintro m a S' ⟨i, u, rfl, hi, b1, b3, bl, bn, bi, ho⟩
 rw [LF] at ho
 obtain ⟨hel, hR⟩ := hR
 by_cases hlt : i < l.length
 ·obtain ⟨ev, hev, he⟩ := hR i hlt
  have hle : i < es.length := by omega
  have hall : ∀ e ∈ (base ++ (es.take i).map asC), e.length = 7 := fun e he => by
   rcases List.mem_append.1 he with he | he
   ·exact h7 e he
   ·obtain ⟨e', he', rfl⟩ := List.mem_map.1 he
    obtain ⟨j, hj, rfl⟩ := List.getElem_of_mem (List.mem_of_mem_take he')
    obtain ⟨ev', h1, h2⟩ := hR j (by omega)
    rw [getD_eq _ _ _ hj] at h2
    rw [h2, asC]; simp [ExV_len h1]
  have q1 := li_addr (k := 8) (es := es) hle he (by simp [ExV_len hev]) fl
  have q2 := li_load (k := 8) (es := es) hle he (by simp [ExV_len hev]) true 8 0 (by omega)
  have hst := map_take (t := asC) hle
  rw [getD_eq _ _ _ hle] at he
  generalize hy : l[i] = y at *
  obtain ⟨fl', es', k', n', s', t', q', rfl⟩ := ExV_cells hev
  have htk : ∀ c : List AVal, c.length = 8 → takeAt true 8 c 0 = .agg c := fun c hc => by simp [takeAt, List.take_of_length_le, hc]
  rw [htk _ rfl] at q2
  rw [he] at hst
  obtain ⟨u', S2, happ, ho2⟩ := (ho.more [AObj.cells 8 [es[i]] (some 1)]).app hall (y := .list .full [[.int (opOf y.e), .list fl' es', .int k', .int n', .int s', .str t', .str q']]) (ys := [[.int (opOf y.e), .list fl' es', .int k', .int n', .int s', .str t', .str q']]) rfl (by simp) (by simp; omega)
  rw [he] at happ
  have hltI : (i : Int) < (l.length : Int) := by omega
  have hw := wrapS i (by omega)
  simp [-appendR, f18b4, b1, b3, bl, bn, bi, hltI, q1, q2]
  try simp [-appendR] at happ
  simp [-appendR, b1, b3, bl, bn, bi, happ, hw]
  exact ⟨l.length - (i + 1), by omega, i + 1, _, rfl, by omega, by simp [b1], rfl, by simp [bl], by simp [bn], by simp, by rw [LF, hst, ← List.append_assoc]; exact ho2⟩
 ·have hie : i = l.length := by omega
  subst hie
  rw [List.take_of_length_le (by omega)] at ho
  simp [f18b4, b1, b3, bl, bn, bi]
  exact ⟨u, by simp [b1], by simp [b3], ho⟩
end Go.Abs
namespace Go.Abs
open Go Go.RowKit Go.Proofs Go.Lx Go.Pz
variable {w0 : World}
theorem Own.shrink {S g S' : Heap} {L} (h : Own (S ++ g).length (S ++ g) S' L) : Own S.length S S' L :=
 ⟨by have := h.le; simp at this; omega, fun j hj => by rw [h.low j (by simp; omega), List.getElem?_append_left hj], fun i v k es hi => by
  have := h.ap i v k es hi
  cases this with
  | none fl hf => exact .none fl hf
  | row id off len es cap hN hS hl => exact .row id off len es cap (by simp at hN; omega) hS hl, h.sep⟩
theorem ApO.shrink {S g S' : Heap} {u : AVal} {es} (h : ApO (S ++ g) S' u es) : ApO S S' u es := by
 rcases h with ⟨h1, h2, h3⟩ | h
 ·exact .inl ⟨h1, h2, h3.shrink⟩
 ·exact .inr h.shrink
def allC (ew : List AVal) (eR eI eF eO eS : List (List AVal)) : List (List AVal) := [ew] ++ rowsC eR ++ eI.map itC ++ eF.map srC ++ eO.map itC ++ eS.map asC
set_option maxHeartbeats 4000000 in
theorem w18 {st : Stm} (hm : Sm st) {c : List AVal} (hc : StV st c) (S : Heap) : ACalls Tryz.prog (B0 w0) 18 [.agg c] S fun e S' => ∃ u es, e = .ret u ∧ ApO S S' u es ∧ Al ExV (exsS st) es := by
 obtain ⟨fC, fN, fR, fI, fF, fO, fS, eR, eI, eF, ew, eO, eS, rfl, hw, hR, hI, hF, hO, hS⟩ := hc
 have hal : Al ExV (exsS st) (allC ew eR eI eF eO eS) := by
  have := Al.app (Al.cons hw Al.nil) (Al.app (rows_al hR) (Al.app (items_al hI) (Al.app (src_al hF) (Al.app (order_al hO) (sets_al hS)))))
  simpa [exsS, allC, List.append_assoc] using this
 have hlen : (allC ew eR eI eF eO eS).length ≤ 4000000 := by rw [hal.1]; exact hm.ex
 have h7 := al_seven hal
 have hq : ∀ e ∈ allC ew eR eI eF eO eS, e.length = 7 := h7
 simp only [allC, List.length_append, List.length_map, List.length_cons, List.length_nil] at hlen
 have s5 : ∀ e ∈ [ew] ++ rowsC eR ++ eI.map itC ++ eF.map srC ++ eO.map itC, e.length = 7 := fun e he => h7 e (List.mem_append.2 (.inl he))
 have s4 : ∀ e ∈ [ew] ++ rowsC eR ++ eI.map itC ++ eF.map srC, e.length = 7 := fun e he => s5 e (List.mem_append.2 (.inl he))
 have s3 : ∀ e ∈ [ew] ++ rowsC eR ++ eI.map itC, e.length = 7 := fun e he => s4 e (List.mem_append.2 (.inl he))
 have s2 : ∀ e ∈ [ew] ++ rowsC eR, e.length = 7 := fun e he => s3 e (List.mem_append.2 (.inl he))
 have l1 := hI.1; have l2 := hF.1; have l3 := hO.1; have l4 := hS.1; have l0 := hR.1
 obtain ⟨fl', es', k', n', s', t', q', hew⟩ := ExV_cells hw
 subst hew
 refine fn_sound tryOrd (f18_c _) (by simp [f18]) ?_
 rw [f18, f18m, mwp_seq]
 simp [-mwp_seq]
 obtain ⟨H, hH⟩ : ∃ H, H = S ++ [AObj.cells 18 [[AVal.int st.kind, .str st.table, .str st.index, .list fC (pcolsC st.cols), .list fN (namesC st.names), .bool st.uniq, .list fR eR, .list fI eI, .list fF eF, .int (opOf st.wher), .list fl' es', .int k', .int n', .int s', .str t', .str q', .list fO eO, .list fS eS]] (some 1)] := ⟨_, rfl⟩
 have hg : H[S.length]? = some (.cells 18 [[AVal.int st.kind, .str st.table, .str st.index, .list fC (pcolsC st.cols), .list fN (namesC st.names), .bool st.uniq, .list fR eR, .list fI eI, .list fF eF, .int (opOf st.wher), .list fl' es', .int k', .int n', .int s', .str t', .str q', .list fO eO, .list fS eS]] (some 1)) := by rw [hH]; simp
 have hHl : S.length < H.length := by rw [hH]; simp
 have hsh : ∀ {S' u es}, ApO H S' u es → ApO S S' u es := fun {S' u es} h => by rw [hH] at h; exact h.shrink
 rw [← hH]
 clear hH
 rw [mwp_seq]
 simp [-mwp_seq, -mwp_block, hg]
 rw [mwp_seq, mwp_seq]
 simp [-mwp_seq, -mwp_block, hg]
 have o0 : ApO H H (.list .full [[.int (opOf st.wher), .list fl' es', .int k', .int n', .int s', .str t', .str q']]) [[.int (opOf st.wher), .list fl' es', .int k', .int n', .int s', .str t', .str q']] := .inl ⟨rfl, by simp, Own.start H⟩
 refine mwp_mono _ _ (fun _ _ _ _ _ hr h => h.mono hr) ?_ (lp18_0 (fl := fR) hR hm.rows (p := .ptr S.length 0 0) s2 (by simp only [List.length_append, List.length_cons, List.length_nil]; omega) o0 (by simp) (by simp) (by simp) (by simp [l0]) (by simp))
 intro e a S' h
 cases e <;> first | exact h.elim | skip
 obtain ⟨u1, b1, b3, o1⟩ := h
 have hg1 := (o1.low S.length hHl).trans hg
 simp only [afterX_normal]
 rw [mwp_seq, mwp_seq]
 simp [-mwp_seq, -mwp_block, b1, b3, hg1]
 refine mwp_mono _ _ (fun _ _ _ _ _ hr h => h.mono hr) ?_ (lp18_1 (fl := fI) hI hm.items (p := .ptr S.length 0 0) s2 (by simp only [List.length_append, List.length_cons, List.length_nil]; omega) o1 (by simp [b1]) (by simp [b3]) (by simp) (by simp [l1]) (by simp))
 intro e a S' h
 cases e <;> first | exact h.elim | skip
 obtain ⟨u2, b1, b3, o2⟩ := h
 have hg2 := (o2.low S.length hHl).trans hg
 simp only [afterX_normal]
 rw [mwp_seq, mwp_seq]
 simp [-mwp_seq, -mwp_block, b1, b3, hg2]
 refine mwp_mono _ _ (fun _ _ _ _ _ hr h => h.mono hr) ?_ (lp18_2 (fl := fF) hF hm.src (p := .ptr S.length 0 0) s3 (by simp only [List.length_append, List.length_map, List.length_cons, List.length_nil]; omega) o2 (by simp [b1]) (by simp [b3]) (by simp) (by simp [l2]) (by simp))
 intro e a S' h
 cases e <;> first | exact h.elim | skip
 obtain ⟨u3, b1, b3, o3⟩ := h
 have hg3 := (o3.low S.length hHl).trans hg
 simp only [afterX_normal]
 rw [mwp_seq, mwp_seq]
 simp [-mwp_seq, -mwp_block, b1, b3, hg3]
 refine mwp_mono _ _ (fun _ _ _ _ _ hr h => h.mono hr) ?_ (lp18_3 (fl := fO) hO hm.order (p := .ptr S.length 0 0) s4 (by simp only [List.length_append, List.length_map, List.length_cons, List.length_nil]; omega) o3 (by simp [b1]) (by simp [b3]) (by simp) (by simp [l3]) (by simp))
 intro e a S' h
 cases e <;> first | exact h.elim | skip
 obtain ⟨u4, b1, b3, o4⟩ := h
 have hg4 := (o4.low S.length hHl).trans hg
 simp only [afterX_normal]
 rw [mwp_seq, mwp_seq]
 simp [-mwp_seq, -mwp_block, b1, b3, hg4]
 refine mwp_mono _ _ (fun _ _ _ _ _ hr h => h.mono hr) ?_ (lp18_4 (fl := fS) hS hm.sets (p := .ptr S.length 0 0) s5 (by simp only [List.length_append, List.length_map, List.length_cons, List.length_nil]; omega) o4 (by simp [b1]) (by simp [b3]) (by simp) (by simp [l4]) (by simp))
 intro e a S' h
 cases e <;> first | exact h.elim | skip
 obtain ⟨u5, b1, b3, o5⟩ := h
 simp [b1, b3]
 exact ⟨_, hsh o5, hal⟩
set_option maxHeartbeats 2000000 in
theorem w10 (hT : Tb w0) {st : Stm} (hm : Sm st) {c : List AVal} (hc : StV st c) (S : Heap) : ACalls Tryz.prog (B0 w0) 10 [.agg c] S fun e S' => e = .ret (.int (checkS st)) ∧ S' = S := by
 have h16 := fun S => w16 hT hm hc S
 have h18 := fun S => w18 (w0 := w0) hm hc S
 rw [rightB_eq] at h16
 obtain ⟨fC, fN, fR, fI, fF, fO, fS, eR, eI, eF, ew, eO, eS, rfl, hw, hR, hI, hF, hO, hS⟩ := hc
 obtain ⟨fl', es', k', n', s', t', q', rfl⟩ := ExV_cells hw
 refine ACalls.close (R := fun e S' => e = .ret (.int (checkS st)) ∧ S'.take S.length = S) ?_ ?_
 rotate_left 1
 ·rintro e S' ⟨rfl, ht⟩
  exact .flat ht rfl ⟨rfl, rfl⟩
 refine fn_sound tryOrd (f10_c _) (by simp [f10]) ?_
 rw [f10, f10m, mwp_seq]
 simp [-mwp_seq]
 obtain ⟨H, hH⟩ : ∃ H, H = S ++ [AObj.cells 18 [[AVal.int st.kind, .str st.table, .str st.index, .list fC (pcolsC st.cols), .list fN (namesC st.names), .bool st.uniq, .list fR eR, .list fI eI, .list fF eF, .int (opOf st.wher), .list fl' es', .int k', .int n', .int s', .str t', .str q', .list fO eO, .list fS eS]] (some 1)] := ⟨_, rfl⟩
 have hg : H[S.length]? = some (.cells 18 [[AVal.int st.kind, .str st.table, .str st.index, .list fC (pcolsC st.cols), .list fN (namesC st.names), .bool st.uniq, .list fR eR, .list fI eI, .list fF eF, .int (opOf st.wher), .list fl' es', .int k', .int n', .int s', .str t', .str q', .list fO eO, .list fS eS]] (some 1)) := by rw [hH]; simp
 have ht : H.take S.length = S := by rw [hH]; simp
 have hHl : S.length < H.length := by rw [hH]; simp
 rw [← hH]
 clear hH
 simp [hg]
 refine (h16 _).use ?_
 rintro e S1 ⟨rfl, rfl⟩
 cases hok : okS st with
 | false => simp [checkS, hok, ht]
 | true =>
   simp [hg]
   refine (h18 _).use ?_
   rintro e S2 ⟨u, es, rfl, ho, hal⟩
   have hg2 := (ho.low S.length hHl).trans hg
   have hS2 : S2.take S.length = S := by
    have e : S2.take S.length = (S2.take S1.length).take S.length := by rw [List.take_take, Nat.min_eq_left (by omega)]
    rw [e, ho.take, ht]
   have h17 := w17 (w0 := w0) (l := exsS st) (p := fun x => decide (x.depth ≤ 40)) (fo := 19) ho.rk hal.1 (fun i hi => ExV_len (hal.2 i hi)) (fun i hi => List.all_eq_true.1 (ExV_one (hal.2 i hi))) (by have := hm.ex; omega)
    fun i hi g => w19 (hm.w _ (List.getElem_mem hi)).1 (hal.2 i hi) _
   simp
   refine h17.use ?_
   rintro e S3 ⟨rfl, rfl⟩
   cases hall : (exsS st).all fun x => decide (x.depth ≤ 40) with
   | false =>
     have hc : checkS st = 5 := by rw [checkS, if_pos hok, hall]; rfl
     simp [hc, hS2]
   | true =>
     have hc : checkS st = 0 := by rw [checkS, if_pos hok, hall]; rfl
     simp [hc, hS2]
def showT (st : Stm) : Bs := if checkS st = 0 ∧ (formS st).length ≤ 4000 then formS st else []
def showC (st : Stm) : Int := if checkS st = 0 then (if (formS st).length ≤ 4000 then 0 else 1) else checkS st
theorem check_ok {st : Stm} (h : checkS st = 0) : OkS st := by
 cases h0 : okS st with
 | true => exact okS_iff.1 h0
 | false => rw [checkS, if_neg (by simp [h0])] at h; cases h
set_option maxHeartbeats 2000000 in
theorem w8 (hT : Tb w0) {st : Stm} (hm : Sm st) {c : List AVal} (hc : StV st c) (S : Heap) : ACalls Tryz.prog (B0 w0) 8 [.agg c] S fun e S' => e = .ret (.tuple [.str (showT st), .int (showC st)]) ∧ S' = S := by
 have h10 := fun S => w10 hT hm hc S
 have h14 := fun ho S => w14 hT ho (fun x hx => (hm.w x hx).1) hc S
 obtain ⟨fC, fN, fR, fI, fF, fO, fS, eR, eI, eF, ew, eO, eS, rfl, hw, hR, hI, hF, hO, hS⟩ := hc
 obtain ⟨fl', es', k', n', s', t', q', rfl⟩ := ExV_cells hw
 refine ACalls.close (R := fun e S' => e = .ret (.tuple [.str (showT st), .int (showC st)]) ∧ S'.take S.length = S) ?_ ?_
 rotate_left 1
 ·rintro e S' ⟨rfl, ht⟩
  exact .flat ht rfl ⟨rfl, rfl⟩
 refine fn_sound tryOrd (f8_c _) (by simp [f8]) ?_
 rw [f8, f8m, mwp_seq]
 simp [-mwp_seq]
 obtain ⟨H, hH⟩ : ∃ H, H = S ++ [AObj.cells 18 [[AVal.int st.kind, .str st.table, .str st.index, .list fC (pcolsC st.cols), .list fN (namesC st.names), .bool st.uniq, .list fR eR, .list fI eI, .list fF eF, .int (opOf st.wher), .list fl' es', .int k', .int n', .int s', .str t', .str q', .list fO eO, .list fS eS]] (some 1)] := ⟨_, rfl⟩
 have hg : H[S.length]? = some (.cells 18 [[AVal.int st.kind, .str st.table, .str st.index, .list fC (pcolsC st.cols), .list fN (namesC st.names), .bool st.uniq, .list fR eR, .list fI eI, .list fF eF, .int (opOf st.wher), .list fl' es', .int k', .int n', .int s', .str t', .str q', .list fO eO, .list fS eS]] (some 1)) := by rw [hH]; simp
 have ht : H.take S.length = S := by rw [hH]; simp
 rw [← hH]
 clear hH
 simp [hg]
 refine (h10 _).use ?_
 rintro e S1 ⟨rfl, rfl⟩
 by_cases h0 : checkS st = 0
 ·simp [h0, hg]
  refine (h14 (check_ok h0) _).use ?_
  rintro e S1 ⟨rfl, rfl⟩
  by_cases hl : (formS st).length ≤ 4000
  ·have hl' : ¬ (4000 : Int) < ((formS st).length : Int) := by omega
   simp [showT, showC, h0, hl, hl', ht]
  ·have hl' : (4000 : Int) < ((formS st).length : Int) := by omega
   simp [showT, showC, h0, hl, hl', ht]
 ·have b0 : (checkS st != 0) = true := by simpa using h0
  simp [h0, b0, showT, showC, ht]
end Go.Abs
namespace Go.Abs
open Go.Lx Go.Pz
section
variable {N : Nat}
end
end Go.Abs
namespace Go.Abs
open Go.Lx Go.Pz
section
variable {N : Nat} {l : List Tok} {d : Nat}
end
end Go.Abs
namespace Go.Abs
open Go.Lx Go.Pz
section
variable {E : Nat → List Tok → Pz.Res Ex}
end
section
variable {N : Nat} {s s' : Sta}
end
end Go.Abs
namespace Go.Abs
open Go Go.RowKit Go.Proofs Go.Lx Go.Pz
variable {w0 : World}
end Go.Abs
namespace Go.Abs
open Go Go.RowKit Go.Proofs Go.Lx Go.Pz
variable {w0 : World}
end Go.Abs
namespace Go.Abs
open Go Go.RowKit Go.Proofs Go.Lx Go.Pz
variable {w0 : World}
def zeroV : List AVal := [.int 0, .nilS, .int 0, .int 0, .int 0, .str [], .str []]
end Go.Abs
namespace Go.Abs
open Go Go.RowKit Go.Proofs Go.Lx
variable {w0 : World}
end Go.Abs
namespace Go.Abs
open Go Go.RowKit Go.Proofs Go.Lx
variable {w0 : World}
@[simp] theorem conv_byte1 {S : Heap} {fl : Fl} (c : UInt8) : convR .bytesStr (.list fl [[.atom (.int .u8 (c.toNat : Int))]]) S = .ok true (.str [c]) S :=
 conv_bytesStr (l := [c]) rfl
theorem digit_wrap {k : Nat} (h : k ≤ 9) : IntKind.u8.wrap (48 + (k : Int)) = ((UInt8.ofNat (48 + k)).toNat : Int) := by
 rw [digit_nat h]
 simp [IntKind.wrap, IntKind.bits, IntKind.signed, IntKind.max]; omega
theorem w141 (n : Nat) (hn : n ≤ 9223372036854775807) (S : Heap) : ACalls Tryz.prog (B0 w0) 141 [.int n] S fun e S' => e = .ret (.str (digs n)) ∧ S' = S := by
 refine fn_sound tryOrd (f141_c _) (by simp [f141]) ?_
 simp [f141, f141m]
 refine mwp_loop (I := fun q a S' => ∃ (s : Bs), get a 0 = .int q ∧ get a 3 = .str s ∧ S' = S ∧ digs n = digs q ++ s ∧ s.length + q ≤ n) (n := n) ?_ ?_
 ·exact ⟨[], rfl, rfl, rfl, by simp, by simp⟩
 rintro q a S' ⟨s, a0, a3, rfl, hs, hlen⟩
 have hk : IntKind.u8.wrap (IntKind.i64.wrap (48 + (q : Int).tmod 10)) = ((UInt8.ofNat (48 + q % 10)).toNat : Int) := by
  rw [Int.tmod_eq_emod_of_nonneg (by omega), wrap64_in (by omega) (by omega)]
  have := digit_wrap (k := q % 10) (by omega)
  simpa using this
 have hk0 : q ≤ 9 → IntKind.u8.wrap (IntKind.i64.wrap (48 + (q : Int))) = ((UInt8.ofNat (48 + q)).toNat : Int) := fun h => by
  rw [wrap64_in (by omega) (by omega)]
  exact digit_wrap h
 have hq : IntKind.i64.wrap ((q : Int).tdiv 10) = (q : Int) / 10 := by
  rw [Int.tdiv_eq_ediv_of_nonneg (by omega), wrap64_in (by omega) (by omega)]
 by_cases h9 : q ≤ 9
 ·have h9' : ¬ (9 : Int) < (q : Int) := by omega
  have hk0 := hk0 h9
  rw [digs_one h9] at hs
  generalize UInt8.ofNat (48 + q) = c at *
  have hl' : 1 + s.length ≤ 9223372036854775807 := by
   have := congrArg List.length hs
   have h1 : (digs n).length ≤ 19 := digs_le 18 n (by simp; omega)
   simp at this; omega
  simp [f141b0, a0, a3, h9', hk0, hl', hs]
 ·have h9' : (9 : Int) < (q : Int) := by omega
  rw [digs_more h9] at hs
  generalize UInt8.ofNat (48 + q % 10) = c at *
  have hl' : 1 + s.length ≤ 9223372036854775807 := by omega
  simp [f141b0, a0, a3, h9', hk, hq, hl']
  refine ⟨q / 10, by omega, ?_, by simpa using hs, by omega⟩
  rw [wrap64_in (by omega) (by omega)]; simp
theorem dbl_app : ∀ (l : Bs) (c : UInt8), dbl (l ++ [c]) = dbl l ++ (if c.toNat = 39 then [c, 39] else [c])
 | [], c => by simp [dbl]
 | d :: l, c => by
   have ih := dbl_app l c
   rw [List.cons_append, dbl, dbl, ih]
   split <;> simp
theorem dbl_lenR : ∀ b : Bs, (dbl b).length ≤ 2 * b.length
 | [] => by simp [dbl]
 | c :: r => by have := dbl_lenR r; rw [dbl]; split <;> simp <;> omega
theorem Own.takeN {N : Nat} {S g S' : Heap} {L : List (AVal × Nat × List (List AVal))} (h : Own N (S ++ g) S' L) (hN : S.length ≤ N) : S'.take S.length = S := by
 refine List.ext_getElem? fun j => ?_
 have := h.le
 rcases Nat.lt_or_ge j S.length with hj | hj
 ·rw [List.getElem?_take_of_lt hj, h.low j (by omega), List.getElem?_append_left hj]
 ·rw [List.getElem?_eq_none (by simp; omega), List.getElem?_eq_none hj]
set_option maxHeartbeats 1000000 in
theorem w97 {t : Tok} (ht : OkT t) (S : Heap) : ACalls Tryz.prog (B0 w0) 97 [.agg (tokC t)] S fun e S' => e = .ret (.str (wordOf t)) ∧ S' = S := by
 refine ACalls.close (R := fun e S' => e = .ret (.str (wordOf t)) ∧ S'.take S.length = S) ?_ ?_
 rotate_left 1
 ·rintro e S' ⟨rfl, ht⟩
  exact .flat ht rfl ⟨rfl, rfl⟩
 refine fn_sound tryOrd (f97_c _) (by simp [f97]) ?_
 cases ht with
 | word c r h hw hl hn => simp [f97, f97m, tokC, wordOf]
 | sign1 c h => simp [f97, f97m, tokC, wordOf]
 | sign2 c d h => simp [f97, f97m, tokC, wordOf]
 | int n h =>
   simp [f97, f97m, tokC]
   refine (w141 n h _).use ?_
   rintro e S1 ⟨rfl, rfl⟩
   simp [wordOf]
 | real n k hk hk' h =>
   have hdl := digs_le 14 n (by simp; omega)
   have hw : wordOf ⟨3, [], n, k⟩ = (padz (digs n) k).take ((padz (digs n) k).length - k) ++ 46 :: (padz (digs n) k).drop ((padz (digs n) k).length - k) := by simp [wordOf]
   rw [hw]
   clear hw
   have w141' := fun S => w141 (w0 := w0) n (by omega) S
   simp [f97, f97m, tokC]
   refine (w141' _).use ?_
   rintro e S1 ⟨rfl, rfl⟩
   simp
   generalize digs n = ds at *
   refine mwp_loop (I := fun q a S' => ∃ j : Nat, q = k + 1 - (j + ds.length) ∧ get a 3 = .str (List.replicate j 48 ++ ds) ∧ get a 1 = .ptr S.length 0 0 ∧ S' = S ++ [.cells 4 [[.int 3, .str [], .int n, .int k]] (some 1)] ∧ (j = 0 ∨ j + ds.length ≤ k + 1)) (n := k + 1 - ds.length) ?_ ?_
   ·exact ⟨0, by omega, rfl, rfl, rfl, .inl rfl⟩
   rintro q a S' ⟨j, rfl, a3, a1, rfl, hj⟩
   by_cases hlt : j + ds.length ≤ k
   ·have hlt' : (j : Int) + (ds.length : Int) ≤ (k : Int) := by omega
    have hl2 : 1 + (j + ds.length) ≤ 9223372036854775807 := by omega
    simp [f97b0, a3, a1, hlt, hlt', hl2]
    exact ⟨k + 1 - (j + 1 + ds.length), by omega, j + 1, rfl, by simp [List.replicate_succ], by omega⟩
   ·have hlt' : ¬ (j : Int) + (ds.length : Int) ≤ (k : Int) := by omega
    have ej : j = k + 1 - ds.length := by omega
    have hpad : List.replicate j 48 ++ ds = padz ds k := by rw [padz, ej]
    have hL : (padz ds k).length = j + ds.length := by rw [← hpad]; simp
    have hw1 : IntKind.i64.wrap ((j : Int) + (ds.length : Int) - (k : Int)) = ((j + ds.length - k : Nat) : Int) := by rw [wrap64_in (by omega) (by omega)]; omega
    rw [hpad] at a3
    generalize padz ds k = p at *
    generalize hM : p.length - k = M at *
    have hw2 : IntKind.i64.wrap ((p.length : Int) - (k : Int)) = (M : Int) := by rw [wrap64_in (by omega) (by omega)]; omega
    have hgt : ¬ (p.length : Int) ≤ (k : Int) := by omega
    have hM0 : (0 : Int) ≤ (M : Int) := by omega
    have hMl : M ≤ p.length := by omega
    have hb1 : M + 1 ≤ 9223372036854775807 := by omega
    have hb2 : M + 1 + (p.length - M) ≤ 9223372036854775807 := by omega
    simp [f97b0, a3, a1, hgt, hw2, sslcR, bound, hM0, hMl, hb1, hb2]
 | text b h =>
   have hdl := dbl_lenR b
   simp [f97, f97m, tokC]
   refine mwp_loop (I := fun q a S' => ∃ (i : Nat) (u : AVal), q = b.length - i ∧ i ≤ b.length ∧ get a 1 = .ptr S.length 0 0 ∧ get a 4 = u ∧ get a 5 = .int i ∧
    Own (S.length + 1) (S ++ [.cells 4 [[.int 4, .str b, .int 0, .int 0]] (some 1)]) S' [(u, 1, (39 :: dbl (b.take i)).map u8)]) (n := b.length) ?_ ?_
   ·refine ⟨0, _, rfl, Nat.zero_le _, rfl, rfl, rfl, ?_⟩
    have h0 := (Own.start (S ++ [.cells 4 [[.int 4, .str b, .int 0, .int 0]] (some 1)])).add 1 [u8 39] (some 1)
    simp [dbl] at h0 ⊢
    exact h0
   rintro q a S1 ⟨i, u, rfl, hi, a1, a4, a5, ho⟩
   have hbox : S1[S.length]? = some (.cells 4 [[.int 4, .str b, .int 0, .int 0]] (some 1)) := by rw [ho.low S.length (by omega)]; simp
   have hdi := dbl_lenR (b.take i)
   have hil : (b.take i).length ≤ 200 := by rw [List.length_take]; omega
   by_cases hlt : i < b.length
   ·have hda := dbl_app (b.take i) b[i]
    have e1 : b.take i ++ [b[i]] = b.take (i + 1) := by rw [List.take_add_one, List.getElem?_eq_getElem hlt]; rfl
    rw [e1] at hda
    obtain ⟨S2, happ, ho2, hlt2⟩ := ho.app 0 rfl (y := .list .full [[.atom (.int .u8 b[i].toNat)]]) (ys := [u8 b[i]]) (bytes := 1) rfl (by simp [u8]) (by decide) (by simp; omega) (by simp; omega)
    have hbox2 : S2[S.length]? = some (.cells 4 [[.int 4, .str b, .int 0, .int 0]] (some 1)) := by rw [ho2.low S.length (by omega)]; simp
    by_cases h39 : b[i].toNat = 39
    ·rw [if_pos h39] at hda
     obtain ⟨S3, happ3, ho3, hlt3⟩ := ho2.app 0 rfl (y := .list .full [[.atom (.int .u8 39)]]) (ys := [u8 39]) (bytes := 1) rfl (by simp [u8]) (by decide) (by simp; omega) (by simp; omega)
     simp [-appendR, h39] at happ happ3
     simp [-appendR, f97b1, hbox, hbox2, a1, a4, a5, hlt, happ, happ3, h39, wrapS i (by omega)]
     refine ⟨b.length - (i + 1), by omega, i + 1, rfl, by omega, by simp, ?_⟩
     rw [hda]
     have e2 : u8 b[i] = u8 39 := by simp [u8, h39]
     simp only [List.length_map, List.length_cons, List.set_cons_zero] at ho3
     simpa [e2] using ho3
    ·rw [if_neg h39] at hda
     simp [-appendR] at happ
     have h39' : ((b[i].toNat : Int) == 39) = false := beq_eq_false_iff_ne.2 (by omega)
     simp [-appendR, f97b1, hbox, hbox2, a1, a4, a5, hlt, happ, h39, h39', wrapS i (by omega)]
     refine ⟨b.length - (i + 1), by omega, i + 1, rfl, by omega, by simp, ?_⟩
     rw [hda]
     simpa using ho2
   ·obtain rfl : i = b.length := by omega
    rw [List.take_length] at ho
    obtain ⟨S2, happ, ho2, hlt2⟩ := ho.app 0 rfl (y := .list .full [[.atom (.int .u8 39)]]) (ys := [u8 39]) (bytes := 1) rfl (by simp [u8]) (by decide) (by simp; omega) (by simp; omega)
    have hel := (ho2.rk 0 rfl).elems
    have hb := conv_bytesStr (S := S2) (l := 39 :: (dbl b ++ [39])) (side := true) (v := .row S1.length 0 ((dbl b).length + 1 + 1)) (by simpa using hel)
    simp [-appendR] at happ
    simp [-appendR, f97b1, hbox, a1, a4, a5, happ, hb, wordOf]
    exact ho2.takeN (by omega)
end Go.Abs
namespace Go.Abs
open Go Go.RowKit Go.Proofs Go.Lx Go.Pz
variable {w0 : World}
set_option maxHeartbeats 16000000 in
theorem w43 : ∀ (n : Nat), n < 1000000000000 → ∀ (x : Ex), x.w ≤ n → okE x = true → ∀ (av : List AVal), ExV x av → ∀ (S : Heap), ACalls Tryz.prog (B0 w0) 43 [.agg av] S fun e S' => e = .ret (.str (textE x)) ∧ S' = S := by
 intro n
 induction n using Nat.strongRecOn with
 | _ n ih =>
   intro hn x hx ho av hav S
   obtain ⟨op, args, kind, num, scale, text, qual⟩ := x
   rw [okE_mk, Bool.and_eq_true, decide_eq_true_eq] at ho
   obtain ⟨hl, ho⟩ := ho
   rw [w_mk] at hx
   rw [ExV_mk] at hav
   obtain ⟨fl, es, rfl, hes⟩ := hav
   have hel := ExsV_len hes
   refine ACalls.close (R := fun e S' => e = .ret (.str (textE (.mk op args kind num scale text qual))) ∧ S'.take S.length = S) ?_ ?_
   rotate_left 1
   ·rintro e S' ⟨rfl, ht⟩
    exact .flat ht rfl ⟨rfl, rfl⟩
   rw [textE_mk]
   refine fn_sound tryOrd (f43_c _) (by simp [f43]) ?_
   rw [f43, f43m, mwp_seq]
   simp [-mwp_seq, -mwp_block]
   obtain ⟨H, hH⟩ : ∃ H, H = S ++ [AObj.cells 7 [[.int op, .list fl es, .int kind, .int num, .int scale, .str text, .str qual]] (some 1)] := ⟨_, rfl⟩
   have hg : ∀ g, (H ++ g)[S.length]? = some (.cells 7 [[.int op, .list fl es, .int kind, .int num, .int scale, .str text, .str qual]] (some 1)) := fun g => by rw [hH]; simp
   have hg0 := hg []
   rw [List.append_nil] at hg0
   have ht : ∀ g, (H ++ g).take S.length = S := fun g => by rw [hH]; simp
   have ht0 := ht []
   rw [List.append_nil] at ht0
   rw [← hH]
   rw [mwp_seq, mwp_seq]
   by_cases h21 : op = 21
   ·rw [if_pos h21] at ho
    rw [shapeT_const h21]
    have htk := const_tok ho
    unfold constT
    rcases htk with ⟨rfl, _⟩ | ⟨rfl, h1, _⟩ | ⟨rfl, h1, _⟩ | ⟨h1, h2, h3, h4, h5, h6⟩
    ·simp [hg0, hg, h21, ht]
    ·rcases h1 with rfl | rfl <;> simp [hg0, hg, h21, ht]
    ·rcases h1 with rfl | rfl <;> simp [hg0, hg, h21, ht]
    ·have b0 : (kind == 0) = false := beq_eq_false_iff_ne.2 h1
     have b1 : (kind == 1) = false := beq_eq_false_iff_ne.2 h2
     have hw := fun S => w97 (w0 := w0) h5 S
     simp only [tokC] at hw
     rw [if_neg h1, if_neg h2, if_neg h3, if_neg h4]
     by_cases k3 : kind = 3
     ·have s1 : (scale == -1) = false := beq_eq_false_iff_ne.2 (fun h => h3 ⟨k3, h⟩)
      have s2 : (scale == -2) = false := beq_eq_false_iff_ne.2 (fun h => h4 ⟨k3, h⟩)
      simp [hg0, hg, h21, b0, b1, k3, s1, s2]
      rw [k3] at hw
      refine (hw _).use ?_
      rintro e S1 ⟨rfl, rfl⟩
      simp [ht, k3]
     ·have b3 : (kind == 3) = false := beq_eq_false_iff_ne.2 k3
      simp [hg0, hg, h21, b0, b1, b3]
      refine (hw _).use ?_
      rintro e S1 ⟨rfl, rfl⟩
      simp [ht]
   rw [if_neg h21] at ho
   simp only [Bool.and_eq_true, decide_eq_true_eq] at ho
   obtain ⟨⟨⟨rfl, rfl⟩, rfl⟩, ho⟩ := ho
   have b21 : (op == 21) = false := beq_eq_false_iff_ne.2 h21
   simp [-mwp_seq, -mwp_block, hg0, b21]
   rw [mwp_seq, mwp_seq]
   by_cases h22 : op = 22
   ·rw [if_pos h22] at ho
    rw [shapeT_col h22]
    simp only [Bool.and_eq_true, Bool.or_eq_true, decide_eq_true_eq] at ho
    have h1 := nameB_len ho.1
    by_cases hq : qual = []
    ·simp [hg0, h22, hq, ht0]
    ·have h2 := nameB_len (ho.2.resolve_left hq)
     simp [hg0, h22, hq, ht0]
     omega
   rw [if_neg h22] at ho
   have b22 : (op == 22) = false := beq_eq_false_iff_ne.2 h22
   simp only [Bool.and_eq_true, decide_eq_true_eq] at ho
   obtain ⟨⟨hL, rfl⟩, rfl⟩ := ho
   simp [-mwp_seq, -mwp_block, hg0, b22]
   rw [mwp_seq]
   simp [-mwp_seq, -mwp_block]
   rw [mwp_seq]
   simp [-mwp_seq, -mwp_block]
   rw [mwp_seq, mwp_seq]
   have hHl : H.length = S.length + 1 := by rw [hH]; simp
   rcases op_none hl h21 h22 with hn1 | hn1
   ·obtain ⟨y, rfl⟩ : ∃ y, args = [y] := List.length_eq_one_iff.1 hn1
    have hv : ExV y (es.getD 0 []) := ExsV_get hes 0 (by simp)
    have he1 : es.length = 1 := hel
    have q1 := li_addr (k := 7) (es := es) (i := 0) (by omega) rfl (ExV_len hv)
    have q2 := li_load (k := 7) (es := es) (i := 0) (by omega) rfl (ExV_len hv) true 7 0 (by omega)
    have hw : wL [y] = y.w + 1 := by rw [wL_cons, wL_nil]
    have hoy := okL_iff.1 hL y (by simp)
    have hd := ih y.w (by omega) (by omega) y (Nat.le_refl _) hoy _ hv
    have hlen := textE_len y.w y (Nat.le_refl _) hoy
    have hl7 := ExV_len hv
    have z0 : ∀ h : 0 < es.length, (es[0]'h).length = 7 := fun h => by rw [← hl7, getD_eq _ _ _ h]
    generalize es.getD 0 [] = ev at *
    have htk2 : takeAt true 7 ev 0 = .agg ev := by simp [takeAt, List.take_of_length_le, hl7]
    rw [htk2] at q2
    rw [textsE_cons, textsE_nil, shapeT_one h21 h22]
    have hop := op_one (op := op) (by simpa using hl.symm)
    generalize textE y = ty at *
    rcases hop with rfl | rfl | rfl | rfl | rfl | rfl
    all_goals
     simp [-mwp_seq, -mwp_block, hg, he1]
     simp [hg, he1, q1, q2, z0]
     refine (hd _).use ?_
     rintro e S1 ⟨rfl, rfl⟩
     simp [hg, ht, aheadT, behindT]
     omega
   ·obtain ⟨y, z, rfl⟩ : ∃ y z, args = [y, z] := length_two hn1
    have hv : ExV y (es.getD 0 []) := ExsV_get hes 0 (by simp)
    have hvz : ExV z (es.getD 1 []) := ExsV_get hes 1 (by simp)
    have he1 : es.length = 2 := hel
    have q1 := li_addr (k := 7) (es := es) (i := 0) (by omega) rfl (ExV_len hv)
    have q2 := li_load (k := 7) (es := es) (i := 0) (by omega) rfl (ExV_len hv) true 7 0 (by omega)
    have p1 := li_addr (k := 7) (es := es) (i := 1) (by omega) rfl (ExV_len hvz)
    have p2 := li_load (k := 7) (es := es) (i := 1) (by omega) rfl (ExV_len hvz) true 7 0 (by omega)
    have hw : wL [y, z] = y.w + z.w + 2 := by rw [wL_cons, wL_cons, wL_nil]; omega
    have hoy := okL_iff.1 hL y (by simp)
    have hoz := okL_iff.1 hL z (by simp)
    have hd := ih y.w (by omega) (by omega) y (Nat.le_refl _) hoy _ hv
    have hdz := ih z.w (by omega) (by omega) z (Nat.le_refl _) hoz _ hvz
    have hlen := textE_len y.w y (Nat.le_refl _) hoy
    have hlenz := textE_len z.w z (Nat.le_refl _) hoz
    have hl7 := ExV_len hv
    have hl7z := ExV_len hvz
    have z0 : ∀ h : 0 < es.length, (es[0]'h).length = 7 := fun h => by rw [← hl7, getD_eq _ _ _ h]
    have z1 : ∀ h : 1 < es.length, (es[1]'h).length = 7 := fun h => by rw [← hl7z, getD_eq _ _ _ h]
    generalize es.getD 0 [] = ev at *
    generalize es.getD 1 [] = ez at *
    have htk2 : takeAt true 7 ev 0 = .agg ev := by simp [takeAt, List.take_of_length_le, hl7]
    have htk3 : takeAt true 7 ez 0 = .agg ez := by simp [takeAt, List.take_of_length_le, hl7z]
    rw [htk2] at q2
    rw [htk3] at p2
    rw [textsE_cons, textsE_cons, textsE_nil, shapeT_two h21 h22]
    have hop := op_two (op := op) (by simpa using hl.symm)
    generalize textE y = ty at *
    generalize textE z = tz at *
    rcases hop with rfl | rfl | rfl | rfl | rfl | rfl | rfl | rfl | rfl | rfl | rfl | rfl | rfl | rfl
    all_goals
     simp [-mwp_seq, -mwp_block, hg, he1]
     simp [hg, he1, q1, q2, p1, p2, z0, z1]
     refine (hd _).use ?_
     rintro e S1 ⟨rfl, rfl⟩
     simp [hg]
     refine ⟨by omega, by omega, by omega, by omega, ?_⟩
     refine (hdz _).use ?_
     rintro e S1 ⟨rfl, rfl⟩
     simp [hg, ht, signT]
     omega
end Go.Abs
namespace Go.Abs
open Go Go.RowKit Go.Proofs Go.Lx Go.Pz
variable {w0 : World}
theorem w29z {l : List Ex} {es : List (List AVal)} (hl : es.length = l.length) (fl : Fl) (S : Heap) : ACalls Tryz.prog (B0 w0) 29 [.list fl es, .nilS] S fun e S' => e = .ret (.bool l.isEmpty) ∧ S' = S := by
 refine fn_sound tryOrd (f29_c _) (by simp [f29]) ?_
 cases l with
 | nil =>
   have he : es = [] := List.eq_nil_of_length_eq_zero hl
   subst he
   simp [f29, f29m]
   refine mwp_loop (I := fun n a S' => n = 0 ∧ S' = S ∧ get a 0 = .list fl [] ∧ get a 5 = .int 0) (n := 0) ⟨rfl, rfl, by simp, by simp⟩ ?_
   rintro n a S' ⟨rfl, rfl, a0, a5⟩
   simp [f29b0, a0, a5]
 | cons x r =>
   have h0 : ((es.length : Int) != 0) = true := by simp only [bne_iff_ne, ne_eq]; simp at hl; omega
   simp [f29, f29m, h0]
set_option maxHeartbeats 2000000 in
theorem w28z {x : Ex} {ev : List AVal} (hv : ExV x ev) (S : Heap) : ACalls Tryz.prog (B0 w0) 28 [.agg ev, .agg zeroV] S fun e S' => e = .ret (.bool (zeroB x)) ∧ S' = S := by
 obtain ⟨op, args, kind, num, scale, text, qual⟩ := x
 rw [ExV_mk] at hv
 obtain ⟨fl, es, rfl, hes⟩ := hv
 have h29 := fun S => w29z (w0 := w0) (ExsV_len hes) fl S
 refine ACalls.close (R := fun e S' => e = .ret (.bool (zeroB (.mk op args kind num scale text qual))) ∧ S'.take S.length = S) ?_ ?_
 rotate_left 1
 ·rintro e S' ⟨rfl, ht⟩
  exact .flat ht rfl ⟨rfl, rfl⟩
 refine fn_sound tryOrd (f28_c _) (by simp [f28]) ?_
 by_cases h1 : op = 0
 rotate_left 1
 ·have b1 : (op != 0) = true := by simpa using h1
  simp [f28, f28m, zeroV, b1, zeroB, h1]
 by_cases h2 : kind = 0
 rotate_left 1
 ·have b2 : (kind != 0) = true := by simpa using h2
  simp [f28, f28m, zeroV, b2, zeroB, h1, h2]
 by_cases h3 : num = 0
 rotate_left 1
 ·have b3 : (num != 0) = true := by simpa using h3
  simp [f28, f28m, zeroV, b3, zeroB, h1, h2, h3]
 by_cases h4 : scale = 0
 rotate_left 1
 ·have b4 : (scale != 0) = true := by simpa using h4
  simp [f28, f28m, zeroV, b4, zeroB, h1, h2, h3, h4]
 by_cases h5 : text = []
 rotate_left 1
 ·simp [f28, f28m, zeroV, zeroB, h1, h2, h3, h4, h5]
 by_cases h6 : qual = []
 rotate_left 1
 ·simp [f28, f28m, zeroV, zeroB, h1, h2, h3, h4, h5, h6]
 simp [f28, f28m, zeroV, zeroB, h1, h2, h3, h4, h5, h6]
 refine (h29 _).use ?_
 rintro e S1 ⟨rfl, rfl⟩
 simp
theorem w110 {x : Ex} {ev : List AVal} (hv : ExV x ev) (S : Heap) : ACalls Tryz.prog (B0 w0) 110 [.agg ev] S fun e S' => e = .ret (.bool (zeroB x)) ∧ S' = S := by
 have h28 := fun S => w28z (w0 := w0) hv S
 obtain ⟨fl, es, k, n, s, t, q, rfl⟩ := ExV_cells hv
 refine ACalls.close (R := fun e S' => e = .ret (.bool (zeroB x)) ∧ S'.take S.length = S) ?_ ?_
 rotate_left 1
 ·rintro e S' ⟨rfl, ht⟩
  exact .flat ht rfl ⟨rfl, rfl⟩
 refine fn_sound tryOrd (f110_c _) (by simp [f110]) ?_
 simp [f110, f110m]
 refine (h28 _).use ?_
 rintro e S1 ⟨rfl, rfl⟩
 simp
theorem w111 {x : Ex} (hw : x.w ≤ 4000000) {ev : List AVal} (hv : ExV x ev) (S : Heap) : ACalls Tryz.prog (B0 w0) 111 [.agg ev] S fun e S' => e = .ret (.bool (perB x)) ∧ S' = S := by
 have h110 := fun S => w110 (w0 := w0) hv S
 have h68 := fun S => w68 (w0 := w0) 4000000 (by omega) x hw ev hv S
 obtain ⟨fl, es, k, n, s, t, q, rfl⟩ := ExV_cells hv
 refine ACalls.close (R := fun e S' => e = .ret (.bool (perB x)) ∧ S'.take S.length = S) ?_ ?_
 rotate_left 1
 ·rintro e S' ⟨rfl, ht⟩
  exact .flat ht rfl ⟨rfl, rfl⟩
 refine fn_sound tryOrd (f111_c _) (by simp [f111]) ?_
 simp [f111, f111m]
 refine (h110 _).use ?_
 rintro e S1 ⟨rfl, rfl⟩
 cases hz : zeroB x with
 | true => simp [perB, hz]
 | false =>
   simp
   refine (h68 _).use ?_
   rintro e S1 ⟨rfl, rfl⟩
   simp [perB, hz]
theorem w66 (x : Bs) (S : Heap) : ACalls Tryz.prog (B0 w0) 66 [.str x] S fun e S' => e = .ret (.bool (nameB x)) ∧ S' = S := by
 refine fn_sound tryOrd (f66_c _) (by simp [f66]) ?_
 simp [f66, f66m]
 refine (w107 x _).use ?_
 rintro e S1 ⟨rfl, rfl⟩
 simp
theorem w67 (n a b : Int) (S : Heap) : ACalls Tryz.prog (B0 w0) 67 [.int n, .int a, .int b] S fun e S' => e = .ret (.bool (decide (a ≤ n) && decide (n ≤ b))) ∧ S' = S := by
 refine fn_sound tryOrd (f67_c _) (by simp [f67]) ?_
 by_cases h : a ≤ n <;> simp [f67, f67m, h]
theorem w98 {s n : Bs} (hs : s.length ≤ 1000000000000000) (hn : n.length ≤ 1000000000000000) (S : Heap) : ACalls Tryz.prog (B0 w0) 98 [.str s, .str n] S fun e S' => e = .ret (.str (asT s n)) ∧ S' = S := by
 refine fn_sound tryOrd (f98_c _) (by simp [f98]) ?_
 by_cases h : n = []
 ·simp [f98, f98m, h, asT]
 ·simp [f98, f98m, h, asT]; omega
def comT (i : Nat) : Bs := if i = 0 then [] else [44, 32]
theorem w42 (i : Nat) (S : Heap) : ACalls Tryz.prog (B0 w0) 42 [.int i] S fun e S' => e = .ret (.str (comT i)) ∧ S' = S := by
 refine fn_sound tryOrd (f42_c _) (by simp [f42]) ?_
 by_cases h : i = 0
 ·have h' : ¬ 0 < i := by omega
  simp [f42, f42m, h, h', comT]
 ·have h' : 0 < i := by omega
  simp [f42, f42m, h, h', comT]
theorem w45 {x : Ex} (hp : perB x = true) (hw : x.w ≤ 4000000) {ev : List AVal} (hev : ExV x ev) (S : Heap) : ACalls Tryz.prog (B0 w0) 45 [.agg ev] S fun e S' => e = .ret (.str (whereT x)) ∧ S' = S := by
 have h37 := fun (ho : okE x = true) S => w43 (w0 := w0) 4000000 (by omega) x hw ho ev hev S
 obtain ⟨fl, es, k, n, s, t, q, rfl⟩ := ExV_cells hev
 refine ACalls.close (R := fun e S' => e = .ret (.str (whereT x)) ∧ S'.take S.length = S) ?_ ?_
 rotate_left 1
 ·rintro e S' ⟨rfl, ht⟩
  exact .flat ht rfl ⟨rfl, rfl⟩
 refine fn_sound tryOrd (f45_c _) (by simp [f45]) ?_
 by_cases h0 : opOf x = 0
 ·simp [f45, f45m, h0, whereT]
 ·have b0 : (opOf x == 0) = false := beq_eq_false_iff_ne.2 h0
  rw [perB_ok h0] at hp
  have hl := textE_le hp hw
  simp [f45, f45m, h0, b0, whereT]
  refine (h37 hp _).use ?_
  rintro e S1 ⟨rfl, rfl⟩
  simp
  omega
end Go.Abs
namespace Go.Abs
open Go Go.RowKit Go.Proofs Go.Lx Go.Pz
variable {w0 : World}
def RtI {α : Type} (b slot : Nat) (l : List α) (p : α → Bool) (H0 : Heap) (m : Nat) (a : Tmps) (S' : Heap) : Prop :=
 ∃ (i : Nat) (g : Heap), m = l.length - i ∧ i ≤ l.length ∧ S' = H0 ++ g ∧ get a 1 = .ptr b 0 0 ∧ get a slot = .int i ∧ (l.take i).all p = true
def RtQ (b : Nat) (H0 : Heap) (r : Bool) : AExit → Tmps → Heap → Prop
 | .normal, a, S' => (∃ g, S' = H0 ++ g) ∧ get a 1 = .ptr b 0 0 ∧ r = true
 | .ret, a, S' => (∃ g, S' = H0 ++ g) ∧ get a 2 = .bool false ∧ r = false
 | _, _, _ => False
def Fd (b f : Nat) (H0 : Heap) (v : AVal) : Prop := ∀ g : Heap, loadR false 1 (H0 ++ g) (.ptr b 0 f) = .ok true v (H0 ++ g)
variable {b : Nat} {H0 : Heap} {fl : Fl} {a : Tmps} {g0 : Heap} {G : Nat → AVal}
set_option maxHeartbeats 2000000 in
theorem lr_c {l : List Pz.Col} (hn : l.length ≤ 4000000) (hf : Fd b 3 H0 (.list fl (pcolsC l))) (b1 : get a 1 = .ptr b 0 0) (b5 : get a 5 = .int 0) : mwp (ACalls Tryz.prog (B0 w0)) (.block 0 (.loop (f21b0 G))) (RtQ b H0 (l.all colB)) a (H0 ++ g0) := by
 simp only [mwp_block]
 refine mwp_loop (I := RtI b 5 l colB H0) ⟨0, g0, rfl, Nat.zero_le _, rfl, b1, b5, by simp⟩ ?_
 clear b1 b5
 rintro m a S' ⟨i, g, rfl, hi, rfl, b1, b5, hall⟩
 have hfg := hf g
 by_cases hlt : i < l.length
 ·have hltI : (i : Int) < (l.length : Int) := by omega
  have hwr := wrapS i (by omega)
  have htk := all_take (p := colB) hlt
  have hmem := List.getElem_mem hlt
  have hg := pcols_get hlt
  have hle : i < (pcolsC l).length := by simpa [pcolsC] using hlt
  have q1 := li_addr (k := 3) (es := pcolsC l) hle hg rfl fl
  have q2 := li_load (k := 3) (es := pcolsC l) hle hg rfl false 1 0 (by omega)
  have q3 := li_load (k := 3) (es := pcolsC l) hle hg rfl false 1 1 (by omega)
  generalize l[i] = y at *
  have t2 : takeAt false 1 (pcolC y) 0 = .str y.name := by simp [pcolC, takeAt]
  have t3 : takeAt false 1 (pcolC y) 1 = .int y.type := by simp [pcolC, takeAt]
  rw [t2] at q2
  rw [t3] at q3
  rw [hall, Bool.true_and] at htk
  simp [f21b0, b1, b5, hfg, hltI, q1, q2]
  refine (w66 y.name _).use ?_
  rintro e S1 ⟨rfl, rfl⟩
  cases hb : nameB y.name with
  | false =>
    simp
    exact ⟨⟨_, rfl⟩, by simp, all_false hmem (by simp [colB, hb])⟩
  | true =>
    simp [b1, b5, hfg, q1, q3]
    refine (w67 y.type 1 4 _).use ?_
    rintro e S1 ⟨rfl, rfl⟩
    by_cases h4 : 1 ≤ y.type ∧ y.type ≤ 4
    ·simp [h4.1, h4.2, b1, b5, hwr]
     exact ⟨l.length - (i + 1), by omega, i + 1, _, rfl, by omega, rfl, by simp [b1], by simp, by rw [htk]; simp [colB, hb, h4.1, h4.2]⟩
    ·have h4' : (decide (1 ≤ y.type) && decide (y.type ≤ 4)) = false := by simpa using h4
     simp [h4']
     exact ⟨⟨_, rfl⟩, by simp, all_false hmem (by simp [colB, hb, h4', Bool.and_assoc])⟩
 ·have hie : i = l.length := by omega
  subst hie
  rw [List.take_length] at hall
  simp [f21b0, b1, b5, hfg]
  exact ⟨⟨g, rfl⟩, by simp [b1], hall⟩
set_option maxHeartbeats 2000000 in
theorem lr_n {l : List Bs} (hn : l.length ≤ 4000000) (hf : Fd b 4 H0 (.list fl (namesC l))) (b1 : get a 1 = .ptr b 0 0) (b5 : get a 6 = .int 0) : mwp (ACalls Tryz.prog (B0 w0)) (.block 2 (.loop (f21b1 G))) (RtQ b H0 (l.all nameB)) a (H0 ++ g0) := by
 simp only [mwp_block]
 refine mwp_loop (I := RtI b 6 l nameB H0) ⟨0, g0, rfl, Nat.zero_le _, rfl, b1, b5, by simp⟩ ?_
 clear b1 b5
 rintro m a S' ⟨i, g, rfl, hi, rfl, b1, b5, hall⟩
 have hfg := hf g
 by_cases hlt : i < l.length
 ·have hltI : (i : Int) < (l.length : Int) := by omega
  have hwr := wrapS i (by omega)
  have htk := all_take (p := nameB) hlt
  have hmem := List.getElem_mem hlt
  have hg := names_get hlt
  have hle : i < (namesC l).length := by simpa [namesC] using hlt
  have q1 := li_addr (k := 1) (es := namesC l) hle hg rfl fl
  have q2 := li_load (k := 1) (es := namesC l) hle hg rfl false 1 0 (by omega)
  generalize l[i] = y at *
  have t2 : takeAt false 1 [.str y] 0 = .str y := by simp [takeAt]
  rw [t2] at q2
  rw [hall, Bool.true_and] at htk
  simp [f21b1, b1, b5, hfg, hltI, q1, q2]
  refine (w66 y _).use ?_
  rintro e S1 ⟨rfl, rfl⟩
  cases hb : nameB y with
  | false =>
    simp
    exact ⟨⟨_, rfl⟩, by simp, all_false hmem (by simp [hb])⟩
  | true =>
    simp [b1, b5, hwr]
    exact ⟨l.length - (i + 1), by omega, i + 1, _, rfl, by omega, rfl, by simp [b1], by simp, by rw [htk]; simp [hb]⟩
 ·have hie : i = l.length := by omega
  subst hie
  rw [List.take_length] at hall
  simp [f21b1, b1, b5, hfg]
  exact ⟨⟨g, rfl⟩, by simp [b1], hall⟩
set_option maxHeartbeats 2000000 in
theorem lr_i {l : List Itm} {es : List (List AVal)} (hV : Al ItmV l es) (hn : l.length ≤ 4000000) (hw : ∀ x ∈ l, x.e.w ≤ 4000000) (hf : Fd b 7 H0 (.list fl es)) (b1 : get a 1 = .ptr b 0 0) (b5 : get a 3 = .int 0) : mwp (ACalls Tryz.prog (B0 w0)) (.block 0 (.loop (f69b0 G))) (RtQ b H0 (l.all (fun x => okE x.e && aliasB x.name))) a (H0 ++ g0) := by
 simp only [mwp_block]
 refine mwp_loop (I := RtI b 3 l (fun x => okE x.e && aliasB x.name) H0) ⟨0, g0, rfl, Nat.zero_le _, rfl, b1, b5, by simp⟩ ?_
 clear b1 b5
 rintro m a S' ⟨i, g, rfl, hi, rfl, b1, b5, hall⟩
 have hfg := hf g
 by_cases hlt : i < l.length
 ·have hltI : (i : Int) < (l.length : Int) := by omega
  have hwr := wrapS i (by omega)
  have htk := all_take (p := (fun x => okE x.e && aliasB x.name)) hlt
  have hmem := List.getElem_mem hlt
  obtain ⟨ev, hev, he⟩ := hV.2 i hlt
  have hle : i < es.length := by have := hV.1; omega
  have hwx := hw _ hmem
  have h68 := fun S => w68 (w0 := w0) 4000000 (by omega) l[i].e hwx ev hev S
  have q1 := li_addr (k := 8) (es := es) hle he (by simp [ExV_len hev]) fl
  have q2 := li_load (k := 8) (es := es) hle he (by simp [ExV_len hev]) true 7 0 (by omega)
  have q3 := li_load (k := 8) (es := es) hle he (by simp [ExV_len hev]) false 1 7 (by omega)
  generalize l[i] = y at *
  obtain ⟨fl', es', k', n', s', t', q', rfl⟩ := ExV_cells hev
  have t2 : takeAt true 7 ([.int (opOf y.e), .list fl' es', .int k', .int n', .int s', .str t', .str q'] ++ [.str y.name] : List AVal) 0 = .agg [.int (opOf y.e), .list fl' es', .int k', .int n', .int s', .str t', .str q'] := by simp [takeAt]
  have t3 : takeAt false 1 ([.int (opOf y.e), .list fl' es', .int k', .int n', .int s', .str t', .str q'] ++ [.str y.name] : List AVal) 7 = .str y.name := by simp [takeAt]
  rw [t2] at q2
  rw [t3] at q3
  rw [hall, Bool.true_and] at htk
  simp [f69b0, b1, b5, hfg, hV.1, hltI, q1, q2]
  refine (h68 _).use ?_
  rintro e S1 ⟨rfl, rfl⟩
  cases hb : okE y.e with
  | false =>
    simp
    exact ⟨⟨_, rfl⟩, by simp, all_false hmem (by simp [hb])⟩
  | true =>
    by_cases h0 : y.name = []
    ·rw [h0] at q3
     simp [b1, b5, hfg, q1, q3, hwr]
     exact ⟨l.length - (i + 1), by omega, i + 1, _, rfl, by omega, rfl, by simp [b1], by simp, by rw [htk]; simp [hb, aliasB, h0]⟩
    ·simp [b1, b5, hfg, q1, q3, h0]
     refine (w66 y.name _).use ?_
     rintro e S1 ⟨rfl, rfl⟩
     cases hb2 : nameB y.name with
     | false =>
       simp
       exact ⟨⟨_, rfl⟩, by simp, all_false hmem (by simp [hb, aliasB, h0, hb2])⟩
     | true =>
       simp [b1, b5, hwr]
       exact ⟨l.length - (i + 1), by omega, i + 1, _, rfl, by omega, rfl, by simp [b1], by simp, by rw [htk]; simp [hb, aliasB, hb2]⟩
 ·have hie : i = l.length := by omega
  subst hie
  rw [List.take_length] at hall
  simp [f69b0, b1, b5, hfg, hV.1]
  exact ⟨⟨g, rfl⟩, by simp [b1], hall⟩
set_option maxHeartbeats 2000000 in
theorem lr_o {l : List Srt} {es : List (List AVal)} (hV : Al SrtV l es) (hn : l.length ≤ 4000000) (hw : ∀ x ∈ l, x.e.w ≤ 4000000) (hf : Fd b 16 H0 (.list fl es)) (b1 : get a 1 = .ptr b 0 0) (b5 : get a 6 = .int 0) : mwp (ACalls Tryz.prog (B0 w0)) (.block 4 (.loop (f69b2 G))) (RtQ b H0 (l.all (fun x => okE x.e))) a (H0 ++ g0) := by
 simp only [mwp_block]
 refine mwp_loop (I := RtI b 6 l (fun x => okE x.e) H0) ⟨0, g0, rfl, Nat.zero_le _, rfl, b1, b5, by simp⟩ ?_
 clear b1 b5
 rintro m a S' ⟨i, g, rfl, hi, rfl, b1, b5, hall⟩
 have hfg := hf g
 by_cases hlt : i < l.length
 ·have hltI : (i : Int) < (l.length : Int) := by omega
  have hwr := wrapS i (by omega)
  have htk := all_take (p := (fun x => okE x.e)) hlt
  have hmem := List.getElem_mem hlt
  obtain ⟨ev, hev, he⟩ := hV.2 i hlt
  have hle : i < es.length := by have := hV.1; omega
  have hwx := hw _ hmem
  have h68 := fun S => w68 (w0 := w0) 4000000 (by omega) l[i].e hwx ev hev S
  have q1 := li_addr (k := 8) (es := es) hle he (by simp [ExV_len hev]) fl
  have q2 := li_load (k := 8) (es := es) hle he (by simp [ExV_len hev]) true 7 0 (by omega)
  have q3 := li_load (k := 8) (es := es) hle he (by simp [ExV_len hev]) false 1 7 (by omega)
  generalize l[i] = y at *
  obtain ⟨fl', es', k', n', s', t', q', rfl⟩ := ExV_cells hev
  have t2 : takeAt true 7 ([.int (opOf y.e), .list fl' es', .int k', .int n', .int s', .str t', .str q'] ++ [.bool y.desc] : List AVal) 0 = .agg [.int (opOf y.e), .list fl' es', .int k', .int n', .int s', .str t', .str q'] := by simp [takeAt]
  have t3 : takeAt false 1 ([.int (opOf y.e), .list fl' es', .int k', .int n', .int s', .str t', .str q'] ++ [.bool y.desc] : List AVal) 7 = .bool y.desc := by simp [takeAt]
  rw [t2] at q2
  rw [t3] at q3
  rw [hall, Bool.true_and] at htk
  simp [f69b2, b1, b5, hfg, hV.1, hltI, q1, q2]
  refine (h68 _).use ?_
  rintro e S1 ⟨rfl, rfl⟩
  cases hb : okE y.e with
  | false =>
    simp
    exact ⟨⟨_, rfl⟩, by simp, all_false hmem (by simp [hb])⟩
  | true =>
    simp [b1, b5, hwr]
    exact ⟨l.length - (i + 1), by omega, i + 1, _, rfl, by omega, rfl, by simp [b1], by simp, by rw [htk]; simp [hb]⟩
 ·have hie : i = l.length := by omega
  subst hie
  rw [List.take_length] at hall
  simp [f69b2, b1, b5, hfg, hV.1]
  exact ⟨⟨g, rfl⟩, by simp [b1], hall⟩
set_option maxHeartbeats 2000000 in
theorem lr_z {l : List Asn} {es : List (List AVal)} (hV : Al AsnV l es) (hn : l.length ≤ 4000000) (hw : ∀ x ∈ l, x.e.w ≤ 4000000) (hf : Fd b 17 H0 (.list fl es)) (b1 : get a 1 = .ptr b 0 0) (b5 : get a 3 = .int 0) : mwp (ACalls Tryz.prog (B0 w0)) (.block 0 (.loop (f70b0 G))) (RtQ b H0 (l.all (fun x => nameB x.col && okE x.e))) a (H0 ++ g0) := by
 simp only [mwp_block]
 refine mwp_loop (I := RtI b 3 l (fun x => nameB x.col && okE x.e) H0) ⟨0, g0, rfl, Nat.zero_le _, rfl, b1, b5, by simp⟩ ?_
 clear b1 b5
 rintro m a S' ⟨i, g, rfl, hi, rfl, b1, b5, hall⟩
 have hfg := hf g
 by_cases hlt : i < l.length
 ·have hltI : (i : Int) < (l.length : Int) := by omega
  have hwr := wrapS i (by omega)
  have htk := all_take (p := (fun x => nameB x.col && okE x.e)) hlt
  have hmem := List.getElem_mem hlt
  obtain ⟨ev, hev, he⟩ := hV.2 i hlt
  have hle : i < es.length := by have := hV.1; omega
  have hwx := hw _ hmem
  have h68 := fun S => w68 (w0 := w0) 4000000 (by omega) l[i].e hwx ev hev S
  have q1 := li_addr (k := 8) (es := es) hle he (by simp [ExV_len hev]) fl
  have q2 := li_load (k := 8) (es := es) hle he (by simp [ExV_len hev]) true 7 1 (by omega)
  have q3 := li_load (k := 8) (es := es) hle he (by simp [ExV_len hev]) false 1 0 (by omega)
  generalize l[i] = y at *
  obtain ⟨fl', es', k', n', s', t', q', rfl⟩ := ExV_cells hev
  have t2 : takeAt true 7 (.str y.col :: [.int (opOf y.e), .list fl' es', .int k', .int n', .int s', .str t', .str q'] : List AVal) 1 = .agg [.int (opOf y.e), .list fl' es', .int k', .int n', .int s', .str t', .str q'] := by simp [takeAt]
  have t3 : takeAt false 1 (.str y.col :: [.int (opOf y.e), .list fl' es', .int k', .int n', .int s', .str t', .str q'] : List AVal) 0 = .str y.col := by simp [takeAt]
  rw [t2] at q2
  rw [t3] at q3
  rw [hall, Bool.true_and] at htk
  simp [f70b0, b1, b5, hfg, hV.1, hltI, q1, q3]
  refine (w66 y.col _).use ?_
  rintro e S1 ⟨rfl, rfl⟩
  cases hb : nameB y.col with
  | false =>
    simp
    exact ⟨⟨_, rfl⟩, by simp, all_false hmem (by simp [hb])⟩
  | true =>
    simp [b1, b5, hfg, q1, q2]
    refine (h68 _).use ?_
    rintro e S1 ⟨rfl, rfl⟩
    cases hb2 : okE y.e with
    | false =>
      simp
      exact ⟨⟨_, rfl⟩, by simp, all_false hmem (by simp [hb, hb2])⟩
    | true =>
      simp [b1, b5, hwr]
      exact ⟨l.length - (i + 1), by omega, i + 1, _, rfl, by omega, rfl, by simp [b1], by simp, by rw [htk]; simp [hb, hb2]⟩
 ·have hie : i = l.length := by omega
  subst hie
  rw [List.take_length] at hall
  simp [f70b0, b1, b5, hfg, hV.1]
  exact ⟨⟨g, rfl⟩, by simp [b1], hall⟩
end Go.Abs
namespace Go.Abs
open Go Go.RowKit Go.Proofs Go.Lx Go.Pz
variable {w0 : World}
def RnI (b i : Nat) (l : List Ex) (H0 : Heap) (m : Nat) (a : Tmps) (S' : Heap) : Prop :=
 ∃ (j : Nat) (g : Heap), m = l.length - j ∧ j ≤ l.length ∧ S' = H0 ++ g ∧ get a 1 = .ptr b 0 0 ∧ get a 7 = .int i ∧ get a 8 = .int j ∧ okL (l.take j) = true
def RnQ (b i : Nat) (H0 : Heap) (r : Bool) : AExit → Tmps → Heap → Prop
 | .normal, a, S' => (∃ g, S' = H0 ++ g) ∧ get a 1 = .ptr b 0 0 ∧ get a 7 = .int i ∧ r = true
 | .ret, a, S' => (∃ g, S' = H0 ++ g) ∧ get a 2 = .bool false ∧ r = false
 | _, _, _ => False
variable {b : Nat} {H0 : Heap} {fl : Fl} {a : Tmps} {g0 : Heap} {G : Nat → AVal}
set_option maxHeartbeats 2000000 in
theorem lr_e {i : Nat} {l : List Ex} {eR es : List (List AVal)} {fl2 : Fl} (hv : ExsV l es) (hn : l.length ≤ 4000000) (hw : ∀ x ∈ l, x.w ≤ 4000000) (hf : Fd b 6 H0 (.list fl eR)) (p1 : ∀ S, iaddrR 1 S (.list fl eR) (.int i) = .ok true (.fptr eR i 0) S) (p2 : ∀ S, loadR false 1 S (.fptr eR i 0) = .ok true (.list fl2 es) S)
  (b1 : get a 1 = .ptr b 0 0) (b7 : get a 7 = .int i) (b8 : get a 8 = .int 0) : mwp (ACalls Tryz.prog (B0 w0)) (.block 6 (.loop (f21b2 G))) (RnQ b i H0 (okL l)) a (H0 ++ g0) := by
 have hel := ExsV_len hv
 simp only [mwp_block]
 refine mwp_loop (I := RnI b i l H0) ⟨0, g0, rfl, Nat.zero_le _, rfl, b1, b7, b8, by simp [okL_nil]⟩ ?_
 clear b1 b7 b8
 rintro m a S' ⟨j, g, rfl, hj, rfl, b1, b7, b8, hall⟩
 have hfg := hf g
 by_cases hlt : j < l.length
 ·have hltI : (j : Int) < (l.length : Int) := by omega
  have hwr := wrapS j (by omega)
  have htk := okL_take hlt
  have hmem := List.getElem_mem hlt
  have hev := ExsV_get hv j hlt
  have hle : j < es.length := by omega
  have h68 := fun S => w68 (w0 := w0) 4000000 (by omega) l[j] (hw _ hmem) _ hev S
  have q1 := li_addr (k := 7) (es := es) hle rfl (ExV_len hev) fl2
  have q2 := li_load (k := 7) (es := es) hle rfl (ExV_len hev) true 7 0 (by omega)
  have hl7 := ExV_len hev
  generalize es.getD j [] = ev at *
  have htk2 : takeAt true 7 ev 0 = .agg ev := by simp [takeAt, List.take_of_length_le, hl7]
  rw [htk2] at q2
  rw [hall, Bool.true_and] at htk
  generalize l[j] = y at *
  simp [f21b2, b1, b7, b8, hfg, p1, p2, hel, hltI, q1, q2]
  refine (h68 _).use ?_
  rintro e S1 ⟨rfl, rfl⟩
  cases hb : okE y with
  | false =>
    have hL : okL l = false := by
     cases hLL : okL l with
     | false => rfl
     | true => have := okL_iff.1 hLL y hmem; rw [hb] at this; cases this
    simp
    exact ⟨⟨_, rfl⟩, by simp, hL⟩
  | true =>
    simp [b1, b7, b8, hwr]
    exact ⟨l.length - (j + 1), by omega, j + 1, _, rfl, by omega, rfl, by simp [b1], by simp [b7], by simp, by rw [htk, hb]⟩
 ·have hie : j = l.length := by omega
  subst hie
  rw [List.take_length] at hall
  simp [f21b2, b1, b7, b8, hfg, p1, p2, hel]
  exact ⟨⟨g, rfl⟩, by simp [b1], by simp [b7], hall⟩
set_option maxHeartbeats 2000000 in
theorem lr_r {l : List (List Ex)} {es : List (List AVal)} (hV : Al RowV l es) (hn : l.length ≤ 4000000) (hln : ∀ r ∈ l, r.length ≤ 4000000) (hw : ∀ r ∈ l, ∀ x ∈ r, x.w ≤ 4000000) (hf : Fd b 6 H0 (.list fl es)) (b1 : get a 1 = .ptr b 0 0) (b5 : get a 7 = .int 0) :
  mwp (ACalls Tryz.prog (B0 w0)) (.block 4 (.loop (f21b3 G))) (RtQ b H0 (l.all rowB)) a (H0 ++ g0) := by
 simp only [mwp_block]
 refine mwp_loop (I := RtI b 7 l rowB H0) ⟨0, g0, rfl, Nat.zero_le _, rfl, b1, b5, by simp⟩ ?_
 clear b1 b5
 rintro m a S' ⟨i, g, rfl, hi, rfl, b1, b5, hall⟩
 have hfg := hf g
 by_cases hlt : i < l.length
 ·have hltI : (i : Int) < (l.length : Int) := by omega
  have hwr := wrapS i (by omega)
  have htk := all_take (p := rowB) hlt
  have hmem := List.getElem_mem hlt
  obtain ⟨fl2, es2, he, hv⟩ := hV.2 i hlt
  have hle : i < es.length := by have := hV.1; omega
  have hwx := hw _ hmem
  have hlx := hln _ hmem
  have q1 := li_addr (k := 1) (es := es) hle he rfl fl
  have q2 := li_load (k := 1) (es := es) hle he rfl false 1 0 (by omega)
  rw [show takeAt false 1 [AVal.list fl2 es2] 0 = .list fl2 es2 from rfl] at q2
  have hel := ExsV_len hv
  generalize l[i] = y at *
  rw [hall, Bool.true_and] at htk
  simp [-mwp_block, f21b3, b1, b5, hfg, hV.1, hltI, q1, q2, hel]
  rw [mwp_block, mwp_seq, mwp_seq]
  simp [-mwp_block, -mwp_seq, b1, b5, hfg, q1, q2, hel]
  refine (w67 y.length 1 50 _).use ?_
  rintro e S1 ⟨rfl, rfl⟩
  have hbt := count_between y.length 1 50
  by_cases h4 : (1 : Int) ≤ y.length ∧ (y.length : Int) ≤ 50
  ·have hb1 : between y.length 1 50 = true := by unfold between; simp; omega
   simp [-mwp_block, -mwp_seq, h4.1, h4.2]
   rw [mwp_seq]
   simp [-mwp_block, -mwp_seq, b1, b5]
   refine mwp_mono _ _ (fun _ _ _ _ _ hr h => h.mono hr) ?_ (lr_e (i := i) (eR := es) (fl2 := fl2) hv hlx hwx hf q1 q2 (by simp [b1]) (by simp [b5]) (by simp))
   intro e a2 S2 h
   cases e <;> first | exact h.elim | skip
   ·obtain ⟨⟨g2, rfl⟩, c1, c7, hL⟩ := h
    simp [c1, c7, hwr]
    exact ⟨l.length - (i + 1), by omega, i + 1, _, rfl, by omega, rfl, by simp [c1], by simp, by rw [htk, rowB, hb1, hL]; rfl⟩
   ·obtain ⟨⟨g2, rfl⟩, c2, hL⟩ := h
    simp
    exact ⟨⟨_, rfl⟩, by simp [c2], all_false hmem (by rw [rowB, hL, Bool.and_false])⟩
  ·have h4' : (decide ((1 : Int) ≤ y.length) && decide ((y.length : Int) ≤ 50)) = false := by simpa using h4
   have hb1 : between y.length 1 50 = false := by rw [← hbt]; simpa using h4
   simp [h4']
   exact ⟨⟨_, rfl⟩, by simp, all_false hmem (by rw [rowB, hb1, Bool.false_and])⟩
 ·have hie : i = l.length := by omega
  subst hie
  rw [List.take_length] at hall
  simp [f21b3, b1, b5, hfg, hV.1]
  exact ⟨⟨g, rfl⟩, by simp [b1], hall⟩
end Go.Abs
namespace Go.Abs
open Go Go.RowKit Go.Proofs Go.Lx Go.Pz
variable {w0 : World}
section
variable {b : Nat} {H0 : Heap} {fl : Fl} {a : Tmps} {g0 : Heap} {G : Nat → AVal}
def RsI (b : Nat) (l : List Src) (H0 : Heap) (m : Nat) (a : Tmps) (S' : Heap) : Prop :=
 ∃ (i : Nat) (g : Heap), m = l.length - i ∧ i ≤ l.length ∧ S' = H0 ++ g ∧ get a 1 = .ptr b 0 0 ∧ get a 4 = .int i ∧ ∀ j (h : j < l.length), j < i → srcG j l[j] = true
set_option maxHeartbeats 4000000 in
theorem lr_s {l : List Src} {es : List (List AVal)} (hV : Al SrcV l es) (hn : l.length ≤ 4000000) (hw : ∀ x ∈ l, x.on.w ≤ 4000000) (hf : Fd b 8 H0 (.list fl es)) (b1 : get a 1 = .ptr b 0 0) (b5 : get a 4 = .int 0) :
  mwp (ACalls Tryz.prog (B0 w0)) (.block 2 (.loop (f69b1 G))) (RtQ b H0 (srcB l)) a (H0 ++ g0) := by
 simp only [mwp_block]
 refine mwp_loop (I := RsI b l H0) ⟨0, g0, rfl, Nat.zero_le _, rfl, b1, b5, fun j _ h => absurd h (by omega)⟩ ?_
 clear b1 b5
 rintro m a S' ⟨i, g, rfl, hi, rfl, b1, b5, hall⟩
 have hfg := hf g
 by_cases hlt : i < l.length
 ·have hltI : (i : Int) < (l.length : Int) := by omega
  have hwr := wrapS i (by omega)
  have hmem := List.getElem_mem hlt
  obtain ⟨ev, hev, he⟩ := hV.2 i hlt
  have hle : i < es.length := by have := hV.1; omega
  have hwx := hw _ hmem
  have h68 := fun S => w68 (w0 := w0) 4000000 (by omega) l[i].on hwx ev hev S
  have h110 := fun S => w110 (w0 := w0) hev S
  have q1 := li_addr (k := 9) (es := es) hle he (by simp [ExV_len hev]) fl
  have q2 := li_load (k := 9) (es := es) hle he (by simp [ExV_len hev]) true 9 0 (by omega)
  have hbad := srcB_not hlt
  have hnext : srcG i l[i] = true → ∀ j (h : j < l.length), j < i + 1 → srcG j l[j] = true := fun hg j h hj => by
   rcases Nat.lt_or_ge j i with h' | h'
   ·exact hall j h h'
   ·have : j = i := by omega
    subst this; exact hg
  generalize l[i] = y at *
  obtain ⟨fl', es', k', n', s', t', q', rfl⟩ := ExV_cells hev
  have htk : ∀ c : List AVal, c.length = 9 → takeAt true 9 c 0 = .agg c := fun c hc => by simp [takeAt, List.take_of_length_le, hc]
  rw [htk _ rfl] at q2
  have hok : ∀ {c : Bool}, (c = true ↔ srcG i y = true) → True := fun _ => trivial
  by_cases hi0 : i = 0
  ·have bi : ((i : Int) == 0) = true := by simp [hi0]
   have ci : ¬ 0 < (i : Int) := by omega
   have cn : ¬ 0 < i := by omega
   simp [f69b1, b1, b5, hfg, hV.1, hltI, q1, q2]
   refine (w66 y.table _).use ?_
   rintro e S1 ⟨rfl, rfl⟩
   cases hn1 : nameB y.table with
   | false =>
     have hb := hbad (by simp [srcG, hn1])
     simp
     exact ⟨⟨_, rfl⟩, by simp, hb⟩
   | true =>
   by_cases h0 : y.alias = []
   ·simp [b1, b5, h0, bi, ci, cn]
    refine (h110 _).use ?_
    rintro e S1 ⟨rfl, rfl⟩
    cases hz : zeroB y.on with
    | false =>
      have hb := hbad (by simp [srcG, hi0, hz])
      simp
      exact ⟨⟨_, rfl⟩, by simp, hb⟩
    | true =>
      have hg := hnext (by simp [srcG, hn1, aliasB, h0, hi0, hz])
      simp [b1, b5, h0, bi, ci, cn, hwr]
      exact ⟨l.length - (i + 1), by omega, i + 1, _, rfl, by omega, rfl, by simp [b1], by simp, hg⟩
   ·simp [b1, b5, h0]
    refine (w66 y.alias _).use ?_
    rintro e S1 ⟨rfl, rfl⟩
    cases hn2 : nameB y.alias with
    | false =>
      have hb := hbad (by simp [srcG, aliasB, h0, hn2])
      simp
      exact ⟨⟨_, rfl⟩, by simp, hb⟩
    | true =>
      simp [b1, b5, bi, ci, cn]
      refine (h110 _).use ?_
      rintro e S1 ⟨rfl, rfl⟩
      cases hz : zeroB y.on with
      | false =>
        have hb := hbad (by simp [srcG, hi0, hz])
        simp
        exact ⟨⟨_, rfl⟩, by simp, hb⟩
      | true =>
        have hg := hnext (by simp [srcG, hn1, aliasB, hn2, hi0, hz])
        simp [b1, b5, bi, ci, cn, hwr]
        exact ⟨l.length - (i + 1), by omega, i + 1, _, rfl, by omega, rfl, by simp [b1], by simp, hg⟩
  ·have bi : ((i : Int) == 0) = false := beq_eq_false_iff_ne.2 (by omega)
   have ci : 0 < (i : Int) := by omega
   have cn : 0 < i := by omega
   simp [f69b1, b1, b5, hfg, hV.1, hltI, q1, q2]
   refine (w66 y.table _).use ?_
   rintro e S1 ⟨rfl, rfl⟩
   cases hn1 : nameB y.table with
   | false =>
     have hb := hbad (by simp [srcG, hn1])
     simp
     exact ⟨⟨_, rfl⟩, by simp, hb⟩
   | true =>
   by_cases h0 : y.alias = []
   ·simp [b1, b5, h0, bi, ci, cn]
    refine (h68 _).use ?_
    rintro e S1 ⟨rfl, rfl⟩
    cases hz : okE y.on with
    | false =>
      have hb := hbad (by simp [srcG, hi0, hz])
      simp
      exact ⟨⟨_, rfl⟩, by simp, hb⟩
    | true =>
      have hg := hnext (by simp [srcG, hn1, aliasB, h0, hi0, hz])
      simp [b1, b5, h0, bi, ci, cn, hwr]
      exact ⟨l.length - (i + 1), by omega, i + 1, _, rfl, by omega, rfl, by simp [b1], by simp, hg⟩
   ·simp [b1, b5, h0]
    refine (w66 y.alias _).use ?_
    rintro e S1 ⟨rfl, rfl⟩
    cases hn2 : nameB y.alias with
    | false =>
      have hb := hbad (by simp [srcG, aliasB, h0, hn2])
      simp
      exact ⟨⟨_, rfl⟩, by simp, hb⟩
    | true =>
      simp [b1, b5, bi, ci, cn]
      refine (h68 _).use ?_
      rintro e S1 ⟨rfl, rfl⟩
      cases hz : okE y.on with
      | false =>
        have hb := hbad (by simp [srcG, hi0, hz])
        simp
        exact ⟨⟨_, rfl⟩, by simp, hb⟩
      | true =>
        have hg := hnext (by simp [srcG, hn1, aliasB, hn2, hi0, hz])
        simp [b1, b5, bi, ci, cn, hwr]
        exact ⟨l.length - (i + 1), by omega, i + 1, _, rfl, by omega, rfl, by simp [b1], by simp, hg⟩
 ·have hie : i = l.length := by omega
  have hsb : srcB l = true := srcB_iff.2 fun j h => hall j h (by omega)
  subst hie
  simp [f69b1, b1, b5, hfg, hV.1]
  exact ⟨⟨g, rfl⟩, by simp [b1], hsb⟩
end
end Go.Abs
namespace Go.Abs
open Go Go.RowKit Go.Proofs Go.Lx Go.Pz
variable {w0 : World}
def queryB (st : Stm) : Bool := if st.kind = 6 then decide (st.items.length ≤ 50) && st.items.all (fun x => okE x.e && aliasB x.name) && between st.src.length 1 4 && srcB st.src && decide (st.order.length ≤ 50) && st.order.all (fun x => okE x.e) else st.items.isEmpty && st.src.isEmpty && st.order.isEmpty
def setsQ (st : Stm) : Bool := (if st.kind = 7 then between st.sets.length 1 50 && st.sets.all (fun x => nameB x.col && okE x.e) else st.sets.isEmpty) && (if st.kind = 6 ∨ st.kind = 7 ∨ st.kind = 8 then perB st.wher else zeroB st.wher)
theorem isEmpty_len {α : Type} (l : List α) : l.isEmpty = decide (l.length = 0) := by cases l <;> simp
set_option maxHeartbeats 8000000 in
theorem w69 {st : Stm} (hm : Sm st) {c : List AVal} (hc : StV st c) (S : Heap) : ACalls Tryz.prog (B0 w0) 69 [.agg c] S fun e S' => e = .ret (.bool (queryB st)) ∧ S' = S := by
 obtain ⟨fC, fN, fR, fI, fF, fO, fS, eR, eI, eF, ew, eO, eS, rfl, hw, hR, hI, hF, hO, hS⟩ := hc
 refine ACalls.close (R := fun e S' => e = .ret (.bool (queryB st)) ∧ S'.take S.length = S) ?_ ?_
 rotate_left 1
 ·rintro e S' ⟨rfl, ht⟩
  exact .flat ht rfl ⟨rfl, rfl⟩
 obtain ⟨fl', es', k', n', s', t', q', rfl⟩ := ExV_cells hw
 have l1 := hI.1; have l2 := hF.1; have l3 := hO.1
 have z1 := hm.items; have z2 := hm.src; have z3 := hm.order
 refine fn_sound tryOrd (f69_c _) (by simp [f69]) ?_
 rw [f69, f69m, mwp_seq]
 simp [-mwp_seq]
 obtain ⟨H, hH⟩ : ∃ H, H = S ++ [AObj.cells 18 [[AVal.int st.kind, .str st.table, .str st.index, .list fC (pcolsC st.cols), .list fN (namesC st.names), .bool st.uniq, .list fR eR, .list fI eI, .list fF eF, .int (opOf st.wher), .list fl' es', .int k', .int n', .int s', .str t', .str q', .list fO eO, .list fS eS]] (some 1)] := ⟨_, rfl⟩
 have hg : ∀ g : Heap, (H ++ g)[S.length]? = some (.cells 18 [[AVal.int st.kind, .str st.table, .str st.index, .list fC (pcolsC st.cols), .list fN (namesC st.names), .bool st.uniq, .list fR eR, .list fI eI, .list fF eF, .int (opOf st.wher), .list fl' es', .int k', .int n', .int s', .str t', .str q', .list fO eO, .list fS eS]] (some 1)) := fun g => by rw [hH]; simp
 have hg0 := hg []
 rw [List.append_nil] at hg0
 have ht : ∀ g : Heap, (H ++ g).take S.length = S := fun g => by rw [hH]; simp
 have ht0 := ht []
 rw [List.append_nil] at ht0
 have f7 : Fd S.length 7 H (.list fI eI) := fun g => by simp [hg g]
 have f8 : Fd S.length 8 H (.list fF eF) := fun g => by simp [hg g]
 have f16 : Fd S.length 16 H (.list fO eO) := fun g => by simp [hg g]
 rw [← hH]
 clear hH
 by_cases hk : st.kind = 6
 rotate_left 1
 ·have bk : (st.kind != 6) = true := by simpa using hk
  have w1 : IntKind.i64.wrap ((st.items.length : Int) + st.src.length) = ((st.items.length + st.src.length : Nat) : Int) := by rw [wrap64_in (by omega) (by omega)]; simp
  have w2 : IntKind.i64.wrap ((st.items.length : Int) + st.src.length + st.order.length) = ((st.items.length + st.src.length + st.order.length : Nat) : Int) := by rw [wrap64_in (by omega) (by omega)]; simp
  have e : (((st.items.length + st.src.length + st.order.length : Nat) : Int) == 0) = (st.items.isEmpty && st.src.isEmpty && st.order.isEmpty) := by
   rw [isEmpty_len, isEmpty_len, isEmpty_len, Bool.eq_iff_iff]
   simp only [beq_iff_eq, Bool.and_eq_true, decide_eq_true_eq]
   omega
  simp [hg0, bk, l1, l2, l3, w1]
  rw [w2, e]
  simp [ht0, queryB, hk]
 have bk : (st.kind != 6) = false := by simp [hk]
 rw [mwp_seq, mwp_seq]
 simp [-mwp_seq, -mwp_block, hg0, bk]
 rw [mwp_seq, mwp_seq]
 by_cases h1 : st.items.length ≤ 50
 rotate_left 1
 ·have h1' : (50 : Int) < (st.items.length : Int) := by omega
  simp [hg0, l1, l2, l3, h1', ht0, queryB, hk, h1]
 have h1' : ¬ (50 : Int) < (st.items.length : Int) := by omega
 simp [-mwp_seq, -mwp_block, hg0, l1, l2, l3, h1']
 refine (w67 st.src.length 1 4 _).use ?_
 rintro e S1 ⟨rfl, rfl⟩
 have hbt := count_between st.src.length 1 4
 by_cases h2 : (1 : Int) ≤ st.src.length ∧ (st.src.length : Int) ≤ 4
 rotate_left 1
 ·have h2' : (decide ((1 : Int) ≤ st.src.length) && decide ((st.src.length : Int) ≤ 4)) = false := by simpa using h2
  have hb : between st.src.length 1 4 = false := by rw [← hbt]; simpa using h2
  simp [h2', ht0, queryB, hk, hb]
 have hb : between st.src.length 1 4 = true := by unfold between; simp; omega
 by_cases h3 : st.order.length ≤ 50
 rotate_left 1
 ·have h3' : (50 : Int) < (st.order.length : Int) := by omega
  simp [h2.1, h2.2, hg0, l3, h3', ht0, queryB, hk, h3]
 have h3' : ¬ (50 : Int) < (st.order.length : Int) := by omega
 simp [-mwp_seq, -mwp_block, h2.1, h2.2, hg0, l3, h3']
 have hq : queryB st = (st.items.all (fun x => okE x.e && aliasB x.name) && srcB st.src && st.order.all (fun x => okE x.e)) := by
  simp [queryB, hk, h1, h3, hb]
 rw [hq]
 rw [mwp_seq, mwp_seq]
 simp [-mwp_seq, -mwp_block]
 refine mwp_mono _ _ (fun _ _ _ _ _ hr h => h.mono hr) ?_ (by simpa using lr_i (w0 := w0) (g0 := []) hI hm.items (fun x hx => (hm.w _ (mem_items hx)).1) f7 (by simp) (by simp))
 intro e a S2 h
 cases e <;> first | exact h.elim | skip
 rotate_left 1
 ·obtain ⟨⟨g, rfl⟩, b2, hr⟩ := h
  simp [b2, ht, hr]
 obtain ⟨⟨g, rfl⟩, b1, hr⟩ := h
 rw [hr, Bool.true_and]
 simp only [afterX_normal]
 rw [mwp_seq, mwp_seq]
 simp [-mwp_seq, -mwp_block, b1]
 refine mwp_mono _ _ (fun _ _ _ _ _ hr h => h.mono hr) ?_ (lr_s (w0 := w0) (g0 := g) hF hm.src (fun x hx => (hm.w _ (mem_src hx)).1) f8 (by simp [b1]) (by simp))
 intro e a S2 h
 cases e <;> first | exact h.elim | skip
 rotate_left 1
 ·obtain ⟨⟨g, rfl⟩, b2, hr2⟩ := h
  simp [b2, ht, hr2]
 obtain ⟨⟨g2, rfl⟩, b1, hr2⟩ := h
 rw [hr2, Bool.true_and]
 simp only [afterX_normal]
 rw [mwp_seq, mwp_seq]
 simp [-mwp_seq, -mwp_block, b1]
 refine mwp_mono _ _ (fun _ _ _ _ _ hr h => h.mono hr) ?_ (lr_o (w0 := w0) (g0 := g2) hO hm.order (fun x hx => (hm.w _ (mem_order hx)).1) f16 (by simp [b1]) (by simp))
 intro e a S2 h
 cases e <;> first | exact h.elim | skip
 rotate_left 1
 ·obtain ⟨⟨g, rfl⟩, b2, hr3⟩ := h
  simp [b2, ht, hr3]
 obtain ⟨⟨g3, rfl⟩, b1, hr3⟩ := h
 simp [ht, hr3]
set_option maxHeartbeats 8000000 in
theorem w70 {st : Stm} (hm : Sm st) {c : List AVal} (hc : StV st c) (S : Heap) : ACalls Tryz.prog (B0 w0) 70 [.agg c] S fun e S' => e = .ret (.bool (setsQ st)) ∧ S' = S := by
 obtain ⟨fC, fN, fR, fI, fF, fO, fS, eR, eI, eF, ew, eO, eS, rfl, hw, hR, hI, hF, hO, hS⟩ := hc
 refine ACalls.close (R := fun e S' => e = .ret (.bool (setsQ st)) ∧ S'.take S.length = S) ?_ ?_
 rotate_left 1
 ·rintro e S' ⟨rfl, ht⟩
  exact .flat ht rfl ⟨rfl, rfl⟩
 have h110 := fun S => w110 (w0 := w0) hw S
 have h111 := fun S => w111 (w0 := w0) (hm.w _ mem_wher).1 hw S
 obtain ⟨fl', es', k', n', s', t', q', rfl⟩ := ExV_cells hw
 have l1 := hS.1
 have z1 := hm.sets
 refine fn_sound tryOrd (f70_c _) (by simp [f70]) ?_
 rw [f70, f70m, mwp_seq]
 simp [-mwp_seq]
 obtain ⟨H, hH⟩ : ∃ H, H = S ++ [AObj.cells 18 [[AVal.int st.kind, .str st.table, .str st.index, .list fC (pcolsC st.cols), .list fN (namesC st.names), .bool st.uniq, .list fR eR, .list fI eI, .list fF eF, .int (opOf st.wher), .list fl' es', .int k', .int n', .int s', .str t', .str q', .list fO eO, .list fS eS]] (some 1)] := ⟨_, rfl⟩
 have hg : ∀ g : Heap, (H ++ g)[S.length]? = some (.cells 18 [[AVal.int st.kind, .str st.table, .str st.index, .list fC (pcolsC st.cols), .list fN (namesC st.names), .bool st.uniq, .list fR eR, .list fI eI, .list fF eF, .int (opOf st.wher), .list fl' es', .int k', .int n', .int s', .str t', .str q', .list fO eO, .list fS eS]] (some 1)) := fun g => by rw [hH]; simp
 have hg0 := hg []
 rw [List.append_nil] at hg0
 have ht : ∀ g : Heap, (H ++ g).take S.length = S := fun g => by rw [hH]; simp
 have ht0 := ht []
 rw [List.append_nil] at ht0
 have f17 : Fd S.length 17 H (.list fS eS) := fun g => by simp [hg g]
 rw [← hH]
 clear hH
 have hrest : ∀ (a : Tmps) (g : Heap), get a 1 = .ptr S.length 0 0 → (if st.kind = 7 then between st.sets.length 1 50 && st.sets.all (fun x => nameB x.col && okE x.e) else st.sets.isEmpty) = true →
   mwp (ACalls Tryz.prog (B0 w0)) (.seq (.seq (.ops [iO 50 (.faddr 0 1), iO 51 (.load false 1 50), iO 52 (.bin .lss .int 51 (aI 6)), iO 53 (.mv 52), iG 54 53 false (.faddr 0 1), iG 55 53 false (.load false 1 54), iG 56 53 false (.bin .gtr .int 55 (aI 8)), iO 57 (.pick 53 (.val (.bool true)) 56)])
    (.cond 57 (.seq (.ops [iO 58 (.faddr 9 1), iO 59 (.load true 7 58), iC 60 110 [59], iO 2 (.mv 60)]) (.ret)) (.skip)))
    (.seq (.ops [iO 61 (.faddr 9 1), iO 62 (.load true 7 61), iC 63 111 [62], iO 2 (.mv 63)]) (.ret))) (fun e a S' => e = .ret ∧ get a 2 = .bool (setsQ st) ∧ S'.take S.length = S) a (H ++ g) := by
  intro a g b1 hb
  have hgg := hg g
  have hs : setsQ st = (if st.kind = 6 ∨ st.kind = 7 ∨ st.kind = 8 then perB st.wher else zeroB st.wher) := by rw [setsQ, hb, Bool.true_and]
  rw [hs]
  by_cases k1 : st.kind < 6
  ·rw [if_neg (by omega)]
   simp [b1, hgg, k1]
   refine (h110 _).use ?_
   rintro e S1 ⟨rfl, rfl⟩
   simp [ht]
  by_cases k2 : 8 < st.kind
  ·rw [if_neg (by omega)]
   simp [b1, hgg, k1, k2]
   refine (h110 _).use ?_
   rintro e S1 ⟨rfl, rfl⟩
   simp [ht]
  rw [if_pos (by omega)]
  simp [b1, hgg, k1, k2]
  refine (h111 _).use ?_
  rintro e S1 ⟨rfl, rfl⟩
  simp [ht]
 have hgo : ∀ (a : Tmps), get a 1 = .ptr S.length 0 0 → ((st.kind = 7 ∧ between st.sets.length 1 50 = true) ∨ (st.kind ≠ 7 ∧ st.sets = [])) →
   mwp (ACalls Tryz.prog (B0 w0)) (.seq (.seq (.ops [iO 3 (.mv (aI 0))]) (.block 0 (.loop (f70b0 (fun _ => .top)))))
    (.seq (.seq (.ops [iO 50 (.faddr 0 1), iO 51 (.load false 1 50), iO 52 (.bin .lss .int 51 (aI 6)), iO 53 (.mv 52), iG 54 53 false (.faddr 0 1), iG 55 53 false (.load false 1 54), iG 56 53 false (.bin .gtr .int 55 (aI 8)), iO 57 (.pick 53 (.val (.bool true)) 56)])
     (.cond 57 (.seq (.ops [iO 58 (.faddr 9 1), iO 59 (.load true 7 58), iC 60 110 [59], iO 2 (.mv 60)]) (.ret)) (.skip)))
     (.seq (.ops [iO 61 (.faddr 9 1), iO 62 (.load true 7 61), iC 63 111 [62], iO 2 (.mv 63)]) (.ret)))) (fun e a S' => e = .ret ∧ get a 2 = .bool (setsQ st) ∧ S'.take S.length = S) a H := by
  intro a b1 hkd
  rw [mwp_seq, mwp_seq]
  simp [-mwp_seq, -mwp_block, b1]
  refine mwp_mono _ _ (fun _ _ _ _ _ hr h => h.mono hr) ?_ (by simpa using lr_z (w0 := w0) (g0 := []) (a := (3, .int 0) :: a) hS hm.sets (fun x hx => (hm.w _ (mem_sets hx)).1) f17 (by simp [b1]) (by simp))
  intro e a S2 h
  cases e <;> first | exact h.elim | skip
  ·obtain ⟨⟨g, rfl⟩, b1, hr⟩ := h
   simp only [afterX_normal]
   refine hrest a g b1 ?_
   rcases hkd with ⟨h1, h2⟩ | ⟨h1, h2⟩
   ·rw [if_pos h1, h2, hr]; rfl
   ·rw [if_neg h1, h2]; rfl
  ·obtain ⟨⟨g, rfl⟩, b2, hr⟩ := h
   have hs : setsQ st = false := by
    rcases hkd with ⟨h1, h2⟩ | ⟨h1, h2⟩
    ·rw [setsQ, if_pos h1, hr]; simp
    ·rw [h2] at hr; cases hr
   simp [b2, ht, hs]
 rw [mwp_seq, mwp_seq]
 by_cases hk : st.kind = 7
 ·have bk : (st.kind == 7) = true := by simp [hk]
  have bk2 : (st.kind != 7) = false := by simp [hk]
  simp [-mwp_seq, -mwp_block, hg0, bk, l1]
  refine (w67 st.sets.length 1 50 _).use ?_
  rintro e S1 ⟨rfl, rfl⟩
  have hbt := count_between st.sets.length 1 50
  by_cases h2 : (1 : Int) ≤ st.sets.length ∧ (st.sets.length : Int) ≤ 50
  ·have hb : between st.sets.length 1 50 = true := by unfold between; simp; omega
   simp [-mwp_seq, -mwp_block, hg0, h2.1, h2.2, bk2]
   refine mwp_mono _ _ (fun _ _ _ _ _ hr h => h.mono hr) ?_ (hgo _ (by simp) (.inl ⟨hk, hb⟩))
   rintro e a S2 ⟨rfl, h1, h2⟩
   simp [h1, h2]
  ·have h2' : (decide ((1 : Int) ≤ st.sets.length) && decide ((st.sets.length : Int) ≤ 50)) = false := by simpa using h2
   have hb : between st.sets.length 1 50 = false := by rw [← hbt]; simpa using h2
   simp [h2', ht0, setsQ, hk, hb]
 ·have bk : (st.kind == 7) = false := by simp [hk]
  have bk2 : (st.kind != 7) = true := by simp [hk]
  by_cases h0 : st.sets = []
  ·have l1' : eS.length = 0 := by rw [l1, h0]; rfl
   simp [-mwp_seq, -mwp_block, hg0, bk, bk2, l1']
   refine mwp_mono _ _ (fun _ _ _ _ _ hr h => h.mono hr) ?_ (hgo _ (by simp) (.inr ⟨hk, h0⟩))
   rintro e a S2 ⟨rfl, h1, h2⟩
   simp [h1, h2]
  ·have l1' : 0 < eS.length := by rw [l1]; exact List.length_pos_iff.2 h0
   have l1i : (0 : Int) < (eS.length : Int) := by omega
   have hs : setsQ st = false := by rw [setsQ, if_neg hk, isEmpty_len]; simp [h0]
   simp [hg0, bk, bk2, l1', l1i, ht0, hs]
end Go.Abs
namespace Go.Abs
open Go Go.RowKit Go.Proofs Go.Lx Go.Pz
variable {w0 : World}
def f21t12 : MC :=
 .seq (.ops [iO 205 (.load true 18 1), iC 206 69 [205], iO 207 (.mv 206), iG 208 207 true (.load true 18 1), ⟨some 209, some (207, true), .call 70 [208]⟩, iO 210 (.pick 207 209 (.val (.bool false))), iO 2 (.mv 210)])
 (.ret)
def f21t11 : MC :=
 .seq (.seq (.ops [iO 7 (.mv (aI 0))])
 (.block 4
 (.loop (f21b3 fun _ => .top))))
 f21t12
def f21t10 : MC :=
 .seq (.seq (.ops [iO 149 (.faddr 0 1), iO 150 (.load false 1 149), iO 151 (.bin .eql .int 150 (aI 5)), iO 152 (.mv 151), iG 153 152 true (.faddr 6 1), iG 154 152 true (.load false 1 153), iG 155 152 true (.lenS 154), ⟨some 156, some (152, true), .call 67 [155, (aI 1), (aI 50)]⟩, iG 157 152 true (.un .not 156), iO 158 (.pick 152 157 (.val (.bool false))), iO 159 (.mv 158), iG 160 159 false (.faddr 0 1), iG 161 159 false (.load false 1 160), iG 162 159 false (.bin .neq .int 161 (aI 5)), iG 163 159 false (.mv 162), iG 164 163 true (.faddr 6 1), iG 165 163 true (.load false 1 164), iG 166 163 true (.lenS 165), iG 167 163 true (.bin .gtr .int 166 (aI 0)), iG 168 159 false (.pick 163 167 (.val (.bool false))), iO 169 (.pick 159 (.val (.bool true)) 168)])
 (.cond 169
 (.seq (.ops [iO 2 (.mv (.val (.bool false)))])
 (.ret))
 (.skip)))
 f21t11
def f21t9 : MC :=
 .seq (.seq (.ops [iO 6 (.mv (aI 0))])
 (.block 2
 (.loop (f21b1 fun _ => .top))))
 f21t10
def f21t8 : MC :=
 .seq (.seq (.ops [iO 110 (.faddr 0 1), iO 111 (.load false 1 110), iO 112 (.bin .eql .int 111 (aI 3)), iO 113 (.mv 112), iG 114 113 true (.faddr 4 1), iG 115 113 true (.load false 1 114), iG 116 113 true (.lenS 115), ⟨some 117, some (113, true), .call 67 [116, (aI 1), (aI 4)]⟩, iG 118 113 true (.un .not 117), iO 119 (.pick 113 118 (.val (.bool false))), iO 120 (.mv 119), iG 121 120 false (.faddr 0 1), iG 122 120 false (.load false 1 121), iG 123 120 false (.bin .neq .int 122 (aI 3)), iG 124 120 false (.mv 123), iG 125 124 true (.faddr 4 1), iG 126 124 true (.load false 1 125), iG 127 124 true (.lenS 126), iG 128 124 true (.bin .gtr .int 127 (aI 0)), iG 129 124 true (.mv 128), iG 130 129 false (.faddr 5 1), iG 131 129 false (.load false 1 130), iG 132 124 true (.pick 129 (.val (.bool true)) 131), iG 133 120 false (.pick 124 132 (.val (.bool false))), iO 134 (.pick 120 (.val (.bool true)) 133)])
 (.cond 134
 (.seq (.ops [iO 2 (.mv (.val (.bool false)))])
 (.ret))
 (.skip)))
 f21t9
def f21t7 : MC :=
 .seq (.seq (.ops [iO 5 (.mv (aI 0))])
 (.block 0
 (.loop (f21b0 fun _ => .top))))
 f21t8
def f21t6 : MC :=
 .seq (.seq (.ops [iO 64 (.faddr 0 1), iO 65 (.load false 1 64), iO 66 (.bin .eql .int 65 (aI 1)), iO 67 (.mv 66), iG 68 67 true (.faddr 3 1), iG 69 67 true (.load false 1 68), iG 70 67 true (.lenS 69), ⟨some 71, some (67, true), .call 67 [70, (aI 1), (aI 16)]⟩, iG 72 67 true (.un .not 71), iO 73 (.pick 67 72 (.val (.bool false))), iO 74 (.mv 73), iG 75 74 false (.faddr 0 1), iG 76 74 false (.load false 1 75), iG 77 74 false (.bin .neq .int 76 (aI 1)), iG 78 74 false (.mv 77), iG 79 78 true (.faddr 3 1), iG 80 78 true (.load false 1 79), iG 81 78 true (.lenS 80), iG 82 78 true (.bin .gtr .int 81 (aI 0)), iG 83 74 false (.pick 78 82 (.val (.bool false))), iO 84 (.pick 74 (.val (.bool true)) 83)])
 (.cond 84
 (.seq (.ops [iO 2 (.mv (.val (.bool false)))])
 (.ret))
 (.skip)))
 f21t7
def f21t5 : MC :=
 .seq (.seq (.ops [iO 48 (.mv 4), iO 49 (.mv 48), iG 50 49 true (.faddr 2 1), iG 51 49 true (.load false 1 50), ⟨some 52, some (49, true), .call 66 [51]⟩, iG 53 49 true (.un .not 52), iO 54 (.pick 49 53 (.val (.bool false))), iO 55 (.mv 54), iG 56 55 false (.mv 4), iG 57 55 false (.un .not 56), iG 58 55 false (.mv 57), iG 59 58 true (.faddr 2 1), iG 60 58 true (.load false 1 59), iG 61 58 true (.bin .neq .str 60 (aS [])), iG 62 55 false (.pick 58 61 (.val (.bool false))), iO 63 (.pick 55 (.val (.bool true)) 62)])
 (.cond 63
 (.seq (.ops [iO 2 (.mv (.val (.bool false)))])
 (.ret))
 (.skip)))
 f21t6
def f21t4 : MC :=
 .seq (.ops [iO 40 (.faddr 0 1), iO 41 (.load false 1 40), iO 42 (.bin .eql .int 41 (aI 3)), iO 43 (.mv 42), iG 44 43 false (.faddr 0 1), iG 45 43 false (.load false 1 44), iG 46 43 false (.bin .eql .int 45 (aI 4)), iO 47 (.pick 43 (.val (.bool true)) 46), iO 4 (.mv 47)])
 f21t5
def f21t3 : MC :=
 .seq (.seq (.ops [iO 18 (.faddr 0 1), iO 19 (.load false 1 18), iO 20 (.iaddrA 12 1 3 19), iO 21 (.load false 1 20), iO 22 (.mv 21), iG 23 22 true (.faddr 1 1), iG 24 22 true (.load false 1 23), ⟨some 25, some (22, true), .call 66 [24]⟩, iG 26 22 true (.un .not 25), iO 27 (.pick 22 26 (.val (.bool false))), iO 28 (.mv 27), iG 29 28 false (.faddr 0 1), iG 30 28 false (.load false 1 29), iG 31 28 false (.iaddrA 12 1 3 30), iG 32 28 false (.load false 1 31), iG 33 28 false (.un .not 32), iG 34 28 false (.mv 33), iG 35 34 true (.faddr 1 1), iG 36 34 true (.load false 1 35), iG 37 34 true (.bin .neq .str 36 (aS [])), iG 38 28 false (.pick 34 37 (.val (.bool false))), iO 39 (.pick 28 (.val (.bool true)) 38)])
 (.cond 39
 (.seq (.ops [iO 2 (.mv (.val (.bool false)))])
 (.ret))
 (.skip)))
 f21t4
def f21t2 : MC :=
 .seq (.ops [iO 17 (.build [.bool false, .bool false, .bool false, .bool false, .bool false, .bool false, .bool false, .bool false, .bool false, .bool false, .bool false, .bool false] [(false, 0, 1, (.val (.bool false))), (false, 1, 1, (.val (.bool true))), (false, 2, 1, (.val (.bool true))), (false, 3, 1, (.val (.bool true))), (false, 4, 1, (.val (.bool false))), (false, 5, 1, (.val (.bool true))), (false, 6, 1, (.val (.bool false))), (false, 7, 1, (.val (.bool true))), (false, 8, 1, (.val (.bool true))), (false, 9, 1, (.val (.bool false))), (false, 10, 1, (.val (.bool false))), (false, 11, 1, (.val (.bool false)))]), iO 3 (.alloc 12 [.bool false, .bool false, .bool false, .bool false, .bool false, .bool false, .bool false, .bool false, .bool false, .bool false, .bool false, .bool false]), iZ (.store true 12 3 17)])
 f21t3
def f21t1 : MC :=
 .seq (.ops [iO 1 (.box true 18 0), iO 2 (.mv (.val (.bool false)))])
 (.seq (.seq (.ops [iO 9 (.faddr 0 1), iO 10 (.load false 1 9), iO 11 (.bin .lss .int 10 (aI 1)), iO 12 (.mv 11), iG 13 12 false (.faddr 0 1), iG 14 12 false (.load false 1 13), iG 15 12 false (.bin .gtr .int 14 (aI 11)), iO 16 (.pick 12 (.val (.bool true)) 15)])
 (.cond 16
 (.seq (.ops [iO 2 (.mv (.val (.bool false)))])
 (.ret))
 (.skip)))
 f21t2)
theorem f21m_eq : f21m (fun _ => .top) = f21t1 := rfl
structure Bxs (S H : Heap) (st : Stm) : Prop where
 f0 : Fd S.length 0 H (.int st.kind)
 f1 : Fd S.length 1 H (.str st.table)
 f2 : Fd S.length 2 H (.str st.index)
 f3 : ∃ fl, Fd S.length 3 H (.list fl (pcolsC st.cols))
 f4 : ∃ fl, Fd S.length 4 H (.list fl (namesC st.names))
 f5 : Fd S.length 5 H (.bool st.uniq)
 f6 : ∃ fl eR, Al RowV st.rows eR ∧ Fd S.length 6 H (.list fl eR)
 full : ∃ c, StV st c ∧ ∀ g : Heap, loadR true 18 (H ++ g) (.ptr S.length 0 0) = .ok true (.agg c) (H ++ g)
 take : ∀ g : Heap, (H ++ g).take S.length = S
def RtP (S : Heap) (r : Bool) : AExit → Tmps → Heap → Prop := fun e a S' => e = .ret ∧ get a 2 = .bool r ∧ S'.take S.length = S
def rB' (st : Stm) : Bool := if st.kind = 5 then between st.rows.length 1 50 && st.rows.all rowB else st.rows.isEmpty
def nB' (st : Stm) : Bool := if st.kind = 3 then between st.names.length 1 4 && st.names.all nameB else st.names.isEmpty && !st.uniq
def cB' (st : Stm) : Bool := if st.kind = 1 then between st.cols.length 1 16 && st.cols.all colB else st.cols.isEmpty
def iB' (st : Stm) : Bool := if indexU st.kind then nameB st.index else decide (st.index = [])
def tB' (st : Stm) : Bool := if tableU st.kind then nameB st.table else decide (st.table = [])
theorem okS_parts (st : Stm) : okS st = (kindB st.kind && (tB' st && (iB' st && (cB' st && (nB' st && (rB' st && (queryB st && setsQ st))))))) := by
 have e : rowB = fun r => between r.length 1 50 && okL r := rfl
 rw [okS, kindB, tB', iB', cB', nB', rB', queryB, setsQ, e]
 simp only [Bool.and_assoc]
section
variable {S H : Heap} {st : Stm} (hB : Bxs S H st) {a : Tmps} {g : Heap}
include hB
set_option maxHeartbeats 4000000 in
theorem r21t10 {r : Bool} (b1 : get a 1 = .ptr S.length 0 0) (hk : ∀ (a : Tmps) (g : Heap), get a 1 = .ptr S.length 0 0 → mwp (ACalls Tryz.prog (B0 w0)) f21t11 (RtP S (st.rows.all rowB && r)) a (H ++ g)) : mwp (ACalls Tryz.prog (B0 w0)) f21t10 (RtP S (rB' st && r)) a (H ++ g) := by
 obtain ⟨fl, eR, hR, hf⟩ := hB.f6
 have l1 := hR.1
 have h0g := hB.f0 g
 have hfg := hf g
 unfold f21t10
 rw [mwp_seq, mwp_seq]
 by_cases k1 : st.kind = 5
 ·have bk : (st.kind == 5) = true := by simp [k1]
  have bk2 : (st.kind != 5) = false := by simp [k1]
  simp [-mwp_seq, b1, h0g, hfg, bk, bk2, l1]
  refine (w67 st.rows.length 1 50 _).use ?_
  rintro e S1 ⟨rfl, rfl⟩
  have hbt := count_between st.rows.length 1 50
  by_cases h2 : (1 : Int) ≤ st.rows.length ∧ (st.rows.length : Int) ≤ 50
  ·have hb : between st.rows.length 1 50 = true := by unfold between; simp; omega
   have e1 : rB' st = st.rows.all rowB := by rw [rB', if_pos k1, hb, Bool.true_and]
   simp [-mwp_seq, b1, h0g, hfg, h2.1, h2.2, bk, bk2]
   rw [e1]
   exact hk _ g (by simp [b1])
  ·have h2' : (decide ((1 : Int) ≤ st.rows.length) && decide ((st.rows.length : Int) ≤ 50)) = false := by simpa using h2
   have hb : between st.rows.length 1 50 = false := by rw [← hbt]; simpa using h2
   have e1 : rB' st = false := by rw [rB', if_pos k1, hb, Bool.false_and]
   simp [h2', RtP, hB.take, e1]
 ·have bk : (st.kind == 5) = false := by simp [k1]
  have bk2 : (st.kind != 5) = true := by simp [k1]
  by_cases h0 : st.rows = []
  ·have l1' : eR.length = 0 := by rw [l1, h0]; rfl
   have e1 : rB' st = st.rows.all rowB := by rw [rB', if_neg k1, h0]; rfl
   simp [-mwp_seq, b1, h0g, hfg, bk, bk2, l1']
   rw [e1]
   exact hk _ g (by simp [b1])
  ·have l1' : 0 < eR.length := by rw [l1]; exact List.length_pos_iff.2 h0
   have e1 : rB' st = false := by rw [rB', if_neg k1, isEmpty_len]; simp [h0]
   simp [b1, h0g, hfg, bk, bk2, l1', RtP, hB.take, e1]
set_option maxHeartbeats 4000000 in
theorem r21t6 {r : Bool} (b1 : get a 1 = .ptr S.length 0 0) (hk : ∀ (a : Tmps) (g : Heap), get a 1 = .ptr S.length 0 0 → mwp (ACalls Tryz.prog (B0 w0)) f21t7 (RtP S (st.cols.all colB && r)) a (H ++ g)) : mwp (ACalls Tryz.prog (B0 w0)) f21t6 (RtP S (cB' st && r)) a (H ++ g) := by
 obtain ⟨fl, hf⟩ := hB.f3
 have l1 : (pcolsC st.cols).length = st.cols.length := by simp [pcolsC]
 have h0g := hB.f0 g
 have hfg := hf g
 unfold f21t6
 rw [mwp_seq, mwp_seq]
 by_cases k1 : st.kind = 1
 ·have bk : (st.kind == 1) = true := by simp [k1]
  have bk2 : (st.kind != 1) = false := by simp [k1]
  simp [-mwp_seq, b1, h0g, hfg, bk, bk2, l1]
  refine (w67 st.cols.length 1 16 _).use ?_
  rintro e S1 ⟨rfl, rfl⟩
  have hbt := count_between st.cols.length 1 16
  by_cases h2 : (1 : Int) ≤ st.cols.length ∧ (st.cols.length : Int) ≤ 16
  ·have hb : between st.cols.length 1 16 = true := by unfold between; simp; omega
   have e1 : cB' st = st.cols.all colB := by rw [cB', if_pos k1, hb, Bool.true_and]
   simp [-mwp_seq, b1, h0g, hfg, h2.1, h2.2, bk, bk2]
   rw [e1]
   exact hk _ g (by simp [b1])
  ·have h2' : (decide ((1 : Int) ≤ st.cols.length) && decide ((st.cols.length : Int) ≤ 16)) = false := by simpa using h2
   have hb : between st.cols.length 1 16 = false := by rw [← hbt]; simpa using h2
   have e1 : cB' st = false := by rw [cB', if_pos k1, hb, Bool.false_and]
   simp [h2', RtP, hB.take, e1]
 ·have bk : (st.kind == 1) = false := by simp [k1]
  have bk2 : (st.kind != 1) = true := by simp [k1]
  by_cases h0 : st.cols = []
  ·have l1' : (pcolsC st.cols).length = 0 := by rw [l1, h0]; rfl
   have e1 : cB' st = st.cols.all colB := by rw [cB', if_neg k1, h0]; rfl
   have l0 : st.cols.length = 0 := by rw [h0]; rfl
   simp [-mwp_seq, b1, h0g, hfg, bk, bk2, l0]
   rw [e1]
   exact hk _ g (by simp [b1])
  ·have l1' : 0 < st.cols.length := List.length_pos_iff.2 h0
   have e1 : cB' st = false := by rw [cB', if_neg k1, isEmpty_len]; simp [h0]
   simp [b1, h0g, hfg, bk, bk2, l1', RtP, hB.take, e1]
set_option maxHeartbeats 4000000 in
theorem r21t8 {r : Bool} (b1 : get a 1 = .ptr S.length 0 0) (hk : ∀ (a : Tmps) (g : Heap), get a 1 = .ptr S.length 0 0 → mwp (ACalls Tryz.prog (B0 w0)) f21t9 (RtP S (st.names.all nameB && r)) a (H ++ g)) : mwp (ACalls Tryz.prog (B0 w0)) f21t8 (RtP S (nB' st && r)) a (H ++ g) := by
 obtain ⟨fl, hf⟩ := hB.f4
 have h5g := hB.f5 g
 have l1 : (namesC st.names).length = st.names.length := by simp [namesC]
 have h0g := hB.f0 g
 have hfg := hf g
 unfold f21t8
 rw [mwp_seq, mwp_seq]
 by_cases k1 : st.kind = 3
 ·have bk : (st.kind == 3) = true := by simp [k1]
  have bk2 : (st.kind != 3) = false := by simp [k1]
  simp [-mwp_seq, b1, h0g, hfg, bk, bk2, l1]
  refine (w67 st.names.length 1 4 _).use ?_
  rintro e S1 ⟨rfl, rfl⟩
  have hbt := count_between st.names.length 1 4
  by_cases h2 : (1 : Int) ≤ st.names.length ∧ (st.names.length : Int) ≤ 4
  ·have hb : between st.names.length 1 4 = true := by unfold between; simp; omega
   have e1 : nB' st = st.names.all nameB := by rw [nB', if_pos k1, hb, Bool.true_and]
   simp [-mwp_seq, b1, h0g, hfg, h2.1, h2.2, bk, bk2]
   rw [e1]
   exact hk _ g (by simp [b1])
  ·have h2' : (decide ((1 : Int) ≤ st.names.length) && decide ((st.names.length : Int) ≤ 4)) = false := by simpa using h2
   have hb : between st.names.length 1 4 = false := by rw [← hbt]; simpa using h2
   have e1 : nB' st = false := by rw [nB', if_pos k1, hb, Bool.false_and]
   simp [h2', RtP, hB.take, e1]
 ·have bk : (st.kind == 3) = false := by simp [k1]
  have bk2 : (st.kind != 3) = true := by simp [k1]
  by_cases h0 : st.names = []
  ·cases hu : st.uniq with
   | false =>
     have e1 : nB' st = st.names.all nameB := by rw [nB', if_neg k1, h0, hu]; rfl
     rw [hu] at h5g
     have l0 : st.names.length = 0 := by rw [h0]; rfl
     simp [-mwp_seq, b1, h0g, hfg, bk, bk2, l0, h5g]
     rw [e1]
     exact hk _ g (by simp [b1])
   | true =>
     have e1 : nB' st = false := by rw [nB', if_neg k1, hu]; simp
     rw [hu] at h5g
     have l0 : st.names.length = 0 := by rw [h0]; rfl
     simp [b1, h0g, hfg, bk, bk2, l0, h5g, RtP, hB.take, e1]
  ·have l1' : 0 < st.names.length := List.length_pos_iff.2 h0
   have e1 : nB' st = false := by rw [nB', if_neg k1, isEmpty_len]; simp [h0]
   simp [b1, h0g, hfg, bk, bk2, l1', RtP, hB.take, e1]
end
section
variable {S H : Heap} {st : Stm} (hm : Sm st) (hB : Bxs S H st) {a : Tmps} {g : Heap}
include hm hB
set_option maxHeartbeats 2000000 in
theorem r21t12 (b1 : get a 1 = .ptr S.length 0 0) : mwp (ACalls Tryz.prog (B0 w0)) f21t12 (RtP S (queryB st && setsQ st)) a (H ++ g) := by
 obtain ⟨c, hc, hl⟩ := hB.full
 have hlg := hl g
 have h69 := fun S => w69 (w0 := w0) hm hc S
 have h70 := fun S => w70 (w0 := w0) hm hc S
 unfold f21t12
 simp [b1, hlg]
 refine (h69 _).use ?_
 rintro e S1 ⟨rfl, rfl⟩
 cases hq : queryB st with
 | false => simp [RtP, hB.take]
 | true =>
   simp [b1, hlg]
   refine (h70 _).use ?_
   rintro e S1 ⟨rfl, rfl⟩
   simp [RtP, hB.take]
theorem r21t11 (b1 : get a 1 = .ptr S.length 0 0) : mwp (ACalls Tryz.prog (B0 w0)) f21t11 (RtP S (st.rows.all rowB && (queryB st && setsQ st))) a (H ++ g) := by
 obtain ⟨fl, eR, hR, hf⟩ := hB.f6
 unfold f21t11
 rw [mwp_seq, mwp_seq]
 simp [-mwp_seq, -mwp_block, b1]
 refine mwp_mono _ _ (fun _ _ _ _ _ hr h => h.mono hr) ?_ (lr_r (w0 := w0) (g0 := g) hR hm.rows (fun r hr => rows_len hm hr) (fun r hr x hx => (hm.w _ (mem_rows hr hx)).1) hf (by simp [b1]) (by simp))
 intro e a S2 h
 cases e <;> first | exact h.elim | skip
 ·obtain ⟨⟨g, rfl⟩, b1, hr⟩ := h
  rw [hr, Bool.true_and]
  exact r21t12 hm hB b1
 ·obtain ⟨⟨g, rfl⟩, b2, hr⟩ := h
  exact ⟨rfl, by rw [b2, hr, Bool.false_and], hB.take _⟩
theorem r21t9 (b1 : get a 1 = .ptr S.length 0 0) (hk : ∀ (a : Tmps) (g : Heap), get a 1 = .ptr S.length 0 0 → mwp (ACalls Tryz.prog (B0 w0)) f21t10 (RtP S (rB' st && (queryB st && setsQ st))) a (H ++ g)) : mwp (ACalls Tryz.prog (B0 w0)) f21t9 (RtP S (st.names.all nameB && (rB' st && (queryB st && setsQ st)))) a (H ++ g) := by
 obtain ⟨fl, hf⟩ := hB.f4
 unfold f21t9
 rw [mwp_seq, mwp_seq]
 simp [-mwp_seq, -mwp_block, b1]
 refine mwp_mono _ _ (fun _ _ _ _ _ hr h => h.mono hr) ?_ (lr_n (w0 := w0) (g0 := g) hm.names hf (by simp [b1]) (by simp))
 intro e a S2 h
 cases e <;> first | exact h.elim | skip
 ·obtain ⟨⟨g, rfl⟩, b1, hr⟩ := h
  rw [hr, Bool.true_and]
  exact hk a g b1
 ·obtain ⟨⟨g, rfl⟩, b2, hr⟩ := h
  exact ⟨rfl, by rw [b2, hr, Bool.false_and], hB.take _⟩
theorem r21t7 {r : Bool} (b1 : get a 1 = .ptr S.length 0 0) (hk : ∀ (a : Tmps) (g : Heap), get a 1 = .ptr S.length 0 0 → mwp (ACalls Tryz.prog (B0 w0)) f21t8 (RtP S r) a (H ++ g)) : mwp (ACalls Tryz.prog (B0 w0)) f21t7 (RtP S (st.cols.all colB && r)) a (H ++ g) := by
 obtain ⟨fl, hf⟩ := hB.f3
 unfold f21t7
 rw [mwp_seq, mwp_seq]
 simp [-mwp_seq, -mwp_block, b1]
 refine mwp_mono _ _ (fun _ _ _ _ _ hr h => h.mono hr) ?_ (lr_c (w0 := w0) (g0 := g) hm.cols hf (by simp [b1]) (by simp))
 intro e a S2 h
 cases e <;> first | exact h.elim | skip
 ·obtain ⟨⟨g, rfl⟩, b1, hr⟩ := h
  rw [hr, Bool.true_and]
  exact hk a g b1
 ·obtain ⟨⟨g, rfl⟩, b2, hr⟩ := h
  exact ⟨rfl, by rw [b2, hr, Bool.false_and], hB.take _⟩
end
end Go.Abs
namespace Go.Abs
open Go Go.RowKit Go.Proofs Go.Lx Go.Pz
variable {w0 : World}
section
variable {S H : Heap} {st : Stm} (hB : Bxs S H st) {a : Tmps} {g : Heap} {r : Bool}
include hB
set_option maxHeartbeats 2000000 in
theorem r21t5 (b1 : get a 1 = .ptr S.length 0 0) (b4 : get a 4 = .bool (indexU st.kind)) (hk : ∀ (a : Tmps) (g : Heap), get a 1 = .ptr S.length 0 0 → mwp (ACalls Tryz.prog (B0 w0)) f21t6 (RtP S r) a (H ++ g)) : mwp (ACalls Tryz.prog (B0 w0)) f21t5 (RtP S (iB' st && r)) a (H ++ g) := by
 have h2g := hB.f2 g
 unfold f21t5
 rw [mwp_seq, mwp_seq]
 cases hu : indexU st.kind with
 | true =>
   rw [hu] at b4
   have e1 : iB' st = nameB st.index := by rw [iB', hu]; rfl
   rw [e1]
   simp [-mwp_seq, b1, b4, h2g]
   refine (w66 st.index _).use ?_
   rintro e S1 ⟨rfl, rfl⟩
   cases hn : nameB st.index with
   | false => simp [RtP, hB.take]
   | true =>
     simp [-mwp_seq, b1, b4, h2g]
     exact hk _ g (by simp [b1])
 | false =>
   rw [hu] at b4
   have e1 : iB' st = decide (st.index = []) := by rw [iB', hu]; rfl
   rw [e1]
   by_cases h0 : st.index = []
   ·rw [h0] at h2g
    simp [-mwp_seq, b1, b4, h2g, h0]
    exact hk _ g (by simp [b1])
   ·simp [b1, b4, h2g, h0, RtP, hB.take]
theorem r21t4 (b1 : get a 1 = .ptr S.length 0 0) (hk : ∀ (a : Tmps) (g : Heap), get a 1 = .ptr S.length 0 0 → mwp (ACalls Tryz.prog (B0 w0)) f21t6 (RtP S r) a (H ++ g)) : mwp (ACalls Tryz.prog (B0 w0)) f21t4 (RtP S (iB' st && r)) a (H ++ g) := by
 have h0g := hB.f0 g
 unfold f21t4
 rw [mwp_seq]
 by_cases k3 : st.kind = 3
 ·have b3 : (st.kind == 3) = true := by simp [k3]
  simp [-mwp_seq, b1, h0g, b3]
  exact r21t5 hB (by simp [b1]) (by simp [indexU, k3]) hk
 ·have b3 : (st.kind == 3) = false := by simp [k3]
  simp [-mwp_seq, b1, h0g, b3]
  exact r21t5 hB (by simp [b1]) (by simp [indexU, k3]; rw [Bool.eq_iff_iff]; simp) hk
set_option maxHeartbeats 2000000 in
theorem r21t3 {q : Nat} (b1 : get a 1 = .ptr S.length 0 0) (b3 : get a 3 = .ptr q 0 0) (k0 : 0 ≤ st.kind) (k12 : st.kind < 12) (harr : loadR false 1 (H ++ g) (.ptr q 0 st.kind.toNat) = .ok true (.bool (tableU st.kind)) (H ++ g))
  (hk : ∀ (a : Tmps) (g : Heap), get a 1 = .ptr S.length 0 0 → mwp (ACalls Tryz.prog (B0 w0)) f21t6 (RtP S r) a (H ++ g)) : mwp (ACalls Tryz.prog (B0 w0)) f21t3 (RtP S (tB' st && (iB' st && r))) a (H ++ g) := by
 have h0g := hB.f0 g
 have h1g := hB.f1 g
 unfold f21t3
 rw [mwp_seq, mwp_seq]
 cases hu : tableU st.kind with
 | true =>
   rw [hu] at harr
   have e1 : tB' st = nameB st.table := by rw [tB', hu]; rfl
   rw [e1]
   simp [-mwp_seq, b1, b3, h0g, h1g, k0, k12, harr]
   refine (w66 st.table _).use ?_
   rintro e S1 ⟨rfl, rfl⟩
   cases hn : nameB st.table with
   | false => simp [RtP, hB.take]
   | true =>
     simp [-mwp_seq, b1, b3, h0g, h1g, k0, k12, harr]
     exact r21t4 hB (by simp [b1]) hk
 | false =>
   rw [hu] at harr
   have e1 : tB' st = decide (st.table = []) := by rw [tB', hu]; rfl
   rw [e1]
   by_cases h0 : st.table = []
   ·rw [h0] at h1g
    simp [-mwp_seq, b1, b3, h0g, h1g, k0, k12, harr, h0]
    exact r21t4 hB (by simp [b1]) hk
   ·simp [b1, b3, h0g, h1g, k0, k12, harr, h0, RtP, hB.take]
end
def arrT : List AVal := [.bool false, .bool true, .bool true, .bool true, .bool false, .bool true, .bool false, .bool true, .bool true, .bool false, .bool false, .bool false]
theorem arr_get {k : Int} (h : kindB k = true) (T : Heap) : loadR false 1 (T ++ [AObj.cells 12 [arrT] (some 1)]) (.ptr T.length 0 k.toNat) = .ok true (.bool (tableU k)) (T ++ [AObj.cells 12 [arrT] (some 1)]) := by
 rcases kind_cases h with rfl | rfl | rfl | rfl | rfl | rfl | rfl | rfl | rfl | rfl | rfl <;> simp [arrT, tableU]
set_option maxHeartbeats 2000000 in
theorem r21t2 {S H : Heap} {st : Stm} (hm : Sm st) (hB : Bxs S H st) {a : Tmps} {g : Heap} (hk : kindB st.kind = true) (b1 : get a 1 = .ptr S.length 0 0) : mwp (ACalls Tryz.prog (B0 w0)) f21t2 (RtP S (tB' st && (iB' st && (cB' st && (nB' st && (rB' st && (queryB st && setsQ st))))))) a (H ++ g) := by
 have h12 : 0 ≤ st.kind ∧ st.kind < 12 := by simp only [kindB, Bool.and_eq_true, decide_eq_true_eq] at hk; omega
 have harr := arr_get hk (H ++ g)
 have ht : ∀ (a : Tmps) (g : Heap), get a 1 = .ptr S.length 0 0 → mwp (ACalls Tryz.prog (B0 w0)) f21t6 (RtP S (cB' st && (nB' st && (rB' st && (queryB st && setsQ st))))) a (H ++ g) := fun a g h1 =>
  r21t6 hB h1 fun a g h1 => r21t7 hm hB h1 fun a g h1 => r21t8 hB h1 fun a g h1 => r21t9 hm hB h1 fun a g h1 => r21t10 hB h1 fun a g h1 => r21t11 hm hB h1
 unfold f21t2
 rw [mwp_seq]
 simp [-mwp_seq, b1]
 rw [List.append_assoc] at harr
 exact r21t3 hB (g := g ++ [AObj.cells 12 [arrT] (some 1)]) (q := (H ++ g).length) (by simp [b1]) (by simp) h12.1 h12.2 harr ht
set_option maxHeartbeats 4000000 in
theorem w21 {st : Stm} (hm : Sm st) {c : List AVal} (hc : StV st c) (S : Heap) : ACalls Tryz.prog (B0 w0) 21 [.agg c] S fun e S' => e = .ret (.bool (okS st)) ∧ S' = S := by
 have hc0 := hc
 obtain ⟨fC, fN, fR, fI, fF, fO, fS, eR, eI, eF, ew, eO, eS, rfl, hw, hR, hI, hF, hO, hS⟩ := hc
 refine ACalls.close (R := fun e S' => e = .ret (.bool (okS st)) ∧ S'.take S.length = S) ?_ ?_
 rotate_left 1
 ·rintro e S' ⟨rfl, ht⟩
  exact .flat ht rfl ⟨rfl, rfl⟩
 obtain ⟨fl', es', k', n', s', t', q', rfl⟩ := ExV_cells hw
 refine fn_sound tryOrd (f21_c _) (by simp [f21]) ?_
 rw [f21, f21m_eq, f21t1, mwp_seq]
 simp [-mwp_seq]
 obtain ⟨H, hH⟩ : ∃ H, H = S ++ [AObj.cells 18 [[AVal.int st.kind, .str st.table, .str st.index, .list fC (pcolsC st.cols), .list fN (namesC st.names), .bool st.uniq, .list fR eR, .list fI eI, .list fF eF, .int (opOf st.wher), .list fl' es', .int k', .int n', .int s', .str t', .str q', .list fO eO, .list fS eS]] (some 1)] := ⟨_, rfl⟩
 have hg : ∀ g : Heap, (H ++ g)[S.length]? = some (.cells 18 [[AVal.int st.kind, .str st.table, .str st.index, .list fC (pcolsC st.cols), .list fN (namesC st.names), .bool st.uniq, .list fR eR, .list fI eI, .list fF eF, .int (opOf st.wher), .list fl' es', .int k', .int n', .int s', .str t', .str q', .list fO eO, .list fS eS]] (some 1)) := fun g => by rw [hH]; simp
 have hg0 := hg []
 rw [List.append_nil] at hg0
 have ht : ∀ g : Heap, (H ++ g).take S.length = S := fun g => by rw [hH]; simp
 have ht0 := ht []
 rw [List.append_nil] at ht0
 have hB : Bxs S H st := ⟨fun g => by simp [hg g], fun g => by simp [hg g], fun g => by simp [hg g], ⟨fC, fun g => by simp [hg g]⟩, ⟨fN, fun g => by simp [hg g]⟩, fun g => by simp [hg g], ⟨fR, eR, hR, fun g => by simp [hg g]⟩, ⟨_, hc0, fun g => by simp [hg g]⟩, ht⟩
 rw [← hH]
 clear hH
 rw [mwp_seq, mwp_seq]
 by_cases k1 : st.kind < 1
 ·have hk : kindB st.kind = false := by simp [kindB]; omega
  simp [hg0, k1, okS_parts, hk, ht0]
 by_cases k2 : 11 < st.kind
 ·have hk : kindB st.kind = false := by simp [kindB]; omega
  simp [hg0, k1, k2, okS_parts, hk, ht0]
 have hk : kindB st.kind = true := by simp [kindB]; omega
 simp [-mwp_seq, hg0, k1, k2]
 refine mwp_mono _ _ (fun _ _ _ _ _ hr h => h.mono hr) ?_ (by simpa using r21t2 (w0 := w0) hm hB (g := []) hk (by simp))
 rintro e a S2 ⟨rfl, h1, h2⟩
 rw [okS_parts, hk, Bool.true_and]
 simp [h1, h2]
end Go.Abs
namespace Go.Abs
open Go Go.RowKit Go.Proofs Go.Lx Go.Pz
variable {w0 : World}
def Fe (b f : Nat) (H : Heap) (v : AVal) : Prop := ∀ S' : Heap, S'[b]? = H[b]? → loadR false 1 S' (.ptr b 0 f) = .ok true v S'
def XrI (b slot n : Nat) (S0 : Heap) (F : Nat → List (List AVal)) (m : Nat) (a : Tmps) (S' : Heap) : Prop :=
 ∃ (i : Nat) (u : AVal), m = n - i ∧ i ≤ n ∧ get a 1 = .ptr b 0 0 ∧ get a 3 = u ∧ get a slot = .int i ∧ ApO S0 S' u (F i)
def XrQ (b : Nat) (S0 : Heap) (r : List (List AVal)) : AExit → Tmps → Heap → Prop
 | .normal, a, S' => ∃ u, get a 1 = .ptr b 0 0 ∧ get a 3 = u ∧ ApO S0 S' u r
 | _, _, _ => False
def XeQ (b i : Nat) (S0 : Heap) (r : List (List AVal)) : AExit → Tmps → Heap → Prop
 | .normal, a, S' => ∃ u, get a 1 = .ptr b 0 0 ∧ get a 3 = u ∧ get a 4 = .int i ∧ ApO S0 S' u r
 | _, _, _ => False
def XeI (b i n : Nat) (S0 : Heap) (F : Nat → List (List AVal)) (m : Nat) (a : Tmps) (S' : Heap) : Prop :=
 ∃ (j : Nat) (u : AVal), m = n - j ∧ j ≤ n ∧ get a 1 = .ptr b 0 0 ∧ get a 3 = u ∧ get a 4 = .int i ∧ get a 5 = .int j ∧ ApO S0 S' u (F j)
def EF (base es : List (List AVal)) (j : Nat) : List (List AVal) := base ++ es.take j
theorem take_snoc {es : List (List AVal)} {j : Nat} (h : j < es.length) : es.take (j + 1) = es.take j ++ [es.getD j []] := by
 rw [List.take_add_one, List.getElem?_eq_getElem h, getD_eq _ _ _ h]; rfl
section
variable {b : Nat} {S0 S1 : Heap} {u : AVal} {base : List (List AVal)} {a : Tmps} {fl : Fl} {G : Nat → AVal}
set_option maxHeartbeats 2000000 in
theorem lx_0 {i : Nat} {l : List Ex} {eR es : List (List AVal)} {fl2 : Fl} (hv : ExsV l es) (hn : l.length ≤ 4000000) (hb : b < S0.length) (hf : Fe b 6 S0 (.list fl eR)) (p1 : ∀ S, iaddrR 1 S (.list fl eR) (.int i) = .ok true (.fptr eR i 0) S) (p2 : ∀ S, loadR false 1 S (.fptr eR i 0) = .ok true (.list fl2 es) S)
  (h7 : ∀ e ∈ base ++ es, e.length = 7) (hbl : (base ++ es).length ≤ 5000000) (ho : ApO S0 S1 u base) (b1 : get a 1 = .ptr b 0 0) (b3 : get a 3 = u) (b4 : get a 4 = .int i) (b5 : get a 5 = .int 0) :
  mwp (ACalls Tryz.prog (B0 w0)) (.block 2 (.loop (f22b0 G))) (XeQ b i S0 (base ++ es)) a S1 := by
 have hel := ExsV_len hv
 simp only [mwp_block]
 refine mwp_loop (I := XeI b i l.length S0 (EF base es)) ⟨0, u, rfl, Nat.zero_le _, b1, b3, b4, b5, by simpa [EF] using ho⟩ ?_
 clear b1 b3 b4 b5 ho
 rintro m a S' ⟨j, u, rfl, hj, b1, b3, b4, b5, ho⟩
 rw [EF] at ho
 have hfg := hf S' (ho.low b hb)
 by_cases hlt : j < l.length
 ·have hltI : (j : Int) < (l.length : Int) := by omega
  have hwr := wrapS j (by omega)
  have hev := ExsV_get hv j hlt
  have hle : j < es.length := by omega
  have q1 := li_addr (k := 7) (es := es) hle rfl (ExV_len hev) fl2
  have q2 := li_load (k := 7) (es := es) hle rfl (ExV_len hev) true 7 0 (by omega)
  have hst := take_snoc hle
  have hl7 := ExV_len hev
  have h1v := List.all_eq_true.1 (ExV_one hev)
  have hall : ∀ e ∈ (base ++ es.take j), e.length = 7 := fun e he => by
   rcases List.mem_append.1 he with he | he
   ·exact h7 e (by simp [he])
   ·exact h7 e (List.mem_append.2 (.inr (List.mem_of_mem_take he)))
  generalize es.getD j [] = ev at *
  have htk2 : takeAt true 7 ev 0 = .agg ev := by simp [takeAt, List.take_of_length_le, hl7]
  rw [htk2] at q2
  obtain ⟨fl', es', k', n', s', t', q', rfl⟩ := ExV_cells hev
  obtain ⟨u', S2, happ, ho2⟩ := ho.app hall (y := .list .full [[.int (opOf l[j]), .list fl' es', .int k', .int n', .int s', .str t', .str q']]) (ys := [[.int (opOf l[j]), .list fl' es', .int k', .int n', .int s', .str t', .str q']]) rfl (by simp) (by simp at hbl ⊢; omega)
  simp [-appendR, f22b0, b1, b3, b4, b5, hfg, p1, p2, hel, hltI, q1, q2]
  try simp [-appendR] at happ
  simp [-appendR, b1, b3, b4, b5, happ, hwr, splice]
  exact ⟨l.length - (j + 1), by omega, j + 1, _, rfl, by omega, by simp [b1], rfl, by simp [b4], by simp, by rw [EF, hst, ← List.append_assoc]; exact ho2⟩
 ·have hie : j = l.length := by omega
  subst hie
  rw [List.take_of_length_le (by omega)] at ho
  simp [f22b0, b1, b3, b4, b5, hfg, p1, p2, hel]
  exact ⟨u, by simp [b1], by simp [b3], by simp [b4], ho⟩
set_option maxHeartbeats 2000000 in
theorem lx_1 {rs : List (List Ex)} {eR : List (List AVal)} (hR : Al RowV rs eR) (hn : rs.length ≤ 4000000) (hln : ∀ r ∈ rs, r.length ≤ 4000000) (hb : b < S0.length) (hf : Fe b 6 S0 (.list fl eR)) (h7 : ∀ e ∈ base ++ rowsC eR, e.length = 7) (hbl : (base ++ rowsC eR).length ≤ 5000000)
  (ho : ApO S0 S1 u base) (b1 : get a 1 = .ptr b 0 0) (b3 : get a 3 = u) (b4 : get a 4 = .int 0) : mwp (ACalls Tryz.prog (B0 w0)) (.block 0 (.loop (f22b1 G))) (XrQ b S0 (base ++ rowsC eR)) a S1 := by
 simp only [mwp_block]
 refine mwp_loop (I := XrI b 4 rs.length S0 (RF base eR)) ⟨0, u, rfl, Nat.zero_le _, b1, b3, b4, by simpa [rowsC, RF] using ho⟩ ?_
 clear b1 b3 b4 ho
 rintro m a S' ⟨i, u, rfl, hi, b1, b3, b4, ho⟩
 rw [RF] at ho
 obtain ⟨hel, hR⟩ := hR
 have hfg := hf S' (ho.low b hb)
 by_cases hlt : i < rs.length
 ·obtain ⟨fl2, es, he, hv⟩ := hR i hlt
  have hle : i < eR.length := by omega
  have q1 := li_addr (k := 1) (es := eR) hle he rfl fl
  have q2 := li_load (k := 1) (es := eR) hle he rfl false 1 0 (by omega)
  rw [show takeAt false 1 [AVal.list fl2 es] 0 = .list fl2 es from rfl] at q2
  have hst := rowsC_take hle
  have hro : rowOf eR[i] = es := by rw [getD_eq _ _ _ hle] at he; rw [he]; rfl
  rw [hro] at hst
  have hln2 := hln _ (List.getElem_mem hlt)
  have hsub : ∀ e ∈ (base ++ rowsC (eR.take (i + 1))), e.length = 7 := fun e he => by
   rcases List.mem_append.1 he with he | he
   ·exact h7 e (by simp [he])
   ·refine h7 e (List.mem_append.2 (.inr ?_))
    rw [← List.take_append_drop (i + 1) eR, rowsC, List.map_append, List.flatten_append]
    exact List.mem_append.2 (.inl he)
  have hlen2 := rowsC_len (eR := eR) (i + 1)
  have hsub2 : ∀ e ∈ (base ++ rowsC (eR.take i)) ++ es, e.length = 7 := by rw [List.append_assoc, ← hst]; exact hsub
  have hbl2 : ((base ++ rowsC (eR.take i)) ++ es).length ≤ 5000000 := by
   rw [List.append_assoc, ← hst]
   simp only [List.length_append] at hbl ⊢
   omega
  have hltI : (i : Int) < (rs.length : Int) := by omega
  have hwr := wrapS i (by omega)
  simp [-appendR, -mwp_block, f22b1, b1, b3, b4, hfg, hel, hltI]
  rw [mwp_block, mwp_seq]
  simp [-appendR, -mwp_block, b1, b3, b4]
  refine mwp_mono _ _ (fun _ _ _ _ _ hr h => h.mono hr) ?_ (lx_0 (i := i) (eR := eR) (fl2 := fl2) hv hln2 hb hf q1 q2 hsub2 hbl2 ho (by simp [b1]) (by simp [b3]) (by simp [b4]) (by simp))
  intro e a2 S2 h
  cases e <;> first | exact h.elim | skip
  obtain ⟨u2, c1, c3, c4, ho2⟩ := h
  simp [c1, c3, c4, hwr]
  exact ⟨rs.length - (i + 1), by omega, i + 1, _, rfl, by omega, by simp [c1], rfl, by simp, by rw [RF, hst, ← List.append_assoc]; simpa [c3] using ho2⟩
 ·have hie : i = rs.length := by omega
  subst hie
  rw [List.take_of_length_le (by omega)] at ho
  simp [f22b1, b1, b3, b4, hfg, hel]
  exact ⟨u, by simp [b1], by simp [b3], ho⟩
set_option maxHeartbeats 2000000 in
theorem lx_2 {l : List Itm} {es : List (List AVal)} (hR : Al ItmV l es) (hn : l.length ≤ 4000000) (hb : b < S0.length) (hf : Fe b 7 S0 (.list fl es)) (h7 : ∀ e ∈ base, e.length = 7) (hbl : base.length + l.length ≤ 5000000)
  (ho : ApO S0 S1 u base) (b1 : get a 1 = .ptr b 0 0) (b3 : get a 3 = u) (b4 : get a 6 = .int 0) : mwp (ACalls Tryz.prog (B0 w0)) (.block 4 (.loop (f22b2 G))) (XrQ b S0 (base ++ es.map itC)) a S1 := by
 simp only [mwp_block]
 refine mwp_loop (I := XrI b 6 l.length S0 (LF base es itC)) ⟨0, u, rfl, Nat.zero_le _, b1, b3, b4, by simpa [LF] using ho⟩ ?_
 clear b1 b3 b4 ho
 rintro m a S' ⟨i, u, rfl, hi, b1, b3, b4, ho⟩
 rw [LF] at ho
 obtain ⟨hel, hR⟩ := hR
 have hfg := hf S' (ho.low b hb)
 by_cases hlt : i < l.length
 ·obtain ⟨ev, hev, he⟩ := hR i hlt
  have hle : i < es.length := by omega
  have hall : ∀ e ∈ (base ++ (es.take i).map itC), e.length = 7 := fun e he => by
   rcases List.mem_append.1 he with he | he
   ·exact h7 e he
   ·obtain ⟨e', he', rfl⟩ := List.mem_map.1 he
    obtain ⟨j, hj, rfl⟩ := List.getElem_of_mem (List.mem_of_mem_take he')
    obtain ⟨ev', h1, h2⟩ := hR j (by omega)
    rw [getD_eq _ _ _ hj] at h2
    rw [h2, itC]; simp [ExV_len h1]
  have q1 := li_addr (k := 8) (es := es) hle he (by simp [ExV_len hev]) fl
  have q2 := li_load (k := 8) (es := es) hle he (by simp [ExV_len hev]) true 7 0 (by omega)
  have hst := map_take (t := itC) hle
  rw [getD_eq _ _ _ hle] at he
  generalize hy : l[i] = y at *
  obtain ⟨fl', es', k', n', s', t', q', rfl⟩ := ExV_cells hev
  have t2 : takeAt true 7 ([.int (opOf y.e), .list fl' es', .int k', .int n', .int s', .str t', .str q'] ++ [.str y.name] : List AVal) 0 = .agg [.int (opOf y.e), .list fl' es', .int k', .int n', .int s', .str t', .str q'] := by simp [takeAt]
  rw [t2] at q2
  rw [he] at hst
  obtain ⟨u', S2, happ, ho2⟩ := ho.app hall (y := .list .full [[.int (opOf y.e), .list fl' es', .int k', .int n', .int s', .str t', .str q']]) (ys := [[.int (opOf y.e), .list fl' es', .int k', .int n', .int s', .str t', .str q']]) rfl (by simp) (by simp; omega)
  have hltI : (i : Int) < (l.length : Int) := by omega
  have hwr := wrapS i (by omega)
  simp [-appendR, f22b2, b1, b3, b4, hfg, hel, hltI, q1, q2]
  try simp [-appendR] at happ
  simp [-appendR, b1, b3, b4, happ, hwr, splice]
  exact ⟨l.length - (i + 1), by omega, i + 1, _, rfl, by omega, by simp [b1], rfl, by simp, by rw [LF, hst, ← List.append_assoc]; exact ho2⟩
 ·have hie : i = l.length := by omega
  subst hie
  rw [List.take_of_length_le (by omega)] at ho
  simp [f22b2, b1, b3, b4, hfg, hel]
  exact ⟨u, by simp [b1], by simp [b3], ho⟩
set_option maxHeartbeats 2000000 in
theorem lx_3 {l : List Src} {es : List (List AVal)} (hR : Al SrcV l es) (hn : l.length ≤ 4000000) (hb : b < S0.length) (hf : Fe b 8 S0 (.list fl es)) (h7 : ∀ e ∈ base, e.length = 7) (hbl : base.length + l.length ≤ 5000000)
  (ho : ApO S0 S1 u base) (b1 : get a 1 = .ptr b 0 0) (b3 : get a 3 = u) (b4 : get a 7 = .int 0) : mwp (ACalls Tryz.prog (B0 w0)) (.block 6 (.loop (f22b3 G))) (XrQ b S0 (base ++ es.map srC)) a S1 := by
 simp only [mwp_block]
 refine mwp_loop (I := XrI b 7 l.length S0 (LF base es srC)) ⟨0, u, rfl, Nat.zero_le _, b1, b3, b4, by simpa [LF] using ho⟩ ?_
 clear b1 b3 b4 ho
 rintro m a S' ⟨i, u, rfl, hi, b1, b3, b4, ho⟩
 rw [LF] at ho
 obtain ⟨hel, hR⟩ := hR
 have hfg := hf S' (ho.low b hb)
 by_cases hlt : i < l.length
 ·obtain ⟨ev, hev, he⟩ := hR i hlt
  have hle : i < es.length := by omega
  have hall : ∀ e ∈ (base ++ (es.take i).map srC), e.length = 7 := fun e he => by
   rcases List.mem_append.1 he with he | he
   ·exact h7 e he
   ·obtain ⟨e', he', rfl⟩ := List.mem_map.1 he
    obtain ⟨j, hj, rfl⟩ := List.getElem_of_mem (List.mem_of_mem_take he')
    obtain ⟨ev', h1, h2⟩ := hR j (by omega)
    rw [getD_eq _ _ _ hj] at h2
    rw [h2, srC]; simp [ExV_len h1]
  have q1 := li_addr (k := 9) (es := es) hle he (by simp [ExV_len hev]) fl
  have q2 := li_load (k := 9) (es := es) hle he (by simp [ExV_len hev]) true 7 2 (by omega)
  have hst := map_take (t := srC) hle
  rw [getD_eq _ _ _ hle] at he
  generalize hy : l[i] = y at *
  obtain ⟨fl', es', k', n', s', t', q', rfl⟩ := ExV_cells hev
  have t2 : takeAt true 7 (.str y.table :: .str y.alias :: [.int (opOf y.on), .list fl' es', .int k', .int n', .int s', .str t', .str q'] : List AVal) 2 = .agg [.int (opOf y.on), .list fl' es', .int k', .int n', .int s', .str t', .str q'] := by simp [takeAt]
  rw [t2] at q2
  rw [he] at hst
  obtain ⟨u', S2, happ, ho2⟩ := ho.app hall (y := .list .full [[.int (opOf y.on), .list fl' es', .int k', .int n', .int s', .str t', .str q']]) (ys := [[.int (opOf y.on), .list fl' es', .int k', .int n', .int s', .str t', .str q']]) rfl (by simp) (by simp; omega)
  have hltI : (i : Int) < (l.length : Int) := by omega
  have hwr := wrapS i (by omega)
  simp [-appendR, f22b3, b1, b3, b4, hfg, hel, hltI, q1, q2]
  try simp [-appendR] at happ
  simp [-appendR, b1, b3, b4, happ, hwr, splice]
  exact ⟨l.length - (i + 1), by omega, i + 1, _, rfl, by omega, by simp [b1], rfl, by simp, by rw [LF, hst, ← List.append_assoc]; exact ho2⟩
 ·have hie : i = l.length := by omega
  subst hie
  rw [List.take_of_length_le (by omega)] at ho
  simp [f22b3, b1, b3, b4, hfg, hel]
  exact ⟨u, by simp [b1], by simp [b3], ho⟩
set_option maxHeartbeats 2000000 in
theorem lx_4 {l : List Srt} {es : List (List AVal)} (hR : Al SrtV l es) (hn : l.length ≤ 4000000) (hb : b < S0.length) (hf : Fe b 16 S0 (.list fl es)) (h7 : ∀ e ∈ base, e.length = 7) (hbl : base.length + l.length ≤ 5000000)
  (ho : ApO S0 S1 u base) (b1 : get a 1 = .ptr b 0 0) (b3 : get a 3 = u) (b4 : get a 8 = .int 0) : mwp (ACalls Tryz.prog (B0 w0)) (.block 8 (.loop (f22b4 G))) (XrQ b S0 (base ++ es.map itC)) a S1 := by
 simp only [mwp_block]
 refine mwp_loop (I := XrI b 8 l.length S0 (LF base es itC)) ⟨0, u, rfl, Nat.zero_le _, b1, b3, b4, by simpa [LF] using ho⟩ ?_
 clear b1 b3 b4 ho
 rintro m a S' ⟨i, u, rfl, hi, b1, b3, b4, ho⟩
 rw [LF] at ho
 obtain ⟨hel, hR⟩ := hR
 have hfg := hf S' (ho.low b hb)
 by_cases hlt : i < l.length
 ·obtain ⟨ev, hev, he⟩ := hR i hlt
  have hle : i < es.length := by omega
  have hall : ∀ e ∈ (base ++ (es.take i).map itC), e.length = 7 := fun e he => by
   rcases List.mem_append.1 he with he | he
   ·exact h7 e he
   ·obtain ⟨e', he', rfl⟩ := List.mem_map.1 he
    obtain ⟨j, hj, rfl⟩ := List.getElem_of_mem (List.mem_of_mem_take he')
    obtain ⟨ev', h1, h2⟩ := hR j (by omega)
    rw [getD_eq _ _ _ hj] at h2
    rw [h2, itC]; simp [ExV_len h1]
  have q1 := li_addr (k := 8) (es := es) hle he (by simp [ExV_len hev]) fl
  have q2 := li_load (k := 8) (es := es) hle he (by simp [ExV_len hev]) true 7 0 (by omega)
  have hst := map_take (t := itC) hle
  rw [getD_eq _ _ _ hle] at he
  generalize hy : l[i] = y at *
  obtain ⟨fl', es', k', n', s', t', q', rfl⟩ := ExV_cells hev
  have t2 : takeAt true 7 ([.int (opOf y.e), .list fl' es', .int k', .int n', .int s', .str t', .str q'] ++ [.bool y.desc] : List AVal) 0 = .agg [.int (opOf y.e), .list fl' es', .int k', .int n', .int s', .str t', .str q'] := by simp [takeAt]
  rw [t2] at q2
  rw [he] at hst
  obtain ⟨u', S2, happ, ho2⟩ := ho.app hall (y := .list .full [[.int (opOf y.e), .list fl' es', .int k', .int n', .int s', .str t', .str q']]) (ys := [[.int (opOf y.e), .list fl' es', .int k', .int n', .int s', .str t', .str q']]) rfl (by simp) (by simp; omega)
  have hltI : (i : Int) < (l.length : Int) := by omega
  have hwr := wrapS i (by omega)
  simp [-appendR, f22b4, b1, b3, b4, hfg, hel, hltI, q1, q2]
  try simp [-appendR] at happ
  simp [-appendR, b1, b3, b4, happ, hwr, splice]
  exact ⟨l.length - (i + 1), by omega, i + 1, _, rfl, by omega, by simp [b1], rfl, by simp, by rw [LF, hst, ← List.append_assoc]; exact ho2⟩
 ·have hie : i = l.length := by omega
  subst hie
  rw [List.take_of_length_le (by omega)] at ho
  simp [f22b4, b1, b3, b4, hfg, hel]
  exact ⟨u, by simp [b1], by simp [b3], ho⟩
set_option maxHeartbeats 2000000 in
theorem lx_5 {l : List Asn} {es : List (List AVal)} (hR : Al AsnV l es) (hn : l.length ≤ 4000000) (hb : b < S0.length) (hf : Fe b 17 S0 (.list fl es)) (h7 : ∀ e ∈ base, e.length = 7) (hbl : base.length + l.length ≤ 5000000)
  (ho : ApO S0 S1 u base) (b1 : get a 1 = .ptr b 0 0) (b3 : get a 3 = u) (b4 : get a 9 = .int 0) : mwp (ACalls Tryz.prog (B0 w0)) (.block 10 (.loop (f22b5 G))) (XrQ b S0 (base ++ es.map asC)) a S1 := by
 simp only [mwp_block]
 refine mwp_loop (I := XrI b 9 l.length S0 (LF base es asC)) ⟨0, u, rfl, Nat.zero_le _, b1, b3, b4, by simpa [LF] using ho⟩ ?_
 clear b1 b3 b4 ho
 rintro m a S' ⟨i, u, rfl, hi, b1, b3, b4, ho⟩
 rw [LF] at ho
 obtain ⟨hel, hR⟩ := hR
 have hfg := hf S' (ho.low b hb)
 by_cases hlt : i < l.length
 ·obtain ⟨ev, hev, he⟩ := hR i hlt
  have hle : i < es.length := by omega
  have hall : ∀ e ∈ (base ++ (es.take i).map asC), e.length = 7 := fun e he => by
   rcases List.mem_append.1 he with he | he
   ·exact h7 e he
   ·obtain ⟨e', he', rfl⟩ := List.mem_map.1 he
    obtain ⟨j, hj, rfl⟩ := List.getElem_of_mem (List.mem_of_mem_take he')
    obtain ⟨ev', h1, h2⟩ := hR j (by omega)
    rw [getD_eq _ _ _ hj] at h2
    rw [h2, asC]; simp [ExV_len h1]
  have q1 := li_addr (k := 8) (es := es) hle he (by simp [ExV_len hev]) fl
  have q2 := li_load (k := 8) (es := es) hle he (by simp [ExV_len hev]) true 7 1 (by omega)
  have hst := map_take (t := asC) hle
  rw [getD_eq _ _ _ hle] at he
  generalize hy : l[i] = y at *
  obtain ⟨fl', es', k', n', s', t', q', rfl⟩ := ExV_cells hev
  have t2 : takeAt true 7 (.str y.col :: [.int (opOf y.e), .list fl' es', .int k', .int n', .int s', .str t', .str q'] : List AVal) 1 = .agg [.int (opOf y.e), .list fl' es', .int k', .int n', .int s', .str t', .str q'] := by simp [takeAt]
  rw [t2] at q2
  rw [he] at hst
  obtain ⟨u', S2, happ, ho2⟩ := ho.app hall (y := .list .full [[.int (opOf y.e), .list fl' es', .int k', .int n', .int s', .str t', .str q']]) (ys := [[.int (opOf y.e), .list fl' es', .int k', .int n', .int s', .str t', .str q']]) rfl (by simp) (by simp; omega)
  have hltI : (i : Int) < (l.length : Int) := by omega
  have hwr := wrapS i (by omega)
  simp [-appendR, f22b5, b1, b3, b4, hfg, hel, hltI, q1, q2]
  try simp [-appendR] at happ
  simp [-appendR, b1, b3, b4, happ, hwr, splice]
  exact ⟨l.length - (i + 1), by omega, i + 1, _, rfl, by omega, by simp [b1], rfl, by simp, by rw [LF, hst, ← List.append_assoc]; exact ho2⟩
 ·have hie : i = l.length := by omega
  subst hie
  rw [List.take_of_length_le (by omega)] at ho
  simp [f22b5, b1, b3, b4, hfg, hel]
  exact ⟨u, by simp [b1], by simp [b3], ho⟩
end
end Go.Abs
namespace Go.Abs
open Go Go.RowKit Go.Proofs Go.Lx Go.Pz
variable {w0 : World}
set_option maxHeartbeats 4000000 in
theorem w22 {st : Stm} (hm : Sm st) {c : List AVal} (hc : StV st c) (S : Heap) : ACalls Tryz.prog (B0 w0) 22 [.agg c] S fun e S' => ∃ u es, e = .ret u ∧ ApO S S' u es ∧ Al ExV (exsS st) es := by
 obtain ⟨fC, fN, fR, fI, fF, fO, fS, eR, eI, eF, ew, eO, eS, rfl, hw, hR, hI, hF, hO, hS⟩ := hc
 have hal : Al ExV (exsS st) (allC ew eR eI eF eO eS) := by
  have := Al.app (Al.cons hw Al.nil) (Al.app (rows_al hR) (Al.app (items_al hI) (Al.app (src_al hF) (Al.app (order_al hO) (sets_al hS)))))
  simpa [exsS, allC, List.append_assoc] using this
 have hlen : (allC ew eR eI eF eO eS).length ≤ 4000000 := by rw [hal.1]; exact hm.ex
 have h7 := al_seven hal
 have hq : ∀ e ∈ allC ew eR eI eF eO eS, e.length = 7 := h7
 simp only [allC, List.length_append, List.length_map, List.length_cons, List.length_nil] at hlen
 have s5 : ∀ e ∈ [ew] ++ rowsC eR ++ eI.map itC ++ eF.map srC ++ eO.map itC, e.length = 7 := fun e he => h7 e (List.mem_append.2 (.inl he))
 have s4 : ∀ e ∈ [ew] ++ rowsC eR ++ eI.map itC ++ eF.map srC, e.length = 7 := fun e he => s5 e (List.mem_append.2 (.inl he))
 have s3 : ∀ e ∈ [ew] ++ rowsC eR ++ eI.map itC, e.length = 7 := fun e he => s4 e (List.mem_append.2 (.inl he))
 have s2 : ∀ e ∈ [ew] ++ rowsC eR, e.length = 7 := fun e he => s3 e (List.mem_append.2 (.inl he))
 have l1 := hI.1; have l2 := hF.1; have l3 := hO.1; have l4 := hS.1; have l0 := hR.1
 obtain ⟨fl', es', k', n', s', t', q', hew⟩ := ExV_cells hw
 subst hew
 refine fn_sound tryOrd (f22_c _) (by simp [f22]) ?_
 rw [f22, f22m, mwp_seq]
 simp [-mwp_seq]
 obtain ⟨H, hH⟩ : ∃ H, H = S ++ [AObj.cells 18 [[AVal.int st.kind, .str st.table, .str st.index, .list fC (pcolsC st.cols), .list fN (namesC st.names), .bool st.uniq, .list fR eR, .list fI eI, .list fF eF, .int (opOf st.wher), .list fl' es', .int k', .int n', .int s', .str t', .str q', .list fO eO, .list fS eS]] (some 1)] := ⟨_, rfl⟩
 have hg : H[S.length]? = some (.cells 18 [[AVal.int st.kind, .str st.table, .str st.index, .list fC (pcolsC st.cols), .list fN (namesC st.names), .bool st.uniq, .list fR eR, .list fI eI, .list fF eF, .int (opOf st.wher), .list fl' es', .int k', .int n', .int s', .str t', .str q', .list fO eO, .list fS eS]] (some 1)) := by rw [hH]; simp
 have hHl : S.length < H.length := by rw [hH]; simp
 have e6 : Fe S.length 6 H (.list fR eR) := fun S' h => by simp [h.trans hg]
 have e7 : Fe S.length 7 H (.list fI eI) := fun S' h => by simp [h.trans hg]
 have e8 : Fe S.length 8 H (.list fF eF) := fun S' h => by simp [h.trans hg]
 have e16 : Fe S.length 16 H (.list fO eO) := fun S' h => by simp [h.trans hg]
 have e17 : Fe S.length 17 H (.list fS eS) := fun S' h => by simp [h.trans hg]
 have hsh : ∀ {S' u es}, ApO H S' u es → ApO S S' u es := fun {S' u es} h => by rw [hH] at h; exact h.shrink
 rw [← hH]
 clear hH
 rw [mwp_seq]
 simp [-mwp_seq, -mwp_block, hg]
 rw [mwp_seq, mwp_seq]
 simp [-mwp_seq, -mwp_block, hg]
 have o0 : ApO H H (.list .full [[.int (opOf st.wher), .list fl' es', .int k', .int n', .int s', .str t', .str q']]) [[.int (opOf st.wher), .list fl' es', .int k', .int n', .int s', .str t', .str q']] := .inl ⟨rfl, by simp, Own.start H⟩
 refine mwp_mono _ _ (fun _ _ _ _ _ hr h => h.mono hr) ?_ (lx_1 (fl := fR) hR hm.rows (fun r hr => rows_len hm hr) hHl e6 s2 (by simp only [List.length_append, List.length_cons, List.length_nil]; omega) o0 (by simp) (by simp) (by simp))
 intro e a S' h
 cases e <;> first | exact h.elim | skip
 obtain ⟨u1, b1, b3, o1⟩ := h
 have hg1 := (o1.low S.length hHl).trans hg
 simp only [afterX_normal]
 rw [mwp_seq, mwp_seq]
 simp [-mwp_seq, -mwp_block, b1, b3, hg1]
 refine mwp_mono _ _ (fun _ _ _ _ _ hr h => h.mono hr) ?_ (lx_2 (fl := fI) hI hm.items hHl e7 s2 (by simp only [List.length_append, List.length_cons, List.length_nil]; omega) o1 (by simp [b1]) (by simp [b3]) (by simp))
 intro e a S' h
 cases e <;> first | exact h.elim | skip
 obtain ⟨u2, b1, b3, o2⟩ := h
 have hg2 := (o2.low S.length hHl).trans hg
 simp only [afterX_normal]
 rw [mwp_seq, mwp_seq]
 simp [-mwp_seq, -mwp_block, b1, b3, hg2]
 refine mwp_mono _ _ (fun _ _ _ _ _ hr h => h.mono hr) ?_ (lx_3 (fl := fF) hF hm.src hHl e8 s3 (by simp only [List.length_append, List.length_map, List.length_cons, List.length_nil]; omega) o2 (by simp [b1]) (by simp [b3]) (by simp))
 intro e a S' h
 cases e <;> first | exact h.elim | skip
 obtain ⟨u3, b1, b3, o3⟩ := h
 have hg3 := (o3.low S.length hHl).trans hg
 simp only [afterX_normal]
 rw [mwp_seq, mwp_seq]
 simp [-mwp_seq, -mwp_block, b1, b3, hg3]
 refine mwp_mono _ _ (fun _ _ _ _ _ hr h => h.mono hr) ?_ (lx_4 (fl := fO) hO hm.order hHl e16 s4 (by simp only [List.length_append, List.length_map, List.length_cons, List.length_nil]; omega) o3 (by simp [b1]) (by simp [b3]) (by simp))
 intro e a S' h
 cases e <;> first | exact h.elim | skip
 obtain ⟨u4, b1, b3, o4⟩ := h
 have hg4 := (o4.low S.length hHl).trans hg
 simp only [afterX_normal]
 rw [mwp_seq, mwp_seq]
 simp [-mwp_seq, -mwp_block, b1, b3, hg4]
 refine mwp_mono _ _ (fun _ _ _ _ _ hr h => h.mono hr) ?_ (lx_5 (fl := fS) hS hm.sets hHl e17 s5 (by simp only [List.length_append, List.length_map, List.length_cons, List.length_nil]; omega) o4 (by simp [b1]) (by simp [b3]) (by simp))
 intro e a S' h
 cases e <;> first | exact h.elim | skip
 obtain ⟨u5, b1, b3, o5⟩ := h
 simp [b1, b3]
 exact ⟨_, hsh o5, hal⟩
def CkI (S1 : Heap) (u : AVal) (l : List Ex) (m : Nat) (a : Tmps) (S' : Heap) : Prop :=
 ∃ i : Nat, m = l.length - i ∧ i ≤ l.length ∧ S' = S1 ∧ get a 3 = u ∧ get a 4 = .int i ∧ (l.take i).all (fun x => decide (x.depth ≤ 40)) = true
def CkQ (S1 : Heap) (r : Bool) : AExit → Tmps → Heap → Prop
 | .normal, a, S' => S' = S1 ∧ r = true
 | .ret, a, S' => S' = S1 ∧ get a 2 = .int 5 ∧ r = false
 | _, _, _ => False
set_option maxHeartbeats 2000000 in
theorem lp11 {S1 : Heap} {u : AVal} {l : List Ex} {es : List (List AVal)} (hr : Rk 7 S1 u es) (hV : Al ExV l es) (hn : l.length ≤ 4000000) (hw : ∀ x ∈ l, x.w ≤ 4000000) {a : Tmps} {G : Nat → AVal} (b3 : get a 3 = u) (b4 : get a 4 = .int 0) :
  mwp (ACalls Tryz.prog (B0 w0)) (.block 0 (.loop (f11b0 G))) (CkQ S1 (l.all fun x => decide (x.depth ≤ 40))) a S1 := by
 have hlen := hr.lenR
 rw [hV.1] at hlen
 simp only [mwp_block]
 refine mwp_loop (I := CkI S1 u l) ⟨0, rfl, Nat.zero_le _, rfl, b3, b4, by simp⟩ ?_
 clear b3 b4
 rintro m a S' ⟨i, rfl, hi, rfl, b3, b4, hall⟩
 by_cases hlt : i < l.length
 ·have hltI : (i : Int) < (l.length : Int) := by omega
  have hwr := wrapS i (by omega)
  have htk := all_take (p := fun x : Ex => decide (x.depth ≤ 40)) hlt
  have hmem := List.getElem_mem hlt
  have hev := hV.2 i hlt
  obtain ⟨q, q1, q2, _⟩ := hr.elem (i := i) (by rw [hV.1]; exact hlt) (ExV_len hev)
  have h23 := fun S => r23v (w0 := w0) 4000000 (by decide) l[i] (hw _ hmem) _ hev S
  have hl7 := ExV_len hev
  have r2 := q2 true 7 (Nat.le_refl _)
  generalize es.getD i [] = ev at *
  have htk2 : takeAt true 7 ev 0 = .agg ev := by simp [takeAt, List.take_of_length_le, hl7]
  rw [htk2] at r2
  rw [hall, Bool.true_and] at htk
  generalize l[i] = y at *
  simp [f11b0, b3, b4, hlen, hltI, q1, r2]
  refine (h23 _).use ?_
  rintro e S1 ⟨rfl, rfl⟩
  by_cases hd : y.depth ≤ 40
  ·have hd' : ¬ (40 : Int) < (y.depth : Int) := by omega
   simp [b3, b4, hd', hwr]
   exact ⟨l.length - (i + 1), by omega, i + 1, rfl, by omega, rfl, by simp [b3], by simp, by rw [htk]; simpa using hd⟩
  ·have hd' : (40 : Int) < (y.depth : Int) := by omega
   simp [hd']
   exact ⟨rfl, by simp, all_false hmem (by simpa using hd)⟩
 ·have hie : i = l.length := by omega
  subst hie
  rw [List.take_length] at hall
  simp [f11b0, b3, b4, hlen]
  exact ⟨rfl, hall⟩
set_option maxHeartbeats 2000000 in
theorem w11 {st : Stm} (hm : Sm st) {c : List AVal} (hc : StV st c) (S : Heap) : ACalls Tryz.prog (B0 w0) 11 [.agg c] S fun e S' => e = .ret (.int (checkS st)) ∧ S' = S := by
 have h21 := fun S => w21 (w0 := w0) hm hc S
 have h22 := fun S => w22 (w0 := w0) hm hc S
 obtain ⟨fC, fN, fR, fI, fF, fO, fS, eR, eI, eF, ew, eO, eS, rfl, hw, hR, hI, hF, hO, hS⟩ := hc
 obtain ⟨fl', es', k', n', s', t', q', rfl⟩ := ExV_cells hw
 refine ACalls.close (R := fun e S' => e = .ret (.int (checkS st)) ∧ S'.take S.length = S) ?_ ?_
 rotate_left 1
 ·rintro e S' ⟨rfl, ht⟩
  exact .flat ht rfl ⟨rfl, rfl⟩
 refine fn_sound tryOrd (f11_c _) (by simp [f11]) ?_
 rw [f11, f11m, mwp_seq]
 simp [-mwp_seq]
 obtain ⟨H, hH⟩ : ∃ H, H = S ++ [AObj.cells 18 [[AVal.int st.kind, .str st.table, .str st.index, .list fC (pcolsC st.cols), .list fN (namesC st.names), .bool st.uniq, .list fR eR, .list fI eI, .list fF eF, .int (opOf st.wher), .list fl' es', .int k', .int n', .int s', .str t', .str q', .list fO eO, .list fS eS]] (some 1)] := ⟨_, rfl⟩
 have hg : H[S.length]? = some (.cells 18 [[AVal.int st.kind, .str st.table, .str st.index, .list fC (pcolsC st.cols), .list fN (namesC st.names), .bool st.uniq, .list fR eR, .list fI eI, .list fF eF, .int (opOf st.wher), .list fl' es', .int k', .int n', .int s', .str t', .str q', .list fO eO, .list fS eS]] (some 1)) := by rw [hH]; simp
 have ht : H.take S.length = S := by rw [hH]; simp
 have hHl : S.length < H.length := by rw [hH]; simp
 rw [← hH]
 clear hH
 rw [mwp_seq, mwp_seq]
 simp [-mwp_seq, -mwp_block, hg]
 refine (h21 _).use ?_
 rintro e S1 ⟨rfl, rfl⟩
 cases hok : okS st with
 | false => simp [checkS, hok, ht]
 | true =>
   simp [-mwp_seq, -mwp_block, hg]
   rw [mwp_seq]
   simp [-mwp_seq, -mwp_block, hg]
   refine (h22 _).use ?_
   rintro e S2 ⟨u, es, rfl, ho, hal⟩
   have hS2 : S2.take S.length = S := by
    have e : S2.take S.length = (S2.take S1.length).take S.length := by rw [List.take_take, Nat.min_eq_left (by omega)]
    rw [e, ho.take, ht]
   simp [-mwp_seq, -mwp_block]
   rw [mwp_seq, mwp_seq]
   simp [-mwp_seq, -mwp_block]
   refine mwp_mono _ _ (fun _ _ _ _ _ hr h => h.mono hr) ?_ (lp11 ho.rk hal hm.ex (fun x hx => (hm.w x hx).1) (by simp) (by simp))
   intro e a S3 h
   cases e <;> first | exact h.elim | skip
   ·obtain ⟨rfl, hr⟩ := h
    have hc : checkS st = 0 := by rw [checkS, if_pos hok, hr]; rfl
    simp [hc, hS2]
   ·obtain ⟨rfl, b2, hr⟩ := h
    have hc : checkS st = 5 := by rw [checkS, if_pos hok, hr]; rfl
    simp [hc, hS2, b2]
end Go.Abs
namespace Go.Abs
open Go Go.RowKit Go.Proofs Go.Lx Go.Pz
variable {w0 : World}
theorem joinT_snoc : ∀ (l : List Bs) (y : Bs), joinT (l ++ [y]) = joinT l ++ ((if l = [] then [] else [44, 32]) ++ y)
 | [], y => by simp [joinT]
 | [a], y => by simp [joinT]
 | a :: b :: r, y => by
   have h := joinT_snoc (b :: r) y
   simp only [List.cons_append] at h ⊢
   rw [show joinT (a :: b :: (r ++ [y])) = a ++ 44 :: 32 :: joinT (b :: (r ++ [y])) from rfl, h, show joinT (a :: b :: r) = a ++ 44 :: 32 :: joinT (b :: r) from rfl]
   simp
theorem joinT_take {α : Type} {t : α → Bs} {l : List α} {i : Nat} (h : i < l.length) : joinT ((l.take (i + 1)).map t) = joinT ((l.take i).map t) ++ (comT i ++ t l[i]) := by
 rw [map_take h, joinT_snoc]
 congr 2
 unfold comT
 by_cases h0 : i = 0
 ·subst h0; simp
 ·rw [if_neg h0, if_neg]
  intro e
  have := congrArg List.length e
  rw [List.length_map, List.length_take] at this
  simp only [List.length_nil] at this
  omega
theorem comT_len (i : Nat) : (comT i).length ≤ 2 := by unfold comT; split <;> simp
def TxI (b slot n : Nat) (H0 : Heap) (base : Bs) (C : Nat) (F : Nat → Bs) (m : Nat) (a : Tmps) (S' : Heap) : Prop :=
 ∃ (i : Nat) (g : Heap), m = n - i ∧ i ≤ n ∧ S' = H0 ++ g ∧ get a 1 = .ptr b 0 0 ∧ get a 3 = .str (base ++ F i) ∧ (base ++ F i).length ≤ 1000000000000 + i * C ∧ get a slot = .int i
def TxQ (b : Nat) (H0 : Heap) (r : Bs) : AExit → Tmps → Heap → Prop
 | .normal, a, S' => ∃ g, S' = H0 ++ g ∧ get a 1 = .ptr b 0 0 ∧ get a 3 = .str r ∧ r.length ≤ 100000000000000
 | _, _, _ => False
def JF {α : Type} (t : α → Bs) (l : List α) (i : Nat) : Bs := joinT ((l.take i).map t)
theorem JF_zero {α : Type} {t : α → Bs} {l : List α} : JF t l 0 = [] := by simp [JF, joinT]
theorem JF_all {α : Type} {t : α → Bs} {l : List α} : JF t l l.length = joinT (l.map t) := by rw [JF, List.take_length]
theorem JF_succ {α : Type} {t : α → Bs} {l : List α} {i : Nat} (h : i < l.length) : JF t l (i + 1) = JF t l i ++ (comT i ++ t l[i]) := joinT_take h
theorem grow {x y z : Bs} {i C : Nat} (h : x.length ≤ 1000000000000 + i * C) (hz : z = x ++ y) (hy : y.length ≤ C) : z.length ≤ 1000000000000 + (i + 1) * C := by
 rw [hz, List.length_append, Nat.add_mul]; omega
section
variable {b : Nat} {H0 : Heap} {fl : Fl} {a : Tmps} {g0 : Heap} {G : Nat → AVal} {base : Bs}
set_option maxHeartbeats 2000000 in
theorem lt_n {l : List Bs} (hn : l.length ≤ 50) (hl : ∀ x ∈ l, x.length ≤ 32) (hf : Fd b 4 H0 (.list fl (namesC l))) (hb : base.length ≤ 1000000000000) (b1 : get a 1 = .ptr b 0 0) (b3 : get a 3 = .str base) (b5 : get a 6 = .int 0) :
  mwp (ACalls Tryz.prog (B0 w0)) (.block 3 (.loop (f15b1 G))) (TxQ b H0 (base ++ joinT l)) a (H0 ++ g0) := by
 have hid : joinT l = joinT (l.map id) := by rw [List.map_id]
 rw [hid]
 simp only [mwp_block]
 refine mwp_loop (I := TxI b 6 l.length H0 base 100 (JF id l)) ⟨0, g0, rfl, Nat.zero_le _, rfl, b1, by rw [JF_zero, List.append_nil]; exact b3, by rw [JF_zero, List.append_nil]; omega, b5⟩ ?_
 clear b1 b3 b5
 rintro m a S' ⟨i, g, rfl, hi, rfl, b1, b3, hbl, b5⟩
 have hfg := hf g
 have hfu := hfg
 simp at hfu
 by_cases hlt : i < l.length
 ·have hltI : (i : Int) < (l.length : Int) := by omega
  have hwr := wrapS i (by omega)
  have hs := JF_succ (t := id) hlt
  have hg := names_get hlt
  have hle : i < (namesC l).length := by simpa [namesC] using hlt
  have q1 := li_addr (k := 1) (es := namesC l) hle hg rfl fl
  have q2 := li_load (k := 1) (es := namesC l) hle hg rfl false 1 0 (by omega)
  have hl2 := hl _ (List.getElem_mem hlt)
  have hcl := comT_len i
  have hall : base ++ JF id l (i + 1) = (base ++ JF id l i) ++ (comT i ++ l[i]) := by rw [hs, ← List.append_assoc]; rfl
  have hgr := grow hbl hall (by rw [List.length_append]; omega)
  generalize l[i] = y at *
  generalize hacc : base ++ JF id l i = acc at *
  rw [show takeAt false 1 [AVal.str y] 0 = .str y from rfl] at q2
  simp [f15b1, b1, b3, b5, hfg, hltI, q1, q2]
  refine (w42 i _).use ?_
  rintro e S1 ⟨rfl, rfl⟩
  simp [b1, b3, b5, hfg, q1, q2, hwr]
  refine ⟨hfu, by omega, by omega, ?_⟩
  exact ⟨l.length - (i + 1), by omega, i + 1, _, rfl, by omega, rfl, by simp [b1], by rw [hall]; simp, hgr, by simp⟩
 ·have hie : i = l.length := by omega
  subst hie
  rw [JF_all, ← hid] at b3 hbl
  rw [← hid]
  simp [f15b1, b1, b3, b5, hfg]
  exact ⟨g, rfl, by simp [b1], by simp [b3], by omega⟩
set_option maxHeartbeats 2000000 in
theorem lt_z {l : List Asn} {es : List (List AVal)} (hV : Al AsnV l es) (hn : l.length ≤ 50) (hk : ∀ x ∈ l, nameB x.col = true ∧ okE x.e = true) (hw : ∀ x ∈ l, x.e.w ≤ 4000000) (hf : Fd b 17 H0 (.list fl es)) (hb : base.length ≤ 1000000000000) (b1 : get a 1 = .ptr b 0 0) (b3 : get a 3 = .str base) (b5 : get a 9 = .int 0) :
  mwp (ACalls Tryz.prog (B0 w0)) (.block 9 (.loop (f15b4 G))) (TxQ b H0 (base ++ joinT (l.map setT))) a (H0 ++ g0) := by
 simp only [mwp_block]
 refine mwp_loop (I := TxI b 9 l.length H0 base 6000000000 (JF setT l)) ⟨0, g0, rfl, Nat.zero_le _, rfl, b1, by rw [JF_zero, List.append_nil]; exact b3, by rw [JF_zero, List.append_nil]; omega, b5⟩ ?_
 clear b1 b3 b5
 rintro m a S' ⟨i, g, rfl, hi, rfl, b1, b3, hbl, b5⟩
 have hfg := hf g
 have hfu := hfg
 simp at hfu
 by_cases hlt : i < l.length
 ·have hltI : (i : Int) < (l.length : Int) := by omega
  have hwr := wrapS i (by omega)
  have hs := JF_succ (t := setT) hlt
  have hmem := List.getElem_mem hlt
  obtain ⟨ev, hev, he⟩ := hV.2 i hlt
  have hle : i < es.length := by have := hV.1; omega
  have hkx := hk _ hmem
  have hwx := hw _ hmem
  have h43 := fun S => w43 (w0 := w0) 4000000 (by omega) l[i].e hwx hkx.2 ev hev S
  have hl1 := nameB_len hkx.1
  have hl2 := textE_le hkx.2 hwx
  have hl3 := setT_le hkx.1 hkx.2 hwx
  have q1 := li_addr (k := 8) (es := es) hle he (by simp [ExV_len hev]) fl
  have q2 := li_load (k := 8) (es := es) hle he (by simp [ExV_len hev]) true 7 1 (by omega)
  have q3 := li_load (k := 8) (es := es) hle he (by simp [ExV_len hev]) false 1 0 (by omega)
  have hcl := comT_len i
  have hall : base ++ JF setT l (i + 1) = (base ++ JF setT l i) ++ (comT i ++ setT l[i]) := by rw [hs, ← List.append_assoc]
  have hgr := grow hbl hall (by rw [List.length_append]; omega)
  generalize l[i] = y at *
  generalize hacc : base ++ JF setT l i = acc at *
  obtain ⟨fl', es', k', n', s', t', q', rfl⟩ := ExV_cells hev
  have t2 : takeAt true 7 (.str y.col :: [.int (opOf y.e), .list fl' es', .int k', .int n', .int s', .str t', .str q'] : List AVal) 1 = .agg [.int (opOf y.e), .list fl' es', .int k', .int n', .int s', .str t', .str q'] := by simp [takeAt]
  have t3 : takeAt false 1 (.str y.col :: [.int (opOf y.e), .list fl' es', .int k', .int n', .int s', .str t', .str q'] : List AVal) 0 = .str y.col := by simp [takeAt]
  rw [t2] at q2
  rw [t3] at q3
  simp [f15b4, b1, b3, b5, hfg, hV.1, hltI, q1, q2, q3]
  refine (w42 i _).use ?_
  rintro e S1 ⟨rfl, rfl⟩
  simp [b1, b3, b5, hfg, q1, q2, q3]
  refine ⟨hfu, by omega, by omega, ?_⟩
  refine (h43 _).use ?_
  rintro e S1 ⟨rfl, rfl⟩
  simp [b1, b3, b5, hfg, q1, q2, q3, hwr]
  refine ⟨⟨by omega, by omega, hfu⟩, by omega, by omega, ?_⟩
  exact ⟨l.length - (i + 1), by omega, i + 1, _, rfl, by omega, rfl, by simp [b1], by rw [hall]; simp [setT], hgr, by simp⟩
 ·have hie : i = l.length := by omega
  subst hie
  rw [JF_all] at b3 hbl
  simp [f15b4, b1, b3, b5, hfg, hV.1]
  exact ⟨g, rfl, by simp [b1], by simp [b3], by omega⟩
set_option maxHeartbeats 4000000 in
theorem lt_c {l : List Pz.Col} {q : Nat} (hn : l.length ≤ 50) (hk : ∀ x ∈ l, colB x = true) (hf : Fd b 3 H0 (.list fl (pcolsC l))) (ht : ∀ (n : Nat), 1 ≤ n → n ≤ 4 → ∀ g : Heap, loadR false 1 (H0 ++ g) (.ptr q 0 n) = .ok true (.str (32 :: typeT (n : Int))) (H0 ++ g)) (hb : base.length ≤ 1000000000000) (b1 : get a 1 = .ptr b 0 0) (b3 : get a 3 = .str base) (b4 : get a 4 = .ptr q 0 0) (b5 : get a 5 = .int 0) :
  mwp (ACalls Tryz.prog (B0 w0)) (.block 1 (.loop (f15b0 G))) (TxQ b H0 (base ++ joinT (l.map colT))) a (H0 ++ g0) := by
 simp only [mwp_block]
 refine mwp_loop (I := fun m a S' => TxI b 5 l.length H0 base 100 (JF colT l) m a S' ∧ get a 4 = .ptr q 0 0) ⟨⟨0, g0, rfl, Nat.zero_le _, rfl, b1, by rw [JF_zero, List.append_nil]; exact b3, by rw [JF_zero, List.append_nil]; omega, b5⟩, b4⟩ ?_
 clear b1 b3 b5 b4
 rintro m a S' ⟨⟨i, g, rfl, hi, rfl, b1, b3, hbl, b5⟩, b4⟩
 have hfg := hf g
 have hfu := hfg
 simp at hfu
 by_cases hlt : i < l.length
 ·have hltI : (i : Int) < (l.length : Int) := by omega
  have hwr := wrapS i (by omega)
  have hs := JF_succ (t := colT) hlt
  have hg := pcols_get hlt
  have hle : i < (pcolsC l).length := by simpa [pcolsC] using hlt
  have q1 := li_addr (k := 3) (es := pcolsC l) hle hg rfl fl
  have q2 := li_load (k := 3) (es := pcolsC l) hle hg rfl false 1 0 (by omega)
  have q3 := li_load (k := 3) (es := pcolsC l) hle hg rfl false 1 1 (by omega)
  have q4 := li_load (k := 3) (es := pcolsC l) hle hg rfl false 1 2 (by omega)
  have hkx := hk _ (List.getElem_mem hlt)
  have hcl := comT_len i
  have hl2 := colT_len hkx
  have hall : base ++ JF colT l (i + 1) = (base ++ JF colT l i) ++ (comT i ++ colT l[i]) := by rw [hs, ← List.append_assoc]
  have hgr := grow hbl hall (by rw [List.length_append]; omega)
  generalize l[i] = y at *
  generalize hacc : base ++ JF colT l i = acc at *
  obtain ⟨name, type, req⟩ := y
  have hkx0 := hkx
  simp only [colB, Bool.and_eq_true, decide_eq_true_eq] at hkx
  obtain ⟨⟨h1, h2⟩, h3⟩ := hkx
  have hnl := nameB_len h1
  obtain ⟨n, rfl⟩ : ∃ n : Nat, type = n := ⟨type.toNat, by omega⟩
  have htn := ht n (by omega) (by omega) g
  have htl : (typeT (n : Int)).length ≤ 4 := by
   have hc : n = 1 ∨ n = 2 ∨ n = 3 ∨ n = 4 := by omega
   rcases hc with rfl | rfl | rfl | rfl <;> decide
  have htu := htn
  simp at htu
  have h0n : (0 : Int) ≤ (n : Int) := by omega
  have h5n : (n : Int) < 5 := by omega
  have h5n' : n < 5 := by omega
  rw [show takeAt false 1 (pcolC ⟨name, (n : Int), req⟩) 0 = .str name from by simp [pcolC, takeAt]] at q2
  rw [show takeAt false 1 (pcolC ⟨name, (n : Int), req⟩) 1 = .int n from by simp [pcolC, takeAt]] at q3
  rw [show takeAt false 1 (pcolC ⟨name, (n : Int), req⟩) 2 = .bool req from by simp [pcolC, takeAt]] at q4
  simp [f15b0, b1, b3, b4, b5, hfg, hltI, q1, q2, q3, q4, h0n, h5n, h5n', htn]
  refine (w42 i _).use ?_
  rintro e S1 ⟨rfl, rfl⟩
  cases req with
  | false =>
    simp [b1, b3, b4, b5, hfg, q1, q2, q3, q4, h0n, h5n, h5n', htn, hwr]
    refine ⟨⟨htu, hfu⟩, by omega, by omega, by omega, ?_⟩
    exact ⟨l.length - (i + 1), by omega, i + 1, _, rfl, by omega, rfl, by simp [b1], by rw [hall]; simp [colT], hgr, by simp⟩
  | true =>
    simp [b1, b3, b4, b5, hfg, q1, q2, q3, q4, h0n, h5n, h5n', htn, hwr]
    refine ⟨⟨htu, hfu⟩, by omega, by omega, by omega, by omega, ?_⟩
    exact ⟨l.length - (i + 1), by omega, i + 1, _, rfl, by omega, rfl, by simp [b1], by rw [hall]; simp [colT], hgr, by simp⟩
 ·have hie : i = l.length := by omega
  subst hie
  rw [JF_all] at b3 hbl
  simp [f15b0, b1, b3, b5, hfg]
  exact ⟨g, rfl, by simp [b1], by simp [b3], by omega⟩
end
end Go.Abs
