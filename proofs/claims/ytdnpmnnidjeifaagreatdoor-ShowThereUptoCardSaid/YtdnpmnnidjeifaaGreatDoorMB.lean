/- Walks of the seat's functions, and their plain laws. Conditions: none but the lengths and the tables; definitions and lemmas. -/
import Derived.Test.YtdnpmnnidjeifaaGreatDoorA34
import Derived.Shelf.Strings.OnBuilder
import Derived.Shelf.Strings.Search1
import Derived.Shelf.Strings.Search3
import Derived.Shelf.Strings.Replace
import Derived.Shelf.Small.Strs
import Derived.Shelf.Small.Wraps
import Derived.Shelf.Strconv.Itoa4
import Derived.Test.YtdnpmnnidjeifaaGreatDoorProg
import Derived.Lib.Case
import Derived.Test.YtdnpmnnidjeifaaGreatDoorMA
import Derived.Test.YtdnpmnnidjeifaaGreatDoorA32
import Derived.KernelRfl
import Derived.Test.YtdnpmnnidjeifaaGreatDoorA33
import Derived.Test.YtdnpmnnidjeifaaGreatDoorA31
import Derived.Test.YtdnpmnnidjeifaaGreatDoorA37
import Derived.Test.YtdnpmnnidjeifaaGreatDoorA38
set_option linter.unusedVariables false
namespace Go.Abs
open Go Go.RowKit
mutual
def szV : AVal → Nat
 | .list _ es => 1 + szLL es
 | _ => 0
def szL : List AVal → Nat
 | [] => 0
 | v :: r => szV v + szL r
def szLL : List (List AVal) → Nat
 | [] => 0
 | e :: r => 1 + szL e + szLL r
end
theorem szL_app : ∀ (a b : List AVal),szL (a ++ b) = szL a + szL b
 | [],b => by simp [szL]
 | v :: r,b => by simp only [List.cons_append,szL,szL_app r b]; omega
structure Bulk {H : Type} (μ : DataW H → Nat) : Prop where
 pos : ∀ d,1 ≤ μ d
 sl : ∀ xs ys,(xs.map μ).sum + 1 ≤ μ (.slice xs ys)
 ag : ∀ xs,(xs.map μ).sum + 1 ≤ μ (.agg xs)
def Rd2 {H : Type} (P : Program) (B : Nat) (W : World) (μ : DataW H → Nat) (t : TypeId) (d : DataW H) (cs : List Value) : Prop := ∃ av,Okv P B t av ∧ RdC W cs av ∧ szL av + 1 ≤ 2 * μ d
section
variable {H : Type} {enc : TypeId × Value → H} {P : Program} {W : World} {sp : Nat → Bool} {held : Bool}
variable {B : Nat} {Q : TypeId → DataW H → Prop} {μ : DataW H → Nat}
theorem elems_rd2 {e k f : Nat} {a : Addr} (ih : ∀ {cs : List Value} {d : DataW H} {ps : List MemPlace},DataW.trod enc P W 0 sp held f e cs = some (d,ps) → Q e d → Rd2 P B W μ e d cs) : ∀ (is : List Nat) {xs : List (DataW H × List MemPlace)},
  is.mapM (fun i => (W.cells? 0 (a.add (i * k)) k).bind (DataW.trod enc P W 0 sp held f e)) = some xs → (∀ x ∈ xs.map (·.1),Q e x) →
  ∃ es : List (List AVal),es.length = is.length ∧ szLL es ≤ 2 * ((xs.map (·.1)).map μ).sum ∧
   ∀ (j : Nat) (hj : j < is.length),Okv P B e (es.getD j []) ∧ (es.getD j []).length = k ∧ ∀ q,q < k → ∃ v,W.cell? ((a.add (is[j] * k)).add q) = some v ∧ v.oneCell' = true ∧ Rel (WF W) (fun _ => none) (cellAt es j q) v
 | [],xs,h,_ => ⟨[],rfl,by simp [szLL],fun j hj => by simp at hj⟩
 | i :: r,xs,h,hw => by
   simp only [List.mapM_cons,Option.bind_eq_bind,Option.bind_eq_some_iff,Option.pure_def,Option.some.injEq] at h
   obtain ⟨x,⟨cs,hcs,hx⟩,ys,hys,rfl⟩ := h
   obtain ⟨d,ps⟩ := x
   obtain ⟨av,hok,⟨hl,hrel⟩,hz⟩ := ih hx (hw d (by simp))
   obtain ⟨es,e1,ez,e4⟩ := elems_rd2 ih r hys (fun x hx => hw x (by simp only [List.map_cons]; exact List.mem_cons_of_mem _ hx))
   obtain ⟨hcl,hcell⟩ := cells_spec hcs
   refine ⟨av :: es,by simp [e1],by simp only [szLL,List.map_cons,List.sum_cons]; omega,fun j hj => ?_⟩
   cases j with
   | zero => exact ⟨hok,by simp; omega,fun q hq => ⟨_,hcell q hq,(hrel q (by omega)).1,(hrel q (by omega)).2⟩⟩
   | succ j => exact e4 j (by simpa using hj)
theorem fields_rd2 {ts : List TypeId} {f : Nat} (ih : ∀ {t : TypeId} {cs : List Value} {d : DataW H} {ps : List MemPlace},t ∈ ts → DataW.trod enc P W 0 sp held f t cs = some (d,ps) → Q t d → Rd2 P B W μ t d cs) {cs : List Value} : ∀ (fl : List Field) (o : Nat) {xs : List (DataW H × List MemPlace)},
  (∀ g ∈ fl,g.type ∈ ts) → tileB P cs.length o fl = true →
  (fl.mapM fun g => DataW.trod enc P W 0 sp held f g.type ((cs.drop g.offset).take (P.cellsOf g.type))) = some xs → (∀ i (hi : i < fl.length) (hx : i < (xs.map (·.1)).length),Q (fl[i]).type (xs.map (·.1))[i]) →
  ∃ parts : List (List AVal),parts.length = fl.length ∧ (∀ i (hi : i < fl.length),Okv P B (fl[i]).type (parts.getD i [])) ∧ RdC W (cs.drop o) parts.flatten ∧ szL parts.flatten ≤ 2 * ((xs.map (·.1)).map μ).sum
 | [],o,xs,hts,ht,h,_ => by
   simp only [tileB,decide_eq_true_eq] at ht
   exact ⟨[],rfl,fun i hi => by simp at hi,by subst ht; rw [List.drop_length]; exact RdC.nil,by simp [szL]⟩
 | g :: r,o,xs,hts,ht,h,hw => by
   simp only [tileB,Bool.and_eq_true,decide_eq_true_eq] at ht
   obtain ⟨ho,ht⟩ := ht
   simp only [List.mapM_cons,Option.bind_eq_bind,Option.bind_eq_some_iff,Option.pure_def,Option.some.injEq] at h
   obtain ⟨x,hx,ys,hys,rfl⟩ := h
   obtain ⟨d,ps⟩ := x
   obtain ⟨av,hok,hrd,hz⟩ := ih (hts g (by simp)) hx (hw 0 (by simp) (by simp))
   obtain ⟨parts,e1,e2,e3,ez⟩ := fields_rd2 ih r (o + P.cellsOf g.type) (fun g' hg => hts g' (by simp [hg])) ht hys (fun i hi hx => by
    have := hw (i + 1) (by simpa using hi) (by simpa using hx)
    simpa using this)
   refine ⟨av :: parts,by simp [e1],fun i hi => ?_,?_,by simp only [List.flatten_cons,szL_app,List.map_cons,List.sum_cons]; omega⟩
   ·cases i with
    | zero => exact hok
    | succ i => exact e2 i (by simpa using hi)
   ·have := hrd.app e3
    rw [ho,← List.drop_drop,List.take_append_drop] at this
    simpa using this
variable (hB : Bulk μ)
include hB
theorem read_all2 {ts : List TypeId} (hts : closedB P ts = true) (hQ : Meas P B Q) : ∀ (fuel : Nat) {t : TypeId} {cs : List Value} {d : DataW H} {ps : List MemPlace},t ∈ ts → DataW.trod enc P W 0 sp held fuel t cs = some (d,ps) → Q t d → Rd2 P B W μ t d cs
 | 0,t,cs,d,ps,_,h,_ => by simp [DataW.trod] at h
 | f + 1,t,cs,d,ps,ht,h,hw => by
   have hc := List.all_eq_true.1 hts t ht
   cases hu : P.underlying t with
   | none => simp [hu] at hc
   | some td =>
     rw [hu] at hc
     cases td with
     | bool =>
       simp only [DataW.trod,hu] at h
       split at h <;> try (simp_all; done)
       all_goals (try (simp at *; done))
       rename_i b hcs
       exact ⟨_,.bool hu b,RdC.one rfl (.atom _),by have := hB.pos d; simp [szL,szV]; omega⟩
     | int k =>
       simp only [DataW.trod,hu] at h
       split at h <;> try (simp_all; done)
       rename_i k1 k2 n hk
       simp only [Option.some.injEq,TypeDesc.int.injEq] at hk
       subst hk
       split at h
       ·rename_i hkw
        obtain ⟨rfl,hn⟩ := hkw
        exact ⟨_,.int hu n hn,RdC.one rfl (.atom _),by have := hB.pos d; simp [szL,szV]; omega⟩
       ·cases h
     | string =>
       simp only [DataW.trod,hu] at h
       split at h <;> try (simp_all; done)
       rename_i s hcs
       split at h
       ·simp only [Option.some.injEq,Prod.mk.injEq] at h
        obtain ⟨rfl,_⟩ := h
        have := hQ.str hw
        refine ⟨_,.str hu s.data.toList this,RdC.one rfl ?_,by have := hB.pos (.lit (.string s.data.toList)); simp only [szL,szV]; omega⟩
        have := Rel.str (F := WF W) (m := fun _ => none) s.data.toList
        simpa using this
       ·cases h
     | slice e =>
       simp only [Bool.and_eq_true,decide_eq_true_eq,List.contains_iff_mem] at hc
       obtain ⟨⟨⟨_,hmem⟩,hk0⟩,hb0⟩ := hc
       simp only [DataW.trod,hu] at h
       split at h <;> try (simp_all; done)
       ·exact ⟨_,.nils hu,RdC.one rfl (.nil 0 rfl),by have := hB.pos d; simp [szL,szV,szLL]; omega⟩
       ·rename_i e' a len cap he'
        simp only [Option.some.injEq,TypeDesc.slice.injEq] at he'
        subst he'
        split at h
        rotate_left 1
        ·cases h
        rename_i hcond
        simp only [Option.bind_eq_some_iff,Option.map_eq_some_iff] at h
        obtain ⟨xs,hxs,rest,hrest,he⟩ := h
        simp only [Prod.mk.injEq] at he
        rw [← he.1] at hw
        obtain ⟨hwl,hwB,hwe⟩ := hQ.sl hu hb0 hw
        have hxl := mapM_some_length hxs
        simp only [List.length_range] at hxl
        obtain ⟨es,e1,ez,e4⟩ := elems_rd2 (enc := enc) (sp := sp) (held := held) (Q := Q) (B := B) (fun h hw => read_all2 hts hQ f hmem h hw) _ hxs hwe
        simp only [List.length_range] at e1 e4
        generalize hkk : P.cellsOf e = k at *
        have hrow : ∀ (j q : Nat),j < len → q < k → ∃ v,W.cell? ((a.add (j * k)).add q) = some v ∧ v.oneCell' = true ∧ Rel (WF W) (fun _ => none) (cellAt es j q) v := fun j q hj hq => by
         have := (e4 j hj).2.2 q hq
         simpa using this
        have hadd : ∀ j q,0 < len → j < len → q < k → a.spot = none ∧ (a.add (j * k)).add q = ⟨a.block,a.off + (j * k + q),none⟩ := fun j q h0 hj hq => by
         obtain ⟨v,hv,_⟩ := hrow 0 0 h0 (by omega)
         have hs : a.spot = none := by
          simp [Addr.add,World.cell?] at hv
          split at hv
          ·split at hv
           ·cases hv
           ·rename_i hh; simpa using hh
          ·cases hv
         refine ⟨hs,?_⟩
         obtain ⟨ab,ao,as'⟩ := a
         simp only at hs
         subst hs
         unfold Addr.add
         by_cases h1 : j * k = 0 <;> by_cases h2 : q = 0 <;> simp [h1,h2] <;> omega
        let vs : Nat → Nat → Value := fun j q => (W.cell? ⟨a.block,a.off + (j * k + q),none⟩).getD undef
        have hvs : ∀ j q,j < len → q < k → W.cell? ⟨a.block,a.off + (j * k + q),none⟩ = some (vs j q) ∧ (vs j q).oneCell' = true ∧ Rel (WF W) (fun _ => none) (cellAt es j q) (vs j q) := fun j q hj hq => by
         obtain ⟨v,hv,h1,hr⟩ := hrow j q hj hq
         rw [(hadd j q (by omega) hj hq).2] at hv
         have : vs j q = v := by simp [vs,hv]
         rw [this]; exact ⟨hv,h1,hr⟩
        refine ⟨[.list .any es],.slice hu es (fun i hi => (e4 i (by omega)).1) (fun i hi => by rw [hkk]; exact (e4 i (by omega)).2.1) ?_ (by rw [List.length_map] at hwB; omega),RdC.one rfl ?_,?_⟩
        ·refine Nat.le_trans (Nat.mul_le_mul_right _ ?_) hwl
         simp; omega
        ·refine .list .any es (some a) len cap a.block a.off k vs (by simp) (by omega) hcond.2.1 (by simp [Fl.isFull]) (fun e he => ?_) hk0 (fun _ => rfl) (fun h => by cases h) (fun hne => ?_) (fun j q hj hq => (hvs j q (by omega) hq).2.1) (fun j q hj hq => (hvs j q (by omega) hq).1) (fun j q hj hq => (hvs j q (by omega) hq).2.2)
         ·obtain ⟨i,hi,rfl⟩ := List.getElem_of_mem he
          have := (e4 i (by omega)).2.1
          rwa [getD_eq _ _ _ hi] at this
         ·have h0 : 0 < len := by
           have : es.length ≠ 0 := fun h => hne (List.eq_nil_of_length_eq_zero h)
           omega
          have := (hadd 0 0 h0 h0 (by omega)).1
          obtain ⟨ab,ao,as'⟩ := a
          simp only at this
          subst this
          rfl
        ·have := hB.sl (xs.map (·.1)) (rest.map (·.1))
         rw [← he.1]
         simp only [szL,szV]
         omega
     | struct fs =>
       simp only [Bool.and_eq_true,List.all_eq_true,List.contains_iff_mem] at hc
       simp only [DataW.trod,hu] at h
       split at h
       rotate_left 1
       ·cases h
       rename_i hlen
       simp only [Option.map_eq_some_iff] at h
       obtain ⟨xs,hx,he⟩ := h
       simp only [Prod.mk.injEq] at he
       rw [← he.1] at hw
       obtain ⟨parts,e1,e2,e3,ez⟩ := fields_rd2 (ts := ts) (Q := Q) (B := B) (fun ht h hw => read_all2 hts hQ f ht h hw) fs.toList 0 (fun g hg => hc.1 g (by simpa using hg)) (by rw [hlen]; exact hc.2) hx (hQ.ag hu hw)
       exact ⟨parts.flatten,.struct hu parts e1 e2,by simpa using e3,by have := hB.ag (xs.map (·.1)); rw [← he.1]; omega⟩
     | _ => simp at hc
end
end Go.Abs
namespace Go.Proofs
open Go.Shelf Go.RowKit
def Tryz.lays158_ren : Go.Shelf.Ren := ⟨fun | 158 => 136 | 165 => 87 | 166 => 88 | 167 => 145 | 169 => 89 | 230 => 146 | 203 => 161 | 240 => 134 | 241 => 135 | 197 => 153 | 118 => 168 | 168 => 169 | 270 => 170 | 262 => 171 | 276 => 159 | 277 => 160 | 260 => 172 | 242 => 184 | 313 => 185 | 278 => 196 | 274 => 197 | 275 => 198 | n => n,fun | 9 => 9 | 4 => 4 | 3 => 3 | 5 => 5 | 72 => 119 | 0 => 0 | 76 => 123 | 75 => 122 | 107 => 162 | 70 => 116 | 20 => 20 | 37 => 117 | 127 => 153 | 21 => 21 | 105 => 165 | 164 => 169 | 162 => 193 | 203 => 191 | 119 => 194 | 46 => 173 | 139 => 197 | 138 => 196 | 51 => 187 | 160 => 205 | 208 => 213 | 206 => 211 | 80 => 115 | n => n,fun | 13 => 1 | 3 => 2 | 4 => 3 | n => n⟩
theorem Tryz.lays158 : Go.Proofs.Lays.n158 Tryz.prog Tryz.lays158_ren := {
 mixed := by kernel_rfl
 f118 := Tryz.func168.trans (congrArg some (by kernel_rfl))
 f158 := Tryz.func136.trans (congrArg some (by kernel_rfl))
 f165 := Tryz.func87.trans (congrArg some (by kernel_rfl))
 f166 := Tryz.func88.trans (congrArg some (by kernel_rfl))
 f167 := Tryz.func145.trans (congrArg some (by kernel_rfl))
 f168 := Tryz.func169.trans (congrArg some (by kernel_rfl))
 f169 := Tryz.func89.trans (congrArg some (by kernel_rfl))
 f197 := Tryz.func153.trans (congrArg some (by kernel_rfl))
 f203 := Tryz.func161.trans (congrArg some (by kernel_rfl))
 f230 := Tryz.func146.trans (congrArg some (by kernel_rfl))
 f240 := Tryz.func134.trans (congrArg some (by kernel_rfl))
 f241 := Tryz.func135.trans (congrArg some (by kernel_rfl))
 f242 := Tryz.func184.trans (congrArg some (by kernel_rfl))
 f260 := Tryz.func172.trans (congrArg some (by kernel_rfl))
 f262 := Tryz.func171.trans (congrArg some (by kernel_rfl))
 f270 := Tryz.func170.trans (congrArg some (by kernel_rfl))
 f274 := Tryz.func197.trans (congrArg some (by kernel_rfl))
 f275 := Tryz.func198.trans (congrArg some (by kernel_rfl))
 f276 := Tryz.func159.trans (congrArg some (by kernel_rfl))
 f277 := Tryz.func160.trans (congrArg some (by kernel_rfl))
 f278 := Tryz.func196.trans (congrArg some (by kernel_rfl))
 f313 := Tryz.func185.trans (congrArg some (by kernel_rfl))
 t0 := Tryz.underlying0
 a0 := Tryz.isAgg0
 z0 := Tryz.sizeOf0
 v0 := Tryz.zeroValue0
 t3 := Tryz.underlying3
 a3 := Tryz.isAgg3
 z3 := Tryz.sizeOf3
 v3 := Tryz.zeroValue3
 t4 := Tryz.underlying4
 a4 := Tryz.isAgg4
 z4 := Tryz.sizeOf4
 v4 := Tryz.zeroValue4
 t5 := Tryz.underlying5
 a5 := Tryz.isAgg5
 z5 := Tryz.sizeOf5
 v5 := Tryz.zeroValue5
 t9 := Tryz.underlying9
 a9 := Tryz.isAgg9
 z9 := Tryz.sizeOf9
 v9 := Tryz.zeroValue9
 t20 := Tryz.underlying20
 a20 := Tryz.isAgg20
 z20 := Tryz.sizeOf20
 v20 := Tryz.zeroValue20
 t21 := Tryz.underlying21
 a21 := Tryz.isAgg21
 z21 := Tryz.sizeOf21
 v21 := Tryz.zeroValue21
 t37 := Tryz.underlying117
 a37 := Tryz.isAgg117
 z37 := Tryz.sizeOf117
 v37 := Tryz.zeroValue117
 t46 := Tryz.underlying173
 a46 := Tryz.isAgg173
 z46 := Tryz.sizeOf173
 v46 := Tryz.zeroValue173
 t51 := Tryz.underlying187
 a51 := Tryz.isAgg187
 z51 := Tryz.sizeOf187
 v51 := Tryz.zeroValue187
 t70 := Tryz.underlying116
 a70 := Tryz.isAgg116
 z70 := Tryz.sizeOf116
 v70 := Tryz.zeroValue116
 t72 := Tryz.underlying119
 a72 := Tryz.isAgg119
 z72 := Tryz.sizeOf119
 v72 := Tryz.zeroValue119
 t75 := Tryz.underlying122
 a75 := Tryz.isAgg122
 z75 := Tryz.sizeOf122
 v75 := Tryz.zeroValue122
 t76 := Tryz.underlying123
 a76 := Tryz.isAgg123
 z76 := Tryz.sizeOf123
 v76 := Tryz.zeroValue123
 t105 := Tryz.underlying165
 a105 := Tryz.isAgg165
 z105 := Tryz.sizeOf165
 v105 := Tryz.zeroValue165
 t107 := Tryz.underlying162
 a107 := Tryz.isAgg162
 z107 := Tryz.sizeOf162
 v107 := Tryz.zeroValue162
 t119 := Tryz.underlying194
 a119 := Tryz.isAgg194
 z119 := Tryz.sizeOf194
 t127 := Tryz.underlying153
 a127 := Tryz.isAgg153
 z127 := Tryz.sizeOf153
 v127 := Tryz.zeroValue153
 t138 := Tryz.underlying196
 a138 := Tryz.isAgg196
 z138 := Tryz.sizeOf196
 v138 := Tryz.zeroValue196
 t139 := Tryz.underlying197
 a139 := Tryz.isAgg197
 z139 := Tryz.sizeOf197
 v139 := Tryz.zeroValue197
 t160 := Tryz.underlying205
 a160 := Tryz.isAgg205
 z160 := Tryz.sizeOf205
 v160 := Tryz.zeroValue205
 t162 := Tryz.underlying193
 a162 := Tryz.isAgg193
 z162 := Tryz.sizeOf193
 v162 := Tryz.zeroValue193
 t164 := Tryz.underlying169
 a164 := Tryz.isAgg169
 z164 := Tryz.sizeOf169
 v164 := Tryz.zeroValue169
 t203 := Tryz.underlying191
 a203 := Tryz.isAgg191
 z203 := Tryz.sizeOf191
 v203 := Tryz.zeroValue191
 t206 := Tryz.underlying211
 a206 := Tryz.isAgg211
 z206 := Tryz.sizeOf211
 v206 := Tryz.zeroValue211
 t208 := Tryz.underlying213
 a208 := Tryz.isAgg213
 z208 := Tryz.sizeOf213
 v208 := Tryz.zeroValue213
 g3 := by kernel_rfl
 g4 := by kernel_rfl
 g13 := by kernel_rfl }
theorem Tryz.Builder_Extra_158 : Builder.Extra Tryz.prog Tryz.lays158_ren := {
 sizeBuilder := by kernel_rfl
 liesBuilder := by kernel_rfl
 t5 := Tryz.underlying5
 a5 := Tryz.isAgg5
 z5 := Tryz.sizeOf5
 v5 := Tryz.zeroValue5
 infoByte := by kernel_rfl
 cellsByte := by kernel_rfl
 sizeByte := by kernel_rfl
 neB5 := by decide }
theorem Tryz.strings_ToUpper_ascii (s : ByteArray) (w : World) (hs : s.size ≤ 140737488355328) (hascii : ∀ (j : Nat) (b : UInt8),s.data.toList[j]? = some b → b.toNat < 128) :
  Calls Tryz.prog 136 #[.string s] w fun e w' => e = .returned (.string ⟨(Lib.toUpperA s.data.toList).toArray⟩) ∧ Below w.heap.size w w' := Any.strings_ToUpper_ascii Tryz.lays158 Tryz.Builder_Extra_158 s w hs hascii
def Tryz.lays159_ren : Go.Shelf.Ren := ⟨fun | 159 => 104 | 165 => 87 | 166 => 88 | 167 => 145 | 169 => 89 | 230 => 146 | 204 => 147 | 240 => 134 | 241 => 135 | 197 => 153 | 118 => 168 | 168 => 169 | 270 => 170 | 262 => 171 | 276 => 159 | 277 => 160 | 260 => 172 | 242 => 184 | 313 => 185 | 278 => 196 | 274 => 197 | 275 => 198 | n => n,fun | 9 => 9 | 4 => 4 | 3 => 3 | 5 => 5 | 72 => 119 | 0 => 0 | 76 => 123 | 75 => 122 | 107 => 162 | 70 => 116 | 20 => 20 | 37 => 117 | 127 => 153 | 21 => 21 | 105 => 165 | 164 => 169 | 162 => 193 | 203 => 191 | 119 => 194 | 46 => 173 | 139 => 197 | 138 => 196 | 51 => 187 | 160 => 205 | 208 => 213 | 206 => 211 | 80 => 115 | n => n,fun | 13 => 1 | 3 => 2 | 4 => 3 | n => n⟩
theorem Tryz.lays159 : Go.Proofs.Lays.n159 Tryz.prog Tryz.lays159_ren := {
 mixed := by kernel_rfl
 f118 := Tryz.func168.trans (congrArg some (by kernel_rfl))
 f159 := Tryz.func104.trans (congrArg some (by kernel_rfl))
 f165 := Tryz.func87.trans (congrArg some (by kernel_rfl))
 f166 := Tryz.func88.trans (congrArg some (by kernel_rfl))
 f167 := Tryz.func145.trans (congrArg some (by kernel_rfl))
 f168 := Tryz.func169.trans (congrArg some (by kernel_rfl))
 f169 := Tryz.func89.trans (congrArg some (by kernel_rfl))
 f197 := Tryz.func153.trans (congrArg some (by kernel_rfl))
 f204 := Tryz.func147.trans (congrArg some (by kernel_rfl))
 f230 := Tryz.func146.trans (congrArg some (by kernel_rfl))
 f240 := Tryz.func134.trans (congrArg some (by kernel_rfl))
 f241 := Tryz.func135.trans (congrArg some (by kernel_rfl))
 f242 := Tryz.func184.trans (congrArg some (by kernel_rfl))
 f260 := Tryz.func172.trans (congrArg some (by kernel_rfl))
 f262 := Tryz.func171.trans (congrArg some (by kernel_rfl))
 f270 := Tryz.func170.trans (congrArg some (by kernel_rfl))
 f274 := Tryz.func197.trans (congrArg some (by kernel_rfl))
 f275 := Tryz.func198.trans (congrArg some (by kernel_rfl))
 f276 := Tryz.func159.trans (congrArg some (by kernel_rfl))
 f277 := Tryz.func160.trans (congrArg some (by kernel_rfl))
 f278 := Tryz.func196.trans (congrArg some (by kernel_rfl))
 f313 := Tryz.func185.trans (congrArg some (by kernel_rfl))
 t0 := Tryz.underlying0
 a0 := Tryz.isAgg0
 z0 := Tryz.sizeOf0
 v0 := Tryz.zeroValue0
 t3 := Tryz.underlying3
 a3 := Tryz.isAgg3
 z3 := Tryz.sizeOf3
 v3 := Tryz.zeroValue3
 t4 := Tryz.underlying4
 a4 := Tryz.isAgg4
 z4 := Tryz.sizeOf4
 v4 := Tryz.zeroValue4
 t5 := Tryz.underlying5
 a5 := Tryz.isAgg5
 z5 := Tryz.sizeOf5
 v5 := Tryz.zeroValue5
 t9 := Tryz.underlying9
 a9 := Tryz.isAgg9
 z9 := Tryz.sizeOf9
 v9 := Tryz.zeroValue9
 t20 := Tryz.underlying20
 a20 := Tryz.isAgg20
 z20 := Tryz.sizeOf20
 v20 := Tryz.zeroValue20
 t21 := Tryz.underlying21
 a21 := Tryz.isAgg21
 z21 := Tryz.sizeOf21
 v21 := Tryz.zeroValue21
 t37 := Tryz.underlying117
 a37 := Tryz.isAgg117
 z37 := Tryz.sizeOf117
 v37 := Tryz.zeroValue117
 t46 := Tryz.underlying173
 a46 := Tryz.isAgg173
 z46 := Tryz.sizeOf173
 v46 := Tryz.zeroValue173
 t51 := Tryz.underlying187
 a51 := Tryz.isAgg187
 z51 := Tryz.sizeOf187
 v51 := Tryz.zeroValue187
 t70 := Tryz.underlying116
 a70 := Tryz.isAgg116
 z70 := Tryz.sizeOf116
 v70 := Tryz.zeroValue116
 t72 := Tryz.underlying119
 a72 := Tryz.isAgg119
 z72 := Tryz.sizeOf119
 v72 := Tryz.zeroValue119
 t75 := Tryz.underlying122
 a75 := Tryz.isAgg122
 z75 := Tryz.sizeOf122
 v75 := Tryz.zeroValue122
 t76 := Tryz.underlying123
 a76 := Tryz.isAgg123
 z76 := Tryz.sizeOf123
 v76 := Tryz.zeroValue123
 t105 := Tryz.underlying165
 a105 := Tryz.isAgg165
 z105 := Tryz.sizeOf165
 v105 := Tryz.zeroValue165
 t107 := Tryz.underlying162
 a107 := Tryz.isAgg162
 z107 := Tryz.sizeOf162
 v107 := Tryz.zeroValue162
 t119 := Tryz.underlying194
 a119 := Tryz.isAgg194
 z119 := Tryz.sizeOf194
 t127 := Tryz.underlying153
 a127 := Tryz.isAgg153
 z127 := Tryz.sizeOf153
 v127 := Tryz.zeroValue153
 t138 := Tryz.underlying196
 a138 := Tryz.isAgg196
 z138 := Tryz.sizeOf196
 v138 := Tryz.zeroValue196
 t139 := Tryz.underlying197
 a139 := Tryz.isAgg197
 z139 := Tryz.sizeOf197
 v139 := Tryz.zeroValue197
 t160 := Tryz.underlying205
 a160 := Tryz.isAgg205
 z160 := Tryz.sizeOf205
 v160 := Tryz.zeroValue205
 t162 := Tryz.underlying193
 a162 := Tryz.isAgg193
 z162 := Tryz.sizeOf193
 v162 := Tryz.zeroValue193
 t164 := Tryz.underlying169
 a164 := Tryz.isAgg169
 z164 := Tryz.sizeOf169
 v164 := Tryz.zeroValue169
 t203 := Tryz.underlying191
 a203 := Tryz.isAgg191
 z203 := Tryz.sizeOf191
 v203 := Tryz.zeroValue191
 t206 := Tryz.underlying211
 a206 := Tryz.isAgg211
 z206 := Tryz.sizeOf211
 v206 := Tryz.zeroValue211
 t208 := Tryz.underlying213
 a208 := Tryz.isAgg213
 z208 := Tryz.sizeOf213
 v208 := Tryz.zeroValue213
 g3 := by kernel_rfl
 g4 := by kernel_rfl
 g13 := by kernel_rfl }
theorem Tryz.Builder_Extra_159 : Builder.Extra Tryz.prog Tryz.lays159_ren := {
 sizeBuilder := by kernel_rfl
 liesBuilder := by kernel_rfl
 t5 := Tryz.underlying5
 a5 := Tryz.isAgg5
 z5 := Tryz.sizeOf5
 v5 := Tryz.zeroValue5
 infoByte := by kernel_rfl
 cellsByte := by kernel_rfl
 sizeByte := by kernel_rfl
 neB5 := by decide }
theorem Tryz.strings_ToLower_ascii (s : ByteArray) (w : World) (hs : s.size ≤ 140737488355328) (hascii : ∀ (j : Nat) (b : UInt8),s.data.toList[j]? = some b → b.toNat < 128) :
  Calls Tryz.prog 104 #[.string s] w fun e w' => e = .returned (.string ⟨(Lib.toLowerA s.data.toList).toArray⟩) ∧ Below w.heap.size w w' := Any.strings_ToLower_ascii Tryz.lays159 Tryz.Builder_Extra_159 s w hs hascii
def Tryz.lays156_ren : Go.Shelf.Ren := ⟨fun | 156 => 33 | 165 => 87 | 166 => 88 | 169 => 89 | 240 => 134 | 241 => 135 | 276 => 159 | 277 => 160 | n => n,fun | 31 => 23 | 9 => 9 | 3 => 3 | 4 => 4 | 0 => 0 | 20 => 20 | 72 => 119 | 76 => 123 | 70 => 116 | 37 => 117 | 75 => 122 | 127 => 153 | 164 => 169 | 5 => 5 | 80 => 115 | n => n,fun | n => n⟩
theorem Tryz.lays156 : Go.Proofs.Lays.n156 Tryz.prog Tryz.lays156_ren := {
 mixed := by kernel_rfl
 f156 := Tryz.func33.trans (congrArg some (by kernel_rfl))
 f165 := Tryz.func87.trans (congrArg some (by kernel_rfl))
 f166 := Tryz.func88.trans (congrArg some (by kernel_rfl))
 f169 := Tryz.func89.trans (congrArg some (by kernel_rfl))
 f240 := Tryz.func134.trans (congrArg some (by kernel_rfl))
 f241 := Tryz.func135.trans (congrArg some (by kernel_rfl))
 f276 := Tryz.func159.trans (congrArg some (by kernel_rfl))
 f277 := Tryz.func160.trans (congrArg some (by kernel_rfl))
 t0 := Tryz.underlying0
 a0 := Tryz.isAgg0
 z0 := Tryz.sizeOf0
 v0 := Tryz.zeroValue0
 t3 := Tryz.underlying3
 a3 := Tryz.isAgg3
 z3 := Tryz.sizeOf3
 v3 := Tryz.zeroValue3
 t4 := Tryz.underlying4
 a4 := Tryz.isAgg4
 z4 := Tryz.sizeOf4
 v4 := Tryz.zeroValue4
 t9 := Tryz.underlying9
 a9 := Tryz.isAgg9
 z9 := Tryz.sizeOf9
 v9 := Tryz.zeroValue9
 t20 := Tryz.underlying20
 a20 := Tryz.isAgg20
 z20 := Tryz.sizeOf20
 v20 := Tryz.zeroValue20
 t31 := Tryz.underlying23
 a31 := Tryz.isAgg23
 z31 := Tryz.sizeOf23
 v31 := Tryz.zeroValue23
 t37 := Tryz.underlying117
 a37 := Tryz.isAgg117
 z37 := Tryz.sizeOf117
 v37 := Tryz.zeroValue117
 t70 := Tryz.underlying116
 a70 := Tryz.isAgg116
 z70 := Tryz.sizeOf116
 v70 := Tryz.zeroValue116
 t72 := Tryz.underlying119
 a72 := Tryz.isAgg119
 z72 := Tryz.sizeOf119
 v72 := Tryz.zeroValue119
 t75 := Tryz.underlying122
 a75 := Tryz.isAgg122
 z75 := Tryz.sizeOf122
 v75 := Tryz.zeroValue122
 t76 := Tryz.underlying123
 a76 := Tryz.isAgg123
 z76 := Tryz.sizeOf123
 v76 := Tryz.zeroValue123
 t127 := Tryz.underlying153
 a127 := Tryz.isAgg153
 z127 := Tryz.sizeOf153
 v127 := Tryz.zeroValue153
 t164 := Tryz.underlying169
 a164 := Tryz.isAgg169
 z164 := Tryz.sizeOf169
 v164 := Tryz.zeroValue169 }
theorem Tryz.Builder_Extra_156 : Builder.Extra Tryz.prog Tryz.lays156_ren := {
 sizeBuilder := by kernel_rfl
 liesBuilder := by kernel_rfl
 t5 := Tryz.underlying5
 a5 := Tryz.isAgg5
 z5 := Tryz.sizeOf5
 v5 := Tryz.zeroValue5
 infoByte := by kernel_rfl
 cellsByte := by kernel_rfl
 sizeByte := by kernel_rfl
 neB5 := by decide }
theorem Tryz.strings_Join_none (a : Option Addr) (c : Nat) (sep : ByteArray) (w : World) :
  Calls Tryz.prog 33 #[.slice a 0 c,.string sep] w fun e w' => e = .returned (.string ⟨#[]⟩) ∧ w' = w := Any.strings_Join_none Tryz.lays156 Tryz.Builder_Extra_156 a c sep w
theorem Tryz.strings_Join (bk o c : Nat) (xs : List ByteArray) (sep : ByteArray) (w : World) (hcells : ∀ (j : Nat) x,xs[j]? = some x → w.cell? ⟨bk,o + j,none⟩ = some (.string x)) (hbk : bk < w.heap.size) (hN : xs.length ≤ 140737488355328) (hcap : xs.length ≤ c) (hlen : (Lib.join (xs.map (·.data.toList)) sep.data.toList).length ≤ 140737488355328) :
  Calls Tryz.prog 33 #[.slice (some ⟨bk,o,none⟩) xs.length c,.string sep] w fun e w' => e = .returned (.string ⟨(Lib.join (xs.map (·.data.toList)) sep.data.toList).toArray⟩) ∧ Below w.heap.size w w' := Any.strings_Join Tryz.lays156 Tryz.Builder_Extra_156 bk o c xs sep w hcells hbk hN hcap hlen
def Tryz.lays137_ren : Go.Shelf.Ren := ⟨fun | 137 => 117 | 217 => 156 | 266 => 174 | n => n,fun | 9 => 9 | 5 => 5 | 3 => 3 | n => n,fun | n => n⟩
theorem Tryz.lays137 : Go.Proofs.Lays.n137 Tryz.prog Tryz.lays137_ren := {
 mixed := by kernel_rfl
 f137 := Tryz.func117.trans (congrArg some (by kernel_rfl))
 f217 := Tryz.func156.trans (congrArg some (by kernel_rfl))
 f266 := Tryz.func174.trans (congrArg some (by kernel_rfl))
 t3 := Tryz.underlying3
 a3 := Tryz.isAgg3
 z3 := Tryz.sizeOf3
 v3 := Tryz.zeroValue3
 t5 := Tryz.underlying5
 a5 := Tryz.isAgg5
 z5 := Tryz.sizeOf5
 v5 := Tryz.zeroValue5
 t9 := Tryz.underlying9
 a9 := Tryz.isAgg9
 z9 := Tryz.sizeOf9
 v9 := Tryz.zeroValue9 }
theorem Tryz.strings_IndexByte (s : ByteArray) (c : Int) (w : World) :
  Calls Tryz.prog 117 #[.string s,.int .u8 c] w fun e w' => e = .returned (.int .i64 (Lib.indexByte s.data.toList c.toNat.toUInt8)) ∧ w' = w := Any.strings_IndexByte Tryz.lays137 s c w
def Tryz.lays121_ren : Go.Shelf.Ren := ⟨fun | 121 => 137 | 214 => 162 | n => n,fun | 4 => 4 | 9 => 9 | n => n,fun | n => n⟩
theorem Tryz.lays121 : Go.Proofs.Lays.n121 Tryz.prog Tryz.lays121_ren := {
 mixed := by kernel_rfl
 f121 := Tryz.func137.trans (congrArg some (by kernel_rfl))
 f214 := Tryz.func162.trans (congrArg some (by kernel_rfl))
 t4 := Tryz.underlying4
 a4 := Tryz.isAgg4
 z4 := Tryz.sizeOf4
 v4 := Tryz.zeroValue4
 t9 := Tryz.underlying9
 a9 := Tryz.isAgg9
 z9 := Tryz.sizeOf9
 v9 := Tryz.zeroValue9 }
theorem Tryz.strconv_FormatBool (b : Bool) (w : World) :
  Calls Tryz.prog 137 #[.bool b] w fun e w' => e = .returned (.string ⟨(Lib.formatBool b).toArray⟩) ∧ w' = w := Any.strconv_FormatBool Tryz.lays121 b w
def Tryz.laysM173_ren : Go.Shelf.Ren := ⟨fun | 173 => 138 | 246 => 163 | 283 => 178 | 284 => 179 | 285 => 180 | 286 => 181 | 129 => 190 | 317 => 189 | 318 => 191 | 319 => 192 | 320 => 193 | 337 => 202 | 338 => 203 | n => n,fun | 2 => 2 | 3 => 3 | 9 => 9 | 4 => 4 | 171 => 181 | 0 => 0 | 53 => 182 | 37 => 117 | 5 => 5 | 173 => 185 | 212 => 200 | 51 => 187 | 20 => 20 | 213 => 201 | 46 => 173 | 232 => 215 | 233 => 216 | n => n,fun | 17 => 4 | 18 => 5 | 19 => 6 | n => n⟩
theorem Tryz.laysM173 : Go.Proofs.LaysM.n173 Tryz.prog Tryz.laysM173_ren := {
 mixed := by kernel_rfl
 f129 := Tryz.func190.trans (congrArg some (by kernel_rfl))
 f173 := Tryz.func138.trans (congrArg some (by kernel_rfl))
 f246 := Tryz.func163.trans (congrArg some (by kernel_rfl))
 f283 := Tryz.func178.trans (congrArg some (by kernel_rfl))
 f284 := Tryz.func179.trans (congrArg some (by kernel_rfl))
 f285 := Tryz.func180.trans (congrArg some (by kernel_rfl))
 f286 := Tryz.func181.trans (congrArg some (by kernel_rfl))
 f317 := Tryz.func189.trans (congrArg some (by kernel_rfl))
 f318 := Tryz.func191.trans (congrArg some (by kernel_rfl))
 f319 := Tryz.func192.trans (congrArg some (by kernel_rfl))
 f320 := Tryz.func193.trans (congrArg some (by kernel_rfl))
 f337 := Tryz.func202.trans (congrArg some (by kernel_rfl))
 f338 := Tryz.func203.trans (congrArg some (by kernel_rfl))
 t0 := Tryz.underlying0
 a0 := Tryz.isAgg0
 z0 := Tryz.sizeOf0
 v0 := Tryz.zeroValue0
 t2 := Tryz.underlying2
 a2 := Tryz.isAgg2
 z2 := Tryz.sizeOf2
 v2 := Tryz.zeroValue2
 t3 := Tryz.underlying3
 a3 := Tryz.isAgg3
 z3 := Tryz.sizeOf3
 v3 := Tryz.zeroValue3
 t4 := Tryz.underlying4
 a4 := Tryz.isAgg4
 z4 := Tryz.sizeOf4
 v4 := Tryz.zeroValue4
 t5 := Tryz.underlying5
 a5 := Tryz.isAgg5
 z5 := Tryz.sizeOf5
 v5 := Tryz.zeroValue5
 t9 := Tryz.underlying9
 a9 := Tryz.isAgg9
 z9 := Tryz.sizeOf9
 v9 := Tryz.zeroValue9
 t20 := Tryz.underlying20
 a20 := Tryz.isAgg20
 z20 := Tryz.sizeOf20
 v20 := Tryz.zeroValue20
 t37 := Tryz.underlying117
 a37 := Tryz.isAgg117
 z37 := Tryz.sizeOf117
 v37 := Tryz.zeroValue117
 t46 := Tryz.underlying173
 a46 := Tryz.isAgg173
 z46 := Tryz.sizeOf173
 v46 := Tryz.zeroValue173
 t51 := Tryz.underlying187
 a51 := Tryz.isAgg187
 z51 := Tryz.sizeOf187
 v51 := Tryz.zeroValue187
 t53 := Tryz.underlying182
 a53 := Tryz.isAgg182
 z53 := Tryz.sizeOf182
 v53 := Tryz.zeroValue182
 t171 := Tryz.underlying181
 a171 := Tryz.isAgg181
 z171 := Tryz.sizeOf181
 v171 := Tryz.zeroValue181
 t173 := Tryz.underlying185
 a173 := Tryz.isAgg185
 z173 := Tryz.sizeOf185
 v173 := Tryz.zeroValue185
 t212 := Tryz.underlying200
 a212 := Tryz.isAgg200
 z212 := Tryz.sizeOf200
 v212 := Tryz.zeroValue200
 t213 := Tryz.underlying201
 a213 := Tryz.isAgg201
 z213 := Tryz.sizeOf201
 t232 := Tryz.underlying215
 a232 := Tryz.isAgg215
 z232 := Tryz.sizeOf215
 v232 := Tryz.zeroValue215
 t233 := Tryz.underlying216
 a233 := Tryz.isAgg216
 z233 := Tryz.sizeOf216
 v233 := Tryz.zeroValue216
 g17 := by kernel_rfl
 g18 := by kernel_rfl
 g19 := by kernel_rfl
 i0 := by kernel_rfl
 i2 := by kernel_rfl
 i3 := by kernel_rfl
 i4 := by kernel_rfl
 i5 := by kernel_rfl
 i9 := by kernel_rfl
 i20 := by kernel_rfl
 i37 := by kernel_rfl
 i46 := by kernel_rfl
 i51 := by kernel_rfl
 i53 := by kernel_rfl
 i171 := by kernel_rfl
 i173 := by kernel_rfl
 i212 := by kernel_rfl
 i232 := by kernel_rfl
 i233 := by kernel_rfl
 m17 := by kernel_rfl
 m18 := by kernel_rfl
 m19 := by kernel_rfl }
theorem Tryz.strconv_FormatInt_10 (n : Int) (h0 : -9223372036854775808 ≤ n) (h1 : n ≤ 9223372036854775807) (w : World) (htab : Lib.TabIs Tryz.prog w "internal/strconv.uint64pow10" .u64 Lib.pow10Tab) :
  Calls Tryz.prog 138 #[.int .i64 n,.int .i64 10] w fun e w' => e = .returned (.string ⟨(Lib.itoa n).toArray⟩) ∧ ∃ k os,w' = Go.Sort.grow (w.drewN k) os := Any.strconv_FormatInt_10 Tryz.laysM173 n h0 h1 w htab
def Tryz.lays144_ren : Go.Shelf.Ren := ⟨fun | 144 => 48 | 143 => 99 | 219 => 142 | 217 => 156 | 225 => 165 | 224 => 166 | 267 => 167 | 266 => 174 | 314 => 183 | n => n,fun | 9 => 9 | 4 => 4 | 3 => 3 | 5 => 5 | 46 => 173 | 146 => 188 | 51 => 187 | n => n,fun | 1 => 0 | n => n⟩
theorem Tryz.lays144 : Go.Proofs.Lays.n144 Tryz.prog Tryz.lays144_ren := {
 mixed := by kernel_rfl
 f143 := Tryz.func99.trans (congrArg some (by kernel_rfl))
 f144 := Tryz.func48.trans (congrArg some (by kernel_rfl))
 f217 := Tryz.func156.trans (congrArg some (by kernel_rfl))
 f219 := Tryz.func142.trans (congrArg some (by kernel_rfl))
 f224 := Tryz.func166.trans (congrArg some (by kernel_rfl))
 f225 := Tryz.func165.trans (congrArg some (by kernel_rfl))
 f266 := Tryz.func174.trans (congrArg some (by kernel_rfl))
 f267 := Tryz.func167.trans (congrArg some (by kernel_rfl))
 f314 := Tryz.func183.trans (congrArg some (by kernel_rfl))
 t3 := Tryz.underlying3
 a3 := Tryz.isAgg3
 z3 := Tryz.sizeOf3
 v3 := Tryz.zeroValue3
 t4 := Tryz.underlying4
 a4 := Tryz.isAgg4
 z4 := Tryz.sizeOf4
 v4 := Tryz.zeroValue4
 t5 := Tryz.underlying5
 a5 := Tryz.isAgg5
 z5 := Tryz.sizeOf5
 v5 := Tryz.zeroValue5
 t9 := Tryz.underlying9
 a9 := Tryz.isAgg9
 z9 := Tryz.sizeOf9
 v9 := Tryz.zeroValue9
 t46 := Tryz.underlying173
 a46 := Tryz.isAgg173
 z46 := Tryz.sizeOf173
 v46 := Tryz.zeroValue173
 t51 := Tryz.underlying187
 a51 := Tryz.isAgg187
 z51 := Tryz.sizeOf187
 v51 := Tryz.zeroValue187
 t146 := Tryz.underlying188
 a146 := Tryz.isAgg188
 z146 := Tryz.sizeOf188
 v146 := Tryz.zeroValue188
 g1 := by kernel_rfl }
theorem Tryz.strings_Contains_one (s : ByteArray) (c : UInt8) (w : World) :
  Calls Tryz.prog 48 #[.string s,.string ⟨#[c]⟩] w fun e w' => e = .returned (.bool (decide (0 ≤ Lib.indexByte s.data.toList c))) ∧ w' = w := Any.strings_Contains_one Tryz.lays144 s c w
def Tryz.lays155_ren : Go.Shelf.Ren := ⟨fun | 155 => 139 | 154 => 164 | 138 => 182 | 165 => 87 | 143 => 99 | 166 => 88 | 197 => 153 | 169 => 89 | 195 => 194 | 218 => 195 | 240 => 134 | 241 => 135 | 219 => 142 | 260 => 172 | 276 => 159 | 277 => 160 | 217 => 156 | 225 => 165 | 224 => 166 | 267 => 167 | 266 => 174 | 314 => 183 | n => n,fun | 9 => 9 | 3 => 3 | 4 => 4 | 72 => 119 | 0 => 0 | 76 => 123 | 105 => 165 | 21 => 21 | 5 => 5 | 70 => 116 | 20 => 20 | 37 => 117 | 75 => 122 | 127 => 153 | 164 => 169 | 46 => 173 | 119 => 194 | 139 => 197 | 138 => 196 | 146 => 188 | 51 => 187 | 80 => 115 | n => n,fun | 1 => 0 | 3 => 2 | 4 => 3 | n => n⟩
theorem Tryz.lays155 : Go.Proofs.Lays.n155 Tryz.prog Tryz.lays155_ren := {
 mixed := by kernel_rfl
 f138 := Tryz.func182.trans (congrArg some (by kernel_rfl))
 f143 := Tryz.func99.trans (congrArg some (by kernel_rfl))
 f154 := Tryz.func164.trans (congrArg some (by kernel_rfl))
 f155 := Tryz.func139.trans (congrArg some (by kernel_rfl))
 f165 := Tryz.func87.trans (congrArg some (by kernel_rfl))
 f166 := Tryz.func88.trans (congrArg some (by kernel_rfl))
 f169 := Tryz.func89.trans (congrArg some (by kernel_rfl))
 f195 := Tryz.func194.trans (congrArg some (by kernel_rfl))
 f197 := Tryz.func153.trans (congrArg some (by kernel_rfl))
 f217 := Tryz.func156.trans (congrArg some (by kernel_rfl))
 f218 := Tryz.func195.trans (congrArg some (by kernel_rfl))
 f219 := Tryz.func142.trans (congrArg some (by kernel_rfl))
 f224 := Tryz.func166.trans (congrArg some (by kernel_rfl))
 f225 := Tryz.func165.trans (congrArg some (by kernel_rfl))
 f240 := Tryz.func134.trans (congrArg some (by kernel_rfl))
 f241 := Tryz.func135.trans (congrArg some (by kernel_rfl))
 f260 := Tryz.func172.trans (congrArg some (by kernel_rfl))
 f266 := Tryz.func174.trans (congrArg some (by kernel_rfl))
 f267 := Tryz.func167.trans (congrArg some (by kernel_rfl))
 f276 := Tryz.func159.trans (congrArg some (by kernel_rfl))
 f277 := Tryz.func160.trans (congrArg some (by kernel_rfl))
 f314 := Tryz.func183.trans (congrArg some (by kernel_rfl))
 t0 := Tryz.underlying0
 a0 := Tryz.isAgg0
 z0 := Tryz.sizeOf0
 v0 := Tryz.zeroValue0
 t3 := Tryz.underlying3
 a3 := Tryz.isAgg3
 z3 := Tryz.sizeOf3
 v3 := Tryz.zeroValue3
 t4 := Tryz.underlying4
 a4 := Tryz.isAgg4
 z4 := Tryz.sizeOf4
 v4 := Tryz.zeroValue4
 t5 := Tryz.underlying5
 a5 := Tryz.isAgg5
 z5 := Tryz.sizeOf5
 v5 := Tryz.zeroValue5
 t9 := Tryz.underlying9
 a9 := Tryz.isAgg9
 z9 := Tryz.sizeOf9
 v9 := Tryz.zeroValue9
 t20 := Tryz.underlying20
 a20 := Tryz.isAgg20
 z20 := Tryz.sizeOf20
 v20 := Tryz.zeroValue20
 t21 := Tryz.underlying21
 a21 := Tryz.isAgg21
 z21 := Tryz.sizeOf21
 v21 := Tryz.zeroValue21
 t37 := Tryz.underlying117
 a37 := Tryz.isAgg117
 z37 := Tryz.sizeOf117
 v37 := Tryz.zeroValue117
 t46 := Tryz.underlying173
 a46 := Tryz.isAgg173
 z46 := Tryz.sizeOf173
 v46 := Tryz.zeroValue173
 t51 := Tryz.underlying187
 a51 := Tryz.isAgg187
 z51 := Tryz.sizeOf187
 v51 := Tryz.zeroValue187
 t70 := Tryz.underlying116
 a70 := Tryz.isAgg116
 z70 := Tryz.sizeOf116
 v70 := Tryz.zeroValue116
 t72 := Tryz.underlying119
 a72 := Tryz.isAgg119
 z72 := Tryz.sizeOf119
 v72 := Tryz.zeroValue119
 t75 := Tryz.underlying122
 a75 := Tryz.isAgg122
 z75 := Tryz.sizeOf122
 v75 := Tryz.zeroValue122
 t76 := Tryz.underlying123
 a76 := Tryz.isAgg123
 z76 := Tryz.sizeOf123
 v76 := Tryz.zeroValue123
 t105 := Tryz.underlying165
 a105 := Tryz.isAgg165
 z105 := Tryz.sizeOf165
 v105 := Tryz.zeroValue165
 t119 := Tryz.underlying194
 a119 := Tryz.isAgg194
 z119 := Tryz.sizeOf194
 t127 := Tryz.underlying153
 a127 := Tryz.isAgg153
 z127 := Tryz.sizeOf153
 v127 := Tryz.zeroValue153
 t138 := Tryz.underlying196
 a138 := Tryz.isAgg196
 z138 := Tryz.sizeOf196
 v138 := Tryz.zeroValue196
 t139 := Tryz.underlying197
 a139 := Tryz.isAgg197
 z139 := Tryz.sizeOf197
 v139 := Tryz.zeroValue197
 t146 := Tryz.underlying188
 a146 := Tryz.isAgg188
 z146 := Tryz.sizeOf188
 v146 := Tryz.zeroValue188
 t164 := Tryz.underlying169
 a164 := Tryz.isAgg169
 z164 := Tryz.sizeOf169
 v164 := Tryz.zeroValue169
 g1 := by kernel_rfl
 g3 := by kernel_rfl
 g4 := by kernel_rfl }
theorem Tryz.Builder_Extra_155 : Builder.Extra Tryz.prog Tryz.lays155_ren := {
 sizeBuilder := by kernel_rfl
 liesBuilder := by kernel_rfl
 t5 := Tryz.underlying5
 a5 := Tryz.isAgg5
 z5 := Tryz.sizeOf5
 v5 := Tryz.zeroValue5
 infoByte := by kernel_rfl
 cellsByte := by kernel_rfl
 sizeByte := by kernel_rfl
 neB5 := by decide }
theorem Tryz.strings_ReplaceAll (s old new : ByteArray) (m : Int) (w : World) (hs : s.size < 4294967281) (hm : w.cell? ⟨0,0,none⟩ = some (.int .i64 m)) (h1 : 1 ≤ old.size) (hlen : s.size + Lib.countB s old * new.size ≤ 140737488355328) :
  Calls Tryz.prog 139 #[.string s,.string old,.string new] w fun e w' =>
   e = .returned (.string ⟨(Lib.replaceAll s.data.toList old.data.toList new.data.toList).toArray⟩) ∧ Below w.heap.size w w' := Any.strings_ReplaceAll Tryz.lays155 Tryz.Builder_Extra_155 s old new m w hs hm h1 hlen
end Go.Proofs
namespace Go.Lx
open Go.Lib
abbrev Bs := List UInt8
def isD (c : UInt8) : Bool := decide (48 ≤ c.toNat) && decide (c.toNat ≤ 57)
def isL (c : UInt8) : Bool := (decide (97 ≤ c.toNat) && decide (c.toNat ≤ 122)) || (decide (65 ≤ c.toNat) && decide (c.toNat ≤ 90)) || decide (c.toNat = 95)
def isW (c : UInt8) : Bool := isL c || isD c
def isB (c : UInt8) : Bool := decide (c.toNat = 32) || decide (c.toNat = 9) || decide (c.toNat = 10) || decide (c.toNat = 13)
structure Tok where
 kind : Int
 text : Bs
 num : Int
 scale : Int
 deriving DecidableEq
def run (p : UInt8 → Bool) (l : Bs) : Nat := (l.takeWhile p).length
def dig (c : UInt8) : Nat := c.toNat - 48
def valA (n : Nat) (l : Bs) : Nat := l.foldl (fun n c => n * 10 + dig c) n
def val (l : Bs) : Nat := valA 0 l
abbrev Res := Except Int (Tok × Nat)
def word (l : Bs) : Res :=
 if 32 < run isW l then .error 122 else .ok (⟨1,(l.take (run isW l)).map lowerB,0,0⟩,run isW l)
def part : Bs → Nat
 | [] => 0
 | c :: r => if c.toNat = 46 then run isD r else 0
def number (l : Bs) : Res :=
 if part (l.drop (run isD l)) = 0 then
  if 19 < run isD l ∨ 9223372036854775807 < val (l.take (run isD l)) then .error 11 else .ok (⟨2,[],val (l.take (run isD l)),0⟩,run isD l)
 else if 15 < run isD l + part (l.drop (run isD l)) then .error 11
 else .ok (⟨3,[],val (l.take (run isD l) ++ (l.drop (run isD l + 1)).take (part (l.drop (run isD l)))),part (l.drop (run isD l))⟩,run isD l + 1 + part (l.drop (run isD l)))
def txt : Bs → Option (Bs × Nat)
 | [] => none
 | c :: r => if c.toNat = 39 then
     match r with
     | [] => some ([],1)
     | d :: r' => if d.toNat = 39 then (txt r').map fun x => (39 :: x.1,x.2 + 2) else some ([],1)
  else (txt r).map fun x => (c :: x.1,x.2 + 1)
def text (l : Bs) : Res :=
 match txt (l.drop 1) with
 | none => .error 121
 | some (b,n) => if 200 < b.length then .error 1 else .ok (⟨4,b,0,0⟩,n + 1)
def two (c d : UInt8) : Bool := (decide (c.toNat = 60) && decide (d.toNat = 62)) || (decide (c.toNat = 60) && decide (d.toNat = 61)) || (decide (c.toNat = 62) && decide (d.toNat = 61)) || (decide (c.toNat = 124) && decide (d.toNat = 124))
def ones : Bs := [40,41,44,46,42,43,45,47,37,61,60,62]
def sign : Bs → Res
 | [] => .error 120
 | [c] => if c ∈ ones then .ok (⟨5,[c],0,0⟩,1) else .error 120
 | c :: d :: _ => if two c d then .ok (⟨5,[c,d],0,0⟩,2) else if c ∈ ones then .ok (⟨5,[c],0,0⟩,1) else .error 120
def one : Bs → Res
 | [] => .error 120
 | c :: r => if isL c then word (c :: r) else if isD c then number (c :: r) else if c.toNat = 39 then text (c :: r) else sign (c :: r)
def toks : Bs → Except Int (List Tok)
 | [] => .ok []
 | c :: r => if isB c then toks r else
   match one (c :: r) with
   | .error e => .error e
   | .ok (t,n) => match toks (r.drop (n - 1)) with
     | .error e => .error e
     | .ok ts => .ok (t :: ts)
 termination_by l => l.length
 decreasing_by
  ·simp
  ·simp; omega
def tokens (l : Bs) : Except Int (List Tok) := if 4000 < l.length then .error 1 else toks l
theorem toks_nil : toks [] = .ok [] := by rw [toks]
theorem toks_blank {c : UInt8} {r : Bs} (h : isB c = true) : toks (c :: r) = toks r := by rw [toks,if_pos h]
theorem toks_err {c : UInt8} {r : Bs} {e : Int} (h : isB c = false) (ho : one (c :: r) = .error e) : toks (c :: r) = .error e := by
 rw [toks,if_neg (by simp [h]),ho]
theorem toks_tok {c : UInt8} {r : Bs} {t : Tok} {n : Nat} (h : isB c = false) (ho : one (c :: r) = .ok (t,n)) :
  toks (c :: r) = match toks (r.drop (n - 1)) with
   | .error e => .error e
   | .ok ts => .ok (t :: ts) := by
 rw [toks,if_neg (by simp [h]),ho]
theorem toks_drop : ∀ (l : Bs),toks (l.dropWhile isB) = toks l
 | [] => rfl
 | c :: r => by
   by_cases h : isB c = true
   ·rw [List.dropWhile_cons,if_pos h,toks_drop r,toks_blank h]
   ·rw [List.dropWhile_cons,if_neg h]
theorem run_le (p : UInt8 → Bool) (l : Bs) : run p l ≤ l.length := by
 unfold run
 exact (List.takeWhile_sublist p).length_le
theorem run_cons (p : UInt8 → Bool) (c : UInt8) (r : Bs) : run p (c :: r) = if p c then run p r + 1 else 0 := by
 unfold run
 rw [List.takeWhile_cons]
 split <;> simp
theorem take_run (p : UInt8 → Bool) (l : Bs) : l.take (run p l) = l.takeWhile p := by
 induction l with
 | nil => rfl
 | cons c r ih => rw [run_cons,List.takeWhile_cons]; split <;> simp_all
theorem txt_nil : txt [] = none := by rw [txt]
theorem txt_other {c : UInt8} {r : Bs} (h : ¬ c.toNat = 39) : txt (c :: r) = (txt r).map fun x => (c :: x.1,x.2 + 1) := by
 cases r with
 | nil => simp [txt,h]
 | cons d r => rw [txt,if_neg h]
theorem txt_end {c : UInt8} {r : Bs} (h : c.toNat = 39) (h2 : ∀ d r',r = d :: r' → ¬ d.toNat = 39) : txt (c :: r) = some ([],1) := by
 cases r with
 | nil => rw [txt,if_pos h]
 | cons d r => rw [txt,if_pos h,if_neg (h2 d r rfl)]
theorem txt_two {c d : UInt8} {r : Bs} (h : c.toNat = 39) (h2 : d.toNat = 39) : txt (c :: d :: r) = (txt r).map fun x => (39 :: x.1,x.2 + 2) := by
 rw [txt,if_pos h,if_pos h2]
theorem txt_ind {M : Bs → Prop} (h0 : M []) (h1 : ∀ c r,¬ c.toNat = 39 → M r → M (c :: r)) (h2 : ∀ c r,c.toNat = 39 → (∀ d r',r = d :: r' → ¬ d.toNat = 39) → M (c :: r))
  (h3 : ∀ c d r,c.toNat = 39 → d.toNat = 39 → M r → M (c :: d :: r)) : ∀ l,M l
 | [] => h0
 | [c] => by
   by_cases hc : c.toNat = 39
   ·exact h2 c [] hc (fun d r' e => by cases e)
   ·exact h1 c [] hc h0
 | c :: d :: r => by
   by_cases hc : c.toNat = 39
   ·by_cases hd : d.toNat = 39
    ·exact h3 c d r hc hd (txt_ind h0 h1 h2 h3 r)
    ·exact h2 c (d :: r) hc (fun d' r' e => by cases e; exact hd)
   ·exact h1 c (d :: r) hc (txt_ind h0 h1 h2 h3 (d :: r))
theorem txt_le : ∀ (l : Bs) (b : Bs) (n : Nat),txt l = some (b,n) → n ≤ l.length ∧ 1 ≤ n ∧ b.length < n := by
 refine txt_ind ?_ ?_ ?_ ?_
 ·intro b n h; rw [txt_nil] at h; cases h
 ·intro c r hc ih b n h
  rw [txt_other hc] at h
  simp only [Option.map_eq_some_iff,Prod.mk.injEq] at h
  obtain ⟨⟨b',n'⟩,h,rfl,rfl⟩ := h
  have := ih b' n' h
  simp; omega
 ·intro c r hc h2 b n h
  rw [txt_end hc h2] at h
  simp only [Option.some.injEq,Prod.mk.injEq] at h
  obtain ⟨rfl,rfl⟩ := h
  simp
 ·intro c d r hc hd ih b n h
  rw [txt_two hc hd] at h
  simp only [Option.map_eq_some_iff,Prod.mk.injEq] at h
  obtain ⟨⟨b',n'⟩,h,rfl,rfl⟩ := h
  have := ih b' n' h
  simp; omega
theorem part_le (l : Bs) : part l ≤ l.length - 1 := by
 cases l with
 | nil => simp [part]
 | cons c r => rw [part]; split
               ·have := run_le isD r; simpa using this
               ·simp
theorem one_len {c : UInt8} {r : Bs} {t : Tok} {n : Nat} (h : one (c :: r) = .ok (t,n)) : 1 ≤ n ∧ n ≤ r.length + 1 := by
 rw [one] at h
 split at h
 ·rename_i hl
  rw [word] at h
  split at h
  ·cases h
  ·simp only [Except.ok.injEq,Prod.mk.injEq] at h
   obtain ⟨-,rfl⟩ := h
   refine ⟨?_,run_le _ _⟩
   rw [run_cons,if_pos (by simp [isW,hl])]; omega
 ·split at h
  ·rename_i hd
   have h1 : 1 ≤ run isD (c :: r) := by rw [run_cons,if_pos hd]; omega
   have h2 := run_le isD (c :: r)
   have h3 := part_le ((c :: r).drop (run isD (c :: r)))
   simp only [List.length_drop,List.length_cons] at h2 h3
   rw [number] at h
   split at h
   ·split at h
    ·cases h
    ·simp only [Except.ok.injEq,Prod.mk.injEq] at h
     omega
   ·split at h
    ·cases h
    ·simp only [Except.ok.injEq,Prod.mk.injEq] at h
     omega
  ·split at h
   ·rw [text] at h
    split at h
    ·cases h
    ·rename_i b m hb
     have := txt_le _ _ _ hb
     split at h
     ·cases h
     ·simp only [Except.ok.injEq,Prod.mk.injEq] at h
      simp at this; omega
   ·cases r with
    | nil => rw [sign] at h; split at h
             ·simp only [Except.ok.injEq,Prod.mk.injEq] at h; simp; omega
             ·cases h
    | cons d r =>
      rw [sign] at h
      split at h
      ·simp only [Except.ok.injEq,Prod.mk.injEq] at h; simp; omega
      ·split at h
       ·simp only [Except.ok.injEq,Prod.mk.injEq] at h; simp; omega
       ·cases h
end Go.Lx
namespace Go.Lx
open Go.Lib
def Stop (x : Bs) : Prop := ∀ z y,x = z :: y → isB z = true
theorem isB_nat {z : UInt8} (h : isB z = true) : z.toNat = 32 ∨ z.toNat = 9 ∨ z.toNat = 10 ∨ z.toNat = 13 := by
 simpa [isB,or_assoc] using h
theorem isB_L {z : UInt8} (h : isB z = true) : isL z = false := by
 have := isB_nat h
 simp [isL]; omega
theorem part_cons (c : UInt8) (r : Bs) : part (c :: r) = if c.toNat = 46 then run isD r else 0 := by rw [part]
end Go.Lx
namespace Go.Lx
open Go.Lib
def digs (n : Nat) : Bs := if h : n ≤ 9 then [UInt8.ofNat (48 + n)] else digs (n / 10) ++ [UInt8.ofNat (48 + n % 10)]
 termination_by n
 decreasing_by omega
theorem digs_one {n : Nat} (h : n ≤ 9) : digs n = [UInt8.ofNat (48 + n)] := by rw [digs,dif_pos h]
theorem digs_more {n : Nat} (h : ¬ n ≤ 9) : digs n = digs (n / 10) ++ [UInt8.ofNat (48 + n % 10)] := by rw [digs,dif_neg h]
theorem digit_nat {k : Nat} (h : k ≤ 9) : (UInt8.ofNat (48 + k)).toNat = 48 + k := by
 simp [UInt8.toNat_ofNat']; omega
theorem digit_D {k : Nat} (h : k ≤ 9) : isD (UInt8.ofNat (48 + k)) = true := by
 rw [isD,digit_nat h]; simp; omega
theorem digit_dig {k : Nat} (h : k ≤ 9) : dig (UInt8.ofNat (48 + k)) = k := by rw [dig,digit_nat h]; omega
theorem digs_len (n : Nat) : 1 ≤ (digs n).length := by
 by_cases h : n ≤ 9
 ·rw [digs_one h]; simp
 ·rw [digs_more h]; simp
theorem digs_le : ∀ (k n : Nat),n < 10 ^ (k + 1) → (digs n).length ≤ k + 1
 | 0,n,h => by rw [digs_one (by simp at h; omega)]; simp
 | k + 1,n,h => by
   by_cases h9 : n ≤ 9
   ·rw [digs_one h9]; simp
   ·rw [digs_more h9]
    have : n / 10 < 10 ^ (k + 1) := by rw [Nat.pow_succ] at h; omega
    have := digs_le k (n / 10) this
    simp; omega
theorem digs_D (n : Nat) : ∀ c ∈ digs n,isD c = true := by
 induction n using Nat.strongRecOn with
 | _ n ih =>
   by_cases h : n ≤ 9
   ·rw [digs_one h]; simp only [List.mem_singleton,forall_eq]; exact digit_D h
   ·rw [digs_more h]
    simp only [List.mem_append,List.mem_singleton]
    rintro c (hc | rfl)
    ·exact ih (n / 10) (by omega) c hc
    ·exact digit_D (by omega)
theorem valA_append (a b : Bs) (n : Nat) : valA n (a ++ b) = valA (valA n a) b := by simp [valA,List.foldl_append]
theorem valA_one (n : Nat) (c : UInt8) : valA n [c] = n * 10 + dig c := rfl
theorem val_digs (n : Nat) : val (digs n) = n := by
 induction n using Nat.strongRecOn with
 | _ n ih =>
   by_cases h : n ≤ 9
   ·rw [digs_one h,val,valA_one,digit_dig h]; omega
   ·have := ih (n / 10) (by omega)
    rw [val] at this ⊢
    rw [digs_more h,valA_append,this,valA_one,digit_dig (by omega)]; omega
theorem valA_lt : ∀ (l : Bs) (n : Nat),(∀ c ∈ l,isD c = true) → valA n l < (n + 1) * 10 ^ l.length
 | [],n,_ => by simp [valA]
 | c :: r,n,h => by
   have hc : dig c ≤ 9 := by
    have := h c (by simp)
    simp [isD] at this
    unfold dig; omega
   have := valA_lt r (n * 10 + dig c) (fun x hx => h x (by simp [hx]))
   have e : valA n (c :: r) = valA (n * 10 + dig c) r := rfl
   rw [e,List.length_cons,Nat.pow_succ,Nat.mul_comm (10 ^ r.length),← Nat.mul_assoc]
   refine Nat.lt_of_lt_of_le this (Nat.mul_le_mul_right _ (by omega))
theorem val_lt (l : Bs) (h : ∀ c ∈ l,isD c = true) : val l < 10 ^ l.length := by
 have := valA_lt l 0 h
 simpa [val] using this
theorem val_zeros (k : Nat) (l : Bs) : val (List.replicate k 48 ++ l) = val l := by
 induction k with
 | zero => rfl
 | succ k ih => rw [List.replicate_succ,List.cons_append]; exact ih
theorem run_all {p : UInt8 → Bool} : ∀ {l : Bs},(∀ c ∈ l,p c = true) → run p l = l.length
 | [],_ => rfl
 | c :: r,h => by rw [run_cons,if_pos (h c (by simp)),run_all (fun x hx => h x (by simp [hx]))]; rfl
theorem run_some {p : UInt8 → Bool} : ∀ {l : Bs} {c : UInt8} {r : Bs},(∀ c ∈ l,p c = true) → p c = false → run p (l ++ c :: r) = l.length
 | [],c,r,_,hc => by rw [List.nil_append,run_cons,hc]; rfl
 | d :: l,c,r,h,hc => by rw [List.cons_append,run_cons,if_pos (h d (by simp)),run_some (fun x hx => h x (by simp [hx])) hc]; rfl
def dbl : Bs → Bs
 | [] => []
 | c :: r => if c.toNat = 39 then c :: 39 :: dbl r else c :: dbl r
def padz (l : Bs) (k : Nat) : Bs := List.replicate (k + 1 - l.length) 48 ++ l
def wordOf (t : Tok) : Bs :=
 if t.kind = 2 then digs t.num.toNat
 else if t.kind = 3 then (padz (digs t.num.toNat) t.scale.toNat).take ((padz (digs t.num.toNat) t.scale.toNat).length - t.scale.toNat) ++ 46 :: (padz (digs t.num.toNat) t.scale.toNat).drop ((padz (digs t.num.toNat) t.scale.toNat).length - t.scale.toNat)
 else if t.kind = 4 then 39 :: (dbl t.text ++ [39])
 else t.text
inductive OkT : Tok → Prop
 | word (c : UInt8) (r : Bs) (h : isL c = true) (hw : ∀ x ∈ c :: r,isW x = true) (hl : ∀ x ∈ c :: r,lowerB x = x) (hn : r.length < 32) : OkT ⟨1,c :: r,0,0⟩
 | int (n : Nat) (h : n ≤ 9223372036854775807) : OkT ⟨2,[],n,0⟩
 | real (n k : Nat) (hk : 1 ≤ k) (hk' : k ≤ 14) (h : n < 1000000000000000) : OkT ⟨3,[],n,k⟩
 | text (b : Bs) (h : b.length ≤ 200) : OkT ⟨4,b,0,0⟩
 | sign1 (c : UInt8) (h : c ∈ ones) : OkT ⟨5,[c],0,0⟩
 | sign2 (c d : UInt8) (h : two c d = true) : OkT ⟨5,[c,d],0,0⟩
theorem mem_take_run {p : UInt8 → Bool} {l : Bs} : ∀ c ∈ l.take (run p l),p c = true := by
 rw [take_run]
 induction l with
 | nil => simp
 | cons d r ih =>
   rw [List.takeWhile_cons]
   split
   ·rename_i h; intro c hc; simp only [List.mem_cons] at hc
    rcases hc with rfl | hc
    ·exact h
    ·exact ih c hc
   ·simp
theorem txt_dbl : ∀ (b : Bs),txt (dbl b ++ [39]) = some (b,(dbl b).length + 1)
 | [] => by rw [dbl,List.nil_append,txt_end (by rfl) (fun d r' e => by cases e)]; rfl
 | c :: r => by
   rw [dbl]
   have ih := txt_dbl r
   split
   ·rename_i h
    rw [List.cons_append,List.cons_append,txt_two h rfl,ih]
    have : c = 39 := UInt8.toNat_inj.1 h
    simp [this]
   ·rename_i h
    rw [List.cons_append,txt_other h,ih]; simp
theorem isD_notL {c : UInt8} (h : isD c = true) : isL c = false := by
 simp [isD] at h
 simp [isL]; omega
theorem isD_notB {c : UInt8} (h : isD c = true) : isB c = false := by
 simp [isD] at h
 simp [isB]; omega
theorem isL_notB {c : UInt8} (h : isL c = true) : isB c = false := by
 cases hb : isB c with
 | false => rfl
 | true => rw [isB_L hb] at h; cases h
theorem ok_one {t : Tok} (h : OkT t) : ∃ c r,wordOf t = c :: r ∧ isB c = false ∧ one (c :: r) = .ok (t,r.length + 1) := by
 cases h with
 | word c r h hw hl hn =>
   refine ⟨c,r,by simp [wordOf],isL_notB h,?_⟩
   have hr := run_all hw
   rw [one,if_pos h,word,hr,if_neg (by simp; omega),List.take_length]
   congr 4
   exact (List.map_congr_left hl).trans (List.map_id _)
 | int n h =>
   have hne := digs_len n
   have hD := digs_D n
   have hv := val_digs n
   have hle := digs_le 18 n (by simp; omega)
   have e : wordOf ⟨2,[],n,0⟩ = digs n := by simp [wordOf]
   rw [e]
   generalize digs n = l at *
   cases l with
   | nil => simp at hne
   | cons c r =>
     have hc := hD c (by simp)
     refine ⟨c,r,rfl,isD_notB hc,?_⟩
     have hr := run_all hD
     rw [one,if_neg (by simp [isD_notL hc]),if_pos hc,number,hr,List.drop_length,List.take_length,if_pos (by rfl),hv,if_neg (by simp at hle ⊢; omega)]
     simp
 | real n k hk hk' h =>
   have hD := digs_D n
   have hv := val_digs n
   have hle := digs_le 14 n (by simp; omega)
   have hpl : (padz (digs n) k).length ≤ 15 ∧ k + 1 ≤ (padz (digs n) k).length := by simp [padz]; omega
   have hpD : ∀ c ∈ padz (digs n) k,isD c = true := by
    intro c hc
    simp only [padz,List.mem_append,List.mem_replicate] at hc
    rcases hc with ⟨_,rfl⟩ | hc
    ·rfl
    ·exact hD c hc
   have hpv : val (padz (digs n) k) = n := by rw [padz,val_zeros,hv]
   have e : wordOf ⟨3,[],n,k⟩ = (padz (digs n) k).take ((padz (digs n) k).length - k) ++ 46 :: (padz (digs n) k).drop ((padz (digs n) k).length - k) := by simp [wordOf]
   rw [e]
   generalize padz (digs n) k = l at *
   have ha : ∀ c ∈ l.take (l.length - k),isD c = true := fun c hc => hpD c (List.mem_of_mem_take hc)
   have hb : ∀ c ∈ l.drop (l.length - k),isD c = true := fun c hc => hpD c (List.mem_of_mem_drop hc)
   have la : (l.take (l.length - k)).length = l.length - k := by rw [List.length_take]; omega
   have lb : (l.drop (l.length - k)).length = k := by rw [List.length_drop]; omega
   have lj : l.take (l.length - k) ++ l.drop (l.length - k) = l := List.take_append_drop _ _
   generalize hw : l.length - k = w at *
   generalize l.take w = a at *
   generalize l.drop w = b at *
   cases a with
   | nil => simp at la; omega
   | cons c r =>
     have hc := ha c (by simp)
     refine ⟨c,r ++ 46 :: b,rfl,isD_notB hc,?_⟩
     have hr : run isD (c :: (r ++ 46 :: b)) = w := by rw [← List.cons_append,run_some ha (by rfl),la]
     have hdrop : (c :: (r ++ 46 :: b)).drop w = 46 :: b := by rw [← List.cons_append,← la,List.drop_left]
     have hdrop1 : (c :: (r ++ 46 :: b)).drop (w + 1) = b := by
      have : (c :: (r ++ 46 :: b)).drop (w + 1) = ((c :: (r ++ 46 :: b)).drop w).drop 1 := by rw [List.drop_drop]
      rw [this,hdrop]; rfl
     have htake : (c :: (r ++ 46 :: b)).take w = c :: r := by rw [← List.cons_append,← la,List.take_left]
     have hpart : part (46 :: b) = k := by rw [part_cons,if_pos (by rfl),run_all hb,lb]
     rw [one,if_neg (by simp [isD_notL hc]),if_pos hc,number,hr,hdrop,hpart,if_neg (by omega),if_neg (by omega),htake,hdrop1]
     have : b.take k = b := by rw [← lb,List.take_length]
     rw [this,lj,hpv]
     simp at la ⊢
     omega
 | text b h =>
   refine ⟨39,dbl b ++ [39],by simp [wordOf],by rfl,?_⟩
   rw [one,if_neg (by decide),if_neg (by decide),if_pos (by rfl),text,List.drop_succ_cons,List.drop_zero,txt_dbl]
   simp only
   rw [if_neg (by omega)]
   simp
 | sign1 c h =>
   refine ⟨c,[],by simp [wordOf],?_,?_⟩
   ·simp [ones] at h
    rcases h with rfl | rfl | rfl | rfl | rfl | rfl | rfl | rfl | rfl | rfl | rfl | rfl <;> rfl
   ·have : isL c = false ∧ isD c = false ∧ ¬ c.toNat = 39 := by
     simp only [ones,List.mem_cons,List.mem_nil_iff,or_false] at h
     rcases h with rfl | rfl | rfl | rfl | rfl | rfl | rfl | rfl | rfl | rfl | rfl | rfl <;> decide
    rw [one,if_neg (by simp [this.1]),if_neg (by simp [this.2.1]),if_neg this.2.2,sign,if_pos h]; rfl
 | sign2 c d h =>
   have h' : (c.toNat = 60 ∨ c.toNat = 62 ∨ c.toNat = 124) := by
    simp [two] at h; omega
   refine ⟨c,[d],by simp [wordOf],by simp [isB]; omega,?_⟩
   rw [one,if_neg (by simp [isL]; omega),if_neg (by simp [isD]; omega),if_neg (by omega),sign,if_pos h]; rfl
theorem wordOf_len {t : Tok} (h : OkT t) : (wordOf t).length ≤ 1000 := by
 cases h with
 | word c r h hw hl hn => simp [wordOf]; omega
 | int n h =>
   have hle := digs_le 18 n (by simp; omega)
   simp [wordOf]; omega
 | real n k hk hk' h =>
   have hle := digs_le 14 n (by simp; omega)
   simp [wordOf,padz]; omega
 | text b h =>
   have : ∀ b : Bs,(dbl b).length ≤ 2 * b.length := by
    intro b
    induction b with
    | nil => simp [dbl]
    | cons c r ih => rw [dbl]; split <;> simp <;> omega
   have := this b
   simp [wordOf]; omega
 | sign1 c h => simp [wordOf]
 | sign2 c d h => simp [wordOf]
end Go.Lx
set_option linter.unusedSimpArgs false
namespace Go.Abs
open Go Go.RowKit Go.Proofs
def tbl (G : Nat → AVal) : FuncId → Option AFn
 | 24 => some (f24 G)
 | 105 => some (f105 G)
 | 71 => some (f71 G)
 | 72 => some (f72 G)
 | 73 => some (f73 G)
 | 74 => some (f74 G)
 | 75 => some (f75 G)
 | 76 => some (f76 G)
 | 77 => some (f77 G)
 | 102 => some (f102 G)
 | 103 => some (f103 G)
 | 112 => some (f112 G)
 | 113 => some (f113 G)
 | 114 => some (f114 G)
 | 116 => some (f116 G)
 | 118 => some (f118 G)
 | 119 => some (f119 G)
 | 143 => some (f143 G)
 | 144 => some (f144 G)
 | 155 => some (f155 G)
 | 152 => some (f152 G)
 | 157 => some (f157 G)
 | _ => none
theorem tbl_c (G : Nat → AVal) : ∀ f fn,tbl G f = some fn → ∃ rows,cmpFn Tryz.prog G rows f = some fn := by
 intro f fn h
 unfold tbl at h
 split at h
 ·simp only [Option.some.injEq] at h; rw [← h]; exact ⟨_,f24_c G⟩
 ·simp only [Option.some.injEq] at h; rw [← h]; exact ⟨_,f105_c G⟩
 ·simp only [Option.some.injEq] at h; rw [← h]; exact ⟨_,f71_c G⟩
 ·simp only [Option.some.injEq] at h; rw [← h]; exact ⟨_,f72_c G⟩
 ·simp only [Option.some.injEq] at h; rw [← h]; exact ⟨_,f73_c G⟩
 ·simp only [Option.some.injEq] at h; rw [← h]; exact ⟨_,f74_c G⟩
 ·simp only [Option.some.injEq] at h; rw [← h]; exact ⟨_,f75_c G⟩
 ·simp only [Option.some.injEq] at h; rw [← h]; exact ⟨_,f76_c G⟩
 ·simp only [Option.some.injEq] at h; rw [← h]; exact ⟨_,f77_c G⟩
 ·simp only [Option.some.injEq] at h; rw [← h]; exact ⟨_,f102_c G⟩
 ·simp only [Option.some.injEq] at h; rw [← h]; exact ⟨_,f103_c G⟩
 ·simp only [Option.some.injEq] at h; rw [← h]; exact ⟨_,f112_c G⟩
 ·simp only [Option.some.injEq] at h; rw [← h]; exact ⟨_,f113_c G⟩
 ·simp only [Option.some.injEq] at h; rw [← h]; exact ⟨_,f114_c G⟩
 ·simp only [Option.some.injEq] at h; rw [← h]; exact ⟨_,f116_c G⟩
 ·simp only [Option.some.injEq] at h; rw [← h]; exact ⟨_,f118_c G⟩
 ·simp only [Option.some.injEq] at h; rw [← h]; exact ⟨_,f119_c G⟩
 ·simp only [Option.some.injEq] at h; rw [← h]; exact ⟨_,f143_c G⟩
 ·simp only [Option.some.injEq] at h; rw [← h]; exact ⟨_,f144_c G⟩
 ·simp only [Option.some.injEq] at h; rw [← h]; exact ⟨_,f155_c G⟩
 ·simp only [Option.some.injEq] at h; rw [← h]; exact ⟨_,f152_c G⟩
 ·simp only [Option.some.injEq] at h; rw [← h]; exact ⟨_,f157_c G⟩
 ·cases h
def ext : FuncId → List AVal → Option AVal
 | 104,[.str l] => if l.all (fun b => decide (b.toNat < 128)) && decide (l.length ≤ 140737488355328) then some (.str (Lib.toLowerA l)) else none
 | 117,[.str l,.atom (.int .u8 c)] => some (.int (Lib.indexByte l c.toNat.toUInt8))
 | _,_ => none
theorem vs_one {F m} {x : AVal} {vs : Array Value} (h : RelL F m [x] vs) : ∃ v,vs = #[v] ∧ Rel F m x v := by
 obtain ⟨hl,hg⟩ := h
 obtain ⟨l⟩ := vs
 match l,hl with
 | [v],_ => exact ⟨v,rfl,hg 0 (by simp)⟩
theorem vs_two {F m} {x y : AVal} {vs : Array Value} (h : RelL F m [x,y] vs) : ∃ u v,vs = #[u,v] ∧ Rel F m x u ∧ Rel F m y v := by
 obtain ⟨hl,hg⟩ := h
 obtain ⟨l⟩ := vs
 match l,hl with
 | [u,v],_ => exact ⟨u,v,rfl,hg 0 (by simp),hg 1 (by simp)⟩
theorem ext_ok {β : Base} : ∀ f args v,ext f args = some v → ∀ S,ACalls Tryz.prog β f args S fun e S' => e = .ret v ∧ S' = S := by
 intro f args v h S
 unfold ext at h
 split at h
 ·rename_i l
  split at h
  ·rename_i hc
   simp only [Bool.and_eq_true,decide_eq_true_eq,List.all_eq_true] at hc
   simp only [Option.some.injEq] at h
   subst h
   refine ACalls.lift (by kernel_rfl) fun F m vs w hv => ?_
   obtain ⟨u,rfl,hu⟩ := vs_one hv
   obtain rfl := hu.str_inv
   refine (Tryz.strings_ToLower_ascii ⟨l.toArray⟩ w (by simpa [ByteArray.size] using hc.2) (fun j b hb => hc.1 b (by simpa using List.mem_of_getElem? hb))).mono fun e w' ⟨he,hb⟩ => ?_
   exact ⟨_,he,.str _,hb⟩
  ·cases h
 ·rename_i l c
  simp only [Option.some.injEq] at h
  subst h
  refine ACalls.lift (by kernel_rfl) fun F m vs w hv => ?_
  obtain ⟨u1,u2,rfl,h1,h2⟩ := vs_two hv
  obtain rfl := h1.str_inv
  obtain rfl := h2.int_inv
  refine (Tryz.strings_IndexByte ⟨l.toArray⟩ c w).mono fun e w' ⟨he,hw⟩ => ?_
  subst hw
  exact ⟨_,he,.atom _,Below.refl _ _⟩
 ·cases h
theorem tryOrd : Tryz.prog.follows .mixedOrders = true := by kernel_rfl
end Go.Abs
namespace Go.Abs
open Go Go.RowKit Go.Proofs Go.Lx
abbrev B0 (w : World) : Base := ⟨w,fun _ => .top⟩
abbrev bv (c : UInt8) : AVal := .atom (.int .u8 (c.toNat : Int))
variable {w0 : World}
def tb2 (G : Nat → AVal) : FuncId → Option AFn
 | 149 => some (f149 G)
 | 150 => some (f150 G)
 | 151 => some (f151 G)
 | n => tbl G n
theorem tb2_c (G : Nat → AVal) : ∀ f fn,tb2 G f = some fn → ∃ rows,cmpFn Tryz.prog G rows f = some fn := by
 intro f fn h
 unfold tb2 at h
 split at h
 ·simp only [Option.some.injEq] at h; rw [← h]; exact ⟨_,f149_c G⟩
 ·simp only [Option.some.injEq] at h; rw [← h]; exact ⟨_,f150_c G⟩
 ·simp only [Option.some.injEq] at h; rw [← h]; exact ⟨_,f151_c G⟩
 ·exact tbl_c G _ _ h
def gives (o : Option (List (AEnd × Heap))) (v : AVal) : Bool :=
 match o with
 | some [(.ret u,[])] => u.same v
 | _ => false
theorem gives_eq {o : Option (List (AEnd × Heap))} {v : AVal} (h : gives o v = true) : o = some [(.ret v,[])] := by
 unfold gives at h
 split at h
 ·rw [AVal.same_eq h]
 ·cases h
theorem runY {f : FuncId} {args : List AVal} {v : AVal} {n : Nat} (ha : scL 0 args = true) (hv : v.solid = true) (h : gives (callY ext (tb2 fun _ => .top) n f args []) v = true) (S : Heap) :
  ACalls Tryz.prog (B0 w0) f args S fun e S' => e = .ret v ∧ S' = S :=
 ACalls.frameV (fun _ => rfl) ha hv fun w1 => callY_sound tryOrd ext_ok (tb2_c _) n f args [] _ (gives_eq h) _ (fun o ho => by
  rw [List.mem_singleton.1 ho]; exact ⟨rfl,rfl⟩)
def tryAll (f : FuncId) (p : UInt8 → AVal) : Bool := (List.range 256).all fun n => gives (callY ext (tb2 fun _ => .top) 20 f [.atom (.int .u8 n)] []) (p (UInt8.ofNat n))
theorem bytewise {f : FuncId} {p : UInt8 → AVal} (hp : ∀ c,(p c).solid = true) (h : tryAll f p = true) (c : UInt8) (S : Heap) : ACalls Tryz.prog (B0 w0) f [bv c] S fun e S' => e = .ret (p c) ∧ S' = S := by
 have := List.all_eq_true.1 h c.toNat (List.mem_range.2 c.toNat_lt)
 simp only [UInt8.ofNat_toNat] at this
 exact runY rfl (hp c) this S
theorem w73 (c : UInt8) (S : Heap) : ACalls Tryz.prog (B0 w0) 73 [bv c] S fun e S' => e = .ret (.bool (Lx.isL c)) ∧ S' = S := bytewise (p := fun c => .bool (Lx.isL c)) (fun _ => rfl) (by kernel_rfl) c S
theorem w75 (c : UInt8) (S : Heap) : ACalls Tryz.prog (B0 w0) 75 [bv c] S fun e S' => e = .ret (.bool (isD c)) ∧ S' = S := bytewise (p := fun c => .bool (isD c)) (fun _ => rfl) (by kernel_rfl) c S
theorem w103 (c : UInt8) (S : Heap) : ACalls Tryz.prog (B0 w0) 103 [bv c] S fun e S' => e = .ret (.bool (isW c)) ∧ S' = S := bytewise (p := fun c => .bool (isW c)) (fun _ => rfl) (by kernel_rfl) c S
def blankBits : List AVal := (List.range 256).map fun n => .bool (isB (UInt8.ofNat n))
theorem blankBits_len : blankBits.length = 256 := by simp [blankBits]
theorem blankBits_get (c : UInt8) : blankBits.getD c.toNat .top = .bool (isB c) := by
 have := c.toNat_lt
 rw [getD_eq _ _ _ (by rw [blankBits_len]; exact this)]
 simp [blankBits]
theorem w113 (S : Heap) : ACalls Tryz.prog (B0 w0) 113 [.str [32,9,10,13]] S fun e S' => e = .ret (.tuple [.agg blankBits,.bool true]) ∧ S' = S :=
 runY (n := 30) rfl (by kernel_rfl) (by kernel_rfl) S
theorem blankBits_one : blankBits.all AVal.one = true := by kernel_rfl
theorem w152 {S : Heap} {id : Nat} {cap : Option Nat} (hS : S[id]? = some (.cells 256 [blankBits] cap)) (c : UInt8) : ACalls Tryz.prog (B0 w0) 152 [.ptr id 0 0,bv c] S fun e S' => e = .ret (.bool (isB c)) ∧ S' = S := by
 refine fn_sound tryOrd (f152_c _) (by simp [f152]) ?_
 have hlt : c.toNat < 256 := c.toNat_lt
 have hg : ∀ h,blankBits[c.toNat]'h = .bool (isB c) := fun h => by
  have := blankBits_get c
  rwa [getD_eq _ _ _ h] at this
 simp [f152,f152m,hS,hg,hlt,blankBits_len]
 omega
theorem w114 {S : Heap} {id : Nat} {cap : Option Nat} (hS : S[id]? = some (.cells 256 [blankBits] cap)) (l : Bs) : ACalls Tryz.prog (B0 w0) 114 [.str l,.ptr id 0 0] S fun e S' => e = .ret (.str (l.dropWhile isB)) ∧ S' = S := by
 refine fn_sound tryOrd (f114_c _) (by simp [f114]) ?_
 simp [f114,f114m]
 refine mwp_loop (I := fun n a S' => ∃ r : Bs,n = r.length ∧ get a 0 = .str r ∧ get a 1 = .ptr id 0 0 ∧ S' = S ∧ r.dropWhile isB = l.dropWhile isB) (n := l.length) ?_ ?_
 ·exact ⟨l,rfl,rfl,rfl,rfl,rfl⟩
 rintro n a S' ⟨r,rfl,a0,a1,rfl,hr⟩
 cases r with
 | nil => simp [f114b0,a0,a1]; exact hr.symm
 | cons c r =>
   simp [f114b0,a0,a1]
   refine (w152 hS c).use ?_
   rintro e S1 ⟨rfl,rfl⟩
   by_cases hb : isB c = true
   ·simp [hb,a0,a1,sslcR,bound]
    rw [List.dropWhile_cons,if_pos hb] at hr
    exact ⟨r.length,by omega,r,rfl,rfl,hr⟩
   ·simp [hb,a0,a1]
    rw [List.dropWhile_cons,if_neg hb] at hr
    exact hr
set_option maxRecDepth 20000 in
theorem w71 (l : Bs) (S : Heap) : ACalls Tryz.prog (B0 w0) 71 [.str l,.str [32,9,10,13]] S fun e S' => e = .ret (.str (l.dropWhile isB)) ∧ S' = S := by
 refine ACalls.close (R := fun e S' => e = .ret (.str (l.dropWhile isB)) ∧ S'.take S.length = S) ?_ ?_
 rotate_left 1
 ·rintro e S' ⟨rfl,ht⟩
  exact .flat ht rfl ⟨rfl,rfl⟩
 refine fn_sound tryOrd (f71_c _) (by simp [f71]) ?_
 cases l with
 | nil => simp [f71,f71m]
 | cons c r =>
   simp [f71,f71m]
   refine (w113 S).use ?_
   rintro e S1 ⟨rfl,rfl⟩
   simp [blankBits_len,blankBits_one]
   refine (w114 (id := S1.length) (cap := some 1) (by simp) (c :: r)).use ?_
   rintro e S2 ⟨rfl,rfl⟩
   simp
theorem w118 (l : Bs) (c : UInt8) (S : Heap) : ACalls Tryz.prog (B0 w0) 118 [.str l,.str [c]] S fun e S' => e = .ret (.bool (l.head? == some c)) ∧ S' = S := by
 refine fn_sound tryOrd (f118_c _) (by simp [f118]) ?_
 simp [f118,f118m]
 have h93 : ACalls Tryz.prog (B0 w0) 157 [.str l,.str [c]] S fun e S' => e = .ret (.bool (l.head? == some c)) ∧ S' = S := by
  refine fn_sound tryOrd (f157_c _) (by simp [f157]) ?_
  cases l with
  | nil => simp [f157,f157m]
  | cons d r =>
    have hle : (1 : Int) ≤ (r.length : Int) + 1 := by omega
    simp [f157,f157m,hle,sslcR,bound]; rfl
 refine h93.use ?_
 rintro e S1 ⟨rfl,rfl⟩
 simp
end Go.Abs
namespace Go.Abs
open Go Go.RowKit Go.Proofs Go.Lx
variable {w0 : World}
def Tells (w0 : World) (q : FuncId) (p : UInt8 → Bool) : Prop := ∀ (c : UInt8) (S : Heap),ACalls Tryz.prog (B0 w0) q [bv c] S fun e S' => e = .ret (.bool (p c)) ∧ S' = S
theorem w144 {q : FuncId} {p : UInt8 → Bool} (hq : Tells w0 q p) {S : Heap} {id : Nat} {cap : Option Nat} (hS : S[id]? = some (.cells 1 [[.clo (.func q) [] []]] cap)) (c : UInt8) :
  ACalls Tryz.prog (B0 w0) 144 [bv c,.ptr id 0 0] S fun e S' => e = .ret (.bool (!p c)) ∧ S' = S := by
 refine fn_sound tryOrd (f144_c _) (by simp [f144]) ?_
 simp [f144,f144m,hS]
 refine (hq c S).use ?_
 rintro e S1 ⟨rfl,rfl⟩
 simp
theorem run_le_iff {p : UInt8 → Bool} : ∀ {l : Bs} {i : Nat} (h : i < l.length),i ≤ run p l → (p l[i] = true ↔ i < run p l)
 | c :: r,0,h,_ => by
   rw [run_cons]
   by_cases hc : p c = true
   ·simp [hc]
   ·simp [hc]
 | c :: r,i + 1,h,hi => by
   rw [run_cons] at hi ⊢
   by_cases hc : p c = true
   ·rw [if_pos hc] at hi ⊢
    have := run_le_iff (p := p) (l := r) (i := i) (by simpa using h) (by omega)
    simp only [List.getElem_cons_succ]
    rw [this]; omega
   ·rw [if_neg hc] at hi; omega
theorem w143 {q : FuncId} {p : UInt8 → Bool} (hq : Tells w0 q p) {S : Heap} {id : Nat} {cap : Option Nat} (hS : S[id]? = some (.cells 1 [[.clo (.func q) [] []]] cap)) {v : AVal} {l : Bs} (hv : Rk 1 S v (l.map u8)) (hl : l.length ≤ 4194304) :
  ACalls Tryz.prog (B0 w0) 143 [v,.clo (.func 144) [] [.ptr id 0 0]] S fun e S' => e = .ret (.int (if run p l < l.length then run p l else -1)) ∧ S' = S := by
 refine fn_sound tryOrd (f143_c _) (by simp [f143]) ?_
 simp [f143,f143m,hv.lenR]
 refine mwp_loop (I := fun n a S' => ∃ i : Nat,n = l.length - i ∧ i ≤ l.length ∧ get a 0 = v ∧ get a 1 = .clo (.func 144) [] [.ptr id 0 0] ∧ get a 7 = .int l.length ∧ get a 8 = .int i ∧ S' = S ∧ i ≤ run p l) (n := l.length) ?_ ?_
 ·exact ⟨0,rfl,Nat.zero_le _,rfl,rfl,rfl,rfl,rfl,Nat.zero_le _⟩
 rintro n a S' ⟨i,rfl,hi,a0,a1,a7,a8,rfl,hr⟩
 by_cases hlt : i < l.length
 ·obtain ⟨pp,q1,q2⟩ := hv.byte hlt
  have hiff := run_le_iff (p := p) hlt hr
  simp [f143b0,a0,a1,a7,a8,hlt,q1,q2]
  refine (w144 hq hS l[i]).use ?_
  rintro e S1 ⟨rfl,rfl⟩
  by_cases hp : p l[i] = true
  ·have := hiff.1 hp
   simp [hp,a0,a1,a7,a8,wrapS i (by omega)]
   exact ⟨l.length - (i + 1),by omega,i + 1,rfl,by omega,by simp,by omega⟩
  ·have h1 : ¬ i < run p l := fun h => hp (hiff.2 h)
   have h2 : run p l = i := by omega
   simp [hp,a0,a1,a7,a8,h2,hlt]
 ·have := run_le p l
  have h1 : ¬ run p l < l.length := by omega
  simp [f143b0,a0,a1,a7,a8,hlt,h1]
theorem w102 {q : FuncId} {p : UInt8 → Bool} (hq : Tells w0 q p) (l : Bs) (hl : l.length ≤ 4194304) (S : Heap) :
  ACalls Tryz.prog (B0 w0) 102 [.str l,.clo (.func q) [] []] S fun e S' => e = .ret (.int (run p l)) ∧ S' = S := by
 refine ACalls.close (R := fun e S' => e = .ret (.int (run p l)) ∧ S'.take S.length = S) ?_ ?_
 rotate_left 1
 ·rintro e S' ⟨rfl,ht⟩
  exact .flat ht rfl ⟨rfl,rfl⟩
 refine fn_sound tryOrd (f102_c _) (by simp [f102]) ?_
 simp [f102,f102m]
 refine (w143 hq (id := S.length) (cap := some 1) (by simp) (v := .row (S.length + 1) 0 l.length) (l := l) ?_ hl).use ?_
 ·have := Rk.row (k := 1) (S := S ++ [.cells 1 [[.clo (.func q) [] []]] (some 1),.cells 1 (l.map u8) none]) (S.length + 1) 0 l.length (l.map u8) none (by simp) (by simp)
  rw [List.drop_zero,List.take_of_length_le (by simp)] at this
  exact this
 rintro e S1 ⟨rfl,rfl⟩
 have hle := run_le p l
 by_cases hlt : run p l < l.length
 ·have h0 : (0 : Int) ≤ (run p l : Int) := by omega
  simp [hlt,h0]
 ·have : run p l = l.length := by omega
  simp [hlt,this]
theorem valA_ge : ∀ (l : Bs) (n : Nat),n ≤ valA n l
 | [],n => Nat.le_refl _
 | c :: r,n => by
   have := valA_ge r (n * 10 + dig c)
   have e : valA n (c :: r) = valA (n * 10 + dig c) r := rfl
   omega
theorem val_split (l : Bs) (i : Nat) (h : i < l.length) : val (l.take (i + 1)) = val (l.take i) * 10 + dig l[i] := by
 rw [List.take_add_one,List.getElem?_eq_getElem h,val,valA_append]; rfl
theorem val_take_le (l : Bs) (i : Nat) : val (l.take i) ≤ val l := by
 have : val l = valA (val (l.take i)) (l.drop i) := by
  show valA 0 l = valA (valA 0 _) _
  rw [← valA_append,List.take_append_drop]
 rw [this]; exact valA_ge _ _
theorem isD_dig {c : UInt8} (h : isD c = true) : c.toNat = 48 + dig c ∧ dig c ≤ 9 := by
 simp [isD] at h
 unfold dig; omega
theorem w119 (l : Bs) (hl : l.length ≤ 4194304) (hd : ∀ c ∈ l,isD c = true) (S : Heap) :
  ACalls Tryz.prog (B0 w0) 119 [.str l] S fun e S' => e = .ret (if val l ≤ 9223372036854775807 then .tuple [.int (val l),.bool true] else .tuple [.int 0,.bool false]) ∧ S' = S := by
 refine ACalls.close (R := fun e S' => e = .ret (if val l ≤ 9223372036854775807 then .tuple [.int (val l),.bool true] else .tuple [.int 0,.bool false]) ∧ S'.take S.length = S) ?_ ?_
 rotate_left 1
 ·rintro e S' ⟨rfl,ht⟩
  refine .flat ht ?_ ⟨rfl,rfl⟩
  split <;> simp [AEnd.sc]
 refine fn_sound tryOrd (f119_c _) (by simp [f119]) ?_
 simp [f119,f119m]
 have hv : Rk 1 (S ++ [.cells 1 (l.map u8) none]) (.row S.length 0 l.length) (l.map u8) := by
  have := Rk.row (k := 1) (S := S ++ [.cells 1 (l.map u8) none]) S.length 0 l.length (l.map u8) none (by simp) (by simp)
  rw [List.drop_zero,List.take_of_length_le (by simp)] at this
  exact this
 generalize hS1 : S ++ [.cells 1 (l.map u8) none] = S1 at hv
 generalize AVal.row S.length 0 l.length = v at hv
 have ht : S1.take S.length = S := by rw [← hS1]; simp
 refine mwp_loop (I := fun n a S' => ∃ i : Nat,n = l.length - i ∧ i ≤ l.length ∧ get a 4 = .int (val (l.take i)) ∧ get a 9 = v ∧ get a 10 = .int l.length ∧ get a 11 = .int i ∧ S' = S1 ∧ val (l.take i) ≤ 9223372036854775807) (n := l.length) ?_ ?_
 ·exact ⟨0,rfl,Nat.zero_le _,rfl,rfl,rfl,rfl,rfl,by simp [val,valA]⟩
 rintro n a S' ⟨i,rfl,hi,a4,a9,a10,a11,rfl,hm⟩
 by_cases hlt : i < l.length
 ·obtain ⟨pp,q1,q2⟩ := hv.byte hlt
  obtain ⟨e1,e2⟩ := isD_dig (hd l[i] (List.getElem_mem hlt))
  have hs := val_split l i hlt
  have hw1 : IntKind.u8.wrap ((l[i].toNat : Int) - 48) = (dig l[i] : Int) := by rw [e1]; simp [IntKind.wrap,IntKind.bits,IntKind.signed,IntKind.max]; omega
  have hw2 : IntKind.i64.wrap (dig l[i] : Int) = (dig l[i] : Int) := by rw [wrap64_in (by omega) (by omega)]
  have hw3 : IntKind.i64.wrap (9223372036854775807 - (dig l[i] : Int)) = 9223372036854775807 - (dig l[i] : Int) := by rw [wrap64_in (by omega) (by omega)]
  obtain ⟨k,hk⟩ : ∃ k,k = (9223372036854775807 - dig l[i]) / 10 := ⟨_,rfl⟩
  have hq : (9223372036854775807 - (dig l[i] : Int)).tdiv 10 = (k : Int) := by
   rw [Int.tdiv_eq_ediv_of_nonneg (by omega)]; omega
  have hw4 : IntKind.i64.wrap (k : Int) = k := by rw [wrap64_in (by omega) (by omega)]
  generalize hdd : dig l[i] = d at *
  generalize hvv : val (l.take i) = n at *
  by_cases hov : k < n
  ·have hbig : ¬ val l ≤ 9223372036854775807 := by
    have := val_take_le l (i + 1)
    omega
   simp [f119b0,a4,a9,a10,a11,hlt,q1,q2,hw1,hw2,hw3,hq,hw4,hov,hbig,ht]
  ·have hw5 : IntKind.i64.wrap ((n : Int) * 10) = ((n * 10 : Nat) : Int) := by rw [wrap64_in (by omega) (by omega)]; simp
   have hw6 : IntKind.i64.wrap ((n * 10 : Nat) + (d : Int)) = ((n * 10 + d : Nat) : Int) := by rw [wrap64_in (by omega) (by omega)]; simp
   simp only [Int.natCast_mul,Int.cast_ofNat_Int] at hw5 hw6
   simp [f119b0,a4,a9,a10,a11,hlt,q1,q2,hw1,hw2,hw3,hq,hw4,hov,hw5,hw6,wrapS i (by omega)]
   exact ⟨l.length - (i + 1),by omega,i + 1,rfl,by omega,by rw [hs]; simp,by simp,by omega⟩
 ·have : i = l.length := by omega
  subst this
  rw [List.take_length] at a4 hm
  simp [f119b0,a4,a9,a10,a11,hm,ht]
def zTok : Tok := ⟨0,[],0,0⟩
def tokC (t : Tok) : List AVal := [.int t.kind,.str t.text,.int t.num,.int t.scale]
def lexV : Res → AVal
 | .ok (t,n) => .tuple [.agg (tokC t),.int n,.int 0]
 | .error e => .tuple [.agg (tokC zTok),.int 0,.int e]
theorem w74 (l : Bs) (hl : l.length ≤ 4194304) (S : Heap) : ACalls Tryz.prog (B0 w0) 74 [.str l] S fun e S' => e = .ret (lexV (word l)) ∧ S' = S := by
 refine ACalls.close (R := fun e S' => e = .ret (lexV (word l)) ∧ S'.take S.length = S) ?_ ?_
 rotate_left 1
 ·rintro e S' ⟨rfl,ht⟩
  refine .flat ht ?_ ⟨rfl,rfl⟩
  unfold lexV; split <;> simp [AEnd.sc,tokC]
 refine fn_sound tryOrd (f74_c _) (by simp [f74]) ?_
 simp [f74,f74m]
 refine (w102 (q := 103) (p := isW) w103 l hl _).use ?_
 rintro e S1 ⟨rfl,rfl⟩
 have hle := run_le isW l
 by_cases hgt : 32 < run isW l
 ·have hgt' : (32 : Int) < (run isW l : Int) := by omega
  simp [hgt,hgt',word,lexV,tokC,zTok]
 ·have hgt' : ¬ (32 : Int) < (run isW l : Int) := by omega
  have hn : (0 : Int) ≤ (run isW l : Int) := by omega
  simp [hgt,hgt',sslcR,bound,hn,hle]
  have hext := ext_ok (β := B0 w0) 104 [.str (l.take (run isW l))] (.str ((l.take (run isW l)).map Lib.lowerB)) (by
   have : ((l.take (run isW l)).all (fun b => decide (b.toNat < 128)) && decide ((l.take (run isW l)).length ≤ 140737488355328)) = true := by
    simp only [Bool.and_eq_true,decide_eq_true_eq,List.all_eq_true]
    refine ⟨fun c hc => ?_,by rw [List.length_take]; omega⟩
    have := mem_take_run c hc
    simp [isW,Lx.isL,isD] at this
    omega
   simp only [ext,this,if_true]; rfl)
  refine (hext _).use ?_
  rintro e S1 ⟨rfl,rfl⟩
  simp [hgt,word,lexV,tokC]
end Go.Abs
namespace Go.Abs
open Go Go.RowKit Go.Proofs Go.Lx
variable {w0 : World}
theorem realD (l : Bs) : ∀ x ∈ l.take (run isD l) ++ (l.drop (run isD l + 1)).take (Lx.part (l.drop (run isD l))),isD x = true := by
 intro x hx
 simp only [List.mem_append] at hx
 rcases hx with hx | hx
 ·exact mem_take_run x hx
 ·generalize run isD l = q at *
  have e : l.drop (q + 1) = (l.drop q).drop 1 := by rw [List.drop_drop]
  rw [e] at hx
  generalize l.drop q = l at *
  cases l with
  | nil => simp at hx
  | cons a l =>
    rw [part_cons] at hx
    split at hx
    ·exact mem_take_run x hx
    ·simp at hx
theorem u8_eq {c d : UInt8} : c = d ↔ c.toNat = d.toNat := ⟨fun h => by rw [h],fun h => UInt8.toNat_inj.1 h⟩
set_option maxHeartbeats 1000000 in
theorem w76 (l : Bs) (hl : l.length ≤ 4194304) (S : Heap) : ACalls Tryz.prog (B0 w0) 76 [.str l] S fun e S' => e = .ret (lexV (Lx.number l)) ∧ S' = S := by
 refine ACalls.close (R := fun e S' => e = .ret (lexV (Lx.number l)) ∧ S'.take S.length = S) ?_ ?_
 rotate_left 1
 ·rintro e S' ⟨rfl,ht⟩
  refine .flat ht ?_ ⟨rfl,rfl⟩
  unfold lexV; split <;> simp [AEnd.sc,tokC]
 have hle := run_le isD l
 have hpl := part_le (l.drop (run isD l))
 rw [List.length_drop] at hpl
 have hT : ∀ c ∈ l.take (run isD l),isD c = true := fun c hc => mem_take_run c hc
 have hR := realD l
 have hspec : Lx.number l = Lx.number l := rfl
 conv at hspec => rhs; unfold Lx.number
 have hpart : ∀ r : Bs,Lx.part r = if r.head? = some 46 then run isD (r.drop 1) else 0 := by
  intro r
  cases r with
  | nil => rfl
  | cons c r =>
    rw [part_cons]
    have : (c.toNat = 46) ↔ c = 46 := (u8_eq (c := c) (d := 46)).symm
    simp [this]
 have hpart := hpart (l.drop (run isD l))
 refine fn_sound tryOrd (f76_c _) (by simp [f76]) ?_
 simp [f76,f76m]
 refine (w102 (q := 75) (p := isD) w75 l hl _).use ?_
 rintro e S1 ⟨rfl,rfl⟩
 have hn : (0 : Int) ≤ (run isD l : Int) := by omega
 simp [sslcR,bound,hn,hle]
 have hr1 : l.drop (run isD l + 1) = (l.drop (run isD l)).drop 1 := by rw [List.drop_drop]
 have hrl : (l.drop (run isD l)).length = l.length - run isD l := List.length_drop
 generalize hw : run isD l = w at *
 generalize hr : l.drop w = r at *
 refine (w118 r 46 _).use ?_
 rintro e S1 ⟨rfl,rfl⟩
 generalize hpt : Lx.part r = pt at *
 generalize Lx.number l = out at *
 by_cases hp0 : pt = 0
 ·subst hp0
  rw [if_pos rfl] at hspec
  by_cases hp : r.head? = some 46
  all_goals
   first
   | rw [if_pos hp] at hpart
     obtain ⟨r',rfl⟩ : ∃ r',r = 46 :: r' := by
      cases r with
      | nil => cases hp
      | cons c r' => simp at hp; exact ⟨r',by rw [hp]⟩
     simp at hpart hrl
     simp [sslcR,bound]
     refine (w102 (q := 75) (p := isD) w75 r' (by omega) _).use ?_
     rintro e S1 ⟨rfl,rfl⟩
     simp [hn,hle,← hpart,sslcR,bound]
   | have hg : (r.head? == some 46) = false := beq_eq_false_iff_ne.2 hp
     simp [hg,hn,hle,sslcR,bound]
  all_goals
   refine (w119 (l.take w) (by rw [List.length_take]; omega) hT _).use ?_
   rintro e S1 ⟨rfl,rfl⟩
   by_cases hv : val (l.take w) ≤ 9223372036854775807
   ·by_cases h19 : 19 < w
    ·have h19' : (19 : Int) < (w : Int) := by omega
     rw [if_pos (.inl h19)] at hspec
     simp [hv,h19,h19',hspec,lexV,tokC,zTok]
    ·have h19' : ¬ (19 : Int) < (w : Int) := by omega
     rw [if_neg (by omega)] at hspec
     simp [hv,h19,h19',hspec,lexV,tokC,zTok]
   ·rw [if_pos (.inr (by omega))] at hspec
    by_cases h19 : 19 < w
    ·have h19' : (19 : Int) < (w : Int) := by omega
     simp [hv,h19,h19',hspec,lexV,tokC,zTok]
    ·have h19' : ¬ (19 : Int) < (w : Int) := by omega
     simp [hv,h19,h19',hspec,lexV,tokC,zTok]
 ·rw [if_neg hp0] at hspec
  by_cases hp : r.head? = some 46
  rotate_left 1
  ·rw [if_neg hp] at hpart; exact absurd hpart hp0
  rw [if_pos hp] at hpart
  obtain ⟨r',rfl⟩ : ∃ r',r = 46 :: r' := by
   cases r with
   | nil => cases hp
   | cons c r' => simp at hp; exact ⟨r',by rw [hp]⟩
  simp at hpart hrl
  simp [sslcR,bound]
  refine (w102 (q := 75) (p := isD) w75 r' (by omega) _).use ?_
  rintro e S1 ⟨rfl,rfl⟩
  rw [← hpart]
  have hp0' : ¬ (pt : Int) = 0 := by omega
  have hg : ((pt : Int) == 0) = false := beq_eq_false_iff_ne.2 hp0'
  have hw1 : IntKind.i64.wrap ((w : Int) + (pt : Int)) = ((w + pt : Nat) : Int) := by rw [wrap64_in (by omega) (by omega)]; simp
  have hw2 : IntKind.i64.wrap ((w : Int) + 1) = ((w + 1 : Nat) : Int) := by rw [wrap64_in (by omega) (by omega)]; simp
  have hw3 : IntKind.i64.wrap (((w + 1 : Nat) : Int) + (pt : Int)) = ((w + 1 + pt : Nat) : Int) := by rw [wrap64_in (by omega) (by omega)]; simp
  generalize hA : w + pt = A at *
  generalize hB : w + 1 = B at *
  generalize hC : B + pt = C at *
  by_cases h15 : 15 < A
  ·rw [if_pos h15] at hspec
   have h15' : (15 : Int) < (A : Int) := by omega
   simp [hn,hle,hg,hw1,h15,h15',hspec,lexV,tokC,zTok]
  ·rw [if_neg h15] at hspec
   have h15' : ¬ (15 : Int) < (A : Int) := by omega
   have hB0 : (0 : Int) ≤ (B : Int) := by omega
   have hC0 : (0 : Int) ≤ (C : Int) := by omega
   have hBC : B ≤ C := by omega
   have hCl : C ≤ l.length := by omega
   have e1 : C - B = pt := by omega
   have e2 : (l.take C).drop B = (l.drop B).take pt := by rw [List.drop_take,e1]
   have hlen : (l.take w).length + ((l.drop B).take pt).length ≤ 9223372036854775807 := by simp; omega
   have hlen2 : (l.take w ++ (l.drop B).take pt).length ≤ 15 := by simp; omega
   have hv := val_lt _ hR
   have hv2 : val (l.take w ++ (l.drop B).take pt) < 10 ^ 15 := Nat.lt_of_lt_of_le hv (Nat.pow_le_pow_right (by omega) hlen2)
   have hv3 : val (l.take w ++ (l.drop B).take pt) ≤ 9223372036854775807 := by
    have : (10 : Nat) ^ 15 ≤ 9223372036854775807 := by decide
    omega
   have w119' := fun S => w119 (w0 := w0) (l.take w ++ (l.drop B).take pt) (by omega) hR S
   clear hr1 hr hrl
   simp [hn,hle,hg,hw1,hw2,hw3,h15,h15',sslcR,bound,hB0,hC0,hBC,hCl]
   refine ⟨by omega,?_⟩
   rw [e2]
   generalize l.take w ++ (l.drop B).take pt = ds at *
   refine (w119' _).use ?_
   rintro e S1 ⟨rfl,rfl⟩
   simp [hv3,hw1,hw2,hw3,hspec,lexV,tokC]
theorem txt_pre (b : Bs) : ∀ (a : Bs),(∀ c ∈ a,¬ c.toNat = 39) → txt (a ++ b) = (txt b).map fun x => (a ++ x.1,x.2 + a.length)
 | [],_ => by cases h : txt b <;> simp [h]
 | c :: r,h => by
   rw [List.cons_append,txt_other (h c (by simp)),txt_pre b r fun x hx => h x (by simp [hx])]
   cases txt b <;> simp [Nat.add_assoc]
theorem indexByte_spec : ∀ (r : Bs),(Lib.indexByte r 39 = -1 ∧ ∀ c ∈ r,¬ c.toNat = 39) ∨ ∃ a b,r = a ++ 39 :: b ∧ (∀ c ∈ a,¬ c.toNat = 39) ∧ Lib.indexByte r 39 = a.length
 | [] => .inl ⟨rfl,by simp⟩
 | c :: r => by
   by_cases hc : c = 39
   ·subst hc
    exact .inr ⟨[],r,rfl,by simp,by simp [Lib.indexByte]⟩
   ·have hc' : ¬ c.toNat = 39 := fun h => hc (UInt8.toNat_inj.1 h)
    have hb : (c == 39) = false := beq_eq_false_iff_ne.2 hc
    rcases indexByte_spec r with ⟨h1,h2⟩ | ⟨a,b,rfl,h2,h3⟩
    ·refine .inl ⟨by simp [Lib.indexByte,hb,h1],?_⟩
     intro x hx
     simp only [List.mem_cons] at hx
     rcases hx with rfl | hx
     ·exact hc'
     ·exact h2 x hx
    ·refine .inr ⟨c :: a,b,rfl,?_,?_⟩
     ·intro x hx
      simp only [List.mem_cons] at hx
      rcases hx with rfl | hx
      ·exact hc'
      ·exact h2 x hx
     ·have hne : ¬ ((a.length : Int) = -1) := by omega
      simp [Lib.indexByte,hb,h3,hne]
theorem w117 (l : Bs) (c : UInt8) (S : Heap) : ACalls Tryz.prog (B0 w0) 117 [.str l,bv c] S fun e S' => e = .ret (.int (Lib.indexByte l c)) ∧ S' = S :=
 ext_ok 117 [.str l,bv c] _ (by simp [ext]) S
def txtV (x : Option (Bs × Nat)) : Res :=
 match x with
 | none => .error 121
 | some (b,n) => if 200 < b.length then .error 1 else .ok (⟨4,b,0,0⟩,n + 1)
set_option maxHeartbeats 1000000 in
theorem w77 (c : UInt8) (l : Bs) (hl : l.length ≤ 4194304) (S : Heap) : ACalls Tryz.prog (B0 w0) 77 [.str (c :: l)] S fun e S' => e = .ret (lexV (Lx.text (c :: l))) ∧ S' = S := by
 refine ACalls.close (R := fun e S' => e = .ret (lexV (Lx.text (c :: l))) ∧ S'.take S.length = S) ?_ ?_
 rotate_left 1
 ·rintro e S' ⟨rfl,ht⟩
  refine .flat ht ?_ ⟨rfl,rfl⟩
  unfold lexV; split <;> simp [AEnd.sc,tokC]
 have hspec : Lx.text (c :: l) = txtV (txt l) := rfl
 rw [hspec]
 refine fn_sound tryOrd (f77_c _) (by simp [f77]) ?_
 simp [f77,f77m]
 refine mwp_loop (I := fun n a S' => ∃ (o b : Bs) (k : Nat),n = b.length ∧ get a 0 = .str (c :: l) ∧ get a 2 = .ptr S.length 0 0 ∧ get a 5 = .str o ∧ get a 6 = .int k ∧ 1 ≤ k ∧ (c :: l).drop k = b ∧ b.length + k = l.length + 1 ∧ o.length ≤ k ∧
  txt l = (txt b).map (fun x => (o ++ x.1,x.2 + (k - 1))) ∧ S' = S ++ [.cells 4 [[.int 0,.str [],.int 0,.int 0]] (some 1)]) (n := l.length) ?_ ?_
 ·refine ⟨[],l,1,rfl,rfl,rfl,rfl,rfl,by omega,rfl,by omega,by simp,?_,rfl⟩
  cases txt l <;> simp
 rintro n a S' ⟨o,b,k,rfl,a0,a2,a5,a6,hk,hdrop,hlen,ho,ht,rfl⟩
 have hk0 : (0 : Int) ≤ (k : Int) := by omega
 have hkl : k ≤ l.length + 1 := by omega
 have w117' := fun S => w117 (w0 := w0) b 39 S
 simp [f77b0,a0,a2,a5,a6,sslcR,bound,hk0,hkl,hdrop]
 refine (w117' _).use ?_
 rintro e S1 ⟨rfl,rfl⟩
 rcases indexByte_spec b with ⟨h1,h2⟩ | ⟨p,q,rfl,h2,h3⟩
 ·have hnone : txt b = none := by
   have := txt_pre [] b h2
   rw [List.append_nil,txt_nil] at this; exact this
  rw [hnone] at ht
  simp [h1,ht,a2,txtV,lexV,tokC,zTok]
 ·rw [txt_pre _ _ h2] at ht
  simp only [List.length_append,List.length_cons] at hlen
  have hm0 : ¬ (p.length : Int) < 0 := by omega
  have hw1 : IntKind.i64.wrap ((k : Int) + (p.length : Int)) = ((k + p.length : Nat) : Int) := by rw [wrap64_in (by omega) (by omega)]; simp
  have hw2 : IntKind.i64.wrap ((p.length : Int) + 1) = ((p.length + 1 : Nat) : Int) := by rw [wrap64_in (by omega) (by omega)]; simp
  have hw3 : IntKind.i64.wrap ((k : Int) + ((p.length + 1 : Nat) : Int)) = ((k + (p.length + 1) : Nat) : Int) := by rw [wrap64_in (by omega) (by omega)]; simp
  have e1 : ((c :: l).take (k + p.length)).drop k = p := by
   rw [List.drop_take,Nat.add_sub_cancel_left,hdrop,List.take_left]
  have e2 : (c :: l).drop (k + (p.length + 1)) = q := by
   rw [← List.drop_drop,hdrop]
   simp
  have hA : k ≤ k + p.length := by omega
  have hB : k + p.length ≤ l.length + 1 := by omega
  have hC : k + (p.length + 1) ≤ l.length + 1 := by omega
  have hD0 : (0 : Int) ≤ ((k + p.length : Nat) : Int) := by omega
  have hE0 : (0 : Int) ≤ ((k + (p.length + 1) : Nat) : Int) := by omega
  have hol : (o ++ p).length ≤ k + p.length := by simp; omega
  have hob : o.length + p.length ≤ 9223372036854775807 := by omega
  have w118' := fun S => w118 (w0 := w0) q 39 S
  generalize hm : p.length = m at *
  generalize hD : k + m = D at *
  generalize hF : m + 1 = F at *
  generalize hG : k + F = G at *
  have hop : (o ++ p).length = o.length + m := by simp [hm]
  simp [h3,hm0,hw1,hw2,hw3,a0,a2,a5,a6,sslcR,bound,hA,hB,hC,hD0,hE0,hk0,e1,e2,hob,hm]
  refine (w118' _).use ?_
  rintro e S1 ⟨rfl,rfl⟩
  generalize hopp : o ++ p = op at *
  by_cases hq : q.head? = some 39
  ·obtain ⟨q',rfl⟩ : ∃ q',q = 39 :: q' := by
    cases q with
    | nil => cases hq
    | cons d q' => simp at hq; exact ⟨q',by rw [hq]⟩
   rw [txt_two rfl rfl] at ht
   simp only [List.length_cons] at hlen
   have hw4 : IntKind.i64.wrap ((G : Int) + 1) = ((G + 1 : Nat) : Int) := by rw [wrap64_in (by omega) (by omega)]; simp
   have hop1 : op.length + 1 ≤ 9223372036854775807 := by omega
   simp [a0,a2,a5,a6,hw4,hop1]
   refine ⟨q'.length,by omega,op ++ [39],q',rfl,rfl,G + 1,by simp,by omega,?_,by omega,by simp; omega,?_⟩
   ·rw [← List.drop_drop,e2]; rfl
   ·rw [ht]
    cases txt q' with
    | none => rfl
    | some x =>
      simp only [Option.map_some,Option.some.injEq,Prod.mk.injEq]
      exact ⟨by rw [← hopp]; simp,by omega⟩
  ·have hg : (q.head? == some 39) = false := beq_eq_false_iff_ne.2 hq
   rw [txt_end rfl (fun d r' e => by
    intro h
    rw [e] at hq
    simp at hq
    exact hq (UInt8.toNat_inj.1 h))] at ht
   have hfin : txt l = some (op,G - 1) := by
    rw [ht]
    simp only [Option.map_some,Option.some.injEq,Prod.mk.injEq]
    exact ⟨by rw [← hopp]; simp,by omega⟩
   rw [hfin]
   by_cases h2 : 200 < op.length
   ·have h2' : (200 : Int) < (op.length : Int) := by omega
    simp [hg,a0,a2,a5,a6,h2,h2',txtV,lexV,tokC,zTok]
   ·have h2' : ¬ (200 : Int) < (op.length : Int) := by omega
    have e3 : G - 1 + 1 = G := by omega
    simp [hg,a0,a2,a5,a6,h2,h2',txtV,lexV,tokC,zTok]
    omega
end Go.Abs
namespace Go.Abs
open Go Go.RowKit Go.Proofs Go.Lx
variable {w0 : World}
def strs (L : List Bs) : List (List AVal) := L.map fun s => [.str s]
@[simp] theorem strs_len (L : List Bs) : (strs L).length = L.length := by simp [strs]
theorem strs_get (L : List Bs) (i : Nat) (h : i < L.length) : (strs L).getD i [] = [.str L[i]] := by
 rw [getD_eq _ _ _ (by simpa using h)]; simp [strs]
theorem Rk.strx {S v L} (h : Rk 1 S v (strs L)) {i : Nat} (hi : i < L.length) : ∃ p,iaddrR 1 S v (.int i) = .ok true p S ∧ loadR false 1 S p = .ok true (.str L[i]) S := by
 obtain ⟨p,h1,h2,_⟩ := h.elem (i := i) (by simpa using hi) (by rw [strs_get _ _ hi]; rfl)
 refine ⟨p,h1,?_⟩
 rw [h2 false 1 (Nat.le_refl _),strs_get _ _ hi]; rfl
theorem w116 {S : Heap} {v : AVal} {L : List Bs} {x : Bs} (h : Rk 1 S v (strs L)) (hl : L.length ≤ 4194304) : ACalls Tryz.prog (B0 w0) 116 [v,.str x] S fun e S' => e = .ret (.bool (decide (x ∈ L))) ∧ S' = S := by
 have h80 : ACalls Tryz.prog (B0 w0) 155 [v,.str x] S fun e S' => ∃ z : Int,e = .ret (.int z) ∧ decide (0 ≤ z) = decide (x ∈ L) ∧ S' = S := by
  refine fn_sound tryOrd (f155_c _) (by simp [f155]) ?_
  simp [f155,f155m,h.lenR]
  refine mwp_loop (I := fun n a S' => ∃ i : Nat,n = L.length - i ∧ i ≤ L.length ∧ get a 0 = v ∧ get a 1 = .str x ∧ get a 7 = .int L.length ∧ get a 8 = .int i ∧ S' = S ∧ x ∉ L.take i) (n := L.length) ?_ ?_
  ·exact ⟨0,rfl,Nat.zero_le _,rfl,rfl,rfl,rfl,rfl,by simp⟩
  rintro n a S' ⟨i,rfl,hi,a0,a1,a7,a8,rfl,hnot⟩
  by_cases hlt : i < L.length
  ·obtain ⟨p,q1,q2⟩ := h.strx hlt
   by_cases hx : x = L[i]
   ·have : x ∈ L := hx ▸ List.getElem_mem hlt
    have h0 : (0 : Int) ≤ (i : Int) := by omega
    simp [f155b0,a0,a1,a7,a8,hlt,q1,q2,hx]
   ·have hx' : ¬ L[i] = x := fun e => hx e.symm
    simp [f155b0,a0,a1,a7,a8,hlt,q1,q2,hx,wrapS i (by omega)]
    exact ⟨L.length - (i + 1),by omega,i + 1,rfl,by omega,by simp,not_mem_take_succ hnot hlt hx'⟩
  ·have : i = L.length := by omega
   subst this
   rw [List.take_length] at hnot
   simp [f155b0,a0,a1,a7,a8,hnot]
 refine fn_sound tryOrd (f116_c _) (by simp [f116]) ?_
 simp [f116,f116m]
 refine h80.use ?_
 rintro e S1 ⟨z,rfl,hz,rfl⟩
 simp [hz]
theorem indexByte_mem (l : Bs) (c : UInt8) : (Lib.indexByte l c < 0 ↔ c ∉ l) ∧ -1 ≤ Lib.indexByte l c := by
 induction l with
 | nil => simp [Lib.indexByte]
 | cons d r ih =>
   by_cases h : d = c
   ·subst h; simp [Lib.indexByte]
   ·have hb : (d == c) = false := beq_eq_false_iff_ne.2 h
    have h' : ¬ c = d := fun e => h e.symm
    simp only [Lib.indexByte,hb,Bool.false_eq_true,if_false,List.mem_cons,h',false_or]
    by_cases hm : Lib.indexByte r c = -1
    ·have := ih.1.1 (by omega)
     simp [hm,this]
    ·have hb2 : (Lib.indexByte r c == -1) = false := beq_eq_false_iff_ne.2 hm
     simp only [hb2,Bool.false_eq_true,if_false]
     have h1 := ih.1
     have h2 := ih.2
     have : ¬ Lib.indexByte r c < 0 := by omega
     have h3 : c ∈ r := by
      have := mt h1.2 this
      simpa using this
     simp [h3]; omega
def twos : List Bs := [[60,62],[60,61],[62,61],[124,124]]
theorem two_mem (c d : UInt8) : decide ([c,d] ∈ twos) = two c d := by
 rw [Bool.eq_iff_iff]
 simp only [twos,two,List.mem_cons,List.cons.injEq,and_true,List.mem_nil_iff,or_false,decide_eq_true_eq,Bool.or_eq_true,Bool.and_eq_true]
 simp only [u8_eq]
 have h1 : (60 : UInt8).toNat = 60 := rfl
 have h2 : (61 : UInt8).toNat = 61 := rfl
 have h3 : (62 : UInt8).toNat = 62 := rfl
 have h4 : (124 : UInt8).toNat = 124 := rfl
 rw [h1,h2,h3,h4]
 constructor <;> intro h <;> omega
set_option maxHeartbeats 1000000 in
theorem w72 (c : UInt8) (l : Bs) (hl : l.length ≤ 4194304) (S : Heap) : ACalls Tryz.prog (B0 w0) 72 [.str (c :: l)] S fun e S' => e = .ret (lexV (Lx.sign (c :: l))) ∧ S' = S := by
 refine ACalls.close (R := fun e S' => e = .ret (lexV (Lx.sign (c :: l))) ∧ S'.take S.length = S) ?_ ?_
 rotate_left 1
 ·rintro e S' ⟨rfl,ht⟩
  refine .flat ht ?_ ⟨rfl,rfl⟩
  unfold lexV; split <;> simp [AEnd.sc,tokC]
 refine fn_sound tryOrd (f72_c _) (by simp [f72]) ?_
 have w117' := fun S => w117 (w0 := w0) ones c S
 obtain ⟨hi,_⟩ := indexByte_mem ones c
 cases l with
 | nil =>
   simp [f72,f72m]
   refine (w117' _).use ?_
   rintro e S1 ⟨rfl,rfl⟩
   by_cases hm : c ∈ ones
   ·have h0 : ¬ Lib.indexByte ones c < 0 := fun h => hi.1 h hm
    simp [h0,hm,sslcR,bound,Lx.sign,lexV,tokC]
   ·have h0 : Lib.indexByte ones c < 0 := hi.2 hm
    simp [h0,hm,Lx.sign,lexV,tokC,zTok]
 | cons d r =>
   have hlen : (1 : Int) < (r.length : Int) + 1 + 1 := by omega
   simp [f72,f72m,hlen,sslcR,bound]
   refine (w116 (w0 := w0) (L := twos) (x := [c,d]) (.list .full _) (by decide)).use ?_
   rintro e S1 ⟨rfl,rfl⟩
   rw [two_mem]
   by_cases h2 : two c d = true
   ·simp [h2,sslcR,bound,Lx.sign,lexV,tokC]
   ·simp [h2,sslcR,bound]
    refine ⟨by omega,(w117' _).use ?_⟩
    rintro e S1 ⟨rfl,rfl⟩
    by_cases hm : c ∈ ones
    ·have h0 : ¬ Lib.indexByte ones c < 0 := fun h => hi.1 h hm
     simp [h0,hm,h2,sslcR,bound,Lx.sign,lexV,tokC]
    ·have h0 : Lib.indexByte ones c < 0 := hi.2 hm
     simp [h0,hm,h2,Lx.sign,lexV,tokC,zTok]
end Go.Abs
namespace Go.Abs
open Go Go.RowKit Go.Proofs Go.Lx
variable {w0 : World}
theorem one_err {l : Bs} {e : Int} (h : Lx.one l = .error e) : 0 < e := by
 cases l with
 | nil => simp [Lx.one] at h; omega
 | cons c r =>
   rw [Lx.one] at h
   split at h
   ·rw [Lx.word] at h; split at h <;> simp at h; omega
   ·split at h
    ·rw [Lx.number] at h
     split at h
     ·split at h <;> simp at h; omega
     ·split at h <;> simp at h; omega
    ·split at h
     ·rw [Lx.text] at h
      split at h
      ·simp at h; omega
      ·split at h <;> simp at h; omega
     ·cases r with
      | nil => rw [Lx.sign] at h; split at h <;> simp at h; omega
      | cons d r => rw [Lx.sign] at h; split at h <;> (try split at h) <;> simp at h; omega
def toksV (ts : List Tok) : List (List AVal) := ts.map tokC
@[simp] theorem toksV_len (ts : List Tok) : (toksV ts).length = ts.length := by simp [toksV]
theorem toksV_k (ts : List Tok) : ∀ e ∈ toksV ts,e.length = 4 := by simp [toksV,tokC]
theorem toksV_sc (ts : List Tok) (n : Nat) : scLL n (toksV ts) = true := by
 refine scLL_iff.2 fun e he => ?_
 simp only [toksV,List.mem_map] at he
 obtain ⟨t,_,rfl⟩ := he
 simp [tokC,scL,AVal.sc]
inductive TokR (S : Heap) : Except Int (List Tok) → AEnd → Heap → Prop
 | ok (ts : List Tok) (u : AVal) (S' : Heap) (ho : Own S.length S S' [(u,4,toksV ts)]) : TokR S (.ok ts) (.ret (.tuple [u,.int 0])) S'
 | err (e : Int) (he : e ≠ 0) (S' : Heap) (hl : S.length ≤ S'.length) (ht : ∀ j,j < S.length → S'[j]? = S[j]?) : TokR S (.error e) (.ret (.tuple [.nilS,.int e])) S'
def catT (acc : List Tok) : Except Int (List Tok) → Except Int (List Tok)
 | .ok ts => .ok (acc ++ ts)
 | .error e => .error e
theorem catT_cat (a b : List Tok) (x : Except Int (List Tok)) : catT (a ++ b) x = catT a (catT b x) := by cases x <;> simp [catT]
theorem dropWhile_head {p : UInt8 → Bool} : ∀ {l : Bs} {c : UInt8} {r : Bs},l.dropWhile p = c :: r → p c = false
 | [],_,_,h => by cases h
 | d :: l,c,r,h => by
   rw [List.dropWhile_cons] at h
   split at h
   ·exact dropWhile_head h
   ·rename_i hp
    cases h
    simpa using hp
theorem dropWhile_le {p : UInt8 → Bool} (l : Bs) : (l.dropWhile p).length ≤ l.length := (List.dropWhile_sublist p).length_le
set_option maxHeartbeats 1000000 in
theorem w24 (l : Bs) (S : Heap) : ACalls Tryz.prog (B0 w0) 24 [.str l] S fun e S' => TokR S (Lx.tokens l) e S' := by
 refine fn_sound tryOrd (f24_c _) (by simp [f24]) ?_
 by_cases hl : 4000 < l.length
 ·have hl' : (4000 : Int) < (l.length : Int) := by omega
  simp [f24,f24m,hl,hl']
  rw [Lx.tokens,if_pos hl]
  exact .err 1 (by decide) S (Nat.le_refl _) (fun _ _ => rfl)
 have hl' : ¬ (4000 : Int) < (l.length : Int) := by omega
 simp [f24,f24m,hl,hl']
 rw [Lx.tokens,if_neg hl]
 refine mwp_loop (I := fun n a S' => ∃ (r : Bs) (u : AVal) (acc : List Tok),n = r.length ∧ get a 0 = .str r ∧ get a 4 = u ∧ Own S.length S S' [(u,4,toksV acc)] ∧ acc.length + r.length ≤ l.length ∧
  toks l = catT acc (toks r)) (n := l.length) ?_ ?_
 ·refine ⟨l,.nilS,[],rfl,rfl,rfl,(Own.start S).add0 4 .nil (.inl rfl),by simp,?_⟩
  cases toks l <;> rfl
 rintro n a S1 ⟨r,u,acc,rfl,a0,a4,ho,hlen,hspec⟩
 simp [f24b0,a0,a4]
 refine (w71 r _).use ?_
 rintro e S2 ⟨rfl,rfl⟩
 rw [← toks_drop r] at hspec
 have hdl := dropWhile_le (p := isB) r
 cases hd : r.dropWhile isB with
 | nil =>
   rw [hd,toks_nil] at hspec
   simp [a0,a4]
   rw [hspec,catT,List.append_nil]
   exact .ok _ _ _ ho
 | cons c r' =>
   rw [hd] at hspec hdl
   have hb := dropWhile_head hd
   simp only [List.length_cons] at hdl
   have hr4 : r'.length ≤ 4194304 := by omega
   have hone : Lx.one (c :: r') = if Lx.isL c then Lx.word (c :: r') else if isD c then Lx.number (c :: r') else if c.toNat = 39 then Lx.text (c :: r') else Lx.sign (c :: r') := by rw [Lx.one]
   have w74' := fun S => w74 (w0 := w0) (c :: r') (by simp; omega) S
   have w76' := fun S => w76 (w0 := w0) (c :: r') (by simp; omega) S
   have w77' := fun S => w77 (w0 := w0) c r' hr4 S
   have w72' := fun S => w72 (w0 := w0) c r' hr4 S
   simp [a0,a4]
   refine (w73 c _).use ?_
   rintro e S1 ⟨rfl,rfl⟩
   have hcase : (Lx.isL c = true) ∨ (¬ Lx.isL c = true ∧ isD c = true) ∨ (¬ Lx.isL c = true ∧ ¬ isD c = true ∧ c.toNat = 39) ∨ (¬ Lx.isL c = true ∧ ¬ isD c = true ∧ ¬ c.toNat = 39) := by
    by_cases h1 : Lx.isL c = true <;> by_cases h2 : isD c = true <;> by_cases h3 : c.toNat = 39 <;> simp [h1,h2,h3]
   rcases hcase with h1 | ⟨h1,h2⟩ | ⟨h1,h2,h3⟩ | ⟨h1,h2,h3⟩
   all_goals
    first
    | rw [if_pos h1] at hone
      rw [← hone] at w74'
      simp [h1,a0,a4]
      refine (w74' _).use ?_
    | rw [if_neg h1,if_pos h2] at hone
      rw [← hone] at w76'
      simp [h1,a0,a4]
      refine (w75 c _).use ?_
      rintro e S1 ⟨rfl,rfl⟩
      simp [h2,a0,a4]
      refine (w76' _).use ?_
    | rw [if_neg h1,if_neg h2,if_pos h3] at hone
      rw [← hone] at w77'
      simp [h1,a0,a4]
      refine (w75 c _).use ?_
      rintro e S1 ⟨rfl,rfl⟩
      simp [h2,h3,a0,a4]
      refine (w77' _).use ?_
    | rw [if_neg h1,if_neg h2,if_neg h3] at hone
      rw [← hone] at w72'
      have h3' : ((c.toNat : Int) == 39) = false := beq_eq_false_iff_ne.2 (by omega)
      simp [h1,a0,a4]
      refine (w75 c _).use ?_
      rintro e S1 ⟨rfl,rfl⟩
      simp [h2,h3',a0,a4]
      refine (w72' _).use ?_
   all_goals
    rintro e S3 ⟨rfl,rfl⟩
    cases hres : Lx.one (c :: r') with
    | error e =>
      have hne := one_err hres
      have hne' : (e != 0) = true := by simp; omega
      rw [toks_err hb hres] at hspec
      simp [lexV,tokC,zTok,hne',a0,a4]
      rw [hspec]
      refine .err e (by omega) _ ?_ ?_
      ·have := ho.le; simp; omega
      ·intro j hj
       rw [List.getElem?_append_left (by have := ho.le; omega)]
       exact ho.low j hj
    | ok y =>
      obtain ⟨t,n⟩ := y
      have hn := one_len hres
      rw [toks_tok hb hres] at hspec
      obtain ⟨S4,happ,ho4,hlt4⟩ := (ho.more [.cells 4 [tokC t] (some 1)]).app 0 rfl (y := .list .full [tokC t]) (ys := [tokC t]) (bytes := 40) rfl (by simp [tokC]) (by decide) (by simp; omega) (by simp; omega)
      simp only [tokC] at happ
      have hn0 : (0 : Int) ≤ (n : Int) := by omega
      simp [-appendR,lexV,tokC,a0,a4,happ,sslcR,bound,hn0,hn.2]
      obtain ⟨m,rfl⟩ : ∃ m,n = m + 1 := ⟨n - 1,by omega⟩
      refine ⟨(r'.drop m).length,by rw [List.length_drop]; omega,r'.drop m,rfl,rfl,acc ++ [t],by simpa [toksV] using ho4,by simp; omega,?_⟩
      rw [hspec,catT_cat,Nat.add_sub_cancel]
      cases toks (r'.drop m) <;> rfl
end Go.Abs
namespace Go.Abs
open Go Go.RowKit Go.Proofs Go.Lx
variable {w0 : World}
def resv : List Bs := [[97,110,100],[97,115],[98,101,103,105,110],[98,111,111,108],[98,121],[99,111,109,109,105,116],[99,114,101,97,116,101],[100,101,108,101,116,101],[100,101,115,99],[100,114,111,112],
 [102,97,108,115,101],[102,114,111,109],[105,110,100,101,120],[105,110,102,105,110,105,116,121],[105,110,110,101,114],[105,110,115,101,114,116],[105,110,116],[105,110,116,111],[105,115],[106,111,105,110],
 [110,97,110],[110,111,116],[110,117,108,108],[111,110],[111,114],[111,114,100,101,114],[114,101,97,108],[114,111,108,108,98,97,99,107],[115,101,108,101,99,116],[115,101,116],[116,97,98,108,101],[116,101,120,116],
 [116,114,117,101],[117,110,105,113,117,101],[117,112,100,97,116,101],[118,97,108,117,101,115],[119,104,101,114,101]]
set_option maxRecDepth 100000 in
set_option maxHeartbeats 4000000 in
theorem w105 (x : Bs) (S : Heap) : ACalls Tryz.prog (B0 w0) 105 [.str x] S fun e S' => e = .ret (.bool (decide (x ∈ resv))) ∧ S' = S := by
 by_cases h : x ∈ resv
 ·rw [decide_eq_true h]
  simp only [resv,List.mem_cons,List.mem_nil_iff,or_false] at h
  refine fn_sound tryOrd (f105_c _) (by simp [f105]) ?_
  rcases h with rfl | rfl | rfl | rfl | rfl | rfl | rfl | rfl | rfl | rfl | rfl | rfl | rfl | rfl | rfl | rfl | rfl | rfl | rfl | rfl | rfl | rfl | rfl | rfl | rfl | rfl | rfl | rfl | rfl | rfl | rfl | rfl | rfl | rfl | rfl | rfl | rfl
  all_goals simp [f105,f105m]
 ·rw [decide_eq_false h]
  simp only [resv,List.mem_cons,List.mem_nil_iff,or_false,not_or] at h
  refine fn_sound tryOrd (f105_c _) (by simp [f105]) ?_
  simp [f105,f105m,h]
def nameB (x : Bs) : Bool := decide (1 ≤ x.length) && decide (x.length ≤ 32) && Lx.isL (x[0]?.getD 0) && x.all (fun c => isW c && decide (Lib.lowerB c = c)) && !decide (x ∈ resv)
theorem run_eq_len {p : UInt8 → Bool} : ∀ {l : Bs},run p l = l.length ↔ l.all p = true
 | [] => by simp [run]
 | c :: r => by
   rw [run_cons]
   have ih := run_eq_len (p := p) (l := r)
   by_cases h : p c = true
   ·simp only [h,if_true,List.length_cons,List.all_cons,Bool.true_and]; rw [← ih]; omega
   ·have h' : p c = false := by simpa using h
    simp [h']
theorem map_lower_eq : ∀ {l : Bs},l.map Lib.lowerB = l ↔ l.all (fun c => decide (Lib.lowerB c = c)) = true
 | [] => by simp
 | c :: r => by
   have ih := map_lower_eq (l := r)
   simp only [List.map_cons,List.cons.injEq,List.all_cons,Bool.and_eq_true,decide_eq_true_eq]
   rw [ih]
theorem all_and {l : Bs} {p q : UInt8 → Bool} : l.all (fun c => p c && q c) = (l.all p && l.all q) := by
 induction l with
 | nil => rfl
 | cons c r ih => simp only [List.all_cons,ih]; cases p c <;> cases q c <;> cases r.all p <;> cases r.all q <;> rfl
end Go.Abs
namespace Go.Pz
open Go.Lx (Bs Tok)
inductive Ex where
 | mk (op : Int) (args : List Ex) (kind num scale : Int) (text qual : Bs)
 deriving Inhabited
def Ex.zero : Ex := .mk 0 [] 0 0 0 [] []
abbrev Ex.un (op : Int) (x : Ex) : Ex := .mk op [x] 0 0 0 [] []
abbrev Ex.bin (op : Int) (x y : Ex) : Ex := .mk op [x,y] 0 0 0 [] []
abbrev Ex.const (kind num scale : Int) (text : Bs) : Ex := .mk 21 [] kind num scale text []
abbrev Ex.col (text qual : Bs) : Ex := .mk 22 [] 0 0 0 text qual
mutual
def Ex.depth : Ex → Nat
 | .mk _ args _ _ _ _ _ => depthL args
def depthL : List Ex → Nat
 | [] => 0
 | x :: r => max (x.depth + 1) (depthL r)
end
mutual
def Ex.w : Ex → Nat
 | .mk _ args _ _ _ _ _ => wL args
def wL : List Ex → Nat
 | [] => 0
 | x :: r => x.w + 1 + wL r
end
structure Col where
 name : Bs
 type : Int
 req : Bool
 deriving DecidableEq,Inhabited
structure Itm where
 e : Ex
 name : Bs
 deriving Inhabited
structure Src where
 table : Bs
 alias : Bs
 on : Ex
 deriving Inhabited
structure Srt where
 e : Ex
 desc : Bool
 deriving Inhabited
structure Asn where
 col : Bs
 e : Ex
 deriving Inhabited
structure Stm where
 kind : Int := 0
 table : Bs := []
 index : Bs := []
 cols : List Col := []
 names : List Bs := []
 uniq : Bool := false
 rows : List (List Ex) := []
 items : List Itm := []
 src : List Src := []
 wher : Ex := .zero
 order : List Srt := []
 sets : List Asn := []
 deriving Inhabited
abbrev Res (α : Type) := Except Int (α × List Tok)
def isT (k : Int) (s : Bs) : List Tok → Bool
 | [] => false
 | t :: _ => decide (t.kind = k ∧ t.text = s)
def skip (k : Int) (s : Bs) (l : List Tok) : Option (List Tok) := if isT k s l then some l.tail else none
def need (k : Int) (s : Bs) (l : List Tok) : Except Int (List Tok) := if isT k s l then .ok l.tail else .error 130
def nameR (resv : List Bs) : List Tok → Res Bs
 | [] => .error 130
 | t :: r => if t.kind = 1 ∧ t.text ∉ resv then .ok (t.text,r) else .error 130
def chainF (f : List Tok → Res Ex) (o : List Tok → Option (Int × List Tok)) : Nat → Ex → List Tok → Res Ex
 | 0,e,l => .ok (e,l)
 | n + 1,e,l => match o l with
   | none => .ok (e,l)
   | some (op,l1) => match f l1 with
     | .error c => .error c
     | .ok (x,l2) => chainF f o n (.bin op e x) l2
def chain (f : List Tok → Res Ex) (o : List Tok → Option (Int × List Tok)) (l : List Tok) : Res Ex :=
 match f l with
 | .error c => .error c
 | .ok (e,l1) => chainF f o (l1.length + 1) e l1
def stripN (k : Int) (s : Bs) : List Tok → Nat
 | [] => 0
 | t :: r => if t.kind = k ∧ t.text = s then stripN k s r + 1 else 0
def wrap (op : Int) : Nat → Ex → Ex
 | 0,e => e
 | n + 1,e => wrap op n (.un op e)
def aheadP (op : Int) (k : Int) (s : Bs) (f : List Tok → Res Ex) (l : List Tok) : Res Ex :=
 match f (l.drop (stripN k s l)) with
 | .error c => .error c
 | .ok (e,l') => .ok (wrap op (stripN k s l) e,l')
def operS : List Bs → Int → List Tok → Option (Int × List Tok)
 | [],_,_ => none
 | s :: r,k,l => if isT 5 s l then some (k,l.tail) else operS r (k + 1) l
def opOr (l : List Tok) : Option (Int × List Tok) := if isT 1 [111,114] l then some (18,l.tail) else none
def opAnd (l : List Tok) : Option (Int × List Tok) := if isT 1 [97,110,100] l then some (17,l.tail) else none
def opSum (l : List Tok) : Option (Int × List Tok) := if isT 5 [124,124] l then some (12,l.tail) else operS [[43],[45]] 7 l
def opMul (l : List Tok) : Option (Int × List Tok) := operS [[42],[47],[37]] 9 l
def opTest (l : List Tok) : Option (Int × List Tok) := operS [[61],[60,62],[60],[60,61],[62],[62,61]] 1 l
section
variable (resv : List Bs) (E : Nat → List Tok → Res Ex) (k : Nat)
def inner (l : List Tok) : Res Ex :=
 if isT 5 [40] l = true ∧ k = 40 then .error 5
 else if isT 5 [40] l then
  match E (k + 1) l.tail with
  | .error c => .error c
  | .ok (x,l2) => if isT 5 [41] l2 then .ok (x,l2.tail) else .error 130
 else .error 130
def named (w : Bs) (l : List Tok) : Res Ex :=
 if w = [110,117,108,108] then .ok (.const 0 0 0 [],l.tail)
 else if w = [116,114,117,101] then .ok (.const 1 1 0 [],l.tail)
 else if w = [102,97,108,115,101] then .ok (.const 1 0 0 [],l.tail)
 else if w = [110,97,110] then .ok (.const 3 0 (-1) [],l.tail)
 else if w = [105,110,102,105,110,105,116,121] then .ok (.const 3 0 (-2) [],l.tail)
 else if w = [105,110,116] ∨ w = [114,101,97,108] then
  match inner E k l.tail with
  | .error c => .error c
  | .ok (x,l') => .ok (.un (if w = [114,101,97,108] then 15 else 14) x,l')
 else match nameR resv l with
  | .error c => .error c
  | .ok (n,l1) => if isT 5 [46] l1 then
    match nameR resv l1.tail with
    | .error c => .error c
    | .ok (m,l2) => .ok (.col m n,l2)
   else .ok (.col n [],l1)
def oneP (l : List Tok) : Res Ex :=
 match l with
 | [] => .error 130
 | t :: r =>
   if t.kind = 2 ∨ t.kind = 3 then .ok (.const t.kind t.num t.scale [],r)
   else if t.kind = 4 then .ok (.const 4 t.num t.scale t.text,r)
   else if t.kind = 1 then named resv E k t.text (t :: r)
   else inner E k (t :: r)
def minusP (l : List Tok) : Res Ex := aheadP 13 5 [45] (oneP resv E k) l
def termP (l : List Tok) : Res Ex := chain (minusP resv E k) opMul l
def sumP (l : List Tok) : Res Ex := chain (termP resv E k) opSum l
def testP (l : List Tok) : Res Ex :=
 match sumP resv E k l with
 | .error c => .error c
 | .ok (e,l1) => match opTest l1 with
   | some (op,l2) => match sumP resv E k l2 with
     | .error c => .error c
     | .ok (x,l3) => .ok (.bin op e x,l3)
   | none => if isT 1 [105,115] l1 then
     if isT 1 [110,111,116] l1.tail then (if isT 1 [110,117,108,108] l1.tail.tail then .ok (.un 20 e,l1.tail.tail.tail) else .error 130)
     else if isT 1 [110,117,108,108] l1.tail then .ok (.un 19 e,l1.tail.tail) else .error 130
    else .ok (e,l1)
def notP (l : List Tok) : Res Ex := aheadP 16 1 [110,111,116] (testP resv E k) l
def bothP (l : List Tok) : Res Ex := chain (notP resv E k) opAnd l
def eitherP (l : List Tok) : Res Ex := chain (bothP resv E k) opOr l
end
def either (resv : List Bs) : Nat → Nat → List Tok → Res Ex
 | 0,_,_ => .error 130
 | n + 1,k,l => eitherP resv (either resv n) k l
structure Sta where
 l : List Tok
 d : Nat
abbrev ResS (α : Type) := Except Int (α × Sta)
def bindS {α β : Type} (x : ResS α) (f : α → Sta → ResS β) : ResS β :=
 match x with
 | .error c => .error c
 | .ok (a,s) => f a s
def thenS {β : Type} (x : Except Int Sta) (f : Sta → ResS β) : ResS β :=
 match x with
 | .error c => .error c
 | .ok s => f s
@[simp] theorem bindS_error {α β : Type} (c : Int) (f : α → Sta → ResS β) : bindS (.error c) f = .error c := (rfl)
@[simp] theorem bindS_ok {α β : Type} (a : α) (s : Sta) (f : α → Sta → ResS β) : bindS (.ok (a,s)) f = f a s := (rfl)
@[simp] theorem thenS_error {β : Type} (c : Int) (f : Sta → ResS β) : thenS (.error c) f = .error c := (rfl)
@[simp] theorem thenS_ok {β : Type} (s : Sta) (f : Sta → ResS β) : thenS (.ok s) f = f s := (rfl)
section
variable (resv : List Bs) (N : Nat)
def whole (s : Sta) : ResS Ex :=
 match either resv N 0 s.l with
 | .error c => .error c
 | .ok (x,l') => .ok (x,⟨l',max s.d x.depth⟩)
def nameS (s : Sta) : ResS Bs :=
 match nameR resv s.l with
 | .error c => .error c
 | .ok (x,l') => .ok (x,⟨l',s.d⟩)
def needS (k : Int) (w : Bs) (s : Sta) : Except Int Sta := if isT k w s.l then .ok ⟨s.l.tail,s.d⟩ else .error 130
def listF {α : Type} (step : α → Sta → ResS α) : Nat → α → Sta → ResS α
 | 0,a,s => step a s
 | f + 1,a,s => match step a s with
   | .error c => .error c
   | .ok (a',s') => if isT 5 [44] s'.l then (if f = 0 then .error 151 else listF step f a' ⟨s'.l.tail,s'.d⟩) else .ok (a',s')
def aliasS (s : Sta) : ResS Bs := if isT 1 [97,115] s.l then nameS resv ⟨s.l.tail,s.d⟩ else .ok ([],s)
def whereS (s : Sta) : ResS Ex := if isT 1 [119,104,101,114,101] s.l then whole resv N ⟨s.l.tail,s.d⟩ else .ok (.zero,s)
def typeS (s : Sta) : ResS Int :=
 if isT 1 [105,110,116] s.l then .ok (2,⟨s.l.tail,s.d⟩)
 else if isT 1 [114,101,97,108] s.l then .ok (3,⟨s.l.tail,s.d⟩)
 else if isT 1 [98,111,111,108] s.l then .ok (1,⟨s.l.tail,s.d⟩)
 else if isT 1 [116,101,120,116] s.l then .ok (4,⟨s.l.tail,s.d⟩)
 else .error 130
def columnS (s : Sta) : ResS Col :=
 bindS (nameS resv s) fun n s =>
 bindS (typeS s) fun t s =>
 if isT 1 [110,111,116] s.l then
  thenS (needS 1 [110,117,108,108] ⟨s.l.tail,s.d⟩) fun s =>
  .ok (⟨n,t,true⟩,s)
 else .ok (⟨n,t,false⟩,s)
def createS (s : Sta) : ResS Stm :=
 if isT 1 [116,97,98,108,101] s.l then
  bindS (nameS resv ⟨s.l.tail,s.d⟩) fun n s =>
  thenS (needS 5 [40] s) fun s =>
  bindS (listF (fun cs s => bindS (columnS resv s) fun c s => .ok (cs ++ [c],s)) 16 [] s) fun cs s =>
  thenS (needS 5 [41] s) fun s =>
  .ok ({ kind := 1,table := n,cols := cs },s)
 else
  let u := isT 1 [117,110,105,113,117,101] s.l
  thenS (needS 1 [105,110,100,101,120] (if u then ⟨s.l.tail,s.d⟩ else s)) fun s =>
  bindS (nameS resv s) fun i s =>
  thenS (needS 1 [111,110] s) fun s =>
  bindS (nameS resv s) fun n s =>
  thenS (needS 5 [40] s) fun s =>
  bindS (listF (fun ns s => bindS (nameS resv s) fun c s => .ok (ns ++ [c],s)) 4 [] s) fun ns s =>
  thenS (needS 5 [41] s) fun s =>
  .ok ({ kind := 3,uniq := u,index := i,table := n,names := ns },s)
def dropS (s : Sta) : ResS Stm :=
 if isT 1 [116,97,98,108,101] s.l then
  bindS (nameS resv ⟨s.l.tail,s.d⟩) fun n s =>
  .ok ({ kind := 2,table := n },s)
 else
  thenS (needS 1 [105,110,100,101,120] s) fun s =>
  bindS (nameS resv s) fun n s =>
  .ok ({ kind := 4,index := n },s)
def exprsS (xs : List Ex) (s : Sta) : ResS (List Ex) :=
 bindS (whole resv N s) fun x s =>
 .ok (xs ++ [x],s)
def rowS (rows : List (List Ex)) (s : Sta) : ResS (List (List Ex)) :=
 thenS (needS 5 [40] s) fun s =>
 bindS (listF (exprsS resv N) 50 [] s) fun xs s =>
 thenS (needS 5 [41] s) fun s =>
 .ok (rows ++ [xs],s)
def insertS (s : Sta) : ResS Stm :=
 thenS (needS 1 [105,110,116,111] s) fun s =>
 bindS (nameS resv s) fun n s =>
 thenS (needS 1 [118,97,108,117,101,115] s) fun s =>
 bindS (listF (rowS resv N) 50 [] s) fun rs s =>
 .ok ({ kind := 5,table := n,rows := rs },s)
def itemS (xs : List Itm) (s : Sta) : ResS (List Itm) :=
 bindS (whole resv N s) fun x s =>
 bindS (aliasS resv s) fun n s =>
 .ok (xs ++ [⟨x,n⟩],s)
def sourceS (s : Sta) : ResS Src :=
 bindS (nameS resv s) fun n s =>
 bindS (aliasS resv s) fun a s =>
 .ok (⟨n,a,.zero⟩,s)
def joinsS : Nat → List Src → Sta → ResS (List Src)
 | f,xs,s => if isT 1 [105,110,110,101,114] s.l || isT 1 [106,111,105,110] s.l then
   match f with
   | 0 => .error 151
   | f + 1 =>
     thenS (needS 1 [106,111,105,110] (if isT 1 [105,110,110,101,114] s.l then ⟨s.l.tail,s.d⟩ else s)) fun s =>
     bindS (sourceS resv s) fun x s =>
     thenS (needS 1 [111,110] s) fun s =>
     bindS (whole resv N s) fun o s =>
     joinsS f (xs ++ [⟨x.table,x.alias,o⟩]) s
  else .ok (xs,s)
def sortS (xs : List Srt) (s : Sta) : ResS (List Srt) :=
 bindS (whole resv N s) fun x s =>
 let d := isT 1 [100,101,115,99] s.l
 .ok (xs ++ [⟨x,d⟩],if d then ⟨s.l.tail,s.d⟩ else s)
def orderS (s : Sta) : ResS (List Srt) :=
 if isT 1 [111,114,100,101,114] s.l then
  thenS (needS 1 [98,121] ⟨s.l.tail,s.d⟩) fun s =>
  listF (sortS resv N) 50 [] s
 else .ok ([],s)
def itemsS (s : Sta) : ResS (List Itm) := if isT 5 [42] s.l then .ok ([],⟨s.l.tail,s.d⟩) else listF (itemS resv N) 50 [] s
def queryS (s : Sta) : ResS Stm :=
 bindS (itemsS resv N s) fun is s =>
 thenS (needS 1 [102,114,111,109] s) fun s =>
 bindS (sourceS resv s) fun x s =>
 bindS (joinsS resv N 3 [x] s) fun fs s =>
 bindS (whereS resv N s) fun w s =>
 bindS (orderS resv N s) fun os s =>
 .ok ({ kind := 6,items := is,src := fs,wher := w,order := os },s)
def setS (xs : List Asn) (s : Sta) : ResS (List Asn) :=
 bindS (nameS resv s) fun n s =>
 thenS (needS 5 [61] s) fun s =>
 bindS (whole resv N s) fun x s =>
 .ok (xs ++ [⟨n,x⟩],s)
def updateS (s : Sta) : ResS Stm :=
 bindS (nameS resv s) fun n s =>
 thenS (needS 1 [115,101,116] s) fun s =>
 bindS (listF (setS resv N) 50 [] s) fun zs s =>
 bindS (whereS resv N s) fun w s =>
 .ok ({ kind := 7,table := n,sets := zs,wher := w },s)
def deleteS (s : Sta) : ResS Stm :=
 thenS (needS 1 [102,114,111,109] s) fun s =>
 bindS (nameS resv s) fun n s =>
 bindS (whereS resv N s) fun w s =>
 .ok ({ kind := 8,table := n,wher := w },s)
def stmtS (s : Sta) : ResS Stm :=
 if isT 1 [99,114,101,97,116,101] s.l then createS resv ⟨s.l.tail,s.d⟩
 else if isT 1 [100,114,111,112] s.l then dropS resv ⟨s.l.tail,s.d⟩
 else if isT 1 [105,110,115,101,114,116] s.l then insertS resv N ⟨s.l.tail,s.d⟩
 else if isT 1 [115,101,108,101,99,116] s.l then queryS resv N ⟨s.l.tail,s.d⟩
 else if isT 1 [117,112,100,97,116,101] s.l then updateS resv N ⟨s.l.tail,s.d⟩
 else if isT 1 [100,101,108,101,116,101] s.l then deleteS resv N ⟨s.l.tail,s.d⟩
 else if isT 1 [98,101,103,105,110] s.l then .ok ({ kind := 9 },⟨s.l.tail,s.d⟩)
 else if isT 1 [99,111,109,109,105,116] s.l then .ok ({ kind := 10 },⟨s.l.tail,s.d⟩)
 else if isT 1 [114,111,108,108,98,97,99,107] s.l then .ok ({ kind := 11 },⟨s.l.tail,s.d⟩)
 else .error 130
end
def parseT (resv : List Bs) (ts : List Tok) : Except Int Stm :=
 match stmtS resv (ts.length + 1) ⟨ts,0⟩ with
 | .error c => .error c
 | .ok (st,s) => if s.l ≠ [] then .error 130 else if 40 < s.d then .error 5 else .ok st
def parse (resv : List Bs) (x : Bs) : Except Int Stm :=
 match Lx.tokens x with
 | .error c => .error c
 | .ok ts => parseT resv ts
end Go.Pz
namespace Go.Pz
open Go.Lx (Bs Tok)
theorem depth_mk (op : Int) (args : List Ex) (a b c : Int) (s q : Bs) : (Ex.mk op args a b c s q).depth = depthL args := by rw [Ex.depth]
theorem depthL_nil : depthL [] = 0 := by rw [depthL]
theorem depthL_cons (x : Ex) (r : List Ex) : depthL (x :: r) = max (x.depth + 1) (depthL r) := by rw [depthL]
theorem w_mk (op : Int) (args : List Ex) (a b c : Int) (s q : Bs) : (Ex.mk op args a b c s q).w = wL args := by rw [Ex.w]
theorem wL_nil : wL [] = 0 := by rw [wL]
theorem wL_cons (x : Ex) (r : List Ex) : wL (x :: r) = x.w + 1 + wL r := by rw [wL]
theorem w_un (op : Int) (x : Ex) : (Ex.un op x).w = x.w + 1 := by rw [w_mk,wL_cons,wL_nil]
theorem w_bin (op : Int) (x y : Ex) : (Ex.bin op x y).w = x.w + y.w + 2 := by rw [w_mk,wL_cons,wL_cons,wL_nil]; omega
theorem w_const (a b c : Int) (s : Bs) : (Ex.const a b c s).w = 0 := by rw [w_mk,wL_nil]
theorem w_col (s q : Bs) : (Ex.col s q).w = 0 := by rw [w_mk,wL_nil]
theorem w_wrap (op : Int) : ∀ (n : Nat) (x : Ex),(wrap op n x).w = x.w + n
 | 0,x => rfl
 | n + 1,x => by rw [wrap,w_wrap op n,w_un]; omega
theorem wL_len : ∀ (l : List Ex),l.length ≤ wL l
 | [] => Nat.zero_le _
 | x :: r => by rw [wL_cons,List.length_cons]; have := wL_len r; omega
mutual
theorem depth_le : ∀ (x : Ex),x.depth ≤ x.w
 | .mk _ args _ _ _ _ _ => by rw [depth_mk,w_mk]; exact depthL_le args
theorem depthL_le : ∀ (l : List Ex),depthL l ≤ wL l
 | [] => by rw [depthL_nil]; exact Nat.zero_le _
 | x :: r => by rw [depthL_cons,wL_cons]; have := depth_le x; have := depthL_le r; omega
end
theorem isT_len {k : Int} {s : Bs} {l : List Tok} (h : isT k s l = true) : l.tail.length + 1 = l.length := by
 cases l with
 | nil => cases h
 | cons t r => simp
theorem stripN_le (k : Int) (s : Bs) : ∀ (l : List Tok),stripN k s l ≤ l.length
 | [] => Nat.le_refl _
 | t :: r => by
   have := stripN_le k s r
   rw [stripN]; split <;> simp; omega
def Eats (m : Nat) (f : List Tok → Res Ex) : Prop := ∀ l x l',l.length ≤ m → f l = .ok (x,l') → x.w + l'.length < l.length
def EatsO (o : List Tok → Option (Int × List Tok)) : Prop := ∀ l op l',o l = some (op,l') → l'.length + 1 = l.length
theorem Eats.le {m n : Nat} {f} (h : Eats n f) (hle : m ≤ n) : Eats m f := fun l x l' hl hf => h l x l' (by omega) hf
theorem chainF_good {m : Nat} {f o} (hf : Eats m f) (ho : EatsO o) : ∀ (n : Nat) (e : Ex) (l : List Tok) (x : Ex) (l' : List Tok) (q : Nat),l.length ≤ m → e.w + l.length < q → chainF f o n e l = .ok (x,l') → x.w + l'.length < q
 | 0,e,l,x,l',q,hl,hq,h => by
   simp only [chainF,Except.ok.injEq,Prod.mk.injEq] at h
   obtain ⟨rfl,rfl⟩ := h
   exact hq
 | n + 1,e,l,x,l',q,hl,hq,h => by
   rw [chainF] at h
   split at h
   ·simp only [Except.ok.injEq,Prod.mk.injEq] at h
    obtain ⟨rfl,rfl⟩ := h
    exact hq
   ·rename_i op l1 ho1
    have h1 := ho _ _ _ ho1
    split at h
    ·cases h
    ·rename_i y l2 hy
     have h2 := hf _ _ _ (by omega) hy
     exact chainF_good hf ho n _ _ _ _ q (by omega) (by rw [w_bin]; omega) h
theorem chain_good {m : Nat} {f o} (hf : Eats m f) (ho : EatsO o) : Eats m (chain f o) := fun l x l' hl h => by
 rw [chain] at h
 split at h
 ·cases h
 ·rename_i e l1 he
  have h1 := hf _ _ _ hl he
  exact chainF_good hf ho _ _ _ _ _ _ (by omega) h1 h
theorem aheadP_good {m : Nat} {op k s f} (hf : Eats m f) : Eats m (aheadP op k s f) := fun l x l' hl h => by
 rw [aheadP] at h
 split at h
 ·cases h
 ·rename_i e l1 he
  simp only [Except.ok.injEq,Prod.mk.injEq] at h
  obtain ⟨rfl,rfl⟩ := h
  have h0 := stripN_le k s l
  have h1 := hf _ _ _ (by rw [List.length_drop]; omega) he
  rw [List.length_drop] at h1
  rw [w_wrap]; omega
theorem operS_good : ∀ (ss : List Bs) (k : Int),EatsO (operS ss k)
 | [],k => fun l op l' h => by simp [operS] at h
 | s :: r,k => fun l op l' h => by
   rw [operS] at h
   split at h
   ·rename_i hs
    simp only [Option.some.injEq,Prod.mk.injEq] at h
    obtain ⟨-,rfl⟩ := h
    exact isT_len hs
   ·exact operS_good r _ l op l' h
theorem opOr_good : EatsO opOr := fun l op l' h => by
 rw [opOr] at h
 split at h
 ·rename_i hs
  simp only [Option.some.injEq,Prod.mk.injEq] at h
  obtain ⟨-,rfl⟩ := h
  exact isT_len hs
 ·cases h
theorem opAnd_good : EatsO opAnd := fun l op l' h => by
 rw [opAnd] at h
 split at h
 ·rename_i hs
  simp only [Option.some.injEq,Prod.mk.injEq] at h
  obtain ⟨-,rfl⟩ := h
  exact isT_len hs
 ·cases h
theorem opSum_good : EatsO opSum := fun l op l' h => by
 rw [opSum] at h
 split at h
 ·rename_i hs
  simp only [Option.some.injEq,Prod.mk.injEq] at h
  obtain ⟨-,rfl⟩ := h
  exact isT_len hs
 ·exact operS_good _ _ _ _ _ h
theorem opMul_good : EatsO opMul := operS_good _ _
theorem opTest_good : EatsO opTest := operS_good _ _
theorem nameR_len {resv : List Bs} {l : List Tok} {n : Bs} {l' : List Tok} (h : nameR resv l = .ok (n,l')) : l'.length + 1 = l.length := by
 cases l with
 | nil => cases h
 | cons t r =>
   rw [nameR] at h
   split at h
   ·simp only [Except.ok.injEq,Prod.mk.injEq] at h
    obtain ⟨-,rfl⟩ := h
    simp
   ·cases h
section
variable {resv : List Bs} {E : Nat → List Tok → Res Ex} {m : Nat}
theorem inner_good (hE : ∀ k,Eats m (E k)) (k : Nat) : Eats (m + 1) (inner E k) := fun l x l' hl h => by
 rw [inner] at h
 split at h
 ·cases h
 split at h
 ·rename_i hp
  have h0 := isT_len hp
  split at h
  ·cases h
  ·rename_i y l2 hy
   have h1 := hE _ _ _ _ (by omega) hy
   split at h
   ·rename_i hq
    have h2 := isT_len hq
    simp only [Except.ok.injEq,Prod.mk.injEq] at h
    obtain ⟨rfl,rfl⟩ := h
    omega
   ·cases h
 ·cases h
theorem named_good (hE : ∀ k,Eats m (E k)) (k : Nat) (w : Bs) (l : List Tok) (x : Ex) (l' : List Tok) (hl : l.length ≤ m + 1) (h0 : 0 < l.length) (h : named resv E k w l = .ok (x,l')) : x.w + l'.length < l.length := by
 have ht : l.tail.length + 1 = l.length := by simp; omega
 rw [named] at h
 split at h
 ·simp only [Except.ok.injEq,Prod.mk.injEq] at h
  obtain ⟨rfl,rfl⟩ := h
  rw [w_const]; omega
 split at h
 ·simp only [Except.ok.injEq,Prod.mk.injEq] at h
  obtain ⟨rfl,rfl⟩ := h
  rw [w_const]; omega
 split at h
 ·simp only [Except.ok.injEq,Prod.mk.injEq] at h
  obtain ⟨rfl,rfl⟩ := h
  rw [w_const]; omega
 split at h
 ·simp only [Except.ok.injEq,Prod.mk.injEq] at h
  obtain ⟨rfl,rfl⟩ := h
  rw [w_const]; omega
 split at h
 ·simp only [Except.ok.injEq,Prod.mk.injEq] at h
  obtain ⟨rfl,rfl⟩ := h
  rw [w_const]; omega
 split at h
 ·split at h
  ·cases h
  ·rename_i y l2 hy
   have h1 := inner_good hE k _ _ _ (by omega) hy
   simp only [Except.ok.injEq,Prod.mk.injEq] at h
   obtain ⟨rfl,rfl⟩ := h
   rw [w_un]; omega
 split at h
 ·cases h
 ·rename_i n l1 hn
  have h1 := nameR_len hn
  split at h
  ·rename_i hp
   have h2 := isT_len hp
   split at h
   ·cases h
   ·rename_i n2 l2 hn2
    have h3 := nameR_len hn2
    simp only [Except.ok.injEq,Prod.mk.injEq] at h
    obtain ⟨rfl,rfl⟩ := h
    rw [w_col]; omega
  ·simp only [Except.ok.injEq,Prod.mk.injEq] at h
   obtain ⟨rfl,rfl⟩ := h
   rw [w_col]; omega
theorem oneP_good (hE : ∀ k,Eats m (E k)) (k : Nat) : Eats (m + 1) (oneP resv E k) := fun l x l' hl h => by
 unfold oneP at h
 split at h
 ·cases h
 split at h
 ·simp only [Except.ok.injEq,Prod.mk.injEq] at h
  obtain ⟨rfl,rfl⟩ := h
  rw [w_const]; simp
 split at h
 ·simp only [Except.ok.injEq,Prod.mk.injEq] at h
  obtain ⟨rfl,rfl⟩ := h
  rw [w_const]; simp
 split at h
 ·exact named_good hE k _ _ _ _ hl (by simp) h
 ·exact inner_good hE k _ _ _ hl h
theorem minusP_good (hE : ∀ k,Eats m (E k)) (k : Nat) : Eats (m + 1) (minusP resv E k) := aheadP_good (oneP_good hE k)
theorem termP_good (hE : ∀ k,Eats m (E k)) (k : Nat) : Eats (m + 1) (termP resv E k) := chain_good (minusP_good hE k) opMul_good
theorem sumP_good (hE : ∀ k,Eats m (E k)) (k : Nat) : Eats (m + 1) (sumP resv E k) := chain_good (termP_good hE k) opSum_good
theorem testP_good (hE : ∀ k,Eats m (E k)) (k : Nat) : Eats (m + 1) (testP resv E k) := fun l x l' hl h => by
 rw [testP] at h
 split at h
 ·cases h
 rename_i e l1 he
 have h0 := sumP_good hE k _ _ _ hl he
 split at h
 ·rename_i op l2 ho
  have h1 := opTest_good _ _ _ ho
  split at h
  ·cases h
  ·rename_i y l3 hy
   have h2 := sumP_good hE k _ _ _ (by omega) hy
   simp only [Except.ok.injEq,Prod.mk.injEq] at h
   obtain ⟨rfl,rfl⟩ := h
   rw [w_bin]; omega
 ·split at h
  ·rename_i hi
   have h1 := isT_len hi
   split at h
   ·rename_i hn
    have h2 := isT_len hn
    split at h
    ·rename_i hu
     have h3 := isT_len hu
     simp only [Except.ok.injEq,Prod.mk.injEq] at h
     obtain ⟨rfl,rfl⟩ := h
     rw [w_un]; omega
    ·cases h
   ·split at h
    ·rename_i hu
     have h3 := isT_len hu
     simp only [Except.ok.injEq,Prod.mk.injEq] at h
     obtain ⟨rfl,rfl⟩ := h
     rw [w_un]; omega
    ·cases h
  ·simp only [Except.ok.injEq,Prod.mk.injEq] at h
   obtain ⟨rfl,rfl⟩ := h
   omega
theorem notP_good (hE : ∀ k,Eats m (E k)) (k : Nat) : Eats (m + 1) (notP resv E k) := aheadP_good (testP_good hE k)
theorem bothP_good (hE : ∀ k,Eats m (E k)) (k : Nat) : Eats (m + 1) (bothP resv E k) := chain_good (notP_good hE k) opAnd_good
theorem eitherP_good (hE : ∀ k,Eats m (E k)) (k : Nat) : Eats (m + 1) (eitherP resv E k) := chain_good (bothP_good hE k) opOr_good
end
theorem either_good (resv : List Bs) : ∀ (n k : Nat),Eats n (either resv n k)
 | 0,k => fun l x l' hl h => by cases h
 | n + 1,k => eitherP_good (fun k => either_good resv n k) k
end Go.Pz
namespace Go.Abs
open Go Go.RowKit Go.Proofs Go.Lx Go.Pz
variable {w0 : World}
mutual
def exC : Ex → List AVal
 | .mk op args kind num scale text qual => [.int op,exsV args,.int kind,.int num,.int scale,.str text,.str qual]
def exsV : List Ex → AVal
 | [] => .nilS
 | x :: r => .list .full (exC x :: exsL r)
def exsL : List Ex → List (List AVal)
 | [] => []
 | x :: r => exC x :: exsL r
end
theorem exsL_map : ∀ (l : List Ex),exsL l = l.map exC
 | [] => rfl
 | x :: r => by rw [exsL,exsL_map r]; rfl
theorem exC_eq (op : Int) (args : List Ex) (kind num scale : Int) (text qual : Bs) : exC (.mk op args kind num scale text qual) = [.int op,exsV args,.int kind,.int num,.int scale,.str text,.str qual] := by rw [exC]
theorem exsV_nil : exsV [] = .nilS := by rw [exsV]
theorem exsV_one (x : Ex) : exsV [x] = .list .full [exC x] := by rw [exsV,exsL]
theorem exsV_two (x y : Ex) : exsV [x,y] = .list .full [exC x,exC y] := by rw [exsV,exsL,exsL]
theorem exC_shape (x : Ex) : ∃ (op : Int) (v : AVal) (kind num scale : Int) (text qual : Bs),exC x = [.int op,v,.int kind,.int num,.int scale,.str text,.str qual] ∧ v.one = true ∧ cellsOf false v = some [v] := by
 cases x with
 | mk op args kind num scale text qual =>
   refine ⟨op,exsV args,kind,num,scale,text,qual,by rw [exC],?_⟩
   cases args with
   | nil => rw [exsV]; exact ⟨rfl,rfl⟩
   | cons y r => rw [exsV]; exact ⟨rfl,rfl⟩
@[simp] theorem exC_len (x : Ex) : (exC x).length = 7 := by obtain ⟨_,_,_,_,_,_,_,h,_⟩ := exC_shape x; rw [h]; rfl
@[simp] theorem exC_one (x : Ex) : (exC x).all AVal.one = true := by obtain ⟨_,_,_,_,_,_,_,h,h1,_⟩ := exC_shape x; rw [h]; simp [h1]
mutual
theorem exC_sc (n : Nat) : ∀ (x : Ex),scL n (exC x) = true
 | .mk op args kind num scale text qual => by rw [exC]; simp [scL,AVal.sc]; exact exsV_sc n args
theorem exsV_sc (n : Nat) : ∀ (l : List Ex),(exsV l).sc n = true
 | [] => by rw [exsV]; rfl
 | x :: r => by rw [exsV]; simp only [AVal.sc,scLL,Bool.and_eq_true]; exact ⟨exC_sc n x,exsL_sc n r⟩
theorem exsL_sc (n : Nat) : ∀ (l : List Ex),scLL n (exsL l) = true
 | [] => by rw [exsL]; rfl
 | x :: r => by rw [exsL]; simp only [scLL,Bool.and_eq_true]; exact ⟨exC_sc n x,exsL_sc n r⟩
end
@[simp] theorem exC_scs (n : Nat) (x : Ex) : scL n (exC x) = true := exC_sc n x
@[simp] theorem exsV_scs (n : Nat) (l : List Ex) : AVal.sc n (exsV l) = true := exsV_sc n l
@[simp] theorem exA_sc (n : Nat) (x : Ex) : AVal.sc n (.agg (exC x)) = true := by simp only [AVal.sc]; exact exC_sc n x
@[simp] theorem exA_cells (x : Ex) : cellsOf true (.agg (exC x)) = some (exC x) := rfl
def TkV (v : AVal) (l : List Tok) : Prop := ∃ fl,v = .list fl (toksV l) ∧ (l ≠ [] → fl ≠ .nil)
theorem TkV.one {v l} (h : TkV v l) : v.one = true ∧ cellsOf false v = some [v] ∧ ∀ n,v.sc n = true := by
 obtain ⟨fl,rfl,_⟩ := h
 exact ⟨rfl,rfl,fun n => by simpa [AVal.sc] using toksV_sc l n⟩
theorem TkV.lenR {v l} (h : TkV v l) (S : Heap) : lenR S v = .ok true (.int l.length) S := by
 obtain ⟨fl,rfl,_⟩ := h
 simp
theorem TkV.head {v t r} (h : TkV v (t :: r)) : ∃ p,∀ S,iaddrR 4 S v (.int 0) = .ok true p S ∧ loadR true 4 S p = .ok true (.agg (tokC t)) S := by
 obtain ⟨fl,rfl,_⟩ := h
 have h0 : (0 : Int) < (r.length : Int) + 1 := by omega
 exact ⟨.fptr (toksV (t :: r)) 0 0,fun S => ⟨by simp [toksV,tokC,h0],by simp [toksV,tokC]⟩⟩
theorem TkV.tail {v t r} (h : TkV v (t :: r)) : ∃ v',TkV v' r ∧ ∀ a S,slcR 4 a S v (some (.val (.int 1))) none none = .ok true v' S := by
 obtain ⟨fl,rfl,hfl⟩ := h
 have hne := hfl (by simp)
 have hk : r.length = 0 ∨ ((toksV (t :: r)).getD 1 []).length = 4 := by
  cases r with
  | nil => exact .inl rfl
  | cons u r => exact .inr (by simp [toksV,tokC])
 have hlen : (toksV (t :: r)).length = r.length + 1 := by simp
 refine ⟨.list (fl.with (true && fl.isFull)) (toksV r),⟨_,rfl,fun _ => ?_⟩,fun a S => ?_⟩
 ·cases fl <;> simp [Fl.with,Fl.non,Fl.isFull] at hne ⊢
 ·have e : ((toksV (t :: r)).take (toksV (t :: r)).length).drop 1 = toksV r := by rw [List.take_length]; rfl
  have h1 : (decide (1 ≤ r.length + 1) && decide (r.length + 1 ≤ r.length + 1) && (decide (1 = r.length + 1) || decide (((toksV (t :: r)).getD 1 []).length = 4))) = true := by
   rcases hk with h | h
   ·simp [h]
   ·rw [h]; simp
  cases fl with
  | nil => exact absurd rfl hne
  | _ =>
    rw [hlen] at e
    simp only [slcR,bound,ev_val,AVal.int,show (0 : Int) ≤ 1 from by decide,if_true,show (1 : Int).toNat = 1 from rfl,hlen,h1,decide_true,e]
def PO (l : List Tok) (k d : Nat) (o : AObj) : Prop := ∃ v,TkV v l ∧ o = .cells 3 [[v,.int k,.int d]] (some 1)
def At (S : Heap) (pid : Nat) (l : List Tok) (k d : Nat) : Prop := ∃ o,S[pid]? = some o ∧ PO l k d o
theorem PO.sc {l k d o} (h : PO l k d o) (n : Nat) : o.sc n = true := by
 obtain ⟨v,hv,rfl⟩ := h
 simp [AObj.sc,scLL,scL,hv.one.2.2 n,AVal.sc]
theorem At.get {S pid l k d} (h : At S pid l k d) : ∃ v,TkV v l ∧ S[pid]? = some (.cells 3 [[v,.int k,.int d]] (some 1)) := by
 obtain ⟨o,h1,v,h2,rfl⟩ := h
 exact ⟨v,h2,h1⟩
theorem At.lt {S pid l k d} (h : At S pid l k d) : pid < S.length := by obtain ⟨o,h1,_⟩ := h; exact lt_of_some h1
theorem At.more {S pid l k d} (h : At S pid l k d) (g : Heap) : At (S ++ g) pid l k d := by
 have hl := h.lt
 obtain ⟨o,h1,h2⟩ := h
 exact ⟨o,by rw [List.getElem?_append_left hl]; exact h1,h2⟩
theorem At.less {S g : Heap} {pid l k d} (h : At (S ++ g) pid l k d) (hl : pid < S.length) : At S pid l k d := by
 obtain ⟨o,h1,h2⟩ := h
 exact ⟨o,by rwa [List.getElem?_append_left hl] at h1,h2⟩
theorem hmoreG {S : Heap} {i : Nat} (h : i < S.length) (g : Heap) : (S ++ g)[i]? = S[i]? := List.getElem?_append_left h
def Step (pid : Nat) (S T : Heap) : Prop := S.length = T.length ∧ ∀ j,j ≠ pid → T[j]? = S[j]?
theorem Step.refl (pid : Nat) (S : Heap) : Step pid S S := ⟨rfl,fun _ _ => rfl⟩
theorem Step.trans {pid S T U} (h : Step pid S T) (h' : Step pid T U) : Step pid S U := ⟨h.1.trans h'.1,fun j hj => (h'.2 j hj).trans (h.2 j hj)⟩
theorem Step.more {pid S T} (h : Step pid S T) (g : Heap) : Step pid (S ++ g) (T ++ g) := by
 refine ⟨by simp [h.1],fun j hj => ?_⟩
 rcases Nat.lt_or_ge j S.length with hlt | hge
 ·rw [List.getElem?_append_left (h.1 ▸ hlt),List.getElem?_append_left hlt]; exact h.2 j hj
 ·rw [List.getElem?_append_right (h.1 ▸ hge),List.getElem?_append_right hge,h.1]
theorem Step.split {pid : Nat} {T g S' : Heap} (h : Step pid (T ++ g) S') (hp : pid < T.length) : ∃ T',S' = T' ++ g ∧ Step pid T T' := by
 have hlen : S'.length = T.length + g.length := by rw [← h.1]; simp
 refine ⟨S'.take T.length,?_,by simp [hlen],fun j hj => ?_⟩
 ·conv => lhs; rw [← List.take_append_drop T.length S']
  congr 1
  refine List.ext_getElem? fun j => ?_
  rw [List.getElem?_drop,h.2 _ (by omega),List.getElem?_append_right (by omega)]
  congr 1; omega
 ·rcases Nat.lt_or_ge j T.length with hlt | hge
  ·rw [List.getElem?_take_of_lt hlt,h.2 j hj,List.getElem?_append_left hlt]
  ·rw [List.getElem?_eq_none (by simp; omega),List.getElem?_eq_none hge]
theorem Step.set {S : Heap} {pid : Nat} (o : AObj) : Step pid S (S.set pid o) := ⟨by simp,fun j hj => by rw [List.getElem?_set_ne (Ne.symm hj)]⟩
def Kpt (pid : Nat) (S T : Heap) : Prop := S.length ≤ T.length ∧ ∀ j,j < S.length → j ≠ pid → T[j]? = S[j]?
theorem Step.kpt {pid S T} (h : Step pid S T) : Kpt pid S T := ⟨Nat.le_of_eq h.1,fun j _ hj => h.2 j hj⟩
theorem Kpt.more {pid S T} (h : Kpt pid S T) (g : Heap) : Kpt pid S (T ++ g) := ⟨by simp; have := h.1; omega,fun j hl hj => by rw [List.getElem?_append_left (by have := h.1; omega)]; exact h.2 j hl hj⟩
theorem Kpt.trans {pid S T U} (h : Kpt pid S T) (h' : Kpt pid T U) : Kpt pid S U := ⟨Nat.le_trans h.1 h'.1,fun j hl hj => (h'.2 j (Nat.lt_of_lt_of_le hl h.1) hj).trans (h.2 j hl hj)⟩
theorem Kpt.refl (pid : Nat) (S : Heap) : Kpt pid S S := ⟨Nat.le_refl _,fun _ _ _ => rfl⟩
theorem ACalls.cut {P : Program} {β : Base} {f args S} {R R' : AEnd → Heap → Prop} (h : ACalls P β f args S R)
  (hr : ∀ e S',R e S' → ∃ T g,S' = T ++ g ∧ T.length = S.length ∧ (∀ o ∈ T,o ∈ S ∨ o.sc S.length = true) ∧ e.sc S.length = true ∧ R' e T) : ACalls P β f args S R' := by
 refine ⟨h.1,fun F m w vs hs hv => (h.2 F m w vs hs hv).mono fun e w' ⟨ae,F',m',S',he,hs',hrel,hR⟩ => ?_⟩
 obtain ⟨T,g,rfl,hTl,hTo,hsc,hR'⟩ := hr _ _ hR
 have hdom : ∀ id p,m id = some p → id < S.length := fun id p hp => by
  rcases Nat.lt_or_ge id S.length with h' | h'
  ·exact h'
  ·rw [hs.dom id h'] at hp; cases hp
 have hm0 : ∀ g,Rel F' m (β.G g) (.pointer (some ⟨g,0,none⟩)) := fun g => (hs.glob g).mono ⟨he.f,fun _ _ h => h⟩
 have htk : (T ++ g).take S.length = T := by rw [← hTl]; simp
 obtain ⟨m1,k1,k2,_,hs1⟩ := hs'.keep (m0 := m) (n := S.length) hm0 (fun id p hp => ⟨hdom id p hp,he.m id p hp⟩) [] (by simp) (by simp) (by simp [hTl]) (by
  rw [htk]; intro o ho
  rcases hTo o ho with h1 | h1
  ·exact hs.scs o h1
  ·exact h1) (by simp)
 rw [htk] at hs1
 simp only [List.map_nil,List.append_nil] at hs1
 refine ⟨ae,F',m1,T,⟨he.f,k1⟩,hs1,?_,hR'⟩
 cases ae with
 | ret v => cases e <;> first | exact hrel.elim | exact Rel.cut k2 hrel hsc
 | panic v =>
   cases e <;> first | exact hrel.elim | skip
   obtain ⟨u,rfl,hu⟩ := hrel
   exact ⟨u,rfl,Rel.cut k2 hu hsc⟩
def Fin (S : Heap) (pid : Nat) (R : AEnd → Heap → Prop) (e : AEnd) (S' : Heap) : Prop := ∃ T g,S' = T ++ g ∧ Step pid S T ∧ (∃ l k d,At T pid l k d) ∧ e.sc S.length = true ∧ R e T
theorem ACalls.fin {P : Program} {β : Base} {f args S pid} {R : AEnd → Heap → Prop} (h : ACalls P β f args S (Fin S pid R)) : ACalls P β f args S R :=
 h.cut fun e S' ⟨T,g,e1,hst,⟨l,k,d,o,ho,hpo⟩,hsc,hR⟩ => ⟨T,g,e1,hst.1.symm,fun o' ho' => by
  obtain ⟨j,hj,rfl⟩ := List.getElem_of_mem ho'
  by_cases hjp : j = pid
  ·subst hjp
   rw [List.getElem?_eq_getElem hj] at ho
   cases ho
   exact .inr (hpo.sc _)
  ·have := hst.2 j hjp
   rw [List.getElem?_eq_getElem hj] at this
   exact .inl (List.mem_of_getElem? this.symm),hsc,hR⟩
def trb (c : Int) : AVal := .iface 60 (.agg [.int c])
@[simp] theorem trb_sc (c : Int) (n : Nat) : (trb c).sc n = true := rfl
def PrR {α : Type} (V : α → AVal) (S : Heap) (pid k d : Nat) (r : Except Int (α × List Tok)) (e : AEnd) (S' : Heap) : Prop :=
 Step pid S S' ∧ match r with
  | .ok (x,l) => e = .ret (V x) ∧ At S' pid l k d
  | .error c => e = .panic (trb c) ∧ ∃ l k d,At S' pid l k d
abbrev ExR := PrR fun x => AVal.agg (exC x)
theorem PrR.ok {α : Type} {V : α → AVal} {S T g : Heap} {pid k d : Nat} {x : α} {l : List Tok} (hst : Step pid S T) (ha : At T pid l k d) (hv : (V x).sc S.length = true) : Fin S pid (PrR V S pid k d (.ok (x,l))) (.ret (V x)) (T ++ g) :=
 ⟨T,g,rfl,hst,⟨_,_,_,ha⟩,hv,hst,rfl,ha⟩
theorem PrR.err {α : Type} {V : α → AVal} {S T g : Heap} {pid k d : Nat} {c : Int} {l k' d'} (hst : Step pid S T) (ha : At T pid l k' d') : Fin S pid (PrR V S pid k d (.error c)) (.panic (trb c)) (T ++ g) :=
 ⟨T,g,rfl,hst,⟨_,_,_,ha⟩,rfl,hst,rfl,_,_,_,ha⟩
end Go.Abs
namespace Go.Abs
open Go Go.RowKit Go.Proofs Go.Lx Go.Pz
variable {w0 : World}
@[simp] theorem run_panic {x : MOpd} {S : Heap} {a : Tmps} : (MOp.panic x).run S a = (match ev a x with
  | .iface t v => .panic (.iface t v) S
  | _ => .fail) := (rfl)
@[simp] theorem afterR_panic {v S kp k} : @afterR (.panic v S) ⟨kp⟩ k = kp v S := (rfl)
theorem hsetG {S : Heap} {i : Nat} (h : i < S.length) (g : Heap) (o : AObj) : (S ++ g).set i o = S.set i o ++ g := List.set_append_left _ _ h
theorem w27 (c : Int) (S : Heap) : ACalls Tryz.prog (B0 w0) 27 [.int c] S fun e S' => e = .panic (trb c) ∧ S' = S := by
 refine fn_sound tryOrd (f27_c _) (by simp [f27]) ?_
 simp [f27,f27m,trb]
theorem w78 {S : Heap} {pid : Nat} {l : List Tok} {k d : Nat} (ha : At S pid l k d) : ACalls Tryz.prog (B0 w0) 78 [.ptr pid 0 0] S fun e S' => e = .ret (.agg (tokC (l.headD zTok))) ∧ S' = S := by
 refine ACalls.close (R := fun e S' => e = .ret (.agg (tokC (l.headD zTok))) ∧ S'.take S.length = S) ?_ ?_
 rotate_left 1
 ·rintro e S' ⟨rfl,ht⟩
  exact .flat ht (by simp [tokC]) ⟨rfl,rfl⟩
 obtain ⟨v,hv,hp⟩ := ha.get
 have hg := hmoreG ha.lt
 have hl := hv.lenR
 refine fn_sound tryOrd (f78_c _) (by simp [f78]) ?_
 cases l with
 | nil => simp [f78,f78m,hg,hp,hl,tokC,zTok]
 | cons t r =>
   obtain ⟨p,hh⟩ := hv.head
   have h0 : ((r.length : Int) + 1 == 0) = false := beq_eq_false_iff_ne.2 (by omega)
   simp [f78,f78m,hg,hp,hl,h0,hh]
   simp [tokC]
theorem w125 {S : Heap} {pid : Nat} {l : List Tok} {k d : Nat} (ha : At S pid l k d) {kd : Int} (hk : kd ≠ 0) (s : Bs) :
  ACalls Tryz.prog (B0 w0) 125 [.ptr pid 0 0,.int kd,.str s] S fun e S' => Step pid S S' ∧ e = .ret (.bool (isT kd s l)) ∧ At S' pid (if isT kd s l then l.tail else l) k d := by
 refine ACalls.fin (pid := pid) ?_
 obtain ⟨v,hv,hp⟩ := ha.get
 have hg := hmoreG ha.lt
 have hs := hsetG ha.lt
 refine fn_sound tryOrd (f125_c _) (by simp [f125]) ?_
 simp [f125,f125m]
 refine (w78 ha).use ?_
 rintro e S1 ⟨rfl,rfl⟩
 have no : isT kd s l = false → ∀ g,Fin S1 pid (fun e S' => Step pid S1 S' ∧ e = .ret (.bool (isT kd s l)) ∧ At S' pid (if isT kd s l then l.tail else l) k d) (.ret (.bool false)) (S1 ++ g) := fun h g =>
  ⟨S1,g,rfl,Step.refl _ _,⟨_,_,_,ha⟩,rfl,Step.refl _ _,by rw [h],by rw [h]; exact ha⟩
 cases l with
 | nil =>
   have h0 : ((0 : Int) == kd) = false := beq_eq_false_iff_ne.2 (Ne.symm hk)
   simp [zTok,tokC,bne,h0]
   exact no rfl _
 | cons t r =>
   by_cases hkd : t.kind = kd
   ·by_cases hst : t.text = s
    ·obtain ⟨v',h1,h2⟩ := hv.tail
     simp [-slcR,tokC,hkd,hst,hg,hp,h2,hs,h1.one]
     have hT : isT kd s (t :: r) = true := by simp [isT,hkd,hst]
     refine ⟨S1.set pid (.cells 3 [[v',.int k,.int d]] (some 1)),_,rfl,Step.set _,⟨r,k,d,?_⟩,rfl,Step.set _,by rw [hT],?_⟩
     ·exact ⟨_,List.getElem?_set_self ha.lt,v',h1,rfl⟩
     ·rw [hT]; exact ⟨_,List.getElem?_set_self ha.lt,v',h1,rfl⟩
    ·simp [tokC,hkd,hst]
     exact no (by simp [isT,hst]) _
   ·have h0 : (t.kind == kd) = false := beq_eq_false_iff_ne.2 hkd
    simp [tokC,bne,h0]
    exact no (by simp [isT,hkd]) _
theorem w81 {S : Heap} {pid : Nat} {l : List Tok} {k d : Nat} (ha : At S pid l k d) (s : Bs) :
  ACalls Tryz.prog (B0 w0) 81 [.ptr pid 0 0,.str s] S fun e S' => Step pid S S' ∧ e = .ret (.bool (isT 1 s l)) ∧ At S' pid (if isT 1 s l then l.tail else l) k d := by
 refine fn_sound tryOrd (f81_c _) (by simp [f81]) ?_
 simp [f81,f81m]
 refine (w125 ha (by decide) s).use ?_
 rintro e S1 ⟨h1,rfl,h2⟩
 simp [h1,h2]
theorem w129 {S : Heap} {pid : Nat} {l : List Tok} {k d : Nat} (ha : At S pid l k d) (s : Bs) :
  ACalls Tryz.prog (B0 w0) 129 [.ptr pid 0 0,.str s] S fun e S' => Step pid S S' ∧ e = .ret (.bool (isT 5 s l)) ∧ At S' pid (if isT 5 s l then l.tail else l) k d := by
 refine fn_sound tryOrd (f129_c _) (by simp [f129]) ?_
 simp [f129,f129m]
 refine (w125 ha (by decide) s).use ?_
 rintro e S1 ⟨h1,rfl,h2⟩
 simp [h1,h2]
def NeR (S : Heap) (pid k d : Nat) (r : Except Int (List Tok)) (e : AEnd) (S' : Heap) : Prop :=
 Step pid S S' ∧ match r with
  | .ok l => e = .ret .undef ∧ At S' pid l k d
  | .error c => e = .panic (trb c) ∧ ∃ l k d,At S' pid l k d
theorem w120 {S : Heap} {pid : Nat} {l : List Tok} {k d : Nat} (ha : At S pid l k d) (s : Bs) : ACalls Tryz.prog (B0 w0) 120 [.ptr pid 0 0,.str s] S (NeR S pid k d (need 5 s l)) := by
 refine fn_sound tryOrd (f120_c _) (by simp [f120]) ?_
 simp [f120,f120m]
 refine (w129 ha s).use ?_
 rintro e S1 ⟨h1,rfl,h2⟩
 by_cases hT : isT 5 s l = true
 ·rw [hT] at h2
  simp [hT,NeR,need,h1]
  exact h2
 ·have hT : isT 5 s l = false := by simpa using hT
  rw [hT] at h2
  simp [hT]
  refine (w27 130 _).use ?_
  rintro e S2 ⟨rfl,rfl⟩
  simp [NeR,need,hT,h1]
  exact ⟨_,_,_,h2⟩
theorem w79 {S : Heap} {pid : Nat} {l : List Tok} {k d : Nat} (ha : At S pid l k d) (s : Bs) : ACalls Tryz.prog (B0 w0) 79 [.ptr pid 0 0,.list .full [[.str s]]] S (NeR S pid k d (need 1 s l)) := by
 refine fn_sound tryOrd (f79_c _) (by simp [f79]) ?_
 simp [f79,f79m]
 refine mwp_loop (I := fun n a S' => (n = 1 ∧ get a 0 = .ptr pid 0 0 ∧ get a 6 = .list .full [[.str s]] ∧ get a 7 = .int 1 ∧ get a 8 = .int 0 ∧ S' = S) ∨ (n = 0 ∧ get a 7 = .int 1 ∧ get a 8 = .int 1 ∧ NeR S pid k d (need 1 s l) (.ret .undef) S')) (n := 1)
  (.inl ⟨rfl,rfl,rfl,rfl,rfl,rfl⟩) ?_
 rintro n a S' (⟨rfl,a0,a6,a7,a8,rfl⟩ | ⟨rfl,a7,a8,h⟩)
 ·simp [f79b0,a0,a6,a7,a8]
  refine (w81 ha s).use ?_
  rintro e S1 ⟨h1,rfl,h2⟩
  by_cases hT : isT 1 s l = true
  ·rw [hT] at h2
   simp [hT,a0,a6,a7,a8]
   refine ⟨by decide,?_⟩
   simp [NeR,need,hT,h1]
   exact h2
  ·have hT : isT 1 s l = false := by simpa using hT
   rw [hT] at h2
   simp [hT]
   refine (w27 130 _).use ?_
   rintro e S2 ⟨rfl,rfl⟩
   simp [NeR,need,hT,h1]
   exact ⟨_,_,_,h2⟩
 ·simp [f79b0,a7,a8]
  exact h
abbrev NmR := PrR fun x : Bs => AVal.str x
theorem w82 {S : Heap} {pid : Nat} {l : List Tok} {k d : Nat} (ha : At S pid l k d) : ACalls Tryz.prog (B0 w0) 82 [.ptr pid 0 0] S (NmR S pid k d (nameR resv l)) := by
 refine ACalls.fin (pid := pid) ?_
 obtain ⟨v,hv,hp⟩ := ha.get
 have hg := hmoreG ha.lt
 have hs := hsetG ha.lt
 refine fn_sound tryOrd (f82_c _) (by simp [f82]) ?_
 simp [f82,f82m]
 refine (w78 ha).use ?_
 rintro e S1 ⟨rfl,rfl⟩
 cases l with
 | nil =>
   simp [zTok,tokC]
   refine (w27 130 _).use ?_
   rintro e S2 ⟨rfl,rfl⟩
   simp
   exact PrR.err (Step.refl _ _) ha
 | cons t r =>
   by_cases hk : t.kind = 1
   ·simp [tokC,hk]
    refine (w105 t.text _).use ?_
    rintro e S2 ⟨rfl,rfl⟩
    by_cases hr : t.text ∈ resv
    ·simp [hr]
     refine (w27 130 _).use ?_
     rintro e S3 ⟨rfl,rfl⟩
     simp
     rw [nameR,if_neg (by simp [hr])]
     exact PrR.err (Step.refl _ _) ha
    ·obtain ⟨v',h1,h2⟩ := hv.tail
     simp [-slcR,hr,hg,hp,h2,hs,h1.one]
     rw [nameR,if_pos ⟨hk,hr⟩]
     exact PrR.ok (V := fun x : Bs => AVal.str x) (Step.set _) ⟨_,List.getElem?_set_self ha.lt,v',h1,rfl⟩ rfl
   ·have h0 : (t.kind == 1) = false := beq_eq_false_iff_ne.2 hk
    simp [tokC,bne,h0]
    refine (w27 130 _).use ?_
    rintro e S2 ⟨rfl,rfl⟩
    simp
    rw [nameR,if_neg (by simp [hk])]
    exact PrR.err (Step.refl _ _) ha
end Go.Abs
namespace Go.Abs
open Go Go.RowKit Go.Proofs Go.Lx Go.Pz
variable {w0 : World}
theorem exsV_rk (S : Heap) (l : List Ex) : Rk 7 S (exsV l) (l.map exC) := by
 cases l with
 | nil => rw [exsV]; exact .nils
 | cons x r => rw [exsV,exsL_map]; exact .list _ _
theorem depthL_append (a b : List Ex) : depthL (a ++ b) = max (depthL a) (depthL b) := by
 induction a with
 | nil => rw [List.nil_append,depthL_nil]; omega
 | cons x r ih => rw [List.cons_append,depthL_cons,depthL_cons,ih]; omega
theorem w_mem {x : Ex} {l : List Ex} (h : x ∈ l) : x.w + 1 ≤ wL l := by
 induction l with
 | nil => cases h
 | cons y r ih =>
   rw [wL_cons]
   rcases List.mem_cons.1 h with rfl | h
   ·omega
   ·have := ih h; omega
theorem w20 : ∀ (n : Nat),n < 4000000000000000000 → ∀ (x : Ex),x.w ≤ n → ∀ (S : Heap),ACalls Tryz.prog (B0 w0) 20 [.agg (exC x)] S fun e S' => e = .ret (.int x.depth) ∧ S' = S := by
 intro n
 induction n using Nat.strongRecOn with
 | _ n ih =>
   intro hn x hx S
   obtain ⟨op,args,kind,num,scale,text,qual⟩ := x
   rw [depth_mk]
   rw [w_mk] at hx
   have hal := wL_len args
   have hdl := depthL_le args
   refine ACalls.close (R := fun e S' => e = .ret (.int (depthL args)) ∧ S'.take S.length = S) ?_ ?_
   rotate_left 1
   ·rintro e S' ⟨rfl,ht⟩
    exact .flat ht rfl ⟨rfl,rfl⟩
   have h1 : (exsV args).one = true ∧ cellsOf false (exsV args) = some [exsV args] := by
    cases args with
    | nil => rw [exsV]; exact ⟨rfl,rfl⟩
    | cons y r => rw [exsV]; exact ⟨rfl,rfl⟩
   have hlen : ∀ S,lenR S (exsV args) = .ok true (.int args.length) S := fun S => by have := (exsV_rk S args).lenR; simpa using this
   rw [exC_eq]
   refine fn_sound tryOrd (f20_c _) (by simp [f20]) ?_
   simp [f20,f20m,h1,hlen]
   refine mwp_loop (I := fun m a S' => ∃ (i : Nat) (g : Heap),m = args.length - i ∧ i ≤ args.length ∧ S' = S ++ g ∧ get a 7 = exsV args ∧ get a 8 = .int args.length ∧ get a 9 = .int i ∧ get a 3 = .int (depthL (args.take i))) (n := args.length)
    ⟨0,_,rfl,Nat.zero_le _,rfl,rfl,rfl,rfl,by simp [depthL_nil]⟩ ?_
   rintro m a S' ⟨i,g,rfl,hi,rfl,a7,a8,a9,a3⟩
   by_cases hlt : i < args.length
   ·have hltI : (i : Int) < (args.length : Int) := by omega
    obtain ⟨p,q1,q2,_⟩ := (exsV_rk (S ++ g) args).elem (i := i) (by simpa using hlt) (by rw [getD_eq _ _ _ (by simpa using hlt)]; simp)
    have q3 := q2 true 7 (Nat.le_refl _)
    rw [getD_eq _ _ _ (by simpa using hlt)] at q3
    simp at q3
    have hmem := w_mem (List.getElem_mem hlt)
    have hd := ih (args[i].w) (by omega) (by omega) args[i] (Nat.le_refl _)
    have hdw := depth_le args[i]
    have htk : depthL (args.take (i + 1)) = max (depthL (args.take i)) (args[i].depth + 1) := by
     rw [List.take_add_one,List.getElem?_eq_getElem hlt,depthL_append,Option.toList_some,depthL_cons,depthL_nil]; omega
    have hw : IntKind.i64.wrap ((args[i].depth : Int) + 1) = ((args[i].depth + 1 : Nat) : Int) := wrapS _ (by omega)
    have hw2 := wrapS i (by omega)
    generalize args[i] = y at *
    simp [f20b0,a7,a8,a9,a3,hltI,q1,q3]
    refine (hd _).use ?_
    rintro e S1 ⟨rfl,rfl⟩
    simp [a7,a8,a9,a3,hw,hw2]
    refine ⟨args.length - (i + 1),by omega,i + 1,rfl,by omega,by simp,?_⟩
    rw [htk]
    split <;> omega
   ·have hie : i = args.length := by omega
    subst hie
    rw [List.take_length] at a3
    simp [f20b0,a7,a8,a9,a3]
def OpR (S : Heap) (pid k d : Nat) (l : List Tok) (r : Option (Int × List Tok)) (e : AEnd) (S' : Heap) : Prop :=
 Step pid S S' ∧ match r with
  | some (op,l') => e = .ret (.int op) ∧ At S' pid l' k d
  | none => e = .ret (.int 0) ∧ At S' pid l k d
def ChI (S : Heap) (pid k d n : Nat) (F : List Tok → Res Ex) (G : List Tok → Option (Int × List Tok)) (A O : AVal) (r : Res Ex) (m : Nat) (a : Tmps) (S' : Heap) : Prop :=
 ∃ (T : Heap) (x : Ex) (l' : List Tok),Step pid S T ∧ S' = T ++ [.cells 7 [[.int 0,.nilS,.int 0,.int 0,.int 0,.str [],.str []]] (some 1),.cells 7 [exC x] (some 1)] ∧ get a 1 = A ∧ get a 2 = O ∧ get a 6 = .ptr T.length 0 0 ∧ get a 7 = .ptr (T.length + 1) 0 0 ∧
  ((get a 8 = .int 0 ∧ r = .ok (x,l') ∧ At T pid l' k d) ∨ (∃ (op : Int) (l3 : List Tok),op ≠ 0 ∧ get a 8 = .int op ∧ G l' = some (op,l3) ∧ At T pid l3 k d ∧ l'.length ≤ n ∧ l'.length < m ∧ r = chainF F G m x l'))
set_option maxHeartbeats 1000000 in
theorem w175 {S : Heap} {pid k d n : Nat} {F : List Tok → Res Ex} {G : List Tok → Option (Int × List Tok)} (hF : Eats n F) (hG : EatsO G) (hG0 : ∀ l op l',G l = some (op,l') → op ≠ 0) {fa fo : FuncId} {a1 a2 o1 o2 : List AVal}
  (hA : ∀ T l,Kpt pid S T → At T pid l k d → l.length ≤ n → ACalls Tryz.prog (B0 w0) fa (a1 ++ a2) T (ExR T pid k d (F l)))
  (hO : ∀ T l,Kpt pid S T → At T pid l k d → ACalls Tryz.prog (B0 w0) fo (o1 ++ o2) T (OpR T pid k d l (G l)))
  {l : List Tok} (ha : At S pid l k d) (hl : l.length ≤ n) : ACalls Tryz.prog (B0 w0) 175 [.ptr pid 0 0,.clo (.func fa) a1 a2,.clo (.func fo) o1 o2] S (ExR S pid k d (chain F G l)) := by
 refine ACalls.fin (pid := pid) ?_
 refine fn_sound tryOrd (f175_c _) (by simp [f175]) ?_
 simp [f175,f175m]
 refine (hA _ _ ((Kpt.refl pid S).more _) (ha.more _) hl).use ?_
 rintro e S1 ⟨hst,h1⟩
 obtain ⟨T1,rfl,hst1⟩ := hst.split ha.lt
 cases hFl : F l with
 | error c =>
   rw [hFl] at h1
   obtain ⟨rfl,l',k',d',h2⟩ := h1
   simp
   rw [chain,hFl]
   exact PrR.err hst1 (h2.less (hst1.1 ▸ ha.lt))
 | ok y =>
   obtain ⟨x,l1⟩ := y
   rw [hFl] at h1
   obtain ⟨rfl,h2⟩ := h1
   have h2 := h2.less (hst1.1 ▸ ha.lt)
   have hg1 := hF _ _ _ hl hFl
   have hr : chain F G l = chainF F G (l1.length + 1) x l1 := by rw [chain,hFl]
   have e0 := hst1.1
   simp
   refine (hO _ _ (hst1.kpt.more _) (h2.more _)).use ?_
   rintro e S2 ⟨hst,h3⟩
   obtain ⟨T2,rfl,hst2⟩ := hst.split h2.lt
   have hst02 := hst1.trans hst2
   have e1 := hst2.1
   have inv0 : ∃ o : Int,e = .ret (.int o) ∧ ((o = 0 ∧ chain F G l = .ok (x,l1) ∧ At T2 pid l1 k d) ∨ (o ≠ 0 ∧ ∃ l3,G l1 = some (o,l3) ∧ At T2 pid l3 k d)) := by
    cases hGl : G l1 with
    | none =>
      rw [hGl] at h3
      exact ⟨0,h3.1,.inl ⟨rfl,by rw [hr,chainF,hGl],h3.2.less (hst2.1 ▸ h2.lt)⟩⟩
    | some q =>
      obtain ⟨op,l3⟩ := q
      rw [hGl] at h3
      exact ⟨op,h3.1,.inr ⟨hG0 _ _ _ hGl,l3,rfl,h3.2.less (hst2.1 ▸ h2.lt)⟩⟩
   obtain ⟨o,rfl,hinv⟩ := inv0
   simp
   refine mwp_loop (I := ChI S pid k d n F G (.clo (.func fa) a1 a2) (.clo (.func fo) o1 o2) (chain F G l)) (n := l1.length + 1) ?_ ?_
   ·refine ⟨T2,x,l1,hst02,by simp,rfl,rfl,by simp [e0,e1],by simp [e1],?_⟩
    rcases hinv with ⟨rfl,h4,h5⟩ | ⟨h4,l3,h5,h6⟩
    ·exact .inl ⟨rfl,h4,h5⟩
    ·exact .inr ⟨o,l3,h4,rfl,h5,h6,by omega,by omega,hr⟩
   clear hst1 hst2 hst02 h2 h3 hinv hr hg1 hFl e0 e1
   rintro m a S' ⟨T,x,l',hst,rfl,b1,b2,b6,b7,hc⟩
   rcases hc with ⟨b8,h4,h5⟩ | ⟨op,l3,h4,b8,h5,h6,h7,h8,h9⟩
   ·simp [f175b0,b1,b2,b6,b7,b8]
    rw [h4]
    have e0 := hst.1
    exact PrR.ok hst h5 (by simp)
   ·obtain ⟨q,rfl⟩ : ∃ q,m = q + 1 := ⟨m - 1,by omega⟩
    have h4' : (op != 0) = true := by simpa using h4
    have hl3 := hG _ _ _ h5
    simp [f175b0,b1,b2,b6,b7,b8,h4']
    refine (hA _ _ (hst.kpt.more _) (h6.more _) (by omega)).use ?_
    rintro e S3 ⟨hsq3,h10⟩
    obtain ⟨T3,rfl,hst3⟩ := hsq3.split h6.lt
    have hst03 := hst.trans hst3
    have e3 := hst3.1
    rw [chainF,h5] at h9
    simp only at h9
    cases hF3 : F l3 with
    | error c =>
      rw [hF3] at h10 h9
      obtain ⟨rfl,l',k',d',h11⟩ := h10
      simp
      rw [h9]
      exact PrR.err hst03 (h11.less (hst3.1 ▸ h6.lt))
    | ok y =>
      obtain ⟨y,l4⟩ := y
      rw [hF3] at h10 h9
      obtain ⟨rfl,h11⟩ := h10
      have h11 := h11.less (hst3.1 ▸ h6.lt)
      have hg3 := hF _ _ _ (by omega) hF3
      have hb : exC (.bin op x y) = [.int op,.list .full [exC x,exC y],.int 0,.int 0,.int 0,.str [],.str []] := by rw [exC_eq,exsV_two]
      simp only at h9
      simp [b1,b2,b6,b7,b8,e3]
      refine (hO _ _ (hst03.kpt.more _) (h11.more _)).use ?_
      rintro e S4 ⟨hsq4,h12⟩
      obtain ⟨T4,rfl,hst4⟩ := hsq4.split h11.lt
      have hst04 := hst03.trans hst4
      have e4 := hst4.1
      cases hG4 : G l4 with
      | none =>
        rw [hG4] at h12
        obtain ⟨rfl,h12⟩ := h12
        obtain ⟨q',rfl⟩ : ∃ q',q = q' + 1 := ⟨q - 1,by omega⟩
        rw [chainF,hG4] at h9
        simp [b1,b2,b6,b7,e3,e4]
        exact ⟨0,by omega,T4,.bin op x y,l4,hst04,by rw [hb],by simp [b1],by simp [b2],by simp [b6,e3,e4],by simp [b7,e3,e4],.inl ⟨by simp,h9,h12.less (hst4.1 ▸ h11.lt)⟩⟩
      | some z =>
        obtain ⟨op',l5⟩ := z
        rw [hG4] at h12
        obtain ⟨rfl,h12⟩ := h12
        simp [b1,b2,b6,b7,e3,e4]
        exact ⟨q,by omega,T4,.bin op x y,l4,hst04,by rw [hb],by simp [b1],by simp [b2],by simp [b6,e3,e4],by simp [b7,e3,e4],.inr ⟨op',l5,hG0 _ _ _ hG4,by simp,hG4,h12.less (hst4.1 ▸ h11.lt),by omega,by omega,h9⟩⟩
end Go.Abs
namespace Go.Abs
open Go Go.RowKit Go.Proofs Go.Lx Go.Pz
variable {w0 : World}
def SkR (S : Heap) (pid k d : Nat) (kd : Int) (s : Bs) (l : List Tok) (e : AEnd) (S' : Heap) : Prop :=
 Step pid S S' ∧ e = .ret (.bool (isT kd s l)) ∧ At S' pid (if isT kd s l then l.tail else l) k d
theorem stripN_cons {kd : Int} {s : Bs} {l : List Tok} (h : isT kd s l = true) : stripN kd s l = stripN kd s l.tail + 1 := by
 cases l with
 | nil => cases h
 | cons t r =>
   have : t.kind = kd ∧ t.text = s := by simpa [isT] using h
   rw [stripN,if_pos this]; rfl
theorem stripN_no {kd : Int} {s : Bs} {l : List Tok} (h : isT kd s l = false) : stripN kd s l = 0 := by
 cases l with
 | nil => rfl
 | cons t r =>
   have : ¬ (t.kind = kd ∧ t.text = s) := by simpa [isT] using h
   rw [stripN,if_neg this]
theorem wrap_succ (op : Int) (n : Nat) (x : Ex) : wrap op (n + 1) x = wrap op n (.un op x) := rfl
abbrev zEx : AObj := .cells 7 [[.int 0,.nilS,.int 0,.int 0,.int 0,.str [],.str []]] (some 1)
def AhI1 (S : Heap) (pid k d : Nat) (op kd : Int) (s : Bs) (A O : AVal) (l : List Tok) (m : Nat) (a : Tmps) (S' : Heap) : Prop :=
 ∃ (T : Heap) (l' : List Tok) (c : Nat),Step pid S T ∧ S' = T ++ [zEx] ∧ get a 0 = .int op ∧ get a 1 = A ∧ get a 2 = O ∧ get a 6 = .ptr T.length 0 0 ∧ get a 7 = .int c ∧
  At T pid l' k d ∧ m = l'.length ∧ l' = l.drop c ∧ c + l'.length = l.length ∧ stripN kd s l = c + stripN kd s l'
def AhI2 (T2 : Heap) (op : Int) (c : Nat) (r : Ex) (m : Nat) (a : Tmps) (S' : Heap) : Prop :=
 ∃ (x : Ex) (i : Nat),m = c - i ∧ i ≤ c ∧ S' = T2 ++ [zEx,.cells 7 [exC x] (some 1)] ∧ get a 0 = .int op ∧ get a 6 = .ptr T2.length 0 0 ∧ get a 8 = .ptr (T2.length + 1) 0 0 ∧ get a 15 = .int c ∧ get a 16 = .int i ∧ wrap op (c - i) x = r
set_option maxHeartbeats 1000000 in
theorem w199 {S : Heap} {pid k d n : Nat} {op kd : Int} {s : Bs} {F : List Tok → Res Ex} {fa fo : FuncId} {a1 a2 o1 o2 : List AVal}
  (hA : ∀ T l,Kpt pid S T → At T pid l k d → ACalls Tryz.prog (B0 w0) fa (a1 ++ a2) T (SkR T pid k d kd s l))
  (hO : ∀ T l,Kpt pid S T → At T pid l k d → l.length ≤ n → ACalls Tryz.prog (B0 w0) fo (o1 ++ o2) T (ExR T pid k d (F l)))
  {l : List Tok} (ha : At S pid l k d) (hl : l.length ≤ n) (hn : n ≤ 1000000) : ACalls Tryz.prog (B0 w0) 199 [.int op,.clo (.func fa) a1 a2,.clo (.func fo) o1 o2] S (ExR S pid k d (aheadP op kd s F l)) := by
 refine ACalls.fin (pid := pid) ?_
 refine fn_sound tryOrd (f199_c _) (by simp [f199]) ?_
 simp [f199,f199m]
 refine mwp_loop (I := AhI1 S pid k d op kd s (.clo (.func fa) a1 a2) (.clo (.func fo) o1 o2) l) (n := l.length) ⟨S,l,0,Step.refl _ _,rfl,rfl,rfl,rfl,rfl,rfl,ha,rfl,rfl,by simp,by simp⟩ ?_
 rintro m a S' ⟨T,l',c,hst,rfl,b0,b1,b2,b6,b7,h1,rfl,h2,h3,h4⟩
 have e0 := hst.1
 simp [f199b0,b0,b1,b2,b6,b7]
 refine (hA _ _ (hst.kpt.more _) (h1.more _)).use ?_
 rintro e S1 ⟨hsq1,rfl,h5⟩
 obtain ⟨T1,rfl,hst1⟩ := hsq1.split h1.lt
 have hst01 := hst.trans hst1
 have e1 := hst1.1
 have h5 := h5.less (hst1.1 ▸ h1.lt)
 by_cases hT : isT kd s l' = true
 ·have hlen := isT_len hT
  have hw := wrapS c (by omega)
  rw [hT] at h5
  rw [stripN_cons hT] at h4
  simp [hT,b0,b1,b2,b6,b7,hw,e1]
  exact ⟨l'.length - 1,by omega,T1,l'.tail,c + 1,hst01,rfl,by simp [b0],by simp [b1],by simp [b2],by simp [b6,e1],by simp,h5,by simp,by rw [h2,List.tail_drop],by omega,by omega⟩
 ·have hT : isT kd s l' = false := by simpa using hT
  rw [hT] at h5
  simp only [Bool.false_eq_true,if_false] at h5
  rw [stripN_no hT] at h4
  have hc : stripN kd s l = c := by omega
  have hr : aheadP op kd s F l = match F l' with
   | .error c => .error c
   | .ok (e,l'') => .ok (wrap op c e,l'') := by
   rw [aheadP,hc,← h2]
   all_goals (rcases F l' with _ | ⟨_,_⟩ <;> rfl)
  simp [hT,b0,b1,b2,b6,b7,e1]
  refine (hO _ _ (hst01.kpt.more _) (h5.more _) (by omega)).use ?_
  rintro e S2 ⟨hsq2,h6⟩
  obtain ⟨T2,rfl,hst2⟩ := hsq2.split h5.lt
  have hst02 := hst01.trans hst2
  have e2 := hst2.1
  cases hF : F l' with
  | error cc =>
    rw [hF] at h6 hr
    obtain ⟨rfl,l2,k',d',h7⟩ := h6
    simp
    rw [hr]
    exact PrR.err hst02 (h7.less (hst2.1 ▸ h5.lt))
  | ok y =>
    obtain ⟨x0,l2⟩ := y
    rw [hF] at h6 hr
    obtain ⟨rfl,h7⟩ := h6
    have h7 := h7.less (hst2.1 ▸ h5.lt)
    simp [b0,b1,b2,b6,b7,e1,e2]
    refine mwp_loop (I := AhI2 T2 op c (wrap op c x0)) (n := c) ⟨x0,0,rfl,Nat.zero_le _,rfl,by simp [b0],by simp [b6,e1,e2],by simp [e1,e2],by simp,by simp,by simp⟩ ?_
    clear b0 b1 b2 b6 b7
    rintro m a S' ⟨x,i,rfl,hi,rfl,b0,b6,b8,b15,b16,hx⟩
    by_cases hlt : i < c
    ·have hltI : (i : Int) < (c : Int) := by omega
     have hw := wrapS i (by omega)
     have hb : exC (.un op x) = [.int op,.list .full [exC x],.int 0,.int 0,.int 0,.str [],.str []] := by rw [exC_eq,exsV_one]
     have hci : c - i = (c - (i + 1)) + 1 := by omega
     rw [hci,wrap_succ] at hx
     simp [f199b1,b0,b6,b8,b15,b16,hltI,hw]
     exact ⟨c - (i + 1),by omega,.un op x,i + 1,rfl,by omega,by rw [hb],by simp [b0],by simp [b6],by simp [b8],by simp [b15],by simp,hx⟩
    ·have hie : i = c := by omega
     subst hie
     rw [Nat.sub_self] at hx
     simp [f199b1,b0,b6,b8,b15,b16]
     have hx : x = wrap op i x0 := hx
     rw [hr]
     show Fin S pid (ExR S pid k d (.ok (wrap op i x0,l2))) _ _
     rw [← hx]
     exact PrR.ok hst02 h7 (by simp)
theorem w205 {S : Heap} {pid k d : Nat} {l : List Tok} (ha : At S pid l k d) (ss : List Bs) (first : Int) (h0 : 0 ≤ first) (h1 : first ≤ 100) (hss : ss.length ≤ 100) :
  ACalls Tryz.prog (B0 w0) 205 [.ptr pid 0 0,.list .full (ss.map fun s => [.str s]),.int first] S (OpR S pid k d l (operS ss first l)) := by
 refine fn_sound tryOrd (f205_c _) (by simp [f205]) ?_
 simp [f205,f205m]
 refine mwp_loop (I := fun m a S' => ∃ (i : Nat),m = ss.length - i ∧ i ≤ ss.length ∧ Step pid S S' ∧ At S' pid l k d ∧ get a 0 = .ptr pid 0 0 ∧ get a 2 = .int first ∧ get a 9 = .list .full (ss.map fun s => [.str s]) ∧ get a 10 = .int ss.length ∧ get a 11 = .int i ∧
  operS ss first l = operS (ss.drop i) (first + i) l) (n := ss.length) ⟨0,rfl,Nat.zero_le _,Step.refl _ _,ha,rfl,rfl,rfl,rfl,rfl,by simp⟩ ?_
 rintro m a S' ⟨i,rfl,hi,hst,h2,b0,b2,b9,b10,b11,h3⟩
 by_cases hlt : i < ss.length
 ·have hltI : (i : Int) < (ss.length : Int) := by omega
  have hw := wrapS i (by omega)
  have hw2 : IntKind.i64.wrap (first + (i : Int)) = first + i := by rw [wrap64_in (by omega) (by omega)]
  rw [List.drop_eq_getElem_cons hlt,operS] at h3
  simp [f205b0,b0,b2,b9,b10,b11,hltI,hlt]
  refine (w129 h2 _).use ?_
  rintro e S1 ⟨hst1,rfl,h4⟩
  by_cases hT : isT 5 ss[i] l = true
  ·rw [if_pos hT] at h3
   rw [hT] at h4
   simp [hT,b0,b2,b9,b10,b11,hw2]
   rw [h3]
   exact ⟨hst.trans hst1,rfl,h4⟩
  ·have hT : isT 5 ss[i] l = false := by simpa using hT
   rw [hT] at h3 h4
   simp [hT,b0,b2,b9,b10,b11,hw]
   refine ⟨ss.length - (i + 1),by omega,i + 1,rfl,by omega,hst.trans hst1,h4,by simp,?_⟩
   rw [h3]
   simp only [Bool.false_eq_true,if_false]
   congr 1
   omega
 ·have hie : i = ss.length := by omega
  subst hie
  rw [List.drop_length,operS] at h3
  simp [f205b0,b0,b2,b9,b10,b11]
  rw [h3]
  exact ⟨hst,rfl,h2⟩
section
variable {S : Heap} {pid k d b : Nat} {l : List Tok} (hb : S[b]? = some (.cells 1 [[.ptr pid 0 0]] (some 1))) (ha : At S pid l k d)
include hb ha
theorem w177 : ACalls Tryz.prog (B0 w0) 177 [.ptr b 0 0] S (OpR S pid k d l (opOr l)) := by
 refine fn_sound tryOrd (f177_c _) (by simp [f177]) ?_
 simp [f177,f177m,hb]
 refine (w81 ha _).use ?_
 rintro e S1 ⟨h1,rfl,h2⟩
 rw [opOr]
 by_cases hT : isT 1 [111,114] l = true
 ·rw [hT] at h2
  simp [hT]
  exact ⟨h1,rfl,h2⟩
 ·have hT : isT 1 [111,114] l = false := by simpa using hT
  rw [hT] at h2
  simp [hT]
  exact ⟨h1,rfl,h2⟩
theorem w188 : ACalls Tryz.prog (B0 w0) 188 [.ptr b 0 0] S (OpR S pid k d l (opAnd l)) := by
 refine fn_sound tryOrd (f188_c _) (by simp [f188]) ?_
 simp [f188,f188m,hb]
 refine (w81 ha _).use ?_
 rintro e S1 ⟨h1,rfl,h2⟩
 rw [opAnd]
 by_cases hT : isT 1 [97,110,100] l = true
 ·rw [hT] at h2
  simp [hT]
  exact ⟨h1,rfl,h2⟩
 ·have hT : isT 1 [97,110,100] l = false := by simpa using hT
  rw [hT] at h2
  simp [hT]
  exact ⟨h1,rfl,h2⟩
theorem w207 : ACalls Tryz.prog (B0 w0) 207 [.ptr b 0 0] S (OpR S pid k d l (opSum l)) := by
 refine fn_sound tryOrd (f207_c _) (by simp [f207]) ?_
 have hbp : b ≠ pid := fun e => by
  subst e
  obtain ⟨v,_,h⟩ := ha.get
  rw [hb] at h; cases h
 simp [f207,f207m,hb]
 refine (w129 ha _).use ?_
 rintro e S1 ⟨h1,rfl,h2⟩
 by_cases hT : isT 5 [124,124] l = true
 ·rw [show opSum l = some (12,l.tail) by rw [opSum,if_pos hT]]
  rw [hT] at h2
  simp [hT]
  exact ⟨h1,rfl,h2⟩
 ·have hT : isT 5 [124,124] l = false := by simpa using hT
  rw [show opSum l = operS [[43],[45]] 7 l by rw [opSum,if_neg (by simp [hT])]]
  rw [hT] at h2
  simp only [Bool.false_eq_true,if_false] at h2
  have hb1 := (h1.2 b hbp).trans hb
  simp [hT,hb1]
  refine (w205 (ss := [[43],[45]]) h2 7 (by decide) (by decide) (by decide)).use ?_
  rintro e S2 ⟨h3,h4⟩
  cases hr : operS [[43],[45]] 7 l with
  | none => rw [hr] at h4; obtain ⟨rfl,h4⟩ := h4; simp; exact ⟨h1.trans h3,rfl,h4⟩
  | some y => obtain ⟨op,l'⟩ := y; rw [hr] at h4; obtain ⟨rfl,h4⟩ := h4; simp; exact ⟨h1.trans h3,rfl,h4⟩
theorem w209 : ACalls Tryz.prog (B0 w0) 209 [.ptr b 0 0] S (OpR S pid k d l (opMul l)) := by
 refine fn_sound tryOrd (f209_c _) (by simp [f209]) ?_
 simp [f209,f209m,hb]
 refine (w205 (ss := [[42],[47],[37]]) ha 9 (by decide) (by decide) (by decide)).use ?_
 rintro e S2 ⟨h3,h4⟩
 rw [opMul]
 cases hr : operS [[42],[47],[37]] 9 l with
 | none => rw [hr] at h4; obtain ⟨rfl,h4⟩ := h4; simp; exact ⟨h3,rfl,h4⟩
 | some y => obtain ⟨op,l'⟩ := y; rw [hr] at h4; obtain ⟨rfl,h4⟩ := h4; simp; exact ⟨h3,rfl,h4⟩
theorem w200 : ACalls Tryz.prog (B0 w0) 200 [.ptr b 0 0] S (SkR S pid k d 1 [110,111,116] l) := by
 refine fn_sound tryOrd (f200_c _) (by simp [f200]) ?_
 simp [f200,f200m,hb]
 refine (w81 ha _).use ?_
 rintro e S1 ⟨h1,rfl,h2⟩
 simp
 exact ⟨h1,rfl,h2⟩
theorem w210 : ACalls Tryz.prog (B0 w0) 210 [.ptr b 0 0] S (SkR S pid k d 5 [45] l) := by
 refine fn_sound tryOrd (f210_c _) (by simp [f210]) ?_
 simp [f210,f210m,hb]
 refine (w129 ha _).use ?_
 rintro e S1 ⟨h1,rfl,h2⟩
 simp
 exact ⟨h1,rfl,h2⟩
end
end Go.Abs
namespace Go.Abs
open Go Go.RowKit Go.Proofs Go.Lx Go.Pz
variable {w0 : World}
def ESpec (w0 : World) (f : FuncId) (pid k d n : Nat) (F : List Tok → Res Ex) : Prop := ∀ (S : Heap) (l : List Tok),At S pid l k d → l.length ≤ n → ACalls Tryz.prog (B0 w0) f [.ptr pid 0 0] S (ExR S pid k d (F l))
theorem Kpt.box {pid : Nat} {S T : Heap} {o : AObj} {g : Heap} (h : Kpt pid (S ++ o :: g) T) (hp : pid < S.length) : T[S.length]? = some o := by
 rw [h.2 S.length (by simp) (by omega)]; simp
theorem operS_ne (ss : List Bs) : ∀ (q : Int),0 < q → ∀ l op l',operS ss q l = some (op,l') → op ≠ 0 := by
 induction ss with
 | nil => intro q hq l op l' h; cases h
 | cons s r ih =>
   intro q hq l op l' h
   rw [operS] at h
   split at h
   ·simp only [Option.some.injEq,Prod.mk.injEq] at h; omega
   ·exact ih _ (by omega) l op l' h
theorem opOr_ne : ∀ l op l',opOr l = some (op,l') → op ≠ 0 := fun l op l' h => by
 rw [opOr] at h; split at h
 ·simp only [Option.some.injEq,Prod.mk.injEq] at h; omega
 ·cases h
theorem opAnd_ne : ∀ l op l',opAnd l = some (op,l') → op ≠ 0 := fun l op l' h => by
 rw [opAnd] at h; split at h
 ·simp only [Option.some.injEq,Prod.mk.injEq] at h; omega
 ·cases h
theorem opSum_ne : ∀ l op l',opSum l = some (op,l') → op ≠ 0 := fun l op l' h => by
 rw [opSum] at h; split at h
 ·simp only [Option.some.injEq,Prod.mk.injEq] at h; omega
 ·exact operS_ne _ 7 (by decide) _ _ _ h
theorem opMul_ne : ∀ l op l',opMul l = some (op,l') → op ≠ 0 := operS_ne _ 9 (by decide)
section
variable {pid k d n : Nat} {E : Nat → List Tok → Res Ex}
theorem minus_s (hn : n ≤ 1000000) (h : ESpec w0 211 pid k d n (oneP resv E k)) : ESpec w0 208 pid k d n (minusP resv E k) := fun S l ha hl => by
 refine ACalls.fin (pid := pid) ?_
 refine fn_sound tryOrd (f208_c _) (by simp [f208]) ?_
 simp [f208,f208m]
 refine (w199 (k := k) (d := d) (n := n) (kd := 5) (s := [45]) (F := oneP resv E k) (a1 := []) (o2 := []) (fun T l hk ha => w210 (hk.box ‹At S pid _ _ _›.lt) ha) (fun T l _ ha hl => h T l ha hl) (ha.more _) hl hn).use ?_
 rintro e S1 ⟨hst,h1⟩
 obtain ⟨T1,rfl,hst1⟩ := hst.split ha.lt
 have e0 := hst1.1
 have hm : minusP resv E k l = aheadP 13 5 [45] (oneP resv E k) l := rfl
 rw [hm]
 cases hF : aheadP 13 5 [45] (oneP resv E k) l with
 | error c =>
   rw [hF] at h1
   obtain ⟨rfl,l',k',d',h2⟩ := h1
   simp
   exact PrR.err hst1 (h2.less (hst1.1 ▸ ha.lt))
 | ok y =>
   obtain ⟨x,l'⟩ := y
   rw [hF] at h1
   obtain ⟨rfl,h2⟩ := h1
   simp [e0]
   exact PrR.ok hst1 (h2.less (hst1.1 ▸ ha.lt)) (by simp)
theorem not_s (hn : n ≤ 1000000) (h : ESpec w0 201 pid k d n (testP resv E k)) : ESpec w0 187 pid k d n (notP resv E k) := fun S l ha hl => by
 refine ACalls.fin (pid := pid) ?_
 refine fn_sound tryOrd (f187_c _) (by simp [f187]) ?_
 simp [f187,f187m]
 refine (w199 (k := k) (d := d) (n := n) (kd := 1) (s := [110,111,116]) (F := testP resv E k) (a1 := []) (o2 := []) (fun T l hk ha => w200 (hk.box ‹At S pid _ _ _›.lt) ha) (fun T l _ ha hl => h T l ha hl) (ha.more _) hl hn).use ?_
 rintro e S1 ⟨hst,h1⟩
 obtain ⟨T1,rfl,hst1⟩ := hst.split ha.lt
 have e0 := hst1.1
 have hm : notP resv E k l = aheadP 16 1 [110,111,116] (testP resv E k) l := rfl
 rw [hm]
 cases hF : aheadP 16 1 [110,111,116] (testP resv E k) l with
 | error c =>
   rw [hF] at h1
   obtain ⟨rfl,l',k',d',h2⟩ := h1
   simp
   exact PrR.err hst1 (h2.less (hst1.1 ▸ ha.lt))
 | ok y =>
   obtain ⟨x,l'⟩ := y
   rw [hF] at h1
   obtain ⟨rfl,h2⟩ := h1
   simp [e0]
   exact PrR.ok hst1 (h2.less (hst1.1 ▸ ha.lt)) (by simp)
theorem term_s (hG : Eats n (minusP resv E k)) (h : ESpec w0 208 pid k d n (minusP resv E k)) : ESpec w0 206 pid k d n (termP resv E k) := fun S l ha hl => by
 refine ACalls.fin (pid := pid) ?_
 refine fn_sound tryOrd (f206_c _) (by simp [f206]) ?_
 simp [f206,f206m]
 refine (w175 (k := k) (d := d) hG opMul_good opMul_ne (a2 := []) (o1 := []) (fun T l _ ha hl => h T l ha hl) (fun T l hk ha => w209 (hk.box ‹At S pid _ _ _›.lt) ha) (ha.more _) hl).use ?_
 rintro e S1 ⟨hst,h1⟩
 obtain ⟨T1,rfl,hst1⟩ := hst.split ha.lt
 have e0 := hst1.1
 rw [show termP resv E k l = chain (minusP resv E k) opMul l from rfl]
 cases hF : chain (minusP resv E k) opMul l with
 | error c =>
   rw [hF] at h1
   obtain ⟨rfl,l',k',d',h2⟩ := h1
   simp
   exact PrR.err hst1 (h2.less (hst1.1 ▸ ha.lt))
 | ok y =>
   obtain ⟨x,l'⟩ := y
   rw [hF] at h1
   obtain ⟨rfl,h2⟩ := h1
   simp [e0]
   exact PrR.ok hst1 (h2.less (hst1.1 ▸ ha.lt)) (by simp)
theorem sum_s (hG : Eats n (termP resv E k)) (h : ESpec w0 206 pid k d n (termP resv E k)) : ESpec w0 204 pid k d n (sumP resv E k) := fun S l ha hl => by
 refine ACalls.fin (pid := pid) ?_
 refine fn_sound tryOrd (f204_c _) (by simp [f204]) ?_
 simp [f204,f204m]
 refine (w175 (k := k) (d := d) hG opSum_good opSum_ne (a2 := []) (o1 := []) (fun T l _ ha hl => h T l ha hl) (fun T l hk ha => w207 (hk.box ‹At S pid _ _ _›.lt) ha) (ha.more _) hl).use ?_
 rintro e S1 ⟨hst,h1⟩
 obtain ⟨T1,rfl,hst1⟩ := hst.split ha.lt
 have e0 := hst1.1
 rw [show sumP resv E k l = chain (termP resv E k) opSum l from rfl]
 cases hF : chain (termP resv E k) opSum l with
 | error c =>
   rw [hF] at h1
   obtain ⟨rfl,l',k',d',h2⟩ := h1
   simp
   exact PrR.err hst1 (h2.less (hst1.1 ▸ ha.lt))
 | ok y =>
   obtain ⟨x,l'⟩ := y
   rw [hF] at h1
   obtain ⟨rfl,h2⟩ := h1
   simp [e0]
   exact PrR.ok hst1 (h2.less (hst1.1 ▸ ha.lt)) (by simp)
theorem both_s (hG : Eats n (notP resv E k)) (h : ESpec w0 187 pid k d n (notP resv E k)) : ESpec w0 176 pid k d n (bothP resv E k) := fun S l ha hl => by
 refine ACalls.fin (pid := pid) ?_
 refine fn_sound tryOrd (f176_c _) (by simp [f176]) ?_
 simp [f176,f176m]
 refine (w175 (k := k) (d := d) hG opAnd_good opAnd_ne (a2 := []) (o1 := []) (fun T l _ ha hl => h T l ha hl) (fun T l hk ha => w188 (hk.box ‹At S pid _ _ _›.lt) ha) (ha.more _) hl).use ?_
 rintro e S1 ⟨hst,h1⟩
 obtain ⟨T1,rfl,hst1⟩ := hst.split ha.lt
 have e0 := hst1.1
 rw [show bothP resv E k l = chain (notP resv E k) opAnd l from rfl]
 cases hF : chain (notP resv E k) opAnd l with
 | error c =>
   rw [hF] at h1
   obtain ⟨rfl,l',k',d',h2⟩ := h1
   simp
   exact PrR.err hst1 (h2.less (hst1.1 ▸ ha.lt))
 | ok y =>
   obtain ⟨x,l'⟩ := y
   rw [hF] at h1
   obtain ⟨rfl,h2⟩ := h1
   simp [e0]
   exact PrR.ok hst1 (h2.less (hst1.1 ▸ ha.lt)) (by simp)
theorem either_s (hG : Eats n (bothP resv E k)) (h : ESpec w0 176 pid k d n (bothP resv E k)) : ESpec w0 158 pid k d n (eitherP resv E k) := fun S l ha hl => by
 refine ACalls.fin (pid := pid) ?_
 refine fn_sound tryOrd (f158_c _) (by simp [f158]) ?_
 simp [f158,f158m]
 refine (w175 (k := k) (d := d) hG opOr_good opOr_ne (a2 := []) (o1 := []) (fun T l _ ha hl => h T l ha hl) (fun T l hk ha => w177 (hk.box ‹At S pid _ _ _›.lt) ha) (ha.more _) hl).use ?_
 rintro e S1 ⟨hst,h1⟩
 obtain ⟨T1,rfl,hst1⟩ := hst.split ha.lt
 have e0 := hst1.1
 rw [show eitherP resv E k l = chain (bothP resv E k) opOr l from rfl]
 cases hF : chain (bothP resv E k) opOr l with
 | error c =>
   rw [hF] at h1
   obtain ⟨rfl,l',k',d',h2⟩ := h1
   simp
   exact PrR.err hst1 (h2.less (hst1.1 ▸ ha.lt))
 | ok y =>
   obtain ⟨x,l'⟩ := y
   rw [hF] at h1
   obtain ⟨rfl,h2⟩ := h1
   simp [e0]
   exact PrR.ok hst1 (h2.less (hst1.1 ▸ ha.lt)) (by simp)
set_option maxHeartbeats 1000000 in
theorem test_s (hG : Eats n (sumP resv E k)) (h : ESpec w0 204 pid k d n (sumP resv E k)) : ESpec w0 201 pid k d n (testP resv E k) := fun S l ha hl => by
 obtain ⟨r,hr⟩ : ∃ r,testP resv E k l = r := ⟨_,rfl⟩
 rw [hr]
 rw [testP] at hr
 refine ACalls.fin (pid := pid) ?_
 refine fn_sound tryOrd (f201_c _) (by simp [f201]) ?_
 simp [f201,f201m]
 refine (h _ _ (ha.more _) hl).use ?_
 rintro e S1 ⟨hst,h1⟩
 obtain ⟨T1,rfl,hst1⟩ := hst.split ha.lt
 have e1 := hst1.1
 cases hF : sumP resv E k l with
 | error c =>
   rw [hF] at h1 hr
   simp only at hr
   obtain ⟨rfl,l',k',d',h2⟩ := h1
   simp
   subst hr
   exact PrR.err hst1 (h2.less (hst1.1 ▸ ha.lt))
 | ok y =>
   obtain ⟨x,l1⟩ := y
   rw [hF] at h1 hr
   simp only at hr
   obtain ⟨rfl,h2⟩ := h1
   have h2 := h2.less (hst1.1 ▸ ha.lt)
   have hl1 := hG _ _ _ hl hF
   simp [e1]
   refine (w205 (ss := [[61],[60,62],[60],[60,61],[62],[62,61]]) (h2.more _) 1 (by decide) (by decide) (by decide)).use ?_
   rintro e S2 ⟨hsq2,h3⟩
   obtain ⟨T2,rfl,hst2⟩ := hsq2.split h2.lt
   have e2 := hst2.1
   have hst02 := hst1.trans hst2
   rw [show opTest l1 = operS [[61],[60,62],[60],[60,61],[62],[62,61]] 1 l1 from rfl] at hr
   cases hO : operS [[61],[60,62],[60],[60,61],[62],[62,61]] 1 l1 with
   | some z =>
     obtain ⟨op,l2⟩ := z
     rw [hO] at h3 hr
     simp only at hr
     obtain ⟨rfl,h3⟩ := h3
     have h3 := h3.less (hst2.1 ▸ h2.lt)
     have hne : (op != 0) = true := by simpa using operS_ne _ 1 (by decide) _ _ _ hO
     have hl2 := operS_good _ _ _ _ _ hO
     simp [hne,e2]
     refine (h _ _ (h3.more _) (by omega)).use ?_
     rintro e S3 ⟨hsq3,h4⟩
     obtain ⟨T3,rfl,hst3⟩ := hsq3.split h3.lt
     have e3 := hst3.1
     have hst03 := hst02.trans hst3
     cases hF2 : sumP resv E k l2 with
     | error c =>
       rw [hF2] at h4 hr
       simp only at hr
       obtain ⟨rfl,l',k',d',h5⟩ := h4
       simp
       subst hr
       exact PrR.err hst03 (h5.less (hst3.1 ▸ h3.lt))
     | ok y2 =>
       obtain ⟨x2,l3⟩ := y2
       rw [hF2] at h4 hr
       simp only at hr
       obtain ⟨rfl,h5⟩ := h4
       have hb : exC (.bin op x x2) = [.int op,.list .full [exC x,exC x2],.int 0,.int 0,.int 0,.str [],.str []] := by rw [exC_eq,exsV_two]
       simp [e3]
       rw [← hb]
       subst hr
       exact PrR.ok hst03 (h5.less (hst3.1 ▸ h3.lt)) (by simp)
   | none =>
     rw [hO] at h3 hr
     simp only at hr
     obtain ⟨rfl,h3⟩ := h3
     have h3 := h3.less (hst2.1 ▸ h2.lt)
     simp [e2]
     refine (w81 (h3.more _) _).use ?_
     rintro e S3 ⟨hsq3,rfl,h4⟩
     obtain ⟨T3,rfl,hst3⟩ := hsq3.split h3.lt
     have e3 := hst3.1
     have hst03 := hst02.trans hst3
     have h4 := h4.less (hst3.1 ▸ h3.lt)
     by_cases hI : isT 1 [105,115] l1 = true
     ·rw [hI] at h4
      simp only [if_true] at h4
      rw [if_pos hI] at hr
      simp [hI,e3]
      refine (w81 (h4.more _) _).use ?_
      rintro e S4 ⟨hsq4,rfl,h5⟩
      obtain ⟨T4,rfl,hst4⟩ := hsq4.split h4.lt
      have e4 := hst4.1
      have hst04 := hst03.trans hst4
      have h5 := h5.less (hst4.1 ▸ h4.lt)
      by_cases hN : isT 1 [110,111,116] l1.tail = true
      ·rw [hN] at h5
       simp only [if_true] at h5
       rw [if_pos hN] at hr
       simp [hN,e4]
       refine (w79 (h5.more _) _).use ?_
       rintro e S5 ⟨hsq5,h6⟩
       obtain ⟨T5,rfl,hst5⟩ := hsq5.split h5.lt
       have e5 := hst5.1
       have hst05 := hst04.trans hst5
       rw [need] at h6
       by_cases hU : isT 1 [110,117,108,108] l1.tail.tail = true
       ·rw [if_pos hU] at h6 hr
        obtain ⟨rfl,h6⟩ := h6
        have hb : exC (.un 20 x) = [.int 20,.list .full [exC x],.int 0,.int 0,.int 0,.str [],.str []] := by rw [exC_eq,exsV_one]
        simp [e5]
        rw [← hb]
        subst hr
        exact PrR.ok hst05 (h6.less (hst5.1 ▸ h5.lt)) (by simp)
       ·rw [if_neg hU] at h6 hr
        obtain ⟨rfl,l',k',d',h6⟩ := h6
        simp
        subst hr
        exact PrR.err hst05 (h6.less (hst5.1 ▸ h5.lt))
      ·have hN : isT 1 [110,111,116] l1.tail = false := by simpa using hN
       rw [hN] at h5
       simp only [Bool.false_eq_true,if_false] at h5
       rw [if_neg (by simp [hN])] at hr
       simp [hN,e4]
       refine (w79 (h5.more _) _).use ?_
       rintro e S5 ⟨hsq5,h6⟩
       obtain ⟨T5,rfl,hst5⟩ := hsq5.split h5.lt
       have e5 := hst5.1
       have hst05 := hst04.trans hst5
       rw [need] at h6
       by_cases hU : isT 1 [110,117,108,108] l1.tail = true
       ·rw [if_pos hU] at h6 hr
        obtain ⟨rfl,h6⟩ := h6
        have hb : exC (.un 19 x) = [.int 19,.list .full [exC x],.int 0,.int 0,.int 0,.str [],.str []] := by rw [exC_eq,exsV_one]
        simp [e5]
        rw [← hb]
        subst hr
        exact PrR.ok hst05 (h6.less (hst5.1 ▸ h5.lt)) (by simp)
       ·rw [if_neg hU] at h6 hr
        obtain ⟨rfl,l',k',d',h6⟩ := h6
        simp
        subst hr
        exact PrR.err hst05 (h6.less (hst5.1 ▸ h5.lt))
     ·have hI : isT 1 [105,115] l1 = false := by simpa using hI
      rw [hI] at h4
      simp only [Bool.false_eq_true,if_false] at h4
      rw [if_neg (by simp [hI])] at hr
      simp [hI,e3]
      subst hr
      exact PrR.ok hst03 h4 (by simp)
end
end Go.Abs
namespace Go.Abs
open Go Go.RowKit Go.Proofs Go.Lx Go.Pz
variable {w0 : World}
theorem At.set {S : Heap} {pid : Nat} {l : List Tok} {k d : Nat} (h : pid < S.length) {v : AVal} (hv : TkV v l) : At (S.set pid (.cells 3 [[v,.int k,.int d]] (some 1))) pid l k d := ⟨_,List.getElem?_set_self h,v,hv,rfl⟩
theorem isT_cons (k : Int) (s : Bs) (t : Tok) (r : List Tok) : isT k s (t :: r) = (decide (t.kind = k) && decide (t.text = s)) := by simp [isT]
theorem need_ok {k : Int} {s : Bs} {l : List Tok} (h : isT k s l = true) : need k s l = .ok l.tail := by rw [need,if_pos h]
theorem need_er {k : Int} {s : Bs} {l : List Tok} (h : isT k s l = false) : need k s l = .error 130 := by rw [need,if_neg (by simp [h])]
section
variable {pid d m : Nat} {E : Nat → List Tok → Res Ex}
set_option maxHeartbeats 1000000 in
theorem inner_s (hE : ∀ k,k ≤ 40 → ∀ S l,At S pid l k d → l.length < m → ACalls Tryz.prog (B0 w0) 158 [.ptr pid 0 0] S (ExR S pid k d (E k l))) {k : Nat} (hk : k ≤ 40) : ESpec w0 213 pid k d m (inner E k) := fun S l ha hl => by
 obtain ⟨r,hr⟩ : ∃ r,inner E k l = r := ⟨_,rfl⟩
 rw [hr]
 rw [inner] at hr
 refine ACalls.fin (pid := pid) ?_
 obtain ⟨v,hv,hp⟩ := ha.get
 have hg := hmoreG ha.lt
 refine fn_sound tryOrd (f213_c _) (by simp [f213]) ?_
 simp [f213,f213m]
 refine (w78 (ha.more _)).use ?_
 rintro e S1 ⟨rfl,rfl⟩
 by_cases hT : isT 5 [40] l = true
 ·cases l with
  | nil => cases hT
  | cons t r0 =>
    have hT2 : t.kind = 5 ∧ t.text = [40] := by simpa [isT] using hT
    by_cases hk40 : k = 40
    ·subst hk40
     rw [if_pos ⟨hT,rfl⟩] at hr
     subst hr
     simp [tokC,hT2.1,hT2.2,hg,hp]
     refine (w27 5 _).use ?_
     rintro e S2 ⟨rfl,rfl⟩
     simp
     exact PrR.err (Step.refl _ _) ha
    ·have hk0 : ((k : Int) == 40) = false := beq_eq_false_iff_ne.2 (by omega)
     rw [if_neg (by simp [hk40]),if_pos hT] at hr
     simp [tokC,hT2.1,hT2.2,hg,hp,hk0]
     refine (w120 (ha.more _) _).use ?_
     rintro e S2 ⟨hsq1,h1⟩
     obtain ⟨T1,rfl,hst1⟩ := hsq1.split ha.lt
     have e1 := hst1.1
     rw [need_ok hT] at h1
     obtain ⟨rfl,h1⟩ := h1
     have h1 := h1.less (hst1.1 ▸ ha.lt)
     obtain ⟨v1,hv1,hp1⟩ := h1.get
     have hg1 := hmoreG h1.lt
     have hs1 := hsetG h1.lt
     have hw := wrapS k (by omega)
     simp [hg1,hp1,hs1,hw,e1]
     obtain ⟨T2,hT2e⟩ : ∃ T2,T2 = T1.set pid (AObj.cells 3 [[v1,AVal.int ((k : Int) + 1),AVal.int d]] (some 1)) := ⟨_,rfl⟩
     have hst2 : Step pid T1 T2 := hT2e ▸ Step.set _
     have h2 : At T2 pid (t :: r0).tail (k + 1) d := by
      have := At.set (k := k + 1) (d := d) h1.lt hv1
      rw [hT2e]
      simpa using this
     have e2 := hst2.1
     have hst02 := hst1.trans hst2
     rw [← hT2e,e2]
     refine (hE (k + 1) (by omega) _ _ (h2.more _) (by simp at hl ⊢; omega)).use ?_
     rintro e S3 ⟨hsq3,h3⟩
     obtain ⟨T3,rfl,hst3⟩ := hsq3.split h2.lt
     have e3 := hst3.1
     have hst03 := hst02.trans hst3
     cases hF : E (k + 1) (t :: r0).tail with
     | error c =>
       rw [hF] at h3 hr
       simp only at hr
       obtain ⟨rfl,l',k',d',h4⟩ := h3
       simp
       subst hr
       exact PrR.err hst03 (h4.less (hst3.1 ▸ h2.lt))
     | ok y =>
       obtain ⟨x,l3⟩ := y
       rw [hF] at h3 hr
       simp only at hr
       obtain ⟨rfl,h4⟩ := h3
       have h4 := h4.less (hst3.1 ▸ h2.lt)
       obtain ⟨v3,hv3,hp3⟩ := h4.get
       have hg3 := hmoreG h4.lt
       have hs3 := hsetG h4.lt
       have hw3 : IntKind.i64.wrap (((k + 1 : Nat) : Int) - 1) = (k : Int) := by have := wrapP (k + 1) (by omega) (by omega); rw [this]; omega
       have hp3' : T3[pid]? = some (AObj.cells 3 [[v3,AVal.int ((k : Int) + 1),AVal.int d]] (some 1)) := by rw [hp3]; simp
       have hw4 : IntKind.i64.wrap (k : Int) = (k : Int) := by rw [wrap64_in (by omega) (by omega)]
       simp [hg3,hp3',hs3,hw4,e3]
       obtain ⟨T4,hT4e⟩ : ∃ T4,T4 = T3.set pid (AObj.cells 3 [[v3,AVal.int (k : Int),AVal.int d]] (some 1)) := ⟨_,rfl⟩
       have hst4 : Step pid T3 T4 := hT4e ▸ Step.set _
       have h5 : At T4 pid l3 k d := hT4e ▸ At.set h4.lt hv3
       have e4 := hst4.1
       have hst04 := hst03.trans hst4
       rw [← hT4e,e4]
       refine (w120 (h5.more _) _).use ?_
       rintro e S5 ⟨hsq5,h6⟩
       obtain ⟨T5,rfl,hst5⟩ := hsq5.split h5.lt
       have e5 := hst5.1
       have hst05 := hst04.trans hst5
       by_cases hC : isT 5 [41] l3 = true
       ·rw [need_ok hC] at h6
        rw [if_pos hC] at hr
        obtain ⟨rfl,h6⟩ := h6
        simp [e5]
        subst hr
        exact PrR.ok hst05 (h6.less (hst5.1 ▸ h5.lt)) (by simp)
       ·have hC : isT 5 [41] l3 = false := by simpa using hC
        rw [need_er hC] at h6
        rw [if_neg (by simp [hC])] at hr
        obtain ⟨rfl,l',k',d',h6⟩ := h6
        simp
        subst hr
        exact PrR.err hst05 (h6.less (hst5.1 ▸ h5.lt))
 ·have hT : isT 5 [40] l = false := by simpa using hT
  rw [if_neg (by simp [hT]),if_neg (by simp [hT])] at hr
  subst hr
  have fin : ∀ g,ACalls Tryz.prog (B0 w0) 120 [.ptr pid 0 0,.str [40]] (S ++ g) (NeR (S ++ g) pid k d (.error 130)) := fun g => by
   have := w120 (w0 := w0) (ha.more g) [40]
   rwa [need_er hT] at this
  cases l with
  | nil =>
    simp [zTok,tokC]
    refine (fin _).use ?_
    rintro e S2 ⟨hsq1,rfl,l',k',d',h1⟩
    obtain ⟨T1,rfl,hst1⟩ := hsq1.split ha.lt
    simp
    exact PrR.err hst1 (h1.less (hst1.1 ▸ ha.lt))
  | cons t r0 =>
    rw [isT_cons] at hT
    by_cases h5 : t.kind = 5
    ·have h6 : ¬ t.text = [40] := by simpa [h5] using hT
     simp [tokC,h5,h6]
     refine (fin _).use ?_
     rintro e S2 ⟨hsq1,rfl,l',k',d',h1⟩
     obtain ⟨T1,rfl,hst1⟩ := hsq1.split ha.lt
     simp
     exact PrR.err hst1 (h1.less (hst1.1 ▸ ha.lt))
    ·have h6 : (t.kind == 5) = false := beq_eq_false_iff_ne.2 h5
     simp [tokC,h6]
     refine (fin _).use ?_
     rintro e S2 ⟨hsq1,rfl,l',k',d',h1⟩
     obtain ⟨T1,rfl,hst1⟩ := hsq1.split ha.lt
     simp
     exact PrR.err hst1 (h1.less (hst1.1 ▸ ha.lt))
theorem exC_const (a b c : Int) (s : Bs) : exC (.const a b c s) = [.int 21,.nilS,.int a,.int b,.int c,.str s,.str []] := by rw [exC_eq,exsV_nil]
theorem exC_col (s q : Bs) : exC (.col s q) = [.int 22,.nilS,.int 0,.int 0,.int 0,.str s,.str q] := by rw [exC_eq,exsV_nil]
theorem const_fin {S T g : Heap} {k : Nat} {l : List Tok} {w : Bs} (ha : At S pid l k d) (hw : isT 1 w l = true) {x : Ex} {R : AEnd → Heap → Prop} (hR : ∀ T2,Step pid S T2 → At T2 pid l.tail k d → R (.ret .undef) (T2 ++ g)) :
  ACalls Tryz.prog (B0 w0) 79 [.ptr pid 0 0,.list .full [[.str w]]] (S ++ g) R := by
 refine (w79 (ha.more g) w).use ?_
 rintro e S2 ⟨hsq1,h1⟩
 obtain ⟨T1,rfl,hst1⟩ := hsq1.split ha.lt
 rw [need_ok hw] at h1
 obtain ⟨rfl,h1⟩ := h1
 exact hR T1 hst1 (h1.less (hst1.1 ▸ ha.lt))
set_option maxHeartbeats 2000000 in
theorem named_s {k : Nat} (hin : ESpec w0 213 pid k d m (inner E k)) {S : Heap} {t : Tok} {r0 : List Tok} (hk1 : t.kind = 1) (ha : At S pid (t :: r0) k d) (hl : (t :: r0).length ≤ m) :
  ACalls Tryz.prog (B0 w0) 212 [.ptr pid 0 0,.str t.text] S (ExR S pid k d (named resv E k t.text (t :: r0))) := by
 obtain ⟨r,hr⟩ : ∃ r,named resv E k t.text (t :: r0) = r := ⟨_,rfl⟩
 rw [hr]
 have hT : isT 1 t.text (t :: r0) = true := by simp [isT,hk1]
 obtain ⟨w,hw⟩ : ∃ w,t.text = w := ⟨_,rfl⟩
 rw [hw] at hr hT ⊢
 rw [named] at hr
 refine ACalls.fin (pid := pid) ?_
 refine fn_sound tryOrd (f212_c _) (by simp [f212]) ?_
 by_cases h1 : w = [110,117,108,108]
 ·rw [if_pos h1] at hr
  subst h1; subst hr
  simp [f212,f212m]
  refine const_fin (x := .zero) (T := S) ha hT ?_
  intro T1 hst1 h1
  have e1 := hst1.1
  simp [e1]
  rw [← exC_const]
  exact PrR.ok hst1 h1 (by simp)
 rw [if_neg h1] at hr
 by_cases h2 : w = [116,114,117,101]
 ·rw [if_pos h2] at hr
  subst h2; subst hr
  simp [f212,f212m]
  refine const_fin (x := .zero) (T := S) ha hT ?_
  intro T1 hst1 h1
  have e1 := hst1.1
  simp [e1]
  rw [← exC_const]
  exact PrR.ok hst1 h1 (by simp)
 rw [if_neg h2] at hr
 by_cases h3 : w = [102,97,108,115,101]
 ·rw [if_pos h3] at hr
  subst h3; subst hr
  simp [f212,f212m]
  refine const_fin (x := .zero) (T := S) ha hT ?_
  intro T1 hst1 h1
  have e1 := hst1.1
  simp [e1]
  rw [← exC_const]
  exact PrR.ok hst1 h1 (by simp)
 rw [if_neg h3] at hr
 by_cases h4 : w = [110,97,110]
 ·rw [if_pos h4] at hr
  subst h4; subst hr
  simp [f212,f212m]
  refine const_fin (x := .zero) (T := S) ha hT ?_
  intro T1 hst1 h1
  have e1 := hst1.1
  simp [e1]
  rw [← exC_const]
  exact PrR.ok hst1 h1 (by simp)
 rw [if_neg h4] at hr
 by_cases h5 : w = [105,110,102,105,110,105,116,121]
 ·rw [if_pos h5] at hr
  subst h5; subst hr
  simp [f212,f212m]
  refine const_fin (x := .zero) (T := S) ha hT ?_
  intro T1 hst1 h1
  have e1 := hst1.1
  simp [e1]
  rw [← exC_const]
  exact PrR.ok hst1 h1 (by simp)
 rw [if_neg h5] at hr
 have conv : ∀ (op : Int) (T1 g : Heap),Step pid S T1 → At T1 pid r0 k d → (∀ T2 x l',Step pid S T2 → At T2 pid l' k d → r = .ok (.un op x,l') → ∀ R : AEnd → Heap → Prop,R (.ret (.agg (exC x))) (T2 ++ g) → R (.ret (.agg (exC x))) (T2 ++ g)) → True := fun _ _ _ _ _ _ => trivial
 by_cases h6 : w = [105,110,116]
 ·subst h6
  rw [if_pos (.inl rfl)] at hr
  simp [f212,f212m]
  refine const_fin (x := .zero) (T := S) ha hT ?_
  intro T1 hst1 h1
  have e1 := hst1.1
  simp [e1]
  refine (hin _ _ (h1.more _) (by simp at hl ⊢; omega)).use ?_
  rintro e S2 ⟨hsq2,h7⟩
  obtain ⟨T2,rfl,hst2⟩ := hsq2.split h1.lt
  have e2 := hst2.1
  have hst02 := hst1.trans hst2
  cases hF : inner E k (t :: r0).tail with
  | error c =>
    rw [hF] at h7 hr
    simp only at hr
    obtain ⟨rfl,l',k',d',h7⟩ := h7
    simp
    subst hr
    exact PrR.err hst02 (h7.less (hst2.1 ▸ h1.lt))
  | ok y =>
    obtain ⟨x,l'⟩ := y
    rw [hF] at h7 hr
    simp at hr
    obtain ⟨rfl,h7⟩ := h7
    have hb : exC (.un 14 x) = [.int 14,.list .full [exC x],.int 0,.int 0,.int 0,.str [],.str []] := by rw [exC_eq,exsV_one]
    simp [e2]
    rw [← hb]
    subst hr
    exact PrR.ok hst02 (h7.less (hst2.1 ▸ h1.lt)) (by simp)
 by_cases h7 : w = [114,101,97,108]
 ·subst h7
  rw [if_pos (.inr rfl)] at hr
  simp [f212,f212m]
  refine const_fin (x := .zero) (T := S) ha hT ?_
  intro T1 hst1 h1
  have e1 := hst1.1
  simp [e1]
  refine (hin _ _ (h1.more _) (by simp at hl ⊢; omega)).use ?_
  rintro e S2 ⟨hsq2,h7⟩
  obtain ⟨T2,rfl,hst2⟩ := hsq2.split h1.lt
  have e2 := hst2.1
  have hst02 := hst1.trans hst2
  cases hF : inner E k (t :: r0).tail with
  | error c =>
    rw [hF] at h7 hr
    simp only at hr
    obtain ⟨rfl,l',k',d',h7⟩ := h7
    simp
    subst hr
    exact PrR.err hst02 (h7.less (hst2.1 ▸ h1.lt))
  | ok y =>
    obtain ⟨x,l'⟩ := y
    rw [hF] at h7 hr
    simp at hr
    obtain ⟨rfl,h7⟩ := h7
    have hb : exC (.un 15 x) = [.int 15,.list .full [exC x],.int 0,.int 0,.int 0,.str [],.str []] := by rw [exC_eq,exsV_one]
    simp [e2]
    rw [← hb]
    subst hr
    exact PrR.ok hst02 (h7.less (hst2.1 ▸ h1.lt)) (by simp)
 rw [if_neg (by simp [h6,h7])] at hr
 simp [f212,f212m,h1,h2,h3,h4,h5,h6,h7]
 refine (w82 (ha.more _)).use ?_
 rintro e S2 ⟨hsq1,h8⟩
 obtain ⟨T1,rfl,hst1⟩ := hsq1.split ha.lt
 have e1 := hst1.1
 cases hN : nameR resv (t :: r0) with
 | error c =>
   rw [hN] at h8 hr
   simp only at hr
   obtain ⟨rfl,l',k',d',h8⟩ := h8
   simp
   subst hr
   exact PrR.err hst1 (h8.less (hst1.1 ▸ ha.lt))
 | ok y =>
   obtain ⟨n1,l1⟩ := y
   rw [hN] at h8 hr
   simp only at hr
   obtain ⟨rfl,h8⟩ := h8
   have h8 := h8.less (hst1.1 ▸ ha.lt)
   simp [e1]
   refine (w129 (h8.more _) _).use ?_
   rintro e S3 ⟨hsq2,rfl,h9⟩
   obtain ⟨T2,rfl,hst2⟩ := hsq2.split h8.lt
   have e2 := hst2.1
   have hst02 := hst1.trans hst2
   have h9 := h9.less (hst2.1 ▸ h8.lt)
   by_cases hD : isT 5 [46] l1 = true
   ·rw [if_pos hD] at hr
    rw [hD] at h9
    simp only [if_true] at h9
    simp [hD,e2]
    refine (w82 (h9.more _)).use ?_
    rintro e S4 ⟨hsq3,h10⟩
    obtain ⟨T3,rfl,hst3⟩ := hsq3.split h9.lt
    have e3 := hst3.1
    have hst03 := hst02.trans hst3
    cases hN2 : nameR resv l1.tail with
    | error c =>
      rw [hN2] at h10 hr
      simp only at hr
      obtain ⟨rfl,l',k',d',h10⟩ := h10
      simp
      subst hr
      exact PrR.err hst03 (h10.less (hst3.1 ▸ h9.lt))
    | ok y2 =>
      obtain ⟨n2,l2⟩ := y2
      rw [hN2] at h10 hr
      simp only at hr
      obtain ⟨rfl,h10⟩ := h10
      simp [e3]
      rw [← exC_col]
      subst hr
      exact PrR.ok hst03 (h10.less (hst3.1 ▸ h9.lt)) (by simp)
   ·have hD : isT 5 [46] l1 = false := by simpa using hD
    rw [if_neg (by simp [hD])] at hr
    rw [hD] at h9
    simp only [Bool.false_eq_true,if_false] at h9
    simp [hD,e2]
    rw [← exC_col]
    subst hr
    exact PrR.ok hst02 h9 (by simp)
end
end Go.Abs
namespace Go.Abs
open Go Go.RowKit Go.Proofs Go.Lx Go.Pz
variable {w0 : World}
section
variable {pid d m : Nat} {E : Nat → List Tok → Res Ex}
set_option maxHeartbeats 1000000 in
theorem one_s {k : Nat} (hin : ESpec w0 213 pid k d m (inner E k)) : ESpec w0 211 pid k d m (oneP resv E k) := fun S l ha hl => by
 obtain ⟨r,hr⟩ : ∃ r,oneP resv E k l = r := ⟨_,rfl⟩
 rw [hr]
 refine ACalls.fin (pid := pid) ?_
 obtain ⟨v,hv,hp⟩ := ha.get
 have hg := hmoreG ha.lt
 have hs := hsetG ha.lt
 refine fn_sound tryOrd (f211_c _) (by simp [f211]) ?_
 simp [f211,f211m]
 refine (w78 (ha.more _)).use ?_
 rintro e S1 ⟨rfl,rfl⟩
 have viaInner : ∀ g,inner E k l = r → ACalls Tryz.prog (B0 w0) 213 [.ptr pid 0 0] (S ++ g) (ExR (S ++ g) pid k d r) := fun g h => by
  have := hin _ _ (ha.more g) hl
  rwa [h] at this
 cases l with
 | nil =>
   have hr' : inner E k [] = r := by
    rw [← hr]
    simp [oneP,inner,isT]
   simp [zTok,tokC]
   refine (viaInner _ hr').use ?_
   rintro e S2 ⟨hsq1,h1⟩
   obtain ⟨T1,rfl,hst1⟩ := hsq1.split ha.lt
   have e1 := hst1.1
   cases r with
   | error c =>
     obtain ⟨rfl,l',k',d',h1⟩ := h1
     simp
     exact PrR.err hst1 (h1.less (hst1.1 ▸ ha.lt))
   | ok y =>
     obtain ⟨x,l'⟩ := y
     obtain ⟨rfl,h1⟩ := h1
     simp [e1]
     exact PrR.ok hst1 (h1.less (hst1.1 ▸ ha.lt)) (by simp)
 | cons t r0 =>
   unfold oneP at hr
   simp only at hr
   obtain ⟨v',h1,h2⟩ := hv.tail
   by_cases k2 : t.kind = 2
   ·rw [if_pos (.inl k2)] at hr
    simp [-slcR,tokC,k2,hg,hp,h2,hs,h1.one]
    rw [← exC_const]
    subst hr
    rw [k2]
    exact PrR.ok (Step.set _) (At.set ha.lt h1) (by simp)
   by_cases k3 : t.kind = 3
   ·rw [if_pos (.inr k3)] at hr
    simp [-slcR,tokC,k3,hg,hp,h2,hs,h1.one]
    rw [← exC_const]
    subst hr
    rw [k3]
    exact PrR.ok (Step.set _) (At.set ha.lt h1) (by simp)
   rw [if_neg (by simp [k2,k3])] at hr
   have b2 : (t.kind == 2) = false := beq_eq_false_iff_ne.2 k2
   have b3 : (t.kind == 3) = false := beq_eq_false_iff_ne.2 k3
   by_cases k4 : t.kind = 4
   ·rw [if_pos k4] at hr
    simp [-slcR,tokC,k4,hg,hp,h2,hs,h1.one]
    rw [← exC_const]
    subst hr
    exact PrR.ok (Step.set _) (At.set ha.lt h1) (by simp)
   rw [if_neg k4] at hr
   have b4 : (t.kind == 4) = false := beq_eq_false_iff_ne.2 k4
   by_cases k1 : t.kind = 1
   ·rw [if_pos k1] at hr
    simp [tokC,k1]
    refine (named_s hin k1 (ha.more _) hl).use ?_
    rintro e S2 ⟨hsq1,h3⟩
    obtain ⟨T1,rfl,hst1⟩ := hsq1.split ha.lt
    have e1 := hst1.1
    rw [hr] at h3
    cases r with
    | error c =>
      obtain ⟨rfl,l',k',d',h3⟩ := h3
      simp
      exact PrR.err hst1 (h3.less (hst1.1 ▸ ha.lt))
    | ok y =>
      obtain ⟨x,l'⟩ := y
      obtain ⟨rfl,h3⟩ := h3
      simp [e1]
      exact PrR.ok hst1 (h3.less (hst1.1 ▸ ha.lt)) (by simp)
   ·rw [if_neg k1] at hr
    have b1 : (t.kind == 1) = false := beq_eq_false_iff_ne.2 k1
    simp [tokC,b1,b2,b3,b4]
    refine (viaInner _ hr).use ?_
    rintro e S2 ⟨hsq1,h3⟩
    obtain ⟨T1,rfl,hst1⟩ := hsq1.split ha.lt
    have e1 := hst1.1
    cases r with
    | error c =>
      obtain ⟨rfl,l',k',d',h3⟩ := h3
      simp
      exact PrR.err hst1 (h3.less (hst1.1 ▸ ha.lt))
    | ok y =>
      obtain ⟨x,l'⟩ := y
      obtain ⟨rfl,h3⟩ := h3
      simp [e1]
      exact PrR.ok hst1 (h3.less (hst1.1 ▸ ha.lt)) (by simp)
end
theorem either_all (w0 : World) (pid d : Nat) : ∀ (n : Nat),n ≤ 1000000 → ∀ k,k ≤ 40 → ∀ (S : Heap) (l : List Tok),At S pid l k d → l.length < n → ACalls Tryz.prog (B0 w0) 158 [.ptr pid 0 0] S (ExR S pid k d (Pz.either resv n k l))
 | 0,_,_,_,S,l,_,hl => by omega
 | n + 1,hn,k,hk,S,l,ha,hl => by
   have hg : ∀ k,Eats n (Pz.either resv n k) := fun k => either_good resv n k
   have hin := inner_s (w0 := w0) (pid := pid) (d := d) (m := n) (E := Pz.either resv n) (fun k hk S l ha hl => either_all w0 pid d n (by omega) k hk S l ha hl) hk
   have h1 := one_s hin
   have h2 := minus_s (by omega) h1
   have h3 := term_s ((minusP_good hg k).le (by omega)) h2
   have h4 := sum_s ((termP_good hg k).le (by omega)) h3
   have h5 := test_s ((sumP_good hg k).le (by omega)) h4
   have h6 := not_s (by omega) h5
   have h7 := both_s ((notP_good hg k).le (by omega)) h6
   have h8 := either_s ((bothP_good hg k).le (by omega)) h7
   exact h8 S l ha (by omega)
def StR {α : Type} (V : α → AVal) (S : Heap) (pid : Nat) (r : ResS α) (e : AEnd) (S' : Heap) : Prop :=
 Step pid S S' ∧ match r with
  | .ok (x,s) => e = .ret (V x) ∧ At S' pid s.l 0 s.d
  | .error c => e = .panic (trb c) ∧ ∃ l k d,At S' pid l k d
theorem StR.ok {α : Type} {V : α → AVal} {S T g : Heap} {pid : Nat} {x : α} {s : Sta} (hst : Step pid S T) (ha : At T pid s.l 0 s.d) (hv : (V x).sc S.length = true) : Fin S pid (StR V S pid (.ok (x,s))) (.ret (V x)) (T ++ g) :=
 ⟨T,g,rfl,hst,⟨_,_,_,ha⟩,hv,hst,rfl,ha⟩
theorem StR.err {α : Type} {V : α → AVal} {S T g : Heap} {pid : Nat} {c : Int} {l k' d'} (hst : Step pid S T) (ha : At T pid l k' d') : Fin S pid (StR V S pid (.error c)) (.panic (trb c)) (T ++ g) :=
 ⟨T,g,rfl,hst,⟨_,_,_,ha⟩,rfl,hst,rfl,_,_,_,ha⟩
set_option maxHeartbeats 1000000 in
theorem w128 {S : Heap} {pid N : Nat} {s : Sta} (ha : At S pid s.l 0 s.d) (hl : s.l.length < N) (hN : N ≤ 1000000) : ACalls Tryz.prog (B0 w0) 128 [.ptr pid 0 0] S (StR (fun x => .agg (exC x)) S pid (whole resv N s)) := by
 obtain ⟨r,hr⟩ : ∃ r,whole resv N s = r := ⟨_,rfl⟩
 rw [hr]
 rw [whole] at hr
 refine ACalls.fin (pid := pid) ?_
 refine fn_sound tryOrd (f128_c _) (by simp [f128]) ?_
 simp [f128,f128m]
 refine (either_all w0 pid s.d N hN 0 (by decide) _ _ (ha.more _) hl).use ?_
 rintro e S1 ⟨hsq1,h1⟩
 obtain ⟨T1,rfl,hst1⟩ := hsq1.split ha.lt
 have e1 := hst1.1
 cases hF : Pz.either resv N 0 s.l with
 | error c =>
   rw [hF] at h1 hr
   simp only at hr
   obtain ⟨rfl,l',k',d',h1⟩ := h1
   simp
   subst hr
   exact StR.err hst1 (h1.less (hst1.1 ▸ ha.lt))
 | ok y =>
   obtain ⟨x,l'⟩ := y
   have hw := either_good resv N 0 _ _ _ (by omega) hF
   rw [hF] at h1 hr
   simp only at hr
   obtain ⟨rfl,h1⟩ := h1
   have h1 := h1.less (hst1.1 ▸ ha.lt)
   obtain ⟨v1,hv1,hp1⟩ := h1.get
   have hg1 := hmoreG h1.lt
   have hs1 := hsetG h1.lt
   have hd := w20 (w0 := w0) 1000000 (by decide) x (by omega)
   simp [e1,hg1,hp1]
   refine (hd _).use ?_
   rintro e S2 ⟨rfl,rfl⟩
   simp [e1,hg1,hp1,hs1]
   subst hr
   have hmax : (if s.d < x.depth then (x.depth : Int) else (s.d : Int)) = ((max s.d x.depth : Nat) : Int) := by split <;> omega
   rw [hmax]
   exact StR.ok (V := fun x => AVal.agg (exC x)) (s := ⟨l',max s.d x.depth⟩) (hst1.trans (Step.set _)) (At.set h1.lt hv1) (by simp)
end Go.Abs
namespace Go.Abs
open Go Go.RowKit Go.Proofs Go.Lx Go.Pz
variable {w0 : World}
def Kst (pid sid : Nat) (S T : Heap) : Prop := S.length ≤ T.length ∧ ∀ j,j < S.length → j ≠ pid → j ≠ sid → T[j]? = S[j]?
theorem Kst.refl (pid sid : Nat) (S : Heap) : Kst pid sid S S := ⟨Nat.le_refl _,fun _ _ _ _ => rfl⟩
theorem Kst.trans {pid sid S T U} (h : Kst pid sid S T) (h' : Kst pid sid T U) : Kst pid sid S U := ⟨Nat.le_trans h.1 h'.1,fun j hl h1 h2 => (h'.2 j (Nat.lt_of_lt_of_le hl h.1) h1 h2).trans (h.2 j hl h1 h2)⟩
theorem Kst.more {pid sid S T} (h : Kst pid sid S T) (g : Heap) : Kst pid sid S (T ++ g) := ⟨by simp; have := h.1; omega,fun j hl h1 h2 => by rw [List.getElem?_append_left (by have := h.1; omega)]; exact h.2 j hl h1 h2⟩
theorem Kst.inner {pid sid q : Nat} {S0 T U : Heap} (h : Kst pid sid S0 T) (h' : Kst pid q T U) (hq : S0.length ≤ q) : Kst pid sid S0 U := ⟨Nat.le_trans h.1 h'.1,fun j hl h1 h2 => (h'.2 j (Nat.lt_of_lt_of_le hl h.1) h1 (by omega)).trans (h.2 j hl h1 h2)⟩
theorem Kpt.k2 {pid sid S T} (h : Kpt pid S T) : Kst pid sid S T := ⟨h.1,fun j hl h1 _ => h.2 j hl h1⟩
theorem Step.k2 {pid sid S T} (h : Step pid S T) : Kst pid sid S T := h.kpt.k2
theorem Own.rebase {N : Nat} {S0 S : Heap} {L} (h : Own N S0 S L) : Own N S S L := ⟨h.le,fun _ _ => rfl,h.ap,h.sep⟩
theorem Own.keep {N : Nat} {S0 S S' : Heap} {L} (h : Own N S0 S L) (hl : S.length ≤ S'.length) (hk : ∀ j,N ≤ j → j < S.length → S'[j]? = S[j]?) : Own N S' S' L :=
 ⟨Nat.le_trans h.le hl,fun _ _ => rfl,fun i v k es hi => by
  have := h.ap i v k es hi
  cases this with
  | none fl hf => exact .none fl hf
  | row id off len es0 cap hN hS hl' => exact .row id off len es0 cap hN (by rw [hk id hN (lt_of_some hS)]; exact hS) hl',h.sep⟩
theorem Own.step {N pid : Nat} {S0 S S' : Heap} {L} (h : Own N S0 S L) (hst : Step pid S S') (hp : pid < N) : Own N S' S' L :=
 h.keep (Nat.le_of_eq hst.1) fun j hj _ => hst.2 j (by omega)
theorem Own.more' {N : Nat} {S0 S : Heap} {L} (h : Own N S0 S L) (g : Heap) : Own N (S ++ g) (S ++ g) L :=
 h.keep (by simp) fun j _ hj => List.getElem?_append_left hj
structure LI (S0 : Heap) (pid sid : Nat) (c0 : List AVal) (f k : Nat) (es : List (List AVal)) (s : Sta) (S : Heap) : Prop where
 at_ : At S pid s.l 0 s.d
 st : ∃ v,S[sid]? = some (.cells c0.length [c0.set f v] (some 1)) ∧ Own S0.length S S [(v,k,es)]
 k2 : Kst pid sid S0 S
section
variable {S0 : Heap} {pid sid : Nat} {c0 : List AVal} {f k : Nat} {es : List (List AVal)} {s : Sta} {S : Heap}
theorem LI.more (h : LI S0 pid sid c0 f k es s S) (g : Heap) : LI S0 pid sid c0 f k es s (S ++ g) := by
 obtain ⟨h1,⟨v,h2,h3⟩,h4⟩ := h
 exact ⟨h1.more g,⟨v,by rw [List.getElem?_append_left (lt_of_some h2)]; exact h2,h3.more' g⟩,h4.more g⟩
theorem LI.step (h : LI S0 pid sid c0 f k es s S) {S' : Heap} (hst : Step pid S S') (hp : pid < S0.length) (hps : pid ≠ sid) {s' : Sta} (ha : At S' pid s'.l 0 s'.d) : LI S0 pid sid c0 f k es s' S' := by
 obtain ⟨h1,⟨v,h2,h3⟩,h4⟩ := h
 exact ⟨ha,⟨v,by rw [hst.2 sid (Ne.symm hps)]; exact h2,h3.step hst hp⟩,h4.trans hst.k2⟩
end
def LR {α : Type} (S0 : Heap) (pid sid : Nat) (c0 : List AVal) (f k : Nat) (V : α → List (List AVal)) (r : ResS α) (e : AEnd) (S' : Heap) : Prop :=
 match r with
 | .ok (a,s) => e = .ret .undef ∧ LI S0 pid sid c0 f k (V a) s S'
 | .error c => e = .panic (trb c) ∧ Kst pid sid S0 S'
def EaI {α : Type} (S0 : Heap) (pid sid : Nat) (c0 : List AVal) (f k : Nat) (V : α → List (List AVal)) (step : α → Sta → ResS α) (n most : Nat) (A : AVal) (r : ResS α) (m : Nat) (a : Tmps) (S' : Heap) : Prop :=
 ∃ (x : α) (s : Sta) (q : Nat),LI S0 pid sid c0 f k (V x) s S' ∧ get a 0 = .ptr pid 0 0 ∧ get a 1 = .int most ∧ get a 2 = A ∧ get a 6 = .int q ∧ q + m = most + 1 ∧ 1 ≤ q ∧ 1 ≤ m ∧ s.l.length ≤ n ∧ (V x).length + 1 = q ∧ r = listF step m x s
set_option maxHeartbeats 1000000 in
theorem w121 {α : Type} {S0 : Heap} {pid sid : Nat} {c0 : List AVal} {f k n most : Nat} {V : α → List (List AVal)} {step : α → Sta → ResS α} {fo : FuncId} {o1 o2 : List AVal} (hp : pid < S0.length) (hps : pid ≠ sid) (hmost : most ≤ 60)
  (hone : ∀ x s S,LI S0 pid sid c0 f k (V x) s S → (V x).length ≤ most → s.l.length ≤ n → ACalls Tryz.prog (B0 w0) fo (o1 ++ o2) S (LR S0 pid sid c0 f k V (step x s)))
  (hstep : ∀ x s x' s',s.l.length ≤ n → step x s = .ok (x',s') → (V x').length = (V x).length + 1 ∧ s'.l.length ≤ s.l.length)
  {x : α} {s : Sta} {S : Heap} (hli : LI S0 pid sid c0 f k (V x) s S) (hx : V x = []) (hl : s.l.length ≤ n) (hm1 : 1 ≤ most) :
  ACalls Tryz.prog (B0 w0) 121 [.ptr pid 0 0,.int most,.clo (.func fo) o1 o2] S (LR S0 pid sid c0 f k V (listF step most x s)) := by
 obtain ⟨r,hr⟩ : ∃ r,listF step most x s = r := ⟨_,rfl⟩
 rw [hr]
 refine fn_sound tryOrd (f121_c _) (by simp [f121]) ?_
 simp [f121,f121m]
 refine mwp_loop (I := EaI S0 pid sid c0 f k V step n most (.clo (.func fo) o1 o2) r) (n := most) ⟨x,s,1,hli,rfl,rfl,rfl,rfl,by omega,by omega,hm1,hl,by rw [hx]; rfl,hr.symm⟩ ?_
 clear hli hx hl hr
 rintro m a S' ⟨x,s,q,hli,b0,b1,b2,b6,hqm,hq1,hm,hl,hV,hr⟩
 obtain ⟨m,rfl⟩ : ∃ m',m = m' + 1 := ⟨m - 1,by omega⟩
 rw [listF] at hr
 simp [f121b0,b0,b1,b2,b6]
 refine (hone x s _ hli (by omega) hl).use ?_
 rintro e S1 h1
 cases hF : step x s with
 | error c =>
   rw [hF] at h1 hr
   obtain ⟨rfl,h1⟩ := h1
   simp
   rw [hr]
   exact ⟨rfl,h1⟩
 | ok y =>
   obtain ⟨x',s'⟩ := y
   obtain ⟨hs1,hs2⟩ := hstep _ _ _ _ hl hF
   rw [hF] at h1 hr
   simp only at hr
   obtain ⟨rfl,h1⟩ := h1
   simp [b0,b1,b2,b6]
   refine (w78 h1.at_).use ?_
   rintro e S2 ⟨rfl,rfl⟩
   by_cases hT : isT 5 [44] s'.l = true
   ·obtain ⟨t,r0,hc⟩ : ∃ t r0,s'.l = t :: r0 := by
     cases hc : s'.l with
     | nil => rw [hc] at hT; cases hT
     | cons t r0 => exact ⟨t,r0,rfl⟩
    have hT2 : t.kind = 5 ∧ t.text = [44] := by
     rw [hc] at hT; simpa [isT] using hT
    rw [if_pos hT] at hr
    by_cases hm0 : m = 0
    ·subst hm0
     have hqe : (q : Int) = (most : Int) := by omega
     rw [if_pos rfl] at hr
     simp [hc,tokC,hT2.1,hT2.2,b0,b1,b2,b6,hqe]
     refine (w27 151 _).use ?_
     rintro e S3 ⟨rfl,rfl⟩
     simp
     rw [hr]
     exact ⟨rfl,h1.k2.more _⟩
    ·have hqe : ((q : Int) == (most : Int)) = false := beq_eq_false_iff_ne.2 (by omega)
     rw [if_neg hm0] at hr
     simp [hc,tokC,hT2.1,hT2.2,b0,b1,b2,b6,hqe]
     refine (w129 ((h1.at_).more _) _).use ?_
     rintro e S3 ⟨hst,rfl,h2⟩
     rw [hT] at h2
     simp only [if_true] at h2
     have h3 := (h1.more _).step hst hp hps (s' := ⟨s'.l.tail,s'.d⟩) h2
     have hw := wrapS q (by omega)
     simp [b0,b1,b2,b6,hw]
     exact ⟨m,by omega,x',⟨s'.l.tail,s'.d⟩,q + 1,h3,by simp [b0],by simp [b1],by simp [b2],by simp,by omega,by omega,by omega,by simp; omega,by omega,hr⟩
   ·have hT : isT 5 [44] s'.l = false := by simpa using hT
    rw [if_neg (by simp [hT])] at hr
    have fin : ∀ g,LR S0 pid sid c0 f k V r (.ret .undef) (S2 ++ g) := fun g => by
     rw [hr]; exact ⟨rfl,h1.more g⟩
    cases hc : s'.l with
    | nil =>
      simp [zTok,tokC,b0,b1,b2,b6]
      exact fin _
    | cons t r0 =>
      rw [hc,isT_cons] at hT
      by_cases h5 : t.kind = 5
      ·have h6 : ¬ t.text = [44] := by simpa [h5] using hT
       simp [tokC,h5,h6,b0,b1,b2,b6]
       exact fin _
      ·have h6 : (t.kind == 5) = false := beq_eq_false_iff_ne.2 h5
       simp [tokC,bne,h6,b0,b1,b2,b6]
       exact fin _
end Go.Abs
namespace Go.Abs
open Go Go.RowKit Go.Proofs Go.Lx Go.Pz
variable {w0 : World}
structure Bx (S0 : Heap) (pid sid bp bs : Nat) : Prop where
 hp : pid < S0.length
 hs : sid < S0.length
 ps : pid ≠ sid
 xp : S0[bp]? = some (.cells 1 [[.ptr pid 0 0]] (some 1))
 xs : S0[bs]? = some (.cells 1 [[.ptr sid 0 0]] (some 1))
 b1 : bp ≠ pid
 b2 : bp ≠ sid
 b3 : bs ≠ pid
 b4 : bs ≠ sid
section
variable {S0 : Heap} {pid sid bp bs : Nat} (hB : Bx S0 pid sid bp bs)
include hB
theorem Bx.gp {S : Heap} (h : Kst pid sid S0 S) : S[bp]? = some (.cells 1 [[.ptr pid 0 0]] (some 1)) := by rw [h.2 bp (lt_of_some hB.xp) hB.b1 hB.b2]; exact hB.xp
theorem Bx.gs {S : Heap} (h : Kst pid sid S0 S) : S[bs]? = some (.cells 1 [[.ptr sid 0 0]] (some 1)) := by rw [h.2 bs (lt_of_some hB.xs) hB.b3 hB.b4]; exact hB.xs
end
theorem LI.app2 {S0 : Heap} {pid sid : Nat} {c0 : List AVal} {f k bytes : Nat} {es : List (List AVal)} {s : Sta} {S : Heap} (hp : pid < S0.length) (hs : sid < S0.length) (hps : pid ≠ sid) (h1 : At S pid s.l 0 s.d) {v : AVal} (h2 : S[sid]? = some (.cells c0.length [c0.set f v] (some 1))) (h3 : Own S0.length S S [(v,k,es)]) (h4 : Kst pid sid S0 S)
  {x : List AVal} (hx : x.length = k) (hk : 0 < k) (hb : bytes ≤ 1000) (hes : es.length ≤ 100) {y : AVal} (hy : srcOf S y = some (true,[x])) :
  ∃ S3,appendR k bytes S v y = .ok true (.row S.length 0 (es.length + 1)) S3 ∧ (∀ j,j < S0.length → S3[j]? = S[j]?) ∧ S3[sid]? = some (.cells c0.length [c0.set f v] (some 1)) ∧ S.length < S3.length ∧
   LI S0 pid sid c0 f k (es ++ [x]) s (S3.set sid (.cells c0.length [c0.set f (.row S.length 0 (es.length + 1))] (some 1))) ∧ (∀ j,j < S.length → (∀ o l,v ≠ .row j o l) → S3[j]? = S[j]?) := by
 have hbb : (es.length + 1) * bytes ≤ 101 * 1000 := Nat.mul_le_mul (by omega) hb
 obtain ⟨S3,a1,a2,a3,a4⟩ := h3.app2 0 rfl (y := y) (ys := [x]) (bytes := bytes) hy (by simpa using hx) hk (by simp; omega) (by simp; omega)
 have hlow : ∀ j,j < S0.length → S3[j]? = S[j]? := fun j hj => a4 j (by have := h4.1; omega) fun o l e => by
  subst e
  have := (h3.idlt (i := 0) rfl).1
  omega
 have hsid := (hlow sid hs).trans h2
 have hS3 : S3.length = (S3.set sid (.cells c0.length [c0.set f (.row S.length 0 (es.length + 1))] (some 1))).length := by simp
 refine ⟨S3,by simpa using a1,hlow,hsid,a3,⟨?_,⟨.row S.length 0 (es.length + 1),List.getElem?_set_self (lt_of_some hsid),?_⟩,?_⟩,a4⟩
 ·obtain ⟨o,ho,hpo⟩ := h1
  exact ⟨o,by rw [List.getElem?_set_ne (Ne.symm hps),hlow pid hp]; exact ho,hpo⟩
 ·have := a2.keep (S' := S3.set sid (.cells c0.length [c0.set f (.row S.length 0 (es.length + 1))] (some 1))) (Nat.le_of_eq hS3) fun j hj _ => List.getElem?_set_ne (by omega)
  simpa using this
 ·refine ⟨by have := h4.1; rw [← hS3]; omega,fun j hj j1 j2 => ?_⟩
  rw [List.getElem?_set_ne (Ne.symm j2),hlow j hj,h4.2 j hj j1 j2]
theorem LI.app {S0 : Heap} {pid sid : Nat} {c0 : List AVal} {f k bytes : Nat} {es : List (List AVal)} {s : Sta} {S : Heap} (hp : pid < S0.length) (hs : sid < S0.length) (hps : pid ≠ sid) (h1 : At S pid s.l 0 s.d) {v : AVal} (h2 : S[sid]? = some (.cells c0.length [c0.set f v] (some 1))) (h3 : Own S0.length S S [(v,k,es)]) (h4 : Kst pid sid S0 S)
  {x : List AVal} (hx : x.length = k) (hk : 0 < k) (hb : bytes ≤ 1000) (hes : es.length ≤ 100) {y : AVal} (hy : srcOf S y = some (true,[x])) :
  ∃ S3,appendR k bytes S v y = .ok true (.row S.length 0 (es.length + 1)) S3 ∧ (∀ j,j < S0.length → S3[j]? = S[j]?) ∧ S3[sid]? = some (.cells c0.length [c0.set f v] (some 1)) ∧ S.length < S3.length ∧
   LI S0 pid sid c0 f k (es ++ [x]) s (S3.set sid (.cells c0.length [c0.set f (.row S.length 0 (es.length + 1))] (some 1))) := by
 obtain ⟨S3,a1,a2,a3,a4,a5,_⟩ := LI.app2 (bytes := bytes) hp hs hps h1 h2 h3 h4 hx hk hb hes hy
 exact ⟨S3,a1,a2,a3,a4,a5⟩
def namesC (ns : List Bs) : List (List AVal) := ns.map fun n => [.str n]
@[simp] theorem namesC_len (ns : List Bs) : (namesC ns).length = ns.length := by simp [namesC]
theorem namesC_snoc (ns : List Bs) (n : Bs) : namesC (ns ++ [n]) = namesC ns ++ [[.str n]] := by simp [namesC]
def pcolC (c : Pz.Col) : List AVal := [.str c.name,.int c.type,.bool c.req]
def pcolsC (cs : List Pz.Col) : List (List AVal) := cs.map pcolC
@[simp] theorem pcolsC_len (ns : List Pz.Col) : (pcolsC ns).length = ns.length := by simp [pcolsC]
theorem pcolsC_snoc (ns : List Pz.Col) (n : Pz.Col) : pcolsC (ns ++ [n]) = pcolsC ns ++ [pcolC n] := by simp [pcolsC]
def itmC (x : Itm) : List AVal := exC x.e ++ [.str x.name]
def itmsC (xs : List Itm) : List (List AVal) := xs.map itmC
@[simp] theorem itmsC_len (ns : List Itm) : (itmsC ns).length = ns.length := by simp [itmsC]
theorem itmsC_snoc (ns : List Itm) (n : Itm) : itmsC (ns ++ [n]) = itmsC ns ++ [itmC n] := by simp [itmsC]
def srcC (x : Src) : List AVal := .str x.table :: .str x.alias :: exC x.on
def srcsC (xs : List Src) : List (List AVal) := xs.map srcC
@[simp] theorem srcsC_len (ns : List Src) : (srcsC ns).length = ns.length := by simp [srcsC]
theorem srcsC_snoc (ns : List Src) (n : Src) : srcsC (ns ++ [n]) = srcsC ns ++ [srcC n] := by simp [srcsC]
def srtC (x : Srt) : List AVal := exC x.e ++ [.bool x.desc]
def srtsC (xs : List Srt) : List (List AVal) := xs.map srtC
@[simp] theorem srtsC_len (ns : List Srt) : (srtsC ns).length = ns.length := by simp [srtsC]
theorem srtsC_snoc (ns : List Srt) (n : Srt) : srtsC (ns ++ [n]) = srtsC ns ++ [srtC n] := by simp [srtsC]
def asnC (x : Asn) : List AVal := .str x.col :: exC x.e
def asnsC (xs : List Asn) : List (List AVal) := xs.map asnC
@[simp] theorem asnsC_len (ns : List Asn) : (asnsC ns).length = ns.length := by simp [asnsC]
theorem asnsC_snoc (ns : List Asn) (n : Asn) : asnsC (ns ++ [n]) = asnsC ns ++ [asnC n] := by simp [asnsC]
section
variable {S0 : Heap} {pid sid bp bs : Nat} (hB : Bx S0 pid sid bp bs) {c0 : List AVal} (hc0 : c0.length = 18) {s : Sta} {S : Heap}
include hB hc0
set_option maxHeartbeats 1000000 in
theorem w124 {ns : List Bs} (hli : LI S0 pid sid c0 4 1 (namesC ns) s S) (hlen : ns.length ≤ 60) :
  ACalls Tryz.prog (B0 w0) 124 [.ptr bs 0 0,.ptr bp 0 0] S (LR S0 pid sid c0 4 1 namesC (bindS (nameS resv s) fun c s => .ok (ns ++ [c],s))) := by
 obtain ⟨h1,⟨v,h2,h3⟩,h4⟩ := hli
 have g1 := hB.gp h4
 have g2 := hB.gs h4
 refine fn_sound tryOrd (f124_c _) (by simp [f124]) ?_
 simp [f124,f124m,g1,g2,h2,hc0]
 refine (w82 h1).use ?_
 rintro e S1 ⟨hst,h5⟩
 have k1 := h4.trans (hst.k2 (sid := sid))
 have g3 := hB.gp k1
 have g4 := hB.gs k1
 have h6 := (hst.2 sid (Ne.symm hB.ps)).trans h2
 rw [nameS]
 cases hN : nameR resv s.l with
 | error c =>
   rw [hN] at h5
   obtain ⟨rfl,_⟩ := h5
   simp
   exact ⟨rfl,k1⟩
 | ok y =>
   obtain ⟨n,l'⟩ := y
   rw [hN] at h5
   obtain ⟨rfl,h7⟩ := h5
   obtain ⟨S3,a1,a2,a3,a4,a5⟩ := LI.app (bytes := 16) (s := ⟨l',s.d⟩) hB.hp hB.hs hB.ps h7 h6 (h3.step hst hB.hp) k1 (x := [.str n]) rfl (by decide) (by decide) (by simp; omega) (y := .list .full [[.str n]]) rfl
   rw [hc0] at a3 a5
   have g5 := (a2 bs (lt_of_some hB.xs)).trans g4
   rw [namesC_len] at a1 a5
   simp [-appendR,g4,h6,hc0,a1,g5,a3]
   exact ⟨rfl,by rw [namesC_snoc]; exact a5⟩
set_option maxHeartbeats 1000000 in
theorem w130 {N : Nat} {xs : List Itm} (hli : LI S0 pid sid c0 7 8 (itmsC xs) s S) (hlen : xs.length ≤ 60) (hl : s.l.length < N) (hN : N ≤ 1000000) :
  ACalls Tryz.prog (B0 w0) 130 [.ptr bp 0 0,.ptr bs 0 0] S (LR S0 pid sid c0 7 8 itmsC (itemS resv N xs s)) := by
 obtain ⟨r,hr⟩ : ∃ r,itemS resv N xs s = r := ⟨_,rfl⟩
 rw [hr]
 rw [itemS] at hr
 obtain ⟨h1,⟨v,h2,h3⟩,h4⟩ := hli
 have g1 := hB.gp h4
 refine fn_sound tryOrd (f130_c _) (by simp [f130]) ?_
 simp [f130,f130m,g1]
 refine (w128 h1 hl hN).use ?_
 rintro e S1 ⟨hst,h5⟩
 have k1 := h4.trans (hst.k2 (sid := sid))
 have g3 := hB.gp k1
 have g4 := hB.gs k1
 have h6 := (hst.2 sid (Ne.symm hB.ps)).trans h2
 cases hF : whole resv N s with
 | error c =>
   rw [hF] at h5 hr
   obtain ⟨rfl,_⟩ := h5
   simp
   subst hr
   exact ⟨rfl,k1⟩
 | ok y =>
   obtain ⟨x,s1⟩ := y
   rw [hF,bindS_ok] at hr
   rw [hF] at h5
   obtain ⟨rfl,h7⟩ := h5
   have ho1 := h3.step hst hB.hp
   obtain ⟨op,vv,kind,num,scale,text,qual,hx,o1,o2⟩ := exC_shape x
   have hgp := hmoreG (lt_of_some g3)
   simp [hx,o1,hgp,g3,putAt,splice]
   refine (w81 (h7.more _) _).use ?_
   rintro e S2 ⟨hsq,rfl,h8⟩
   obtain ⟨T2,rfl,hst2⟩ := hsq.split h7.lt
   have k2 := k1.trans (hst2.k2 (sid := sid))
   have g5 := hB.gp k2
   have g6 := hB.gs k2
   have h9 := (hst2.2 sid (Ne.symm hB.ps)).trans h6
   have h8 := h8.less (hst2.1 ▸ h7.lt)
   have e2 := hst2.1
   have ho2 := ho1.step hst2 hB.hp
   have hgp2 := hmoreG (lt_of_some g5)
   have hgs2 := hmoreG (lt_of_some g6)
   have hgi2 := hmoreG (lt_of_some h9)
   rw [aliasS] at hr
   by_cases hT : isT 1 [97,115] s1.l = true
   ·rw [if_pos hT,nameS] at hr
    rw [hT] at h8
    simp only [if_true] at h8
    simp only at hr
    simp [hT,hgp2,g5,e2]
    refine (w82 (h8.more _)).use ?_
    rintro e S3 ⟨hsq3,h10⟩
    obtain ⟨T3,rfl,hst3⟩ := hsq3.split h8.lt
    have k3 := k2.trans (hst3.k2 (sid := sid))
    have g7 := hB.gs k3
    have h11 := (hst3.2 sid (Ne.symm hB.ps)).trans h9
    have e3 := hst3.1
    have ho3 := ho2.step hst3 hB.hp
    have hgs3 := hmoreG (lt_of_some g7)
    have hgi3 := hmoreG (lt_of_some h11)
    cases hN : nameR resv s1.l.tail with
    | error c =>
      rw [hN] at h10 hr
      obtain ⟨rfl,_⟩ := h10
      simp
      subst hr
      exact ⟨rfl,k3.more _⟩
    | ok y2 =>
      obtain ⟨n,l2⟩ := y2
      rw [hN] at h10 hr
      simp only [bindS_ok] at hr
      obtain ⟨rfl,h12⟩ := h10
      have h12 := h12.less (hst3.1 ▸ h8.lt)
      obtain ⟨g,hg⟩ : ∃ g,g = [AObj.cells 8 [[.int op,vv,.int kind,.int num,.int scale,.str text,.str qual,.str n]] (some 1)] := ⟨_,rfl⟩
      obtain ⟨S4,a1,a2,a3,a4,a5⟩ := LI.app (S := T3 ++ g) (bytes := 104) (s := ⟨l2,s1.d⟩) hB.hp hB.hs hB.ps (h12.more _) (by rw [hgi3]; exact h11) (ho3.more' _) (k3.more _) (x := itmC ⟨x,n⟩) (by simp [itmC]) (by decide) (by decide) (by simp; omega) (y := .list .full [itmC ⟨x,n⟩]) rfl
      rw [hc0] at a3 a5
      have g8 := (a2 bs (lt_of_some hB.xs)).trans ((hgs3 g).trans g7)
      rw [itmsC_len] at a1 a5
      simp only [itmC,hx,List.cons_append,List.nil_append] at a1
      subst hg
      simp [-appendR,o1,e3,hgs3,g7,hgi3,h11,hc0,a1,g8,a3]
      subst hr
      exact ⟨rfl,by rw [itmsC_snoc]; simpa using a5⟩
   ·have hT : isT 1 [97,115] s1.l = false := by simpa using hT
    rw [if_neg (by simp [hT]),bindS_ok] at hr
    rw [hT] at h8
    simp only [Bool.false_eq_true,if_false] at h8
    obtain ⟨g,hg⟩ : ∃ g,g = [AObj.cells 8 [[.int op,vv,.int kind,.int num,.int scale,.str text,.str qual,.str []]] (some 1)] := ⟨_,rfl⟩
    obtain ⟨S4,a1,a2,a3,a4,a5⟩ := LI.app (S := T2 ++ g) (bytes := 104) (s := s1) hB.hp hB.hs hB.ps (h8.more _) (by rw [hgi2]; exact h9) (ho2.more' _) (k2.more _) (x := itmC ⟨x,[]⟩) (by simp [itmC]) (by decide) (by decide) (by simp; omega) (y := .list .full [itmC ⟨x,[]⟩]) rfl
    rw [hc0] at a3 a5
    have g8 := (a2 bs (lt_of_some hB.xs)).trans ((hgs2 g).trans g6)
    rw [itmsC_len] at a1 a5
    simp only [itmC,hx,List.cons_append,List.nil_append] at a1
    subst hg
    simp [-appendR,o1,hT,e2,hgs2,g6,hgi2,h9,hc0,a1,g8,a3]
    subst hr
    exact ⟨rfl,by rw [itmsC_snoc]; simpa using a5⟩
end
end Go.Abs
namespace Go.Abs
open Go Go.RowKit Go.Proofs Go.Lx Go.Pz
variable {w0 : World}
section
variable {S0 : Heap} {pid sid bp bs : Nat} (hB : Bx S0 pid sid bp bs) {c0 : List AVal} (hc0 : c0.length = 18) {s : Sta} {S : Heap}
include hB hc0
set_option maxHeartbeats 1000000 in
theorem w133 {N : Nat} {xs : List Asn} (hli : LI S0 pid sid c0 17 8 (asnsC xs) s S) (hlen : xs.length ≤ 60) (hl : s.l.length < N) (hN : N ≤ 1000000) :
  ACalls Tryz.prog (B0 w0) 133 [.ptr bp 0 0,.ptr bs 0 0] S (LR S0 pid sid c0 17 8 asnsC (setS resv N xs s)) := by
 obtain ⟨r,hr⟩ : ∃ r,setS resv N xs s = r := ⟨_,rfl⟩
 rw [hr]
 rw [setS,nameS] at hr
 obtain ⟨h1,⟨v,h2,h3⟩,h4⟩ := hli
 have g1 := hB.gp h4
 refine fn_sound tryOrd (f133_c _) (by simp [f133]) ?_
 simp [f133,f133m,g1]
 refine (w82 h1).use ?_
 rintro e S1 ⟨hst,h5⟩
 have k1 := h4.trans (hst.k2 (sid := sid))
 have g3 := hB.gp k1
 have h6 := (hst.2 sid (Ne.symm hB.ps)).trans h2
 have ho1 := h3.step hst hB.hp
 cases hN1 : nameR resv s.l with
 | error c =>
   rw [hN1] at h5 hr
   obtain ⟨rfl,_⟩ := h5
   simp
   subst hr
   exact ⟨rfl,k1⟩
 | ok y =>
   obtain ⟨n,l1⟩ := y
   have hl1 := nameR_len hN1
   rw [hN1] at h5 hr
   simp only [bindS_ok] at hr
   obtain ⟨rfl,h7⟩ := h5
   simp [g3]
   refine (w120 h7 _).use ?_
   rintro e S2 ⟨hst2,h8⟩
   have k2 := k1.trans (hst2.k2 (sid := sid))
   have g5 := hB.gp k2
   have g6 := hB.gs k2
   have h9 := (hst2.2 sid (Ne.symm hB.ps)).trans h6
   have ho2 := ho1.step hst2 hB.hp
   rw [needS] at hr
   by_cases hT : isT 5 [61] l1 = true
   ·rw [need_ok hT] at h8
    rw [if_pos hT,thenS_ok] at hr
    have hlt := isT_len hT
    obtain ⟨rfl,h8⟩ := h8
    simp [g5,g6,h9,hc0]
    refine (w128 (s := ⟨l1.tail,s.d⟩) h8 (by simp only; omega) hN).use ?_
    rintro e S3 ⟨hst3,h10⟩
    have k3 := k2.trans (hst3.k2 (sid := sid))
    have g7 := hB.gs k3
    have h11 := (hst3.2 sid (Ne.symm hB.ps)).trans h9
    have ho3 := ho2.step hst3 hB.hp
    cases hF : whole resv N ⟨l1.tail,s.d⟩ with
    | error c =>
      rw [hF] at h10 hr
      obtain ⟨rfl,_⟩ := h10
      simp
      subst hr
      exact ⟨rfl,k3⟩
    | ok y2 =>
      obtain ⟨x,s2⟩ := y2
      rw [hF] at h10 hr
      rw [bindS_ok] at hr
      obtain ⟨rfl,h12⟩ := h10
      obtain ⟨op,vv,kind,num,scale,text,qual,hx,o1,o2⟩ := exC_shape x
      obtain ⟨S4,a1,a2,a3,a4,a5⟩ := LI.app (bytes := 104) (s := s2) hB.hp hB.hs hB.ps h12 h11 ho3 k3 (x := asnC ⟨n,x⟩) (by simp [asnC]) (by decide) (by decide) (by simp; omega) (y := .list .full [asnC ⟨n,x⟩]) rfl
      rw [hc0] at a3 a5
      have g8 := (a2 bs (lt_of_some hB.xs)).trans g7
      rw [asnsC_len] at a1 a5
      simp only [asnC,hx] at a1
      simp [-appendR,hx,o1,putAt,splice,g7,h11,hc0,a1,g8,a3]
      subst hr
      exact ⟨rfl,by rw [asnsC_snoc]; exact a5⟩
   ·have hT : isT 5 [61] l1 = false := by simpa using hT
    rw [need_er hT] at h8
    rw [if_neg (by simp [hT]),thenS_error] at hr
    obtain ⟨rfl,_⟩ := h8
    simp
    subst hr
    exact ⟨rfl,k2⟩
set_option maxHeartbeats 1000000 in
theorem w132 {N : Nat} {xs : List Srt} (hli : LI S0 pid sid c0 16 8 (srtsC xs) s S) (hlen : xs.length ≤ 60) (hl : s.l.length < N) (hN : N ≤ 1000000) :
  ACalls Tryz.prog (B0 w0) 132 [.ptr bs 0 0,.ptr bp 0 0] S (LR S0 pid sid c0 16 8 srtsC (sortS resv N xs s)) := by
 obtain ⟨r,hr⟩ : ∃ r,sortS resv N xs s = r := ⟨_,rfl⟩
 rw [hr]
 rw [sortS] at hr
 obtain ⟨h1,⟨v,h2,h3⟩,h4⟩ := hli
 have g1 := hB.gp h4
 have g2 := hB.gs h4
 refine fn_sound tryOrd (f132_c _) (by simp [f132]) ?_
 simp [f132,f132m,g1,g2,h2,hc0]
 refine (w128 h1 hl hN).use ?_
 rintro e S1 ⟨hst,h5⟩
 have k1 := h4.trans (hst.k2 (sid := sid))
 have g3 := hB.gp k1
 have g4 := hB.gs k1
 have h6 := (hst.2 sid (Ne.symm hB.ps)).trans h2
 have ho1 := h3.step hst hB.hp
 cases hF : whole resv N s with
 | error c =>
   rw [hF] at h5 hr
   obtain ⟨rfl,_⟩ := h5
   simp
   subst hr
   exact ⟨rfl,k1⟩
 | ok y =>
   obtain ⟨x,s1⟩ := y
   rw [hF] at h5 hr
   rw [bindS_ok] at hr
   obtain ⟨rfl,h7⟩ := h5
   obtain ⟨op,vv,kind,num,scale,text,qual,hx,o1,o2⟩ := exC_shape x
   simp [g3,g4,h6,hc0]
   refine (w81 h7 _).use ?_
   rintro e S2 ⟨hst2,rfl,h8⟩
   have k2 := k1.trans (hst2.k2 (sid := sid))
   have g5 := hB.gp k2
   have g6 := hB.gs k2
   have h9 := (hst2.2 sid (Ne.symm hB.ps)).trans h6
   have ho2 := ho1.step hst2 hB.hp
   obtain ⟨S4,a1,a2,a3,a4,a5⟩ := LI.app (bytes := 96) (s := if isT 1 [100,101,115,99] s1.l then ⟨s1.l.tail,s1.d⟩ else s1) hB.hp hB.hs hB.ps (by split at h8 <;> simp_all) h9 ho2 k2 (x := srtC ⟨x,isT 1 [100,101,115,99] s1.l⟩) (by simp [srtC]) (by decide) (by decide) (by simp; omega) (y := .list .full [srtC ⟨x,isT 1 [100,101,115,99] s1.l⟩]) rfl
   rw [hc0] at a3 a5
   have g8 := (a2 bs (lt_of_some hB.xs)).trans g6
   rw [srtsC_len] at a1 a5
   simp only [srtC,hx,List.cons_append,List.nil_append] at a1
   simp [-appendR,hx,o1,putAt,splice,g6,h9,hc0,a1,g8,a3]
   subst hr
   exact ⟨rfl,by rw [srtsC_snoc]; exact a5⟩
end
set_option maxHeartbeats 1000000 in
theorem w131 {S : Heap} {pid : Nat} {s : Sta} (ha : At S pid s.l 0 s.d) : ACalls Tryz.prog (B0 w0) 131 [.ptr pid 0 0] S (StR (fun x => .agg (srcC x)) S pid (sourceS resv s)) := by
 obtain ⟨r,hr⟩ : ∃ r,sourceS resv s = r := ⟨_,rfl⟩
 rw [hr]
 rw [sourceS,nameS] at hr
 refine ACalls.fin (pid := pid) ?_
 refine fn_sound tryOrd (f131_c _) (by simp [f131]) ?_
 simp [f131,f131m]
 refine (w82 (ha.more _)).use ?_
 rintro e S1 ⟨hsq1,h1⟩
 obtain ⟨T1,rfl,hst1⟩ := hsq1.split ha.lt
 have e1 := hst1.1
 cases hN : nameR resv s.l with
 | error c =>
   rw [hN] at h1 hr
   obtain ⟨rfl,l',k',d',h1⟩ := h1
   simp
   subst hr
   exact StR.err hst1 (h1.less (hst1.1 ▸ ha.lt))
 | ok y =>
   obtain ⟨n,l1⟩ := y
   rw [hN] at h1 hr
   simp only [bindS_ok] at hr
   obtain ⟨rfl,h1⟩ := h1
   have h1 := h1.less (hst1.1 ▸ ha.lt)
   simp [e1]
   refine (w81 (h1.more _) _).use ?_
   rintro e S2 ⟨hsq2,rfl,h2⟩
   obtain ⟨T2,rfl,hst2⟩ := hsq2.split h1.lt
   have e2 := hst2.1
   have hst02 := hst1.trans hst2
   have h2 := h2.less (hst2.1 ▸ h1.lt)
   rw [aliasS] at hr
   by_cases hT : isT 1 [97,115] l1 = true
   ·rw [if_pos hT,nameS] at hr
    rw [hT] at h2
    simp only [if_true] at h2
    simp [hT,e2]
    refine (w82 (h2.more _)).use ?_
    rintro e S3 ⟨hsq3,h3⟩
    obtain ⟨T3,rfl,hst3⟩ := hsq3.split h2.lt
    have e3 := hst3.1
    have hst03 := hst02.trans hst3
    simp only at hr
    cases hN2 : nameR resv l1.tail with
    | error c =>
      rw [hN2] at h3 hr
      obtain ⟨rfl,l',k',d',h3⟩ := h3
      simp
      subst hr
      exact StR.err hst03 (h3.less (hst3.1 ▸ h2.lt))
    | ok y2 =>
      obtain ⟨n2,l2⟩ := y2
      rw [hN2] at h3 hr
      simp only [bindS_ok] at hr
      obtain ⟨rfl,h3⟩ := h3
      have h3 := h3.less (hst3.1 ▸ h2.lt)
      have hb : srcC ⟨n,n2,.zero⟩ = [.str n,.str n2,.int 0,.nilS,.int 0,.int 0,.int 0,.str [],.str []] := by rw [srcC,Ex.zero,exC_eq,exsV_nil]
      simp [e3]
      rw [← hb]
      subst hr
      exact StR.ok (V := fun x => AVal.agg (srcC x)) (s := ⟨l2,s.d⟩) hst03 h3 (by simp [srcC,scL,AVal.sc])
   ·have hT : isT 1 [97,115] l1 = false := by simpa using hT
    rw [if_neg (by simp [hT]),bindS_ok] at hr
    rw [hT] at h2
    simp only [Bool.false_eq_true,if_false] at h2
    have hb : srcC ⟨n,[],.zero⟩ = [.str n,.str [],.int 0,.nilS,.int 0,.int 0,.int 0,.str [],.str []] := by rw [srcC,Ex.zero,exC_eq,exsV_nil]
    simp [hT,e2]
    rw [← hb]
    subst hr
    exact StR.ok (V := fun x => AVal.agg (srcC x)) (s := ⟨l1,s.d⟩) hst02 h2 (by simp [srcC,scL,AVal.sc])
end Go.Abs
namespace Go.Abs
open Go Go.RowKit Go.Proofs Go.Lx Go.Pz
variable {w0 : World}
abbrev ColR := StR fun c : Pz.Col => AVal.agg (pcolC c)
set_option maxHeartbeats 2000000 in
theorem w123 {S : Heap} {pid : Nat} {s : Sta} (ha : At S pid s.l 0 s.d) : ACalls Tryz.prog (B0 w0) 123 [.ptr pid 0 0] S (ColR S pid (columnS resv s)) := by
 obtain ⟨r,hr⟩ : ∃ r,columnS resv s = r := ⟨_,rfl⟩
 rw [hr]
 rw [columnS,nameS] at hr
 refine ACalls.fin (pid := pid) ?_
 refine fn_sound tryOrd (f123_c _) (by simp [f123]) ?_
 simp [f123,f123m]
 refine (w82 (ha.more _)).use ?_
 rintro e S1 ⟨hsq1,h1⟩
 obtain ⟨T1,rfl,hst1⟩ := hsq1.split ha.lt
 have e1 := hst1.1
 cases hN : nameR resv s.l with
 | error c =>
   rw [hN] at h1 hr
   obtain ⟨rfl,l',k',d',h1⟩ := h1
   simp
   subst hr
   exact StR.err hst1 (h1.less (hst1.1 ▸ ha.lt))
 | ok y =>
   obtain ⟨n,l1⟩ := y
   rw [hN] at h1 hr
   simp only [bindS_ok] at hr
   obtain ⟨rfl,h1⟩ := h1
   have h1 := h1.less (hst1.1 ▸ ha.lt)
   -- what comes behind the type
   have tail : ∀ (T : Heap) (a : Tmps) (ty : Int) (l2 : List Tok),Step pid S T → At T pid l2 0 s.d → get a 0 = .ptr pid 0 0 → get a 2 = .ptr T.length 0 0 →
     bindS (.ok (ty,(⟨l2,s.d⟩ : Sta))) (fun t s => if isT 1 [110,111,116] s.l then thenS (needS 1 [110,117,108,108] ⟨s.l.tail,s.d⟩) fun s => .ok ((⟨n,t,true⟩ : Pz.Col),s) else .ok (⟨n,t,false⟩,s)) = r →
     mwp (ACalls Tryz.prog (B0 w0)) (.seq (.seq (.ops [⟨some 22,none,.op (.mv 0)⟩,⟨some 23,none,.call 81 [22,(.val (.str [110,111,116]))]⟩])
      (.cond 23 (.seq (.ops [⟨some 24,none,.op (.mv 0)⟩,⟨some 25,none,.op (.bslice false 1 1 [.str []] [(0,(.val (.str [110,117,108,108])))])⟩,⟨some 26,none,.call 79 [24,25]⟩]) (.ops [⟨some 27,none,.op (.faddr 2 2)⟩,⟨none,none,.op (.store false 1 27 (.val (.bool true)))⟩])) (.skip)))
      (.seq (.ops [⟨some 28,none,.op (.load true 3 2)⟩,⟨none,none,.op (.store true 3 2 28)⟩]) (.ret))) (resPost [.cell 2 true 3] (Fin S pid (ColR S pid r))) a (T ++ [.cells 3 [[.str n,.int ty,.bool false]] (some 1)]) := fun T a ty l2 hst h2 b0 b2 hr => by
    rw [bindS_ok] at hr
    simp [b0,b2]
    refine (w81 (h2.more _) _).use ?_
    rintro e S2 ⟨hsq2,rfl,h3⟩
    obtain ⟨T2,rfl,hst2⟩ := hsq2.split h2.lt
    have e2 := hst2.1
    have hst02 := hst.trans hst2
    have h3 := h3.less (hst2.1 ▸ h2.lt)
    by_cases hT : isT 1 [110,111,116] l2 = true
    ·rw [if_pos hT,needS] at hr
     rw [hT] at h3
     simp only [if_true] at h3
     simp [hT,b0,b2,e2]
     refine (w79 (h3.more _) _).use ?_
     rintro e S3 ⟨hsq3,h4⟩
     obtain ⟨T3,rfl,hst3⟩ := hsq3.split h3.lt
     have e3 := hst3.1
     have hst03 := hst02.trans hst3
     by_cases hU : isT 1 [110,117,108,108] l2.tail = true
     ·rw [need_ok hU] at h4
      rw [if_pos hU,thenS_ok] at hr
      obtain ⟨rfl,h4⟩ := h4
      simp [b0,b2,e2,e3]
      subst hr
      exact StR.ok (V := fun x => AVal.agg (pcolC x)) (x := ⟨n,ty,true⟩) (s := ⟨l2.tail.tail,s.d⟩) hst03 (h4.less (hst3.1 ▸ h3.lt)) (by simp [pcolC,scL,AVal.sc])
     ·have hU : isT 1 [110,117,108,108] l2.tail = false := by simpa using hU
      rw [need_er hU] at h4
      rw [if_neg (by simp [hU]),thenS_error] at hr
      obtain ⟨rfl,l',k',d',h4⟩ := h4
      simp
      subst hr
      exact StR.err hst03 (h4.less (hst3.1 ▸ h3.lt))
    ·have hT : isT 1 [110,111,116] l2 = false := by simpa using hT
     rw [if_neg (by simp [hT])] at hr
     rw [hT] at h3
     simp only [Bool.false_eq_true,if_false] at h3
     simp [hT,b0,b2,e2]
     subst hr
     exact StR.ok (V := fun x => AVal.agg (pcolC x)) (x := ⟨n,ty,false⟩) (s := ⟨l2,s.d⟩) hst02 h3 (by simp [pcolC,scL,AVal.sc])
   rw [typeS] at hr
   simp only at hr
   simp [e1]
   refine (w81 (h1.more _) _).use ?_
   rintro e S2 ⟨hsq2,rfl,h2⟩
   obtain ⟨T2,rfl,hst2⟩ := hsq2.split h1.lt
   have e2 := hst2.1
   have hst02 := hst1.trans hst2
   have h2 := h2.less (hst2.1 ▸ h1.lt)
   by_cases hT1 : isT 1 [105,110,116] l1 = true
   ·rw [if_pos hT1] at hr
    rw [hT1] at h2
    simp only [if_true] at h2
    simp [hT1,e2,-mwp_seq]
    exact tail T2 _ 2 l1.tail hst02 h2 (by simp) (by simp [e2]) hr
   have hT1 : isT 1 [105,110,116] l1 = false := by simpa using hT1
   rw [if_neg (by simp [hT1])] at hr
   rw [hT1] at h2
   simp only [Bool.false_eq_true,if_false] at h2
   simp [hT1,e2]
   refine (w81 (h2.more _) _).use ?_
   rintro e S3 ⟨hsq3,rfl,h3⟩
   obtain ⟨T3,rfl,hst3⟩ := hsq3.split h2.lt
   have e3 := hst3.1
   have hst03 := hst02.trans hst3
   have h3 := h3.less (hst3.1 ▸ h2.lt)
   by_cases hT2 : isT 1 [114,101,97,108] l1 = true
   ·rw [if_pos hT2] at hr
    rw [hT2] at h3
    simp only [if_true] at h3
    simp [hT2,e3,-mwp_seq]
    exact tail T3 _ 3 l1.tail hst03 h3 (by simp) (by simp [e3]) hr
   have hT2 : isT 1 [114,101,97,108] l1 = false := by simpa using hT2
   rw [if_neg (by simp [hT2])] at hr
   rw [hT2] at h3
   simp only [Bool.false_eq_true,if_false] at h3
   simp [hT2,e3]
   refine (w81 (h3.more _) _).use ?_
   rintro e S4 ⟨hsq4,rfl,h4⟩
   obtain ⟨T4,rfl,hst4⟩ := hsq4.split h3.lt
   have e4 := hst4.1
   have hst04 := hst03.trans hst4
   have h4 := h4.less (hst4.1 ▸ h3.lt)
   by_cases hT3 : isT 1 [98,111,111,108] l1 = true
   ·rw [if_pos hT3] at hr
    rw [hT3] at h4
    simp only [if_true] at h4
    simp [hT3,e4,-mwp_seq]
    exact tail T4 _ 1 l1.tail hst04 h4 (by simp) (by simp [e4]) hr
   have hT3 : isT 1 [98,111,111,108] l1 = false := by simpa using hT3
   rw [if_neg (by simp [hT3])] at hr
   rw [hT3] at h4
   simp only [Bool.false_eq_true,if_false] at h4
   simp [hT3,e4]
   refine (w79 (h4.more _) _).use ?_
   rintro e S5 ⟨hsq5,h5⟩
   obtain ⟨T5,rfl,hst5⟩ := hsq5.split h4.lt
   have e5 := hst5.1
   have hst05 := hst04.trans hst5
   by_cases hT4 : isT 1 [116,101,120,116] l1 = true
   ·rw [if_pos hT4] at hr
    rw [need_ok hT4] at h5
    obtain ⟨rfl,h5⟩ := h5
    simp [e5,-mwp_seq]
    exact tail T5 _ 4 l1.tail hst05 (h5.less (hst5.1 ▸ h4.lt)) (by simp) (by simp [e5]) hr
   ·have hT4 : isT 1 [116,101,120,116] l1 = false := by simpa using hT4
    rw [if_neg (by simp [hT4])] at hr
    rw [need_er hT4] at h5
    obtain ⟨rfl,l',k',d',h5⟩ := h5
    simp
    subst hr
    exact StR.err hst05 (h5.less (hst5.1 ▸ h4.lt))
def WhR (S : Heap) (pid sid : Nat) (c0 : List AVal) (r : ResS Ex) (e : AEnd) (S' : Heap) : Prop :=
 S.length = S'.length ∧ (∀ j,j ≠ pid → j ≠ sid → S'[j]? = S[j]?) ∧ match r with
  | .ok (x,s) => e = .ret .undef ∧ At S' pid s.l 0 s.d ∧ S'[sid]? = some (.cells 18 [c0.take 9 ++ exC x ++ c0.drop 16] (some 1))
  | .error c => e = .panic (trb c)
set_option maxHeartbeats 1000000 in
theorem w86 {S : Heap} {pid sid N : Nat} {s : Sta} {c0 : List AVal} (hc0 : c0.length = 18) (hz : c0.take 9 ++ exC .zero ++ c0.drop 16 = c0) (hps : pid ≠ sid) (ha : At S pid s.l 0 s.d) (hs : S[sid]? = some (.cells 18 [c0] (some 1))) (hl : s.l.length ≤ N) (hN : N ≤ 1000000) :
  ACalls Tryz.prog (B0 w0) 86 [.ptr pid 0 0,.ptr sid 0 0] S (WhR S pid sid c0 (whereS resv N s)) := by
 obtain ⟨r,hr⟩ : ∃ r,whereS resv N s = r := ⟨_,rfl⟩
 rw [hr]
 rw [whereS] at hr
 refine fn_sound tryOrd (f86_c _) (by simp [f86]) ?_
 simp [f86,f86m]
 refine (w81 ha _).use ?_
 rintro e S1 ⟨hst1,rfl,h1⟩
 have g1 := (hst1.2 sid (Ne.symm hps)).trans hs
 by_cases hT : isT 1 [119,104,101,114,101] s.l = true
 ·rw [if_pos hT] at hr
  rw [hT] at h1
  simp only [if_true] at h1
  have hlt := isT_len hT
  simp [hT]
  refine (w128 (N := N) (s := ⟨s.l.tail,s.d⟩) h1 (by simp only; omega) hN).use ?_
  rintro e S2 ⟨hst2,h2⟩
  have g2 := (hst2.2 sid (Ne.symm hps)).trans g1
  have hst02 := hst1.trans hst2
  cases hF : whole resv N ⟨s.l.tail,s.d⟩ with
  | error c =>
    rw [hF] at h2 hr
    obtain ⟨rfl,_⟩ := h2
    simp
    subst hr
    exact ⟨hst02.1,fun j h _ => hst02.2 j h,rfl⟩
  | ok y =>
    obtain ⟨x,s2⟩ := y
    rw [hF] at h2 hr
    obtain ⟨rfl,h2⟩ := h2
    obtain ⟨op,vv,kind,num,scale,text,qual,hx,o1,o2⟩ := exC_shape x
    simp [hx,o1,putAt,splice,g2]
    subst hr
    refine ⟨by simp [hst02.1],fun j h h' => by rw [List.getElem?_set_ne (Ne.symm h')]; exact hst02.2 j h,rfl,?_,?_⟩
    ·obtain ⟨o,ho,hpo⟩ := h2
     exact ⟨o,by rw [List.getElem?_set_ne (Ne.symm hps)]; exact ho,hpo⟩
    ·rw [List.getElem?_set_self (lt_of_some g2),hx]; simp
 ·have hT : isT 1 [119,104,101,114,101] s.l = false := by simpa using hT
  rw [if_neg (by simp [hT])] at hr
  rw [hT] at h1
  simp only [Bool.false_eq_true,if_false] at h1
  simp [hT]
  subst hr
  exact ⟨hst1.1,fun j h _ => hst1.2 j h,rfl,h1,by rw [hz]; exact g1⟩
section
variable {S0 : Heap} {pid sid bp bs : Nat} (hB : Bx S0 pid sid bp bs) {c0 : List AVal} (hc0 : c0.length = 18) {s : Sta} {S : Heap}
include hB hc0
set_option maxHeartbeats 1000000 in
theorem w122 {ns : List Pz.Col} (hli : LI S0 pid sid c0 3 3 (pcolsC ns) s S) (hlen : ns.length ≤ 60) :
  ACalls Tryz.prog (B0 w0) 122 [.ptr bs 0 0,.ptr bp 0 0] S (LR S0 pid sid c0 3 3 pcolsC (bindS (columnS resv s) fun c s => .ok (ns ++ [c],s))) := by
 obtain ⟨h1,⟨v,h2,h3⟩,h4⟩ := hli
 have g1 := hB.gp h4
 have g2 := hB.gs h4
 refine fn_sound tryOrd (f122_c _) (by simp [f122]) ?_
 simp [f122,f122m,g1,g2,h2,hc0]
 refine (w123 h1).use ?_
 rintro e S1 ⟨hst,h5⟩
 have k1 := h4.trans (hst.k2 (sid := sid))
 have g3 := hB.gp k1
 have g4 := hB.gs k1
 have h6 := (hst.2 sid (Ne.symm hB.ps)).trans h2
 cases hN : columnS resv s with
 | error c =>
   rw [hN] at h5
   obtain ⟨rfl,_⟩ := h5
   simp
   exact ⟨rfl,k1⟩
 | ok y =>
   obtain ⟨n,s'⟩ := y
   rw [hN] at h5
   obtain ⟨rfl,h7⟩ := h5
   obtain ⟨S3,a1,a2,a3,a4,a5⟩ := LI.app (bytes := 32) (s := s') hB.hp hB.hs hB.ps h7 h6 (h3.step hst hB.hp) k1 (x := pcolC n) rfl (by decide) (by decide) (by simp; omega) (y := .list .full [pcolC n]) rfl
   rw [hc0] at a3 a5
   have g5 := (a2 bs (lt_of_some hB.xs)).trans g4
   rw [pcolsC_len] at a1 a5
   simp only [pcolC] at a1
   simp [-appendR,pcolC,g4,h6,hc0,a1,g5,a3]
   exact ⟨rfl,by rw [pcolsC_snoc]; exact a5⟩
end
end Go.Abs
