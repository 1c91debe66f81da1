/- Walks of the seat's functions, and their plain laws. Conditions: none but the lengths and the tables; definitions and lemmas. -/
import Derived.Test.YtdnpmnnidjeifaaGreatDoorA34
import Derived.Shelf.Strings.OnBuilder
import Derived.Shelf.Strings.Search1
import Derived.Shelf.Strings.Search3
import Derived.Shelf.Strings.Replace
import Derived.Shelf.Small.Strs
import Derived.Shelf.Small.Wraps
import Derived.Shelf.Strconv.Itoa4
import Derived.Test.YtdnpmnnidjeifaaGreatDoorProg
import Derived.Lib.Case
import Derived.Test.YtdnpmnnidjeifaaGreatDoorMA
import Derived.Test.YtdnpmnnidjeifaaGreatDoorA32
import Derived.KernelRfl
import Derived.Test.YtdnpmnnidjeifaaGreatDoorA33
import Derived.Test.YtdnpmnnidjeifaaGreatDoorA31
import Derived.Test.YtdnpmnnidjeifaaGreatDoorA37
import Derived.Test.YtdnpmnnidjeifaaGreatDoorA38
import Derived.Lib.ItoaNum
import Derived.Lib.Replace
import Derived.Lib.SplitLaws
import Derived.Test.YtdnpmnnidjeifaaGreatDoorA35
set_option linter.unusedVariables false
namespace Go.Abs
open Go Go.RowKit
mutual
def szV : AVal → Nat
 | .list _ es => 1 + szLL es
 | _ => 0
def szL : List AVal → Nat
 | [] => 0
 | v :: r => szV v + szL r
def szLL : List (List AVal) → Nat
 | [] => 0
 | e :: r => 1 + szL e + szLL r
end
theorem szL_app : ∀ (a b : List AVal), szL (a ++ b) = szL a + szL b
 | [], b => by simp [szL]
 | v :: r, b => by simp only [List.cons_append, szL, szL_app r b]; omega
structure Bulk {H : Type} (μ : DataW H → Nat) : Prop where
 pos : ∀ d, 1 ≤ μ d
 sl : ∀ xs ys, (xs.map μ).sum + 1 ≤ μ (.slice xs ys)
 ag : ∀ xs, (xs.map μ).sum + 1 ≤ μ (.agg xs)
def Rd2 {H : Type} (P : Program) (B : Nat) (W : World) (μ : DataW H → Nat) (t : TypeId) (d : DataW H) (cs : List Value) : Prop := ∃ av, Okv P B t av ∧ RdC W cs av ∧ szL av + 1 ≤ 2 * μ d
section
variable {H : Type} {enc : TypeId × Value → H} {P : Program} {W : World} {sp : Nat → Bool} {held : Bool}
variable {B : Nat} {Q : TypeId → DataW H → Prop} {μ : DataW H → Nat}
theorem elems_rd2 {e k f : Nat} {a : Addr} (ih : ∀ {cs : List Value} {d : DataW H} {ps : List MemPlace}, DataW.trod enc P W 0 sp held f e cs = some (d, ps) → Q e d → Rd2 P B W μ e d cs) : ∀ (is : List Nat) {xs : List (DataW H × List MemPlace)},
  is.mapM (fun i => (W.cells? 0 (a.add (i * k)) k).bind (DataW.trod enc P W 0 sp held f e)) = some xs → (∀ x ∈ xs.map (·.1), Q e x) →
  ∃ es : List (List AVal), es.length = is.length ∧ szLL es ≤ 2 * ((xs.map (·.1)).map μ).sum ∧
   ∀ (j : Nat) (hj : j < is.length), Okv P B e (es.getD j []) ∧ (es.getD j []).length = k ∧ ∀ q, q < k → ∃ v, W.cell? ((a.add (is[j] * k)).add q) = some v ∧ v.oneCell' = true ∧ Rel (WF W) (fun _ => none) (cellAt es j q) v
 | [], xs, h, _ => ⟨[], rfl, by simp [szLL], fun j hj => by simp at hj⟩
 | i :: r, xs, h, hw => by
   simp only [List.mapM_cons, Option.bind_eq_bind, Option.bind_eq_some_iff, Option.pure_def, Option.some.injEq] at h
   obtain ⟨x, ⟨cs, hcs, hx⟩, ys, hys, rfl⟩ := h
   obtain ⟨d, ps⟩ := x
   obtain ⟨av, hok, ⟨hl, hrel⟩, hz⟩ := ih hx (hw d (by simp))
   obtain ⟨es, e1, ez, e4⟩ := elems_rd2 ih r hys (fun x hx => hw x (by simp only [List.map_cons]; exact List.mem_cons_of_mem _ hx))
   obtain ⟨hcl, hcell⟩ := cells_spec hcs
   refine ⟨av :: es, by simp [e1], by simp only [szLL, List.map_cons, List.sum_cons]; omega, fun j hj => ?_⟩
   cases j with
   | zero => exact ⟨hok, by simp; omega, fun q hq => ⟨_, hcell q hq, (hrel q (by omega)).1, (hrel q (by omega)).2⟩⟩
   | succ j => exact e4 j (by simpa using hj)
theorem fields_rd2 {ts : List TypeId} {f : Nat} (ih : ∀ {t : TypeId} {cs : List Value} {d : DataW H} {ps : List MemPlace}, t ∈ ts → DataW.trod enc P W 0 sp held f t cs = some (d, ps) → Q t d → Rd2 P B W μ t d cs) {cs : List Value} : ∀ (fl : List Field) (o : Nat) {xs : List (DataW H × List MemPlace)},
  (∀ g ∈ fl, g.type ∈ ts) → tileB P cs.length o fl = true →
  (fl.mapM fun g => DataW.trod enc P W 0 sp held f g.type ((cs.drop g.offset).take (P.cellsOf g.type))) = some xs → (∀ i (hi : i < fl.length) (hx : i < (xs.map (·.1)).length), Q (fl[i]).type (xs.map (·.1))[i]) →
  ∃ parts : List (List AVal), parts.length = fl.length ∧ (∀ i (hi : i < fl.length), Okv P B (fl[i]).type (parts.getD i [])) ∧ RdC W (cs.drop o) parts.flatten ∧ szL parts.flatten ≤ 2 * ((xs.map (·.1)).map μ).sum
 | [], o, xs, hts, ht, h, _ => by
   simp only [tileB, decide_eq_true_eq] at ht
   exact ⟨[], rfl, fun i hi => by simp at hi, by subst ht; rw [List.drop_length]; exact RdC.nil, by simp [szL]⟩
 | g :: r, o, xs, hts, ht, h, hw => by
   simp only [tileB, Bool.and_eq_true, decide_eq_true_eq] at ht
   obtain ⟨ho, ht⟩ := ht
   simp only [List.mapM_cons, Option.bind_eq_bind, Option.bind_eq_some_iff, Option.pure_def, Option.some.injEq] at h
   obtain ⟨x, hx, ys, hys, rfl⟩ := h
   obtain ⟨d, ps⟩ := x
   obtain ⟨av, hok, hrd, hz⟩ := ih (hts g (by simp)) hx (hw 0 (by simp) (by simp))
   obtain ⟨parts, e1, e2, e3, ez⟩ := fields_rd2 ih r (o + P.cellsOf g.type) (fun g' hg => hts g' (by simp [hg])) ht hys (fun i hi hx => by
    have := hw (i + 1) (by simpa using hi) (by simpa using hx)
    simpa using this)
   refine ⟨av :: parts, by simp [e1], fun i hi => ?_, ?_, by simp only [List.flatten_cons, szL_app, List.map_cons, List.sum_cons]; omega⟩
   ·cases i with
    | zero => exact hok
    | succ i => exact e2 i (by simpa using hi)
   ·have := hrd.app e3
    rw [ho, ← List.drop_drop, List.take_append_drop] at this
    simpa using this
variable (hB : Bulk μ)
include hB
theorem read_all2 {ts : List TypeId} (hts : closedB P ts = true) (hQ : Meas P B Q) : ∀ (fuel : Nat) {t : TypeId} {cs : List Value} {d : DataW H} {ps : List MemPlace}, t ∈ ts → DataW.trod enc P W 0 sp held fuel t cs = some (d, ps) → Q t d → Rd2 P B W μ t d cs
 | 0, t, cs, d, ps, _, h, _ => by simp [DataW.trod] at h
 | f + 1, t, cs, d, ps, ht, h, hw => by
   have hc := List.all_eq_true.1 hts t ht
   cases hu : P.underlying t with
   | none => simp [hu] at hc
   | some td =>
     rw [hu] at hc
     cases td with
     | bool =>
       simp only [DataW.trod, hu] at h
       split at h <;> try (simp_all; done)
       all_goals (try (simp at *; done))
       rename_i b hcs
       exact ⟨_, .bool hu b, RdC.one rfl (.atom _), by have := hB.pos d; simp [szL, szV]; omega⟩
     | int k =>
       simp only [DataW.trod, hu] at h
       split at h <;> try (simp_all; done)
       rename_i k1 k2 n hk
       simp only [Option.some.injEq, TypeDesc.int.injEq] at hk
       subst hk
       split at h
       ·rename_i hkw
        obtain ⟨rfl, hn⟩ := hkw
        exact ⟨_, .int hu n hn, RdC.one rfl (.atom _), by have := hB.pos d; simp [szL, szV]; omega⟩
       ·cases h
     | string =>
       simp only [DataW.trod, hu] at h
       split at h <;> try (simp_all; done)
       rename_i s hcs
       split at h
       ·simp only [Option.some.injEq, Prod.mk.injEq] at h
        obtain ⟨rfl, _⟩ := h
        have := hQ.str hw
        refine ⟨_, .str hu s.data.toList this, RdC.one rfl ?_, by have := hB.pos (.lit (.string s.data.toList)); simp only [szL, szV]; omega⟩
        have := Rel.str (F := WF W) (m := fun _ => none) s.data.toList
        simpa using this
       ·cases h
     | slice e =>
       simp only [Bool.and_eq_true, decide_eq_true_eq, List.contains_iff_mem] at hc
       obtain ⟨⟨⟨_, hmem⟩, hk0⟩, hb0⟩ := hc
       simp only [DataW.trod, hu] at h
       split at h <;> try (simp_all; done)
       ·exact ⟨_, .nils hu, RdC.one rfl (.nil 0 rfl), by have := hB.pos d; simp [szL, szV, szLL]; omega⟩
       ·rename_i e' a len cap he'
        simp only [Option.some.injEq, TypeDesc.slice.injEq] at he'
        subst he'
        split at h
        rotate_left 1
        ·cases h
        rename_i hcond
        simp only [Option.bind_eq_some_iff, Option.map_eq_some_iff] at h
        obtain ⟨xs, hxs, rest, hrest, he⟩ := h
        simp only [Prod.mk.injEq] at he
        rw [← he.1] at hw
        obtain ⟨hwl, hwB, hwe⟩ := hQ.sl hu hb0 hw
        have hxl := mapM_some_length hxs
        simp only [List.length_range] at hxl
        obtain ⟨es, e1, ez, e4⟩ := elems_rd2 (enc := enc) (sp := sp) (held := held) (Q := Q) (B := B) (fun h hw => read_all2 hts hQ f hmem h hw) _ hxs hwe
        simp only [List.length_range] at e1 e4
        generalize hkk : P.cellsOf e = k at *
        have hrow : ∀ (j q : Nat), j < len → q < k → ∃ v, W.cell? ((a.add (j * k)).add q) = some v ∧ v.oneCell' = true ∧ Rel (WF W) (fun _ => none) (cellAt es j q) v := fun j q hj hq => by
         have := (e4 j hj).2.2 q hq
         simpa using this
        have hadd : ∀ j q, 0 < len → j < len → q < k → a.spot = none ∧ (a.add (j * k)).add q = ⟨a.block, a.off + (j * k + q), none⟩ := fun j q h0 hj hq => by
         obtain ⟨v, hv, _⟩ := hrow 0 0 h0 (by omega)
         have hs : a.spot = none := by
          simp [Addr.add, World.cell?] at hv
          split at hv
          ·split at hv
           ·cases hv
           ·rename_i hh; simpa using hh
          ·cases hv
         refine ⟨hs, ?_⟩
         obtain ⟨ab, ao, as'⟩ := a
         simp only at hs
         subst hs
         unfold Addr.add
         by_cases h1 : j * k = 0 <;> by_cases h2 : q = 0 <;> simp [h1, h2] <;> omega
        let vs : Nat → Nat → Value := fun j q => (W.cell? ⟨a.block, a.off + (j * k + q), none⟩).getD undef
        have hvs : ∀ j q, j < len → q < k → W.cell? ⟨a.block, a.off + (j * k + q), none⟩ = some (vs j q) ∧ (vs j q).oneCell' = true ∧ Rel (WF W) (fun _ => none) (cellAt es j q) (vs j q) := fun j q hj hq => by
         obtain ⟨v, hv, h1, hr⟩ := hrow j q hj hq
         rw [(hadd j q (by omega) hj hq).2] at hv
         have : vs j q = v := by simp [vs, hv]
         rw [this]; exact ⟨hv, h1, hr⟩
        refine ⟨[.list .any es], .slice hu es (fun i hi => (e4 i (by omega)).1) (fun i hi => by rw [hkk]; exact (e4 i (by omega)).2.1) ?_ (by rw [List.length_map] at hwB; omega), RdC.one rfl ?_, ?_⟩
        ·refine Nat.le_trans (Nat.mul_le_mul_right _ ?_) hwl
         simp; omega
        ·refine .list .any es (some a) len cap a.block a.off k vs (by simp) (by omega) hcond.2.1 (by simp [Fl.isFull]) (fun e he => ?_) hk0 (fun _ => rfl) (fun h => by cases h) (fun hne => ?_) (fun j q hj hq => (hvs j q (by omega) hq).2.1) (fun j q hj hq => (hvs j q (by omega) hq).1) (fun j q hj hq => (hvs j q (by omega) hq).2.2)
         ·obtain ⟨i, hi, rfl⟩ := List.getElem_of_mem he
          have := (e4 i (by omega)).2.1
          rwa [getD_eq _ _ _ hi] at this
         ·have h0 : 0 < len := by
           have : es.length ≠ 0 := fun h => hne (List.eq_nil_of_length_eq_zero h)
           omega
          have := (hadd 0 0 h0 h0 (by omega)).1
          obtain ⟨ab, ao, as'⟩ := a
          simp only at this
          subst this
          rfl
        ·have := hB.sl (xs.map (·.1)) (rest.map (·.1))
         rw [← he.1]
         simp only [szL, szV]
         omega
     | struct fs =>
       simp only [Bool.and_eq_true, List.all_eq_true, List.contains_iff_mem] at hc
       simp only [DataW.trod, hu] at h
       split at h
       rotate_left 1
       ·cases h
       rename_i hlen
       simp only [Option.map_eq_some_iff] at h
       obtain ⟨xs, hx, he⟩ := h
       simp only [Prod.mk.injEq] at he
       rw [← he.1] at hw
       obtain ⟨parts, e1, e2, e3, ez⟩ := fields_rd2 (ts := ts) (Q := Q) (B := B) (fun ht h hw => read_all2 hts hQ f ht h hw) fs.toList 0 (fun g hg => hc.1 g (by simpa using hg)) (by rw [hlen]; exact hc.2) hx (hQ.ag hu hw)
       exact ⟨parts.flatten, .struct hu parts e1 e2, by simpa using e3, by have := hB.ag (xs.map (·.1)); rw [← he.1]; omega⟩
     | _ => simp at hc
end
end Go.Abs
namespace Go.Proofs
open Go.Shelf Go.RowKit
def Tryz.lays158_ren : Go.Shelf.Ren := ⟨fun | 158 => 136 | 165 => 87 | 166 => 88 | 167 => 145 | 169 => 89 | 230 => 146 | 203 => 161 | 240 => 134 | 241 => 135 | 197 => 153 | 118 => 168 | 168 => 169 | 270 => 170 | 262 => 171 | 276 => 159 | 277 => 160 | 260 => 172 | 242 => 184 | 313 => 185 | 278 => 196 | 274 => 197 | 275 => 198 | n => n, fun | 9 => 9 | 4 => 4 | 3 => 3 | 5 => 5 | 72 => 119 | 0 => 0 | 76 => 123 | 75 => 122 | 107 => 162 | 70 => 116 | 20 => 20 | 37 => 117 | 127 => 153 | 21 => 21 | 105 => 165 | 164 => 169 | 162 => 193 | 203 => 191 | 119 => 194 | 46 => 173 | 139 => 197 | 138 => 196 | 51 => 187 | 160 => 205 | 208 => 213 | 206 => 211 | 80 => 115 | n => n, fun | 13 => 1 | 3 => 2 | 4 => 3 | n => n⟩
theorem Tryz.lays158 : Go.Proofs.Lays.n158 Tryz.prog Tryz.lays158_ren := {
 mixed := by kernel_rfl
 f118 := Tryz.func168.trans (congrArg some (by kernel_rfl))
 f158 := Tryz.func136.trans (congrArg some (by kernel_rfl))
 f165 := Tryz.func87.trans (congrArg some (by kernel_rfl))
 f166 := Tryz.func88.trans (congrArg some (by kernel_rfl))
 f167 := Tryz.func145.trans (congrArg some (by kernel_rfl))
 f168 := Tryz.func169.trans (congrArg some (by kernel_rfl))
 f169 := Tryz.func89.trans (congrArg some (by kernel_rfl))
 f197 := Tryz.func153.trans (congrArg some (by kernel_rfl))
 f203 := Tryz.func161.trans (congrArg some (by kernel_rfl))
 f230 := Tryz.func146.trans (congrArg some (by kernel_rfl))
 f240 := Tryz.func134.trans (congrArg some (by kernel_rfl))
 f241 := Tryz.func135.trans (congrArg some (by kernel_rfl))
 f242 := Tryz.func184.trans (congrArg some (by kernel_rfl))
 f260 := Tryz.func172.trans (congrArg some (by kernel_rfl))
 f262 := Tryz.func171.trans (congrArg some (by kernel_rfl))
 f270 := Tryz.func170.trans (congrArg some (by kernel_rfl))
 f274 := Tryz.func197.trans (congrArg some (by kernel_rfl))
 f275 := Tryz.func198.trans (congrArg some (by kernel_rfl))
 f276 := Tryz.func159.trans (congrArg some (by kernel_rfl))
 f277 := Tryz.func160.trans (congrArg some (by kernel_rfl))
 f278 := Tryz.func196.trans (congrArg some (by kernel_rfl))
 f313 := Tryz.func185.trans (congrArg some (by kernel_rfl))
 t0 := Tryz.underlying0
 a0 := Tryz.isAgg0
 z0 := Tryz.sizeOf0
 v0 := Tryz.zeroValue0
 t3 := Tryz.underlying3
 a3 := Tryz.isAgg3
 z3 := Tryz.sizeOf3
 v3 := Tryz.zeroValue3
 t4 := Tryz.underlying4
 a4 := Tryz.isAgg4
 z4 := Tryz.sizeOf4
 v4 := Tryz.zeroValue4
 t5 := Tryz.underlying5
 a5 := Tryz.isAgg5
 z5 := Tryz.sizeOf5
 v5 := Tryz.zeroValue5
 t9 := Tryz.underlying9
 a9 := Tryz.isAgg9
 z9 := Tryz.sizeOf9
 v9 := Tryz.zeroValue9
 t20 := Tryz.underlying20
 a20 := Tryz.isAgg20
 z20 := Tryz.sizeOf20
 v20 := Tryz.zeroValue20
 t21 := Tryz.underlying21
 a21 := Tryz.isAgg21
 z21 := Tryz.sizeOf21
 v21 := Tryz.zeroValue21
 t37 := Tryz.underlying117
 a37 := Tryz.isAgg117
 z37 := Tryz.sizeOf117
 v37 := Tryz.zeroValue117
 t46 := Tryz.underlying173
 a46 := Tryz.isAgg173
 z46 := Tryz.sizeOf173
 v46 := Tryz.zeroValue173
 t51 := Tryz.underlying187
 a51 := Tryz.isAgg187
 z51 := Tryz.sizeOf187
 v51 := Tryz.zeroValue187
 t70 := Tryz.underlying116
 a70 := Tryz.isAgg116
 z70 := Tryz.sizeOf116
 v70 := Tryz.zeroValue116
 t72 := Tryz.underlying119
 a72 := Tryz.isAgg119
 z72 := Tryz.sizeOf119
 v72 := Tryz.zeroValue119
 t75 := Tryz.underlying122
 a75 := Tryz.isAgg122
 z75 := Tryz.sizeOf122
 v75 := Tryz.zeroValue122
 t76 := Tryz.underlying123
 a76 := Tryz.isAgg123
 z76 := Tryz.sizeOf123
 v76 := Tryz.zeroValue123
 t105 := Tryz.underlying165
 a105 := Tryz.isAgg165
 z105 := Tryz.sizeOf165
 v105 := Tryz.zeroValue165
 t107 := Tryz.underlying162
 a107 := Tryz.isAgg162
 z107 := Tryz.sizeOf162
 v107 := Tryz.zeroValue162
 t119 := Tryz.underlying194
 a119 := Tryz.isAgg194
 z119 := Tryz.sizeOf194
 t127 := Tryz.underlying153
 a127 := Tryz.isAgg153
 z127 := Tryz.sizeOf153
 v127 := Tryz.zeroValue153
 t138 := Tryz.underlying196
 a138 := Tryz.isAgg196
 z138 := Tryz.sizeOf196
 v138 := Tryz.zeroValue196
 t139 := Tryz.underlying197
 a139 := Tryz.isAgg197
 z139 := Tryz.sizeOf197
 v139 := Tryz.zeroValue197
 t160 := Tryz.underlying205
 a160 := Tryz.isAgg205
 z160 := Tryz.sizeOf205
 v160 := Tryz.zeroValue205
 t162 := Tryz.underlying193
 a162 := Tryz.isAgg193
 z162 := Tryz.sizeOf193
 v162 := Tryz.zeroValue193
 t164 := Tryz.underlying169
 a164 := Tryz.isAgg169
 z164 := Tryz.sizeOf169
 v164 := Tryz.zeroValue169
 t203 := Tryz.underlying191
 a203 := Tryz.isAgg191
 z203 := Tryz.sizeOf191
 v203 := Tryz.zeroValue191
 t206 := Tryz.underlying211
 a206 := Tryz.isAgg211
 z206 := Tryz.sizeOf211
 v206 := Tryz.zeroValue211
 t208 := Tryz.underlying213
 a208 := Tryz.isAgg213
 z208 := Tryz.sizeOf213
 v208 := Tryz.zeroValue213
 g3 := by kernel_rfl
 g4 := by kernel_rfl
 g13 := by kernel_rfl }
theorem Tryz.Builder_Extra_158 : Builder.Extra Tryz.prog Tryz.lays158_ren := {
 sizeBuilder := by kernel_rfl
 liesBuilder := by kernel_rfl
 t5 := Tryz.underlying5
 a5 := Tryz.isAgg5
 z5 := Tryz.sizeOf5
 v5 := Tryz.zeroValue5
 infoByte := by kernel_rfl
 cellsByte := by kernel_rfl
 sizeByte := by kernel_rfl
 neB5 := by decide }
theorem Tryz.strings_ToUpper_ascii (s : ByteArray) (w : World) (hs : s.size ≤ 140737488355328) (hascii : ∀ (j : Nat) (b : UInt8), s.data.toList[j]? = some b → b.toNat < 128) :
  Calls Tryz.prog 136 #[.string s] w fun e w' => e = .returned (.string ⟨(Lib.toUpperA s.data.toList).toArray⟩) ∧ Below w.heap.size w w' := Any.strings_ToUpper_ascii Tryz.lays158 Tryz.Builder_Extra_158 s w hs hascii
def Tryz.lays159_ren : Go.Shelf.Ren := ⟨fun | 159 => 104 | 165 => 87 | 166 => 88 | 167 => 145 | 169 => 89 | 230 => 146 | 204 => 147 | 240 => 134 | 241 => 135 | 197 => 153 | 118 => 168 | 168 => 169 | 270 => 170 | 262 => 171 | 276 => 159 | 277 => 160 | 260 => 172 | 242 => 184 | 313 => 185 | 278 => 196 | 274 => 197 | 275 => 198 | n => n, fun | 9 => 9 | 4 => 4 | 3 => 3 | 5 => 5 | 72 => 119 | 0 => 0 | 76 => 123 | 75 => 122 | 107 => 162 | 70 => 116 | 20 => 20 | 37 => 117 | 127 => 153 | 21 => 21 | 105 => 165 | 164 => 169 | 162 => 193 | 203 => 191 | 119 => 194 | 46 => 173 | 139 => 197 | 138 => 196 | 51 => 187 | 160 => 205 | 208 => 213 | 206 => 211 | 80 => 115 | n => n, fun | 13 => 1 | 3 => 2 | 4 => 3 | n => n⟩
theorem Tryz.lays159 : Go.Proofs.Lays.n159 Tryz.prog Tryz.lays159_ren := {
 mixed := by kernel_rfl
 f118 := Tryz.func168.trans (congrArg some (by kernel_rfl))
 f159 := Tryz.func104.trans (congrArg some (by kernel_rfl))
 f165 := Tryz.func87.trans (congrArg some (by kernel_rfl))
 f166 := Tryz.func88.trans (congrArg some (by kernel_rfl))
 f167 := Tryz.func145.trans (congrArg some (by kernel_rfl))
 f168 := Tryz.func169.trans (congrArg some (by kernel_rfl))
 f169 := Tryz.func89.trans (congrArg some (by kernel_rfl))
 f197 := Tryz.func153.trans (congrArg some (by kernel_rfl))
 f204 := Tryz.func147.trans (congrArg some (by kernel_rfl))
 f230 := Tryz.func146.trans (congrArg some (by kernel_rfl))
 f240 := Tryz.func134.trans (congrArg some (by kernel_rfl))
 f241 := Tryz.func135.trans (congrArg some (by kernel_rfl))
 f242 := Tryz.func184.trans (congrArg some (by kernel_rfl))
 f260 := Tryz.func172.trans (congrArg some (by kernel_rfl))
 f262 := Tryz.func171.trans (congrArg some (by kernel_rfl))
 f270 := Tryz.func170.trans (congrArg some (by kernel_rfl))
 f274 := Tryz.func197.trans (congrArg some (by kernel_rfl))
 f275 := Tryz.func198.trans (congrArg some (by kernel_rfl))
 f276 := Tryz.func159.trans (congrArg some (by kernel_rfl))
 f277 := Tryz.func160.trans (congrArg some (by kernel_rfl))
 f278 := Tryz.func196.trans (congrArg some (by kernel_rfl))
 f313 := Tryz.func185.trans (congrArg some (by kernel_rfl))
 t0 := Tryz.underlying0
 a0 := Tryz.isAgg0
 z0 := Tryz.sizeOf0
 v0 := Tryz.zeroValue0
 t3 := Tryz.underlying3
 a3 := Tryz.isAgg3
 z3 := Tryz.sizeOf3
 v3 := Tryz.zeroValue3
 t4 := Tryz.underlying4
 a4 := Tryz.isAgg4
 z4 := Tryz.sizeOf4
 v4 := Tryz.zeroValue4
 t5 := Tryz.underlying5
 a5 := Tryz.isAgg5
 z5 := Tryz.sizeOf5
 v5 := Tryz.zeroValue5
 t9 := Tryz.underlying9
 a9 := Tryz.isAgg9
 z9 := Tryz.sizeOf9
 v9 := Tryz.zeroValue9
 t20 := Tryz.underlying20
 a20 := Tryz.isAgg20
 z20 := Tryz.sizeOf20
 v20 := Tryz.zeroValue20
 t21 := Tryz.underlying21
 a21 := Tryz.isAgg21
 z21 := Tryz.sizeOf21
 v21 := Tryz.zeroValue21
 t37 := Tryz.underlying117
 a37 := Tryz.isAgg117
 z37 := Tryz.sizeOf117
 v37 := Tryz.zeroValue117
 t46 := Tryz.underlying173
 a46 := Tryz.isAgg173
 z46 := Tryz.sizeOf173
 v46 := Tryz.zeroValue173
 t51 := Tryz.underlying187
 a51 := Tryz.isAgg187
 z51 := Tryz.sizeOf187
 v51 := Tryz.zeroValue187
 t70 := Tryz.underlying116
 a70 := Tryz.isAgg116
 z70 := Tryz.sizeOf116
 v70 := Tryz.zeroValue116
 t72 := Tryz.underlying119
 a72 := Tryz.isAgg119
 z72 := Tryz.sizeOf119
 v72 := Tryz.zeroValue119
 t75 := Tryz.underlying122
 a75 := Tryz.isAgg122
 z75 := Tryz.sizeOf122
 v75 := Tryz.zeroValue122
 t76 := Tryz.underlying123
 a76 := Tryz.isAgg123
 z76 := Tryz.sizeOf123
 v76 := Tryz.zeroValue123
 t105 := Tryz.underlying165
 a105 := Tryz.isAgg165
 z105 := Tryz.sizeOf165
 v105 := Tryz.zeroValue165
 t107 := Tryz.underlying162
 a107 := Tryz.isAgg162
 z107 := Tryz.sizeOf162
 v107 := Tryz.zeroValue162
 t119 := Tryz.underlying194
 a119 := Tryz.isAgg194
 z119 := Tryz.sizeOf194
 t127 := Tryz.underlying153
 a127 := Tryz.isAgg153
 z127 := Tryz.sizeOf153
 v127 := Tryz.zeroValue153
 t138 := Tryz.underlying196
 a138 := Tryz.isAgg196
 z138 := Tryz.sizeOf196
 v138 := Tryz.zeroValue196
 t139 := Tryz.underlying197
 a139 := Tryz.isAgg197
 z139 := Tryz.sizeOf197
 v139 := Tryz.zeroValue197
 t160 := Tryz.underlying205
 a160 := Tryz.isAgg205
 z160 := Tryz.sizeOf205
 v160 := Tryz.zeroValue205
 t162 := Tryz.underlying193
 a162 := Tryz.isAgg193
 z162 := Tryz.sizeOf193
 v162 := Tryz.zeroValue193
 t164 := Tryz.underlying169
 a164 := Tryz.isAgg169
 z164 := Tryz.sizeOf169
 v164 := Tryz.zeroValue169
 t203 := Tryz.underlying191
 a203 := Tryz.isAgg191
 z203 := Tryz.sizeOf191
 v203 := Tryz.zeroValue191
 t206 := Tryz.underlying211
 a206 := Tryz.isAgg211
 z206 := Tryz.sizeOf211
 v206 := Tryz.zeroValue211
 t208 := Tryz.underlying213
 a208 := Tryz.isAgg213
 z208 := Tryz.sizeOf213
 v208 := Tryz.zeroValue213
 g3 := by kernel_rfl
 g4 := by kernel_rfl
 g13 := by kernel_rfl }
theorem Tryz.Builder_Extra_159 : Builder.Extra Tryz.prog Tryz.lays159_ren := {
 sizeBuilder := by kernel_rfl
 liesBuilder := by kernel_rfl
 t5 := Tryz.underlying5
 a5 := Tryz.isAgg5
 z5 := Tryz.sizeOf5
 v5 := Tryz.zeroValue5
 infoByte := by kernel_rfl
 cellsByte := by kernel_rfl
 sizeByte := by kernel_rfl
 neB5 := by decide }
theorem Tryz.strings_ToLower_ascii (s : ByteArray) (w : World) (hs : s.size ≤ 140737488355328) (hascii : ∀ (j : Nat) (b : UInt8), s.data.toList[j]? = some b → b.toNat < 128) :
  Calls Tryz.prog 104 #[.string s] w fun e w' => e = .returned (.string ⟨(Lib.toLowerA s.data.toList).toArray⟩) ∧ Below w.heap.size w w' := Any.strings_ToLower_ascii Tryz.lays159 Tryz.Builder_Extra_159 s w hs hascii
def Tryz.lays156_ren : Go.Shelf.Ren := ⟨fun | 156 => 33 | 165 => 87 | 166 => 88 | 169 => 89 | 240 => 134 | 241 => 135 | 276 => 159 | 277 => 160 | n => n, fun | 31 => 23 | 9 => 9 | 3 => 3 | 4 => 4 | 0 => 0 | 20 => 20 | 72 => 119 | 76 => 123 | 70 => 116 | 37 => 117 | 75 => 122 | 127 => 153 | 164 => 169 | 5 => 5 | 80 => 115 | n => n, fun | n => n⟩
theorem Tryz.lays156 : Go.Proofs.Lays.n156 Tryz.prog Tryz.lays156_ren := {
 mixed := by kernel_rfl
 f156 := Tryz.func33.trans (congrArg some (by kernel_rfl))
 f165 := Tryz.func87.trans (congrArg some (by kernel_rfl))
 f166 := Tryz.func88.trans (congrArg some (by kernel_rfl))
 f169 := Tryz.func89.trans (congrArg some (by kernel_rfl))
 f240 := Tryz.func134.trans (congrArg some (by kernel_rfl))
 f241 := Tryz.func135.trans (congrArg some (by kernel_rfl))
 f276 := Tryz.func159.trans (congrArg some (by kernel_rfl))
 f277 := Tryz.func160.trans (congrArg some (by kernel_rfl))
 t0 := Tryz.underlying0
 a0 := Tryz.isAgg0
 z0 := Tryz.sizeOf0
 v0 := Tryz.zeroValue0
 t3 := Tryz.underlying3
 a3 := Tryz.isAgg3
 z3 := Tryz.sizeOf3
 v3 := Tryz.zeroValue3
 t4 := Tryz.underlying4
 a4 := Tryz.isAgg4
 z4 := Tryz.sizeOf4
 v4 := Tryz.zeroValue4
 t9 := Tryz.underlying9
 a9 := Tryz.isAgg9
 z9 := Tryz.sizeOf9
 v9 := Tryz.zeroValue9
 t20 := Tryz.underlying20
 a20 := Tryz.isAgg20
 z20 := Tryz.sizeOf20
 v20 := Tryz.zeroValue20
 t31 := Tryz.underlying23
 a31 := Tryz.isAgg23
 z31 := Tryz.sizeOf23
 v31 := Tryz.zeroValue23
 t37 := Tryz.underlying117
 a37 := Tryz.isAgg117
 z37 := Tryz.sizeOf117
 v37 := Tryz.zeroValue117
 t70 := Tryz.underlying116
 a70 := Tryz.isAgg116
 z70 := Tryz.sizeOf116
 v70 := Tryz.zeroValue116
 t72 := Tryz.underlying119
 a72 := Tryz.isAgg119
 z72 := Tryz.sizeOf119
 v72 := Tryz.zeroValue119
 t75 := Tryz.underlying122
 a75 := Tryz.isAgg122
 z75 := Tryz.sizeOf122
 v75 := Tryz.zeroValue122
 t76 := Tryz.underlying123
 a76 := Tryz.isAgg123
 z76 := Tryz.sizeOf123
 v76 := Tryz.zeroValue123
 t127 := Tryz.underlying153
 a127 := Tryz.isAgg153
 z127 := Tryz.sizeOf153
 v127 := Tryz.zeroValue153
 t164 := Tryz.underlying169
 a164 := Tryz.isAgg169
 z164 := Tryz.sizeOf169
 v164 := Tryz.zeroValue169 }
theorem Tryz.Builder_Extra_156 : Builder.Extra Tryz.prog Tryz.lays156_ren := {
 sizeBuilder := by kernel_rfl
 liesBuilder := by kernel_rfl
 t5 := Tryz.underlying5
 a5 := Tryz.isAgg5
 z5 := Tryz.sizeOf5
 v5 := Tryz.zeroValue5
 infoByte := by kernel_rfl
 cellsByte := by kernel_rfl
 sizeByte := by kernel_rfl
 neB5 := by decide }
theorem Tryz.strings_Join_none (a : Option Addr) (c : Nat) (sep : ByteArray) (w : World) :
  Calls Tryz.prog 33 #[.slice a 0 c, .string sep] w fun e w' => e = .returned (.string ⟨#[]⟩) ∧ w' = w := Any.strings_Join_none Tryz.lays156 Tryz.Builder_Extra_156 a c sep w
theorem Tryz.strings_Join (bk o c : Nat) (xs : List ByteArray) (sep : ByteArray) (w : World) (hcells : ∀ (j : Nat) x, xs[j]? = some x → w.cell? ⟨bk, o + j, none⟩ = some (.string x)) (hbk : bk < w.heap.size) (hN : xs.length ≤ 140737488355328) (hcap : xs.length ≤ c) (hlen : (Lib.join (xs.map (·.data.toList)) sep.data.toList).length ≤ 140737488355328) :
  Calls Tryz.prog 33 #[.slice (some ⟨bk, o, none⟩) xs.length c, .string sep] w fun e w' => e = .returned (.string ⟨(Lib.join (xs.map (·.data.toList)) sep.data.toList).toArray⟩) ∧ Below w.heap.size w w' := Any.strings_Join Tryz.lays156 Tryz.Builder_Extra_156 bk o c xs sep w hcells hbk hN hcap hlen
def Tryz.lays137_ren : Go.Shelf.Ren := ⟨fun | 137 => 117 | 217 => 156 | 266 => 174 | n => n, fun | 9 => 9 | 5 => 5 | 3 => 3 | n => n, fun | n => n⟩
theorem Tryz.lays137 : Go.Proofs.Lays.n137 Tryz.prog Tryz.lays137_ren := {
 mixed := by kernel_rfl
 f137 := Tryz.func117.trans (congrArg some (by kernel_rfl))
 f217 := Tryz.func156.trans (congrArg some (by kernel_rfl))
 f266 := Tryz.func174.trans (congrArg some (by kernel_rfl))
 t3 := Tryz.underlying3
 a3 := Tryz.isAgg3
 z3 := Tryz.sizeOf3
 v3 := Tryz.zeroValue3
 t5 := Tryz.underlying5
 a5 := Tryz.isAgg5
 z5 := Tryz.sizeOf5
 v5 := Tryz.zeroValue5
 t9 := Tryz.underlying9
 a9 := Tryz.isAgg9
 z9 := Tryz.sizeOf9
 v9 := Tryz.zeroValue9 }
theorem Tryz.strings_IndexByte (s : ByteArray) (c : Int) (w : World) :
  Calls Tryz.prog 117 #[.string s, .int .u8 c] w fun e w' => e = .returned (.int .i64 (Lib.indexByte s.data.toList c.toNat.toUInt8)) ∧ w' = w := Any.strings_IndexByte Tryz.lays137 s c w
def Tryz.lays121_ren : Go.Shelf.Ren := ⟨fun | 121 => 137 | 214 => 162 | n => n, fun | 4 => 4 | 9 => 9 | n => n, fun | n => n⟩
theorem Tryz.lays121 : Go.Proofs.Lays.n121 Tryz.prog Tryz.lays121_ren := {
 mixed := by kernel_rfl
 f121 := Tryz.func137.trans (congrArg some (by kernel_rfl))
 f214 := Tryz.func162.trans (congrArg some (by kernel_rfl))
 t4 := Tryz.underlying4
 a4 := Tryz.isAgg4
 z4 := Tryz.sizeOf4
 v4 := Tryz.zeroValue4
 t9 := Tryz.underlying9
 a9 := Tryz.isAgg9
 z9 := Tryz.sizeOf9
 v9 := Tryz.zeroValue9 }
theorem Tryz.strconv_FormatBool (b : Bool) (w : World) :
  Calls Tryz.prog 137 #[.bool b] w fun e w' => e = .returned (.string ⟨(Lib.formatBool b).toArray⟩) ∧ w' = w := Any.strconv_FormatBool Tryz.lays121 b w
def Tryz.laysM173_ren : Go.Shelf.Ren := ⟨fun | 173 => 138 | 246 => 163 | 283 => 178 | 284 => 179 | 285 => 180 | 286 => 181 | 129 => 190 | 317 => 189 | 318 => 191 | 319 => 192 | 320 => 193 | 337 => 202 | 338 => 203 | n => n, fun | 2 => 2 | 3 => 3 | 9 => 9 | 4 => 4 | 171 => 181 | 0 => 0 | 53 => 182 | 37 => 117 | 5 => 5 | 173 => 185 | 212 => 200 | 51 => 187 | 20 => 20 | 213 => 201 | 46 => 173 | 232 => 215 | 233 => 216 | n => n, fun | 17 => 4 | 18 => 5 | 19 => 6 | n => n⟩
theorem Tryz.laysM173 : Go.Proofs.LaysM.n173 Tryz.prog Tryz.laysM173_ren := {
 mixed := by kernel_rfl
 f129 := Tryz.func190.trans (congrArg some (by kernel_rfl))
 f173 := Tryz.func138.trans (congrArg some (by kernel_rfl))
 f246 := Tryz.func163.trans (congrArg some (by kernel_rfl))
 f283 := Tryz.func178.trans (congrArg some (by kernel_rfl))
 f284 := Tryz.func179.trans (congrArg some (by kernel_rfl))
 f285 := Tryz.func180.trans (congrArg some (by kernel_rfl))
 f286 := Tryz.func181.trans (congrArg some (by kernel_rfl))
 f317 := Tryz.func189.trans (congrArg some (by kernel_rfl))
 f318 := Tryz.func191.trans (congrArg some (by kernel_rfl))
 f319 := Tryz.func192.trans (congrArg some (by kernel_rfl))
 f320 := Tryz.func193.trans (congrArg some (by kernel_rfl))
 f337 := Tryz.func202.trans (congrArg some (by kernel_rfl))
 f338 := Tryz.func203.trans (congrArg some (by kernel_rfl))
 t0 := Tryz.underlying0
 a0 := Tryz.isAgg0
 z0 := Tryz.sizeOf0
 v0 := Tryz.zeroValue0
 t2 := Tryz.underlying2
 a2 := Tryz.isAgg2
 z2 := Tryz.sizeOf2
 v2 := Tryz.zeroValue2
 t3 := Tryz.underlying3
 a3 := Tryz.isAgg3
 z3 := Tryz.sizeOf3
 v3 := Tryz.zeroValue3
 t4 := Tryz.underlying4
 a4 := Tryz.isAgg4
 z4 := Tryz.sizeOf4
 v4 := Tryz.zeroValue4
 t5 := Tryz.underlying5
 a5 := Tryz.isAgg5
 z5 := Tryz.sizeOf5
 v5 := Tryz.zeroValue5
 t9 := Tryz.underlying9
 a9 := Tryz.isAgg9
 z9 := Tryz.sizeOf9
 v9 := Tryz.zeroValue9
 t20 := Tryz.underlying20
 a20 := Tryz.isAgg20
 z20 := Tryz.sizeOf20
 v20 := Tryz.zeroValue20
 t37 := Tryz.underlying117
 a37 := Tryz.isAgg117
 z37 := Tryz.sizeOf117
 v37 := Tryz.zeroValue117
 t46 := Tryz.underlying173
 a46 := Tryz.isAgg173
 z46 := Tryz.sizeOf173
 v46 := Tryz.zeroValue173
 t51 := Tryz.underlying187
 a51 := Tryz.isAgg187
 z51 := Tryz.sizeOf187
 v51 := Tryz.zeroValue187
 t53 := Tryz.underlying182
 a53 := Tryz.isAgg182
 z53 := Tryz.sizeOf182
 v53 := Tryz.zeroValue182
 t171 := Tryz.underlying181
 a171 := Tryz.isAgg181
 z171 := Tryz.sizeOf181
 v171 := Tryz.zeroValue181
 t173 := Tryz.underlying185
 a173 := Tryz.isAgg185
 z173 := Tryz.sizeOf185
 v173 := Tryz.zeroValue185
 t212 := Tryz.underlying200
 a212 := Tryz.isAgg200
 z212 := Tryz.sizeOf200
 v212 := Tryz.zeroValue200
 t213 := Tryz.underlying201
 a213 := Tryz.isAgg201
 z213 := Tryz.sizeOf201
 t232 := Tryz.underlying215
 a232 := Tryz.isAgg215
 z232 := Tryz.sizeOf215
 v232 := Tryz.zeroValue215
 t233 := Tryz.underlying216
 a233 := Tryz.isAgg216
 z233 := Tryz.sizeOf216
 v233 := Tryz.zeroValue216
 g17 := by kernel_rfl
 g18 := by kernel_rfl
 g19 := by kernel_rfl
 i0 := by kernel_rfl
 i2 := by kernel_rfl
 i3 := by kernel_rfl
 i4 := by kernel_rfl
 i5 := by kernel_rfl
 i9 := by kernel_rfl
 i20 := by kernel_rfl
 i37 := by kernel_rfl
 i46 := by kernel_rfl
 i51 := by kernel_rfl
 i53 := by kernel_rfl
 i171 := by kernel_rfl
 i173 := by kernel_rfl
 i212 := by kernel_rfl
 i232 := by kernel_rfl
 i233 := by kernel_rfl
 m17 := by kernel_rfl
 m18 := by kernel_rfl
 m19 := by kernel_rfl }
theorem Tryz.strconv_FormatInt_10 (n : Int) (h0 : -9223372036854775808 ≤ n) (h1 : n ≤ 9223372036854775807) (w : World) (htab : Lib.TabIs Tryz.prog w "internal/strconv.uint64pow10" .u64 Lib.pow10Tab) :
  Calls Tryz.prog 138 #[.int .i64 n, .int .i64 10] w fun e w' => e = .returned (.string ⟨(Lib.itoa n).toArray⟩) ∧ ∃ k os, w' = Go.Sort.grow (w.drewN k) os := Any.strconv_FormatInt_10 Tryz.laysM173 n h0 h1 w htab
def Tryz.lays144_ren : Go.Shelf.Ren := ⟨fun | 144 => 48 | 143 => 99 | 219 => 142 | 217 => 156 | 225 => 165 | 224 => 166 | 267 => 167 | 266 => 174 | 314 => 183 | n => n, fun | 9 => 9 | 4 => 4 | 3 => 3 | 5 => 5 | 46 => 173 | 146 => 188 | 51 => 187 | n => n, fun | 1 => 0 | n => n⟩
theorem Tryz.lays144 : Go.Proofs.Lays.n144 Tryz.prog Tryz.lays144_ren := {
 mixed := by kernel_rfl
 f143 := Tryz.func99.trans (congrArg some (by kernel_rfl))
 f144 := Tryz.func48.trans (congrArg some (by kernel_rfl))
 f217 := Tryz.func156.trans (congrArg some (by kernel_rfl))
 f219 := Tryz.func142.trans (congrArg some (by kernel_rfl))
 f224 := Tryz.func166.trans (congrArg some (by kernel_rfl))
 f225 := Tryz.func165.trans (congrArg some (by kernel_rfl))
 f266 := Tryz.func174.trans (congrArg some (by kernel_rfl))
 f267 := Tryz.func167.trans (congrArg some (by kernel_rfl))
 f314 := Tryz.func183.trans (congrArg some (by kernel_rfl))
 t3 := Tryz.underlying3
 a3 := Tryz.isAgg3
 z3 := Tryz.sizeOf3
 v3 := Tryz.zeroValue3
 t4 := Tryz.underlying4
 a4 := Tryz.isAgg4
 z4 := Tryz.sizeOf4
 v4 := Tryz.zeroValue4
 t5 := Tryz.underlying5
 a5 := Tryz.isAgg5
 z5 := Tryz.sizeOf5
 v5 := Tryz.zeroValue5
 t9 := Tryz.underlying9
 a9 := Tryz.isAgg9
 z9 := Tryz.sizeOf9
 v9 := Tryz.zeroValue9
 t46 := Tryz.underlying173
 a46 := Tryz.isAgg173
 z46 := Tryz.sizeOf173
 v46 := Tryz.zeroValue173
 t51 := Tryz.underlying187
 a51 := Tryz.isAgg187
 z51 := Tryz.sizeOf187
 v51 := Tryz.zeroValue187
 t146 := Tryz.underlying188
 a146 := Tryz.isAgg188
 z146 := Tryz.sizeOf188
 v146 := Tryz.zeroValue188
 g1 := by kernel_rfl }
theorem Tryz.strings_Contains_one (s : ByteArray) (c : UInt8) (w : World) :
  Calls Tryz.prog 48 #[.string s, .string ⟨#[c]⟩] w fun e w' => e = .returned (.bool (decide (0 ≤ Lib.indexByte s.data.toList c))) ∧ w' = w := Any.strings_Contains_one Tryz.lays144 s c w
def Tryz.lays155_ren : Go.Shelf.Ren := ⟨fun | 155 => 139 | 154 => 164 | 138 => 182 | 165 => 87 | 143 => 99 | 166 => 88 | 197 => 153 | 169 => 89 | 195 => 194 | 218 => 195 | 240 => 134 | 241 => 135 | 219 => 142 | 260 => 172 | 276 => 159 | 277 => 160 | 217 => 156 | 225 => 165 | 224 => 166 | 267 => 167 | 266 => 174 | 314 => 183 | n => n, fun | 9 => 9 | 3 => 3 | 4 => 4 | 72 => 119 | 0 => 0 | 76 => 123 | 105 => 165 | 21 => 21 | 5 => 5 | 70 => 116 | 20 => 20 | 37 => 117 | 75 => 122 | 127 => 153 | 164 => 169 | 46 => 173 | 119 => 194 | 139 => 197 | 138 => 196 | 146 => 188 | 51 => 187 | 80 => 115 | n => n, fun | 1 => 0 | 3 => 2 | 4 => 3 | n => n⟩
theorem Tryz.lays155 : Go.Proofs.Lays.n155 Tryz.prog Tryz.lays155_ren := {
 mixed := by kernel_rfl
 f138 := Tryz.func182.trans (congrArg some (by kernel_rfl))
 f143 := Tryz.func99.trans (congrArg some (by kernel_rfl))
 f154 := Tryz.func164.trans (congrArg some (by kernel_rfl))
 f155 := Tryz.func139.trans (congrArg some (by kernel_rfl))
 f165 := Tryz.func87.trans (congrArg some (by kernel_rfl))
 f166 := Tryz.func88.trans (congrArg some (by kernel_rfl))
 f169 := Tryz.func89.trans (congrArg some (by kernel_rfl))
 f195 := Tryz.func194.trans (congrArg some (by kernel_rfl))
 f197 := Tryz.func153.trans (congrArg some (by kernel_rfl))
 f217 := Tryz.func156.trans (congrArg some (by kernel_rfl))
 f218 := Tryz.func195.trans (congrArg some (by kernel_rfl))
 f219 := Tryz.func142.trans (congrArg some (by kernel_rfl))
 f224 := Tryz.func166.trans (congrArg some (by kernel_rfl))
 f225 := Tryz.func165.trans (congrArg some (by kernel_rfl))
 f240 := Tryz.func134.trans (congrArg some (by kernel_rfl))
 f241 := Tryz.func135.trans (congrArg some (by kernel_rfl))
 f260 := Tryz.func172.trans (congrArg some (by kernel_rfl))
 f266 := Tryz.func174.trans (congrArg some (by kernel_rfl))
 f267 := Tryz.func167.trans (congrArg some (by kernel_rfl))
 f276 := Tryz.func159.trans (congrArg some (by kernel_rfl))
 f277 := Tryz.func160.trans (congrArg some (by kernel_rfl))
 f314 := Tryz.func183.trans (congrArg some (by kernel_rfl))
 t0 := Tryz.underlying0
 a0 := Tryz.isAgg0
 z0 := Tryz.sizeOf0
 v0 := Tryz.zeroValue0
 t3 := Tryz.underlying3
 a3 := Tryz.isAgg3
 z3 := Tryz.sizeOf3
 v3 := Tryz.zeroValue3
 t4 := Tryz.underlying4
 a4 := Tryz.isAgg4
 z4 := Tryz.sizeOf4
 v4 := Tryz.zeroValue4
 t5 := Tryz.underlying5
 a5 := Tryz.isAgg5
 z5 := Tryz.sizeOf5
 v5 := Tryz.zeroValue5
 t9 := Tryz.underlying9
 a9 := Tryz.isAgg9
 z9 := Tryz.sizeOf9
 v9 := Tryz.zeroValue9
 t20 := Tryz.underlying20
 a20 := Tryz.isAgg20
 z20 := Tryz.sizeOf20
 v20 := Tryz.zeroValue20
 t21 := Tryz.underlying21
 a21 := Tryz.isAgg21
 z21 := Tryz.sizeOf21
 v21 := Tryz.zeroValue21
 t37 := Tryz.underlying117
 a37 := Tryz.isAgg117
 z37 := Tryz.sizeOf117
 v37 := Tryz.zeroValue117
 t46 := Tryz.underlying173
 a46 := Tryz.isAgg173
 z46 := Tryz.sizeOf173
 v46 := Tryz.zeroValue173
 t51 := Tryz.underlying187
 a51 := Tryz.isAgg187
 z51 := Tryz.sizeOf187
 v51 := Tryz.zeroValue187
 t70 := Tryz.underlying116
 a70 := Tryz.isAgg116
 z70 := Tryz.sizeOf116
 v70 := Tryz.zeroValue116
 t72 := Tryz.underlying119
 a72 := Tryz.isAgg119
 z72 := Tryz.sizeOf119
 v72 := Tryz.zeroValue119
 t75 := Tryz.underlying122
 a75 := Tryz.isAgg122
 z75 := Tryz.sizeOf122
 v75 := Tryz.zeroValue122
 t76 := Tryz.underlying123
 a76 := Tryz.isAgg123
 z76 := Tryz.sizeOf123
 v76 := Tryz.zeroValue123
 t105 := Tryz.underlying165
 a105 := Tryz.isAgg165
 z105 := Tryz.sizeOf165
 v105 := Tryz.zeroValue165
 t119 := Tryz.underlying194
 a119 := Tryz.isAgg194
 z119 := Tryz.sizeOf194
 t127 := Tryz.underlying153
 a127 := Tryz.isAgg153
 z127 := Tryz.sizeOf153
 v127 := Tryz.zeroValue153
 t138 := Tryz.underlying196
 a138 := Tryz.isAgg196
 z138 := Tryz.sizeOf196
 v138 := Tryz.zeroValue196
 t139 := Tryz.underlying197
 a139 := Tryz.isAgg197
 z139 := Tryz.sizeOf197
 v139 := Tryz.zeroValue197
 t146 := Tryz.underlying188
 a146 := Tryz.isAgg188
 z146 := Tryz.sizeOf188
 v146 := Tryz.zeroValue188
 t164 := Tryz.underlying169
 a164 := Tryz.isAgg169
 z164 := Tryz.sizeOf169
 v164 := Tryz.zeroValue169
 g1 := by kernel_rfl
 g3 := by kernel_rfl
 g4 := by kernel_rfl }
theorem Tryz.Builder_Extra_155 : Builder.Extra Tryz.prog Tryz.lays155_ren := {
 sizeBuilder := by kernel_rfl
 liesBuilder := by kernel_rfl
 t5 := Tryz.underlying5
 a5 := Tryz.isAgg5
 z5 := Tryz.sizeOf5
 v5 := Tryz.zeroValue5
 infoByte := by kernel_rfl
 cellsByte := by kernel_rfl
 sizeByte := by kernel_rfl
 neB5 := by decide }
theorem Tryz.strings_ReplaceAll (s old new : ByteArray) (m : Int) (w : World) (hs : s.size < 4294967281) (hm : w.cell? ⟨0, 0, none⟩ = some (.int .i64 m)) (h1 : 1 ≤ old.size) (hlen : s.size + Lib.countB s old * new.size ≤ 140737488355328) :
  Calls Tryz.prog 139 #[.string s, .string old, .string new] w fun e w' =>
   e = .returned (.string ⟨(Lib.replaceAll s.data.toList old.data.toList new.data.toList).toArray⟩) ∧ Below w.heap.size w w' := Any.strings_ReplaceAll Tryz.lays155 Tryz.Builder_Extra_155 s old new m w hs hm h1 hlen
end Go.Proofs
namespace Go.Lx
open Go.Lib
abbrev Bs := List UInt8
def isD (c : UInt8) : Bool := decide (48 ≤ c.toNat) && decide (c.toNat ≤ 57)
def isL (c : UInt8) : Bool := (decide (97 ≤ c.toNat) && decide (c.toNat ≤ 122)) || (decide (65 ≤ c.toNat) && decide (c.toNat ≤ 90)) || decide (c.toNat = 95)
def isW (c : UInt8) : Bool := isL c || isD c
def isB (c : UInt8) : Bool := decide (c.toNat = 32) || decide (c.toNat = 9) || decide (c.toNat = 10) || decide (c.toNat = 13)
structure Tok where
 kind : Int
 text : Bs
 num : Int
 scale : Int
 deriving DecidableEq
def run (p : UInt8 → Bool) (l : Bs) : Nat := (l.takeWhile p).length
def dig (c : UInt8) : Nat := c.toNat - 48
def valA (n : Nat) (l : Bs) : Nat := l.foldl (fun n c => n * 10 + dig c) n
def val (l : Bs) : Nat := valA 0 l
abbrev Res := Except Int (Tok × Nat)
def word (l : Bs) : Res :=
 if 32 < run isW l then .error 122 else .ok (⟨1, (l.take (run isW l)).map lowerB, 0, 0⟩, run isW l)
def part : Bs → Nat
 | [] => 0
 | c :: r => if c.toNat = 46 then run isD r else 0
def number (l : Bs) : Res :=
 if part (l.drop (run isD l)) = 0 then
  if 19 < run isD l ∨ 9223372036854775807 < val (l.take (run isD l)) then .error 11 else .ok (⟨2, [], val (l.take (run isD l)), 0⟩, run isD l)
 else if 15 < run isD l + part (l.drop (run isD l)) then .error 11
 else .ok (⟨3, [], val (l.take (run isD l) ++ (l.drop (run isD l + 1)).take (part (l.drop (run isD l)))), part (l.drop (run isD l))⟩, run isD l + 1 + part (l.drop (run isD l)))
def txt : Bs → Option (Bs × Nat)
 | [] => none
 | c :: r => if c.toNat = 39 then
     match r with
     | [] => some ([], 1)
     | d :: r' => if d.toNat = 39 then (txt r').map fun x => (39 :: x.1, x.2 + 2) else some ([], 1)
  else (txt r).map fun x => (c :: x.1, x.2 + 1)
def text (l : Bs) : Res :=
 match txt (l.drop 1) with
 | none => .error 121
 | some (b, n) => if 200 < b.length then .error 1 else .ok (⟨4, b, 0, 0⟩, n + 1)
def two (c d : UInt8) : Bool := (decide (c.toNat = 60) && decide (d.toNat = 62)) || (decide (c.toNat = 60) && decide (d.toNat = 61)) || (decide (c.toNat = 62) && decide (d.toNat = 61)) || (decide (c.toNat = 124) && decide (d.toNat = 124))
def ones : Bs := [40, 41, 44, 46, 42, 43, 45, 47, 37, 61, 60, 62]
def sign : Bs → Res
 | [] => .error 120
 | [c] => if c ∈ ones then .ok (⟨5, [c], 0, 0⟩, 1) else .error 120
 | c :: d :: _ => if two c d then .ok (⟨5, [c, d], 0, 0⟩, 2) else if c ∈ ones then .ok (⟨5, [c], 0, 0⟩, 1) else .error 120
def one : Bs → Res
 | [] => .error 120
 | c :: r => if isL c then word (c :: r) else if isD c then number (c :: r) else if c.toNat = 39 then text (c :: r) else sign (c :: r)
def toks : Bs → Except Int (List Tok)
 | [] => .ok []
 | c :: r => if isB c then toks r else
   match one (c :: r) with
   | .error e => .error e
   | .ok (t, n) => match toks (r.drop (n - 1)) with
     | .error e => .error e
     | .ok ts => .ok (t :: ts)
 termination_by l => l.length
 decreasing_by
  ·simp
  ·simp; omega
def tokens (l : Bs) : Except Int (List Tok) := if 4000 < l.length then .error 1 else toks l
theorem run_le (p : UInt8 → Bool) (l : Bs) : run p l ≤ l.length := by
 unfold run
 exact (List.takeWhile_sublist p).length_le
theorem run_cons (p : UInt8 → Bool) (c : UInt8) (r : Bs) : run p (c :: r) = if p c then run p r + 1 else 0 := by
 unfold run
 rw [List.takeWhile_cons]
 split <;> simp
theorem txt_other {c : UInt8} {r : Bs} (h : ¬ c.toNat = 39) : txt (c :: r) = (txt r).map fun x => (c :: x.1, x.2 + 1) := by
 cases r with
 | nil => simp [txt, h]
 | cons d r => rw [txt, if_neg h]
theorem txt_end {c : UInt8} {r : Bs} (h : c.toNat = 39) (h2 : ∀ d r', r = d :: r' → ¬ d.toNat = 39) : txt (c :: r) = some ([], 1) := by
 cases r with
 | nil => rw [txt, if_pos h]
 | cons d r => rw [txt, if_pos h, if_neg (h2 d r rfl)]
theorem txt_two {c d : UInt8} {r : Bs} (h : c.toNat = 39) (h2 : d.toNat = 39) : txt (c :: d :: r) = (txt r).map fun x => (39 :: x.1, x.2 + 2) := by
 rw [txt, if_pos h, if_pos h2]
end Go.Lx
namespace Go.Lx
open Go.Lib
theorem isB_nat {z : UInt8} (h : isB z = true) : z.toNat = 32 ∨ z.toNat = 9 ∨ z.toNat = 10 ∨ z.toNat = 13 := by
 simpa [isB, or_assoc] using h
theorem isB_L {z : UInt8} (h : isB z = true) : isL z = false := by
 have := isB_nat h
 simp [isL]; omega
theorem part_cons (c : UInt8) (r : Bs) : part (c :: r) = if c.toNat = 46 then run isD r else 0 := by rw [part]
end Go.Lx
namespace Go.Lx
open Go.Lib
def digs (n : Nat) : Bs := if h : n ≤ 9 then [UInt8.ofNat (48 + n)] else digs (n / 10) ++ [UInt8.ofNat (48 + n % 10)]
 termination_by n
 decreasing_by omega
theorem digs_one {n : Nat} (h : n ≤ 9) : digs n = [UInt8.ofNat (48 + n)] := by rw [digs, dif_pos h]
theorem digs_more {n : Nat} (h : ¬ n ≤ 9) : digs n = digs (n / 10) ++ [UInt8.ofNat (48 + n % 10)] := by rw [digs, dif_neg h]
theorem digit_nat {k : Nat} (h : k ≤ 9) : (UInt8.ofNat (48 + k)).toNat = 48 + k := by
 simp [UInt8.toNat_ofNat']; omega
theorem digit_D {k : Nat} (h : k ≤ 9) : isD (UInt8.ofNat (48 + k)) = true := by
 rw [isD, digit_nat h]; simp; omega
theorem digit_dig {k : Nat} (h : k ≤ 9) : dig (UInt8.ofNat (48 + k)) = k := by rw [dig, digit_nat h]; omega
theorem digs_len (n : Nat) : 1 ≤ (digs n).length := by
 by_cases h : n ≤ 9
 ·rw [digs_one h]; simp
 ·rw [digs_more h]; simp
theorem digs_le : ∀ (k n : Nat), n < 10 ^ (k + 1) → (digs n).length ≤ k + 1
 | 0, n, h => by rw [digs_one (by simp at h; omega)]; simp
 | k + 1, n, h => by
   by_cases h9 : n ≤ 9
   ·rw [digs_one h9]; simp
   ·rw [digs_more h9]
    have : n / 10 < 10 ^ (k + 1) := by rw [Nat.pow_succ] at h; omega
    have := digs_le k (n / 10) this
    simp; omega
theorem digs_D (n : Nat) : ∀ c ∈ digs n, isD c = true := by
 induction n using Nat.strongRecOn with
 | _ n ih =>
   by_cases h : n ≤ 9
   ·rw [digs_one h]; simp only [List.mem_singleton, forall_eq]; exact digit_D h
   ·rw [digs_more h]
    simp only [List.mem_append, List.mem_singleton]
    rintro c (hc | rfl)
    ·exact ih (n / 10) (by omega) c hc
    ·exact digit_D (by omega)
theorem valA_append (a b : Bs) (n : Nat) : valA n (a ++ b) = valA (valA n a) b := by simp [valA, List.foldl_append]
theorem valA_one (n : Nat) (c : UInt8) : valA n [c] = n * 10 + dig c := rfl
theorem val_digs (n : Nat) : val (digs n) = n := by
 induction n using Nat.strongRecOn with
 | _ n ih =>
   by_cases h : n ≤ 9
   ·rw [digs_one h, val, valA_one, digit_dig h]; omega
   ·have := ih (n / 10) (by omega)
    rw [val] at this ⊢
    rw [digs_more h, valA_append, this, valA_one, digit_dig (by omega)]; omega
theorem val_zeros (k : Nat) (l : Bs) : val (List.replicate k 48 ++ l) = val l := by
 induction k with
 | zero => rfl
 | succ k ih => rw [List.replicate_succ, List.cons_append]; exact ih
theorem run_all {p : UInt8 → Bool} : ∀ {l : Bs}, (∀ c ∈ l, p c = true) → run p l = l.length
 | [], _ => rfl
 | c :: r, h => by rw [run_cons, if_pos (h c (by simp)), run_all (fun x hx => h x (by simp [hx]))]; rfl
theorem run_some {p : UInt8 → Bool} : ∀ {l : Bs} {c : UInt8} {r : Bs}, (∀ c ∈ l, p c = true) → p c = false → run p (l ++ c :: r) = l.length
 | [], c, r, _, hc => by rw [List.nil_append, run_cons, hc]; rfl
 | d :: l, c, r, h, hc => by rw [List.cons_append, run_cons, if_pos (h d (by simp)), run_some (fun x hx => h x (by simp [hx])) hc]; rfl
def dbl : Bs → Bs
 | [] => []
 | c :: r => if c.toNat = 39 then c :: 39 :: dbl r else c :: dbl r
def padz (l : Bs) (k : Nat) : Bs := List.replicate (k + 1 - l.length) 48 ++ l
def wordOf (t : Tok) : Bs :=
 if t.kind = 2 then digs t.num.toNat
 else if t.kind = 3 then (padz (digs t.num.toNat) t.scale.toNat).take ((padz (digs t.num.toNat) t.scale.toNat).length - t.scale.toNat) ++ 46 :: (padz (digs t.num.toNat) t.scale.toNat).drop ((padz (digs t.num.toNat) t.scale.toNat).length - t.scale.toNat)
 else if t.kind = 4 then 39 :: (dbl t.text ++ [39])
 else t.text
inductive OkT : Tok → Prop
 | word (c : UInt8) (r : Bs) (h : isL c = true) (hw : ∀ x ∈ c :: r, isW x = true) (hl : ∀ x ∈ c :: r, lowerB x = x) (hn : r.length < 32) : OkT ⟨1, c :: r, 0, 0⟩
 | int (n : Nat) (h : n ≤ 9223372036854775807) : OkT ⟨2, [], n, 0⟩
 | real (n k : Nat) (hk : 1 ≤ k) (hk' : k ≤ 14) (h : n < 1000000000000000) : OkT ⟨3, [], n, k⟩
 | text (b : Bs) (h : b.length ≤ 200) : OkT ⟨4, b, 0, 0⟩
 | sign1 (c : UInt8) (h : c ∈ ones) : OkT ⟨5, [c], 0, 0⟩
 | sign2 (c d : UInt8) (h : two c d = true) : OkT ⟨5, [c, d], 0, 0⟩
theorem txt_dbl : ∀ (b : Bs), txt (dbl b ++ [39]) = some (b, (dbl b).length + 1)
 | [] => by rw [dbl, List.nil_append, txt_end (by rfl) (fun d r' e => by cases e)]; rfl
 | c :: r => by
   rw [dbl]
   have ih := txt_dbl r
   split
   ·rename_i h
    rw [List.cons_append, List.cons_append, txt_two h rfl, ih]
    have : c = 39 := UInt8.toNat_inj.1 h
    simp [this]
   ·rename_i h
    rw [List.cons_append, txt_other h, ih]; simp
theorem isD_notL {c : UInt8} (h : isD c = true) : isL c = false := by
 simp [isD] at h
 simp [isL]; omega
theorem isD_notB {c : UInt8} (h : isD c = true) : isB c = false := by
 simp [isD] at h
 simp [isB]; omega
theorem isL_notB {c : UInt8} (h : isL c = true) : isB c = false := by
 cases hb : isB c with
 | false => rfl
 | true => rw [isB_L hb] at h; cases h
theorem ok_one {t : Tok} (h : OkT t) : ∃ c r, wordOf t = c :: r ∧ isB c = false ∧ one (c :: r) = .ok (t, r.length + 1) := by
 cases h with
 | word c r h hw hl hn =>
   refine ⟨c, r, by simp [wordOf], isL_notB h, ?_⟩
   have hr := run_all hw
   rw [one, if_pos h, word, hr, if_neg (by simp; omega), List.take_length]
   congr 4
   exact (List.map_congr_left hl).trans (List.map_id _)
 | int n h =>
   have hne := digs_len n
   have hD := digs_D n
   have hv := val_digs n
   have hle := digs_le 18 n (by simp; omega)
   have e : wordOf ⟨2, [], n, 0⟩ = digs n := by simp [wordOf]
   rw [e]
   generalize digs n = l at *
   cases l with
   | nil => simp at hne
   | cons c r =>
     have hc := hD c (by simp)
     refine ⟨c, r, rfl, isD_notB hc, ?_⟩
     have hr := run_all hD
     rw [one, if_neg (by simp [isD_notL hc]), if_pos hc, number, hr, List.drop_length, List.take_length, if_pos (by rfl), hv, if_neg (by simp at hle ⊢; omega)]
     simp
 | real n k hk hk' h =>
   have hD := digs_D n
   have hv := val_digs n
   have hle := digs_le 14 n (by simp; omega)
   have hpl : (padz (digs n) k).length ≤ 15 ∧ k + 1 ≤ (padz (digs n) k).length := by simp [padz]; omega
   have hpD : ∀ c ∈ padz (digs n) k, isD c = true := by
    intro c hc
    simp only [padz, List.mem_append, List.mem_replicate] at hc
    rcases hc with ⟨_, rfl⟩ | hc
    ·rfl
    ·exact hD c hc
   have hpv : val (padz (digs n) k) = n := by rw [padz, val_zeros, hv]
   have e : wordOf ⟨3, [], n, k⟩ = (padz (digs n) k).take ((padz (digs n) k).length - k) ++ 46 :: (padz (digs n) k).drop ((padz (digs n) k).length - k) := by simp [wordOf]
   rw [e]
   generalize padz (digs n) k = l at *
   have ha : ∀ c ∈ l.take (l.length - k), isD c = true := fun c hc => hpD c (List.mem_of_mem_take hc)
   have hb : ∀ c ∈ l.drop (l.length - k), isD c = true := fun c hc => hpD c (List.mem_of_mem_drop hc)
   have la : (l.take (l.length - k)).length = l.length - k := by rw [List.length_take]; omega
   have lb : (l.drop (l.length - k)).length = k := by rw [List.length_drop]; omega
   have lj : l.take (l.length - k) ++ l.drop (l.length - k) = l := List.take_append_drop _ _
   generalize hw : l.length - k = w at *
   generalize l.take w = a at *
   generalize l.drop w = b at *
   cases a with
   | nil => simp at la; omega
   | cons c r =>
     have hc := ha c (by simp)
     refine ⟨c, r ++ 46 :: b, rfl, isD_notB hc, ?_⟩
     have hr : run isD (c :: (r ++ 46 :: b)) = w := by rw [← List.cons_append, run_some ha (by rfl), la]
     have hdrop : (c :: (r ++ 46 :: b)).drop w = 46 :: b := by rw [← List.cons_append, ← la, List.drop_left]
     have hdrop1 : (c :: (r ++ 46 :: b)).drop (w + 1) = b := by
      have : (c :: (r ++ 46 :: b)).drop (w + 1) = ((c :: (r ++ 46 :: b)).drop w).drop 1 := by rw [List.drop_drop]
      rw [this, hdrop]; rfl
     have htake : (c :: (r ++ 46 :: b)).take w = c :: r := by rw [← List.cons_append, ← la, List.take_left]
     have hpart : part (46 :: b) = k := by rw [part_cons, if_pos (by rfl), run_all hb, lb]
     rw [one, if_neg (by simp [isD_notL hc]), if_pos hc, number, hr, hdrop, hpart, if_neg (by omega), if_neg (by omega), htake, hdrop1]
     have : b.take k = b := by rw [← lb, List.take_length]
     rw [this, lj, hpv]
     simp at la ⊢
     omega
 | text b h =>
   refine ⟨39, dbl b ++ [39], by simp [wordOf], by rfl, ?_⟩
   rw [one, if_neg (by decide), if_neg (by decide), if_pos (by rfl), text, List.drop_succ_cons, List.drop_zero, txt_dbl]
   simp only
   rw [if_neg (by omega)]
   simp
 | sign1 c h =>
   refine ⟨c, [], by simp [wordOf], ?_, ?_⟩
   ·simp [ones] at h
    rcases h with rfl | rfl | rfl | rfl | rfl | rfl | rfl | rfl | rfl | rfl | rfl | rfl <;> rfl
   ·have : isL c = false ∧ isD c = false ∧ ¬ c.toNat = 39 := by
     simp only [ones, List.mem_cons, List.mem_nil_iff, or_false] at h
     rcases h with rfl | rfl | rfl | rfl | rfl | rfl | rfl | rfl | rfl | rfl | rfl | rfl <;> decide
    rw [one, if_neg (by simp [this.1]), if_neg (by simp [this.2.1]), if_neg this.2.2, sign, if_pos h]; rfl
 | sign2 c d h =>
   have h' : (c.toNat = 60 ∨ c.toNat = 62 ∨ c.toNat = 124) := by
    simp [two] at h; omega
   refine ⟨c, [d], by simp [wordOf], by simp [isB]; omega, ?_⟩
   rw [one, if_neg (by simp [isL]; omega), if_neg (by simp [isD]; omega), if_neg (by omega), sign, if_pos h]; rfl
theorem wordOf_len {t : Tok} (h : OkT t) : (wordOf t).length ≤ 1000 := by
 cases h with
 | word c r h hw hl hn => simp [wordOf]; omega
 | int n h =>
   have hle := digs_le 18 n (by simp; omega)
   simp [wordOf]; omega
 | real n k hk hk' h =>
   have hle := digs_le 14 n (by simp; omega)
   simp [wordOf, padz]; omega
 | text b h =>
   have : ∀ b : Bs, (dbl b).length ≤ 2 * b.length := by
    intro b
    induction b with
    | nil => simp [dbl]
    | cons c r ih => rw [dbl]; split <;> simp <;> omega
   have := this b
   simp [wordOf]; omega
 | sign1 c h => simp [wordOf]
 | sign2 c d h => simp [wordOf]
end Go.Lx
set_option linter.unusedSimpArgs false
namespace Go.Abs
open Go Go.RowKit Go.Proofs
def tbl (G : Nat → AVal) : FuncId → Option AFn
 | 24 => some (f24 G)
 | 105 => some (f105 G)
 | 71 => some (f71 G)
 | 72 => some (f72 G)
 | 73 => some (f73 G)
 | 74 => some (f74 G)
 | 75 => some (f75 G)
 | 76 => some (f76 G)
 | 77 => some (f77 G)
 | 102 => some (f102 G)
 | 103 => some (f103 G)
 | 112 => some (f112 G)
 | 113 => some (f113 G)
 | 114 => some (f114 G)
 | 116 => some (f116 G)
 | 118 => some (f118 G)
 | 119 => some (f119 G)
 | 143 => some (f143 G)
 | 144 => some (f144 G)
 | 155 => some (f155 G)
 | 152 => some (f152 G)
 | 157 => some (f157 G)
 | _ => none
theorem tbl_c (G : Nat → AVal) : ∀ f fn, tbl G f = some fn → ∃ rows, cmpFn Tryz.prog G rows f = some fn := by
 intro f fn h
 unfold tbl at h
 split at h
 ·simp only [Option.some.injEq] at h; rw [← h]; exact ⟨_, f24_c G⟩
 ·simp only [Option.some.injEq] at h; rw [← h]; exact ⟨_, f105_c G⟩
 ·simp only [Option.some.injEq] at h; rw [← h]; exact ⟨_, f71_c G⟩
 ·simp only [Option.some.injEq] at h; rw [← h]; exact ⟨_, f72_c G⟩
 ·simp only [Option.some.injEq] at h; rw [← h]; exact ⟨_, f73_c G⟩
 ·simp only [Option.some.injEq] at h; rw [← h]; exact ⟨_, f74_c G⟩
 ·simp only [Option.some.injEq] at h; rw [← h]; exact ⟨_, f75_c G⟩
 ·simp only [Option.some.injEq] at h; rw [← h]; exact ⟨_, f76_c G⟩
 ·simp only [Option.some.injEq] at h; rw [← h]; exact ⟨_, f77_c G⟩
 ·simp only [Option.some.injEq] at h; rw [← h]; exact ⟨_, f102_c G⟩
 ·simp only [Option.some.injEq] at h; rw [← h]; exact ⟨_, f103_c G⟩
 ·simp only [Option.some.injEq] at h; rw [← h]; exact ⟨_, f112_c G⟩
 ·simp only [Option.some.injEq] at h; rw [← h]; exact ⟨_, f113_c G⟩
 ·simp only [Option.some.injEq] at h; rw [← h]; exact ⟨_, f114_c G⟩
 ·simp only [Option.some.injEq] at h; rw [← h]; exact ⟨_, f116_c G⟩
 ·simp only [Option.some.injEq] at h; rw [← h]; exact ⟨_, f118_c G⟩
 ·simp only [Option.some.injEq] at h; rw [← h]; exact ⟨_, f119_c G⟩
 ·simp only [Option.some.injEq] at h; rw [← h]; exact ⟨_, f143_c G⟩
 ·simp only [Option.some.injEq] at h; rw [← h]; exact ⟨_, f144_c G⟩
 ·simp only [Option.some.injEq] at h; rw [← h]; exact ⟨_, f155_c G⟩
 ·simp only [Option.some.injEq] at h; rw [← h]; exact ⟨_, f152_c G⟩
 ·simp only [Option.some.injEq] at h; rw [← h]; exact ⟨_, f157_c G⟩
 ·cases h
def ext : FuncId → List AVal → Option AVal
 | 104, [.str l] => if l.all (fun b => decide (b.toNat < 128)) && decide (l.length ≤ 140737488355328) then some (.str (Lib.toLowerA l)) else none
 | 117, [.str l, .atom (.int .u8 c)] => some (.int (Lib.indexByte l c.toNat.toUInt8))
 | _, _ => none
theorem vs_one {F m} {x : AVal} {vs : Array Value} (h : RelL F m [x] vs) : ∃ v, vs = #[v] ∧ Rel F m x v := by
 obtain ⟨hl, hg⟩ := h
 obtain ⟨l⟩ := vs
 match l, hl with
 | [v], _ => exact ⟨v, rfl, hg 0 (by simp)⟩
theorem vs_two {F m} {x y : AVal} {vs : Array Value} (h : RelL F m [x, y] vs) : ∃ u v, vs = #[u, v] ∧ Rel F m x u ∧ Rel F m y v := by
 obtain ⟨hl, hg⟩ := h
 obtain ⟨l⟩ := vs
 match l, hl with
 | [u, v], _ => exact ⟨u, v, rfl, hg 0 (by simp), hg 1 (by simp)⟩
theorem ext_ok {β : Base} : ∀ f args v, ext f args = some v → ∀ S, ACalls Tryz.prog β f args S fun e S' => e = .ret v ∧ S' = S := by
 intro f args v h S
 unfold ext at h
 split at h
 ·rename_i l
  split at h
  ·rename_i hc
   simp only [Bool.and_eq_true, decide_eq_true_eq, List.all_eq_true] at hc
   simp only [Option.some.injEq] at h
   subst h
   refine ACalls.lift (by kernel_rfl) fun F m vs w hv => ?_
   obtain ⟨u, rfl, hu⟩ := vs_one hv
   obtain rfl := hu.str_inv
   refine (Tryz.strings_ToLower_ascii ⟨l.toArray⟩ w (by simpa [ByteArray.size] using hc.2) (fun j b hb => hc.1 b (by simpa using List.mem_of_getElem? hb))).mono fun e w' ⟨he, hb⟩ => ?_
   exact ⟨_, he, .str _, hb⟩
  ·cases h
 ·rename_i l c
  simp only [Option.some.injEq] at h
  subst h
  refine ACalls.lift (by kernel_rfl) fun F m vs w hv => ?_
  obtain ⟨u1, u2, rfl, h1, h2⟩ := vs_two hv
  obtain rfl := h1.str_inv
  obtain rfl := h2.int_inv
  refine (Tryz.strings_IndexByte ⟨l.toArray⟩ c w).mono fun e w' ⟨he, hw⟩ => ?_
  subst hw
  exact ⟨_, he, .atom _, Below.refl _ _⟩
 ·cases h
theorem tryOrd : Tryz.prog.follows .mixedOrders = true := by kernel_rfl
end Go.Abs
namespace Go.Abs
open Go Go.RowKit Go.Proofs Go.Lx
abbrev B0 (w : World) : Base := ⟨w, fun _ => .top⟩
abbrev bv (c : UInt8) : AVal := .atom (.int .u8 (c.toNat : Int))
variable {w0 : World}
def tb2 (G : Nat → AVal) : FuncId → Option AFn
 | 149 => some (f149 G)
 | 150 => some (f150 G)
 | 151 => some (f151 G)
 | n => tbl G n
theorem tb2_c (G : Nat → AVal) : ∀ f fn, tb2 G f = some fn → ∃ rows, cmpFn Tryz.prog G rows f = some fn := by
 intro f fn h
 unfold tb2 at h
 split at h
 ·simp only [Option.some.injEq] at h; rw [← h]; exact ⟨_, f149_c G⟩
 ·simp only [Option.some.injEq] at h; rw [← h]; exact ⟨_, f150_c G⟩
 ·simp only [Option.some.injEq] at h; rw [← h]; exact ⟨_, f151_c G⟩
 ·exact tbl_c G _ _ h
def gives (o : Option (List (AEnd × Heap))) (v : AVal) : Bool :=
 match o with
 | some [(.ret u, [])] => u.same v
 | _ => false
theorem gives_eq {o : Option (List (AEnd × Heap))} {v : AVal} (h : gives o v = true) : o = some [(.ret v, [])] := by
 unfold gives at h
 split at h
 ·rw [AVal.same_eq h]
 ·cases h
theorem runY {f : FuncId} {args : List AVal} {v : AVal} {n : Nat} (ha : scL 0 args = true) (hv : v.solid = true) (h : gives (callY ext (tb2 fun _ => .top) n f args []) v = true) (S : Heap) :
  ACalls Tryz.prog (B0 w0) f args S fun e S' => e = .ret v ∧ S' = S :=
 ACalls.frameV (fun _ => rfl) ha hv fun w1 => callY_sound tryOrd ext_ok (tb2_c _) n f args [] _ (gives_eq h) _ (fun o ho => by
  rw [List.mem_singleton.1 ho]; exact ⟨rfl, rfl⟩)
def tryAll (f : FuncId) (p : UInt8 → AVal) : Bool := (List.range 256).all fun n => gives (callY ext (tb2 fun _ => .top) 20 f [.atom (.int .u8 n)] []) (p (UInt8.ofNat n))
theorem bytewise {f : FuncId} {p : UInt8 → AVal} (hp : ∀ c, (p c).solid = true) (h : tryAll f p = true) (c : UInt8) (S : Heap) : ACalls Tryz.prog (B0 w0) f [bv c] S fun e S' => e = .ret (p c) ∧ S' = S := by
 have := List.all_eq_true.1 h c.toNat (List.mem_range.2 c.toNat_lt)
 simp only [UInt8.ofNat_toNat] at this
 exact runY rfl (hp c) this S
theorem w73 (c : UInt8) (S : Heap) : ACalls Tryz.prog (B0 w0) 73 [bv c] S fun e S' => e = .ret (.bool (Lx.isL c)) ∧ S' = S := bytewise (p := fun c => .bool (Lx.isL c)) (fun _ => rfl) (by kernel_rfl) c S
theorem w103 (c : UInt8) (S : Heap) : ACalls Tryz.prog (B0 w0) 103 [bv c] S fun e S' => e = .ret (.bool (isW c)) ∧ S' = S := bytewise (p := fun c => .bool (isW c)) (fun _ => rfl) (by kernel_rfl) c S
theorem w149 (c : UInt8) (S : Heap) : ACalls Tryz.prog (B0 w0) 149 [bv c] S fun e S' => e = .ret (.bool (Lx.isL c)) ∧ S' = S := bytewise (p := fun c => .bool (Lx.isL c)) (fun _ => rfl) (by kernel_rfl) c S
theorem w150 (c : UInt8) (S : Heap) : ACalls Tryz.prog (B0 w0) 150 [bv c] S fun e S' => e = .ret (bv (Lib.lowerB c)) ∧ S' = S := bytewise (p := fun c => bv (Lib.lowerB c)) (fun _ => rfl) (by kernel_rfl) c S
theorem w151 (c : UInt8) (S : Heap) : ACalls Tryz.prog (B0 w0) 151 [bv c] S fun e S' => e = .ret (.bool (isD c)) ∧ S' = S := bytewise (p := fun c => .bool (isD c)) (fun _ => rfl) (by kernel_rfl) c S
end Go.Abs
namespace Go.Abs
open Go Go.RowKit Go.Proofs Go.Lx
variable {w0 : World}
def Tells (w0 : World) (q : FuncId) (p : UInt8 → Bool) : Prop := ∀ (c : UInt8) (S : Heap), ACalls Tryz.prog (B0 w0) q [bv c] S fun e S' => e = .ret (.bool (p c)) ∧ S' = S
theorem w144 {q : FuncId} {p : UInt8 → Bool} (hq : Tells w0 q p) {S : Heap} {id : Nat} {cap : Option Nat} (hS : S[id]? = some (.cells 1 [[.clo (.func q) [] []]] cap)) (c : UInt8) :
  ACalls Tryz.prog (B0 w0) 144 [bv c, .ptr id 0 0] S fun e S' => e = .ret (.bool (!p c)) ∧ S' = S := by
 refine fn_sound tryOrd (f144_c _) (by simp [f144]) ?_
 simp [f144, f144m, hS]
 refine (hq c S).use ?_
 rintro e S1 ⟨rfl, rfl⟩
 simp
theorem run_le_iff {p : UInt8 → Bool} : ∀ {l : Bs} {i : Nat} (h : i < l.length), i ≤ run p l → (p l[i] = true ↔ i < run p l)
 | c :: r, 0, h, _ => by
   rw [run_cons]
   by_cases hc : p c = true
   ·simp [hc]
   ·simp [hc]
 | c :: r, i + 1, h, hi => by
   rw [run_cons] at hi ⊢
   by_cases hc : p c = true
   ·rw [if_pos hc] at hi ⊢
    have := run_le_iff (p := p) (l := r) (i := i) (by simpa using h) (by omega)
    simp only [List.getElem_cons_succ]
    rw [this]; omega
   ·rw [if_neg hc] at hi; omega
theorem w143 {q : FuncId} {p : UInt8 → Bool} (hq : Tells w0 q p) {S : Heap} {id : Nat} {cap : Option Nat} (hS : S[id]? = some (.cells 1 [[.clo (.func q) [] []]] cap)) {v : AVal} {l : Bs} (hv : Rk 1 S v (l.map u8)) (hl : l.length ≤ 4194304) :
  ACalls Tryz.prog (B0 w0) 143 [v, .clo (.func 144) [] [.ptr id 0 0]] S fun e S' => e = .ret (.int (if run p l < l.length then run p l else -1)) ∧ S' = S := by
 refine fn_sound tryOrd (f143_c _) (by simp [f143]) ?_
 simp [f143, f143m, hv.lenR]
 refine mwp_loop (I := fun n a S' => ∃ i : Nat, n = l.length - i ∧ i ≤ l.length ∧ get a 0 = v ∧ get a 1 = .clo (.func 144) [] [.ptr id 0 0] ∧ get a 7 = .int l.length ∧ get a 8 = .int i ∧ S' = S ∧ i ≤ run p l) (n := l.length) ?_ ?_
 ·exact ⟨0, rfl, Nat.zero_le _, rfl, rfl, rfl, rfl, rfl, Nat.zero_le _⟩
 rintro n a S' ⟨i, rfl, hi, a0, a1, a7, a8, rfl, hr⟩
 by_cases hlt : i < l.length
 ·obtain ⟨pp, q1, q2⟩ := hv.byte hlt
  have hiff := run_le_iff (p := p) hlt hr
  simp [f143b0, a0, a1, a7, a8, hlt, q1, q2]
  refine (w144 hq hS l[i]).use ?_
  rintro e S1 ⟨rfl, rfl⟩
  by_cases hp : p l[i] = true
  ·have := hiff.1 hp
   simp [hp, a0, a1, a7, a8, wrapS i (by omega)]
   exact ⟨l.length - (i + 1), by omega, i + 1, rfl, by omega, by simp, by omega⟩
  ·have h1 : ¬ i < run p l := fun h => hp (hiff.2 h)
   have h2 : run p l = i := by omega
   simp [hp, a0, a1, a7, a8, h2, hlt]
 ·have := run_le p l
  have h1 : ¬ run p l < l.length := by omega
  simp [f143b0, a0, a1, a7, a8, hlt, h1]
theorem w102 {q : FuncId} {p : UInt8 → Bool} (hq : Tells w0 q p) (l : Bs) (hl : l.length ≤ 4194304) (S : Heap) :
  ACalls Tryz.prog (B0 w0) 102 [.str l, .clo (.func q) [] []] S fun e S' => e = .ret (.int (run p l)) ∧ S' = S := by
 refine ACalls.close (R := fun e S' => e = .ret (.int (run p l)) ∧ S'.take S.length = S) ?_ ?_
 rotate_left 1
 ·rintro e S' ⟨rfl, ht⟩
  exact .flat ht rfl ⟨rfl, rfl⟩
 refine fn_sound tryOrd (f102_c _) (by simp [f102]) ?_
 simp [f102, f102m]
 refine (w143 hq (id := S.length) (cap := some 1) (by simp) (v := .row (S.length + 1) 0 l.length) (l := l) ?_ hl).use ?_
 ·have := Rk.row (k := 1) (S := S ++ [.cells 1 [[.clo (.func q) [] []]] (some 1), .cells 1 (l.map u8) none]) (S.length + 1) 0 l.length (l.map u8) none (by simp) (by simp)
  rw [List.drop_zero, List.take_of_length_le (by simp)] at this
  exact this
 rintro e S1 ⟨rfl, rfl⟩
 have hle := run_le p l
 by_cases hlt : run p l < l.length
 ·have h0 : (0 : Int) ≤ (run p l : Int) := by omega
  simp [hlt, h0]
 ·have : run p l = l.length := by omega
  simp [hlt, this]
def tokC (t : Tok) : List AVal := [.int t.kind, .str t.text, .int t.num, .int t.scale]
end Go.Abs
namespace Go.Abs
open Go Go.RowKit Go.Proofs Go.Lx
variable {w0 : World}
end Go.Abs
namespace Go.Abs
open Go Go.RowKit Go.Proofs Go.Lx
variable {w0 : World}
def strs (L : List Bs) : List (List AVal) := L.map fun s => [.str s]
@[simp] theorem strs_len (L : List Bs) : (strs L).length = L.length := by simp [strs]
theorem strs_get (L : List Bs) (i : Nat) (h : i < L.length) : (strs L).getD i [] = [.str L[i]] := by
 rw [getD_eq _ _ _ (by simpa using h)]; simp [strs]
end Go.Abs
namespace Go.Abs
open Go Go.RowKit Go.Proofs Go.Lx
variable {w0 : World}
def toksV (ts : List Tok) : List (List AVal) := ts.map tokC
@[simp] theorem toksV_len (ts : List Tok) : (toksV ts).length = ts.length := by simp [toksV]
theorem toksV_k (ts : List Tok) : ∀ e ∈ toksV ts, e.length = 4 := by simp [toksV, tokC]
end Go.Abs
namespace Go.Abs
open Go Go.RowKit Go.Proofs Go.Lx
variable {w0 : World}
def resv : List Bs := [[97, 110, 100], [97, 115], [98, 101, 103, 105, 110], [98, 111, 111, 108], [98, 121], [99, 111, 109, 109, 105, 116], [99, 114, 101, 97, 116, 101], [100, 101, 108, 101, 116, 101], [100, 101, 115, 99], [100, 114, 111, 112],
 [102, 97, 108, 115, 101], [102, 114, 111, 109], [105, 110, 100, 101, 120], [105, 110, 102, 105, 110, 105, 116, 121], [105, 110, 110, 101, 114], [105, 110, 115, 101, 114, 116], [105, 110, 116], [105, 110, 116, 111], [105, 115], [106, 111, 105, 110],
 [110, 97, 110], [110, 111, 116], [110, 117, 108, 108], [111, 110], [111, 114], [111, 114, 100, 101, 114], [114, 101, 97, 108], [114, 111, 108, 108, 98, 97, 99, 107], [115, 101, 108, 101, 99, 116], [115, 101, 116], [116, 97, 98, 108, 101], [116, 101, 120, 116],
 [116, 114, 117, 101], [117, 110, 105, 113, 117, 101], [117, 112, 100, 97, 116, 101], [118, 97, 108, 117, 101, 115], [119, 104, 101, 114, 101]]
set_option maxRecDepth 100000 in
set_option maxHeartbeats 4000000 in
theorem w105 (x : Bs) (S : Heap) : ACalls Tryz.prog (B0 w0) 105 [.str x] S fun e S' => e = .ret (.bool (decide (x ∈ resv))) ∧ S' = S := by
 by_cases h : x ∈ resv
 ·rw [decide_eq_true h]
  simp only [resv, List.mem_cons, List.mem_nil_iff, or_false] at h
  refine fn_sound tryOrd (f105_c _) (by simp [f105]) ?_
  rcases h with rfl | rfl | rfl | rfl | rfl | rfl | rfl | rfl | rfl | rfl | rfl | rfl | rfl | rfl | rfl | rfl | rfl | rfl | rfl | rfl | rfl | rfl | rfl | rfl | rfl | rfl | rfl | rfl | rfl | rfl | rfl | rfl | rfl | rfl | rfl | rfl | rfl
  all_goals simp [f105, f105m]
 ·rw [decide_eq_false h]
  simp only [resv, List.mem_cons, List.mem_nil_iff, or_false, not_or] at h
  refine fn_sound tryOrd (f105_c _) (by simp [f105]) ?_
  simp [f105, f105m, h]
theorem resv_len : resv.length = 37 := rfl
set_option maxHeartbeats 4000000 in
theorem w148 (x : Bs) (S : Heap) : ACalls Tryz.prog (B0 w0) 148 [.str x] S fun e S' => e = .ret (.bool (decide (x ∈ resv))) ∧ S' = S := by
 refine ACalls.close (R := fun e S' => e = .ret (.bool (decide (x ∈ resv))) ∧ S'.take S.length = S) ?_ ?_
 rotate_left 1
 ·rintro e S' ⟨rfl, ht⟩
  exact .flat ht rfl ⟨rfl, rfl⟩
 refine fn_sound tryOrd (f148_c _) (by simp [f148]) ?_
 simp [f148, f148m]
 refine mwp_loop (I := fun q a S' => ∃ i : Nat, q = 37 - i ∧ i ≤ 37 ∧ get a 0 = .str x ∧ get a 3 = .ptr S.length 0 0 ∧ get a 4 = .int i ∧ S' = S ++ [.cells 37 [resv.map .str] (some 1)] ∧ x ∉ resv.take i) (n := 37) ?_ ?_
 ·exact ⟨0, rfl, by omega, rfl, rfl, rfl, rfl, by simp⟩
 rintro q a S1 ⟨i, rfl, hi, a0, a3, a4, rfl, hnot⟩
 by_cases hlt : i < 37
 ·have hlt' : i < resv.length := by rw [resv_len]; exact hlt
  have hi37 : (i : Int) < 37 := by omega
  have hwi := wrapS i (by omega)
  by_cases hx : resv[i] = x
  ·have hm : x ∈ resv := hx ▸ List.getElem_mem hlt'
   simp [f148b0, a0, a3, a4, hlt, hlt', hi37, resv_len, hx, hm]
   omega
  ·simp [f148b0, a0, a3, a4, hlt, hlt', hi37, resv_len, hx, hwi]
   exact ⟨by omega, 37 - (i + 1), by omega, i + 1, rfl, by omega, by simp, not_mem_take_succ hnot hlt' hx⟩
 ·obtain rfl : i = 37 := by omega
  have hm : x ∉ resv := hnot
  simp [f148b0, a0, a3, a4, hm]
def nameB (x : Bs) : Bool := decide (1 ≤ x.length) && decide (x.length ≤ 32) && Lx.isL (x[0]?.getD 0) && x.all (fun c => isW c && decide (Lib.lowerB c = c)) && !decide (x ∈ resv)
theorem run_eq_len {p : UInt8 → Bool} : ∀ {l : Bs}, run p l = l.length ↔ l.all p = true
 | [] => by simp [run]
 | c :: r => by
   rw [run_cons]
   have ih := run_eq_len (p := p) (l := r)
   by_cases h : p c = true
   ·simp only [h, if_true, List.length_cons, List.all_cons, Bool.true_and]; rw [← ih]; omega
   ·have h' : p c = false := by simpa using h
    simp [h']
theorem map_lower_eq : ∀ {l : Bs}, l.map Lib.lowerB = l ↔ l.all (fun c => decide (Lib.lowerB c = c)) = true
 | [] => by simp
 | c :: r => by
   have ih := map_lower_eq (l := r)
   simp only [List.map_cons, List.cons.injEq, List.all_cons, Bool.and_eq_true, decide_eq_true_eq]
   rw [ih]
theorem all_and {l : Bs} {p q : UInt8 → Bool} : l.all (fun c => p c && q c) = (l.all p && l.all q) := by
 induction l with
 | nil => rfl
 | cons c r ih => simp only [List.all_cons, ih]; cases p c <;> cases q c <;> cases r.all p <;> cases r.all q <;> rfl
set_option maxHeartbeats 2000000 in
theorem w107 (x : Bs) (S : Heap) : ACalls Tryz.prog (B0 w0) 107 [.str x] S fun e S' => e = .ret (.bool (nameB x)) ∧ S' = S := by
 have w148' := fun S => w148 (w0 := w0) x S
 refine fn_sound tryOrd (f107_c _) (by simp [f107]) ?_
 by_cases h1 : 1 ≤ x.length
 rotate_left 1
 ·have h1' : (x.length : Int) < 1 := by omega
  simp [f107, f107m, h1', nameB, h1]
 have h1' : ¬ (x.length : Int) < 1 := by omega
 by_cases h2 : x.length ≤ 32
 rotate_left 1
 ·have h2' : (32 : Int) < (x.length : Int) := by omega
  simp [f107, f107m, h1', h2', nameB, h2]
 have h2' : ¬ (32 : Int) < (x.length : Int) := by omega
 have h0 : 0 < x.length := by omega
 simp [f107, f107m, h1', h2']
 refine (w148' _).use ?_
 rintro e S1 ⟨rfl, rfl⟩
 by_cases hm : x ∈ resv
 ·simp [hm, nameB]
 have w149' := fun S => w149 (w0 := w0) x[0] S
 simp [hm, h0]
 refine (w149' _).use ?_
 rintro e S1 ⟨rfl, rfl⟩
 by_cases hL : Lx.isL x[0] = true
 rotate_left 1
 ·simp [hL, nameB, h0]
 have hnm : nameB x = x.all fun c => isW c && decide (Lib.lowerB c = c) := by
  simp [nameB, hm, h1, h2, h0, hL]
 rw [hnm]
 simp [hL]
 refine mwp_loop (I := fun q a S' => ∃ i : Nat, q = x.length - i ∧ i ≤ x.length ∧ get a 0 = .str x ∧ get a 3 = .int i ∧ S' = S1 ∧ (x.take i).all (fun c => isW c && decide (Lib.lowerB c = c)) = true) (n := x.length) ?_ ?_
 ·exact ⟨0, rfl, Nat.zero_le _, rfl, rfl, rfl, by simp⟩
 rintro q a S2 ⟨i, rfl, hi, a0, a3, rfl, hall⟩
 by_cases hlt : i < x.length
 ·have w150' := fun S => w150 (w0 := w0) x[i] S
  have w149' := fun S => w149 (w0 := w0) x[i] S
  have w151' := fun S => w151 (w0 := w0) x[i] S
  have hwi := wrapS i (by omega)
  have hmem : x[i] ∈ x := List.getElem_mem hlt
  simp [f107b0, a0, a3, hlt]
  refine (w150' _).use ?_
  rintro e S1 ⟨rfl, rfl⟩
  by_cases hlow : Lib.lowerB x[i] = x[i]
  rotate_left 1
  ·have hlow' : (((Lib.lowerB x[i]).toNat : Int) != (x[i].toNat : Int)) = true := by
    rw [bne_iff_ne]; intro e; exact hlow (UInt8.toNat_inj.1 (by omega))
   have hf : (x.all fun c => isW c && decide (Lib.lowerB c = c)) = false := by
    rw [List.all_eq_false]
    exact ⟨x[i], hmem, by simp [hlow]⟩
   simp [a0, a3, hlt, hlow', hf]
  ·have hstep : isW x[i] = true → (x.take (i + 1)).all (fun c => isW c && decide (Lib.lowerB c = c)) = true := fun h => by
    rw [List.take_add_one, List.getElem?_eq_getElem hlt, Option.toList_some, List.all_append, hall]
    simp [h, hlow]
   simp [a0, a3, hlt, hlow]
   refine (w149' _).use ?_
   rintro e S1 ⟨rfl, rfl⟩
   by_cases hL2 : Lx.isL x[i] = true
   ·simp [a0, a3, hlt, hL2, hwi]
    have := hstep (by simp [isW, hL2])
    refine ⟨x.length - (i + 1), by omega, i + 1, rfl, by omega, by simp, by simpa using this⟩
   ·simp [a0, a3, hlt, hL2]
    refine (w151' _).use ?_
    rintro e S1 ⟨rfl, rfl⟩
    by_cases hD : isD x[i] = true
    ·simp [a0, a3, hD, hwi]
     have := hstep (by simp [isW, hD])
     refine ⟨x.length - (i + 1), by omega, i + 1, rfl, by omega, by simp, by simpa using this⟩
    ·have hf : (x.all fun c => isW c && decide (Lib.lowerB c = c)) = false := by
      rw [List.all_eq_false]
      exact ⟨x[i], hmem, by simp [isW, hL2, hD]⟩
     simp [a0, a3, hD, hf]
 ·obtain rfl : i = x.length := by omega
  rw [List.take_length] at hall
  simp [f107b0, a0, a3, hall]
end Go.Abs
namespace Go.Pz
open Go.Lx (Bs Tok)
inductive Ex where
 | mk (op : Int) (args : List Ex) (kind num scale : Int) (text qual : Bs)
 deriving Inhabited
def Ex.zero : Ex := .mk 0 [] 0 0 0 [] []
abbrev Ex.un (op : Int) (x : Ex) : Ex := .mk op [x] 0 0 0 [] []
abbrev Ex.bin (op : Int) (x y : Ex) : Ex := .mk op [x, y] 0 0 0 [] []
abbrev Ex.const (kind num scale : Int) (text : Bs) : Ex := .mk 21 [] kind num scale text []
abbrev Ex.col (text qual : Bs) : Ex := .mk 22 [] 0 0 0 text qual
mutual
def Ex.depth : Ex → Nat
 | .mk _ args _ _ _ _ _ => depthL args
def depthL : List Ex → Nat
 | [] => 0
 | x :: r => max (x.depth + 1) (depthL r)
end
mutual
def Ex.w : Ex → Nat
 | .mk _ args _ _ _ _ _ => wL args
def wL : List Ex → Nat
 | [] => 0
 | x :: r => x.w + 1 + wL r
end
structure Col where
 name : Bs
 type : Int
 req : Bool
 deriving DecidableEq, Inhabited
structure Itm where
 e : Ex
 name : Bs
 deriving Inhabited
structure Src where
 table : Bs
 alias : Bs
 on : Ex
 deriving Inhabited
structure Srt where
 e : Ex
 desc : Bool
 deriving Inhabited
structure Asn where
 col : Bs
 e : Ex
 deriving Inhabited
structure Stm where
 kind : Int := 0
 table : Bs := []
 index : Bs := []
 cols : List Col := []
 names : List Bs := []
 uniq : Bool := false
 rows : List (List Ex) := []
 items : List Itm := []
 src : List Src := []
 wher : Ex := .zero
 order : List Srt := []
 sets : List Asn := []
 deriving Inhabited
abbrev Res (α : Type) := Except Int (α × List Tok)
def isT (k : Int) (s : Bs) : List Tok → Bool
 | [] => false
 | t :: _ => decide (t.kind = k ∧ t.text = s)
def skip (k : Int) (s : Bs) (l : List Tok) : Option (List Tok) := if isT k s l then some l.tail else none
def need (k : Int) (s : Bs) (l : List Tok) : Except Int (List Tok) := if isT k s l then .ok l.tail else .error 130
def nameR (resv : List Bs) : List Tok → Res Bs
 | [] => .error 130
 | t :: r => if t.kind = 1 ∧ t.text ∉ resv then .ok (t.text, r) else .error 130
def chainF (f : List Tok → Res Ex) (o : List Tok → Option (Int × List Tok)) : Nat → Ex → List Tok → Res Ex
 | 0, e, l => .ok (e, l)
 | n + 1, e, l => match o l with
   | none => .ok (e, l)
   | some (op, l1) => match f l1 with
     | .error c => .error c
     | .ok (x, l2) => chainF f o n (.bin op e x) l2
def chain (f : List Tok → Res Ex) (o : List Tok → Option (Int × List Tok)) (l : List Tok) : Res Ex :=
 match f l with
 | .error c => .error c
 | .ok (e, l1) => chainF f o (l1.length + 1) e l1
def stripN (k : Int) (s : Bs) : List Tok → Nat
 | [] => 0
 | t :: r => if t.kind = k ∧ t.text = s then stripN k s r + 1 else 0
def wrap (op : Int) : Nat → Ex → Ex
 | 0, e => e
 | n + 1, e => wrap op n (.un op e)
def aheadP (op : Int) (k : Int) (s : Bs) (f : List Tok → Res Ex) (l : List Tok) : Res Ex :=
 match f (l.drop (stripN k s l)) with
 | .error c => .error c
 | .ok (e, l') => .ok (wrap op (stripN k s l) e, l')
def operS : List Bs → Int → List Tok → Option (Int × List Tok)
 | [], _, _ => none
 | s :: r, k, l => if isT 5 s l then some (k, l.tail) else operS r (k + 1) l
def opOr (l : List Tok) : Option (Int × List Tok) := if isT 1 [111, 114] l then some (18, l.tail) else none
def opAnd (l : List Tok) : Option (Int × List Tok) := if isT 1 [97, 110, 100] l then some (17, l.tail) else none
def opSum (l : List Tok) : Option (Int × List Tok) := if isT 5 [124, 124] l then some (12, l.tail) else operS [[43], [45]] 7 l
def opMul (l : List Tok) : Option (Int × List Tok) := operS [[42], [47], [37]] 9 l
def opTest (l : List Tok) : Option (Int × List Tok) := operS [[61], [60, 62], [60], [60, 61], [62], [62, 61]] 1 l
section
variable (resv : List Bs) (E : Nat → List Tok → Res Ex) (k : Nat)
def inner (l : List Tok) : Res Ex :=
 if isT 5 [40] l = true ∧ k = 40 then .error 5
 else if isT 5 [40] l then
  match E (k + 1) l.tail with
  | .error c => .error c
  | .ok (x, l2) => if isT 5 [41] l2 then .ok (x, l2.tail) else .error 130
 else .error 130
def named (w : Bs) (l : List Tok) : Res Ex :=
 if w = [110, 117, 108, 108] then .ok (.const 0 0 0 [], l.tail)
 else if w = [116, 114, 117, 101] then .ok (.const 1 1 0 [], l.tail)
 else if w = [102, 97, 108, 115, 101] then .ok (.const 1 0 0 [], l.tail)
 else if w = [110, 97, 110] then .ok (.const 3 0 (-1) [], l.tail)
 else if w = [105, 110, 102, 105, 110, 105, 116, 121] then .ok (.const 3 0 (-2) [], l.tail)
 else if w = [105, 110, 116] ∨ w = [114, 101, 97, 108] then
  match inner E k l.tail with
  | .error c => .error c
  | .ok (x, l') => .ok (.un (if w = [114, 101, 97, 108] then 15 else 14) x, l')
 else match nameR resv l with
  | .error c => .error c
  | .ok (n, l1) => if isT 5 [46] l1 then
    match nameR resv l1.tail with
    | .error c => .error c
    | .ok (m, l2) => .ok (.col m n, l2)
   else .ok (.col n [], l1)
def oneP (l : List Tok) : Res Ex :=
 match l with
 | [] => .error 130
 | t :: r =>
   if t.kind = 2 ∨ t.kind = 3 then .ok (.const t.kind t.num t.scale [], r)
   else if t.kind = 4 then .ok (.const 4 t.num t.scale t.text, r)
   else if t.kind = 1 then named resv E k t.text (t :: r)
   else inner E k (t :: r)
def minusP (l : List Tok) : Res Ex := aheadP 13 5 [45] (oneP resv E k) l
def termP (l : List Tok) : Res Ex := chain (minusP resv E k) opMul l
def sumP (l : List Tok) : Res Ex := chain (termP resv E k) opSum l
def testP (l : List Tok) : Res Ex :=
 match sumP resv E k l with
 | .error c => .error c
 | .ok (e, l1) => match opTest l1 with
   | some (op, l2) => match sumP resv E k l2 with
     | .error c => .error c
     | .ok (x, l3) => .ok (.bin op e x, l3)
   | none => if isT 1 [105, 115] l1 then
     if isT 1 [110, 111, 116] l1.tail then (if isT 1 [110, 117, 108, 108] l1.tail.tail then .ok (.un 20 e, l1.tail.tail.tail) else .error 130)
     else if isT 1 [110, 117, 108, 108] l1.tail then .ok (.un 19 e, l1.tail.tail) else .error 130
    else .ok (e, l1)
def notP (l : List Tok) : Res Ex := aheadP 16 1 [110, 111, 116] (testP resv E k) l
def bothP (l : List Tok) : Res Ex := chain (notP resv E k) opAnd l
def eitherP (l : List Tok) : Res Ex := chain (bothP resv E k) opOr l
end
def either (resv : List Bs) : Nat → Nat → List Tok → Res Ex
 | 0, _, _ => .error 130
 | n + 1, k, l => eitherP resv (either resv n) k l
structure Sta where
 l : List Tok
 d : Nat
abbrev ResS (α : Type) := Except Int (α × Sta)
def bindS {α β : Type} (x : ResS α) (f : α → Sta → ResS β) : ResS β :=
 match x with
 | .error c => .error c
 | .ok (a, s) => f a s
def thenS {β : Type} (x : Except Int Sta) (f : Sta → ResS β) : ResS β :=
 match x with
 | .error c => .error c
 | .ok s => f s
@[simp] theorem bindS_error {α β : Type} (c : Int) (f : α → Sta → ResS β) : bindS (.error c) f = .error c := (rfl)
@[simp] theorem bindS_ok {α β : Type} (a : α) (s : Sta) (f : α → Sta → ResS β) : bindS (.ok (a, s)) f = f a s := (rfl)
@[simp] theorem thenS_error {β : Type} (c : Int) (f : Sta → ResS β) : thenS (.error c) f = .error c := (rfl)
@[simp] theorem thenS_ok {β : Type} (s : Sta) (f : Sta → ResS β) : thenS (.ok s) f = f s := (rfl)
section
variable (resv : List Bs) (N : Nat)
def whole (s : Sta) : ResS Ex :=
 match either resv N 0 s.l with
 | .error c => .error c
 | .ok (x, l') => .ok (x, ⟨l', max s.d x.depth⟩)
end
end Go.Pz
namespace Go.Pz
open Go.Lx (Bs Tok)
theorem depth_mk (op : Int) (args : List Ex) (a b c : Int) (s q : Bs) : (Ex.mk op args a b c s q).depth = depthL args := by rw [Ex.depth]
theorem depthL_nil : depthL [] = 0 := by rw [depthL]
theorem depthL_cons (x : Ex) (r : List Ex) : depthL (x :: r) = max (x.depth + 1) (depthL r) := by rw [depthL]
theorem w_mk (op : Int) (args : List Ex) (a b c : Int) (s q : Bs) : (Ex.mk op args a b c s q).w = wL args := by rw [Ex.w]
theorem wL_nil : wL [] = 0 := by rw [wL]
theorem wL_cons (x : Ex) (r : List Ex) : wL (x :: r) = x.w + 1 + wL r := by rw [wL]
theorem wL_len : ∀ (l : List Ex), l.length ≤ wL l
 | [] => Nat.zero_le _
 | x :: r => by rw [wL_cons, List.length_cons]; have := wL_len r; omega
mutual
theorem depth_le : ∀ (x : Ex), x.depth ≤ x.w
 | .mk _ args _ _ _ _ _ => by rw [depth_mk, w_mk]; exact depthL_le args
theorem depthL_le : ∀ (l : List Ex), depthL l ≤ wL l
 | [] => by rw [depthL_nil]; exact Nat.zero_le _
 | x :: r => by rw [depthL_cons, wL_cons]; have := depth_le x; have := depthL_le r; omega
end
section
variable {resv : List Bs} {E : Nat → List Tok → Res Ex} {m : Nat}
end
end Go.Pz
namespace Go.Abs
open Go Go.RowKit Go.Proofs Go.Lx Go.Pz
variable {w0 : World}
mutual
def exC : Ex → List AVal
 | .mk op args kind num scale text qual => [.int op, exsV args, .int kind, .int num, .int scale, .str text, .str qual]
def exsV : List Ex → AVal
 | [] => .nilS
 | x :: r => .list .full (exC x :: exsL r)
def exsL : List Ex → List (List AVal)
 | [] => []
 | x :: r => exC x :: exsL r
end
theorem exC_shape (x : Ex) : ∃ (op : Int) (v : AVal) (kind num scale : Int) (text qual : Bs), exC x = [.int op, v, .int kind, .int num, .int scale, .str text, .str qual] ∧ v.one = true ∧ cellsOf false v = some [v] := by
 cases x with
 | mk op args kind num scale text qual =>
   refine ⟨op, exsV args, kind, num, scale, text, qual, by rw [exC], ?_⟩
   cases args with
   | nil => rw [exsV]; exact ⟨rfl, rfl⟩
   | cons y r => rw [exsV]; exact ⟨rfl, rfl⟩
@[simp] theorem exC_len (x : Ex) : (exC x).length = 7 := by obtain ⟨_, _, _, _, _, _, _, h, _⟩ := exC_shape x; rw [h]; rfl
@[simp] theorem exC_one (x : Ex) : (exC x).all AVal.one = true := by obtain ⟨_, _, _, _, _, _, _, h, h1, _⟩ := exC_shape x; rw [h]; simp [h1]
mutual
theorem exC_sc (n : Nat) : ∀ (x : Ex), scL n (exC x) = true
 | .mk op args kind num scale text qual => by rw [exC]; simp [scL, AVal.sc]; exact exsV_sc n args
theorem exsV_sc (n : Nat) : ∀ (l : List Ex), (exsV l).sc n = true
 | [] => by rw [exsV]; rfl
 | x :: r => by rw [exsV]; simp only [AVal.sc, scLL, Bool.and_eq_true]; exact ⟨exC_sc n x, exsL_sc n r⟩
theorem exsL_sc (n : Nat) : ∀ (l : List Ex), scLL n (exsL l) = true
 | [] => by rw [exsL]; rfl
 | x :: r => by rw [exsL]; simp only [scLL, Bool.and_eq_true]; exact ⟨exC_sc n x, exsL_sc n r⟩
end
@[simp] theorem exC_scs (n : Nat) (x : Ex) : scL n (exC x) = true := exC_sc n x
@[simp] theorem exsV_scs (n : Nat) (l : List Ex) : AVal.sc n (exsV l) = true := exsV_sc n l
@[simp] theorem exA_sc (n : Nat) (x : Ex) : AVal.sc n (.agg (exC x)) = true := by simp only [AVal.sc]; exact exC_sc n x
@[simp] theorem exA_cells (x : Ex) : cellsOf true (.agg (exC x)) = some (exC x) := rfl
def TkV (v : AVal) (l : List Tok) : Prop := ∃ fl, v = .list fl (toksV l) ∧ (l ≠ [] → fl ≠ .nil)
def PO (l : List Tok) (k d : Nat) (o : AObj) : Prop := ∃ v, TkV v l ∧ o = .cells 3 [[v, .int k, .int d]] (some 1)
def At (S : Heap) (pid : Nat) (l : List Tok) (k d : Nat) : Prop := ∃ o, S[pid]? = some o ∧ PO l k d o
def Step (pid : Nat) (S T : Heap) : Prop := S.length = T.length ∧ ∀ j, j ≠ pid → T[j]? = S[j]?
def trb (c : Int) : AVal := .iface 60 (.agg [.int c])
@[simp] theorem trb_sc (c : Int) (n : Nat) : (trb c).sc n = true := rfl
def PrR {α : Type} (V : α → AVal) (S : Heap) (pid k d : Nat) (r : Except Int (α × List Tok)) (e : AEnd) (S' : Heap) : Prop :=
 Step pid S S' ∧ match r with
  | .ok (x, l) => e = .ret (V x) ∧ At S' pid l k d
  | .error c => e = .panic (trb c) ∧ ∃ l k d, At S' pid l k d
end Go.Abs
namespace Go.Abs
open Go Go.RowKit Go.Proofs Go.Lx Go.Pz
variable {w0 : World}
@[simp] theorem run_panic {x : MOpd} {S : Heap} {a : Tmps} : (MOp.panic x).run S a = (match ev a x with
  | .iface t v => .panic (.iface t v) S
  | _ => .fail) := (rfl)
@[simp] theorem afterR_panic {v S kp k} : @afterR (.panic v S) ⟨kp⟩ k = kp v S := (rfl)
theorem hsetG {S : Heap} {i : Nat} (h : i < S.length) (g : Heap) (o : AObj) : (S ++ g).set i o = S.set i o ++ g := List.set_append_left _ _ h
end Go.Abs
namespace Go.Abs
open Go Go.RowKit Go.Proofs Go.Lx Go.Pz
variable {w0 : World}
theorem depthL_append (a b : List Ex) : depthL (a ++ b) = max (depthL a) (depthL b) := by
 induction a with
 | nil => rw [List.nil_append, depthL_nil]; omega
 | cons x r ih => rw [List.cons_append, depthL_cons, depthL_cons, ih]; omega
theorem w_mem {x : Ex} {l : List Ex} (h : x ∈ l) : x.w + 1 ≤ wL l := by
 induction l with
 | nil => cases h
 | cons y r ih =>
   rw [wL_cons]
   rcases List.mem_cons.1 h with rfl | h
   ·omega
   ·have := ih h; omega
end Go.Abs
namespace Go.Abs
open Go Go.RowKit Go.Proofs Go.Lx Go.Pz
variable {w0 : World}
section
variable {S : Heap} {pid k d b : Nat} {l : List Tok} (hb : S[b]? = some (.cells 1 [[.ptr pid 0 0]] (some 1))) (ha : At S pid l k d)
include hb ha
end
end Go.Abs
namespace Go.Abs
open Go Go.RowKit Go.Proofs Go.Lx Go.Pz
variable {w0 : World}
section
variable {pid k d n : Nat} {E : Nat → List Tok → Res Ex}
end
end Go.Abs
namespace Go.Abs
open Go Go.RowKit Go.Proofs Go.Lx Go.Pz
variable {w0 : World}
section
variable {pid d m : Nat} {E : Nat → List Tok → Res Ex}
end
end Go.Abs
namespace Go.Abs
open Go Go.RowKit Go.Proofs Go.Lx Go.Pz
variable {w0 : World}
section
variable {pid d m : Nat} {E : Nat → List Tok → Res Ex}
end
end Go.Abs
namespace Go.Abs
open Go Go.RowKit Go.Proofs Go.Lx Go.Pz
variable {w0 : World}
section
variable {S0 : Heap} {pid sid : Nat} {c0 : List AVal} {f k : Nat} {es : List (List AVal)} {s : Sta} {S : Heap}
end
end Go.Abs
namespace Go.Abs
open Go Go.RowKit Go.Proofs Go.Lx Go.Pz
variable {w0 : World}
structure Bx (S0 : Heap) (pid sid bp bs : Nat) : Prop where
 hp : pid < S0.length
 hs : sid < S0.length
 ps : pid ≠ sid
 xp : S0[bp]? = some (.cells 1 [[.ptr pid 0 0]] (some 1))
 xs : S0[bs]? = some (.cells 1 [[.ptr sid 0 0]] (some 1))
 b1 : bp ≠ pid
 b2 : bp ≠ sid
 b3 : bs ≠ pid
 b4 : bs ≠ sid
section
variable {S0 : Heap} {pid sid bp bs : Nat} (hB : Bx S0 pid sid bp bs)
include hB
end
def namesC (ns : List Bs) : List (List AVal) := ns.map fun n => [.str n]
@[simp] theorem namesC_len (ns : List Bs) : (namesC ns).length = ns.length := by simp [namesC]
theorem namesC_snoc (ns : List Bs) (n : Bs) : namesC (ns ++ [n]) = namesC ns ++ [[.str n]] := by simp [namesC]
def pcolC (c : Pz.Col) : List AVal := [.str c.name, .int c.type, .bool c.req]
def pcolsC (cs : List Pz.Col) : List (List AVal) := cs.map pcolC
@[simp] theorem pcolsC_len (ns : List Pz.Col) : (pcolsC ns).length = ns.length := by simp [pcolsC]
theorem pcolsC_snoc (ns : List Pz.Col) (n : Pz.Col) : pcolsC (ns ++ [n]) = pcolsC ns ++ [pcolC n] := by simp [pcolsC]
def itmC (x : Itm) : List AVal := exC x.e ++ [.str x.name]
def itmsC (xs : List Itm) : List (List AVal) := xs.map itmC
@[simp] theorem itmsC_len (ns : List Itm) : (itmsC ns).length = ns.length := by simp [itmsC]
theorem itmsC_snoc (ns : List Itm) (n : Itm) : itmsC (ns ++ [n]) = itmsC ns ++ [itmC n] := by simp [itmsC]
def srcC (x : Src) : List AVal := .str x.table :: .str x.alias :: exC x.on
def srcsC (xs : List Src) : List (List AVal) := xs.map srcC
@[simp] theorem srcsC_len (ns : List Src) : (srcsC ns).length = ns.length := by simp [srcsC]
theorem srcsC_snoc (ns : List Src) (n : Src) : srcsC (ns ++ [n]) = srcsC ns ++ [srcC n] := by simp [srcsC]
def srtC (x : Srt) : List AVal := exC x.e ++ [.bool x.desc]
def srtsC (xs : List Srt) : List (List AVal) := xs.map srtC
@[simp] theorem srtsC_len (ns : List Srt) : (srtsC ns).length = ns.length := by simp [srtsC]
theorem srtsC_snoc (ns : List Srt) (n : Srt) : srtsC (ns ++ [n]) = srtsC ns ++ [srtC n] := by simp [srtsC]
def asnC (x : Asn) : List AVal := .str x.col :: exC x.e
def asnsC (xs : List Asn) : List (List AVal) := xs.map asnC
@[simp] theorem asnsC_len (ns : List Asn) : (asnsC ns).length = ns.length := by simp [asnsC]
theorem asnsC_snoc (ns : List Asn) (n : Asn) : asnsC (ns ++ [n]) = asnsC ns ++ [asnC n] := by simp [asnsC]
section
variable {S0 : Heap} {pid sid bp bs : Nat} (hB : Bx S0 pid sid bp bs) {c0 : List AVal} (hc0 : c0.length = 18) {s : Sta} {S : Heap}
include hB hc0
end
end Go.Abs
namespace Go.Abs
open Go Go.RowKit Go.Proofs Go.Lx Go.Pz
variable {w0 : World}
section
variable {S0 : Heap} {pid sid bp bs : Nat} (hB : Bx S0 pid sid bp bs) {c0 : List AVal} (hc0 : c0.length = 18) {s : Sta} {S : Heap}
include hB hc0
end
end Go.Abs
namespace Go.Abs
open Go Go.RowKit Go.Proofs Go.Lx Go.Pz
variable {w0 : World}
section
variable {S0 : Heap} {pid sid bp bs : Nat} (hB : Bx S0 pid sid bp bs) {c0 : List AVal} (hc0 : c0.length = 18) {s : Sta} {S : Heap}
include hB hc0
end
end Go.Abs
namespace Go.Abs
open Go Go.RowKit Go.Proofs Go.Lx Go.Pz
variable {w0 : World}
def exlC (xs : List Ex) : List (List AVal) := xs.map exC
@[simp] theorem exlC_len (xs : List Ex) : (exlC xs).length = xs.length := by simp [exlC]
theorem exlC_snoc (xs : List Ex) (x : Ex) : exlC (xs ++ [x]) = exlC xs ++ [exC x] := by simp [exlC]
end Go.Abs
namespace Go.Abs
open Go Go.RowKit Go.Proofs Go.Lx Go.Pz
variable {w0 : World}
def rwsC (rows : List (List Ex)) : List (List AVal) := rows.map fun xs => [.list .unk (exlC xs)]
@[simp] theorem rwsC_len (xs : List (List Ex)) : (rwsC xs).length = xs.length := by simp [rwsC]
theorem rwsC_snoc (xs : List (List Ex)) (x : List Ex) : rwsC (xs ++ [x]) = rwsC xs ++ [[.list .unk (exlC x)]] := by simp [rwsC]
section
variable {S0 : Heap} {pid sid bp bs : Nat} (hB : Bx S0 pid sid bp bs) {c0 : List AVal} (hc0 : c0.length = 18) {s : Sta} {S : Heap}
include hB hc0
end
end Go.Abs
namespace Go.Abs
open Go Go.RowKit Go.Proofs Go.Lx Go.Pz
variable {w0 : World}
section
variable {S1 : Heap} {pid sid : Nat} {c : List AVal} {s : Sta} {S : Heap}
end
end Go.Abs
namespace Go.Abs
open Go Go.RowKit Go.Proofs Go.Lx Go.Pz
variable {w0 : World}
end Go.Abs
namespace Go.Abs
open Go Go.RowKit Go.Proofs Go.Lx Go.Pz
variable {w0 : World}
section
variable {T0 : Heap} {pid sid bp bs : Nat} (hB : Bx T0 pid sid bp bs) {c : List AVal} (hc : c.length = 18) {N n : Nat} (hnN : n < N) (hN : N ≤ 1000000)
include hB hc hnN hN
end
end Go.Abs
namespace Go.Abs
open Go Go.RowKit Go.Proofs Go.Lx Go.Pz
variable {w0 : World}
section
variable {S1 : Heap} {pid sid bp bs : Nat} (hB : Bx S1 pid sid bp bs) {N : Nat} (hN : N ≤ 1000000)
include hB hN
end
end Go.Abs
namespace Go.Abs
open Go Go.RowKit Go.Proofs Go.Lx Go.Pz
variable {w0 : World}
end Go.Abs
namespace Go.Abs
open Go Go.RowKit Go.Proofs Go.Lx Go.Pz
variable {w0 : World}
end Go.Abs
namespace Go.Abs
open Go Go.RowKit Go.Proofs Go.Lx Go.Pz
variable {w0 : World}
end Go.Abs
namespace Go.Abs
open Go Go.RowKit Go.Proofs Go.Lx Go.Pz
variable {w0 : World}
end Go.Abs
namespace Go.Abs
open Go Go.RowKit Go.Proofs Go.Lx Go.Pz
variable {w0 : World}
end Go.Abs
namespace Go.Abs
open Go Go.RowKit Go.Proofs Go.Lx Go.Pz
variable {w0 : World}
end Go.Abs
namespace Go.Abs
open Go Go.RowKit Go.Proofs Go.Lx Go.Pz
variable {w0 : World}
end Go.Abs
namespace Go.Abs
open Go Go.RowKit Go.Proofs Go.Lx Go.Pz
variable {w0 : World}
theorem li_addr {k i : Nat} {es : List (List AVal)} {c : List AVal} (hi : i < es.length) (hc : es.getD i [] = c) (hk : c.length = k) (fl : Fl) (S : Heap) : iaddrR k S (.list fl es) (.int i) = .ok true (.fptr es i 0) S := by
 have hk' : es[i].length = k := by rw [← hk, ← hc, getD_eq _ _ _ hi]
 simp [hi, hk']
theorem li_load {k i : Nat} {es : List (List AVal)} {c : List AVal} (hi : i < es.length) (hc : es.getD i [] = c) (hk : c.length = k) (agg : Bool) (m off : Nat) (hm : off + m ≤ k) (S : Heap) : loadR agg m S (.fptr es i off) = .ok true (takeAt agg m c off) S := by
 have hk' : es[i].length = k := by rw [← hk, ← hc, getD_eq _ _ _ hi]
 have hc' : es[i] = c := by rw [← hc, getD_eq _ _ _ hi]
 simp [hi, hk', hc', hm, hk]
end Go.Abs
namespace Go.Abs
open Go Go.RowKit Go.Proofs Go.Lx Go.Pz
section
variable {N : Nat} {s s' : Sta}
end
end Go.Abs
namespace Go.Abs
open Go Go.RowKit Go.Proofs Go.Lx Go.Pz
variable {w0 : World}
section
variable {H : Heap} {p2 p3 : Nat} {fl fl' : Fl} {a : Tmps}
end
end Go.Abs
namespace Go.Abs
open Go Go.RowKit Go.Proofs Go.Lx Go.Pz
variable {w0 : World}
end Go.Abs
namespace Go.Abs
open Go Go.RowKit Go.Proofs Go.Lx Go.Pz
variable {w0 : World}
end Go.Abs
namespace Go.Abs
open Go Go.RowKit Go.Proofs Go.Lx Go.Pz
variable {w0 : World}
end Go.Abs
namespace Go.Abs
open Go Go.RowKit Go.Proofs Go.Lx Go.Pz
variable {w0 : World}
mutual
def ExV : Ex → List AVal → Prop
 | .mk op args kind num scale text qual, av => ∃ fl es, av = [.int op, .list fl es, .int kind, .int num, .int scale, .str text, .str qual] ∧ ExsV args es
def ExsV : List Ex → List (List AVal) → Prop
 | [], es => es = []
 | x :: r, es => ∃ e es', es = e :: es' ∧ ExV x e ∧ ExsV r es'
end
theorem ExV_mk {op : Int} {args : List Ex} {kind num scale : Int} {text qual : Bs} {av : List AVal} : ExV (.mk op args kind num scale text qual) av ↔ ∃ fl es, av = [.int op, .list fl es, .int kind, .int num, .int scale, .str text, .str qual] ∧ ExsV args es := by rw [ExV]
theorem ExsV_nil {es : List (List AVal)} : ExsV [] es ↔ es = [] := by rw [ExsV]
theorem ExsV_cons {x : Ex} {r : List Ex} {es : List (List AVal)} : ExsV (x :: r) es ↔ ∃ e es', es = e :: es' ∧ ExV x e ∧ ExsV r es' := by rw [ExsV]
theorem ExsV_len : ∀ {l : List Ex} {es : List (List AVal)}, ExsV l es → es.length = l.length
 | [], es, h => by rw [ExsV_nil] at h; subst h; rfl
 | x :: r, es, h => by
   rw [ExsV_cons] at h
   obtain ⟨e, es', rfl, _, h2⟩ := h
   simp [ExsV_len h2]
theorem ExsV_get : ∀ {l : List Ex} {es : List (List AVal)}, ExsV l es → ∀ i (h : i < l.length), ExV l[i] (es.getD i [])
 | [], es, h, i, hi => by simp at hi
 | x :: r, es, h, i, hi => by
   rw [ExsV_cons] at h
   obtain ⟨e, es', rfl, h1, h2⟩ := h
   cases i with
   | zero => simpa using h1
   | succ i => simpa using ExsV_get h2 i (by simpa using hi)
theorem ExsV_of : ∀ {l : List Ex} {es : List (List AVal)}, es.length = l.length → (∀ i (h : i < l.length), ExV l[i] (es.getD i [])) → ExsV l es
 | [], es, h, _ => by rw [ExsV_nil]; exact List.eq_nil_of_length_eq_zero h
 | x :: r, [], h, _ => by simp at h
 | x :: r, e :: es, h, hg => by
   rw [ExsV_cons]
   exact ⟨e, es, rfl, hg 0 (by simp), ExsV_of (by simpa using h) fun i hi => hg (i + 1) (by simpa using hi)⟩
theorem ExV_len {x : Ex} {av : List AVal} (h : ExV x av) : av.length = 7 := by
 obtain ⟨op, args, kind, num, scale, text, qual⟩ := x
 rw [ExV_mk] at h
 obtain ⟨fl, es, rfl, _⟩ := h
 rfl
theorem ExV_one {x : Ex} {av : List AVal} (h : ExV x av) : av.all AVal.one = true := by
 obtain ⟨op, args, kind, num, scale, text, qual⟩ := x
 rw [ExV_mk] at h
 obtain ⟨fl, es, rfl, _⟩ := h
 simp
theorem szLL_mem : ∀ {es : List (List AVal)} {i : Nat}, i < es.length → szL (es.getD i []) + 1 ≤ szLL es
 | [], i, h => by simp at h
 | e :: r, 0, _ => by simp [szLL]; omega
 | e :: r, i + 1, h => by
   have := szLL_mem (es := r) (i := i) (by simpa using h)
   simp only [szLL, List.getD_cons_succ]; omega
theorem wL_sz : ∀ {l : List Ex} {es : List (List AVal)}, es.length = l.length → (∀ i (h : i < l.length), (l[i]).w ≤ szL (es.getD i [])) → wL l ≤ szLL es
 | [], es, h, _ => by rw [wL_nil]; omega
 | x :: r, [], h, _ => by simp at h
 | x :: r, e :: es, h, hg => by
   have h0 : x.w ≤ szL e := hg 0 (by simp)
   have h1 := wL_sz (l := r) (es := es) (by simpa using h) fun i hi => hg (i + 1) (by simpa using hi)
   rw [wL_cons]
   simp only [szLL]; omega
variable {B : Nat}
end Go.Abs
namespace Go.Abs
open Go Go.RowKit Go.Proofs Go.Lx Go.Pz
variable {w0 : World}
def DIv (H : Heap) (b : Nat) (args : List Ex) (m : Nat) (a : Tmps) (S' : Heap) : Prop := ∃ (i : Nat), m = args.length - i ∧ i ≤ args.length ∧ S' = H ∧ get a 1 = .ptr b 0 0 ∧ get a 4 = .int i ∧ get a 3 = .int (depthL (args.take i))
theorem r23v : ∀ (n : Nat), n < 4000000000000000000 → ∀ (x : Ex), x.w ≤ n → ∀ (av : List AVal), ExV x av → ∀ (S : Heap), ACalls Tryz.prog (B0 w0) 23 [.agg av] S fun e S' => e = .ret (.int x.depth) ∧ S' = S := by
 intro n
 induction n using Nat.strongRecOn with
 | _ n ih =>
   intro hn x hx av hav S
   obtain ⟨op, args, kind, num, scale, text, qual⟩ := x
   rw [depth_mk]
   rw [w_mk] at hx
   rw [ExV_mk] at hav
   obtain ⟨fl, es, rfl, hes⟩ := hav
   have hal := wL_len args
   have hdl := depthL_le args
   have hel := ExsV_len hes
   refine ACalls.close (R := fun e S' => e = .ret (.int (depthL args)) ∧ S'.take S.length = S) ?_ ?_
   rotate_left 1
   ·rintro e S' ⟨rfl, ht⟩
    exact .flat ht rfl ⟨rfl, rfl⟩
   refine fn_sound tryOrd (f23_c _) (by simp [f23]) ?_
   simp [f23, f23m]
   obtain ⟨H, hH⟩ : ∃ H, H = S ++ [AObj.cells 7 [[.int op, .list fl es, .int kind, .int num, .int scale, .str text, .str qual]] (some 1)] := ⟨_, rfl⟩
   have hg : H[S.length]? = some (.cells 7 [[.int op, .list fl es, .int kind, .int num, .int scale, .str text, .str qual]] (some 1)) := by rw [hH]; simp
   have ht : H.take S.length = S := by rw [hH]; simp
   rw [← hH]
   refine mwp_loop (I := DIv H S.length args) (n := args.length)
    ⟨0, rfl, Nat.zero_le _, rfl, rfl, rfl, by simp [depthL_nil]⟩ ?_
   rintro m a S' ⟨i, rfl, hi, rfl, a1, a4, a3⟩
   by_cases hlt : i < args.length
   ·have hltI : (i : Int) < (args.length : Int) := by omega
    have hv := ExsV_get hes i hlt
    have hlt2 : i < es.length := by omega
    have hltE : (i : Int) < (es.length : Int) := by omega
    have q1 := li_addr (k := 7) (es := es) hlt2 rfl (ExV_len hv)
    have q2 := li_load (k := 7) (es := es) hlt2 rfl (ExV_len hv) true 7 0 (by omega)
    have hmem := w_mem (List.getElem_mem hlt)
    have hd := ih (args[i].w) (by omega) (by omega) args[i] (Nat.le_refl _) _ hv
    have hl7 := ExV_len hv
    generalize es.getD i [] = ev at *
    have htk2 : takeAt true 7 ev 0 = .agg ev := by simp [takeAt, List.take_of_length_le, hl7]
    rw [htk2] at q2
    have hdw := depth_le args[i]
    have htk : depthL (args.take (i + 1)) = max (depthL (args.take i)) (args[i].depth + 1) := by
     rw [List.take_add_one, List.getElem?_eq_getElem hlt, depthL_append, Option.toList_some, depthL_cons, depthL_nil]; omega
    have hw : IntKind.i64.wrap ((args[i].depth : Int) + 1) = ((args[i].depth + 1 : Nat) : Int) := wrapS _ (by omega)
    have hw2 := wrapS i (by omega)
    generalize args[i] = y at *
    simp [f23b0, a1, a4, a3, hg, hltE, q1, q2]
    refine (hd _).use ?_
    rintro e S1 ⟨rfl, rfl⟩
    by_cases hgt2 : depthL (args.take i) < y.depth + 1
    ·have hgtI : (depthL (args.take i) : Int) < (y.depth : Int) + 1 := by omega
     simp [a1, a4, a3, hw, hw2, hgtI]
     refine ⟨args.length - (i + 1), by omega, i + 1, rfl, by omega, rfl, by simp [a1], by simp, ?_⟩
     rw [htk, Nat.max_eq_right (by omega)]
     simp
    ·have hgtI : ¬ (depthL (args.take i) : Int) < (y.depth : Int) + 1 := by omega
     simp [a1, a4, a3, hw, hw2, hgtI]
     refine ⟨args.length - (i + 1), by omega, i + 1, rfl, by omega, rfl, by simp [a1], by simp, ?_⟩
     rw [htk, Nat.max_eq_left (by omega)]
     simp [a3]
   ·have hie : i = args.length := by omega
    subst hie
    rw [List.take_length] at a3
    simp [f23b0, a1, a4, a3, hg, ht, hel]
end Go.Abs
namespace Go.Abs
open Go Go.RowKit Go.Proofs Go.Lx Go.Pz
variable {w0 : World}
def opTab : List Int := [-1, 2, 2, 2, 2, 2, 2, 2, 2, 2, 2, 2, 2, 1, 1, 1, 1, 2, 2, 1, 1, 0, 0]
def opnds (op : Int) : Int := if op < 1 ∨ 22 < op then -1 else opTab.getD op.toNat 0
set_option maxHeartbeats 2000000 in
theorem w108 (op : Int) (S : Heap) : ACalls Tryz.prog (B0 w0) 108 [.int op] S fun e S' => e = .ret (.int (opnds op)) ∧ S' = S := by
 refine ACalls.close (R := fun e S' => e = .ret (.int (opnds op)) ∧ S'.take S.length = S) ?_ ?_
 rotate_left 1
 ·rintro e S' ⟨rfl, ht⟩
  exact .flat ht rfl ⟨rfl, rfl⟩
 refine fn_sound tryOrd (f108_c _) (by simp [f108]) ?_
 by_cases h1 : op < 1
 ·simp [f108, f108m, h1, opnds]
 by_cases h2 : 22 < op
 ·simp [f108, f108m, h1, h2, opnds]
 obtain ⟨n, hn⟩ : ∃ n : Nat, op = n := ⟨op.toNat, by omega⟩
 have hc : n = 1 ∨ n = 2 ∨ n = 3 ∨ n = 4 ∨ n = 5 ∨ n = 6 ∨ n = 7 ∨ n = 8 ∨ n = 9 ∨ n = 10 ∨ n = 11 ∨ n = 12 ∨ n = 13 ∨ n = 14 ∨ n = 15 ∨ n = 16 ∨ n = 17 ∨ n = 18 ∨ n = 19 ∨ n = 20 ∨ n = 21 ∨ n = 22 := by omega
 subst hn
 rcases hc with rfl | rfl | rfl | rfl | rfl | rfl | rfl | rfl | rfl | rfl | rfl | rfl | rfl | rfl | rfl | rfl | rfl | rfl | rfl | rfl | rfl | rfl
 all_goals simp [f108, f108m, opnds, opTab]
def mostN (kind : Int) : Int := if kind = 1 then 1 else if kind = 2 then 9223372036854775807 else 0
def constB (kind num scale : Int) (text qual : Bs) : Bool :=
 decide (qual = []) && (if kind = 0 ∨ kind = 1 ∨ kind = 2 then decide (0 ≤ num) && decide (num ≤ mostN kind) && decide (scale = 0) && decide (text = [])
  else if kind = 3 then (if scale = -1 ∨ scale = -2 then decide (num = 0) && decide (text = []) else decide (text = []) && decide (1 ≤ scale) && decide (scale ≤ 14) && decide (0 ≤ num) && decide (num < 1000000000000000))
  else if kind = 4 then decide (num = 0) && decide (scale = 0) && decide (text.length < 201) else false)
set_option maxHeartbeats 8000000 in
theorem w109 (v : AVal) (hv : v.one = true) (op kind num scale : Int) (text qual : Bs) (S : Heap) : ACalls Tryz.prog (B0 w0) 109 [.agg [.int op, v, .int kind, .int num, .int scale, .str text, .str qual]] S fun e S' => e = .ret (.bool (constB kind num scale text qual)) ∧ S' = S := by
 refine ACalls.close (R := fun e S' => e = .ret (.bool (constB kind num scale text qual)) ∧ S'.take S.length = S) ?_ ?_
 rotate_left 1
 ·rintro e S' ⟨rfl, ht⟩
  exact .flat ht rfl ⟨rfl, rfl⟩
 refine fn_sound tryOrd (f109_c _) (by simp [f109]) ?_
 by_cases hq : qual = []
 rotate_left 1
 ·simp [f109, f109m, hv, hq, constB]
 subst hq
 by_cases h0 : kind = 0 ∨ kind = 1 ∨ kind = 2
 ·by_cases hn : 0 ≤ num
  rotate_left 1
  ·rcases h0 with rfl | rfl | rfl <;> simp [f109, f109m, hv, hn, constB]
  by_cases hm : num ≤ mostN kind
  rotate_left 1
  ·rcases h0 with rfl | rfl | rfl <;> simp [mostN] at hm <;> have hm' := Int.not_le.2 hm <;> simp [f109, f109m, hv, hn, hm', constB, mostN]
  by_cases hs : scale = 0
  rotate_left 1
  ·have hs' : (scale == 0) = false := beq_eq_false_iff_ne.2 hs
   rcases h0 with rfl | rfl | rfl <;> simp [mostN] at hm <;> simp [f109, f109m, hv, hn, hm, hs, hs', constB, mostN]
  subst hs
  by_cases ht : text = []
  ·rcases h0 with rfl | rfl | rfl <;> simp [mostN] at hm <;> simp [f109, f109m, hv, hn, hm, ht, constB, mostN]
  ·rcases h0 with rfl | rfl | rfl <;> simp [mostN] at hm <;> simp [f109, f109m, hv, hn, hm, ht, constB, mostN]
 simp only [not_or] at h0
 obtain ⟨k0, k1, k2⟩ := h0
 have b0 : (kind == 0) = false := beq_eq_false_iff_ne.2 k0
 have b1 : (kind == 1) = false := beq_eq_false_iff_ne.2 k1
 have b2 : (kind == 2) = false := beq_eq_false_iff_ne.2 k2
 by_cases k3 : kind = 3
 ·subst k3
  by_cases hs : scale = -1 ∨ scale = -2
  ·by_cases hn : num = 0
   ·by_cases ht : text = []
    ·rcases hs with rfl | rfl <;> simp [f109, f109m, hv, hn, ht, constB]
    ·rcases hs with rfl | rfl <;> simp [f109, f109m, hv, hn, ht, constB]
   ·have hn' : (num == 0) = false := beq_eq_false_iff_ne.2 hn
    rcases hs with rfl | rfl <;> simp [f109, f109m, hv, hn, hn', constB]
  simp only [not_or] at hs
  obtain ⟨s1, s2⟩ := hs
  have c1 : (scale == -1) = false := beq_eq_false_iff_ne.2 s1
  have c2 : (scale == -2) = false := beq_eq_false_iff_ne.2 s2
  by_cases ht : text = []
  rotate_left 1
  ·simp [f109, f109m, hv, c1, c2, s1, s2, ht, constB]
  by_cases h1 : scale < 1
  ·have h1' : ¬ 1 ≤ scale := by omega
   simp [f109, f109m, hv, c1, c2, s1, s2, ht, h1, h1', constB]
  have h1' : 1 ≤ scale := by omega
  by_cases h2 : 14 < scale
  ·have h2' : ¬ scale ≤ 14 := by omega
   simp [f109, f109m, hv, c1, c2, s1, s2, ht, h1, h1', h2, h2', constB]
  have h2' : scale ≤ 14 := by omega
  by_cases h3 : num < 0
  ·have h3' : ¬ 0 ≤ num := by omega
   simp [f109, f109m, hv, c1, c2, s1, s2, ht, h1, h1', h2, h2', h3, h3', constB]
  have h3' : 0 ≤ num := by omega
  simp [f109, f109m, hv, c1, c2, s1, s2, ht, h1, h1', h2, h2', h3, h3', constB]
 have b3 : (kind == 3) = false := beq_eq_false_iff_ne.2 k3
 by_cases k4 : kind = 4
 ·subst k4
  by_cases hn : num = 0
  rotate_left 1
  ·have hn' : (num == 0) = false := beq_eq_false_iff_ne.2 hn
   simp [f109, f109m, hv, hn, hn', constB]
  by_cases hs : scale = 0
  rotate_left 1
  ·have hs' : (scale == 0) = false := beq_eq_false_iff_ne.2 hs
   simp [f109, f109m, hv, hn, hs, hs', constB]
  by_cases ht : text.length < 201
  ·have ht' : (text.length : Int) < 201 := by omega
   simp [f109, f109m, hv, hn, hs, ht, ht', constB]
  ·have ht' : ¬ (text.length : Int) < 201 := by omega
   simp [f109, f109m, hv, hn, hs, ht, ht', constB]
 have b4 : (kind == 4) = false := beq_eq_false_iff_ne.2 k4
 simp [f109, f109m, hv, b0, b1, b2, b3, b4, k0, k1, k2, k3, k4, constB]
mutual
def okE : Ex → Bool
 | .mk op args kind num scale text qual => decide ((args.length : Int) = opnds op) && (if op = 21 then constB kind num scale text qual
   else decide (kind = 0) && decide (num = 0) && decide (scale = 0) && (if op = 22 then nameB text && (decide (qual = []) || nameB qual) else okL args && decide (text = []) && decide (qual = [])))
def okL : List Ex → Bool
 | [] => true
 | x :: r => okE x && okL r
end
theorem okE_mk {op : Int} {args : List Ex} {kind num scale : Int} {text qual : Bs} : okE (.mk op args kind num scale text qual) = (decide ((args.length : Int) = opnds op) && (if op = 21 then constB kind num scale text qual
  else decide (kind = 0) && decide (num = 0) && decide (scale = 0) && (if op = 22 then nameB text && (decide (qual = []) || nameB qual) else okL args && decide (text = []) && decide (qual = [])))) := by rw [okE]
theorem okL_nil : okL [] = true := by rw [okL]
theorem okL_cons {x : Ex} {r : List Ex} : okL (x :: r) = (okE x && okL r) := by rw [okL]
theorem okL_iff : ∀ {l : List Ex}, okL l = true ↔ ∀ x ∈ l, okE x = true
 | [] => by simp [okL_nil]
 | x :: r => by rw [okL_cons, Bool.and_eq_true, okL_iff]; simp
def OkI (H : Heap) (b : Nat) (args : List Ex) (m : Nat) (a : Tmps) (S' : Heap) : Prop := ∃ (i : Nat), m = args.length - i ∧ i ≤ args.length ∧ S' = H ∧ get a 1 = .ptr b 0 0 ∧ get a 3 = .int i ∧ okL (args.take i) = true
end Go.Abs
namespace Go.Abs
open Go Go.RowKit Go.Proofs Go.Lx Go.Pz
variable {w0 : World}
def OkP (S H : Heap) (b : Nat) (args : List Ex) : AExit → Tmps → Heap → Prop
 | .normal, a, S' => S' = H ∧ get a 1 = .ptr b 0 0 ∧ okL args = true
 | .ret, a, S' => S' = H ∧ get a 2 = .bool false ∧ okL args = false
 | _, _, _ => False
theorem okL_take {l : List Ex} {i : Nat} (h : i < l.length) : okL (l.take (i + 1)) = (okL (l.take i) && okE l[i]) := by
 rw [Bool.eq_iff_iff, Bool.and_eq_true, okL_iff, okL_iff, List.take_add_one, List.getElem?_eq_getElem h]
 simp only [Option.toList_some, List.mem_append, List.mem_singleton]
 constructor
 ·intro hh
  exact ⟨fun x hx => hh x (.inl hx), hh _ (.inr rfl)⟩
 ·rintro ⟨h1, h2⟩ x (hx | rfl)
  ·exact h1 x hx
  ·exact h2
set_option maxHeartbeats 2000000 in
theorem w68l {S H : Heap} {b : Nat} {c : List AVal} {args : List Ex} {fl : Fl} {es : List (List AVal)} (hal : args.length < 4000000000000000000) (hes : ExsV args es) {op kind num scale : Int} {text qual : Bs} (hg : H[b]? = some (.cells 7 [[.int op, .list fl es, .int kind, .int num, .int scale, .str text, .str qual]] (some 1)))
  (h14 : ∀ x ∈ args, ∀ av, ExV x av → ∀ S, ACalls Tryz.prog (B0 w0) 68 [.agg av] S fun e S' => e = .ret (.bool (okE x)) ∧ S' = S) {G : Nat → AVal} {m : Nat} {a : Tmps} {S' : Heap} (h : OkI H b args m a S') :
  mwp (ACalls Tryz.prog (B0 w0)) (.block 0 (.loop (f68b0 G))) (OkP S H b args) a S' := by
 have hel := ExsV_len hes
 simp only [mwp_block]
 refine mwp_loop (I := OkI H b args) h ?_
 clear h
 rintro m a S' ⟨i, rfl, hi, rfl, a1, a3, hok⟩
 by_cases hlt : i < args.length
 ·have hv := ExsV_get hes i hlt
  have hlt2 : i < es.length := by omega
  have hltE : (i : Int) < (es.length : Int) := by omega
  have q1 := li_addr (k := 7) (es := es) hlt2 rfl (ExV_len hv)
  have q2 := li_load (k := 7) (es := es) hlt2 rfl (ExV_len hv) true 7 0 (by omega)
  have hd := h14 args[i] (List.getElem_mem hlt) _ hv
  have hl7 := ExV_len hv
  generalize es.getD i [] = ev at *
  have htk2 : takeAt true 7 ev 0 = .agg ev := by simp [takeAt, List.take_of_length_le, hl7]
  rw [htk2] at q2
  have hw2 := wrapS i (by omega)
  have htk := okL_take hlt
  have hmem := List.getElem_mem hlt
  generalize args[i] = y at *
  simp [f68b0, a1, a3, hg, hltE, q1, q2]
  refine (hd _).use ?_
  rintro e S1 ⟨rfl, rfl⟩
  cases hy : okE y with
  | true =>
    simp [a1, a3, hw2]
    rw [hok, hy] at htk
    exact ⟨args.length - (i + 1), by omega, i + 1, rfl, by omega, rfl, by simp [a1], by simp, by simpa using htk⟩
  | false =>
    have hL : okL args = false := by
     cases hLL : okL args with
     | false => rfl
     | true => have := okL_iff.1 hLL y hmem; rw [hy] at this; cases this
    simp [a1, a3]
    exact ⟨rfl, by simp, hL⟩
 ·have hie : i = args.length := by omega
  subst hie
  rw [List.take_length] at hok
  simp [f68b0, a1, a3, hg, hel]
  exact ⟨rfl, by simp [a1], hok⟩
set_option maxHeartbeats 4000000 in
theorem w68 : ∀ (n : Nat), n < 4000000000000000000 → ∀ (x : Ex), x.w ≤ n → ∀ (av : List AVal), ExV x av → ∀ (S : Heap), ACalls Tryz.prog (B0 w0) 68 [.agg av] S fun e S' => e = .ret (.bool (okE x)) ∧ S' = S := by
 intro n
 induction n using Nat.strongRecOn with
 | _ n ih =>
   intro hn x hx av hav S
   obtain ⟨op, args, kind, num, scale, text, qual⟩ := x
   rw [w_mk] at hx
   rw [ExV_mk] at hav
   obtain ⟨fl, es, rfl, hes⟩ := hav
   have hal := wL_len args
   have hel := ExsV_len hes
   refine ACalls.close (R := fun e S' => e = .ret (.bool (okE (.mk op args kind num scale text qual))) ∧ S'.take S.length = S) ?_ ?_
   rotate_left 1
   ·rintro e S' ⟨rfl, ht⟩
    exact .flat ht rfl ⟨rfl, rfl⟩
   rw [okE_mk]
   refine fn_sound tryOrd (f68_c _) (by simp [f68]) ?_
   rw [f68, f68m, mwp_seq]
   simp [-mwp_seq, -mwp_block]
   obtain ⟨H, hH⟩ : ∃ H, H = S ++ [AObj.cells 7 [[.int op, .list fl es, .int kind, .int num, .int scale, .str text, .str qual]] (some 1)] := ⟨_, rfl⟩
   have hg : H[S.length]? = some (.cells 7 [[.int op, .list fl es, .int kind, .int num, .int scale, .str text, .str qual]] (some 1)) := by rw [hH]; simp
   have ht : H.take S.length = S := by rw [hH]; simp
   rw [← hH]
   rw [mwp_seq, mwp_seq]
   simp [-mwp_seq, -mwp_block, hg]
   refine (w108 op _).use ?_
   rintro e S1 ⟨rfl, rfl⟩
   by_cases hl : (args.length : Int) = opnds op
   rotate_left 1
   ·have hb : ((es.length : Int) != opnds op) = true := by simp; omega
    simp [hb, hl, ht, hg]
   have hb : ((es.length : Int) != opnds op) = false := by simp; omega
   simp [-mwp_seq, -mwp_block, hb, hl]
   rw [mwp_seq, mwp_seq]
   by_cases h21 : op = 21
   ·simp [-mwp_block, hg, h21]
    refine (w109 _ rfl _ _ _ _ _ _ _).use ?_
    rintro e S1 ⟨rfl, rfl⟩
    simp [ht, h21]
   have b21 : (op == 21) = false := beq_eq_false_iff_ne.2 h21
   simp [-mwp_seq, -mwp_block, hg, b21, h21]
   rw [mwp_seq, mwp_seq]
   by_cases hk : kind = 0
   rotate_left 1
   ·have hk' : (kind != 0) = true := by simp [hk]
    simp [-mwp_block, hg, hk', hk, ht]
   by_cases hnm : num = 0
   rotate_left 1
   ·have hk' : (num != 0) = true := by simp [hnm]
    simp [-mwp_block, hg, hk, hk', hnm, ht]
   by_cases hsc : scale = 0
   rotate_left 1
   ·have hk' : (scale != 0) = true := by simp [hsc]
    simp [-mwp_block, hg, hk, hk', hnm, hsc, ht]
   simp [-mwp_seq, -mwp_block, hg, hk, hnm, hsc]
   rw [mwp_seq, mwp_seq]
   by_cases h22 : op = 22
   ·simp [-mwp_block, hg, h22]
    refine (w107 text _).use ?_
    rintro e S1 ⟨rfl, rfl⟩
    cases htx : nameB text with
    | false => simp [hg, ht, h22]
    | true =>
      by_cases hq : qual = []
      ·simp [hg, hq, ht, h22]
      ·simp [hg, hq]
       refine (w107 qual _).use ?_
       rintro e S1 ⟨rfl, rfl⟩
       simp [ht, h22, hq]
   have b22 : (op == 22) = false := beq_eq_false_iff_ne.2 h22
   simp [-mwp_seq, -mwp_block, hg, b22, h22]
   rw [mwp_seq, mwp_seq]
   simp [-mwp_seq, -mwp_block, hg]
   refine mwp_mono _ _ (fun _ _ _ _ _ hr h => h.mono hr) ?_ (w68l (w0 := w0) (S := S) (c := []) (by omega) hes (op := op) (kind := kind) (num := num) (scale := scale) (text := text) (qual := qual) (by rw [hk, hnm, hsc] at hg ⊢; exact hg) (fun y hy av hv S => ih y.w (by have := w_mem hy; omega) (by have := w_mem hy; omega) y (Nat.le_refl _) av hv S)
    (m := args.length) ⟨0, rfl, Nat.zero_le _, rfl, by simp, by simp, by simp [okL_nil]⟩)
   intro e a2 S2 hJ
   cases e <;> first | exact hJ.elim | skip
   ·obtain ⟨rfl, a1, hL⟩ := hJ
    by_cases htx : text = []
    ·simp [hg, a1, hL, htx, ht]
    ·simp [hg, a1, hL, htx, ht]
   ·obtain ⟨rfl, a2', hL⟩ := hJ
    simp [a2', hL, ht]
end Go.Abs
namespace Go.Abs
open Go Go.RowKit Go.Proofs Go.Lx Go.Pz
variable {w0 : World}
def aheadT : List Bs := [[], [], [], [], [], [], [], [], [], [], [], [], [], [40, 45, 32], [73, 78, 84, 40], [82, 69, 65, 76, 40], [40, 78, 79, 84, 32], [], [], [40], [40], [], []]
def behindT : List Bs := [[], [], [], [], [], [], [], [], [], [], [], [], [], [41], [41], [41], [41], [], [], [32, 73, 83, 32, 78, 85, 76, 76, 41], [32, 73, 83, 32, 78, 79, 84, 32, 78, 85, 76, 76, 41], [], []]
def signT : List Bs := [[], [61], [60, 62], [60], [60, 61], [62], [62, 61], [43], [45], [42], [47], [37], [124, 124], [], [], [], [], [65, 78, 68], [79, 82], [], [], [], []]
def constT (kind num scale : Int) (text : Bs) : Bs :=
 if kind = 0 then [78, 85, 76, 76] else if kind = 1 then (if num = 0 then [70, 65, 76, 83, 69] else [84, 82, 85, 69])
 else if kind = 3 ∧ scale = -1 then [78, 65, 78] else if kind = 3 ∧ scale = -2 then [73, 78, 70, 73, 78, 73, 84, 89] else wordOf ⟨kind, text, num, scale⟩
def shapeT (op kind num scale : Int) (text qual : Bs) (l : List Bs) : Bs :=
 if op = 21 then constT kind num scale text else if op = 22 then (if qual = [] then text else qual ++ 46 :: text)
 else match l with
  | [a] => aheadT.getD op.toNat [] ++ a ++ behindT.getD op.toNat []
  | [a, b] => 40 :: a ++ 32 :: (signT.getD op.toNat [] ++ 32 :: (b ++ [41]))
  | _ => []
mutual
def textE : Ex → Bs
 | .mk op args kind num scale text qual => shapeT op kind num scale text qual (textsE args)
def textsE : List Ex → List Bs
 | [] => []
 | x :: r => textE x :: textsE r
end
theorem textE_mk {op : Int} {args : List Ex} {kind num scale : Int} {text qual : Bs} : textE (.mk op args kind num scale text qual) = shapeT op kind num scale text qual (textsE args) := by rw [textE]
theorem textsE_nil : textsE [] = [] := by rw [textsE]
theorem textsE_cons {x : Ex} {r : List Ex} : textsE (x :: r) = textE x :: textsE r := by rw [textsE]
section
variable {op kind num scale : Int} {text qual : Bs} {l : List Bs} {a b : Bs}
theorem shapeT_const (h : op = 21) : shapeT op kind num scale text qual l = constT kind num scale text := by unfold shapeT; rw [if_pos h]
theorem shapeT_col (h : op = 22) : shapeT op kind num scale text qual l = if qual = [] then text else qual ++ 46 :: text := by unfold shapeT; rw [if_neg (by omega), if_pos h]
theorem shapeT_one (h1 : op ≠ 21) (h2 : op ≠ 22) : shapeT op kind num scale text qual [a] = aheadT.getD op.toNat [] ++ a ++ behindT.getD op.toNat [] := by unfold shapeT; rw [if_neg h1, if_neg h2]
theorem shapeT_two (h1 : op ≠ 21) (h2 : op ≠ 22) : shapeT op kind num scale text qual [a, b] = 40 :: a ++ 32 :: (signT.getD op.toNat [] ++ 32 :: (b ++ [41])) := by unfold shapeT; rw [if_neg h1, if_neg h2]
end
theorem length_two {α : Type} {l : List α} (h : l.length = 2) : ∃ a b, l = [a, b] := by
 match l, h with
 | [a, b], _ => exact ⟨a, b, rfl⟩
theorem op_one {op : Int} (h : opnds op = 1) : op = 13 ∨ op = 14 ∨ op = 15 ∨ op = 16 ∨ op = 19 ∨ op = 20 := by
 unfold opnds at h
 split at h
 ·cases h
 ·obtain ⟨n, rfl⟩ : ∃ n : Nat, op = n := ⟨op.toNat, by omega⟩
  have hc : n = 1 ∨ n = 2 ∨ n = 3 ∨ n = 4 ∨ n = 5 ∨ n = 6 ∨ n = 7 ∨ n = 8 ∨ n = 9 ∨ n = 10 ∨ n = 11 ∨ n = 12 ∨ n = 13 ∨ n = 14 ∨ n = 15 ∨ n = 16 ∨ n = 17 ∨ n = 18 ∨ n = 19 ∨ n = 20 ∨ n = 21 ∨ n = 22 := by omega
  rcases hc with rfl | rfl | rfl | rfl | rfl | rfl | rfl | rfl | rfl | rfl | rfl | rfl | rfl | rfl | rfl | rfl | rfl | rfl | rfl | rfl | rfl | rfl <;> first | (exfalso; revert h; decide) | simp
theorem op_two {op : Int} (h : opnds op = 2) : op = 1 ∨ op = 2 ∨ op = 3 ∨ op = 4 ∨ op = 5 ∨ op = 6 ∨ op = 7 ∨ op = 8 ∨ op = 9 ∨ op = 10 ∨ op = 11 ∨ op = 12 ∨ op = 17 ∨ op = 18 := by
 unfold opnds at h
 split at h
 ·cases h
 ·obtain ⟨n, rfl⟩ : ∃ n : Nat, op = n := ⟨op.toNat, by omega⟩
  have hc : n = 1 ∨ n = 2 ∨ n = 3 ∨ n = 4 ∨ n = 5 ∨ n = 6 ∨ n = 7 ∨ n = 8 ∨ n = 9 ∨ n = 10 ∨ n = 11 ∨ n = 12 ∨ n = 13 ∨ n = 14 ∨ n = 15 ∨ n = 16 ∨ n = 17 ∨ n = 18 ∨ n = 19 ∨ n = 20 ∨ n = 21 ∨ n = 22 := by omega
  rcases hc with rfl | rfl | rfl | rfl | rfl | rfl | rfl | rfl | rfl | rfl | rfl | rfl | rfl | rfl | rfl | rfl | rfl | rfl | rfl | rfl | rfl | rfl <;> first | (exfalso; revert h; decide) | simp
theorem op_none {op : Int} {n : Nat} (h : (n : Int) = opnds op) (h1 : op ≠ 21) (h2 : op ≠ 22) : n = 1 ∨ n = 2 := by
 unfold opnds at h
 split at h
 ·omega
 ·obtain ⟨k, rfl⟩ : ∃ k : Nat, op = k := ⟨op.toNat, by omega⟩
  have hc : k = 1 ∨ k = 2 ∨ k = 3 ∨ k = 4 ∨ k = 5 ∨ k = 6 ∨ k = 7 ∨ k = 8 ∨ k = 9 ∨ k = 10 ∨ k = 11 ∨ k = 12 ∨ k = 13 ∨ k = 14 ∨ k = 15 ∨ k = 16 ∨ k = 17 ∨ k = 18 ∨ k = 19 ∨ k = 20 := by omega
  rcases hc with rfl | rfl | rfl | rfl | rfl | rfl | rfl | rfl | rfl | rfl | rfl | rfl | rfl | rfl | rfl | rfl | rfl | rfl | rfl | rfl <;> simp [opTab] at h <;> omega
theorem const_tok {kind num scale : Int} {text qual : Bs} (h : constB kind num scale text qual = true) : (kind = 0 ∧ num = 0 ∧ scale = 0 ∧ text = []) ∨ (kind = 1 ∧ (num = 0 ∨ num = 1) ∧ scale = 0 ∧ text = []) ∨ (kind = 3 ∧ (scale = -1 ∨ scale = -2) ∧ num = 0 ∧ text = []) ∨
  (kind ≠ 0 ∧ kind ≠ 1 ∧ ¬ (kind = 3 ∧ scale = -1) ∧ ¬ (kind = 3 ∧ scale = -2) ∧ OkT ⟨kind, text, num, scale⟩ ∧ (kind = 2 ∨ kind = 3 ∨ kind = 4)) := by
 unfold constB at h
 simp only [Bool.and_eq_true, decide_eq_true_eq] at h
 obtain ⟨_, h⟩ := h
 split at h
 ·rename_i hk
  simp only [Bool.and_eq_true, decide_eq_true_eq] at h
  obtain ⟨⟨⟨h0, h1⟩, rfl⟩, rfl⟩ := h
  rcases hk with rfl | rfl | rfl
  ·simp [mostN] at h1
   exact .inl ⟨rfl, by omega, rfl, rfl⟩
  ·simp [mostN] at h1
   exact .inr (.inl ⟨rfl, by omega, rfl, rfl⟩)
  ·simp [mostN] at h1
   refine .inr (.inr (.inr ⟨by decide, by decide, by simp, by simp, ?_, .inl rfl⟩))
   obtain ⟨n, rfl⟩ : ∃ n : Nat, num = n := ⟨num.toNat, by omega⟩
   exact .int n (by omega)
 ·split at h
  ·rename_i hk
   subst hk
   split at h
   ·rename_i hs
    simp only [Bool.and_eq_true, decide_eq_true_eq] at h
    exact .inr (.inr (.inl ⟨rfl, hs, h.1, h.2⟩))
   ·rename_i hs
    simp only [Bool.and_eq_true, decide_eq_true_eq] at h
    obtain ⟨⟨⟨⟨rfl, h1⟩, h2⟩, h3⟩, h4⟩ := h
    refine .inr (.inr (.inr ⟨by decide, by decide, by omega, by omega, ?_, .inr (.inl rfl)⟩))
    obtain ⟨n, rfl⟩ : ∃ n : Nat, num = n := ⟨num.toNat, by omega⟩
    obtain ⟨k, rfl⟩ : ∃ k : Nat, scale = k := ⟨scale.toNat, by omega⟩
    exact .real n k (by omega) (by omega) (by omega)
  ·split at h
   ·rename_i hk
    subst hk
    simp only [Bool.and_eq_true, decide_eq_true_eq] at h
    obtain ⟨⟨rfl, rfl⟩, h3⟩ := h
    exact .inr (.inr (.inr ⟨by decide, by decide, by simp, by simp, .text text (by omega), .inr (.inr rfl)⟩))
   ·cases h
theorem const_len {kind num scale : Int} {text qual : Bs} (h : constB kind num scale text qual = true) : (constT kind num scale text).length ≤ 1000 := by
 unfold constT
 rcases const_tok h with ⟨rfl, _⟩ | ⟨rfl, h1, _⟩ | ⟨rfl, h1, _⟩ | ⟨h1, h2, h3, h4, h5, _⟩
 ·simp
 ·rcases h1 with rfl | rfl <;> simp
 ·rcases h1 with rfl | rfl <;> simp
 ·rw [if_neg h1, if_neg h2, if_neg h3, if_neg h4]
  exact wordOf_len h5
theorem nameB_len {x : Bs} (h : nameB x = true) : x.length ≤ 32 := by
 unfold nameB at h
 simp only [Bool.and_eq_true, decide_eq_true_eq] at h
 exact h.1.1.1.2
theorem textE_len : ∀ (n : Nat) (x : Ex), x.w ≤ n → okE x = true → (textE x).length ≤ 1100 * (x.w + 1) := by
 intro n
 induction n using Nat.strongRecOn with
 | _ n ih =>
   intro x hx ho
   obtain ⟨op, args, kind, num, scale, text, qual⟩ := x
   rw [okE_mk, Bool.and_eq_true, decide_eq_true_eq] at ho
   obtain ⟨hl, ho⟩ := ho
   rw [w_mk] at hx ⊢
   rw [textE_mk]
   by_cases h21 : op = 21
   ·rw [if_pos h21] at ho
    rw [shapeT_const h21]
    have := const_len ho
    omega
   rw [if_neg h21] at ho
   simp only [Bool.and_eq_true, decide_eq_true_eq] at ho
   obtain ⟨_, ho⟩ := ho
   by_cases h22 : op = 22
   ·rw [if_pos h22] at ho
    rw [shapeT_col h22]
    simp only [Bool.and_eq_true, Bool.or_eq_true, decide_eq_true_eq] at ho
    have h1 := nameB_len ho.1
    split
    ·omega
    ·rename_i hq
     have h2 := nameB_len (ho.2.resolve_left hq)
     simp; omega
   rw [if_neg h22] at ho
   simp only [Bool.and_eq_true, decide_eq_true_eq] at ho
   obtain ⟨⟨hL, _⟩, _⟩ := ho
   rcases op_none hl h21 h22 with hn | hn
   ·obtain ⟨a, rfl⟩ : ∃ a, args = [a] := List.length_eq_one_iff.1 hn
    have hw : wL [a] = a.w + 1 := by rw [wL_cons, wL_nil]
    have h1 := ih a.w (by omega) a (Nat.le_refl _) (okL_iff.1 hL a (by simp))
    rw [textsE_cons, textsE_nil, shapeT_one h21 h22]
    have hop := op_one (op := op) (by simpa using hl.symm)
    simp only [List.length_append]
    have h2 : (aheadT.getD op.toNat []).length ≤ 5 ∧ (behindT.getD op.toNat []).length ≤ 13 := by
     rcases hop with rfl | rfl | rfl | rfl | rfl | rfl <;> decide
    omega
   ·obtain ⟨a, b, rfl⟩ : ∃ a b, args = [a, b] := length_two hn
    have hw : wL [a, b] = a.w + b.w + 2 := by rw [wL_cons, wL_cons, wL_nil]; omega
    have h1 := ih a.w (by omega) a (Nat.le_refl _) (okL_iff.1 hL a (by simp))
    have h2 := ih b.w (by omega) b (Nat.le_refl _) (okL_iff.1 hL b (by simp))
    rw [textsE_cons, textsE_cons, textsE_nil, shapeT_two h21 h22]
    have hop := op_two (op := op) (by simpa using hl.symm)
    have h3 : (signT.getD op.toNat []).length ≤ 3 := by
     rcases hop with rfl | rfl | rfl | rfl | rfl | rfl | rfl | rfl | rfl | rfl | rfl | rfl | rfl | rfl <;> decide
    simp only [List.cons_append, List.length_append, List.length_cons, List.length_nil]
    omega
end Go.Abs
namespace Go.Lx
open Go.Lib
abbrev wT (s : Bs) : Tok := ⟨1, s, 0, 0⟩
abbrev sT (s : Bs) : Tok := ⟨5, s, 0, 0⟩
end Go.Lx
namespace Go.Abs
open Go.Lx Go.Pz
def constK (kind num scale : Int) (text : Bs) : List Tok :=
 if kind = 0 then [wT [110, 117, 108, 108]] else if kind = 1 then (if num = 0 then [wT [102, 97, 108, 115, 101]] else [wT [116, 114, 117, 101]])
 else if kind = 3 ∧ scale = -1 then [wT [110, 97, 110]] else if kind = 3 ∧ scale = -2 then [wT [105, 110, 102, 105, 110, 105, 116, 121]] else [⟨kind, text, num, scale⟩]
def aheadK (op : Int) : List Tok := if op = 13 then [sT [40], sT [45]] else if op = 14 then [wT [105, 110, 116], sT [40]] else if op = 15 then [wT [114, 101, 97, 108], sT [40]] else if op = 16 then [sT [40], wT [110, 111, 116]] else [sT [40]]
def behindK (op : Int) : List Tok := if op = 19 then [wT [105, 115], wT [110, 117, 108, 108], sT [41]] else if op = 20 then [wT [105, 115], wT [110, 111, 116], wT [110, 117, 108, 108], sT [41]] else [sT [41]]
def signK (op : Int) : Tok := if op = 17 then wT [97, 110, 100] else if op = 18 then wT [111, 114] else sT (signT.getD op.toNat [])
def shapeK (op kind num scale : Int) (text qual : Bs) (l : List (List Tok)) : List Tok :=
 if op = 21 then constK kind num scale text else if op = 22 then (if qual = [] then [wT text] else [wT qual, sT [46], wT text])
 else match l with
  | [a] => aheadK op ++ a ++ behindK op
  | [a, b] => sT [40] :: a ++ signK op :: (b ++ [sT [41]])
  | _ => []
mutual
def tokE : Ex → List Tok
 | .mk op args kind num scale text qual => shapeK op kind num scale text qual (toksE args)
def toksE : List Ex → List (List Tok)
 | [] => []
 | x :: r => tokE x :: toksE r
end
section
variable {op kind num scale : Int} {text qual : Bs} {l : List (List Tok)} {a b : List Tok}
end
end Go.Abs
namespace Go.Abs
open Go.Lx Go.Pz
end Go.Abs
namespace Go.Abs
open Go.Lx Go.Pz
section
variable {f : List Tok → Pz.Res Ex} {o : List Tok → Option (Int × List Tok)} {l r r2 r3 : List Tok} {a b : Ex} {op k : Int} {s : Bs}
end
def cloT : List Tok := [sT [41], sT [44], wT [97, 115], wT [102, 114, 111, 109], wT [105, 110, 110, 101, 114], wT [119, 104, 101, 114, 101], wT [111, 114, 100, 101, 114], wT [100, 101, 115, 99]]
def Clo (r : List Tok) : Prop := r = [] ∨ ∃ t r', r = t :: r' ∧ t ∈ cloT
section
variable {r : List Tok} (h : Clo r)
include h
end
section
variable {E : Nat → List Tok → Pz.Res Ex} {k : Nat} {l r : List Tok} {a : Ex}
end
end Go.Abs
namespace Go.Abs
open Go.Lx Go.Pz
section
variable {E : Nat → List Tok → Pz.Res Ex} {k : Nat} {r : List Tok}
end
end Go.Abs
namespace Go.Abs
open Go.Lx Go.Pz
end Go.Abs
namespace Go.Abs
open Go Go.RowKit Go.Proofs Go.Lx
structure Tb (w0 : World) : Prop where
 pow : Lib.TabIs Tryz.prog w0 "internal/strconv.uint64pow10" .u64 Lib.pow10Tab
 mx : ∃ m, w0.cell? ⟨0, 0, none⟩ = some (.int .i64 m)
section
variable {w0 : World}
theorem w138 (hT : Tb w0) {n : Int} (h0 : -9223372036854775808 ≤ n) (h1 : n ≤ 9223372036854775807) (S : Heap) :
  ACalls Tryz.prog (B0 w0) 138 [.int n, .int 10] S fun e S' => e = .ret (.str (Lib.itoa n)) ∧ S' = S := by
 refine ACalls.liftS (by kernel_rfl) fun F m vs w hs hrel => ?_
 obtain ⟨u1, u2, rfl, g1, g2⟩ := vs_two hrel
 obtain rfl := g1.int_inv
 obtain rfl := g2.int_inv
 have htab : Lib.TabIs Tryz.prog w "internal/strconv.uint64pow10" .u64 Lib.pow10Tab := by
  have h := hT.pow
  have hb : Below w0.heap.size w0 w := hs.below
  unfold Lib.TabIs World.var? at h ⊢
  have hg : Tryz.prog.globalNamed "internal/strconv.uint64pow10" = some 4 := by kernel_rfl
  rw [hg] at h ⊢
  simp only [Option.bind_some] at h ⊢
  have hlt : 4 < w0.heap.size := by
   rcases Nat.lt_or_ge 4 w0.heap.size with h' | h'
   ·exact h'
   ·rw [Array.getElem?_eq_none h'] at h; cases h
  rw [hb.block 4 hlt]
  exact h
 refine (Tryz.strconv_FormatInt_10 n h0 h1 w htab).mono fun e w' ⟨he, k, os, hw⟩ => ?_
 subst hw
 exact ⟨_, he, Rel.str (F := F) (m := m) _, ⟨rfl, rfl, rfl, by show w.heap.size ≤ (w.heap ++ os).size; rw [Array.size_append]; omega, fun i hi => by
  show (w.heap ++ os)[i]? = _
  rw [Array.getElem?_append_left hi]⟩⟩
theorem w137 (b : Bool) (S : Heap) : ACalls Tryz.prog (B0 w0) 137 [.bool b] S fun e S' => e = .ret (.str (Lib.formatBool b)) ∧ S' = S := by
 refine ACalls.lift (by kernel_rfl) fun F m vs w hv => ?_
 obtain ⟨u, rfl, hu⟩ := vs_one hv
 obtain rfl := hu.bool_inv
 refine (Tryz.strconv_FormatBool b w).mono fun e w' ⟨he, hw⟩ => ?_
 subst hw
 exact ⟨_, he, Rel.str (F := F) (m := m) _, Below.refl _ _⟩
theorem w136 {l : Bs} (h : l.all (fun b => decide (b.toNat < 128)) = true) (hl : l.length ≤ 140737488355328) (S : Heap) : ACalls Tryz.prog (B0 w0) 136 [.str l] S fun e S' => e = .ret (.str (Lib.toUpperA l)) ∧ S' = S := by
 refine ACalls.lift (by kernel_rfl) fun F m vs w hv => ?_
 obtain ⟨u, rfl, hu⟩ := vs_one hv
 obtain rfl := hu.str_inv
 simp only [decide_eq_true_eq, List.all_eq_true] at h
 refine (Tryz.strings_ToUpper_ascii ⟨l.toArray⟩ w (by simpa [ByteArray.size] using hl) (fun j b hb => h b (by simpa using List.mem_of_getElem? hb))).mono fun e w' ⟨he, hb⟩ => ?_
 exact ⟨_, he, Rel.str (F := F) (m := m) _, hb⟩
theorem w48 (l : Bs) (c : UInt8) (S : Heap) : ACalls Tryz.prog (B0 w0) 48 [.str l, .str [c]] S fun e S' => e = .ret (.bool (decide (0 ≤ Lib.indexByte l c))) ∧ S' = S := by
 refine ACalls.lift (by kernel_rfl) fun F m vs w hv => ?_
 obtain ⟨u1, u2, rfl, h1, h2⟩ := vs_two hv
 obtain rfl := h1.str_inv
 obtain rfl := h2.str_inv
 refine (Tryz.strings_Contains_one ⟨l.toArray⟩ c w).mono fun e w' ⟨he, hw⟩ => ?_
 subst hw
 exact ⟨_, he, .atom _, Below.refl _ _⟩
theorem vs_three {F m} {x y z : AVal} {vs : Array Value} (h : RelL F m [x, y, z] vs) : ∃ u v t, vs = #[u, v, t] ∧ Rel F m x u ∧ Rel F m y v ∧ Rel F m z t := by
 obtain ⟨hl, hg⟩ := h
 obtain ⟨l⟩ := vs
 match l, hl with
 | [u, v, t], _ => exact ⟨u, v, t, rfl, hg 0 (by simp), hg 1 (by simp), hg 2 (by simp)⟩
theorem countB_le (l : Bs) : Lib.countB ⟨l.toArray⟩ ⟨#[39]⟩ ≤ l.length := by
 have := Lib.countB_le ⟨#[39]⟩ (by decide) l.length ⟨l.toArray⟩ (by simp [ByteArray.size])
 simpa [ByteArray.size] using this
theorem w139 (hT : Tb w0) {l : Bs} (hl : l.length < 4294967281) (S : Heap) : ACalls Tryz.prog (B0 w0) 139 [.str l, .str [39], .str [39, 39]] S fun e S' => e = .ret (.str (Lib.replaceAll l [39] [39, 39])) ∧ S' = S := by
 refine ACalls.liftS (by kernel_rfl) fun F m vs w hs hrel => ?_
 obtain ⟨u1, u2, u3, rfl, g1, g2, g3⟩ := vs_three hrel
 obtain rfl := g1.str_inv
 obtain rfl := g2.str_inv
 obtain rfl := g3.str_inv
 obtain ⟨mx, hm⟩ := hT.mx
 have hb : Below w0.heap.size w0 w := hs.below
 have hm' := (hb.cell (World.block_lt_of_cell? w0 _ hm)).trans hm
 have hc := countB_le l
 refine (Tryz.strings_ReplaceAll ⟨l.toArray⟩ ⟨#[39]⟩ ⟨#[39, 39]⟩ mx w (by simpa [ByteArray.size] using hl) hm' (by decide) ?_).mono fun e w' ⟨he, hb⟩ => ?_
 ·have e1 : (⟨l.toArray⟩ : ByteArray).size = l.length := by simp [ByteArray.size]
  have e2 : (⟨#[39, 39]⟩ : ByteArray).size = 2 := rfl
  rw [e1, e2]; omega
 exact ⟨_, he, Rel.str (F := F) (m := m) _, hb⟩
theorem w33 {S : Heap} {v : AVal} {xs : List Bs} {sep : Bs} (hv : Rk 1 S v (strs xs)) (hN : xs.length ≤ 140737488355328) (hl : (Lib.join xs sep).length ≤ 140737488355328) :
  ACalls Tryz.prog (B0 w0) 33 [v, .str sep] S fun e S' => e = .ret (.str (Lib.join xs sep)) ∧ S' = S := by
 have hv := hv.elems
 refine ACalls.liftS (by kernel_rfl) fun F m vs w hs hrel => ?_
 obtain ⟨u1, u2, rfl, h1, h2⟩ := vs_two hrel
 obtain rfl := h2.str_inv
 have hk : ∀ e ∈ strs xs, e.length = 1 := by simp [strs]
 obtain ⟨A, cap, rfl, hne⟩ := elems_at hs h1 hv hk
 have hle : (strs xs).length ≤ cap := by
  generalize (strs xs).length = n at h1
  cases h1 with
  | nil cap hc => simp
  | list _ _ _ _ _ _ _ _ _ _ _ hcap => exact hcap
  | row _ _ _ _ _ _ _ hl => exact hl
  | _ => exact absurd hv (by simp [elemsOf])
 by_cases h0 : xs = []
 ·subst h0
  refine (Tryz.strings_Join_none A cap ⟨sep.toArray⟩ w).mono fun e w' ⟨he, hw⟩ => ?_
  subst hw
  exact ⟨_, he, Rel.str (F := F) (m := m) [], Below.refl _ _⟩
 ·have hne' : strs xs ≠ [] := by intro h; exact h0 (List.map_eq_nil_iff.1 h)
  obtain ⟨b, x, rfl, hin⟩ := hne hne'
  have hcell : ∀ (j : Nat) (s : Bs), xs[j]? = some s → w.cell? ⟨b, x + j, none⟩ = some (.string ⟨s.toArray⟩) := fun j s hj => by
   have hjl : j < xs.length := by
    rcases Nat.lt_or_ge j xs.length with h | h
    ·exact h
    ·rw [List.getElem?_eq_none h] at hj; cases hj
   have hg : (strs xs).getD j [] = [.str s] := by
    rw [getD_eq _ _ _ (by simpa [strs] using hjl)]
    rw [List.getElem?_eq_getElem hjl] at hj
    simp only [Option.some.injEq] at hj
    simp [strs, hj]
   have := hin j (by simpa [strs] using hjl)
   rw [hg] at this
   obtain ⟨u, hu, _, hr⟩ := this 0 (by simp)
   have hr' : Rel F m (.str s) u := hr
   obtain rfl := hr'.str_inv
   simpa using hu
  have hb : b < w.heap.size := by
   cases xs with
   | nil => exact absurd rfl h0
   | cons s r =>
     have := hcell 0 s rfl
     exact World.block_lt_of_cell? _ _ this
  have hmap : (xs.map fun s => (⟨s.toArray⟩ : ByteArray)).map (fun z => z.data.toList) = xs := by
   rw [List.map_map]
   exact (List.map_congr_left fun s _ => rfl).trans (List.map_id _)
  have hlen : (strs xs).length = (xs.map fun s => (⟨s.toArray⟩ : ByteArray)).length := by simp [strs]
  have := Tryz.strings_Join b x cap (xs.map fun s => (⟨s.toArray⟩ : ByteArray)) ⟨sep.toArray⟩ w (fun j z hj => by
   simp only [List.getElem?_map, Option.map_eq_some_iff] at hj
   obtain ⟨s, hs, rfl⟩ := hj
   exact hcell j s hs) hb (by simpa using hN) (by rw [← hlen]; exact hle) (by rw [hmap]; exact hl)
  rw [← hlen, hmap] at this
  refine this.mono fun e w' ⟨he, hw⟩ => ⟨_, he, Rel.str (F := F) (m := m) _, hw⟩
end
end Go.Abs
namespace Go.Abs
open Go Go.RowKit Go.Proofs Go.Lx
theorem dec_digs : ∀ (n : Nat) (u : Nat), u ≤ n → Lib.decDigits u = digs u
 | 0, u, h => by
   have : u = 0 := by omega
   subst this
   rw [Lib.decDigits_one (by decide), digs, dif_pos (by decide)]
 | n + 1, u, h => by
   by_cases h9 : u ≤ 9
   ·rw [Lib.decDigits_one (by omega), digs, dif_pos h9]
   ·rw [Lib.decDigits, dif_neg (by omega), digs, dif_neg h9, dec_digs n (u / 10) (by omega)]
theorem itoa_digs {n : Int} (h : 0 ≤ n) : Lib.itoa n = digs n.toNat := by
 rw [Lib.itoa, if_neg (by omega), dec_digs _ _ (Nat.le_refl _)]
theorem rep_dbl : ∀ (l : Bs) (k : Nat), l.count 39 ≤ k → Lib.replaceK [39] [39, 39] k l = dbl l
 | [], 0, _ => rfl
 | [], k + 1, _ => by rw [Lib.replaceK]; simp [Lib.index, dbl]
 | b :: r, k, h => by
   by_cases hb : b = 39
   ·subst hb
    rw [List.count_cons_self] at h
    obtain ⟨k, rfl⟩ : ∃ k', k = k' + 1 := ⟨k - 1, by omega⟩
    rw [Lib.replaceK_hit _ _ _ _ 0 (by simp [Lib.index])]
    simp only [List.take_zero, List.nil_append, List.length_singleton, Nat.zero_add, List.drop_succ_cons, List.drop_zero]
    rw [rep_dbl r k (by omega), dbl, if_pos (by decide)]; rfl
   ·have hb' : ¬ b.toNat = 39 := fun e => hb (UInt8.toNat_inj.1 e)
    rw [List.count_cons_of_ne (by simpa using hb)] at h
    rw [dbl, if_neg hb']
    have ih := rep_dbl r k h
    cases k with
    | zero => rw [Lib.replaceK] at ih ⊢; rw [← ih]
    | succ k =>
      have hp : ([39] : Bs).isPrefixOf (b :: r) = false := by simp [List.isPrefixOf]; exact fun e => hb e.symm
      by_cases hm : Lib.index r [39] = -1
      ·have e1 : Lib.index (b :: r) [39] = -1 := by rw [Lib.index, hp, if_neg (by simp), hm]; rfl
       rw [Lib.replaceK, hm] at ih
       rw [Lib.replaceK, e1, ← ih]; rfl
      ·have hge := Lib.index_ge r [39]
       obtain ⟨i, hi⟩ : ∃ i : Nat, Lib.index r [39] = i := ⟨(Lib.index r [39]).toNat, by omega⟩
       have e1 : Lib.index (b :: r) [39] = ((i + 1 : Nat) : Int) := by
        rw [Lib.index, hp, if_neg (by simp), hi, if_neg (by simp)]; simp
       rw [Lib.replaceK_hit _ _ _ _ _ hi] at ih
       rw [Lib.replaceK_hit _ _ _ _ _ e1, ← ih]
       simp
theorem replace_dbl (l : Bs) : Lib.replaceAll l [39] [39, 39] = dbl l := by
 have h : Lib.count l [39] = l.count 39 := Lib.count_one _ _
 rw [Lib.replaceAll, Lib.replace, if_neg (by decide), Lib.replaceNum, if_pos (.inl (by decide)), rep_dbl _ _ (Nat.le_of_eq h.symm)]
theorem digs_len : ∀ (k : Nat) (n : Nat), n < 10 ^ k → 1 ≤ k → (digs n).length ≤ k
 | 0, n, h, h1 => by omega
 | k + 1, n, h, h1 => by
   by_cases h9 : n ≤ 9
   ·rw [digs, dif_pos h9]; simp
   ·rw [digs, dif_neg h9]
    have hk : 1 ≤ k := by
     rcases Nat.eq_zero_or_pos k with rfl | h'
     ·simp at h; omega
     ·exact h'
    have := digs_len k (n / 10) (by rw [Nat.pow_succ] at h; omega) hk
    simp; omega
def pointT (n k : Nat) : Bs := (padz (digs n) k).take ((padz (digs n) k).length - k) ++ 46 :: (padz (digs n) k).drop ((padz (digs n) k).length - k)
theorem padz_len (l : Bs) (k : Nat) : (padz l k).length = max l.length (k + 1) := by simp [padz]; omega
theorem pointT_len {n k : Nat} (hn : n ≤ 999999999999999) (hk : k ≤ 14) : (pointT n k).length ≤ 16 := by
 have h1 := digs_len 15 n (by omega) (by decide)
 have h2 := padz_len (digs n) k
 simp only [pointT, List.length_append, List.length_cons, List.length_take, List.length_drop]
 omega
end Go.Abs
namespace Go.Abs
open Go Go.RowKit Go.Proofs Go.Lx Go.Pz
variable {w0 : World}
set_option maxHeartbeats 2000000 in
theorem w100 (op : Int) (S : Heap) : ACalls Tryz.prog (B0 w0) 100 [.int op] S fun e S' => e = .ret (.int (opnds op)) ∧ S' = S := by
 refine fn_sound tryOrd (f100_c _) (by simp [f100]) ?_
 by_cases h1 : op < 1
 ·have a1 : (op == 21) = false := beq_eq_false_iff_ne.2 (by omega)
  have a2 : (op == 22) = false := beq_eq_false_iff_ne.2 (by omega)
  have a3 : (op == 17) = false := beq_eq_false_iff_ne.2 (by omega)
  have a4 : (op == 18) = false := beq_eq_false_iff_ne.2 (by omega)
  have a5 : ¬ 1 ≤ op := by omega
  have a6 : ¬ 13 ≤ op := by omega
  simp [f100, f100m, h1, a1, a2, a3, a4, a5, a6, opnds]
 by_cases h2 : 22 < op
 ·have a1 : (op == 21) = false := beq_eq_false_iff_ne.2 (by omega)
  have a2 : (op == 22) = false := beq_eq_false_iff_ne.2 (by omega)
  have a3 : (op == 17) = false := beq_eq_false_iff_ne.2 (by omega)
  have a4 : (op == 18) = false := beq_eq_false_iff_ne.2 (by omega)
  have a5 : 1 ≤ op := by omega
  have a6 : ¬ op ≤ 12 := by omega
  have a7 : 13 ≤ op := by omega
  have a8 : ¬ op ≤ 20 := by omega
  simp [f100, f100m, h1, h2, a1, a2, a3, a4, a5, a6, a7, a8, opnds]
 obtain ⟨n, hn⟩ : ∃ n : Nat, op = n := ⟨op.toNat, by omega⟩
 have hc : n = 1 ∨ n = 2 ∨ n = 3 ∨ n = 4 ∨ n = 5 ∨ n = 6 ∨ n = 7 ∨ n = 8 ∨ n = 9 ∨ n = 10 ∨ n = 11 ∨ n = 12 ∨ n = 13 ∨ n = 14 ∨ n = 15 ∨ n = 16 ∨ n = 17 ∨ n = 18 ∨ n = 19 ∨ n = 20 ∨ n = 21 ∨ n = 22 := by omega
 subst hn
 rcases hc with rfl | rfl | rfl | rfl | rfl | rfl | rfl | rfl | rfl | rfl | rfl | rfl | rfl | rfl | rfl | rfl | rfl | rfl | rfl | rfl | rfl | rfl
 all_goals simp [f100, f100m, opnds, opTab]
set_option maxHeartbeats 1000000 in
theorem w140 (hT : Tb w0) {n k : Nat} (hn : n ≤ 999999999999999) (hk : k ≤ 14) (S : Heap) : ACalls Tryz.prog (B0 w0) 140 [.int n, .int k] S fun e S' => e = .ret (.str (pointT n k)) ∧ S' = S := by
 have hd := digs_len 15 n (by omega) (by decide)
 have h138 := fun S => w138 hT (n := n) (by omega) (by omega) S
 have e1 : Lib.itoa (n : Int) = digs n := by rw [itoa_digs (by omega)]; simp
 simp only [e1] at h138
 refine fn_sound tryOrd (f140_c _) (by simp [f140]) ?_
 simp [f140, f140m]
 refine (h138 _).use ?_
 rintro e S1 ⟨rfl, rfl⟩
 simp
 refine mwp_loop (I := fun m a S' => ∃ j, m = k + 1 - (digs n).length - j ∧ j ≤ k + 1 - (digs n).length ∧ S' = S1 ∧ get a 1 = .int k ∧ get a 5 = .str (List.replicate j 48 ++ digs n)) (n := k + 1 - (digs n).length) ⟨0, by omega, by omega, rfl, by simp, by simp⟩ ?_
 rintro m a S' ⟨j, rfl, hj, rfl, a1, a5⟩
 by_cases hlt : j + (digs n).length ≤ k
 ·have h' : (j : Int) + ((digs n).length : Int) ≤ (k : Int) := by omega
  simp [f140b0, a1, a5, h']
  refine ⟨?_, k + 1 - (digs n).length - (j + 1), by omega, j + 1, rfl, by omega, by simp [List.replicate_succ, a1]⟩
  omega
 ·have h' : ¬ (j : Int) + ((digs n).length : Int) ≤ (k : Int) := by omega
  have hje : j = k + 1 - (digs n).length := by omega
  have hp : List.replicate j 48 ++ digs n = padz (digs n) k := by rw [padz, hje]
  have hpl := padz_len (digs n) k
  have hpl' : ((padz (digs n) k).length : Int) = j + (digs n).length := by omega
  have hw : IntKind.i64.wrap (((padz (digs n) k).length : Int) - (k : Int)) = (((padz (digs n) k).length - k : Nat) : Int) := by rw [wrap64_in (by omega) (by omega)]; omega
  rw [hp] at a5
  rw [hpl'] at hw
  have hle : (padz (digs n) k).length - k ≤ (padz (digs n) k).length := Nat.sub_le _ _
  have hge : k ≤ (padz (digs n) k).length := by omega
  have hsml : (padz (digs n) k).length ≤ 100 := by omega
  generalize hm : (padz (digs n) k).length - k = q at *
  simp [f140b0, a1, a5, h', hpl', hw, sslcR, bound, pointT, hm]
  omega
set_option maxHeartbeats 2000000 in
theorem w101 (hT : Tb w0) (v : AVal) (hv : v.one = true) (op kind num scale : Int) (text qual : Bs) (hnum : num ≤ 9223372036854775807) (S : Heap) :
  ACalls Tryz.prog (B0 w0) 101 [.agg [.int op, v, .int kind, .int num, .int scale, .str text, .str qual]] S fun e S' => e = .ret (.bool (constB kind num scale text qual)) ∧ S' = S := by
 refine ACalls.close (R := fun e S' => e = .ret (.bool (constB kind num scale text qual)) ∧ S'.take S.length = S) ?_ ?_
 rotate_left 1
 ·rintro e S' ⟨rfl, ht⟩
  exact .flat ht rfl ⟨rfl, rfl⟩
 refine fn_sound tryOrd (f101_c _) (by simp [f101]) ?_
 by_cases hq : qual = []
 rotate_left 1
 ·simp [f101, f101m, hv, hq, constB]
 subst hq
 by_cases k4 : kind = 4
 ·subst k4
  by_cases hs : scale = 0
  rotate_left 1
  ·have hs' : (scale != 0) = true := by simp [hs]
   simp [f101, f101m, hv, hs, hs', constB]
  subst hs
  by_cases hn : num = 0
  rotate_left 1
  ·have hn' : (num == 0) = false := beq_eq_false_iff_ne.2 hn
   simp [f101, f101m, hv, hn, hn', constB]
  by_cases ht : text.length < 201
  ·have ht' : (text.length : Int) ≤ 200 := by omega
   simp [f101, f101m, hv, hn, ht, ht', constB]
  ·have ht' : ¬ (text.length : Int) ≤ 200 := by omega
   simp [f101, f101m, hv, hn, ht, ht', constB]
 have b4 : (kind == 4) = false := beq_eq_false_iff_ne.2 k4
 have b4' : (kind != 4) = true := by simp [k4]
 by_cases htx : text = []
 rotate_left 1
 ·simp [f101, f101m, hv, b4, b4', k4, htx, constB]
 subst htx
 by_cases k3 : kind = 3
 ·subst k3
  by_cases hs : scale = -1 ∨ scale = -2
  ·by_cases hn : num = 0
   ·rcases hs with rfl | rfl <;> simp [f101, f101m, hv, hn, constB]
   ·have hn' : (num == 0) = false := beq_eq_false_iff_ne.2 hn
    rcases hs with rfl | rfl <;> simp [f101, f101m, hv, hn, hn', constB]
  simp only [not_or] at hs
  obtain ⟨s1, s2⟩ := hs
  have c1 : (scale == -1) = false := beq_eq_false_iff_ne.2 s1
  have c2 : (scale == -2) = false := beq_eq_false_iff_ne.2 s2
  by_cases h1 : 1 ≤ scale
  rotate_left 1
  ·simp [f101, f101m, hv, c1, c2, s1, s2, h1, constB]
  by_cases h2 : scale ≤ 14
  rotate_left 1
  ·simp [f101, f101m, hv, c1, c2, s1, s2, h1, h2, constB]
  by_cases h3 : 0 ≤ num
  rotate_left 1
  ·simp [f101, f101m, hv, c1, c2, s1, s2, h1, h2, h3, constB]
  by_cases h4 : num ≤ 999999999999999
  rotate_left 1
  ·have h4' : ¬ num < 1000000000000000 := by omega
   simp [f101, f101m, hv, c1, c2, s1, s2, h1, h2, h3, h4, h4', constB]
  have h4' : num < 1000000000000000 := by omega
  obtain ⟨n, rfl⟩ : ∃ n : Nat, num = n := ⟨num.toNat, by omega⟩
  obtain ⟨k, rfl⟩ : ∃ k : Nat, scale = k := ⟨scale.toNat, by omega⟩
  have hp := fun S => w140 hT (n := n) (k := k) (by omega) (by omega) S
  have hpl := pointT_len (n := n) (k := k) (by omega) (by omega)
  have hpl' : ((pointT n k).length : Int) ≤ 16 := by omega
  simp [f101, f101m, hv, c1, c2, s1, s2, h1, h2, h3, h4, h4', constB]
  refine (hp _).use ?_
  rintro e S1 ⟨rfl, rfl⟩
  simp [hpl']
 have b3 : (kind == 3) = false := beq_eq_false_iff_ne.2 k3
 have b3' : (kind != 3) = true := by simp [k3]
 by_cases hs : scale = 0
 rotate_left 1
 ·have hs' : (scale != 0) = true := by simp [hs]
  simp [f101, f101m, hv, b4, b4', k4, b3, b3', k3, hs, hs', constB]
 subst hs
 by_cases k0 : kind = 0
 ·subst k0
  by_cases hn : num = 0
  ·simp [f101, f101m, hv, hn, constB, mostN]
  ·have hn' : (num == 0) = false := beq_eq_false_iff_ne.2 hn
   have : ¬ (0 ≤ num ∧ num ≤ 0) := by omega
   simp [f101, f101m, hv, hn, hn', constB, mostN]
   intro h; omega
 have b0 : (kind == 0) = false := beq_eq_false_iff_ne.2 k0
 by_cases k1 : kind = 1
 ·subst k1
  by_cases hn : num = 0
  ·simp [f101, f101m, hv, hn, constB, mostN]
  by_cases hn1 : num = 1
  ·simp [f101, f101m, hv, hn1, constB, mostN]
  have hn' : (num == 0) = false := beq_eq_false_iff_ne.2 hn
  have hn1' : (num == 1) = false := beq_eq_false_iff_ne.2 hn1
  simp [f101, f101m, hv, hn, hn', hn1, hn1', constB, mostN]
  intro h; omega
 have b1 : (kind == 1) = false := beq_eq_false_iff_ne.2 k1
 by_cases k2 : kind = 2
 ·subst k2
  by_cases hn : 0 ≤ num <;> simp [f101, f101m, hv, hn, hnum, constB, mostN]
 have b2 : (kind == 2) = false := beq_eq_false_iff_ne.2 k2
 simp [f101, f101m, hv, b0, b1, b2, b3, b4, b3', b4', k0, k1, k2, k3, k4, constB]
theorem dbl_len : ∀ (l : Bs), (dbl l).length ≤ 2 * l.length
 | [] => by simp [dbl]
 | c :: r => by
   have := dbl_len r
   rw [dbl]
   split <;> simp <;> omega
theorem up_bool (b : Bool) : Lib.toUpperA (Lib.formatBool b) = if b then [84, 82, 85, 69] else [70, 65, 76, 83, 69] := by cases b <;> kernel_rfl
set_option maxHeartbeats 2000000 in
theorem w90 (hT : Tb w0) (v : AVal) (hv : v.one = true) (op kind num scale : Int) (text qual : Bs) (hc : constB kind num scale text qual = true) (S : Heap) :
  ACalls Tryz.prog (B0 w0) 90 [.agg [.int op, v, .int kind, .int num, .int scale, .str text, .str qual]] S fun e S' => e = .ret (.str (constT kind num scale text)) ∧ S' = S := by
 refine ACalls.close (R := fun e S' => e = .ret (.str (constT kind num scale text)) ∧ S'.take S.length = S) ?_ ?_
 rotate_left 1
 ·rintro e S' ⟨rfl, ht⟩
  exact .flat ht rfl ⟨rfl, rfl⟩
 refine fn_sound tryOrd (f90_c _) (by simp [f90]) ?_
 have htk := const_tok hc
 unfold constT
 rcases htk with ⟨rfl, _⟩ | ⟨rfl, h1, _⟩ | ⟨rfl, h1, _⟩ | ⟨h1, h2, h3, h4, h5, h6⟩
 ·simp [f90, f90m, hv]
 ·rcases h1 with rfl | rfl
  ·simp [f90, f90m, hv]
   refine (w137 false _).use ?_
   rintro e S1 ⟨rfl, rfl⟩
   simp
   refine (w136 (l := Lib.formatBool false) (by kernel_rfl) (by decide +kernel) _).use ?_
   rintro e S1 ⟨rfl, rfl⟩
   simp [up_bool]
  ·simp [f90, f90m, hv]
   refine (w137 true _).use ?_
   rintro e S1 ⟨rfl, rfl⟩
   simp
   refine (w136 (l := Lib.formatBool true) (by kernel_rfl) (by decide +kernel) _).use ?_
   rintro e S1 ⟨rfl, rfl⟩
   simp [up_bool]
 ·rcases h1 with rfl | rfl <;> simp [f90, f90m, hv]
 ·rw [if_neg h1, if_neg h2, if_neg h3, if_neg h4]
  cases h5 with
  | word => exact absurd h6 (by decide)
  | sign1 => exact absurd h6 (by decide)
  | sign2 => exact absurd h6 (by decide)
  | int n h =>
    have h138 := fun S => w138 hT (n := n) (by omega) (by omega) S
    have e1 : Lib.itoa (n : Int) = digs n := by rw [itoa_digs (by omega)]; simp
    simp only [e1] at h138
    simp [f90, f90m, hv]
    refine (h138 _).use ?_
    rintro e S1 ⟨rfl, rfl⟩
    simp [wordOf]
  | real n k hk hk' h =>
    have hp := fun S => w140 hT (n := n) (k := k) (by omega) (by omega) S
    have c1 : ((k : Int) == -1) = false := beq_eq_false_iff_ne.2 (by omega)
    have c2 : ((k : Int) == -2) = false := beq_eq_false_iff_ne.2 (by omega)
    simp [f90, f90m, hv, c1, c2]
    refine (hp _).use ?_
    rintro e S1 ⟨rfl, rfl⟩
    simp [wordOf, pointT]
  | text b h =>
    have hr := fun S => w139 hT (l := text) (by omega) S
    simp only [replace_dbl] at hr
    simp [f90, f90m, hv]
    refine (hr _).use ?_
    rintro e S1 ⟨rfl, rfl⟩
    have hdl := dbl_len text
    simp [wordOf]
    omega
theorem w91 {op : Int} (h : opnds op = 2) (S : Heap) : ACalls Tryz.prog (B0 w0) 91 [.int op] S fun e S' => e = .ret (.str (signT.getD op.toNat [])) ∧ S' = S := by
 refine fn_sound tryOrd (f91_c _) (by simp [f91]) ?_
 rcases op_two h with rfl | rfl | rfl | rfl | rfl | rfl | rfl | rfl | rfl | rfl | rfl | rfl | rfl | rfl
 all_goals simp [f91, f91m, signT]
set_option maxHeartbeats 1000000 in
theorem w57 (x : Bs) (S : Heap) : ACalls Tryz.prog (B0 w0) 57 [.str x] S fun e S' => e = .ret (.bool (nameB x)) ∧ S' = S := by
 have hnm : nameB x = (decide (1 ≤ x.length) && decide (x.length ≤ 32) && Lx.isL (x[0]?.getD 0) && (decide (run isW x = x.length) && decide (x.map Lib.lowerB = x)) && !decide (x ∈ resv)) := by
  rw [nameB, all_and]
  have e1 : x.all isW = decide (run isW x = x.length) := by rw [Bool.eq_iff_iff, decide_eq_true_eq]; exact run_eq_len.symm
  have e2 : (x.all fun c => decide (Lib.lowerB c = c)) = decide (x.map Lib.lowerB = x) := by rw [Bool.eq_iff_iff, decide_eq_true_eq]; exact map_lower_eq.symm
  rw [e1, e2]
 refine fn_sound tryOrd (f57_c _) (by simp [f57]) ?_
 cases x with
 | nil => simp [f57, f57m, hnm]
 | cons c r =>
   by_cases hlen : (c :: r).length ≤ 32
   rotate_left 1
   ·have h' : ¬ ((r.length : Int) + 1 ≤ 32) := by simp at hlen; omega
    have h'' : ¬ (r.length + 1 ≤ 32) := by simp at hlen; omega
    simp [f57, f57m, hnm, h', h'']
   have h' : ((r.length : Int) + 1 ≤ 32) := by simp at hlen; omega
   have h'' : (r.length + 1 ≤ 32) := by simp at hlen; omega
   simp [f57, f57m, h']
   refine (w73 c _).use ?_
   rintro e S1 ⟨rfl, rfl⟩
   by_cases hL : Lx.isL c = true
   rotate_left 1
   ·simp [hL, hnm]
   have w31' := fun S => w102 (q := 103) (p := isW) w103 (c :: r) (w0 := w0) (by simp; omega) S
   simp [hL]
   refine (w31' _).use ?_
   rintro e S1 ⟨rfl, rfl⟩
   by_cases hr : run isW (c :: r) = (c :: r).length
   rotate_left 1
   ·have hr' : ((run isW (c :: r) : Int) == (r.length : Int) + 1) = false := by
     rw [beq_eq_false_iff_ne]; simp at hr; omega
    have hr'' : ¬ run isW (c :: r) = r.length + 1 := by simpa using hr
    simp [hr', hr'', hnm]
   have hr' : ((run isW (c :: r) : Int) == (r.length : Int) + 1) = true := by simp at hr ⊢; omega
   have hall := run_eq_len.1 hr
   have hext := ext_ok (β := B0 w0) 104 [.str (c :: r)] (.str ((c :: r).map Lib.lowerB)) (by
    have : ((c :: r).all (fun b => decide (b.toNat < 128)) && decide ((c :: r).length ≤ 140737488355328)) = true := by
     simp only [Bool.and_eq_true, decide_eq_true_eq, List.all_eq_true]
     refine ⟨fun d hd => ?_, by omega⟩
     have := List.all_eq_true.1 hall d hd
     simp [isW, Lx.isL, isD] at this
     omega
    simp only [ext, this, if_true]; rfl)
   simp [hr']
   refine (hext _).use ?_
   rintro e S1 ⟨rfl, rfl⟩
   by_cases hlow : (c :: r).map Lib.lowerB = c :: r
   rotate_left 1
   ·have hl2 : ¬ (c :: r) = (c :: r).map Lib.lowerB := fun e => hlow e.symm
    rw [hnm, decide_eq_false hlow]
    simp only [List.map_cons] at hl2
    simp [hl2]
   ·have w13' := fun S => w105 (w0 := w0) (c :: r) S
    rw [hnm, decide_eq_true hlow, decide_eq_true hr, decide_eq_true hlen]
    rw [List.map_cons] at hlow
    simp [hlow]
    refine (w13' _).use ?_
    rintro e S1 ⟨rfl, rfl⟩
    simp [hL]
def aliasB (s : Bs) : Bool := decide (s = []) || nameB s
theorem w52 (x : Bs) (S : Heap) : ACalls Tryz.prog (B0 w0) 52 [.str x] S fun e S' => e = .ret (.bool (aliasB x)) ∧ S' = S := by
 refine fn_sound tryOrd (f52_c _) (by simp [f52]) ?_
 by_cases h : x = []
 ·simp [f52, f52m, h, aliasB]
 ·simp [f52, f52m, h, aliasB]
  refine (w57 x _).use ?_
  rintro e S1 ⟨rfl, rfl⟩
  simp
theorem w58 (n a b : Int) (S : Heap) : ACalls Tryz.prog (B0 w0) 58 [.int n, .int a, .int b] S fun e S' => e = .ret (.bool (decide (a ≤ n) && decide (n ≤ b))) ∧ S' = S := by
 refine fn_sound tryOrd (f58_c _) (by simp [f58]) ?_
 by_cases h : a ≤ n <;> simp [f58, f58m, h]
end Go.Abs
namespace Go.Abs
open Go Go.RowKit Go.Proofs Go.Lx Go.Pz
variable {w0 : World}
theorem all_take {α : Type} {p : α → Bool} {l : List α} {i : Nat} (h : i < l.length) : (l.take (i + 1)).all p = ((l.take i).all p && p l[i]) := by
 rw [List.take_add_one, List.getElem?_eq_getElem h, List.all_append]; simp only [Option.toList_some, List.all_cons, List.all_nil, Bool.and_true]
theorem all_false {α : Type} {p : α → Bool} {l : List α} {x : α} (hx : x ∈ l) (h : p x = false) : l.all p = false := by
 rw [List.all_eq_false]; exact ⟨x, hx, by simp [h]⟩
def Ev17 {α : Type} (S : Heap) (l : List α) (p : α → Bool) (v : AVal) (fo : FuncId) (n : Nat) (a : Tmps) (S' : Heap) : Prop :=
 ∃ (i : Nat) (g : Heap), n = l.length - i ∧ i ≤ l.length ∧ S' = S ++ g ∧ get a 1 = .clo (.func fo) [] [] ∧ get a 7 = v ∧ get a 8 = .int l.length ∧ get a 9 = .int i ∧ (l.take i).all p = true
set_option maxHeartbeats 1000000 in
theorem w17 {α : Type} {l : List α} {es : List (List AVal)} {v : AVal} {S : Heap} {p : α → Bool} {fo : FuncId} (hv : Rk 7 S v es) (hl : es.length = l.length) (hk : ∀ i, i < l.length → (es.getD i []).length = 7) (h1' : ∀ i, i < l.length → ∀ x ∈ es.getD i [], x.one = true)
  (hsm : l.length < 4000000000000000000) (hp : ∀ i (h : i < l.length) g, ACalls Tryz.prog (B0 w0) fo [(.agg (es.getD i []))] (S ++ g) fun e S' => e = .ret (.bool (p l[i])) ∧ S' = S ++ g) :
  ACalls Tryz.prog (B0 w0) 17 [v, .clo (.func fo) [] []] S fun e S' => e = .ret (.bool (l.all p)) ∧ S' = S := by
 refine ACalls.close (R := fun e S' => e = .ret (.bool (l.all p)) ∧ S'.take S.length = S) ?_ ?_
 rotate_left 1
 ·rintro e S' ⟨rfl, ht⟩
  exact .flat ht rfl ⟨rfl, rfl⟩
 refine fn_sound tryOrd (f17_c _) (by simp [f17]) ?_
 have hlen := hv.lenR
 simp [f17, f17m, hlen, hl]
 refine mwp_loop (I := Ev17 S l p v fo) (n := l.length) ⟨0, [], rfl, Nat.zero_le _, by simp, by simp, by simp, by simp, by simp, by simp⟩ ?_
 rintro n a S' ⟨i, g, rfl, hi, rfl, a1, a7, a8, a9, hall⟩
 by_cases hlt : i < l.length
 ·obtain ⟨q, q1, q2, _⟩ := (hv.more g).elem (i := i) (by omega) (hk i hlt)
  have hki := hk i hlt
  have h1i := h1' i hlt
  have hc := hp i hlt
  have htk := all_take (p := p) hlt
  have hmem := List.getElem_mem hlt
  generalize es.getD i [] = ev at *
  generalize l[i] = y at *
  have hltI : (i : Int) < (l.length : Int) := by omega
  have hw := wrapS i (by omega)
  have r2 := q2 true 7 (Nat.le_refl _)
  have htk2 : takeAt true 7 ev 0 = .agg ev := by simp [takeAt, List.take_of_length_le, hki]
  rw [htk2] at r2
  simp [f17b0, a1, a7, a8, a9, hltI, q1, r2, hki]
  have hc1 := hc (g ++ [.cells 7 [ev] (some 1)])
  refine ⟨h1i, ?_⟩
  refine hc1.use ?_
  rintro e S1 ⟨rfl, rfl⟩
  cases hy : p y with
  | true =>
    simp [a1, a7, a8, a9, hw]
    refine ⟨l.length - (i + 1), by omega, i + 1, g ++ [.cells 7 [ev] (some 1)], rfl, by omega, by simp, by simp [a1], by simp [a7], by simp [a8], by simp, ?_⟩
    rw [htk, hall, hy]; rfl
  | false =>
    simp [all_false hmem hy]
 ·have hie : i = l.length := by omega
  subst hie
  rw [List.take_length] at hall
  simp [f17b0, a1, a7, a8, a9, hall]
def Ev49 {α : Type} (S : Heap) (l : List α) (p : α → Bool) (v : AVal) (fo : FuncId) (n : Nat) (a : Tmps) (S' : Heap) : Prop :=
 ∃ (i : Nat) (g : Heap), n = l.length - i ∧ i ≤ l.length ∧ S' = S ++ g ∧ get a 1 = .clo (.func fo) [] [] ∧ get a 7 = v ∧ get a 8 = .int l.length ∧ get a 9 = .int i ∧ (l.take i).all p = true
set_option maxHeartbeats 1000000 in
theorem w49 {α : Type} {l : List α} {es : List (List AVal)} {v : AVal} {S : Heap} {p : α → Bool} {fo : FuncId} (hv : Rk 8 S v es) (hl : es.length = l.length) (hk : ∀ i, i < l.length → (es.getD i []).length = 8) (h1' : ∀ i, i < l.length → ∀ x ∈ es.getD i [], x.one = true)
  (hsm : l.length < 4000000000000000000) (hp : ∀ i (h : i < l.length) g, ACalls Tryz.prog (B0 w0) fo [(.agg (es.getD i []))] (S ++ g) fun e S' => e = .ret (.bool (p l[i])) ∧ S' = S ++ g) :
  ACalls Tryz.prog (B0 w0) 49 [v, .clo (.func fo) [] []] S fun e S' => e = .ret (.bool (l.all p)) ∧ S' = S := by
 refine ACalls.close (R := fun e S' => e = .ret (.bool (l.all p)) ∧ S'.take S.length = S) ?_ ?_
 rotate_left 1
 ·rintro e S' ⟨rfl, ht⟩
  exact .flat ht rfl ⟨rfl, rfl⟩
 refine fn_sound tryOrd (f49_c _) (by simp [f49]) ?_
 have hlen := hv.lenR
 simp [f49, f49m, hlen, hl]
 refine mwp_loop (I := Ev49 S l p v fo) (n := l.length) ⟨0, [], rfl, Nat.zero_le _, by simp, by simp, by simp, by simp, by simp, by simp⟩ ?_
 rintro n a S' ⟨i, g, rfl, hi, rfl, a1, a7, a8, a9, hall⟩
 by_cases hlt : i < l.length
 ·obtain ⟨q, q1, q2, _⟩ := (hv.more g).elem (i := i) (by omega) (hk i hlt)
  have hki := hk i hlt
  have h1i := h1' i hlt
  have hc := hp i hlt
  have htk := all_take (p := p) hlt
  have hmem := List.getElem_mem hlt
  generalize es.getD i [] = ev at *
  generalize l[i] = y at *
  have hltI : (i : Int) < (l.length : Int) := by omega
  have hw := wrapS i (by omega)
  have r2 := q2 true 8 (Nat.le_refl _)
  have htk2 : takeAt true 8 ev 0 = .agg ev := by simp [takeAt, List.take_of_length_le, hki]
  rw [htk2] at r2
  simp [f49b0, a1, a7, a8, a9, hltI, q1, r2, hki]
  have hc1 := hc (g ++ [.cells 8 [ev] (some 1)])
  refine ⟨h1i, ?_⟩
  refine hc1.use ?_
  rintro e S1 ⟨rfl, rfl⟩
  cases hy : p y with
  | true =>
    simp [a1, a7, a8, a9, hw]
    refine ⟨l.length - (i + 1), by omega, i + 1, g ++ [.cells 8 [ev] (some 1)], rfl, by omega, by simp, by simp [a1], by simp [a7], by simp [a8], by simp, ?_⟩
    rw [htk, hall, hy]; rfl
  | false =>
    simp [all_false hmem hy]
 ·have hie : i = l.length := by omega
  subst hie
  rw [List.take_length] at hall
  simp [f49b0, a1, a7, a8, a9, hall]
def Ev53 {α : Type} (S : Heap) (l : List α) (p : α → Bool) (v : AVal) (fo : FuncId) (n : Nat) (a : Tmps) (S' : Heap) : Prop :=
 ∃ (i : Nat) (g : Heap), n = l.length - i ∧ i ≤ l.length ∧ S' = S ++ g ∧ get a 1 = .clo (.func fo) [] [] ∧ get a 7 = v ∧ get a 8 = .int l.length ∧ get a 9 = .int i ∧ (l.take i).all p = true
set_option maxHeartbeats 1000000 in
theorem w53 {α : Type} {l : List α} {es : List (List AVal)} {v : AVal} {S : Heap} {p : α → Bool} {fo : FuncId} (hv : Rk 8 S v es) (hl : es.length = l.length) (hk : ∀ i, i < l.length → (es.getD i []).length = 8) (h1' : ∀ i, i < l.length → ∀ x ∈ es.getD i [], x.one = true)
  (hsm : l.length < 4000000000000000000) (hp : ∀ i (h : i < l.length) g, ACalls Tryz.prog (B0 w0) fo [(.agg (es.getD i []))] (S ++ g) fun e S' => e = .ret (.bool (p l[i])) ∧ S' = S ++ g) :
  ACalls Tryz.prog (B0 w0) 53 [v, .clo (.func fo) [] []] S fun e S' => e = .ret (.bool (l.all p)) ∧ S' = S := by
 refine ACalls.close (R := fun e S' => e = .ret (.bool (l.all p)) ∧ S'.take S.length = S) ?_ ?_
 rotate_left 1
 ·rintro e S' ⟨rfl, ht⟩
  exact .flat ht rfl ⟨rfl, rfl⟩
 refine fn_sound tryOrd (f53_c _) (by simp [f53]) ?_
 have hlen := hv.lenR
 simp [f53, f53m, hlen, hl]
 refine mwp_loop (I := Ev53 S l p v fo) (n := l.length) ⟨0, [], rfl, Nat.zero_le _, by simp, by simp, by simp, by simp, by simp, by simp⟩ ?_
 rintro n a S' ⟨i, g, rfl, hi, rfl, a1, a7, a8, a9, hall⟩
 by_cases hlt : i < l.length
 ·obtain ⟨q, q1, q2, _⟩ := (hv.more g).elem (i := i) (by omega) (hk i hlt)
  have hki := hk i hlt
  have h1i := h1' i hlt
  have hc := hp i hlt
  have htk := all_take (p := p) hlt
  have hmem := List.getElem_mem hlt
  generalize es.getD i [] = ev at *
  generalize l[i] = y at *
  have hltI : (i : Int) < (l.length : Int) := by omega
  have hw := wrapS i (by omega)
  have r2 := q2 true 8 (Nat.le_refl _)
  have htk2 : takeAt true 8 ev 0 = .agg ev := by simp [takeAt, List.take_of_length_le, hki]
  rw [htk2] at r2
  simp [f53b0, a1, a7, a8, a9, hltI, q1, r2, hki]
  have hc1 := hc (g ++ [.cells 8 [ev] (some 1)])
  refine ⟨h1i, ?_⟩
  refine hc1.use ?_
  rintro e S1 ⟨rfl, rfl⟩
  cases hy : p y with
  | true =>
    simp [a1, a7, a8, a9, hw]
    refine ⟨l.length - (i + 1), by omega, i + 1, g ++ [.cells 8 [ev] (some 1)], rfl, by omega, by simp, by simp [a1], by simp [a7], by simp [a8], by simp, ?_⟩
    rw [htk, hall, hy]; rfl
  | false =>
    simp [all_false hmem hy]
 ·have hie : i = l.length := by omega
  subst hie
  rw [List.take_length] at hall
  simp [f53b0, a1, a7, a8, a9, hall]
def Ev55 {α : Type} (S : Heap) (l : List α) (p : α → Bool) (v : AVal) (fo : FuncId) (n : Nat) (a : Tmps) (S' : Heap) : Prop :=
 ∃ (i : Nat) (g : Heap), n = l.length - i ∧ i ≤ l.length ∧ S' = S ++ g ∧ get a 1 = .clo (.func fo) [] [] ∧ get a 7 = v ∧ get a 8 = .int l.length ∧ get a 9 = .int i ∧ (l.take i).all p = true
set_option maxHeartbeats 1000000 in
theorem w55 {α : Type} {l : List α} {es : List (List AVal)} {v : AVal} {S : Heap} {p : α → Bool} {fo : FuncId} (hv : Rk 8 S v es) (hl : es.length = l.length) (hk : ∀ i, i < l.length → (es.getD i []).length = 8) (h1' : ∀ i, i < l.length → ∀ x ∈ es.getD i [], x.one = true)
  (hsm : l.length < 4000000000000000000) (hp : ∀ i (h : i < l.length) g, ACalls Tryz.prog (B0 w0) fo [(.agg (es.getD i []))] (S ++ g) fun e S' => e = .ret (.bool (p l[i])) ∧ S' = S ++ g) :
  ACalls Tryz.prog (B0 w0) 55 [v, .clo (.func fo) [] []] S fun e S' => e = .ret (.bool (l.all p)) ∧ S' = S := by
 refine ACalls.close (R := fun e S' => e = .ret (.bool (l.all p)) ∧ S'.take S.length = S) ?_ ?_
 rotate_left 1
 ·rintro e S' ⟨rfl, ht⟩
  exact .flat ht rfl ⟨rfl, rfl⟩
 refine fn_sound tryOrd (f55_c _) (by simp [f55]) ?_
 have hlen := hv.lenR
 simp [f55, f55m, hlen, hl]
 refine mwp_loop (I := Ev55 S l p v fo) (n := l.length) ⟨0, [], rfl, Nat.zero_le _, by simp, by simp, by simp, by simp, by simp, by simp⟩ ?_
 rintro n a S' ⟨i, g, rfl, hi, rfl, a1, a7, a8, a9, hall⟩
 by_cases hlt : i < l.length
 ·obtain ⟨q, q1, q2, _⟩ := (hv.more g).elem (i := i) (by omega) (hk i hlt)
  have hki := hk i hlt
  have h1i := h1' i hlt
  have hc := hp i hlt
  have htk := all_take (p := p) hlt
  have hmem := List.getElem_mem hlt
  generalize es.getD i [] = ev at *
  generalize l[i] = y at *
  have hltI : (i : Int) < (l.length : Int) := by omega
  have hw := wrapS i (by omega)
  have r2 := q2 true 8 (Nat.le_refl _)
  have htk2 : takeAt true 8 ev 0 = .agg ev := by simp [takeAt, List.take_of_length_le, hki]
  rw [htk2] at r2
  simp [f55b0, a1, a7, a8, a9, hltI, q1, r2, hki]
  have hc1 := hc (g ++ [.cells 8 [ev] (some 1)])
  refine ⟨h1i, ?_⟩
  refine hc1.use ?_
  rintro e S1 ⟨rfl, rfl⟩
  cases hy : p y with
  | true =>
    simp [a1, a7, a8, a9, hw]
    refine ⟨l.length - (i + 1), by omega, i + 1, g ++ [.cells 8 [ev] (some 1)], rfl, by omega, by simp, by simp [a1], by simp [a7], by simp [a8], by simp, ?_⟩
    rw [htk, hall, hy]; rfl
  | false =>
    simp [all_false hmem hy]
 ·have hie : i = l.length := by omega
  subst hie
  rw [List.take_length] at hall
  simp [f55b0, a1, a7, a8, a9, hall]
def Ev59 {α : Type} (S : Heap) (l : List α) (p : α → Bool) (v : AVal) (fo : FuncId) (n : Nat) (a : Tmps) (S' : Heap) : Prop :=
 ∃ (i : Nat) (g : Heap), n = l.length - i ∧ i ≤ l.length ∧ S' = S ++ g ∧ get a 1 = .clo (.func fo) [] [] ∧ get a 7 = v ∧ get a 8 = .int l.length ∧ get a 9 = .int i ∧ (l.take i).all p = true
set_option maxHeartbeats 1000000 in
theorem w59 {α : Type} {l : List α} {es : List (List AVal)} {v : AVal} {S : Heap} {p : α → Bool} {fo : FuncId} (hv : Rk 3 S v es) (hl : es.length = l.length) (hk : ∀ i, i < l.length → (es.getD i []).length = 3) (h1' : ∀ i, i < l.length → ∀ x ∈ es.getD i [], x.one = true)
  (hsm : l.length < 4000000000000000000) (hp : ∀ i (h : i < l.length) g, ACalls Tryz.prog (B0 w0) fo [(.agg (es.getD i []))] (S ++ g) fun e S' => e = .ret (.bool (p l[i])) ∧ S' = S ++ g) :
  ACalls Tryz.prog (B0 w0) 59 [v, .clo (.func fo) [] []] S fun e S' => e = .ret (.bool (l.all p)) ∧ S' = S := by
 refine ACalls.close (R := fun e S' => e = .ret (.bool (l.all p)) ∧ S'.take S.length = S) ?_ ?_
 rotate_left 1
 ·rintro e S' ⟨rfl, ht⟩
  exact .flat ht rfl ⟨rfl, rfl⟩
 refine fn_sound tryOrd (f59_c _) (by simp [f59]) ?_
 have hlen := hv.lenR
 simp [f59, f59m, hlen, hl]
 refine mwp_loop (I := Ev59 S l p v fo) (n := l.length) ⟨0, [], rfl, Nat.zero_le _, by simp, by simp, by simp, by simp, by simp, by simp⟩ ?_
 rintro n a S' ⟨i, g, rfl, hi, rfl, a1, a7, a8, a9, hall⟩
 by_cases hlt : i < l.length
 ·obtain ⟨q, q1, q2, _⟩ := (hv.more g).elem (i := i) (by omega) (hk i hlt)
  have hki := hk i hlt
  have h1i := h1' i hlt
  have hc := hp i hlt
  have htk := all_take (p := p) hlt
  have hmem := List.getElem_mem hlt
  generalize es.getD i [] = ev at *
  generalize l[i] = y at *
  have hltI : (i : Int) < (l.length : Int) := by omega
  have hw := wrapS i (by omega)
  have r2 := q2 true 3 (Nat.le_refl _)
  have htk2 : takeAt true 3 ev 0 = .agg ev := by simp [takeAt, List.take_of_length_le, hki]
  rw [htk2] at r2
  simp [f59b0, a1, a7, a8, a9, hltI, q1, r2, hki]
  have hc1 := hc (g ++ [.cells 3 [ev] (some 1)])
  refine ⟨h1i, ?_⟩
  refine hc1.use ?_
  rintro e S1 ⟨rfl, rfl⟩
  cases hy : p y with
  | true =>
    simp [a1, a7, a8, a9, hw]
    refine ⟨l.length - (i + 1), by omega, i + 1, g ++ [.cells 3 [ev] (some 1)], rfl, by omega, by simp, by simp [a1], by simp [a7], by simp [a8], by simp, ?_⟩
    rw [htk, hall, hy]; rfl
  | false =>
    simp [all_false hmem hy]
 ·have hie : i = l.length := by omega
  subst hie
  rw [List.take_length] at hall
  simp [f59b0, a1, a7, a8, a9, hall]
def Ev61 {α : Type} (S : Heap) (l : List α) (p : α → Bool) (v : AVal) (fo : FuncId) (n : Nat) (a : Tmps) (S' : Heap) : Prop :=
 ∃ (i : Nat) (g : Heap), n = l.length - i ∧ i ≤ l.length ∧ S' = S ++ g ∧ get a 1 = .clo (.func fo) [] [] ∧ get a 7 = v ∧ get a 8 = .int l.length ∧ get a 9 = .int i ∧ (l.take i).all p = true
set_option maxHeartbeats 1000000 in
theorem w61 {α : Type} {l : List α} {es : List (List AVal)} {v : AVal} {S : Heap} {p : α → Bool} {fo : FuncId} (hv : Rk 1 S v es) (hl : es.length = l.length) (hk : ∀ i, i < l.length → (es.getD i []).length = 1)
  (hsm : l.length < 4000000000000000000) (hp : ∀ i (h : i < l.length) g, ACalls Tryz.prog (B0 w0) fo [((es.getD i []).getD 0 .top)] (S ++ g) fun e S' => e = .ret (.bool (p l[i])) ∧ S' = S ++ g) :
  ACalls Tryz.prog (B0 w0) 61 [v, .clo (.func fo) [] []] S fun e S' => e = .ret (.bool (l.all p)) ∧ S' = S := by
 refine ACalls.close (R := fun e S' => e = .ret (.bool (l.all p)) ∧ S'.take S.length = S) ?_ ?_
 rotate_left 1
 ·rintro e S' ⟨rfl, ht⟩
  exact .flat ht rfl ⟨rfl, rfl⟩
 refine fn_sound tryOrd (f61_c _) (by simp [f61]) ?_
 have hlen := hv.lenR
 simp [f61, f61m, hlen, hl]
 refine mwp_loop (I := Ev61 S l p v fo) (n := l.length) ⟨0, [], rfl, Nat.zero_le _, by simp, by simp, by simp, by simp, by simp, by simp⟩ ?_
 rintro n a S' ⟨i, g, rfl, hi, rfl, a1, a7, a8, a9, hall⟩
 by_cases hlt : i < l.length
 ·obtain ⟨q, q1, q2, _⟩ := (hv.more g).elem (i := i) (by omega) (hk i hlt)
  have hki := hk i hlt
  have hc := hp i hlt
  have htk := all_take (p := p) hlt
  have hmem := List.getElem_mem hlt
  generalize es.getD i [] = ev at *
  generalize l[i] = y at *
  have hltI : (i : Int) < (l.length : Int) := by omega
  have hw := wrapS i (by omega)
  have r2 := q2 false 1 (Nat.le_refl _)
  obtain ⟨z, rfl⟩ : ∃ z, ev = [z] := List.length_eq_one_iff.1 hki
  have htk2 : takeAt false 1 [z] 0 = z := rfl
  rw [htk2] at r2
  simp [f61b0, a1, a7, a8, a9, hltI, q1, r2]
  have hc1 := hc g
  simp only [List.getD_cons_zero] at hc1
  refine hc1.use ?_
  rintro e S1 ⟨rfl, rfl⟩
  cases hy : p y with
  | true =>
    simp [a1, a7, a8, a9, hw]
    refine ⟨l.length - (i + 1), by omega, i + 1, g, rfl, by omega, by simp, by simp [a1], by simp [a7], by simp [a8], by simp, ?_⟩
    rw [htk, hall, hy]; rfl
  | false =>
    simp [all_false hmem hy]
 ·have hie : i = l.length := by omega
  subst hie
  rw [List.take_length] at hall
  simp [f61b0, a1, a7, a8, a9, hall]
def Ev62 {α : Type} (S : Heap) (l : List α) (p : α → Bool) (v : AVal) (fo : FuncId) (n : Nat) (a : Tmps) (S' : Heap) : Prop :=
 ∃ (i : Nat) (g : Heap), n = l.length - i ∧ i ≤ l.length ∧ S' = S ++ g ∧ get a 1 = .clo (.func fo) [] [] ∧ get a 7 = v ∧ get a 8 = .int l.length ∧ get a 9 = .int i ∧ (l.take i).all p = true
set_option maxHeartbeats 1000000 in
theorem w62 {α : Type} {l : List α} {es : List (List AVal)} {v : AVal} {S : Heap} {p : α → Bool} {fo : FuncId} (hv : Rk 1 S v es) (hl : es.length = l.length) (hk : ∀ i, i < l.length → (es.getD i []).length = 1)
  (hsm : l.length < 4000000000000000000) (hp : ∀ i (h : i < l.length) g, ACalls Tryz.prog (B0 w0) fo [((es.getD i []).getD 0 .top)] (S ++ g) fun e S' => e = .ret (.bool (p l[i])) ∧ S' = S ++ g) :
  ACalls Tryz.prog (B0 w0) 62 [v, .clo (.func fo) [] []] S fun e S' => e = .ret (.bool (l.all p)) ∧ S' = S := by
 refine ACalls.close (R := fun e S' => e = .ret (.bool (l.all p)) ∧ S'.take S.length = S) ?_ ?_
 rotate_left 1
 ·rintro e S' ⟨rfl, ht⟩
  exact .flat ht rfl ⟨rfl, rfl⟩
 refine fn_sound tryOrd (f62_c _) (by simp [f62]) ?_
 have hlen := hv.lenR
 simp [f62, f62m, hlen, hl]
 refine mwp_loop (I := Ev62 S l p v fo) (n := l.length) ⟨0, [], rfl, Nat.zero_le _, by simp, by simp, by simp, by simp, by simp, by simp⟩ ?_
 rintro n a S' ⟨i, g, rfl, hi, rfl, a1, a7, a8, a9, hall⟩
 by_cases hlt : i < l.length
 ·obtain ⟨q, q1, q2, _⟩ := (hv.more g).elem (i := i) (by omega) (hk i hlt)
  have hki := hk i hlt
  have hc := hp i hlt
  have htk := all_take (p := p) hlt
  have hmem := List.getElem_mem hlt
  generalize es.getD i [] = ev at *
  generalize l[i] = y at *
  have hltI : (i : Int) < (l.length : Int) := by omega
  have hw := wrapS i (by omega)
  have r2 := q2 false 1 (Nat.le_refl _)
  obtain ⟨z, rfl⟩ : ∃ z, ev = [z] := List.length_eq_one_iff.1 hki
  have htk2 : takeAt false 1 [z] 0 = z := rfl
  rw [htk2] at r2
  simp [f62b0, a1, a7, a8, a9, hltI, q1, r2]
  have hc1 := hc g
  simp only [List.getD_cons_zero] at hc1
  refine hc1.use ?_
  rintro e S1 ⟨rfl, rfl⟩
  cases hy : p y with
  | true =>
    simp [a1, a7, a8, a9, hw]
    refine ⟨l.length - (i + 1), by omega, i + 1, g, rfl, by omega, by simp, by simp [a1], by simp [a7], by simp [a8], by simp, ?_⟩
    rw [htk, hall, hy]; rfl
  | false =>
    simp [all_false hmem hy]
 ·have hie : i = l.length := by omega
  subst hie
  rw [List.take_length] at hall
  simp [f62b0, a1, a7, a8, a9, hall]
end Go.Abs
namespace Go.Abs
open Go Go.RowKit Go.Proofs Go.Lx Go.Pz
variable {w0 : World}
mutual
def inrE : Ex → Bool
 | .mk _ args _ num _ _ _ => decide (num ≤ 9223372036854775807) && inrL args
def inrL : List Ex → Bool
 | [] => true
 | x :: r => inrE x && inrL r
end
theorem inrE_mk {op : Int} {args : List Ex} {kind num scale : Int} {text qual : Bs} : inrE (.mk op args kind num scale text qual) = (decide (num ≤ 9223372036854775807) && inrL args) := by rw [inrE]
theorem inrL_iff : ∀ {l : List Ex}, inrL l = true ↔ ∀ x ∈ l, inrE x = true
 | [] => by rw [inrL]; simp
 | x :: r => by rw [inrL, Bool.and_eq_true, inrL_iff]; simp
theorem okL_all : ∀ (l : List Ex), okL l = l.all okE
 | [] => by rw [okL_nil]; rfl
 | x :: r => by rw [okL_cons, okL_all r]; rfl
set_option maxHeartbeats 4000000 in
theorem w51 (hT : Tb w0) : ∀ (n : Nat), n < 4000000000000000000 → ∀ (x : Ex), x.w ≤ n → inrE x = true → ∀ (av : List AVal), ExV x av → ∀ (S : Heap), ACalls Tryz.prog (B0 w0) 51 [.agg av] S fun e S' => e = .ret (.bool (okE x)) ∧ S' = S := by
 intro n
 induction n using Nat.strongRecOn with
 | _ n ih =>
   intro hn x hx hin av hav S
   obtain ⟨op, args, kind, num, scale, text, qual⟩ := x
   rw [w_mk] at hx
   rw [inrE_mk, Bool.and_eq_true, decide_eq_true_eq] at hin
   obtain ⟨hnum, hin⟩ := hin
   rw [ExV_mk] at hav
   obtain ⟨fl, es, rfl, hes⟩ := hav
   have hal := wL_len args
   have hel := ExsV_len hes
   refine ACalls.close (R := fun e S' => e = .ret (.bool (okE (.mk op args kind num scale text qual))) ∧ S'.take S.length = S) ?_ ?_
   rotate_left 1
   ·rintro e S' ⟨rfl, ht⟩
    exact .flat ht rfl ⟨rfl, rfl⟩
   rw [okE_mk]
   refine fn_sound tryOrd (f51_c _) (by simp [f51]) ?_
   simp [f51, f51m]
   refine (w100 op _).use ?_
   rintro e S1 ⟨rfl, rfl⟩
   by_cases hl : (args.length : Int) = opnds op
   rotate_left 1
   ·have hb : ((es.length : Int) != opnds op) = true := by simp; omega
    simp [hb, hl]
   have hb : ((es.length : Int) != opnds op) = false := by simp; omega
   by_cases h21 : op = 21
   ·subst h21
    simp [hb, hl]
    refine (w101 hT (.list fl es) rfl _ _ _ _ _ _ hnum _).use ?_
    rintro e S1 ⟨rfl, rfl⟩
    simp [hl]
   have b21 : (op == 21) = false := beq_eq_false_iff_ne.2 h21
   by_cases hk : kind = 0
   rotate_left 1
   ·have hk' : (kind != 0) = true := by simp [hk]
    simp [hb, hl, b21, h21, hk', hk]
   by_cases hnm : num = 0
   rotate_left 1
   ·have hk' : (num != 0) = true := by simp [hnm]
    simp [hb, hl, b21, h21, hk, hk', hnm]
   by_cases hsc : scale = 0
   rotate_left 1
   ·have hk' : (scale != 0) = true := by simp [hsc]
    simp [hb, hl, b21, h21, hk, hk', hnm, hsc]
   by_cases h22 : op = 22
   ·subst h22
    simp [hb, hl, hk, hnm, hsc]
    refine (w57 text _).use ?_
    rintro e S1 ⟨rfl, rfl⟩
    cases htx : nameB text with
    | false => simp [hl, hk, hnm, hsc]
    | true =>
      simp
      refine (w52 qual _).use ?_
      rintro e S1 ⟨rfl, rfl⟩
      simp [aliasB, hl, hk, hnm, hsc]
   have b22 : (op == 22) = false := beq_eq_false_iff_ne.2 h22
   by_cases htx : text = []
   rotate_left 1
   ·simp [hb, hl, b21, h21, b22, h22, hk, hnm, hsc, htx]
   by_cases hqu : qual = []
   rotate_left 1
   ·simp [hb, hl, b21, h21, b22, h22, hk, hnm, hsc, htx, hqu]
   have hev := fun S => w17 (w0 := w0) (l := args) (p := okE) (fo := 51) (S := S) (Rk.list fl es) hel (fun i hi => ExV_len (ExsV_get hes i hi)) (fun i hi => List.all_eq_true.1 (ExV_one (ExsV_get hes i hi))) (by omega) fun i hi g =>
    ih (args[i]).w (by have := w_mem (List.getElem_mem hi); omega) (by have := w_mem (List.getElem_mem hi); omega) args[i] (Nat.le_refl _) (inrL_iff.1 hin _ (List.getElem_mem hi)) _ (ExsV_get hes i hi) _
   simp [hb, hl, b21, h21, b22, h22, hk, hnm, hsc, htx, hqu]
   refine (hev _).use ?_
   rintro e S1 ⟨rfl, rfl⟩
   simp [okL_all, hl, h21, h22, hk, hnm, hsc, htx, hqu]
def zeroB : Ex → Bool
 | .mk op args kind num scale text qual => decide (op = 0) && args.isEmpty && decide (kind = 0) && decide (num = 0) && decide (scale = 0) && decide (text = []) && decide (qual = [])
def perB (x : Ex) : Bool := zeroB x || okE x
set_option maxHeartbeats 2000000 in
theorem w106 {x : Ex} (hx : x.w < 4000000000000000000) {av : List AVal} (hav : ExV x av) (S : Heap) : ACalls Tryz.prog (B0 w0) 106 [.agg av] S fun e S' => e = .ret (.bool (zeroB x)) ∧ S' = S := by
 obtain ⟨op, args, kind, num, scale, text, qual⟩ := x
 rw [ExV_mk] at hav
 obtain ⟨fl, es, rfl, hes⟩ := hav
 have hel := ExsV_len hes
 refine ACalls.close (R := fun e S' => e = .ret (.bool (zeroB (.mk op args kind num scale text qual))) ∧ S'.take S.length = S) ?_ ?_
 rotate_left 1
 ·rintro e S' ⟨rfl, ht⟩
  exact .flat ht rfl ⟨rfl, rfl⟩
 refine fn_sound tryOrd (f106_c _) (by simp [f106]) ?_
 by_cases h1 : op = 0
 rotate_left 1
 ·have h1' : (op == 0) = false := beq_eq_false_iff_ne.2 h1
  simp [f106, f106m, h1, h1', zeroB]
 by_cases h2 : args = []
 rotate_left 1
 ·have h2' : ((es.length : Int) == 0) = false := by
   rw [beq_eq_false_iff_ne]
   have := List.length_pos_iff.2 h2
   omega
  simp [f106, f106m, h1, h2, h2', zeroB]
 have h2' : es = [] := List.eq_nil_of_length_eq_zero (by rw [hel, h2]; rfl)
 by_cases h3 : kind = 0
 rotate_left 1
 ·have h3' : (kind == 0) = false := beq_eq_false_iff_ne.2 h3
  simp [f106, f106m, h1, h2, h2', h3, h3', zeroB]
 by_cases h4 : num = 0
 rotate_left 1
 ·have h4' : (num == 0) = false := beq_eq_false_iff_ne.2 h4
  simp [f106, f106m, h1, h2, h2', h3, h4, h4', zeroB]
 by_cases h5 : scale = 0
 rotate_left 1
 ·have h5' : (scale == 0) = false := beq_eq_false_iff_ne.2 h5
  simp [f106, f106m, h1, h2, h2', h3, h4, h5, h5', zeroB]
 by_cases h6 : text = []
 rotate_left 1
 ·simp [f106, f106m, h1, h2, h2', h3, h4, h5, h6, zeroB]
 simp [f106, f106m, h1, h2, h2', h3, h4, h5, h6, zeroB]
theorem w65 (hT : Tb w0) {x : Ex} (hx : x.w < 4000000000000000000) (hin : inrE x = true) {av : List AVal} (hav : ExV x av) (S : Heap) : ACalls Tryz.prog (B0 w0) 65 [.agg av] S fun e S' => e = .ret (.bool (perB x)) ∧ S' = S := by
 have hl7 := ExV_len hav
 have hone := List.all_eq_true.1 (ExV_one hav)
 have htk2 : takeAt true 7 av 0 = .agg av := by simp [takeAt, List.take_of_length_le, hl7]
 refine ACalls.close (R := fun e S' => e = .ret (.bool (perB x)) ∧ S'.take S.length = S) ?_ ?_
 rotate_left 1
 ·rintro e S' ⟨rfl, ht⟩
  exact .flat ht rfl ⟨rfl, rfl⟩
 refine fn_sound tryOrd (f65_c _) (by simp [f65]) ?_
 simp [f65, f65m, hl7, htk2]
 refine ⟨hone, ?_⟩
 refine (w106 hx hav _).use ?_
 rintro e S1 ⟨rfl, rfl⟩
 cases hz : zeroB x with
 | true => simp [perB, hz]
 | false =>
   simp [perB, hz, hl7, htk2]
   refine (w51 hT _ hx x (Nat.le_refl _) hin av hav _).use ?_
   rintro e S1 ⟨rfl, rfl⟩
   simp [perB, hz]
end Go.Abs
namespace Go.Abs
open Go Go.RowKit Go.Proofs Go.Lx Go.Pz
variable {w0 : World}
set_option maxHeartbeats 8000000 in
theorem w37 (hT : Tb w0) : ∀ (n : Nat), n < 1000000000000000 → ∀ (x : Ex), x.w ≤ n → okE x = true → ∀ (av : List AVal), ExV x av → ∀ (S : Heap), ACalls Tryz.prog (B0 w0) 37 [.agg av] S fun e S' => e = .ret (.str (textE x)) ∧ S' = S := by
 intro n
 induction n using Nat.strongRecOn with
 | _ n ih =>
   intro hn x hx ho av hav S
   obtain ⟨op, args, kind, num, scale, text, qual⟩ := x
   rw [w_mk] at hx
   have ho0 := ho
   rw [okE_mk] at ho
   rw [Bool.and_eq_true, decide_eq_true_eq] at ho
   obtain ⟨hl, ho⟩ := ho
   rw [ExV_mk] at hav
   obtain ⟨fl, es, rfl, hes⟩ := hav
   have hel := ExsV_len hes
   refine ACalls.close (R := fun e S' => e = .ret (.str (textE (.mk op args kind num scale text qual))) ∧ S'.take S.length = S) ?_ ?_
   rotate_left 1
   ·rintro e S' ⟨rfl, ht⟩
    exact .flat ht rfl ⟨rfl, rfl⟩
   rw [textE_mk]
   refine fn_sound tryOrd (f37_c _) (by simp [f37]) ?_
   by_cases h21 : op = 21
   ·rw [if_pos h21] at ho
    rw [shapeT_const h21]
    subst h21
    simp [f37, f37m]
    refine (w90 hT (.list fl es) rfl _ _ _ _ _ _ ho _).use ?_
    rintro e S1 ⟨rfl, rfl⟩
    simp
   rw [if_neg h21] at ho
   simp only [Bool.and_eq_true, decide_eq_true_eq] at ho
   obtain ⟨⟨⟨rfl, rfl⟩, rfl⟩, ho⟩ := ho
   have b21 : (op == 21) = false := beq_eq_false_iff_ne.2 h21
   by_cases h22 : op = 22
   ·rw [if_pos h22] at ho
    rw [shapeT_col h22]
    subst h22
    simp only [Bool.and_eq_true, Bool.or_eq_true, decide_eq_true_eq] at ho
    have h1 := nameB_len ho.1
    by_cases hq : qual = []
    ·simp [f37, f37m, hq]
    ·have h2 := nameB_len (ho.2.resolve_left hq)
     simp [f37, f37m, hq]
     omega
   rw [if_neg h22] at ho
   have b22 : (op == 22) = false := beq_eq_false_iff_ne.2 h22
   simp only [Bool.and_eq_true, decide_eq_true_eq] at ho
   obtain ⟨⟨hL, rfl⟩, rfl⟩ := ho
   rcases op_none hl h21 h22 with hn1 | hn1
   ·obtain ⟨y, rfl⟩ : ∃ y, args = [y] := List.length_eq_one_iff.1 hn1
    have hv : ExV y (es.getD 0 []) := ExsV_get hes 0 (by simp)
    have he1 : es.length = 1 := hel
    obtain ⟨ev, rfl⟩ : ∃ ev, es = [ev] := List.length_eq_one_iff.1 he1
    simp only [List.getD_cons_zero] at hv
    have hw : wL [y] = y.w + 1 := by rw [wL_cons, wL_nil]
    have hoy := okL_iff.1 hL y (by simp)
    have hd := ih y.w (by omega) (by omega) y (Nat.le_refl _) hoy _ hv
    have hlen := textE_len y.w y (Nat.le_refl _) hoy
    have hl7 := ExV_len hv
    have htk2 : takeAt true 7 ev 0 = .agg ev := by simp [takeAt, List.take_of_length_le, hl7]
    rw [textsE_cons, textsE_nil, shapeT_one h21 h22]
    have hop := op_one (op := op) (by simpa using hl.symm)
    generalize textE y = ty at *
    rcases hop with rfl | rfl | rfl | rfl | rfl | rfl
    all_goals
     simp [f37, f37m, hl7, htk2]
     refine (hd _).use ?_
     rintro e S1 ⟨rfl, rfl⟩
     simp [aheadT, behindT]
     omega
   ·obtain ⟨y, z, rfl⟩ : ∃ y z, args = [y, z] := length_two hn1
    have hv : ExV y (es.getD 0 []) := ExsV_get hes 0 (by simp)
    have hvz : ExV z (es.getD 1 []) := ExsV_get hes 1 (by simp)
    have he1 : es.length = 2 := hel
    obtain ⟨ev, ez, rfl⟩ : ∃ ev ez, es = [ev, ez] := length_two he1
    simp only [List.getD_cons_zero, List.getD_cons_succ] at hv hvz
    have hw : wL [y, z] = y.w + z.w + 2 := by rw [wL_cons, wL_cons, wL_nil]; omega
    have hoy := okL_iff.1 hL y (by simp)
    have hoz := okL_iff.1 hL z (by simp)
    have hd := ih y.w (by omega) (by omega) y (Nat.le_refl _) hoy _ hv
    have hdz := ih z.w (by omega) (by omega) z (Nat.le_refl _) hoz _ hvz
    have hlen := textE_len y.w y (Nat.le_refl _) hoy
    have hlenz := textE_len z.w z (Nat.le_refl _) hoz
    have hl7 := ExV_len hv
    have hl7z := ExV_len hvz
    have htk2 : takeAt true 7 ev 0 = .agg ev := by simp [takeAt, List.take_of_length_le, hl7]
    have htk3 : takeAt true 7 ez 0 = .agg ez := by simp [takeAt, List.take_of_length_le, hl7z]
    rw [textsE_cons, textsE_cons, textsE_nil, shapeT_two h21 h22]
    have h91 := fun S => w91 (w0 := w0) (op := op) (by simpa using hl.symm) S
    have hop := op_two (op := op) (by simpa using hl.symm)
    generalize textE y = ty at *
    generalize textE z = tz at *
    rcases hop with rfl | rfl | rfl | rfl | rfl | rfl | rfl | rfl | rfl | rfl | rfl | rfl | rfl | rfl
    all_goals
     simp [f37, f37m, hl7, hl7z, htk2, htk3]
     refine (hd _).use ?_
     rintro e S1 ⟨rfl, rfl⟩
     simp [hl7z]
     refine ⟨by omega, by omega, ?_⟩
     refine (h91 _).use ?_
     rintro e S1 ⟨rfl, rfl⟩
     simp [signT, hl7z, htk3]
     refine ⟨by omega, by omega, by omega, ?_⟩
     refine (hdz _).use ?_
     rintro e S1 ⟨rfl, rfl⟩
     simp [signT]
     omega
end Go.Abs
namespace Go.Abs
open Go Go.RowKit Go.Proofs Go.Lx Go.Pz
variable {w0 : World}
theorem strs_snoc (a : List Bs) (b : Bs) : strs (a ++ [b]) = strs a ++ [[.str b]] := by simp [strs]
theorem map_take {α β : Type} {t : α → β} {l : List α} {i : Nat} (h : i < l.length) : (l.take (i + 1)).map t = (l.take i).map t ++ [t l[i]] := by
 rw [List.take_add_one, List.getElem?_eq_getElem h, List.map_append]; rfl
theorem Own.take {N : Nat} {S0 S : Heap} {L} (h : Own N S0 S L) (hN : N = S0.length) : S.take S0.length = S0 := by
 subst hN
 refine List.ext_getElem? fun j => ?_
 rcases Nat.lt_or_ge j S0.length with hj | hj
 ·rw [List.getElem?_take_of_lt hj]; exact h.low j hj
 ·rw [List.getElem?_eq_none (by simp; omega), List.getElem?_eq_none hj]
def Li31 {α : Type} (S : Heap) (l : List α) (t : α → Bs) (v : AVal) (fo : FuncId) (n : Nat) (a : Tmps) (S' : Heap) : Prop :=
 ∃ (i : Nat) (u : AVal), n = l.length - i ∧ i ≤ l.length ∧ get a 1 = .clo (.func fo) [] [] ∧ get a 5 = u ∧ get a 8 = v ∧ get a 9 = .int l.length ∧ get a 10 = .int i ∧ Own S.length S S' [(u, 1, strs ((l.take i).map t))]
set_option maxHeartbeats 1000000 in
theorem w31 {α : Type} {l : List α} {es : List (List AVal)} {fl : Fl} {t : α → Bs} {fo : FuncId} (hl : es.length = l.length) (hk : ∀ i, i < l.length → (es.getD i []).length = 3) (h1' : ∀ i, i < l.length → ∀ x ∈ es.getD i [], x.one = true)
  (hsm : l.length < 1000000000) (hj : (Lib.join (l.map t) [44, 32]).length ≤ 140737488355328) (hp : ∀ i (h : i < l.length) S, ACalls Tryz.prog (B0 w0) fo [(.agg (es.getD i []))] S fun e S' => e = .ret (.str (t l[i])) ∧ S' = S) (S : Heap) :
  ACalls Tryz.prog (B0 w0) 31 [.list fl es, .clo (.func fo) [] []] S fun e S' => e = .ret (.str (Lib.join (l.map t) [44, 32])) ∧ S' = S := by
 refine ACalls.close (R := fun e S' => e = .ret (.str (Lib.join (l.map t) [44, 32])) ∧ S'.take S.length = S) ?_ ?_
 rotate_left 1
 ·rintro e S' ⟨rfl, ht⟩
  exact .flat ht rfl ⟨rfl, rfl⟩
 refine fn_sound tryOrd (f31_c _) (by simp [f31]) ?_
 simp [f31, f31m, hl]
 refine mwp_loop (I := Li31 S l t (.list fl es) fo) (n := l.length) ⟨0, _, rfl, Nat.zero_le _, by simp, rfl, by simp, by simp, by simp, by simpa [strs] using (Own.start S).add0 1 .nil (.inl rfl)⟩ ?_
 rintro n a S' ⟨i, u, rfl, hi, a1, a5, a8, a9, a10, ho⟩
 by_cases hlt : i < l.length
 ·have hki := hk i hlt
  have h1i := h1' i hlt
  have hc := hp i hlt
  have hle : i < es.length := by omega
  have q1 := li_addr (k := 3) (es := es) hle rfl hki fl
  have hmt := map_take (t := t) hlt
  have htl : (l.take i).length = i := by simp; omega
  have q2 := li_load (k := 3) (es := es) hle rfl hki true 3 0 (by omega)
  generalize es.getD i [] = ev at *
  generalize l[i] = y at *
  have hltI : (i : Int) < (l.length : Int) := by omega
  have hw := wrapS i (by omega)
  obtain ⟨S2, happ, ho2, _⟩ := (ho.more [AObj.cells 3 [ev] (some 1)]).app 0 rfl (y := .list .full [[.str (t y)]]) (ys := [[.str (t y)]]) (bytes := 16) rfl (by simp) (by decide) (by simp [strs, htl]; omega) (by simp [strs, htl]; omega)
  have hown : Own S.length S S2 [(.row (S' ++ [AObj.cells 3 [ev] (some 1)]).length 0 ((strs ((l.take i).map t)).length + 1), 1, strs ((l.take (i + 1)).map t))] := by
   rw [hmt, strs_snoc]
   simpa using ho2
  have htk2 : takeAt true 3 ev 0 = .agg ev := by simp [takeAt, List.take_of_length_le, hki]
  rw [htk2] at q2
  simp [-appendR, f31b0, a1, a5, a8, a9, a10, hltI, q1, q2, hki]
  refine ⟨h1i, ?_⟩
  refine (hc _).use ?_
  rintro e S1 ⟨rfl, rfl⟩
  simp [-appendR] at happ
  simp [-appendR, a1, a5, a8, a9, a10, happ, hw]
  exact ⟨l.length - (i + 1), by omega, i + 1, _, rfl, by omega, by simp [a1], rfl, by simp [a8], by simp [a9], by simp, by simpa using hown⟩
 ·have hie : i = l.length := by omega
  subst hie
  rw [List.take_length] at ho
  have hrk := ho.rk 0 rfl
  have hjoin := w33 (w0 := w0) hrk (by simp; omega) hj
  simp [f31b0, a1, a5, a8, a9, a10]
  refine hjoin.use ?_
  rintro e S1 ⟨rfl, rfl⟩
  simp [ho.take rfl]
def Li34 {α : Type} (S : Heap) (l : List α) (t : α → Bs) (v : AVal) (fo : FuncId) (n : Nat) (a : Tmps) (S' : Heap) : Prop :=
 ∃ (i : Nat) (u : AVal), n = l.length - i ∧ i ≤ l.length ∧ get a 1 = .clo (.func fo) [] [] ∧ get a 5 = u ∧ get a 8 = v ∧ get a 9 = .int l.length ∧ get a 10 = .int i ∧ Own S.length S S' [(u, 1, strs ((l.take i).map t))]
set_option maxHeartbeats 1000000 in
theorem w34 {α : Type} {l : List α} {es : List (List AVal)} {fl : Fl} {t : α → Bs} {fo : FuncId} (hl : es.length = l.length) (hk : ∀ i, i < l.length → (es.getD i []).length = 1)
  (hsm : l.length < 1000000000) (hj : (Lib.join (l.map t) [44, 32]).length ≤ 140737488355328) (hp : ∀ i (h : i < l.length) S, ACalls Tryz.prog (B0 w0) fo [((es.getD i []).getD 0 .top)] S fun e S' => e = .ret (.str (t l[i])) ∧ S' = S) (S : Heap) :
  ACalls Tryz.prog (B0 w0) 34 [.list fl es, .clo (.func fo) [] []] S fun e S' => e = .ret (.str (Lib.join (l.map t) [44, 32])) ∧ S' = S := by
 refine ACalls.close (R := fun e S' => e = .ret (.str (Lib.join (l.map t) [44, 32])) ∧ S'.take S.length = S) ?_ ?_
 rotate_left 1
 ·rintro e S' ⟨rfl, ht⟩
  exact .flat ht rfl ⟨rfl, rfl⟩
 refine fn_sound tryOrd (f34_c _) (by simp [f34]) ?_
 simp [f34, f34m, hl]
 refine mwp_loop (I := Li34 S l t (.list fl es) fo) (n := l.length) ⟨0, _, rfl, Nat.zero_le _, by simp, rfl, by simp, by simp, by simp, by simpa [strs] using (Own.start S).add0 1 .nil (.inl rfl)⟩ ?_
 rintro n a S' ⟨i, u, rfl, hi, a1, a5, a8, a9, a10, ho⟩
 by_cases hlt : i < l.length
 ·have hki := hk i hlt
  have hc := hp i hlt
  have hle : i < es.length := by omega
  have q1 := li_addr (k := 1) (es := es) hle rfl hki fl
  have hmt := map_take (t := t) hlt
  have htl : (l.take i).length = i := by simp; omega
  have q2 := li_load (k := 1) (es := es) hle rfl hki false 1 0 (by omega)
  generalize es.getD i [] = ev at *
  generalize l[i] = y at *
  have hltI : (i : Int) < (l.length : Int) := by omega
  have hw := wrapS i (by omega)
  obtain ⟨S2, happ, ho2, _⟩ := (ho.more ([] : Heap)).app 0 rfl (y := .list .full [[.str (t y)]]) (ys := [[.str (t y)]]) (bytes := 16) rfl (by simp) (by decide) (by simp [strs, htl]; omega) (by simp [strs, htl]; omega)
  have hown : Own S.length S S2 [(.row (S' ++ ([] : Heap)).length 0 ((strs ((l.take i).map t)).length + 1), 1, strs ((l.take (i + 1)).map t))] := by
   rw [hmt, strs_snoc]
   simpa using ho2
  obtain ⟨z, rfl⟩ : ∃ z, ev = [z] := List.length_eq_one_iff.1 hki
  have htk2 : takeAt false 1 [z] 0 = z := rfl
  rw [htk2] at q2
  simp only [List.append_nil] at happ hown
  simp [-appendR, f34b0, a1, a5, a8, a9, a10, hltI, q1, q2]
  simp only [List.getD_cons_zero] at hc
  refine (hc _).use ?_
  rintro e S1 ⟨rfl, rfl⟩
  simp [-appendR] at happ
  simp [-appendR, a1, a5, a8, a9, a10, happ, hw]
  exact ⟨l.length - (i + 1), by omega, i + 1, _, rfl, by omega, by simp [a1], rfl, by simp [a8], by simp [a9], by simp, by simpa using hown⟩
 ·have hie : i = l.length := by omega
  subst hie
  rw [List.take_length] at ho
  have hrk := ho.rk 0 rfl
  have hjoin := w33 (w0 := w0) hrk (by simp; omega) hj
  simp [f34b0, a1, a5, a8, a9, a10]
  refine hjoin.use ?_
  rintro e S1 ⟨rfl, rfl⟩
  simp [ho.take rfl]
def Li36 {α : Type} (S : Heap) (l : List α) (t : α → Bs) (v : AVal) (fo : FuncId) (n : Nat) (a : Tmps) (S' : Heap) : Prop :=
 ∃ (i : Nat) (u : AVal), n = l.length - i ∧ i ≤ l.length ∧ get a 1 = .clo (.func fo) [] [] ∧ get a 5 = u ∧ get a 8 = v ∧ get a 9 = .int l.length ∧ get a 10 = .int i ∧ Own S.length S S' [(u, 1, strs ((l.take i).map t))]
set_option maxHeartbeats 1000000 in
theorem w36 {α : Type} {l : List α} {es : List (List AVal)} {fl : Fl} {t : α → Bs} {fo : FuncId} (hl : es.length = l.length) (hk : ∀ i, i < l.length → (es.getD i []).length = 7) (h1' : ∀ i, i < l.length → ∀ x ∈ es.getD i [], x.one = true)
  (hsm : l.length < 1000000000) (hj : (Lib.join (l.map t) [44, 32]).length ≤ 140737488355328) (hp : ∀ i (h : i < l.length) S, ACalls Tryz.prog (B0 w0) fo [(.agg (es.getD i []))] S fun e S' => e = .ret (.str (t l[i])) ∧ S' = S) (S : Heap) :
  ACalls Tryz.prog (B0 w0) 36 [.list fl es, .clo (.func fo) [] []] S fun e S' => e = .ret (.str (Lib.join (l.map t) [44, 32])) ∧ S' = S := by
 refine ACalls.close (R := fun e S' => e = .ret (.str (Lib.join (l.map t) [44, 32])) ∧ S'.take S.length = S) ?_ ?_
 rotate_left 1
 ·rintro e S' ⟨rfl, ht⟩
  exact .flat ht rfl ⟨rfl, rfl⟩
 refine fn_sound tryOrd (f36_c _) (by simp [f36]) ?_
 simp [f36, f36m, hl]
 refine mwp_loop (I := Li36 S l t (.list fl es) fo) (n := l.length) ⟨0, _, rfl, Nat.zero_le _, by simp, rfl, by simp, by simp, by simp, by simpa [strs] using (Own.start S).add0 1 .nil (.inl rfl)⟩ ?_
 rintro n a S' ⟨i, u, rfl, hi, a1, a5, a8, a9, a10, ho⟩
 by_cases hlt : i < l.length
 ·have hki := hk i hlt
  have h1i := h1' i hlt
  have hc := hp i hlt
  have hle : i < es.length := by omega
  have q1 := li_addr (k := 7) (es := es) hle rfl hki fl
  have hmt := map_take (t := t) hlt
  have htl : (l.take i).length = i := by simp; omega
  have q2 := li_load (k := 7) (es := es) hle rfl hki true 7 0 (by omega)
  generalize es.getD i [] = ev at *
  generalize l[i] = y at *
  have hltI : (i : Int) < (l.length : Int) := by omega
  have hw := wrapS i (by omega)
  obtain ⟨S2, happ, ho2, _⟩ := (ho.more [AObj.cells 7 [ev] (some 1)]).app 0 rfl (y := .list .full [[.str (t y)]]) (ys := [[.str (t y)]]) (bytes := 16) rfl (by simp) (by decide) (by simp [strs, htl]; omega) (by simp [strs, htl]; omega)
  have hown : Own S.length S S2 [(.row (S' ++ [AObj.cells 7 [ev] (some 1)]).length 0 ((strs ((l.take i).map t)).length + 1), 1, strs ((l.take (i + 1)).map t))] := by
   rw [hmt, strs_snoc]
   simpa using ho2
  have htk2 : takeAt true 7 ev 0 = .agg ev := by simp [takeAt, List.take_of_length_le, hki]
  rw [htk2] at q2
  simp [-appendR, f36b0, a1, a5, a8, a9, a10, hltI, q1, q2, hki]
  refine ⟨h1i, ?_⟩
  refine (hc _).use ?_
  rintro e S1 ⟨rfl, rfl⟩
  simp [-appendR] at happ
  simp [-appendR, a1, a5, a8, a9, a10, happ, hw]
  exact ⟨l.length - (i + 1), by omega, i + 1, _, rfl, by omega, by simp [a1], rfl, by simp [a8], by simp [a9], by simp, by simpa using hown⟩
 ·have hie : i = l.length := by omega
  subst hie
  rw [List.take_length] at ho
  have hrk := ho.rk 0 rfl
  have hjoin := w33 (w0 := w0) hrk (by simp; omega) hj
  simp [f36b0, a1, a5, a8, a9, a10]
  refine hjoin.use ?_
  rintro e S1 ⟨rfl, rfl⟩
  simp [ho.take rfl]
def Li39 {α : Type} (S : Heap) (l : List α) (t : α → Bs) (v : AVal) (fo : FuncId) (n : Nat) (a : Tmps) (S' : Heap) : Prop :=
 ∃ (i : Nat) (u : AVal), n = l.length - i ∧ i ≤ l.length ∧ get a 1 = .clo (.func fo) [] [] ∧ get a 5 = u ∧ get a 8 = v ∧ get a 9 = .int l.length ∧ get a 10 = .int i ∧ Own S.length S S' [(u, 1, strs ((l.take i).map t))]
set_option maxHeartbeats 1000000 in
theorem w39 {α : Type} {l : List α} {es : List (List AVal)} {fl : Fl} {t : α → Bs} {fo : FuncId} (hl : es.length = l.length) (hk : ∀ i, i < l.length → (es.getD i []).length = 8) (h1' : ∀ i, i < l.length → ∀ x ∈ es.getD i [], x.one = true)
  (hsm : l.length < 1000000000) (hj : (Lib.join (l.map t) [44, 32]).length ≤ 140737488355328) (hp : ∀ i (h : i < l.length) S, ACalls Tryz.prog (B0 w0) fo [(.agg (es.getD i []))] S fun e S' => e = .ret (.str (t l[i])) ∧ S' = S) (S : Heap) :
  ACalls Tryz.prog (B0 w0) 39 [.list fl es, .clo (.func fo) [] []] S fun e S' => e = .ret (.str (Lib.join (l.map t) [44, 32])) ∧ S' = S := by
 refine ACalls.close (R := fun e S' => e = .ret (.str (Lib.join (l.map t) [44, 32])) ∧ S'.take S.length = S) ?_ ?_
 rotate_left 1
 ·rintro e S' ⟨rfl, ht⟩
  exact .flat ht rfl ⟨rfl, rfl⟩
 refine fn_sound tryOrd (f39_c _) (by simp [f39]) ?_
 simp [f39, f39m, hl]
 refine mwp_loop (I := Li39 S l t (.list fl es) fo) (n := l.length) ⟨0, _, rfl, Nat.zero_le _, by simp, rfl, by simp, by simp, by simp, by simpa [strs] using (Own.start S).add0 1 .nil (.inl rfl)⟩ ?_
 rintro n a S' ⟨i, u, rfl, hi, a1, a5, a8, a9, a10, ho⟩
 by_cases hlt : i < l.length
 ·have hki := hk i hlt
  have h1i := h1' i hlt
  have hc := hp i hlt
  have hle : i < es.length := by omega
  have q1 := li_addr (k := 8) (es := es) hle rfl hki fl
  have hmt := map_take (t := t) hlt
  have htl : (l.take i).length = i := by simp; omega
  have q2 := li_load (k := 8) (es := es) hle rfl hki true 8 0 (by omega)
  generalize es.getD i [] = ev at *
  generalize l[i] = y at *
  have hltI : (i : Int) < (l.length : Int) := by omega
  have hw := wrapS i (by omega)
  obtain ⟨S2, happ, ho2, _⟩ := (ho.more [AObj.cells 8 [ev] (some 1)]).app 0 rfl (y := .list .full [[.str (t y)]]) (ys := [[.str (t y)]]) (bytes := 16) rfl (by simp) (by decide) (by simp [strs, htl]; omega) (by simp [strs, htl]; omega)
  have hown : Own S.length S S2 [(.row (S' ++ [AObj.cells 8 [ev] (some 1)]).length 0 ((strs ((l.take i).map t)).length + 1), 1, strs ((l.take (i + 1)).map t))] := by
   rw [hmt, strs_snoc]
   simpa using ho2
  have htk2 : takeAt true 8 ev 0 = .agg ev := by simp [takeAt, List.take_of_length_le, hki]
  rw [htk2] at q2
  simp [-appendR, f39b0, a1, a5, a8, a9, a10, hltI, q1, q2, hki]
  refine ⟨h1i, ?_⟩
  refine (hc _).use ?_
  rintro e S1 ⟨rfl, rfl⟩
  simp [-appendR] at happ
  simp [-appendR, a1, a5, a8, a9, a10, happ, hw]
  exact ⟨l.length - (i + 1), by omega, i + 1, _, rfl, by omega, by simp [a1], rfl, by simp [a8], by simp [a9], by simp, by simpa using hown⟩
 ·have hie : i = l.length := by omega
  subst hie
  rw [List.take_length] at ho
  have hrk := ho.rk 0 rfl
  have hjoin := w33 (w0 := w0) hrk (by simp; omega) hj
  simp [f39b0, a1, a5, a8, a9, a10]
  refine hjoin.use ?_
  rintro e S1 ⟨rfl, rfl⟩
  simp [ho.take rfl]
def Li92 {α : Type} (S : Heap) (l : List α) (t : α → Bs) (v : AVal) (fo : FuncId) (n : Nat) (a : Tmps) (S' : Heap) : Prop :=
 ∃ (i : Nat) (u : AVal), n = l.length - i ∧ i ≤ l.length ∧ get a 1 = .clo (.func fo) [] [] ∧ get a 5 = u ∧ get a 8 = v ∧ get a 9 = .int l.length ∧ get a 10 = .int i ∧ Own S.length S S' [(u, 1, strs ((l.take i).map t))]
set_option maxHeartbeats 1000000 in
theorem w92 {α : Type} {l : List α} {es : List (List AVal)} {fl : Fl} {t : α → Bs} {fo : FuncId} (hl : es.length = l.length) (hk : ∀ i, i < l.length → (es.getD i []).length = 8) (h1' : ∀ i, i < l.length → ∀ x ∈ es.getD i [], x.one = true)
  (hsm : l.length < 1000000000) (hj : (Lib.join (l.map t) [44, 32]).length ≤ 140737488355328) (hp : ∀ i (h : i < l.length) S, ACalls Tryz.prog (B0 w0) fo [(.agg (es.getD i []))] S fun e S' => e = .ret (.str (t l[i])) ∧ S' = S) (S : Heap) :
  ACalls Tryz.prog (B0 w0) 92 [.list fl es, .clo (.func fo) [] []] S fun e S' => e = .ret (.str (Lib.join (l.map t) [44, 32])) ∧ S' = S := by
 refine ACalls.close (R := fun e S' => e = .ret (.str (Lib.join (l.map t) [44, 32])) ∧ S'.take S.length = S) ?_ ?_
 rotate_left 1
 ·rintro e S' ⟨rfl, ht⟩
  exact .flat ht rfl ⟨rfl, rfl⟩
 refine fn_sound tryOrd (f92_c _) (by simp [f92]) ?_
 simp [f92, f92m, hl]
 refine mwp_loop (I := Li92 S l t (.list fl es) fo) (n := l.length) ⟨0, _, rfl, Nat.zero_le _, by simp, rfl, by simp, by simp, by simp, by simpa [strs] using (Own.start S).add0 1 .nil (.inl rfl)⟩ ?_
 rintro n a S' ⟨i, u, rfl, hi, a1, a5, a8, a9, a10, ho⟩
 by_cases hlt : i < l.length
 ·have hki := hk i hlt
  have h1i := h1' i hlt
  have hc := hp i hlt
  have hle : i < es.length := by omega
  have q1 := li_addr (k := 8) (es := es) hle rfl hki fl
  have hmt := map_take (t := t) hlt
  have htl : (l.take i).length = i := by simp; omega
  have q2 := li_load (k := 8) (es := es) hle rfl hki true 8 0 (by omega)
  generalize es.getD i [] = ev at *
  generalize l[i] = y at *
  have hltI : (i : Int) < (l.length : Int) := by omega
  have hw := wrapS i (by omega)
  obtain ⟨S2, happ, ho2, _⟩ := (ho.more [AObj.cells 8 [ev] (some 1)]).app 0 rfl (y := .list .full [[.str (t y)]]) (ys := [[.str (t y)]]) (bytes := 16) rfl (by simp) (by decide) (by simp [strs, htl]; omega) (by simp [strs, htl]; omega)
  have hown : Own S.length S S2 [(.row (S' ++ [AObj.cells 8 [ev] (some 1)]).length 0 ((strs ((l.take i).map t)).length + 1), 1, strs ((l.take (i + 1)).map t))] := by
   rw [hmt, strs_snoc]
   simpa using ho2
  have htk2 : takeAt true 8 ev 0 = .agg ev := by simp [takeAt, List.take_of_length_le, hki]
  rw [htk2] at q2
  simp [-appendR, f92b0, a1, a5, a8, a9, a10, hltI, q1, q2, hki]
  refine ⟨h1i, ?_⟩
  refine (hc _).use ?_
  rintro e S1 ⟨rfl, rfl⟩
  simp [-appendR] at happ
  simp [-appendR, a1, a5, a8, a9, a10, happ, hw]
  exact ⟨l.length - (i + 1), by omega, i + 1, _, rfl, by omega, by simp [a1], rfl, by simp [a8], by simp [a9], by simp, by simpa using hown⟩
 ·have hie : i = l.length := by omega
  subst hie
  rw [List.take_length] at ho
  have hrk := ho.rk 0 rfl
  have hjoin := w33 (w0 := w0) hrk (by simp; omega) hj
  simp [f92b0, a1, a5, a8, a9, a10]
  refine hjoin.use ?_
  rintro e S1 ⟨rfl, rfl⟩
  simp [ho.take rfl]
def Li95 {α : Type} (S : Heap) (l : List α) (t : α → Bs) (v : AVal) (fo : FuncId) (n : Nat) (a : Tmps) (S' : Heap) : Prop :=
 ∃ (i : Nat) (u : AVal), n = l.length - i ∧ i ≤ l.length ∧ get a 1 = .clo (.func fo) [] [] ∧ get a 5 = u ∧ get a 8 = v ∧ get a 9 = .int l.length ∧ get a 10 = .int i ∧ Own S.length S S' [(u, 1, strs ((l.take i).map t))]
set_option maxHeartbeats 1000000 in
theorem w95 {α : Type} {l : List α} {es : List (List AVal)} {fl : Fl} {t : α → Bs} {fo : FuncId} (hl : es.length = l.length) (hk : ∀ i, i < l.length → (es.getD i []).length = 8) (h1' : ∀ i, i < l.length → ∀ x ∈ es.getD i [], x.one = true)
  (hsm : l.length < 1000000000) (hj : (Lib.join (l.map t) [44, 32]).length ≤ 140737488355328) (hp : ∀ i (h : i < l.length) S, ACalls Tryz.prog (B0 w0) fo [(.agg (es.getD i []))] S fun e S' => e = .ret (.str (t l[i])) ∧ S' = S) (S : Heap) :
  ACalls Tryz.prog (B0 w0) 95 [.list fl es, .clo (.func fo) [] []] S fun e S' => e = .ret (.str (Lib.join (l.map t) [44, 32])) ∧ S' = S := by
 refine ACalls.close (R := fun e S' => e = .ret (.str (Lib.join (l.map t) [44, 32])) ∧ S'.take S.length = S) ?_ ?_
 rotate_left 1
 ·rintro e S' ⟨rfl, ht⟩
  exact .flat ht rfl ⟨rfl, rfl⟩
 refine fn_sound tryOrd (f95_c _) (by simp [f95]) ?_
 simp [f95, f95m, hl]
 refine mwp_loop (I := Li95 S l t (.list fl es) fo) (n := l.length) ⟨0, _, rfl, Nat.zero_le _, by simp, rfl, by simp, by simp, by simp, by simpa [strs] using (Own.start S).add0 1 .nil (.inl rfl)⟩ ?_
 rintro n a S' ⟨i, u, rfl, hi, a1, a5, a8, a9, a10, ho⟩
 by_cases hlt : i < l.length
 ·have hki := hk i hlt
  have h1i := h1' i hlt
  have hc := hp i hlt
  have hle : i < es.length := by omega
  have q1 := li_addr (k := 8) (es := es) hle rfl hki fl
  have hmt := map_take (t := t) hlt
  have htl : (l.take i).length = i := by simp; omega
  have q2 := li_load (k := 8) (es := es) hle rfl hki true 8 0 (by omega)
  generalize es.getD i [] = ev at *
  generalize l[i] = y at *
  have hltI : (i : Int) < (l.length : Int) := by omega
  have hw := wrapS i (by omega)
  obtain ⟨S2, happ, ho2, _⟩ := (ho.more [AObj.cells 8 [ev] (some 1)]).app 0 rfl (y := .list .full [[.str (t y)]]) (ys := [[.str (t y)]]) (bytes := 16) rfl (by simp) (by decide) (by simp [strs, htl]; omega) (by simp [strs, htl]; omega)
  have hown : Own S.length S S2 [(.row (S' ++ [AObj.cells 8 [ev] (some 1)]).length 0 ((strs ((l.take i).map t)).length + 1), 1, strs ((l.take (i + 1)).map t))] := by
   rw [hmt, strs_snoc]
   simpa using ho2
  have htk2 : takeAt true 8 ev 0 = .agg ev := by simp [takeAt, List.take_of_length_le, hki]
  rw [htk2] at q2
  simp [-appendR, f95b0, a1, a5, a8, a9, a10, hltI, q1, q2, hki]
  refine ⟨h1i, ?_⟩
  refine (hc _).use ?_
  rintro e S1 ⟨rfl, rfl⟩
  simp [-appendR] at happ
  simp [-appendR, a1, a5, a8, a9, a10, happ, hw]
  exact ⟨l.length - (i + 1), by omega, i + 1, _, rfl, by omega, by simp [a1], rfl, by simp [a8], by simp [a9], by simp, by simpa using hown⟩
 ·have hie : i = l.length := by omega
  subst hie
  rw [List.take_length] at ho
  have hrk := ho.rk 0 rfl
  have hjoin := w33 (w0 := w0) hrk (by simp; omega) hj
  simp [f95b0, a1, a5, a8, a9, a10]
  refine hjoin.use ?_
  rintro e S1 ⟨rfl, rfl⟩
  simp [ho.take rfl]
end Go.Abs
namespace Go.Abs
open Go.Lx Go.Pz
def joinT : List Bs → Bs
 | [] => []
 | a :: r => match r with
   | [] => a
   | _ :: _ => a ++ 44 :: 32 :: joinT r
def asT (s n : Bs) : Bs := if n = [] then s else s ++ [32, 65, 83, 32] ++ n
def typeT (t : Int) : Bs := [[], [66, 79, 79, 76], [73, 78, 84], [82, 69, 65, 76], [84, 69, 88, 84]].getD t.toNat []
def colT (c : Pz.Col) : Bs := c.name ++ 32 :: typeT c.type ++ (if c.req then [32, 78, 79, 84, 32, 78, 85, 76, 76] else [])
def rowT (r : List Ex) : Bs := 40 :: joinT (r.map textE) ++ [41]
def itemT (x : Itm) : Bs := asT (textE x.e) x.name
def sortT (x : Srt) : Bs := if x.desc then textE x.e ++ [32, 68, 69, 83, 67] else textE x.e
def setT (x : Asn) : Bs := x.col ++ [32, 61, 32] ++ textE x.e
def srcT (x : Src) : Bs := asT x.table x.alias
def joinsT (xs : List Src) : Bs := (xs.map fun x => [32, 73, 78, 78, 69, 82, 32, 74, 79, 73, 78, 32] ++ srcT x ++ [32, 79, 78, 32] ++ textE x.on).flatten
def opOf : Ex → Int
 | .mk op _ _ _ _ _ _ => op
def whereT (x : Ex) : Bs := if opOf x = 0 then [] else [32, 87, 72, 69, 82, 69, 32] ++ textE x
def queryT (st : Stm) : Bs :=
 [83, 69, 76, 69, 67, 84, 32] ++ (if st.items = [] then [42] else joinT (st.items.map itemT)) ++
 (match st.src with | [] => [] | s :: r => [32, 70, 82, 79, 77, 32] ++ srcT s ++ joinsT r) ++ whereT st.wher ++
 (if st.order = [] then [] else [32, 79, 82, 68, 69, 82, 32, 66, 89, 32] ++ joinT (st.order.map sortT))
def formS (st : Stm) : Bs :=
 if st.kind = 1 then [67, 82, 69, 65, 84, 69, 32, 84, 65, 66, 76, 69, 32] ++ st.table ++ [32, 40] ++ joinT (st.cols.map colT) ++ [41]
 else if st.kind = 2 then [68, 82, 79, 80, 32, 84, 65, 66, 76, 69, 32] ++ st.table
 else if st.kind = 3 then [67, 82, 69, 65, 84, 69, 32] ++ (if st.uniq then [85, 78, 73, 81, 85, 69, 32] else []) ++ [73, 78, 68, 69, 88, 32] ++ st.index ++ [32, 79, 78, 32] ++ st.table ++ [32, 40] ++ joinT st.names ++ [41]
 else if st.kind = 4 then [68, 82, 79, 80, 32, 73, 78, 68, 69, 88, 32] ++ st.index
 else if st.kind = 5 then [73, 78, 83, 69, 82, 84, 32, 73, 78, 84, 79, 32] ++ st.table ++ [32, 86, 65, 76, 85, 69, 83, 32] ++ joinT (st.rows.map rowT)
 else if st.kind = 6 then queryT st
 else if st.kind = 7 then [85, 80, 68, 65, 84, 69, 32] ++ st.table ++ [32, 83, 69, 84, 32] ++ joinT (st.sets.map setT) ++ whereT st.wher
 else if st.kind = 8 then [68, 69, 76, 69, 84, 69, 32, 70, 82, 79, 77, 32] ++ st.table ++ whereT st.wher
 else if st.kind = 9 then [66, 69, 71, 73, 78] else if st.kind = 10 then [67, 79, 77, 77, 73, 84] else [82, 79, 76, 76, 66, 65, 67, 75]
def colB (c : Pz.Col) : Bool := nameB c.name && decide (1 ≤ c.type) && decide (c.type ≤ 4)
def between (n a b : Nat) : Bool := decide (a ≤ n) && decide (n ≤ b)
def tableU (k : Int) : Bool := decide (k = 1) || decide (k = 2) || decide (k = 3) || decide (k = 5) || decide (k = 7) || decide (k = 8)
def indexU (k : Int) : Bool := decide (k = 3) || decide (k = 4)
def srcB : List Src → Bool
 | [] => true
 | s :: r => nameB s.table && aliasB s.alias && zeroB s.on && r.all fun x => nameB x.table && aliasB x.alias && okE x.on
def okS (st : Stm) : Bool :=
 decide (1 ≤ st.kind) && decide (st.kind ≤ 11) &&
 (if tableU st.kind then nameB st.table else decide (st.table = [])) && (if indexU st.kind then nameB st.index else decide (st.index = [])) &&
 (if st.kind = 1 then between st.cols.length 1 16 && st.cols.all colB else st.cols.isEmpty) &&
 (if st.kind = 3 then between st.names.length 1 4 && st.names.all nameB else st.names.isEmpty && !st.uniq) &&
 (if st.kind = 5 then between st.rows.length 1 50 && st.rows.all (fun r => between r.length 1 50 && okL r) else st.rows.isEmpty) &&
 (if st.kind = 6 then decide (st.items.length ≤ 50) && st.items.all (fun x => okE x.e && aliasB x.name) && between st.src.length 1 4 && srcB st.src && decide (st.order.length ≤ 50) && st.order.all (fun x => okE x.e) else st.items.isEmpty && st.src.isEmpty && st.order.isEmpty) &&
 (if st.kind = 7 then between st.sets.length 1 50 && st.sets.all (fun x => nameB x.col && okE x.e) else st.sets.isEmpty) &&
 (if st.kind = 6 ∨ st.kind = 7 ∨ st.kind = 8 then perB st.wher else zeroB st.wher)
def exsS (st : Stm) : List Ex := st.wher :: (st.rows.flatten ++ (st.items.map (·.e) ++ (st.src.map (·.on) ++ (st.order.map (·.e) ++ st.sets.map (·.e)))))
def checkS (st : Stm) : Int := if okS st = true then (if (exsS st).all fun x => decide (x.depth ≤ 40) then 0 else 5) else 2
end Go.Abs
namespace Go.Abs
open Go Go.RowKit Go.Proofs Go.Lx Go.Pz
variable {w0 : World}
def Al {α : Type} (R : α → List AVal → Prop) (l : List α) (es : List (List AVal)) : Prop := es.length = l.length ∧ ∀ i (h : i < l.length), R l[i] (es.getD i [])
def ItmV (x : Itm) (e : List AVal) : Prop := ∃ ev, ExV x.e ev ∧ e = ev ++ [.str x.name]
def SrcV (x : Src) (e : List AVal) : Prop := ∃ ev, ExV x.on ev ∧ e = .str x.table :: .str x.alias :: ev
def SrtV (x : Srt) (e : List AVal) : Prop := ∃ ev, ExV x.e ev ∧ e = ev ++ [.bool x.desc]
def AsnV (x : Asn) (e : List AVal) : Prop := ∃ ev, ExV x.e ev ∧ e = .str x.col :: ev
def RowV (r : List Ex) (e : List AVal) : Prop := ∃ fl es, e = [.list fl es] ∧ ExsV r es
def StV (st : Stm) (c : List AVal) : Prop := ∃ fC fN fR fI fF fO fS eR eI eF ew eO eS,
 c = [.int st.kind, .str st.table, .str st.index, .list fC (pcolsC st.cols), .list fN (namesC st.names), .bool st.uniq, .list fR eR, .list fI eI, .list fF eF] ++ ew ++ [.list fO eO, .list fS eS] ∧
 ExV st.wher ew ∧ Al RowV st.rows eR ∧ Al ItmV st.items eI ∧ Al SrcV st.src eF ∧ Al SrtV st.order eO ∧ Al AsnV st.sets eS
structure Sm (st : Stm) : Prop where
 cols : st.cols.length ≤ 4000000
 names : st.names.length ≤ 4000000
 rows : st.rows.length ≤ 4000000
 items : st.items.length ≤ 4000000
 src : st.src.length ≤ 4000000
 order : st.order.length ≤ 4000000
 sets : st.sets.length ≤ 4000000
 ex : (exsS st).length ≤ 4000000
 w : ∀ x ∈ exsS st, x.w ≤ 4000000 ∧ inrE x = true
section
variable {st : Stm}
theorem mem_wher : st.wher ∈ exsS st := by simp [exsS]
theorem mem_rows {r : List Ex} {x : Ex} (hr : r ∈ st.rows) (hx : x ∈ r) : x ∈ exsS st := by
 have : x ∈ st.rows.flatten := List.mem_flatten.2 ⟨r, hr, hx⟩
 simp [exsS]; exact .inr (.inl ⟨r, hr, hx⟩)
theorem mem_items {x : Itm} (h : x ∈ st.items) : x.e ∈ exsS st := by
 simp [exsS]; exact .inr (.inr (.inl ⟨x, h, rfl⟩))
theorem mem_src {x : Src} (h : x ∈ st.src) : x.on ∈ exsS st := by
 simp [exsS]; exact .inr (.inr (.inr (.inl ⟨x, h, rfl⟩)))
theorem mem_order {x : Srt} (h : x ∈ st.order) : x.e ∈ exsS st := by
 simp [exsS]; exact .inr (.inr (.inr (.inr (.inl ⟨x, h, rfl⟩))))
theorem mem_sets {x : Asn} (h : x ∈ st.sets) : x.e ∈ exsS st := by
 simp [exsS]; exact .inr (.inr (.inr (.inr (.inr ⟨x, h, rfl⟩))))
end
theorem ExV_cells {x : Ex} {av : List AVal} (h : ExV x av) : ∃ fl es k n s t q, av = [.int (opOf x), .list fl es, .int k, .int n, .int s, .str t, .str q] := by
 obtain ⟨op, args, kind, num, scale, text, qual⟩ := x
 rw [ExV_mk] at h
 obtain ⟨fl, es, rfl, _⟩ := h
 exact ⟨fl, es, _, _, _, _, _, rfl⟩
def usesT (k : Int) : Bs := [[], [116, 99], [116], [105, 116, 110], [105], [116, 114], [115, 119], [116, 117, 119], [116, 119], [], [], []].getD k.toNat []
def kindB (k : Int) : Bool := decide (1 ≤ k) && decide (k ≤ 11)
set_option maxHeartbeats 1000000 in
theorem w46 (k : Int) (S : Heap) : ACalls Tryz.prog (B0 w0) 46 [.int k] S fun e S' => e = .ret (.tuple [.str (if kindB k then usesT k else []), .bool (kindB k)]) ∧ S' = S := by
 refine ACalls.close (R := fun e S' => e = .ret (.tuple [.str (if kindB k then usesT k else []), .bool (kindB k)]) ∧ S'.take S.length = S) ?_ ?_
 rotate_left 1
 ·rintro e S' ⟨rfl, ht⟩
  exact .flat ht rfl ⟨rfl, rfl⟩
 refine fn_sound tryOrd (f46_c _) (by simp [f46]) ?_
 by_cases h1 : k < 1
 ·have h1' : ¬ 1 ≤ k := by omega
  simp [f46, f46m, h1, h1', kindB]
 by_cases h2 : 11 < k
 ·have h1' : 1 ≤ k := by omega
  have h2' : ¬ k ≤ 11 := by omega
  simp [f46, f46m, h1, h1', h2, h2', kindB]
 obtain ⟨n, rfl⟩ : ∃ n : Nat, k = n := ⟨k.toNat, by omega⟩
 have hc : n = 1 ∨ n = 2 ∨ n = 3 ∨ n = 4 ∨ n = 5 ∨ n = 6 ∨ n = 7 ∨ n = 8 ∨ n = 9 ∨ n = 10 ∨ n = 11 := by omega
 rcases hc with rfl | rfl | rfl | rfl | rfl | rfl | rfl | rfl | rfl | rfl | rfl
 all_goals simp [f46, f46m, kindB, usesT]
def hasB (u : Bs) (c : UInt8) (z r : Bool) : Bool := if 0 ≤ Lib.indexByte u c then r else z
theorem w47 {u : Bs} {b : Nat} {H : Heap} (hb : H[b]? = some (.cells 1 [[.str u]] (some 1))) (c : UInt8) (z r : Bool) : ACalls Tryz.prog (B0 w0) 47 [.str [c], .bool z, .bool r, .ptr b 0 0] H fun e S' => e = .ret (.bool (hasB u c z r)) ∧ S' = H := by
 refine fn_sound tryOrd (f47_c _) (by simp [f47]) ?_
 simp [f47, f47m, hb]
 refine (w48 u c _).use ?_
 rintro e S1 ⟨rfl, rfl⟩
 by_cases h : 0 ≤ Lib.indexByte u c <;> simp [h, hasB]
theorem w60 (c : Pz.Col) (S : Heap) : ACalls Tryz.prog (B0 w0) 60 [.agg (pcolC c)] S fun e S' => e = .ret (.bool (colB c)) ∧ S' = S := by
 refine ACalls.close (R := fun e S' => e = .ret (.bool (colB c)) ∧ S'.take S.length = S) ?_ ?_
 rotate_left 1
 ·rintro e S' ⟨rfl, ht⟩
  exact .flat ht rfl ⟨rfl, rfl⟩
 refine fn_sound tryOrd (f60_c _) (by simp [f60]) ?_
 simp [f60, f60m, pcolC]
 refine (w57 c.name _).use ?_
 rintro e S1 ⟨rfl, rfl⟩
 cases hn : nameB c.name with
 | false => simp [colB, hn]
 | true => by_cases h1 : 1 ≤ c.type <;> simp [colB, hn, h1]
def rowB (r : List Ex) : Bool := between r.length 1 50 && okL r
theorem w63 (hT : Tb w0) {r : List Ex} {fl : Fl} {es : List (List AVal)} (hes : ExsV r es) (hr : r.length ≤ 4000000) (hw : ∀ x ∈ r, x.w ≤ 4000000 ∧ inrE x = true) (S : Heap) : ACalls Tryz.prog (B0 w0) 63 [.list fl es] S fun e S' => e = .ret (.bool (rowB r)) ∧ S' = S := by
 have hel := ExsV_len hes
 refine fn_sound tryOrd (f63_c _) (by simp [f63]) ?_
 simp [f63, f63m]
 refine (w58 es.length 1 50 _).use ?_
 rintro e S1 ⟨rfl, rfl⟩
 by_cases h : 1 ≤ (es.length : Int) ∧ (es.length : Int) ≤ 50
 ·have hev := fun S => w17 (w0 := w0) (l := r) (p := okE) (fo := 51) (S := S) (Rk.list fl es) hel (fun i hi => ExV_len (ExsV_get hes i hi)) (fun i hi => List.all_eq_true.1 (ExV_one (ExsV_get hes i hi))) (by omega) fun i hi g =>
   w51 hT 4000000 (by omega) r[i] (hw _ (List.getElem_mem hi)).1 (hw _ (List.getElem_mem hi)).2 _ (ExsV_get hes i hi) _
  simp [h.1, h.2]
  refine (hev _).use ?_
  rintro e S1 ⟨rfl, rfl⟩
  have e1 : between r.length 1 50 = true := by unfold between; simp; omega
  simp [rowB, okL_all, e1]
 ·have e1 : between r.length 1 50 = false := by unfold between; simp; omega
  by_cases h1 : 1 ≤ (es.length : Int)
  ·have h2 : ¬ (es.length : Int) ≤ 50 := fun h2 => h ⟨h1, h2⟩
   simp [h1, h2, rowB, e1]
  ·simp [h1, rowB, e1]
theorem w50 (hT : Tb w0) {x : Itm} (hw : x.e.w ≤ 4000000) (hi : inrE x.e = true) {e : List AVal} (hv : ItmV x e) (S : Heap) : ACalls Tryz.prog (B0 w0) 50 [.agg e] S fun r S' => r = .ret (.bool (okE x.e && aliasB x.name)) ∧ S' = S := by
 obtain ⟨ev, hev, rfl⟩ := hv
 have h51 := fun S => w51 hT 4000000 (by omega) x.e hw hi ev hev S
 obtain ⟨fl, es, k, n, s, t, q, rfl⟩ := ExV_cells hev
 refine ACalls.close (R := fun r S' => r = .ret (.bool (okE x.e && aliasB x.name)) ∧ S'.take S.length = S) ?_ ?_
 rotate_left 1
 ·rintro e S' ⟨rfl, ht⟩
  exact .flat ht rfl ⟨rfl, rfl⟩
 refine fn_sound tryOrd (f50_c _) (by simp [f50]) ?_
 simp [f50, f50m]
 refine (h51 _).use ?_
 rintro e S1 ⟨rfl, rfl⟩
 cases ho : okE x.e with
 | false => simp
 | true =>
   simp
   refine (w52 x.name _).use ?_
   rintro e S1 ⟨rfl, rfl⟩
   simp
theorem w54 (hT : Tb w0) {x : Srt} (hw : x.e.w ≤ 4000000) (hi : inrE x.e = true) {e : List AVal} (hv : SrtV x e) (S : Heap) : ACalls Tryz.prog (B0 w0) 54 [.agg e] S fun r S' => r = .ret (.bool (okE x.e)) ∧ S' = S := by
 obtain ⟨ev, hev, rfl⟩ := hv
 have h51 := fun S => w51 hT 4000000 (by omega) x.e hw hi ev hev S
 obtain ⟨fl, es, k, n, s, t, q, rfl⟩ := ExV_cells hev
 refine ACalls.close (R := fun r S' => r = .ret (.bool (okE x.e)) ∧ S'.take S.length = S) ?_ ?_
 rotate_left 1
 ·rintro e S' ⟨rfl, ht⟩
  exact .flat ht rfl ⟨rfl, rfl⟩
 refine fn_sound tryOrd (f54_c _) (by simp [f54]) ?_
 simp [f54, f54m]
 refine (h51 _).use ?_
 rintro e S1 ⟨rfl, rfl⟩
 simp
theorem w56 (hT : Tb w0) {x : Asn} (hw : x.e.w ≤ 4000000) (hi : inrE x.e = true) {e : List AVal} (hv : AsnV x e) (S : Heap) : ACalls Tryz.prog (B0 w0) 56 [.agg e] S fun r S' => r = .ret (.bool (nameB x.col && okE x.e)) ∧ S' = S := by
 obtain ⟨ev, hev, rfl⟩ := hv
 have h51 := fun S => w51 hT 4000000 (by omega) x.e hw hi ev hev S
 obtain ⟨fl, es, k, n, s, t, q, rfl⟩ := ExV_cells hev
 refine ACalls.close (R := fun r S' => r = .ret (.bool (nameB x.col && okE x.e)) ∧ S'.take S.length = S) ?_ ?_
 rotate_left 1
 ·rintro e S' ⟨rfl, ht⟩
  exact .flat ht rfl ⟨rfl, rfl⟩
 refine fn_sound tryOrd (f56_c _) (by simp [f56]) ?_
 simp [f56, f56m]
 refine (w57 x.col _).use ?_
 rintro e S1 ⟨rfl, rfl⟩
 cases ho : nameB x.col with
 | false => simp
 | true =>
   simp
   refine (h51 _).use ?_
   rintro e S1 ⟨rfl, rfl⟩
   simp
end Go.Abs
namespace Go.Abs
open Go Go.RowKit Go.Proofs Go.Lx Go.Pz
variable {w0 : World}
theorem okE_op {x : Ex} (h : okE x = true) : opOf x ≠ 0 := by
 obtain ⟨op, args, kind, num, scale, text, qual⟩ := x
 rw [okE_mk, Bool.and_eq_true, decide_eq_true_eq] at h
 intro h0
 have h0 : op = 0 := h0
 subst h0
 have := h.1
 have e : opnds 0 = -1 := by decide
 omega
theorem zeroB_op {x : Ex} (h : zeroB x = true) : opOf x = 0 := by
 obtain ⟨op, args, kind, num, scale, text, qual⟩ := x
 simp only [zeroB, Bool.and_eq_true, decide_eq_true_eq] at h
 exact h.1.1.1.1.1.1
theorem perB_zero {x : Ex} (h : opOf x = 0) : perB x = zeroB x := by
 have : okE x = false := by
  cases ho : okE x with
  | false => rfl
  | true => exact absurd h (okE_op ho)
 rw [perB, this, Bool.or_false]
theorem perB_ok {x : Ex} (h : opOf x ≠ 0) : perB x = okE x := by
 have : zeroB x = false := by
  cases ho : zeroB x with
  | false => rfl
  | true => exact absurd (zeroB_op ho) h
 rw [perB, this, Bool.false_or]
theorem zeroB_not {x : Ex} (h : opOf x ≠ 0) : zeroB x = false := by
 cases ho : zeroB x with
 | false => rfl
 | true => exact absurd (zeroB_op ho) h
theorem okE_not {x : Ex} (h : opOf x = 0) : okE x = false := by
 cases ho : okE x with
 | false => rfl
 | true => exact absurd h (okE_op ho)
def srcG (i : Nat) (s : Src) : Bool := nameB s.table && aliasB s.alias && (if i = 0 then zeroB s.on else okE s.on)
theorem srcB_iff {l : List Src} : srcB l = true ↔ ∀ i (h : i < l.length), srcG i l[i] = true := by
 cases l with
 | nil => simp [srcB]
 | cons s r =>
   simp only [srcB, Bool.and_eq_true, List.all_eq_true]
   constructor
   ·rintro ⟨h1, h2⟩ i hi
    cases i with
    | zero => simp [srcG, h1]
    | succ i =>
      have := h2 (r[i]'(by simpa using hi)) (List.getElem_mem _)
      simp [srcG, this]
   ·intro h
    have h0 := h 0 (by simp)
    simp [srcG] at h0
    refine ⟨⟨⟨h0.1.1, h0.1.2⟩, h0.2⟩, fun x hx => ?_⟩
    obtain ⟨i, hi, rfl⟩ := List.getElem_of_mem hx
    have := h (i + 1) (by simpa using hi)
    simp [srcG] at this
    exact ⟨⟨this.1.1, this.1.2⟩, this.2⟩
theorem srcB_not {l : List Src} {i : Nat} (h : i < l.length) (hb : srcG i l[i] = false) : srcB l = false := by
 cases hs : srcB l with
 | false => rfl
 | true => rw [srcB_iff.1 hs i h] at hb; cases hb
def FrI (S : Heap) (l : List Src) (v : AVal) (n : Nat) (a : Tmps) (S' : Heap) : Prop :=
 ∃ (i : Nat) (g : Heap), n = l.length - i ∧ i ≤ l.length ∧ S' = S ++ g ∧ get a 0 = v ∧ get a 5 = v ∧ get a 6 = .int l.length ∧ get a 7 = .int i ∧ ∀ j (h : j < l.length), j < i → srcG j l[j] = true
set_option maxHeartbeats 4000000 in
theorem w64 (hT : Tb w0) {l : List Src} {fl : Fl} {es : List (List AVal)} (hes : Al SrcV l es) (hl : l.length ≤ 4000000) (hw : ∀ x ∈ l, x.on.w ≤ 4000000 ∧ inrE x.on = true) (S : Heap) :
  ACalls Tryz.prog (B0 w0) 64 [.list fl es] S fun e S' => e = .ret (.bool (between l.length 1 4 && srcB l)) ∧ S' = S := by
 obtain ⟨hel, hes⟩ := hes
 refine ACalls.close (R := fun e S' => e = .ret (.bool (between l.length 1 4 && srcB l)) ∧ S'.take S.length = S) ?_ ?_
 rotate_left 1
 ·rintro e S' ⟨rfl, ht⟩
  exact .flat ht rfl ⟨rfl, rfl⟩
 refine fn_sound tryOrd (f64_c _) (by simp [f64]) ?_
 simp [f64, f64m, hel]
 refine mwp_loop (I := FrI S l (.list fl es)) (n := l.length) ⟨0, [], rfl, Nat.zero_le _, by simp, by simp, by simp, by simp, by simp, fun j _ h => absurd h (by omega)⟩ ?_
 rintro n a S' ⟨i, g, rfl, hi, rfl, a0, a5, a6, a7, hall⟩
 by_cases hlt : i < l.length
 ·obtain ⟨ev, hev, he⟩ := hes i hlt
  have hle : i < es.length := by omega
  have q1 := li_addr (k := 9) (es := es) hle he (by simp [ExV_len hev]) fl
  have q2 := li_load (k := 9) (es := es) hle he (by simp [ExV_len hev]) true 9 0 (by omega)
  have hwx := hw _ (List.getElem_mem hlt)
  have h65 := fun S => w65 hT (x := l[i].on) (by omega) hwx.2 hev S
  have hbad := srcB_not hlt
  have hnext : ∀ x : Bool, srcG i l[i] = true → ∀ j (h : j < l.length), j < i + 1 → srcG j l[j] = true := fun _ hg j h hj => by
   rcases Nat.lt_or_ge j i with h' | h'
   ·exact hall j h h'
   ·have : j = i := by omega
    subst this; exact hg
  have hnext := hnext true
  generalize l[i] = y at *
  obtain ⟨fl', es', k', n', s', t', q', rfl⟩ := ExV_cells hev
  have hltI : (i : Int) < (l.length : Int) := by omega
  have hw1 := wrapS i (by omega)
  have htk : ∀ c : List AVal, c.length = 9 → takeAt true 9 c 0 = .agg c := fun c hc => by simp [takeAt, List.take_of_length_le, hc]
  rw [htk _ rfl] at q2
  simp [f64b0, a0, a5, a6, a7, hltI, q1, q2]
  refine (w57 y.table _).use ?_
  rintro e S1 ⟨rfl, rfl⟩
  cases hn : nameB y.table with
  | false =>
    have hb := hbad (by simp [srcG, hn])
    simp [hb]
  | true =>
  simp
  refine (w52 y.alias _).use ?_
  rintro e S1 ⟨rfl, rfl⟩
  cases hn2 : aliasB y.alias with
  | false =>
    have hb := hbad (by simp [srcG, hn, hn2])
    simp [hb]
  | true =>
  by_cases h0 : opOf y.on = 0
  ·have b0 : (opOf y.on == 0) = true := by simp [h0]
   have c0 : (opOf y.on != 0) = false := by simp [h0]
   by_cases hi0 : i = 0
   ·have bi : ((i : Int) == 0) = true := by simp [hi0]
    have ci : ¬ 0 < (i : Int) := by omega
    have cn : ¬ 0 < i := by omega
    simp [bi, ci, cn, c0]
    refine (h65 _).use ?_
    rintro e S1 ⟨rfl, rfl⟩
    rw [perB_zero h0]
    cases hz : zeroB y.on with
    | false =>
      have hb := hbad (by simp [srcG, hn, hn2, hi0, hz])
      simp [hb]
    | true =>
      have hg := hnext (by simp [srcG, hn, hn2, hi0, hz])
      simp [bi, ci, cn, c0, b0, a0, a5, a6, a7, hw1]
      exact ⟨l.length - (i + 1), by omega, i + 1, _, rfl, by omega, rfl, by simp [a0], by simp [a5], by simp [a6], by simp, hg⟩
   ·have bi : ((i : Int) == 0) = false := beq_eq_false_iff_ne.2 (by omega)
    have ci : 0 < (i : Int) := by omega
    have cn : 0 < i := by omega
    have hb := hbad (by simp [srcG, hn, hn2, hi0, okE_not h0])
    simp [bi, ci, cn, c0]
    refine (h65 _).use ?_
    rintro e S1 ⟨rfl, rfl⟩
    cases hz : perB y.on with
    | false => simp [hb]
    | true => simp [bi, ci, cn, c0, b0, hb]
  ·have b0 : (opOf y.on == 0) = false := by simp [h0]
   have c0 : (opOf y.on != 0) = true := by simp [h0]
   by_cases hi0 : i = 0
   ·have bi : ((i : Int) == 0) = true := by simp [hi0]
    have hb := hbad (by simp [srcG, hn, hn2, hi0, zeroB_not h0])
    simp [bi, c0, hb]
   ·have bi : ((i : Int) == 0) = false := beq_eq_false_iff_ne.2 (by omega)
    have ci : 0 < (i : Int) := by omega
    have cn : 0 < i := by omega
    simp [bi, ci, cn, c0]
    refine (h65 _).use ?_
    rintro e S1 ⟨rfl, rfl⟩
    rw [perB_ok h0]
    cases hz : okE y.on with
    | false =>
      have hb := hbad (by simp [srcG, hn, hn2, hi0, hz])
      simp [hb]
    | true =>
      have hg := hnext (by simp [srcG, hn, hn2, hi0, hz])
      simp [bi, ci, cn, c0, b0, a0, a5, a6, a7, hw1]
      exact ⟨l.length - (i + 1), by omega, i + 1, _, rfl, by omega, rfl, by simp [a0], by simp [a5], by simp [a6], by simp, hg⟩
 ·have hie : i = l.length := by omega
  have hsb : srcB l = true := srcB_iff.2 fun j h => hall j h (by omega)
  subst hie
  simp [f64b0, a0, a5, a6, a7, hel]
  refine (w58 l.length 1 4 _).use ?_
  rintro e S1 ⟨rfl, rfl⟩
  have e1 : (decide (1 ≤ (l.length : Int)) && decide ((l.length : Int) ≤ 4)) = between l.length 1 4 := by unfold between; rw [Bool.eq_iff_iff]; simp; omega
  simp [hsb, e1]
end Go.Abs
