/- The abstract machine, part 11: literals of structs and slices. Conditions: none; lemmas. -/
import Derived.Test.YtdnpmnnidjeifaaGreatDoorA10
namespace Go.Abs
open Go Go.RowKit
section
variable {P : Program} {β : Base}
def putCells (cells : Array Value) (off : Nat) (vs : Array Value) : Array Value := vs.zipIdx.foldl (fun cs (c, j) => cs.setIfInBounds (off + j) c) cells
theorem foldl_put (off : Nat) : ∀ (l : List Value) (s : Nat) (cells : Array Value), off + s + l.length ≤ cells.size →
  ((l.zipIdx s).foldl (fun cs (x : Value × Nat) => cs.setIfInBounds (off + x.2) x.1) cells).size = cells.size ∧
  ∀ q, ((l.zipIdx s).foldl (fun cs (x : Value × Nat) => cs.setIfInBounds (off + x.2) x.1) cells).getD q undef = if off + s ≤ q ∧ q < off + s + l.length then l.getD (q - (off + s)) undef else cells.getD q undef
 | [], s, cells, _ => by
   refine ⟨rfl, fun q => ?_⟩
   rw [if_neg (by simp)]; rfl
 | v :: r, s, cells, h => by
   simp only [List.length_cons] at h
   simp only [List.zipIdx_cons, List.foldl_cons]
   obtain ⟨h1, h2⟩ := foldl_put off r (s + 1) (cells.setIfInBounds (off + s) v) (by simp; omega)
   refine ⟨by rw [h1]; simp, fun q => ?_⟩
   rw [h2 q]
   by_cases hq : q = off + s
   ·subst hq
    rw [if_neg (by omega), if_pos ⟨Nat.le_refl _, by simp⟩]
    simp [Array.getD, show off + s < cells.size by omega]
   ·by_cases hin : off + (s + 1) ≤ q ∧ q < off + (s + 1) + r.length
    ·rw [if_pos hin, if_pos ⟨by omega, by simp; omega⟩, show q - (off + s) = (q - (off + (s + 1))) + 1 by omega]
     simp
    ·rw [if_neg hin, if_neg (by simp; omega)]
     simp only [Array.getD, Array.size_setIfInBounds]
     split
     ·rw [Array.getInternal_eq_getElem, Array.getInternal_eq_getElem, Array.getElem_setIfInBounds_ne (by assumption) (by omega)]
     ·rfl
theorem putCells_spec (cells vs : Array Value) (off : Nat) (h : off + vs.size ≤ cells.size) :
  (putCells cells off vs).size = cells.size ∧ ∀ q, (putCells cells off vs).getD q undef = if off ≤ q ∧ q < off + vs.size then vs.getD (q - off) undef else cells.getD q undef := by
 unfold putCells
 have e : vs.zipIdx.foldl (fun cs (x : Value × Nat) => cs.setIfInBounds (off + x.2) x.1) cells = (vs.toList.zipIdx 0).foldl (fun cs (x : Value × Nat) => cs.setIfInBounds (off + x.2) x.1) cells := by
  rw [← Array.foldl_toList]; simp
 obtain ⟨h1, h2⟩ := foldl_put off vs.toList 0 cells (by simpa using h)
 refine ⟨?_, fun q => ?_⟩
 ·rw [← h1]; exact congrArg Array.size e
 ·have := h2 q
  rw [← e] at this
  simpa [List.getD, Array.getD_eq_getD_getElem?] using this
def RelC (F : Frz) (m : Pls) (cs : List AVal) (vs : Array Value) : Prop :=
 cs.length = vs.size ∧ ∀ j, j < cs.length → (vs.getD j undef).oneCell' = true ∧ Rel F m (cs.getD j .top) (vs.getD j undef)
theorem fillR_ok {F m} (hg : ∀ g, Rel F m (β.G g) (.pointer (some ⟨g, 0, none⟩))) {a : Tmps} {act : Act} (ht : RelT F m a act.tmps) (fs : Array Field) (place : Nat → Option (Nat × Nat))
  (hp : ∀ i f j, fs[i]? = some f → tyI P f.type = some j → place i = some (f.offset, j.size)) :
  ∀ (parts : List (Nat × Operand)) (ps : List (Bool × Nat × Nat × MOpd)) (cs out : List AVal) (cells : Array Value), cmpParts P β.G fs parts = some ps → fillR cs a ps = some (true, out) → RelC F m cs cells →
   ∃ cells', Instr.fill place cells (parts.map fun (i, x) => (i, act.eval x)) = some cells' ∧ RelC F m out cells'
 | [], ps, cs, out, cells, hc, hf, hr => by
   simp [cmpParts] at hc; subst hc
   simp [fillR] at hf; subst hf
   exact ⟨cells, rfl, hr⟩
 | (i, x) :: r, ps, cs, out, cells, hc, hf, hr => by
   simp only [cmpParts] at hc
   split at hc
   ·rename_i ag off k y l h1 h2 h3
    simp only [Option.some.injEq] at hc
    subst hc
    cases hfi : fs[i]? with
    | none => rw [hfi] at h1; simp at h1
    | some f =>
    rw [hfi] at h1
    simp only [Option.bind_some, Option.map_eq_some_iff] at h1
    obtain ⟨j, hj, h1⟩ := h1
    simp only [Prod.mk.injEq] at h1
    obtain ⟨rfl, rfl, rfl⟩ := h1
    simp only [fillR] at hf
    split at hf
    ·rename_i vs hvs
     split at hf
     ·rename_i s out' hrec
      simp only [Option.some.injEq, Prod.mk.injEq, Bool.and_eq_true, decide_eq_true_eq] at hf
      obtain ⟨⟨⟨⟨rfl, hlen⟩, hone⟩, hle⟩, rfl⟩ := hf
      have ry := rel_od hg ht h2
      obtain ⟨hsz, hcells⟩ := cellsOf_rel hvs hone ry
      obtain ⟨p1, p2⟩ := putCells_spec cells (act.eval x).cells f.offset (by rw [hsz, ← hr.1]; omega)
      have hput : RelC F m (putAt cs f.offset vs) (putCells cells f.offset (act.eval x).cells) := by
       refine ⟨by rw [putAt_len _ _ _ (by omega), p1]; exact hr.1, fun q hq => ?_⟩
       rw [putAt_len _ _ _ (by omega)] at hq
       rw [putAt_get _ _ _ (by omega), p2 q, hsz]
       split
       ·exact hcells _ (by omega)
       ·exact hr.2 q hq
      obtain ⟨cells', hfill, hrel⟩ := fillR_ok hg ht fs place hp r l _ _ _ h3 hrec hput
      refine ⟨cells', ?_, hrel⟩
      simp only [List.map_cons, Instr.fill, hp i f j hfi hj]
      rw [if_neg (by rw [hsz, ← hr.1]; simp; omega)]
      exact hfill
     ·cases hf
    ·cases hf
   ·cases hc
theorem run_places (fs : List Field) (h : ∀ f ∈ fs, (P.info? f.type).isSome = true) (w : World) :
  (fs.mapM (m := Sem) fun f => do pure (f.offset, ← sizeOf f.type)).run P w = .ok (fs.map fun f => (f.offset, P.cellsOf f.type)) w := by
 induction fs with
 | nil => rfl
 | cons f fs ih =>
   obtain ⟨i, hi⟩ := Option.isSome_iff_exists.1 (h f (by simp))
   rw [List.mapM_cons]
   have ih' := ih fun g hg => h g (by simp [hg])
   have hs : (sizeOf f.type).run P w = .ok (P.cellsOf f.type) w := by simp [sizeOf, typeInfo, hi, Program.cellsOf]
   simp only [Sem.run_bind, hs, Result.andThen_ok, Sem.run_pure, ih', List.map_cons]
theorem sound_build {o : Oper} {t : TypeId} {i : TyI} {fs : Array Field} {parts : Array (Nat × Operand)} {ps : List (Bool × Nat × Nat × MOpd)} (ho : o.op = .build t parts) (hd : P.underlying t = some (.struct fs)) (hi : tyI P t = some i)
  (hall : fs.toList.all (fun f => (P.info? f.type).isSome) = true) (hc : cmpParts P β.G fs parts.toList = some ps) : Sound P β o (.build i.z ps) := by
 refine sound_keep fun F m S w a act v S' hs ht hr => ?_
 simp only [MOp.run] at hr
 split at hr
 ·rename_i s cs hf
  simp only [ORes.ok.injEq, Bool.and_eq_true] at hr
  obtain ⟨⟨rfl, _⟩, rfl, rfl⟩ := hr
  have hz : RelC F m i.z i.zero.cells := by
   have hsz : i.zero.cells.size = i.size := by obtain ⟨_, _, _, _, _, _, _, _, h, _⟩ := tyI_spec hi; exact h
   exact ⟨by rw [z_len hi, hsz], fun j hj => ⟨z_one hi j (by rw [← z_len hi]; exact hj), rel_zc j hj⟩⟩
  have hinfo : ∀ f ∈ fs.toList, (P.info? f.type).isSome = true := List.all_eq_true.1 hall
  obtain ⟨cells', hfill, hrel⟩ := fillR_ok (P := P) hs.glob ht fs (fun q => ((fs.map fun f => (f.offset, P.cellsOf f.type))[q]?)) (fun q f j hq hj => by
   obtain ⟨_, inf, _, hinf, _, hsz, _⟩ := tyI_spec hj
   simp [hq, Program.cellsOf, hinf, hsz]) parts.toList ps _ _ _ hc hf hz
  have hpl := run_places (P := P) fs.toList hinfo w
  have hpl' : (fs.mapM (m := Sem) fun f => do pure (f.offset, ← sizeOf f.type)).run P w = .ok (fs.map fun f => (f.offset, P.cellsOf f.type)) w := by
   rw [Array.mapM_eq_mapM_toList, Sem.run_map, hpl]
   simp only [Result.andThen_ok]
   congr 1
   apply Array.ext'
   simp
  refine ⟨rfl, .agg cells', .inl ?_, .agg _ _ hrel.1 (fun j hj => (hrel.2 j hj).1) (fun j hj => (hrel.2 j hj).2)⟩
  simp only [execOp, ho, Instr.build, Sem.run_bind, run_zero hi, Result.andThen_ok, run_underlying hd, hpl']
  have hfill' : Instr.fill (fun x => (fs.map fun f => (f.offset, P.cellsOf f.type))[x]?) i.zero.cells (parts.map fun (i, x) => (i, act.eval x)).toList = some cells' := by
   rw [Array.toList_map]; exact hfill
  rw [hfill']
  rfl
 ·cases hr
theorem sound_buildA {o : Oper} {t e : TypeId} {n : Nat} {i j : TyI} {parts : Array (Nat × Operand)} {ps : List (Bool × Nat × Nat × MOpd)} (ho : o.op = .build t parts) (hd : P.underlying t = some (.array n e)) (hi : tyI P t = some i)
  (hj : tyI P e = some j) (hc : cmpParts P β.G (arrFs e n j.size) parts.toList = some ps) : Sound P β o (.build i.z ps) := by
 refine sound_keep fun F m S w a act v S' hs ht hr => ?_
 simp only [MOp.run] at hr
 split at hr
 ·rename_i s cs hf
  simp only [ORes.ok.injEq, Bool.and_eq_true] at hr
  obtain ⟨⟨rfl, _⟩, rfl, rfl⟩ := hr
  have hz : RelC F m i.z i.zero.cells := by
   have hsz : i.zero.cells.size = i.size := by obtain ⟨_, _, _, _, _, _, _, _, h, _⟩ := tyI_spec hi; exact h
   exact ⟨by rw [z_len hi, hsz], fun j hj => ⟨z_one hi j (by rw [← z_len hi]; exact hj), rel_zc j hj⟩⟩
  obtain ⟨cells', hfill, hrel⟩ := fillR_ok (P := P) hs.glob ht (arrFs e n j.size) (fun q => some (q * j.size, j.size)) (fun q f j' hq hj' => by
   simp only [arrFs, List.getElem?_toArray, List.getElem?_map, Option.map_eq_some_iff] at hq
   obtain ⟨q', hq', rfl⟩ := hq
   rw [List.getElem?_eq_some_iff] at hq'
   obtain ⟨_, hq'⟩ := hq'
   rw [List.getElem_range] at hq'
   subst hq'
   rw [hj] at hj'
   cases hj'
   rfl) parts.toList ps _ _ _ hc hf hz
  refine ⟨rfl, .agg cells', .inl ?_, .agg _ _ hrel.1 (fun j hj => (hrel.2 j hj).1) (fun j hj => (hrel.2 j hj).2)⟩
  simp only [execOp, ho, Instr.build, Sem.run_bind, run_zero hi, Result.andThen_ok, run_underlying hd, run_sizeOf hj]
  have hfill' : Instr.fill (fun q => some (q * j.size, j.size)) i.zero.cells (parts.map fun (i, x) => (i, act.eval x)).toList = some cells' := by
   rw [Array.toList_map]; exact hfill
  rw [hfill']
  rfl
 ·cases hr
end
end Go.Abs
