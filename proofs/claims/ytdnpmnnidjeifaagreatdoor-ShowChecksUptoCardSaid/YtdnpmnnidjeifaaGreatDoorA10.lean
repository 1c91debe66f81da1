/- The abstract machine, part 10: stores, variables, literals. Conditions: none; lemmas. -/
import Derived.Test.YtdnpmnnidjeifaaGreatDoorA9
namespace Go.Abs
open Go Go.RowKit
section
variable {P : Program} {β : Base}
theorem putAt_len (e cs : List AVal) (j : Nat) (h : j + cs.length ≤ e.length) : (putAt e j cs).length = e.length := by
 unfold putAt
 split
 ·simp
 ·simp [splice]; omega
theorem putAt_get (e cs : List AVal) (j : Nat) (h : j + cs.length ≤ e.length) (q : Nat) :
  (putAt e j cs).getD q .top = if j ≤ q ∧ q < j + cs.length then cs.getD (q - j) .top else e.getD q .top := by
 unfold putAt
 split
 ·rename_i c
  simp at h
  by_cases hq : q = j
  ·subst hq
   rw [if_pos ⟨Nat.le_refl _, by simp⟩]
   simp [List.getD, List.getElem?_set_self (show q < e.length by omega)]
  ·rw [if_neg (by simp; omega)]
   simp [List.getD, List.getElem?_set_ne (show j ≠ q by omega)]
 ·unfold splice
  simp only [List.getD]
  have hl1 : (e.take j).length = j := by simp; omega
  rw [List.append_assoc]
  by_cases h1 : q < j
  ·rw [List.getElem?_append_left (by omega), if_neg (by omega), List.getElem?_take_of_lt h1]
  ·rw [List.getElem?_append_right (by omega), hl1]
   by_cases h2 : q < j + cs.length
   ·rw [List.getElem?_append_left (by omega), if_pos ⟨by omega, h2⟩]
   ·rw [List.getElem?_append_right (by omega), if_neg (by omega), List.getElem?_drop]
    congr 2; omega
theorem cellsOf_rel {F m} {agg : Bool} {y : AVal} {cs : List AVal} {v : Value} (h : cellsOf agg y = some cs) (h1 : cs.all AVal.one = true) (r : Rel F m y v) :
  v.cells.size = cs.length ∧ (∀ j, j < cs.length → (v.cells.getD j undef).oneCell' = true ∧ Rel F m (cs.getD j .top) (v.cells.getD j undef)) := by
 unfold cellsOf at h
 split at h
 ·split at h
  ·simp only [Option.some.injEq] at h
   subst h
   cases r with
   | agg _ vs hl ho hr => exact ⟨hl.symm, fun j hj => ⟨ho j hj, hr j hj⟩⟩
  ·cases h
 ·split at h
  ·cases h
  ·simp only [Option.some.injEq] at h
   subst h
   have ho : v.oneCell' = true := r.one (by simpa using h1)
   have hv : v.cells = #[v] := by cases v <;> first | rfl | cases ho
   rw [hv]
   exact ⟨rfl, fun j hj => by
    have : j = 0 := by simpa using hj
    subst this; exact ⟨ho, r⟩⟩
theorem cellAt_set_self (es : List (List AVal)) (i j : Nat) (e : List AVal) (h : i < es.length) : cellAt (es.set i e) i j = e.getD j .top := by
 simp [cellAt, List.getD, List.getElem?_set_self h]
theorem cellAt_set_ne (es : List (List AVal)) (i i' j : Nat) (e : List AVal) (h : i ≠ i') : cellAt (es.set i e) i' j = cellAt es i' j := by
 simp [cellAt, List.getD, List.getElem?_set_ne h]
theorem sound_store {o : Oper} {t : TypeId} {i : TyI} {x y : Operand} {x' y' : MOpd} (ho : o.op = .store t x y) (hi : tyI P t = some i) (hx : od β.G x = some x') (hy : od β.G y = some y') :
  Sound P β o (.store i.agg i.size x' y') := by
 intro F m S w a act v S' hs ht hr
 have rx := rel_od hs.glob ht hx
 have ry := rel_od hs.glob ht hy
 simp only [MOp.run, storeR] at hr
 generalize hv : act.eval x = u at rx
 split at hr
 ·rename_i id p j cs hb hcs
  rw [hb] at rx
  split at hr
  ·rename_i k es cp hS
   simp only [ORes.ok.injEq, Bool.and_eq_true, decide_eq_true_eq] at hr
   obtain ⟨⟨⟨⟨hone, hlen⟩, hlt⟩, hjk⟩, rfl, rfl⟩ := hr
   cases rx with
   | ptr _ _ _ q hm =>
     obtain ⟨hsz, hcells⟩ := cellsOf_rel hcs hone ry
     obtain ⟨q', hq', hok⟩ := hs.objs id _ hS
     obtain rfl := Option.some.inj (hm.symm.trans hq')
     obtain ⟨hk, h2, h3, h4, h5, h6, h7, h8⟩ := hok
     have hbl : (p + 1) * k ≤ q.cap * k := Nat.mul_le_mul_right _ (by omega)
     rw [Nat.add_mul] at hbl
     have hst := run_storeCells_cells (P := P) q.b (q.o + (p * q.k + j)) (act.eval y).cells.toList 0 w (fun j' hj' => by
       have hj' : j' < (act.eval y).cells.size := by simpa using hj'
       obtain ⟨⟨u, hu⟩, _⟩ := h7 (q.o + (p * q.k + j) + j') (by omega) (by rw [hk]; omega)
       simp only [Nat.add_zero]; rw [hu]; rfl) (fun j' hj' => by
       have hj' : j' < (act.eval y).cells.size := by simpa using hj'
       simp only [Nat.add_zero]
       exact (h7 (q.o + (p * q.k + j) + j') (by omega) (by rw [hk]; omega)).2.1) (fun u hu => by
       obtain ⟨j', hj', rfl⟩ := List.getElem_of_mem hu
       have hj'' : j' < cs.length := by simpa [hsz] using hj'
       have := (hcells j' hj'').1
       rwa [agetD_eq _ _ _ (by omega)] at this)
     simp only [Nat.add_zero] at hst
     let e' : List AVal := if i.size = k then cs else putAt (es.getD p []) j cs
     have hel : (es.getD p []).length = k := elem_len h6 hlt
     have he'len : e'.length = k := by
      simp only [e']
      split
      ·omega
      ·rw [putAt_len _ _ _ (by omega)]; exact hel
     have he'get : ∀ q', q' < k → e'.getD q' .top = if j ≤ q' ∧ q' < j + cs.length then cs.getD (q' - j) .top else (es.getD p []).getD q' .top := fun q' hq' => by
      simp only [e']
      split
      ·have : j = 0 := by omega
       subst this
       rw [if_pos ⟨by omega, by omega⟩]; simp
      ·exact putAt_get _ _ _ (by omega) _
     have hsim := hs.rewrite (es' := es.set p e') hS hm (q.o + (p * q.k + j)) (act.eval y).cells.toList (by omega) (by simp only [Array.length_toList, hsz, hk]; omega) (by simpa using h5)
      (fun e he => by
       rcases List.mem_or_eq_of_mem_set he with h | h
       ·exact h6 e h
       ·rw [h]; exact he'len)
      (fun i' j' hi' hj' => by
       have hi2 : i' < es.length := by simpa using hi'
       obtain ⟨u, hu, h1, hr⟩ := h8 i' j' hi2 hj'
       by_cases hip : i' = p
       ·subst hip
        rw [cellAt_set_self _ _ _ _ hi2, he'get j' hj']
        by_cases hin : j ≤ j' ∧ j' < j + cs.length
        ·rw [if_pos hin]
         have hq2 : j' - j < cs.length := by omega
         have := World.cell?_setCells_in q.b (act.eval y).cells.toList (q.o + (i' * q.k + j)) w (fun j'' hj'' => by
          have hj'' : j'' < (act.eval y).cells.size := by simpa using hj''
          obtain ⟨⟨u, hu⟩, _⟩ := h7 (q.o + (i' * q.k + j) + j'') (by omega) (by rw [hk]; omega)
          rw [hu]; rfl) (j' - j) (by simpa [hsz] using hq2)
         rw [show q.o + (i' * q.k + j) + (j' - j) = q.o + (i' * k + j') by rw [hk]; omega] at this
         obtain ⟨c1, c2⟩ := hcells (j' - j) hq2
         rw [agetD_eq _ _ _ (by omega)] at c1 c2
         exact ⟨_, this, c1, c2⟩
        ·rw [if_neg hin]
         refine ⟨u, ?_, h1, hr⟩
         rw [World.cell?_setCells_out _ _ _ _ _ (fun _ _ => ?_)]
         ·exact hu
         ·simp only [Array.length_toList, hsz, hk]; omega
       ·rw [cellAt_set_ne _ _ _ _ _ (fun h => hip h.symm)]
        refine ⟨u, ?_, h1, hr⟩
        rw [World.cell?_setCells_out _ _ _ _ _ (fun _ _ => ?_)]
        ·exact hu
        ·simp only [Array.length_toList, hsz, hk]
         rcases Nat.lt_or_ge i' p with h | h
         ·have : (i' + 1) * k ≤ p * k := Nat.mul_le_mul_right _ h
          rw [Nat.add_mul] at this; omega
         ·have : (p + 1) * k ≤ i' * k := Nat.mul_le_mul_right _ (by omega)
          rw [Nat.add_mul] at this; omega)
     refine ⟨undef, _, F, m, .inr ⟨?_, rfl⟩, Ext.refl F m, hsim, .tuple [] #[] rfl (fun i hi => by simp at hi)⟩
     have hne : ¬ (act.eval y).cells.size ≠ i.size := by omega
     simp [execOp, ho, Instr.storeAt, hv, Instr.sureAddr, storeVar, run_sizeOf hi, hsz, hlen, hst]
  ·cases hr
 ·cases hr
theorem rel_zc {F m} {i : TyI} : ∀ j, j < i.z.length → Rel F m (i.z.getD j .top) (i.zero.cells.getD j undef) := rel_cells i.zero.cells
theorem z_len {t : TypeId} {i : TyI} (h : tyI P t = some i) : i.z.length = i.size := by
 obtain ⟨_, _, _, _, _, _, _, _, h, _⟩ := tyI_spec h
 simp [TyI.z, h]
theorem z_one {t : TypeId} {i : TyI} (h : tyI P t = some i) : ∀ j, j < i.size → (i.zero.cells.getD j undef).oneCell' = true := fun j hj => by
 obtain ⟨_, _, _, _, _, _, _, _, h1, h2, _⟩ := tyI_spec h
 rw [agetD_eq _ _ _ (by omega)]
 simp only [cellsOk, List.all_eq_true, Array.mem_toList_iff] at h2
 exact h2 _ (Array.getElem_mem _)
theorem sound_alloc {o : Oper} {t : TypeId} {i : TyI} (ho : o.op = .alloc t) (hi : tyI P t = some i) : Sound P β o (.alloc i.size i.z) := by
 intro F m S w a act v S' hs _ hr
 simp only [MOp.run, ORes.ok.injEq, Bool.and_eq_true, decide_eq_true_eq] at hr
 obtain ⟨⟨⟨hz, hpos⟩, _⟩, rfl, rfl⟩ := hr
 have hsz : i.zero.cells.size = i.size := by obtain ⟨_, _, _, _, _, _, _, _, h, _⟩ := tyI_spec hi; exact h
 have hsim := hs.allocRow i.zero.cells t i.size 1 [i.z] (some 1) hpos (by omega) (by simp) (fun c hc => by simpa using hc) (fun e he => by simp at he; subst he; exact hz) (fun p j hp hj => by
  have : p = 0 := by simpa using hp
  subst this
  simp only [Nat.zero_mul, Nat.zero_add, cellAt]
  exact ⟨z_one hi j hj, rel_zc j (by omega)⟩)
 refine ⟨_, _, F, _, .inl ?_, Ext.put hs _, hsim, .ptr S.length 0 0 ⟨w.heap.size, 0, i.size, 1⟩ (by simp [Pls.put])⟩
 simp [execOp, ho, Instr.alloc, run_zero hi, newVar, newRow]
theorem sound_box {o : Oper} {t : TypeId} {i : TyI} {x : Operand} {x' : MOpd} (ho : o.op = .box t x) (_ : tyI P t = some i) (hx : od β.G x = some x') : Sound P β o (.box i.agg i.size x') := by
 intro F m S w a act v S' hs ht hr
 have rx := rel_od hs.glob ht hx
 simp only [MOp.run] at hr
 split at hr
 ·rename_i cs hcs
  simp only [ORes.ok.injEq, Bool.and_eq_true, decide_eq_true_eq] at hr
  obtain ⟨⟨⟨hz, hpos⟩, hone⟩, rfl, rfl⟩ := hr
  obtain ⟨hsz, hcells⟩ := cellsOf_rel hcs hone rx
  have hsim := hs.allocRow (act.eval x).cells t i.size 1 [cs] (some 1) hpos (by omega) (by simp) (fun c hc => by simpa using hc) (fun e he => by simp at he; subst he; exact hz) (fun p j hp hj => by
   have : p = 0 := by simpa using hp
   subst this
   simp only [Nat.zero_mul, Nat.zero_add, cellAt]
   exact hcells j (by omega))
  refine ⟨_, _, F, _, .inl ?_, Ext.put hs _, hsim, .ptr S.length 0 0 ⟨w.heap.size, 0, i.size, 1⟩ (by simp [Pls.put])⟩
  simp [execOp, ho, Instr.box, newVar, newRow]
 ·cases hr
end
end Go.Abs
