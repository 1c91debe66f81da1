/- The abstract machine, part 12: slices that are made, appended to, copied and cleared. Conditions: none; lemmas. -/
import Derived.Test.YtdnpmnnidjeifaaGreatDoorA11
namespace Go.Abs
open Go Go.RowKit
section
variable {P : Program} {β : Base}
def RelE (F : Frz) (m : Pls) (k : Nat) (es : List (List AVal)) (vs : Array Value) : Prop :=
 vs.size = es.length * k ∧ (∀ e ∈ es, e.length = k) ∧ ∀ i j, i < es.length → j < k → (vs.getD (i * k + j) undef).oneCell' = true ∧ Rel F m (cellAt es i j) (vs.getD (i * k + j) undef)
theorem idx_lt {i j n k : Nat} (hi : i < n) (hj : j < k) : i * k + j < n * k := by
 have : (i + 1) * k ≤ n * k := Nat.mul_le_mul_right _ (by omega)
 rw [Nat.add_mul] at this; omega
theorem fillS_ok {F m} (hg : ∀ g, Rel F m (β.G g) (.pointer (some ⟨g, 0, none⟩))) {a : Tmps} {act : Act} (ht : RelT F m a act.tmps) {agg : Bool} {k : Nat} :
  ∀ (parts : List (Nat × Operand)) (ps : List (Nat × MOpd)) (es out : List (List AVal)) (cells : Array Value), cmpElems β.G parts = some ps → fillS agg k es a ps = some (true, out) → RelE F m k es cells →
   ∃ cells', Instr.fill (fun i => some (i * k, k)) cells (parts.map fun (i, x) => (i, act.eval x)) = some cells' ∧ RelE F m k out cells' ∧ out.length = es.length
 | [], ps, es, out, cells, hc, hf, hr => by
   simp [cmpElems] at hc; subst hc
   simp [fillS] at hf; subst hf
   exact ⟨cells, rfl, hr, rfl⟩
 | (i, x) :: r, ps, es, out, cells, hc, hf, hr => by
   simp only [cmpElems] at hc
   split at hc
   ·rename_i y l h2 h3
    simp only [Option.some.injEq] at hc
    subst hc
    simp only [fillS] at hf
    split at hf
    ·rename_i vs hvs
     split at hf
     ·rename_i s out' hrec
      simp only [Option.some.injEq, Prod.mk.injEq, Bool.and_eq_true, decide_eq_true_eq] at hf
      obtain ⟨⟨⟨⟨rfl, hlen⟩, hone⟩, hlt⟩, rfl⟩ := hf
      have ry := rel_od hg ht h2
      obtain ⟨hsz, hcells⟩ := cellsOf_rel hvs hone ry
      obtain ⟨r1, r2, r3⟩ := hr
      have hle : i * k + (act.eval x).cells.size ≤ cells.size := by
       have : (i + 1) * k ≤ es.length * k := Nat.mul_le_mul_right _ (by omega)
       rw [Nat.add_mul] at this; omega
      obtain ⟨p1, p2⟩ := putCells_spec cells (act.eval x).cells (i * k) hle
      have hput : RelE F m k (es.set i vs) (putCells cells (i * k) (act.eval x).cells) := by
       refine ⟨by rw [p1]; simpa using r1, fun e he => ?_, fun p j hp hj => ?_⟩
       ·rcases List.mem_or_eq_of_mem_set he with h | h
        ·exact r2 e h
        ·rw [h]; exact hlen
       ·have hp' : p < es.length := by simpa using hp
        rw [p2 (p * k + j), hsz]
        by_cases hpi : p = i
        ·subst hpi
         rw [if_pos ⟨by omega, by omega⟩, cellAt_set_self _ _ _ _ hp', show p * k + j - p * k = j by omega]
         exact hcells j (by omega)
        ·rw [cellAt_set_ne _ _ _ _ _ (fun h => hpi h.symm), if_neg ?_]
         ·exact r3 p j hp' hj
         ·rcases Nat.lt_or_ge p i with h | h
          ·have := idx_lt h hj; omega
          ·have : (i + 1) * k ≤ p * k := Nat.mul_le_mul_right _ (by omega)
           rw [Nat.add_mul] at this; omega
      obtain ⟨cells', hfill, hrel, hol⟩ := fillS_ok hg ht r l _ _ _ h3 hrec hput
      refine ⟨cells', ?_, hrel, by rw [hol]; simp⟩
      simp only [List.map_cons, Instr.fill]
      rw [if_neg (by rw [hsz]; simp; omega)]
      exact hfill
     ·cases hf
    ·cases hf
   ·cases hc
theorem relE_zero {F m} {t : TypeId} {i : TyI} (hi : tyI P t = some i) (n : Nat) : RelE F m i.size (List.replicate n i.z) ((Array.range (n * i.size)).map (i.zero.cells[· % i.zero.cells.size]!)) := by
 obtain ⟨_, _, _, _, _, _, _, _, hsz, _, hpos⟩ := tyI_spec hi
 refine ⟨by simp, fun e he => by rw [List.eq_of_mem_replicate he, z_len hi], fun p j hp hj => ?_⟩
 have hp' : p < n := by simpa using hp
 have hlt := idx_lt hp' hj
 have hmod : (p * i.size + j) % i.size = j := by rw [Nat.mul_comm, Nat.mul_add_mod]; exact Nat.mod_eq_of_lt hj
 have e1 : ((Array.range (n * i.size)).map (i.zero.cells[· % i.zero.cells.size]!)).getD (p * i.size + j) undef = i.zero.cells.getD j undef := by
  rw [agetD_eq _ _ _ (by simpa using hlt)]
  simp only [Array.getElem_map, Array.getElem_range, hsz, hmod]
  rw [agetD_eq _ _ _ (by omega), getElem!_pos i.zero.cells j (by omega)]
 have e2 : cellAt (List.replicate n i.z) p j = i.z.getD j .top := by
  simp [cellAt, List.getD, hp']
 rw [e1, e2]
 exact ⟨z_one hi j hj, rel_zc j (by rw [z_len hi]; exact hj)⟩
theorem relE_frz {F m S w} (hs : Sim β F m S w) {k : Nat} {es : List (List AVal)} {arr : Array Value} (hr : RelE F m k es arr) (hk0 : 0 < k) (fl : Fl) (hfl : fl ≠ .nil) (cap : Nat) (extra : Array Value) (hcap : es.length ≤ cap) (hfull : fl.isFull = true → cap = es.length) :
  Rel (F.add w.heap.size (arr ++ extra)) m (.list fl es) (.slice (some ⟨w.heap.size, 0, none⟩) es.length cap) := by
 obtain ⟨r1, r2, r3⟩ := hr
 refine .list fl es _ _ cap w.heap.size 0 k (fun i j => arr.getD (i * k + j) undef) hfl rfl hcap hfull r2 hk0 (fun _ => rfl) (fun h => by cases h) (fun _ => rfl) (fun i j hi hj => (r3 i j hi hj).1) (fun i j hi hj => ?_)
  (fun i j hi hj => (r3 i j hi hj).2.mono (hs.ext_add _))
 have hlt : i * k + j < arr.size := by rw [r1]; exact idx_lt hi hj
 simp only [Frz.add, Nat.zero_add, if_true]
 rw [Array.getElem?_append_left hlt, agetD_eq _ _ _ hlt]
 exact Array.getElem?_eq_getElem hlt
theorem sound_bslice {o : Oper} {t e : TypeId} {i : TyI} {n : Nat} {parts : Array (Nat × Operand)} {ps : List (Nat × MOpd)} (ho : o.op = .buildSlice t n parts) (hd : P.underlying t = some (.slice e)) (hi : tyI P e = some i)
  (hc : cmpElems β.G parts.toList = some ps) : Sound P β o (.bslice i.agg i.size n i.z ps) := by
 intro F m S w a act v S' hs ht hr
 simp only [MOp.run] at hr
 split at hr
 ·rename_i s es hf
  simp only [ORes.ok.injEq, Bool.and_eq_true, decide_eq_true_eq] at hr
  obtain ⟨⟨⟨⟨⟨rfl, _⟩, hpos⟩, _⟩, hbig⟩, rfl, rfl⟩ := hr
  obtain ⟨cells', hfill, hrel, hol⟩ := fillS_ok hs.glob ht parts.toList ps _ _ _ hc hf (relE_zero (P := P) hi n)
  have hn : es.length = n := by simpa using hol
  refine ⟨.slice (some ⟨w.heap.size, 0, none⟩) n n, _, _, m, .inl ?_, hs.ext_add cells', hs.allocFrz cells' e, ?_⟩
  ·have hfill' : Instr.fill (fun j => some (j * i.size, i.size)) ((Array.range (n * i.size)).map (i.zero.cells[· % i.zero.cells.size]!)) (parts.map fun (j, x) => (j, act.eval x)).toList = some cells' := by
    rw [Array.toList_map]; exact hfill
   have hbig' : ¬ n * i.size > 2 ^ 24 := by omega
   simp only [execOp, ho, Instr.buildSlice, Sem.run_bind, run_underlying hd, Result.andThen_ok, run_sizeOf hi, if_neg hbig']
   by_cases h0 : n * i.size = 0
   ·have hz : (Array.range (n * i.size)).map ((#[] : Array Value)[· % (#[] : Array Value).size]!) = (Array.range (n * i.size)).map (i.zero.cells[· % i.zero.cells.size]!) := by rw [h0]; simp
    simp only [h0, if_true, Sem.run_pure, Result.andThen_ok, Sem.run_bind]
    rw [h0] at hz hfill'
    rw [hz, hfill']
    rfl
   ·simp only [if_neg h0, Sem.run_bind, run_zero hi, Result.andThen_ok, Sem.run_pure]
    rw [hfill']
    rfl
  ·have := relE_frz hs hrel hpos .full (by simp) n #[] (by omega) (fun _ => hn.symm)
   simp only [Array.append_empty] at this
   rwa [hn] at this
 ·cases hr
theorem sound_brow {o : Oper} {t e : TypeId} {i : TyI} {n : Nat} {parts : Array (Nat × Operand)} {ps : List (Nat × MOpd)} (ho : o.op = .buildSlice t n parts) (hd : P.underlying t = some (.slice e)) (hi : tyI P e = some i)
  (hc : cmpElems β.G parts.toList = some ps) : Sound P β o (.brow i.agg i.size n i.z ps) := by
 intro F m S w a act v S' hs ht hr
 simp only [MOp.run] at hr
 split at hr
 ·rename_i s es hf
  simp only [ORes.ok.injEq, Bool.and_eq_true, decide_eq_true_eq] at hr
  obtain ⟨⟨⟨⟨⟨rfl, _⟩, hpos⟩, _⟩, hbig⟩, rfl, rfl⟩ := hr
  obtain ⟨cells', hfill, hrel, hol⟩ := fillS_ok hs.glob ht parts.toList ps _ _ _ hc hf (relE_zero (P := P) hi n)
  have hn : es.length = n := by simpa using hol
  obtain ⟨r1, r2, r3⟩ := hrel
  have hsim := hs.allocRow cells' e i.size n es (some n) hpos (by rw [r1, hn]) (by omega) (fun c hc => by simpa using hc) r2 r3
  refine ⟨.slice (some ⟨w.heap.size, 0, none⟩) n n, _, F, _, .inl ?_, Ext.put hs _, hsim, .row S.length 0 n _ n ⟨w.heap.size, 0, i.size, n⟩ (by simp [Pls.put]) (by omega) (by simp) (fun _ => by simp) (fun _ => rfl)⟩
  have hfill' : Instr.fill (fun j => some (j * i.size, i.size)) ((Array.range (n * i.size)).map (i.zero.cells[· % i.zero.cells.size]!)) (parts.map fun (j, x) => (j, act.eval x)).toList = some cells' := by
   rw [Array.toList_map]; exact hfill
  have hbig' : ¬ n * i.size > 2 ^ 24 := by omega
  simp only [execOp, ho, Instr.buildSlice, Sem.run_bind, run_underlying hd, Result.andThen_ok, run_sizeOf hi, if_neg hbig']
  by_cases h0 : n * i.size = 0
  ·have hz : (Array.range (n * i.size)).map ((#[] : Array Value)[· % (#[] : Array Value).size]!) = (Array.range (n * i.size)).map (i.zero.cells[· % i.zero.cells.size]!) := by rw [h0]; simp
   simp only [h0, if_true, Sem.run_pure, Result.andThen_ok, Sem.run_bind]
   rw [h0] at hz hfill'
   rw [hz, hfill']
   rfl
  ·simp only [if_neg h0, Sem.run_bind, run_zero hi, Result.andThen_ok, Sem.run_pure]
   rw [hfill']
   rfl
 ·cases hr
end
end Go.Abs
