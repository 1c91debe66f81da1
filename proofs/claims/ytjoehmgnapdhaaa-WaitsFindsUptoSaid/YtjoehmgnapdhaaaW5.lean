/- The walk of slices.Sort over a row of one's own, by the library's contract. Conditions: the length; lemmas. -/
import Derived.Test.YtjoehmgnapdhaaaW4
import Derived.Test.YtjoehmgnapdhaaaV1
import Derived.Lib.RowBridge
set_option linter.unusedSimpArgs false
set_option linter.unusedVariables false
namespace Go.Abs
open Go Go.RowKit Go.Proofs
variable {β : Base}

def sortI (l : List Int) : List Int := l.mergeSort fun x y => decide (x ≤ y)

theorem Sim.sameHeap {F m S w w'} (hs : Sim β F m S w) (h1 : w'.os = w.os) (h2 : w'.tape = w.tape) (h3 : w'.output = w.output) (h4 : w.heap.size ≤ w'.heap.size) (h5 : ∀ k, k < w.heap.size → w'.heap[k]? = w.heap[k]?) : Sim β F m S w' :=
  hs.more ⟨h1, h2, h3, h4, h5⟩

theorem w35 {S : Heap} {id : Nat} {l : List Int} {cap : Option Nat} (h : S[id]? = some (.cells 1 (ints l) cap)) (hl : l.length ≤ 4194304) :
    ACalls Try.prog β 35 [.row id 0 l.length] S fun e S' => e = .ret (.tuple []) ∧ S' = S.set id (.cells 1 (ints (sortI l)) cap) := by
  refine ⟨by kernel_rfl, fun F m w vs hs hv => ?_⟩
  obtain ⟨hsz, hget⟩ := hv
  have h0 := hget 0 (by simp)
  obtain ⟨v, rfl⟩ : ∃ v, vs = #[v] := by
    obtain ⟨vl⟩ := vs
    match vl, hsz with
    | [v], _ => exact ⟨v, rfl⟩
  simp only [List.getD_cons_zero] at h0
  have h0 : Rel F m (.row id 0 l.length) v := h0
  cases h0 with
  | row _ _ _ A c p hm hle hc hA hN =>
    obtain ⟨q, hq, hok⟩ := hs.objs id _ h
    obtain rfl := Option.some.inj (hm.symm.trans hq)
    obtain ⟨hk, h2, h3, h4, h5, h6, h7, h8⟩ := hok
    cases hL : l with
    | nil =>
      subst hL
      refine (Try.slices_Sort_int_none A c w).mono fun e w' ⟨he, hw⟩ => ?_
      subst hw
      subst he
      refine ⟨.ret (.tuple []), F, m, S, Ext.refl F m, hs, rel_undef, rfl, ?_⟩
      rw [show sortI [] = [] by simp [sortI]]
      exact (set_same h).symm
    | cons x r =>
      rw [← hL]
      have hpos : 0 < l.length := by rw [hL]; simp
      have hA' := hA (by omega)
      rw [hk] at hA'
      subst hA'
      have hH : Sort.Holds (Value.int .i64) w p.b (p.o + 0 * 1) l.toArray := by
        intro j hj
        have hj' : j < l.length := by simpa using hj
        obtain ⟨u, hu, _, hr⟩ := h8 j 0 (by simpa using hj') (by omega)
        have hcell : cellAt (ints l) j 0 = .int l[j] := by simp only [cellAt, ints_get _ _ hj']; rfl
        rw [hcell] at hr
        have hfz := (h7 (p.o + j) (by omega) (by have := h5; simp at this; omega)).2.1
        rw [hr.atom_eq] at hu
        refine ⟨?_, by simpa using hfz⟩
        simpa [getElem!_pos, hj'] using hu
      have hblk : p.b < w.heap.size := by
        obtain ⟨u, hu, _, _⟩ := h8 0 0 (by simpa using hpos) (by omega)
        exact World.block_lt_of_cell? w _ hu
      refine (Try.slices_Sort_int p.b (p.o + 0 * 1) c l w hH hblk (by omega)).mono fun e w' ⟨he, n, os, hw⟩ => ?_
      subst he
      subst hw
      have hlen : (sortI l).length = l.length := by simp [sortI]
      have e1 : Sort.putRow (Value.int .i64) (Sort.ahead w n) p.b (p.o + 0 * 1) (l.mergeSort fun x y => decide (x ≤ y)).toArray = (w.drewN n).setCells p.b (p.o + 0 * 1) ((sortI l).map (Value.int .i64)) :=
        Lib.putRow_eq_setCells _ w p.b (p.o + 0 * 1) l.toArray (sortI l) n hH (by simpa using hlen)
      rw [e1]
      have hs1 : Sim β F m S (w.drewN n) := hs.sameHeap rfl rfl rfl (Nat.le_refl _) (fun _ _ => rfl)
      have hrel : RelE F m 1 (ints (sortI l)) ((sortI l).map (Value.int .i64)).toArray := by
        refine ⟨by simp, fun e he => ?_, fun i j hi hj => ?_⟩
        · simp only [ints, List.mem_map] at he
          obtain ⟨i, _, rfl⟩ := he
          rfl
        · have hi' : i < (sortI l).length := by simpa using hi
          have : j = 0 := by omega
          subst this
          have hcell : cellAt (ints (sortI l)) i 0 = .int (sortI l)[i] := by simp only [cellAt, ints_get _ _ hi']; rfl
          rw [hcell, agetD_eq _ _ _ (by simpa using hi')]
          simp only [Nat.mul_one, Nat.add_zero, List.getElem_toArray, List.getElem_map]
          exact ⟨rfl, .atom _⟩
      have hs2 := (hs1.rewriteE (P := Try.prog) h hm 0 hrel (by simp [hlen])).2
      have e2 : (ints l).take 0 ++ ints (sortI l) ++ (ints l).drop (0 + (ints (sortI l)).length) = ints (sortI l) := by
        simp [hlen]
      rw [e2] at hs2
      have hs3 : Sim β F m (S.set id (.cells 1 (ints (sortI l)) cap)) (Sort.grow ((w.drewN n).setCells p.b (p.o + 0 * 1) ((sortI l).map (Value.int .i64))) os) :=
        hs2.sameHeap rfl rfl rfl (by simp) (fun k hk => Sort.heap_grow_old _ os hk)
      exact ⟨.ret (.tuple []), F, m, _, Ext.refl F m, hs3, rel_undef, rfl, rfl⟩
end Go.Abs
