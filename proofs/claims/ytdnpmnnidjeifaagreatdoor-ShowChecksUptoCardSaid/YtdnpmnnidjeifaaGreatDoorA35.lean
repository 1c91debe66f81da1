/- The abstract machine, part 35: it runs, with some calls known by their contracts, which may look at the heap. Conditions: none; definitions and lemmas. -/
import Derived.Test.YtdnpmnnidjeifaaGreatDoorA33
namespace Go.Abs
open Go Go.RowKit
def callZ (ext : FuncId → List AVal → Heap → Option AVal) (tbl : FuncId → Option AFn) : Nat → CallX
 | 0, _, _, _ => none
 | n + 1, f, args, S => match ext f args S with
   | some v => some [(.ret v, S)]
   | none => match tbl f with
     | none => none
     | some fn => if args.length ≤ fn.nt then match execC (callZ ext tbl n) n fn.mc (enum 0 args) S with
       | none => none
       | some l => (resAll fn.res S l).map onceX
       else none
theorem callZ_sound {P : Program} {β : Base} (hm : P.follows .mixedOrders = true) {ext : FuncId → List AVal → Heap → Option AVal} (he : ∀ f args S v, ext f args S = some v → ACalls P β f args S fun e S' => e = .ret v ∧ S' = S)
  {tbl : FuncId → Option AFn} (ht : ∀ f fn, tbl f = some fn → ∃ rows, cmpFn P β.G rows f = some fn) : ∀ n, CallSound (ACalls P β) (callZ ext tbl n)
 | 0 => fun f args S outs h => by simp [callZ] at h
 | n + 1 => fun f args S outs h R hR => by
   simp only [callZ] at h
   split at h
   ·rename_i v hx
    simp only [Option.some.injEq] at h
    subst h
    refine (he f args S v hx).use ?_
    rintro e S' ⟨rfl, rfl⟩
    exact hR _ (List.mem_singleton.2 rfl)
   split at h
   ·cases h
   ·rename_i fn hf
    obtain ⟨rows, hc⟩ := ht f fn hf
    split at h
    ·rename_i hle
     split at h
     ·cases h
     ·rename_i l hx
      simp only [Option.map_eq_some_iff] at h
      obtain ⟨l', hl', rfl⟩ := h
      have h1 : ACalls P β f args S fun e S' => ∃ o, o = (e, S') ∧ gcX S o ∈ onceX l' := by
       refine fn_sound hm hc hle (execC_wp (callZ_sound hm he ht n) n fn.mc hx fun o ho => ?_)
       obtain ⟨o', h1, h2⟩ := resAll_spec hl' o ho
       exact resX_post h1 ⟨o', rfl, onceX_mem _ h2⟩
      refine h1.close fun e S' ⟨o, ho, hm⟩ => ?_
      have := hR _ hm
      subst ho
      unfold gcX at this
      split at this
      ·rename_i hh
       simp only [Bool.and_eq_true] at hh
       exact .flat (sameH_eq hh.2) hh.1 this
      ·exact .keep this
    ·cases h
theorem ACalls.liftS {P : Program} {β : Base} {f : FuncId} {args : List AVal} {S : Heap} {v : AVal} (hcal : callable P f = true)
  (h : ∀ (F : Frz) (m : Pls) (vs : Array Value) (w : World), Sim β F m S w → RelL F m args vs → Calls P f vs w fun e w' => ∃ u, e = .returned u ∧ Rel F m v u ∧ Below w.heap.size w w') :
  ACalls P β f args S fun e S' => e = .ret v ∧ S' = S :=
 ⟨hcal, fun F m w vs hs hv => (h F m vs w hs hv).mono fun e w' ⟨u, he, hr, hb⟩ => by
  subst he
  exact ⟨.ret v, F, m, S, Ext.refl F m, hs.more hb, hr, rfl, rfl⟩⟩
end Go.Abs
