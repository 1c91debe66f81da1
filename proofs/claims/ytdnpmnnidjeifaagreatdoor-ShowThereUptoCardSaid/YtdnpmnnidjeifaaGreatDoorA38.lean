/- The abstract machine, part 38: a row is frozen, wherever it is held. Conditions: none; definitions and lemmas. -/
import Derived.Test.YtdnpmnnidjeifaaGreatDoorA37
namespace Go.Abs
open Go Go.RowKit
def AObj.fz (id : Nat) (es : List (List AVal)) : AObj → AObj
 | .cells k rows cap => .cells k (rows.map (fzL id es)) cap
 | .map kvs clock => .map (kvs.map fun e => { e with key := e.key.fz id es,val := e.val.fz id es }) clock
 | o => o
theorem fzL_len {id : Nat} {es : List (List AVal)} (l : List AVal) : (fzL id es l).length = l.length := by rw [fzL_eq]; simp
theorem fzL_get {id : Nat} {es : List (List AVal)} (l : List AVal) (i : Nat) (hi : i < l.length) : (fzL id es l).getD i .top = (l.getD i .top).fz id es := by
 rw [fzL_eq,getD_eq _ _ _ (by simpa using hi),getD_eq _ _ _ hi]; simp
theorem AObj.fz_owns {id : Nat} {es : List (List AVal)} {o : AObj} {p : Pl} {b x : Nat} : (o.fz id es).owns p b x ↔ o.owns p b x := by cases o <;> exact Iff.rfl
theorem AObj.ok.fz {F m B w p} {id : Nat} {es : List (List AVal)} (hf : ∀ off len v,off + len ≤ es.length → Rel F m (.row id off len) v → Rel F m (.list .unk ((es.drop off).take len)) v) {o : AObj} (h : o.ok F m B w p) : (o.fz id es).ok F m B w p := by
 have hr : ∀ {a : AVal} {v : Value},Rel F m a v → Rel F m (a.fz id es) v := fun h => Rel.fz (Ext.refl F m) hf h
 cases o with
 | cells k rows cap =>
   obtain ⟨rfl,h2,h3,h4,h5,h6,h7,h8⟩ := h
   refine ⟨rfl,h2,h3,h4,by simpa using h5,fun e he => ?_,h7,fun i j hi hj => ?_⟩
   ·obtain ⟨e',he',rfl⟩ := List.mem_map.1 he
    rw [fzL_len]; exact h6 e' he'
   ·have hi' : i < rows.length := by simpa using hi
    obtain ⟨v,hv,h1,hrel⟩ := h8 i j hi' hj
    refine ⟨v,hv,h1,?_⟩
    unfold cellAt at hrel ⊢
    have e1 : (rows.map (fzL id es)).getD i [] = fzL id es rows[i] := by rw [getD_eq _ _ _ hi]; simp
    rw [e1,fzL_get _ _ (by rw [h6 _ (List.getElem_mem hi')]; exact hj)]
    rw [getD_eq _ _ _ hi'] at hrel
    exact hr hrel
 | map kvs clock =>
   obtain ⟨h1,es',h2,h3,h4⟩ := h
   refine ⟨h1,es',h2,by simpa using h3,fun i hi => ?_⟩
   have hi' : i < kvs.length := by simpa using hi
   have := h4 i hi'
   rw [getD_eq _ _ _ hi'] at this
   rw [getD_eq _ _ _ hi]
   simp only [List.getElem_map]
   exact ⟨hr this.1,this.2.1,hr this.2.2⟩
 | mapIter mid since seen stepped => exact h
 | strIter s pos => exact h
 | dead => exact h
theorem Sim.mapfz {β F m S w} (hs : Sim β F m S w) {id : Nat} {es : List (List AVal)} (hf : ∀ off len v,off + len ≤ es.length → Rel F m (.row id off len) v → Rel F m (.list .unk ((es.drop off).take len)) v) : Sim β F m (S.map (AObj.fz id es)) w := by
 have hget : ∀ (i : Nat) (o : AObj),(S.map (AObj.fz id es))[i]? = some o → ∃ o' : AObj,S[i]? = some o' ∧ o = o'.fz id es := fun i o h => by
  rw [List.getElem?_map] at h
  obtain ⟨o',h1,h2⟩ := Option.map_eq_some_iff.1 h
  exact ⟨o',h1,h2.symm⟩
 refine ⟨hs.below,hs.glob,hs.agree,fun i o ho => ?_,fun i i' o o' p p' ho ho' hp hp' hne b x hx hx' => ?_,fun i hi => hs.dom i (by simpa using hi)⟩
 ·obtain ⟨o',h1,rfl⟩ := hget i o ho
  obtain ⟨p,hp,hok⟩ := hs.objs i o' h1
  exact ⟨p,hp,hok.fz hf⟩
 ·obtain ⟨q,h1,rfl⟩ := hget i o ho
  obtain ⟨q',h1',rfl⟩ := hget i' o' ho'
  exact hs.apart i i' q q' p p' h1 h1' hp hp' hne b x (AObj.fz_owns.1 hx) (AObj.fz_owns.1 hx')
section
variable {P : Program} {β : Base}
theorem ACalls.frzH {f args S} {R R' : AEnd → Heap → Prop} (h : ACalls P β f args S R)
  (hr : (∀ o ∈ S,o.sc S.length = true) → ∀ e S',R e S' → R' e S' ∨ ∃ id k es cap,S'[id]? = some (.cells k es cap) ∧ R' (e.fz id es) ((S'.set id .dead).map (AObj.fz id es))) : ACalls P β f args S R' := by
 refine ⟨h.1,fun F m w vs hs hv => (h.2 F m w vs hs hv).mono fun e w' ⟨ae,F',m',S',he,hs',hrel,hR⟩ => ?_⟩
 rcases hr hs.scs _ _ hR with hR' | ⟨id,k,es,cap,hS,hR'⟩
 ·exact ⟨ae,F',m',S',he,hs',hrel,hR'⟩
 obtain ⟨p,hp,_⟩ := hs'.objs id _ hS
 obtain ⟨ef,hsf,hfr⟩ := hs'.freeze hS hp
 have hf : ∀ off len v,off + len ≤ es.length → Rel (F'.row w' p es.length) m' (.row id off len) v → Rel (F'.row w' p es.length) m' (.list .unk ((es.drop off).take len)) v := fun off len v hle hr => by
  refine hfr off len v hle ?_
  cases hr with
  | row _ _ _ A cap p hm hl hc hA hN => exact .row _ _ _ A cap p hm hl hc hA hN
 refine ⟨ae.fz id es,_,m',_,he.trans ef,hsf.mapfz hf,?_,hR'⟩
 cases ae with
 | ret v => cases e <;> first | exact hrel.elim | exact Rel.fz ef hfr hrel
 | panic v =>
   cases e <;> first | exact hrel.elim | skip
   obtain ⟨u,rfl,hu⟩ := hrel
   exact ⟨u,rfl,Rel.fz ef hfr hu⟩
end
mutual
theorem AVal.fz_sc {n id : Nat} {es : List (List AVal)} (hn : n ≤ id) : ∀ (a : AVal),a.sc n = true → a.fz id es = a
 | .top,_ => rfl
 | .atom _,_ => rfl
 | .str _,_ => rfl
 | .agg cs,h => by simp only [AVal.fz]; rw [fzL_sc hn cs (by simpa [AVal.sc] using h)]
 | .tuple cs,h => by simp only [AVal.fz]; rw [fzL_sc hn cs (by simpa [AVal.sc] using h)]
 | .list _ _,_ => rfl
 | .row i off len,h => by
   have : i < n := by simpa [AVal.sc] using h
   simp only [AVal.fz]
   rw [if_neg (by omega)]
 | .ptr _ _ _,_ => rfl
 | .fptr _ _ _,_ => rfl
 | .mapv _,_ => rfl
 | .itr _,_ => rfl
 | .clo _ _ _,_ => rfl
 | .iface t v,h => by simp only [AVal.fz]; rw [AVal.fz_sc hn v (by simpa [AVal.sc] using h)]
theorem fzL_sc {n id : Nat} {es : List (List AVal)} (hn : n ≤ id) : ∀ (l : List AVal),scL n l = true → fzL id es l = l
 | [],_ => rfl
 | x :: r,h => by
   simp only [scL,Bool.and_eq_true] at h
   simp only [fzL]
   rw [AVal.fz_sc hn x h.1,fzL_sc hn r h.2]
end
theorem scLL_mem {n : Nat} : ∀ {l : List (List AVal)},scLL n l = true → ∀ e ∈ l,scL n e = true
 | [],_,e,he => nomatch he
 | x :: r,h,e,he => by
   simp only [scLL,Bool.and_eq_true] at h
   rcases List.mem_cons.1 he with rfl | he
   ·exact h.1
   ·exact scLL_mem h.2 e he
theorem AObj.fz_sc {n id : Nat} {es : List (List AVal)} (hn : n ≤ id) {o : AObj} (h : o.sc n = true) : o.fz id es = o := by
 cases o with
 | cells k rows cap =>
   simp only [AObj.fz]
   congr 1
   have := scLL_mem (by simpa [AObj.sc] using h)
   conv => rhs; rw [← List.map_id rows]
   exact List.map_congr_left fun e he => fzL_sc hn e (this e he)
 | map kvs clock =>
   simp only [AObj.fz]
   congr 1
   have := List.all_eq_true.1 (by simpa [AObj.sc] using h : (kvs.all fun e => e.key.sc n && e.val.sc n) = true)
   conv => rhs; rw [← List.map_id kvs]
   refine List.map_congr_left fun e he => ?_
   have h1 := this e he
   simp only [Bool.and_eq_true] at h1
   simp only [id_eq]
   rw [AVal.fz_sc hn _ h1.1,AVal.fz_sc hn _ h1.2]
 | _ => rfl
end Go.Abs
