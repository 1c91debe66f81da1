/- The abstract machine, part 28 (behind part 14): maps. Conditions: none; lemmas. -/
import Derived.Test.YtdnpmnnidjeifaaGreatDoorA14
import Derived.MapKept
import Derived.Maps.RangeRun
namespace Go.Abs
open Go Go.RowKit
open Go.MapKept
open Go.ChangeMaps (setBlock)
section
variable {P : Program} {β : Base}
theorem rel_pair {F m} {a b : AVal} {u v : Value} (h1 : Rel F m a u) (h2 : Rel F m b v) : Rel F m (.tuple [a, b]) (.tuple #[u, v]) := by
 refine .tuple _ _ rfl fun i hi => ?_
 match i, hi with
 | 0, _ => exact h1
 | 1, _ => exact h2
 | n + 2, h => exact absurd h (by simp)
theorem rel_triple {F m} {a b c : AVal} {u v x : Value} (h1 : Rel F m a u) (h2 : Rel F m b v) (h3 : Rel F m c x) : Rel F m (.tuple [a, b, c]) (.tuple #[u, v, x]) := by
 refine .tuple _ _ rfl fun i hi => ?_
 match i, hi with
 | 0, _ => exact h1
 | 1, _ => exact h2
 | 2, _ => exact h3
 | n + 3, h => exact absurd h (by simp)
theorem rel_single {F m} {a : AVal} {u : Value} (h1 : Rel F m a u) : Rel F m (.tuple [a]) (.tuple #[u]) := by
 refine .tuple _ _ rfl fun i hi => ?_
 match i, hi with
 | 0, _ => exact h1
 | n + 1, h => exact absurd h (by simp)
theorem rel_undef {F m} : Rel F m .undef undef := .tuple [] #[] rfl (fun i hi => by simp at hi)
theorem Sim.setObj {F m S w} (hs : Sim β F m S w) {id : Nat} {o0 o : AObj} {p : Pl} {u0 u : Obj} (hS : S[id]? = some o0) (hm : m id = some p)
  (hw : w.heap[p.b]? = some u0) (h0 : ∀ x, o0.owns p p.b x) (hB : β.w0.heap.size ≤ p.b) (hnc0 : ∀ c t f, u0 ≠ .cells c t f) (hnc : ∀ c t f, u ≠ .cells c t f)
  (how : ∀ b x, o.owns p b x → o0.owns p b x) (hok : o.ok F m β.w0.heap.size (setBlock w p.b u) p) : Sim β F m (S.set id o) (setBlock w p.b u) := by
 have hat := (heap_set (o' := u) hw).1
 have hother := (heap_set (o' := u) hw).2
 have hcell : ∀ b x, (setBlock w p.b u).cell? ⟨b, x, none⟩ = w.cell? ⟨b, x, none⟩ := fun b x => by
  by_cases hb : b = p.b
  ·subst hb
   simp only [World.cell?, setBlock, hat, hw]
   cases u <;> cases u0 <;> first | rfl | exact absurd rfl (hnc _ _ _) | exact absurd rfl (hnc0 _ _ _)
  ·simp only [World.cell?, setBlock, hother b hb]
 have hfr : ∀ a, (setBlock w p.b u).frozen? a = w.frozen? a := fun a => by
  by_cases hb : a.block = p.b
  ·simp only [World.frozen?, setBlock, hb, hat, hw]
   cases u <;> cases u0 <;> first | rfl | exact absurd rfl (hnc _ _ _) | exact absurd rfl (hnc0 _ _ _)
  ·simp only [World.frozen?, setBlock, hother a.block hb]
 refine hs.set id o p hm ⟨o0, hS, how⟩ (hs.below.trans ⟨rfl, rfl, rfl, by simp [setBlock], fun k hk => hother k (by omega)⟩)
  (fun b x v hv => (hcell b x).trans (hs.agree b x v hv)) hok fun id' o' p' hne hS' hm' => ?_
 obtain ⟨q, hq, hok'⟩ := hs.objs id' o' hS'
 obtain rfl := Option.some.inj (hm'.symm.trans hq)
 exact hok'.keep (fun x _ => ⟨hcell _ _, hfr _⟩) (fun hx => hother _ fun heq => hs.apart id' id o' o0 p' p hS' hS hm' hm hne p'.b 0 (hx 0) (by rw [heq]; exact h0 0))
def EntsOk (F : Frz) (m : Pls) (kvs : List AEnt) (es : List MapEntry) : Prop := kvs.length = es.length ∧ ∀ i, i < kvs.length → EntOk F m (kvs.getD i default) (es.getD i default)
theorem EntsOk.nil {F m} : EntsOk F m [] [] := ⟨rfl, fun i h => by simp at h⟩
theorem EntsOk.cons {F m e c kvs es} (h : EntOk F m e c) (hs : EntsOk F m kvs es) : EntsOk F m (e :: kvs) (c :: es) := by
 refine ⟨by simpa using hs.1, fun i hi => ?_⟩
 cases i with
 | zero => simpa using h
 | succ i => simpa using hs.2 i (by simpa using hi)
theorem EntsOk.uncons {F m e c kvs es} (h : EntsOk F m (e :: kvs) (c :: es)) : EntOk F m e c ∧ EntsOk F m kvs es :=
 ⟨by simpa using h.2 0 (by simp), by simpa using h.1, fun i hi => by simpa using h.2 (i + 1) (by simpa using hi)⟩
theorem EntsOk.snoc {F m e c} : ∀ {kvs es}, EntsOk F m kvs es → EntOk F m e c → EntsOk F m (kvs ++ [e]) (es ++ [c])
 | [], [], _, h => .cons h .nil
 | _ :: _, _ :: _, hs, h => .cons hs.uncons.1 (EntsOk.snoc hs.uncons.2 h)
 | [], _ :: _, hs, _ => by have := hs.1; simp at this
 | _ :: _, [], hs, _ => by have := hs.1; simp at this
theorem getD_toList (es : Array MapEntry) (i : Nat) : es.toList.getD i default = es.getD i default := by
 simp [List.getD, Array.getD]
 split
 ·rename_i h; simp [h]
 ·rename_i h; simp [h]
theorem map_ents {F m B w p kvs c} (h : (AObj.map kvs c).ok F m B w p) : B ≤ p.b ∧ ∃ es : Array MapEntry, w.heap[p.b]? = some (.map es c) ∧ EntsOk F m kvs es.toList := by
 obtain ⟨h1, es, h2, h3, h4⟩ := h
 exact ⟨h1, es, h2, by simpa using h3.symm, fun i hi => by rw [getD_toList]; exact h4 i hi⟩
theorem map_ok {F m B w p kvs c} {es : Array MapEntry} (h1 : B ≤ p.b) (h2 : w.heap[p.b]? = some (.map es c)) (h3 : EntsOk F m kvs es.toList) : (AObj.map kvs c).ok F m B w p :=
 ⟨h1, es, h2, by simpa using h3.1.symm, fun i hi => by have := h3.2 i hi; rwa [getD_toList] at this⟩
theorem Sim.setMap {F m S w} (hs : Sim β F m S w) {id : Nat} {kvs kvs' : List AEnt} {c c' : Nat} {p : Pl} {es es' : Array MapEntry} (hS : S[id]? = some (.map kvs c)) (hm : m id = some p)
  (hw : w.heap[p.b]? = some (.map es c)) (hB : β.w0.heap.size ≤ p.b) (h : EntsOk F m kvs' es'.toList) : Sim β F m (S.set id (.map kvs' c')) (setBlock w p.b (.map es' c')) :=
 hs.setObj hS hm hw (fun _ => rfl) hB (fun _ _ _ h => by cases h) (fun _ _ _ h => by cases h) (fun _ _ h => h) (map_ok hB (heap_set hw).1 h)
theorem keyEq_now {F m} {kd : KK} {d : TypeDesc} {p q : AVal} {b : Bool} {u v : Value} (hd : KK.of d = some kd) (h : keyEq kd p q = some b) (rp : Rel F m p u) (rq : Rel F m q v) :
  Instr.sameNow d u v = some b ∧ (b = true → u = v) ∧ IsKey d u := by
 unfold keyEq at h
 split at h
 ·rename_i a a'
  obtain rfl := rp.str_inv
  obtain rfl := rq.str_inv
  simp only [Option.some.injEq] at h
  subst h
  cases d <;> simp [KK.of] at hd
  refine ⟨?_, fun h => by rw [of_decide_eq_true h], by simp [IsKey]⟩
  simp only [Instr.sameNow, Option.some.injEq]
  rw [Bool.eq_iff_iff, bytes_beq, decide_eq_true_eq]
  constructor
  ·intro h; injection h with h; exact congrArg Array.toList h
  ·intro h; rw [h]
 ·rename_i kk k a k' a'
  split at h
  ·rename_i hk
   obtain ⟨rfl, rfl⟩ := hk
   obtain rfl := rp.int_inv
   obtain rfl := rq.int_inv
   simp only [Option.some.injEq] at h
   subst h
   cases d <;> simp [KK.of] at hd
   subst hd
   refine ⟨by simp [Instr.sameNow]; rfl, fun h => by rw [of_decide_eq_true h], by simp [IsKey]⟩
  ·cases h
 ·rename_i a a'
  obtain rfl := rp.bool_inv
  obtain rfl := rq.bool_inv
  simp only [Option.some.injEq] at h
  subst h
  cases d <;> simp [KK.of] at hd
  refine ⟨by simp [Instr.sameNow], fun h => by rw [eq_of_beq h], by simp [IsKey]⟩
 ·cases h
theorem findE_now {F m} {kd : KK} {d : TypeDesc} {i : AVal} {u : Value} (hd : KK.of d = some kd) (ri : Rel F m i u) : ∀ (kvs : List AEnt) (es : List MapEntry) (n : Nat) (r : Option AEnt), EntsOk F m kvs es → findE kd i kvs = some r →
  (r = none ∧ Instr.findNow d u es n = some none ∧ delE kd i kvs = kvs) ∨
  (∃ e j c, r = some e ∧ j < es.length ∧ es[j]? = some c ∧ EntOk F m e c ∧ Instr.findNow d u es n = some (some (n + j, c.val)) ∧ c.key = u ∧ IsKey d u ∧
   (∀ y v, Rel F m y v → EntsOk F m (setE kd i y kvs) (es.modify j fun e => { e with key := u, val := v })) ∧ EntsOk F m kvs (es.modify j fun e => { e with key := u }) ∧ EntsOk F m (delE kd i kvs) (es.eraseIdx j))
 | [], [], n, r, _, h => by simp only [findE, Option.some.injEq] at h; exact .inl ⟨h.symm, rfl, rfl⟩
 | [], _ :: _, _, _, hs, _ => by have := hs.1; simp at this
 | _ :: _, [], _, _, hs, _ => by have := hs.1; simp at this
 | e :: kvs, c :: es, n, r, hs, h => by
   obtain ⟨h1, h2⟩ := hs.uncons
   simp only [findE] at h
   split at h
   ·rename_i hk
    simp only [Option.some.injEq] at h
    obtain ⟨k1, k2, k3⟩ := keyEq_now hd hk ri h1.1
    have huc : c.key = u := (k2 rfl).symm
    refine .inr ⟨e, 0, c, h.symm, by simp, rfl, h1, by simp [Instr.findNow, k1], huc, k3, fun y v ry => ?_, ?_, ?_⟩
    ·simp only [setE, hk]
     exact .cons ⟨by rw [← huc]; exact h1.1, h1.2.1, ry⟩ h2
    ·exact .cons ⟨by rw [← huc]; exact h1.1, h1.2.1, h1.2.2⟩ h2
    ·simp only [delE, hk]; exact h2
   ·rename_i hk
    obtain ⟨k1, k2, k3⟩ := keyEq_now hd hk ri h1.1
    rcases findE_now hd ri kvs es (n + 1) r h2 h with ⟨g1, g2, g3⟩ | ⟨e', j, c', g1, g2, g3, g4, g5, g6, g7, g8, g9, g10⟩
    ·exact .inl ⟨g1, by simp [Instr.findNow, k1, g2], by simp [delE, hk, g3]⟩
    ·refine .inr ⟨e', j + 1, c', g1, by simpa using g2, by simpa using g3, g4, by simp [Instr.findNow, k1, g5]; omega, g6, g7, fun y v ry => ?_, ?_, ?_⟩
     ·simp only [setE, hk, List.modify_succ_cons]; exact .cons h1 (g8 y v ry)
     ·simp only [List.modify_succ_cons]; exact .cons h1 g9
     ·simp only [delE, hk, List.eraseIdx_cons_succ]; exact .cons h1 g10
   ·cases h
theorem run_checkKeyK {kt : TypeId} {d : TypeDesc} {kd : KK} (hu : P.underlying kt = some d) (hd : KK.of d = some kd) (em : Bool) (v : Value) (w : World) : (Instr.checkKey em 10000 kt v).run P w = .ok () w := by
 have key : ∀ n, (Instr.checkKey em (n + 1) kt v).run P w = .ok () w := fun n => by
  unfold Instr.checkKey
  simp only [Sem.run_bind, run_underlying hu, Result.andThen]
  cases d <;> simp_all [KK.of]
 exact key 9999
theorem keyKind_spec {t : TypeId} {kd : KK} (h : keyKind P t = some kd) : ∃ d, P.underlying t = some d ∧ KK.of d = some kd := Option.bind_eq_some_iff.1 h
theorem sound_mkmap {o : Oper} {t : TypeId} (ho : o.op = .makeMap t none) : Sound P β o .mkmap := by
 intro F m S w a act v S' hs _ hr
 simp only [MOp.run, ORes.ok.injEq, true_and] at hr
 obtain ⟨rfl, rfl⟩ := hr
 have hsim := hs.allocObj (.map #[] 0) (.map [] 0) (map_ok hs.below.size (heap_alloc w _).1 .nil) (fun _ _ h => h.symm)
 refine ⟨.map (some w.heap.size), _, F, _, .inl ?_, Ext.put hs _, hsim, .mapv S.length ⟨w.heap.size, 0, 1, 1⟩ (by simp [Pls.put])⟩
 simp [execOp, ho, Instr.makeMap]
theorem tyI_cells {t : TypeId} {i : TyI} (h : tyI P t = some i) : cellsOk i.zero = true := by
 obtain ⟨_, _, _, _, _, _, _, _, _, h2, _⟩ := tyI_spec h
 exact h2
theorem rel_out {F m} {ok : Bool} {b : Bool} {z : AVal} {u : Value} (h : Rel F m z u) : Rel F m (if ok = true then .tuple [z, .bool b] else z) (if ok = true then .tuple #[u, .bool b] else u) := by
 cases ok
 ·exact h
 ·exact rel_pair h (.atom _)
theorem sound_lookup {o : Oper} {t k e : TypeId} {kd : KK} {j : TyI} {x i : Operand} {x' i' : MOpd} {ok : Bool} (ho : o.op = .lookup t x i ok) (hd : P.underlying t = some (.map k e)) (hk : keyKind P k = some kd) (hj : tyI P e = some j)
  (hx : od β.G x = some x') (hi : od β.G i = some i') : Sound P β o (.lookup kd (ofConst j.zero) ok x' i') := by
 refine sound_keep fun F m S w a act v S' hs ht hr => ?_
 obtain ⟨d, hu, hkd⟩ := keyKind_spec hk
 have rx := rel_od hs.glob ht hx
 have ri := rel_od hs.glob ht hi
 have rz : Rel F m (ofConst j.zero) j.zero := rel_ofConst _ (tyI_cells hj)
 simp only [MOp.run, lookR] at hr
 generalize hv : act.eval x = u at rx
 split at hr
 ·rename_i hb
  rw [hb] at rx
  obtain rfl := rx.atom_eq
  simp only [ORes.ok.injEq, true_and] at hr
  obtain ⟨rfl, rfl⟩ := hr
  refine ⟨rfl, _, .inl ?_, rel_out rz⟩
  have hf : Instr.findNow d (act.eval i) [] 0 = some none := rfl
  cases ok <;> simp [execOp, ho, Instr.lookup, run_underlying hd, hv, run_checkKeyK hu hkd, MapKept.run_findKey hu hf, run_zero hj, Result.andThen]
 ·rename_i id hb
  rw [hb] at rx
  split at hr
  ·rename_i kvs c hS
   cases rx with
   | mapv _ p hm =>
     obtain ⟨q, hq, hok⟩ := hs.objs id _ hS
     obtain rfl := Option.some.inj (hm.symm.trans hq)
     obtain ⟨hB, es, hw, hes⟩ := map_ents hok
     split at hr
     ·rename_i e' hfe
      simp only [ORes.ok.injEq, true_and] at hr
      obtain ⟨rfl, rfl⟩ := hr
      rcases findE_now hkd ri kvs es.toList 0 _ hes hfe with ⟨g1, _⟩ | ⟨e'', j', c', g1, g2, g3, g4, g5, g6, g7, _⟩
      ·cases g1
      ·cases g1
       refine ⟨rfl, _, .inl ?_, rel_out g4.2.2⟩
       cases ok <;> simp [execOp, ho, Instr.lookup, run_underlying hd, hv, MapKept.run_getObj_map hw, run_checkKeyK hu hkd, MapKept.run_findKey hu g5, Result.andThen]
     ·rename_i hfe
      simp only [ORes.ok.injEq, true_and] at hr
      obtain ⟨rfl, rfl⟩ := hr
      rcases findE_now hkd ri kvs es.toList 0 _ hes hfe with ⟨_, g2, _⟩ | ⟨_, _, _, g1, _⟩
      ·refine ⟨rfl, _, .inl ?_, rel_out rz⟩
       cases ok <;> simp [execOp, ho, Instr.lookup, run_underlying hd, hv, MapKept.run_getObj_map hw, run_checkKeyK hu hkd, MapKept.run_findKey hu g2, run_zero hj, Result.andThen]
      ·cases g1
     ·cases hr
  ·cases hr
 ·cases hr
theorem sound_mapUp {o : Oper} {t k e : TypeId} {kd : KK} {x i y : Operand} {x' i' y' : MOpd} (ho : o.op = .mapUpdate t x i y ∨ o.op = .insert t x i y) (hd : P.underlying t = some (.map k e)) (hk : keyKind P k = some kd)
  (hx : od β.G x = some x') (hi : od β.G i = some i') (hy : od β.G y = some y') : Sound P β o (.mapUp kd x' i' y') := by
 intro F m S w a act v S' hs ht hr
 obtain ⟨d, hu, hkd⟩ := keyKind_spec hk
 have rx := rel_od hs.glob ht hx
 have ri := rel_od hs.glob ht hi
 have ry := rel_od hs.glob ht hy
 simp only [MOp.run, mapUpR] at hr
 generalize hv : act.eval x = u at rx
 have exec : ∀ w', (Instr.mapUpdate t (act.eval x) (act.eval i) (act.eval y)).run P w = .ok () w' → Yields P o act w undef w' := fun w' h => by
  refine .inr ⟨?_, rfl⟩
  rcases ho with ho | ho <;> simp [execOp, ho, h]
 split at hr
 ·rename_i id hb
  rw [hb] at rx
  split at hr
  ·rename_i kvs c hS
   cases rx with
   | mapv _ p hm =>
     obtain ⟨q, hq, hok⟩ := hs.objs id _ hS
     obtain rfl := Option.some.inj (hm.symm.trans hq)
     obtain ⟨hB, es, hw, hes⟩ := map_ents hok
     split at hr
     ·rename_i e' hfe
      simp only [ORes.ok.injEq, true_and] at hr
      obtain ⟨rfl, rfl⟩ := hr
      rcases findE_now hkd ri kvs es.toList 0 _ hes hfe with ⟨g1, _⟩ | ⟨e'', j', c', g1, g2, g3, g4, g5, g6, g7, g8, _⟩
      ·cases g1
      ·refine ⟨undef, setBlock w p.b (.map (es.modify j' fun e => { e with key := act.eval i, val := act.eval y }) c), F, m, exec _ ?_, Ext.refl F m, hs.setMap hS hm hw hB (by simpa using g8 _ _ ry), rel_undef⟩
       have hj : es[j']? = some c' := by simpa using g3
       simp [Instr.mapUpdate, hv, run_underlying hd, MapKept.run_getObj_map hw, run_checkKeyK hu hkd, MapKept.run_findKey hu g5, hj, g6, run_keyThatStays g7, MapKept.run_setObj_map _ hw, Result.andThen, setBlock]
     ·rename_i hfe
      simp only [ORes.ok.injEq, true_and] at hr
      obtain ⟨rfl, rfl⟩ := hr
      rcases findE_now hkd ri kvs es.toList 0 _ hes hfe with ⟨_, g2, _⟩ | ⟨_, _, _, g1, _⟩
      ·refine ⟨undef, setBlock w p.b (.map (es.push { key := act.eval i, val := act.eval y, born := c }) (c + 1)), F, m, exec _ ?_, Ext.refl F m, hs.setMap hS hm hw hB (by simpa using hes.snoc ⟨ri, rfl, ry⟩), rel_undef⟩
       simp [Instr.mapUpdate, hv, run_underlying hd, MapKept.run_getObj_map hw, run_checkKeyK hu hkd, MapKept.run_findKey hu g2, MapKept.run_setObj_map _ hw, Result.andThen, setBlock]
      ·cases g1
     ·cases hr
  ·cases hr
 ·cases hr
theorem sound_mapEnt {o : Oper} {t k e : TypeId} {kd : KK} {j : TyI} {x i : Operand} {x' i' : MOpd} (ho : o.op = .mapEntry t x i) (hd : P.underlying t = some (.map k e)) (hk : keyKind P k = some kd) (hj : tyI P e = some j)
  (hx : od β.G x = some x') (hi : od β.G i = some i') : Sound P β o (.mapEnt kd (ofConst j.zero) x' i') := by
 intro F m S w a act v S' hs ht hr
 obtain ⟨d, hu, hkd⟩ := keyKind_spec hk
 have rx := rel_od hs.glob ht hx
 have ri := rel_od hs.glob ht hi
 have rz : Rel F m (ofConst j.zero) j.zero := rel_ofConst _ (tyI_cells hj)
 simp only [MOp.run, mapEntR] at hr
 generalize hv : act.eval x = u at rx
 split at hr
 ·rename_i id hb
  rw [hb] at rx
  split at hr
  ·rename_i kvs c hS
   cases rx with
   | mapv _ p hm =>
     obtain ⟨q, hq, hok⟩ := hs.objs id _ hS
     obtain rfl := Option.some.inj (hm.symm.trans hq)
     obtain ⟨hB, es, hw, hes⟩ := map_ents hok
     split at hr
     ·rename_i e' hfe
      simp only [ORes.ok.injEq, true_and] at hr
      obtain ⟨rfl, rfl⟩ := hr
      rcases findE_now hkd ri kvs es.toList 0 _ hes hfe with ⟨g1, _⟩ | ⟨e'', j', c', g1, g2, g3, g4, g5, g6, g7, g8, g9, _⟩
      ·cases g1
      ·cases g1
       have hset : S.set id (.map kvs c) = S := List.ext_getElem? fun n => by
        by_cases hn : id = n
        ·subst hn
         rw [List.getElem?_set_self (by rcases Nat.lt_or_ge id S.length with h | h; exact h; simp [List.getElem?_eq_none h] at hS), hS]
        ·rw [List.getElem?_set_ne hn]
       refine ⟨.tuple #[c'.val, .int .i64 c'.born], setBlock w p.b (.map (es.modify j' fun e => { e with key := act.eval i }) c), F, m, .inl ?_, Ext.refl F m, ?_, ?_⟩
       ·have hj : es[j']? = some c' := by simpa using g3
        simp [execOp, ho, Instr.mapEntry, hv, run_underlying hd, MapKept.run_getObj_map hw, run_checkKeyK hu hkd, MapKept.run_findKey hu g5, hj, g6, run_keyThatStays g7, MapKept.run_setObj_map _ hw, Result.andThen, setBlock, goInt]
       ·have := hs.setMap (kvs' := kvs) (c' := c) hS hm hw hB (es' := es.modify j' fun e => { e with key := act.eval i }) (by simpa using g9)
        rwa [hset] at this
       ·rw [g4.2.1]; exact rel_pair g4.2.2 (.atom _)
     ·rename_i hfe
      simp only [ORes.ok.injEq, true_and] at hr
      obtain ⟨rfl, rfl⟩ := hr
      rcases findE_now hkd ri kvs es.toList 0 _ hes hfe with ⟨_, g2, _⟩ | ⟨_, _, _, g1, _⟩
      ·refine ⟨.tuple #[j.zero, .int .i64 c], setBlock w p.b (.map (es.push { key := act.eval i, val := j.zero, born := c }) (c + 1)), F, m, .inl ?_, Ext.refl F m, hs.setMap hS hm hw hB (by simpa using hes.snoc ⟨ri, rfl, rz⟩), rel_pair rz (.atom _)⟩
       simp [execOp, ho, Instr.mapEntry, hv, run_underlying hd, MapKept.run_getObj_map hw, run_checkKeyK hu hkd, MapKept.run_findKey hu g2, run_zero hj, MapKept.run_setObj_map _ hw, Result.andThen, setBlock, goInt]
      ·cases g1
     ·cases hr
  ·cases hr
 ·cases hr
theorem stE_now {F m} {n : Int} {y : AVal} {v : Value} (ry : Rel F m y v) : ∀ (kvs : List AEnt) (es : List MapEntry) (kvs' : List AEnt), EntsOk F m kvs es → stE n y kvs = some kvs' →
  ∃ j, es.findIdx? (fun e => (e.born : Int) == n) = some j ∧ EntsOk F m kvs' (es.modify j fun e => { e with val := v })
 | [], [], _, _, h => by simp [stE] at h
 | [], _ :: _, _, hs, _ => by have := hs.1; simp at this
 | _ :: _, [], _, hs, _ => by have := hs.1; simp at this
 | e :: kvs, c :: es, kvs', hs, h => by
   obtain ⟨h1, h2⟩ := hs.uncons
   simp only [stE] at h
   split at h
   ·rename_i hb
    simp only [Option.some.injEq] at h
    subst h
    refine ⟨0, by simp [List.findIdx?_cons, h1.2.1, hb], ?_⟩
    exact .cons ⟨h1.1, h1.2.1, ry⟩ h2
   ·rename_i hb
    split at h
    ·rename_i r' hr'
     simp only [Option.some.injEq] at h
     subst h
     obtain ⟨j, g1, g2⟩ := stE_now ry kvs es r' h2 hr'
     refine ⟨j + 1, by simp [List.findIdx?_cons, h1.2.1, hb, g1], ?_⟩
     rw [List.modify_succ_cons]
     exact .cons h1 g2
    ·cases h
theorem sound_entSt {o : Oper} {t : TypeId} {x s y : Operand} {x' s' y' : MOpd} (ho : o.op = .entryStore t x s y)
  (hx : od β.G x = some x') (hsx : od β.G s = some s') (hy : od β.G y = some y') : Sound P β o (.entSt x' s' y') := by
 intro F m S w a act v S' hs ht hr
 have rx := rel_od hs.glob ht hx
 have rs := rel_od hs.glob ht hsx
 have ry := rel_od hs.glob ht hy
 simp only [MOp.run, entStR] at hr
 generalize hv : act.eval x = u at rx
 generalize hvs : act.eval s = us at rs
 split at hr
 ·rename_i id k n hb hbs
  rw [hb] at rx
  rw [hbs] at rs
  obtain rfl := rs.atom_eq
  split at hr
  ·rename_i kvs c hS
   cases rx with
   | mapv _ p hm =>
     obtain ⟨q, hq, hok⟩ := hs.objs id _ hS
     obtain rfl := Option.some.inj (hm.symm.trans hq)
     obtain ⟨hB, es, hw, hes⟩ := map_ents hok
     split at hr
     ·rename_i kvs' hst
      simp only [ORes.ok.injEq, true_and] at hr
      obtain ⟨rfl, rfl⟩ := hr
      obtain ⟨j, g1, g2⟩ := stE_now ry kvs es.toList kvs' hes hst
      refine ⟨undef, setBlock w p.b (.map (es.modify j fun e => { e with val := act.eval y }) c), F, m, .inr ⟨?_, rfl⟩, Ext.refl F m, hs.setMap hS hm hw hB (by simpa using g2), rel_undef⟩
      have hj : es.findIdx? (fun e => (e.born : Int) == n) = some j := by cases es; simpa using g1
      simp [execOp, ho, Instr.entryStore, hv, hvs, asInt, asIntOf, MapKept.run_getObj_map hw, hj, MapKept.run_setObj_map _ hw, Result.andThen, setBlock]
     ·cases hr
  ·cases hr
 ·cases hr
theorem sound_delete {o : Oper} {t k e : TypeId} {ts : Array TypeId} {kd : KK} {x i : Operand} {x' i' : MOpd} (ho : o.op = .call { callee := .builtin .delete, args := #[x, i], argTypes := ts }) (h0 : ts[0]? = some t) (hd : P.underlying t = some (.map k e)) (hk : keyKind P k = some kd)
  (hx : od β.G x = some x') (hi : od β.G i = some i') : Sound P β o (.delete kd x' i') := by
 intro F m S w a act v S' hs ht hr
 obtain ⟨d, hu, hkd⟩ := keyKind_spec hk
 have rx := rel_od hs.glob ht hx
 have ri := rel_od hs.glob ht hi
 simp only [MOp.run, delR] at hr
 generalize hv : act.eval x = u at rx
 split at hr
 ·rename_i hb
  rw [hb] at rx
  obtain rfl := rx.atom_eq
  simp only [ORes.ok.injEq, true_and] at hr
  obtain ⟨rfl, rfl⟩ := hr
  refine ⟨_, w, F, m, .inl ?_, Ext.refl F m, hs, rel_undef⟩
  simp [execOp, ho, resolve, invoke, builtin, Builtin.delete_, h0, hv, run_underlying hd, run_checkKeyK hu hkd, Result.andThen]
  rfl
 ·rename_i id hb
  rw [hb] at rx
  split at hr
  ·rename_i kvs c hS
   cases rx with
   | mapv _ p hm =>
     obtain ⟨q, hq, hok⟩ := hs.objs id _ hS
     obtain rfl := Option.some.inj (hm.symm.trans hq)
     obtain ⟨hB, es, hw, hes⟩ := map_ents hok
     split at hr
     ·rename_i r hfe
      simp only [ORes.ok.injEq, true_and] at hr
      obtain ⟨rfl, rfl⟩ := hr
      rcases findE_now hkd ri kvs es.toList 0 _ hes hfe with ⟨_, g2, g3⟩ | ⟨e'', j', c', g1, g2, g3, g4, g5, g6, g7, g8, g9, g10⟩
      ·refine ⟨undef, setBlock w p.b (.map es c), F, m, .inl ?_, Ext.refl F m, hs.setMap hS hm hw hB (by rw [g3]; exact hes), rel_undef⟩
       simp [execOp, ho, resolve, invoke, builtin, Builtin.delete_, h0, hv, run_underlying hd, MapKept.run_getObj_map hw, run_checkKeyK hu hkd, MapKept.run_findKey hu g2, MapKept.run_setObj_map _ hw, Result.andThen, setBlock]
       rfl
      ·refine ⟨undef, setBlock w p.b (.map (es.eraseIdxIfInBounds j') c), F, m, .inl ?_, Ext.refl F m, hs.setMap hS hm hw hB (by
        have : j' < es.size := by simpa using g2
        rw [Array.eraseIdxIfInBounds, dif_pos this]; simpa using g10), rel_undef⟩
       simp [execOp, ho, resolve, invoke, builtin, Builtin.delete_, h0, hv, run_underlying hd, MapKept.run_getObj_map hw, run_checkKeyK hu hkd, MapKept.run_findKey hu g5, MapKept.run_setObj_map _ hw, Result.andThen, setBlock]
       rfl
     ·cases hr
  ·cases hr
 ·cases hr
theorem sound_rangeM {o : Oper} {t k e : TypeId} {x : Operand} {x' : MOpd} (ho : o.op = .range t x) (hd : P.underlying t = some (.map k e)) (hx : od β.G x = some x') : Sound P β o (.rangeM x') := by
 intro F m S w a act v S' hs ht hr
 have rx := rel_od hs.glob ht hx
 simp only [MOp.run] at hr
 generalize hv : act.eval x = u at rx
 split at hr
 ·rename_i hb
  rw [hb] at rx
  obtain rfl := rx.atom_eq
  simp only [ORes.ok.injEq, true_and] at hr
  obtain ⟨rfl, rfl⟩ := hr
  have hsim := hs.allocObj (.mapIter none 0 #[] 0) (.mapIter none 0 [] 0) ⟨hs.below.size, (heap_alloc w _).1⟩ (fun _ _ h => h.symm)
  refine ⟨_, _, F, _, .inl ?_, Ext.put hs _, hsim, .itr S.length ⟨w.heap.size, 0, 1, 1⟩ (by simp [Pls.put])⟩
  simp [execOp, ho, Instr.range, hv, run_underlying hd, Result.andThen]
 ·rename_i id hb
  rw [hb] at rx
  split at hr
  ·rename_i kvs c hS
   simp only [ORes.ok.injEq, true_and] at hr
   obtain ⟨rfl, rfl⟩ := hr
   cases rx with
   | mapv _ p hm =>
     obtain ⟨q, hq, hok⟩ := hs.objs id _ hS
     obtain rfl := Option.some.inj (hm.symm.trans hq)
     obtain ⟨hB, es, hw, hes⟩ := map_ents hok
     have hne : id ≠ S.length := fun h => by rw [h] at hS; simp at hS
     have hsim := hs.allocObj (.mapIter (some p.b) c #[] c) (.mapIter (some id) c [] c) ⟨hs.below.size, p, by simp [Pls.put, hne, hm], (heap_alloc w _).1⟩ (fun _ _ h => h.symm)
     refine ⟨_, _, F, _, .inl ?_, Ext.put hs _, hsim, .itr S.length ⟨w.heap.size, 0, 1, 1⟩ (by simp [Pls.put])⟩
     simp [execOp, ho, Instr.range, hv, run_underlying hd, MapKept.run_getObj_map hw, Result.andThen]
  ·cases hr
 ·cases hr
theorem find_ents {F m} {b : Nat} {e : AEnt} : ∀ (kvs : List AEnt) (es : List MapEntry), EntsOk F m kvs es → kvs.find? (fun e => e.born == b) = some e → ∃ c, es.find? (fun e => e.born == b) = some c ∧ EntOk F m e c
 | [], [], _, h => by simp at h
 | [], _ :: _, hs, _ => by have := hs.1; simp at this
 | _ :: _, [], hs, _ => by have := hs.1; simp at this
 | e' :: kvs, c :: es, hs, h => by
   obtain ⟨h1, h2⟩ := hs.uncons
   rw [List.find?_cons] at h ⊢
   rw [h1.2.1]
   split at h
   ·rename_i hb
    simp only [Option.some.injEq] at h
    subst h
    exact ⟨c, rfl, h1⟩
   ·exact find_ents kvs es h2 h
theorem run_getObj_iter {w : World} {r : Nat} {mp : Option Nat} {s : Nat} {seen : Array Nat} {c : Nat} (h : w.heap[r]? = some (.mapIter mp s seen c)) : (getObj r).run P w = .ok (.mapIter mp s seen c) w := by
 simp [getObj, Sem.run, h]
theorem sound_entry {o : Oper} {x : Operand} {x' : MOpd} (ho : o.op = .entry x) (hx : od β.G x = some x') : Sound P β o (.entry x') := by
 refine sound_keep fun F m S w a act v S' hs ht hr => ?_
 have rx := rel_od hs.glob ht hx
 simp only [MOp.run, entryR] at hr
 generalize hv : act.eval x = u at rx
 split at hr
 ·rename_i id hb
  rw [hb] at rx
  split at hr
  ·rename_i mid since seen stepped hS
   split at hr
   ·rename_i kvs c hM
    split at hr
    ·rename_i b hl
     split at hr
     ·rename_i e hf
      simp only [ORes.ok.injEq, decide_eq_true_eq] at hr
      obtain ⟨rfl, rfl, rfl⟩ := hr
      cases rx with
      | itr _ p hm =>
        obtain ⟨q, hq, hok⟩ := hs.objs id _ hS
        obtain rfl := Option.some.inj (hm.symm.trans hq)
        obtain ⟨hB, qm, hqm, hw⟩ := hok
        obtain ⟨q2, hq2, hok2⟩ := hs.objs mid _ hM
        obtain rfl := Option.some.inj (hqm.symm.trans hq2)
        obtain ⟨_, es, hwm, hes⟩ := map_ents hok2
        obtain ⟨ce, hce, he⟩ := find_ents kvs es.toList hes hf
        refine ⟨rfl, _, .inl ?_, rel_pair he.1 he.2.2⟩
        have hbk : seen.toArray.back? = some b := by rw [← hl]; simp [Array.back?, List.getLast?_eq_getElem?]
        have hce' : es.find? (fun e => e.born == b) = some ce := by rw [← hce]; simp
        simp [execOp, ho, Instr.entry, hv, run_getObj_iter hw, MapKept.run_getObj_map hwm, Result.andThen, hbk, hce']
     ·cases hr
    ·cases hr
   ·cases hr
  ·cases hr
 ·cases hr
theorem sound_next {o : Oper} {x : Operand} {x' : MOpd} (ho : o.op = .next x false) (hx : od β.G x = some x') {F m S w} {a : Tmps} {act : Act} {l : List (AVal × Heap)} (hs : Sim β F m S w) (ht : RelT F m a act.tmps) (hr : nextM S (ev a x') = some l) :
  ∃ r ∈ l, ∃ u w', (execOp act.eval o).run P w = .ok (.value u) w' ∧ Sim β F m r.2 w' ∧ Rel F m r.1 u := by
 have rx := rel_od hs.glob ht hx
 simp only [nextM] at hr
 generalize hv : act.eval x = u at rx
 split at hr
 ·rename_i id hb
  rw [hb] at rx
  cases rx with
  | itr _ p hm =>
  split at hr
  ·rename_i since seen last hS
   simp only [Option.some.injEq] at hr
   subst hr
   obtain ⟨q, hq, hok⟩ := hs.objs id _ hS
   obtain rfl := Option.some.inj (hm.symm.trans hq)
   obtain ⟨hB, hw⟩ := hok
   refine ⟨_, List.mem_singleton.2 rfl, .tuple #[.bool false], w, ?_, hs, rel_single (.atom _)⟩
   simp [execOp, ho, hv, Instr.next, run_getObj_iter hw, Result.andThen]
  ·rename_i mid since seen last hS
   obtain ⟨q, hq, hok⟩ := hs.objs id _ hS
   obtain rfl := Option.some.inj (hm.symm.trans hq)
   obtain ⟨hB, qm, hqm, hw⟩ := hok
   split at hr
   ·rename_i kvs c hM
    obtain ⟨q2, hq2, hok2⟩ := hs.objs mid _ hM
    obtain rfl := Option.some.inj (hqm.symm.trans hq2)
    obtain ⟨_, es, hwm, hes⟩ := map_ents hok2
    split at hr
    ·rename_i hcond
     simp only [Bool.and_eq_true, decide_eq_true_eq, List.all_eq_true] at hcond
     have hidx : ∀ ce ∈ es.toList, ∃ e ∈ kvs, EntOk F m e ce := fun ce hce => by
      obtain ⟨i, hi, rfl⟩ := List.getElem_of_mem hce
      have hi' : i < kvs.length := by rw [hes.1]; exact hi
      have := hes.2 i hi'
      rw [getD_eq _ _ _ hi', getD_eq _ _ _ hi] at this
      exact ⟨_, List.getElem_mem hi', this⟩
     have hidx' : ∀ e ∈ kvs, ∃ ce ∈ es.toList, EntOk F m e ce := fun e he => by
      obtain ⟨i, hi, rfl⟩ := List.getElem_of_mem he
      have hi' : i < es.toList.length := by rw [← hes.1]; exact hi
      have := hes.2 i hi
      rw [getD_eq _ _ _ hi, getD_eq _ _ _ hi'] at this
      exact ⟨_, List.getElem_mem hi', this⟩
     have hold : ∀ x ∈ es.toList, x.born < since := fun ce hce => by
      obtain ⟨e, he, hr⟩ := hidx ce hce
      rw [hr.2.1]; exact hcond.1 e he
     have hexec : ∀ u w', (Instr.next (.pointer (some ⟨p.b, 0, none⟩)) false o.type).run P w = .ok u w' → (execOp act.eval o).run P w = .ok (.value u) w' := fun u w' h => by
      simp [execOp, ho, hv, h]
     rcases run_next_at (P := P) w o.type p.b qm.b since last seen.toArray es c hw hwm hold hcond.2 with ⟨hz, hrun⟩ | ⟨ce, hce, w1, hw1, hrun⟩
     ·have hnil : (kvs.filter fun e => !seen.contains e.born) = [] := by
       rw [List.filter_eq_nil_iff]
       intro e he hse
       obtain ⟨ce, hce, hr⟩ := hidx' e he
       have hmem : ce ∈ leftOf es seen.toArray := by
        simp only [leftOf, Array.mem_filter]
        refine ⟨by simpa using hce, ?_⟩
        rw [hr.2.1]
        simpa using hse
       have := Array.eq_empty_of_size_eq_zero hz
       rw [this] at hmem
       simp at hmem
      rw [hnil] at hr
      simp only [Option.some.injEq] at hr
      subst hr
      exact ⟨_, List.mem_singleton.2 rfl, _, w, hexec _ _ hrun, hs, rel_single (.atom _)⟩
     ·have hce' : ce ∈ es.toList ∧ seen.contains ce.born = false := by
       simp only [leftOf, Array.mem_toList_iff, Array.mem_filter] at hce
       exact ⟨by simpa using hce.1, by simpa using hce.2⟩
      obtain ⟨e, he, hre⟩ := hidx ce hce'.1
      have hin : e ∈ kvs.filter fun e => !seen.contains e.born := by
       rw [List.mem_filter]
       refine ⟨he, ?_⟩
       rw [← hre.2.1, hce'.2]; rfl
      split at hr
      ·rename_i hnil; rw [hnil] at hin; cases hin
      ·simp only [Option.some.injEq] at hr
       subst hr
       refine ⟨_, List.mem_map.2 ⟨e, hin, rfl⟩, _, _, hexec _ _ hrun, ?_, rel_triple (.atom _) hre.1 hre.2.2⟩
       have hs1 : Sim β F m S w1 := by
        rcases hw1 with rfl | rfl
        ·exact hs
        ·exact hs.drew
       have hw' : w1.heap[p.b]? = some (.mapIter (some qm.b) since seen.toArray last) := by rcases hw1 with rfl | rfl <;> exact hw
       refine hs1.setObj hS hm hw' (fun _ => rfl) hB (fun _ _ _ h => by cases h) (fun _ _ _ h => by cases h) (fun _ _ h => h) ⟨hB, qm, hqm, ?_⟩
       rw [show (seen ++ [e.born]).toArray = seen.toArray.push ce.born by simp [hre.2.1]]
       exact (heap_set hw').1
    ·cases hr
   ·cases hr
  ·cases hr
 ·cases hr
end
end Go.Abs
