/- The abstract machine, part 5: the operations that leave memory alone are translated rightly. Conditions: none; lemmas. -/
import Derived.Test.YtdnpmnnidjeifaaGreatDoorA4
import Derived.Laws.Entries
import Derived.Laws.Strings
namespace Go.Abs
open Go Go.RowKit
section
variable {P : Program} {β : Base}
theorem Rel.int_inv {F m k n} {v : Value} (h : Rel F m (.atom (.int k n)) v) : v = .int k n := by cases h; rfl
theorem Rel.bool_inv {F m b} {v : Value} (h : Rel F m (.atom (.bool b)) v) : v = .bool b := by cases h; rfl
theorem Rel.str_inv {F m l} {v : Value} (h : Rel F m (.str l) v) : v = strV l := by cases h; rfl
theorem asI_inv {F m} {x : AVal} {n : Int} {v : Value} (hx : asI x = some n) (h : Rel F m x v) : ∃ k, v = .int k n := by
 unfold asI at hx
 split at hx
 ·rename_i k n'
  simp only [Option.some.injEq] at hx; subst hx
  exact ⟨k, h.int_inv⟩
 ·cases hx
theorem sound_keep {o : Oper} {mo : MOp}
  (h : ∀ (F : Frz) (m : Pls) (S : Heap) (w : World) (a : Tmps) (act : Act) (v : AVal) (S' : Heap), Sim β F m S w → RelT F m a act.tmps → mo.run S a = .ok true v S' →
   S' = S ∧ ∃ u, Yields P o act w u w ∧ Rel F m v u) : Sound P β o mo := by
 intro F m S w a act v S' hs ht hr
 obtain ⟨rfl, u, hy, hr⟩ := h F m S w a act v S' hs ht hr
 exact ⟨u, w, F, m, hy, Ext.refl F m, hs, hr⟩
theorem sound_mv {o : Oper} {x : Operand} {y : MOpd} (ho : o.op = .move x ∨ o.op = .assign x) (hx : od β.G x = some y) : Sound P β o (.mv y) := by
 refine sound_keep fun F m S w a act v S' hs ht hr => ?_
 simp only [MOp.run, ORes.ok.injEq] at hr
 obtain ⟨_, rfl, rfl⟩ := hr
 refine ⟨rfl, act.eval x, .inl ?_, rel_od hs.glob ht hx⟩
 rcases ho with ho | ho <;> simp [execOp, ho]
theorem sound_pick {o : Oper} {c x y : Operand} {c' x' y' : MOpd} (ho : o.op = .pick c x y) (hc : od β.G c = some c') (hx : od β.G x = some x') (hy : od β.G y = some y') :
  Sound P β o (.pick c' x' y') := by
 refine sound_keep fun F m S w a act v S' hs ht hr => ?_
 have rc := rel_od hs.glob ht hc
 have rx := rel_od hs.glob ht hx
 have ry := rel_od hs.glob ht hy
 simp only [MOp.run] at hr
 split at hr
 ·rename_i b hb
  rw [hb] at rc
  have := rc.bool_inv
  simp only [ORes.ok.injEq] at hr
  obtain ⟨_, rfl, rfl⟩ := hr
  refine ⟨rfl, if b then act.eval x else act.eval y, .inl ?_, by cases b <;> simpa⟩
  simp [execOp, ho, this, asBool]
 ·cases hr
theorem sound_nilck {o : Oper} {x : Operand} {y : MOpd} (ho : o.op = .nilCheck x) (hx : od β.G x = some y) : Sound P β o (.nilck y) := by
 refine sound_keep fun F m S w a act v S' hs ht hr => ?_
 have rx := rel_od hs.glob ht hx
 simp only [MOp.run] at hr
 split at hr <;> first | (cases hr; done) | skip
 all_goals
  rename_i hb
  rw [hb] at rx
  simp only [ORes.ok.injEq] at hr
  obtain ⟨_, rfl, rfl⟩ := hr
  refine ⟨rfl, act.eval x, .inl ?_, rx⟩
  simp only [execOp, ho]
  generalize act.eval x = v at rx
  cases rx <;> rfl
theorem sound_mkif {o : Oper} {t : TypeId} {d : TypeDesc} {x : Operand} {y : MOpd} (ho : o.op = .makeInterface t x) (hd : P.underlying t = some d) (hni : ∀ ms, d ≠ .interface ms) (hx : od β.G x = some y) :
  Sound P β o (.mkif t y) := by
 refine sound_keep fun F m S w a act v S' hs ht hr => ?_
 have rx := rel_od hs.glob ht hx
 simp only [MOp.run, ORes.ok.injEq] at hr
 obtain ⟨_, rfl, rfl⟩ := hr
 refine ⟨rfl, .iface t (act.eval x), .inl ?_, .iface t _ _ rx⟩
 simp only [execOp, ho, Instr.makeInterface]
 cases d <;> first | exact absurd rfl (hni _) | simp [run_underlying hd]
theorem mapM_some {α γ : Type} {f : α → Option γ} : ∀ {l : List α} {l' : List γ}, l.mapM f = some l' → l.length = l'.length ∧ ∀ (i : Nat) (h : i < l.length) (h' : i < l'.length), f l[i] = some l'[i]
 | [], l', h => by simp at h; subst h; exact ⟨rfl, fun i h => by simp at h⟩
 | x :: r, l', h => by
   rw [List.mapM_cons] at h
   cases hx : f x with
   | none => rw [hx] at h; simp at h
   | some y =>
     rw [hx] at h
     cases hr : r.mapM f with
     | none => rw [hr] at h; simp at h
     | some r' =>
       rw [hr] at h
       simp at h
       subst h
       obtain ⟨h1, h2⟩ := mapM_some hr
       refine ⟨by simp [h1], fun i hi hi' => ?_⟩
       cases i with
       | zero => simpa using hx
       | succ i => simpa using h2 i (by simpa using hi) (by simpa using hi')
theorem rel_ods {F m} (hg : ∀ g, Rel F m (β.G g) (.pointer (some ⟨g, 0, none⟩))) {a : Tmps} {act : Act} (h : RelT F m a act.tmps) {xs : Array Operand} {ys : List MOpd} (hx : ods β.G xs.toList = some ys) :
  (ys.map (ev a)).length = (xs.map act.eval).size ∧ ∀ i, i < (ys.map (ev a)).length → Rel F m ((ys.map (ev a)).getD i .top) ((xs.map act.eval).getD i undef) := by
 obtain ⟨h1, h2⟩ := mapM_some hx
 have hsz : (ys.map (ev a)).length = (xs.map act.eval).size := by simp [← h1]
 refine ⟨hsz, fun i hi => ?_⟩
 have hi1 : i < ys.length := by simpa using hi
 have hi2 : i < xs.size := by have := h1; simp at this; omega
 rw [getD_eq _ _ _ hi, agetD_eq _ _ _ (by simpa using hi2)]
 simp only [List.getElem_map, Array.getElem_map]
 have := h2 i (by simpa using hi2) hi1
 rw [Array.getElem_toList] at this
 exact rel_od hg h this
theorem sound_mkfn {o : Oper} {fn : Fn} {f c : Array Operand} {f' c' : List MOpd} (ho : o.op = .makeFunc fn f c) (hf : ods β.G f.toList = some f') (hc : ods β.G c.toList = some c') :
  Sound P β o (.mkfn fn f' c') := by
 refine sound_keep fun F m S w a act v S' hs ht hr => ?_
 obtain ⟨h1, h2⟩ := rel_ods hs.glob ht hf
 obtain ⟨h3, h4⟩ := rel_ods hs.glob ht hc
 simp only [MOp.run, ORes.ok.injEq] at hr
 obtain ⟨_, rfl, rfl⟩ := hr
 refine ⟨rfl, .func fn (f.map act.eval) (c.map act.eval), .inl ?_, .clo fn _ _ _ _ h1 h3 h2 h4⟩
 simp [execOp, ho, Instr.makeFunc]
theorem sound_extract {o : Oper} {x : Operand} {i : Nat} {y : MOpd} (ho : o.op = .extract x i) (hx : od β.G x = some y) : Sound P β o (.extract y i) := by
 refine sound_keep fun F m S w a act v S' hs ht hr => ?_
 have rx := rel_od hs.glob ht hx
 simp only [MOp.run] at hr
 split at hr
 ·rename_i vs hb
  rw [hb] at rx
  simp only [ORes.ok.injEq] at hr
  obtain ⟨hlt, rfl, rfl⟩ := hr
  have hlt : i < vs.length := by simpa using hlt
  generalize hv : act.eval x = v at rx
  cases rx with
  | tuple cs us hl h =>
    have hu : i < us.size := by omega
    refine ⟨rfl, us.getD i undef, .inl ?_, h i hlt⟩
    simp [execOp, ho, hv, Instr.extract, hu]
 ·cases hr
theorem tyI_spec {t : TypeId} {i : TyI} (h : tyI P t = some i) :
  ∃ d inf, P.underlying t = some d ∧ P.info? t = some inf ∧ inf.zero = some i.zero ∧ inf.size = i.size ∧ inf.bytes = i.bytes ∧ i.agg = aggD d ∧ i.zero.cells.size = i.size ∧ cellsOk i.zero = true ∧ 0 < i.size := by
 unfold tyI at h
 split at h
 ·rename_i d inf hd hi
  split at h
  ·rename_i z hz
   split at h
   ·rename_i hc
    simp only [Option.some.injEq] at h
    subst h
    exact ⟨d, inf, hd, hi, hz, rfl, rfl, rfl, hc.1, hc.2.1, hc.2.2⟩
   ·cases h
  ·cases h
 ·cases h
theorem run_sizeOf {t : TypeId} {i : TyI} (h : tyI P t = some i) (w : World) : (sizeOf t).run P w = .ok i.size w := by
 obtain ⟨d, inf, _, hi, _, hs, _⟩ := tyI_spec h
 simp [sizeOf, typeInfo, hi, hs]
theorem run_isAgg {t : TypeId} {i : TyI} (h : tyI P t = some i) (w : World) : (isAgg t).run P w = .ok i.agg w := by
 obtain ⟨d, inf, hd, _, _, _, _, ha, _⟩ := tyI_spec h
 simp only [isAgg, Sem.run_bind, run_underlying hd, Result.andThen_ok, ha]
 cases d <;> rfl
theorem run_zero {t : TypeId} {i : TyI} (h : tyI P t = some i) (w : World) : (zeroValue t).run P w = .ok i.zero w := by
 obtain ⟨d, inf, _, hi, hz, _⟩ := tyI_spec h
 simp [zeroValue, typeInfo, hi, hz]
theorem addr_add (b x n : Nat) : (⟨b, x, none⟩ : Addr).add n = ⟨b, x + n, none⟩ := Addr.add_lit b x n
theorem sound_faddr {o : Oper} {t : TypeId} {fs : Array Field} {f : Nat} {fd : Field} {x : Operand} {y : MOpd} {i : TyI} (ho : o.op = .fieldAddr t x f) (hd : P.underlying t = some (.struct fs))
  (hf : fs[f]? = some fd) (hi : tyI P fd.type = some i) (hx : od β.G x = some y) : Sound P β o (.faddr fd.offset y) := by
 refine sound_keep fun F m S w a act v S' hs ht hr => ?_
 have rx := rel_od hs.glob ht hx
 have hpos : i.size ≠ 0 := by obtain ⟨_, _, _, _, _, _, _, _, _, _, h⟩ := tyI_spec hi; omega
 have key : ∀ b off, act.eval x = .pointer (some ⟨b, off, none⟩) → (execOp act.eval o).run P w = .ok (.value (.pointer (some ⟨b, off + fd.offset, none⟩))) w := fun b off hv => by
  simp [execOp, ho, Instr.fieldAt, run_underlying hd, hf, hv, Instr.sureAddr, fieldPlace, run_sizeOf hi, hpos, addr_add]
 simp only [MOp.run, addOff] at hr
 generalize hv : act.eval x = u at rx
 split at hr
 ·rename_i id p j hb
  rw [hb] at rx
  simp only [ORes.ok.injEq] at hr
  obtain ⟨_, rfl, rfl⟩ := hr
  cases rx with
  | ptr _ _ _ q hm => exact ⟨rfl, _, .inl (key _ _ hv), by rw [Nat.add_assoc, Nat.add_assoc]; exact .ptr id p (j + fd.offset) q hm⟩
 ·rename_i es p j hb
  rw [hb] at rx
  simp only [ORes.ok.injEq] at hr
  obtain ⟨_, rfl, rfl⟩ := hr
  cases rx with
  | fptr _ _ _ b o' k vs hk hk0 h1 hF h => exact ⟨rfl, _, .inl (key _ _ hv), by rw [Nat.add_assoc, Nat.add_assoc]; exact .fptr es p (j + fd.offset) b o' k vs hk hk0 h1 hF h⟩
 ·cases hr
theorem rel_take {F m} {cs : List AVal} {vs : Array Value} (hl : cs.length = vs.size) (h1 : ∀ i, i < cs.length → (vs.getD i undef).oneCell' = true)
  (h : ∀ i, i < cs.length → Rel F m (cs.getD i .top) (vs.getD i undef)) (off k : Nat) (hk : off + k ≤ cs.length) : Rel F m (.agg ((cs.drop off).take k)) (.agg (vs.extract off (off + k))) := by
 have hlen : ((cs.drop off).take k).length = k := by simp; omega
 refine .agg _ _ (by simp; omega) (fun i hi => ?_) (fun i hi => ?_)
 all_goals
  have hi' : i < k := by omega
  have hs : i < (vs.extract off (off + k)).size := by simp; omega
  have e1 : (vs.extract off (off + k)).getD i undef = vs.getD (off + i) undef := by
   rw [agetD_eq _ _ _ hs, agetD_eq _ _ _ (by omega)]; simp
  rw [e1]
 ·exact h1 (off + i) (by omega)
 ·have e2 : ((cs.drop off).take k).getD i .top = cs.getD (off + i) .top := by
   rw [getD_eq _ _ _ (by omega), getD_eq _ _ _ (by omega)]; simp
  rw [e2]
  exact h (off + i) (by omega)
theorem rel_takeAt {F m} {cs : List AVal} {vs : Array Value} (hl : cs.length = vs.size) (h1 : ∀ i, i < cs.length → (vs.getD i undef).oneCell' = true)
  (h : ∀ i, i < cs.length → Rel F m (cs.getD i .top) (vs.getD i undef)) (agg : Bool) (off k : Nat) (hk : off + k ≤ cs.length) (hk0 : 0 < k) :
  Rel F m (takeAt agg k cs off) (if agg then .agg (vs.extract off (off + k)) else vs.getD off undef) := by
 unfold takeAt
 cases agg with
 | false => exact h off (by omega)
 | true =>
   simp only [if_true]
   split
   ·rename_i hc
    obtain ⟨rfl, rfl⟩ := hc
    have := rel_take hl h1 h 0 cs.length (by omega)
    simpa using this
   ·exact rel_take hl h1 h off k hk
theorem run_part {t : TypeId} {i : TyI} (hi : tyI P t = some i) (vs : Array Value) (off : Nat) (w : World) (h : off + i.size ≤ vs.size) :
  (part t vs off).run P w = .ok (if i.agg then .agg (vs.extract off (off + i.size)) else vs.getD off undef) w := by
 have hpos : 0 < i.size := by obtain ⟨_, _, _, _, _, _, _, _, _, _, h⟩ := tyI_spec hi; omega
 have hlt : off < vs.size := by omega
 simp only [part, Sem.run_bind, run_isAgg hi, Result.andThen_ok]
 cases i.agg
 ·simp [hlt]
 ·simp [run_sizeOf hi]
theorem sound_field {o : Oper} {t : TypeId} {fs : Array Field} {f : Nat} {fd : Field} {x : Operand} {y : MOpd} {i : TyI} (ho : o.op = .field t x f) (hd : P.underlying t = some (.struct fs))
  (hf : fs[f]? = some fd) (hi : tyI P fd.type = some i) (hx : od β.G x = some y) : Sound P β o (.field i.agg fd.offset i.size y) := by
 refine sound_keep fun F m S w a act v S' hs ht hr => ?_
 have rx := rel_od hs.glob ht hx
 have hpos : 0 < i.size := by obtain ⟨_, _, _, _, _, _, _, _, _, _, h⟩ := tyI_spec hi; omega
 simp only [MOp.run] at hr
 split at hr
 ·rename_i cs hb
  rw [hb] at rx
  simp only [ORes.ok.injEq] at hr
  obtain ⟨hlt, rfl, rfl⟩ := hr
  have hlt : fd.offset + i.size ≤ cs.length := by simpa using hlt
  generalize hv : act.eval x = v at rx
  cases rx with
  | agg _ vs hl h1 h =>
    refine ⟨rfl, _, .inl ?_, rel_takeAt hl h1 h i.agg fd.offset i.size hlt hpos⟩
    simp [execOp, ho, Instr.field, run_underlying hd, hf, hv, asAgg, run_part hi vs fd.offset w (by omega)]
 ·cases hr
end
end Go.Abs
