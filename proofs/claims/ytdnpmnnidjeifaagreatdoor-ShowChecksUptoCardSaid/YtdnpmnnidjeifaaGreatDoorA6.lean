/- The abstract machine, part 6: the operations that read. Conditions: none; lemmas. -/
import Derived.Test.YtdnpmnnidjeifaaGreatDoorA5
namespace Go.Abs
open Go Go.RowKit
section
variable {P : Program} {β : Base}
def InMem (F : Frz) (m : Pls) (w : World) (b x : Nat) (e : List AVal) : Prop :=
 ∀ j, j < e.length → ∃ v, w.cell? ⟨b, x + j, none⟩ = some v ∧ v.oneCell' = true ∧ Rel F m (e.getD j .top) v
theorem takeAt_agg (e : List AVal) (off k : Nat) : takeAt true k e off = .agg ((e.drop off).take k) := by
 unfold takeAt
 simp only [if_true]
 split
 ·rename_i h
  obtain ⟨rfl, rfl⟩ := h
  simp
 ·rfl
theorem loadVar_elem {F m w b x} {e : List AVal} (he : InMem F m w b x e) {t : TypeId} {i : TyI} (hi : tyI P t = some i) (off : Nat) (hk : off + i.size ≤ e.length) :
  ∃ u, (loadVar t ⟨b, x + off, none⟩).run P w = .ok u w ∧ Rel F m (takeAt i.agg i.size e off) u := by
 have hpos : 0 < i.size := by obtain ⟨_, _, _, _, _, _, _, _, _, _, h⟩ := tyI_spec hi; omega
 simp only [loadVar, Sem.run_bind, run_isAgg hi, Result.andThen_ok]
 cases hag : i.agg with
 | false =>
   obtain ⟨v, hv, h1, hr⟩ := he off (by omega)
   refine ⟨v, by simp [hv], ?_⟩
   simpa [takeAt] using hr
 | true =>
   let f : Nat → Value := fun j => (w.cell? ⟨b, x + off + j, none⟩).getD undef
   have hf : ∀ j, j < i.size → w.cell? ((⟨b, x + off, none⟩ : Addr).add j) = some (f j) ∧ (f j).oneCell' = true ∧ Rel F m (e.getD (off + j) .top) (f j) := fun j hj => by
    obtain ⟨v, hv, h1, hr⟩ := he (off + j) (by omega)
    rw [← Nat.add_assoc] at hv
    have : f j = v := by simp [f, hv]
    rw [this, addr_add]
    exact ⟨hv, h1, hr⟩
   have hld := run_loadCells (P := P) w ⟨b, x + off, none⟩ i.size f (fun j hj => (hf j hj).1)
   refine ⟨.agg ((List.range i.size).map f).toArray, ?_, ?_⟩
   ·simp [run_sizeOf hi, hld]
   ·rw [takeAt_agg]
    have hlen : ((e.drop off).take i.size).length = i.size := by simp; omega
    have e1 : ∀ j, j < i.size → (((List.range i.size).map f).toArray).getD j undef = f j := fun j hj => by
     rw [agetD_eq _ _ _ (by simpa using hj)]; simp
    refine .agg _ _ (by simp; omega) (fun j hj => ?_) (fun j hj => ?_)
    ·rw [e1 j (by omega)]; exact (hf j (by omega)).2.1
    ·rw [e1 j (by omega)]
     have e2 : ((e.drop off).take i.size).getD j .top = e.getD (off + j) .top := by
      rw [getD_eq _ _ _ (by omega), getD_eq _ _ _ (by omega)]; simp
     rw [e2]; exact (hf j (by omega)).2.2
theorem elem_len {es : List (List AVal)} {k i : Nat} (hk : ∀ e ∈ es, e.length = k) (hi : i < es.length) : (es.getD i []).length = k := by
 rw [getD_eq _ _ _ hi]; exact hk _ (List.getElem_mem hi)
theorem Sim.inMem {F m S w} (hs : Sim β F m S w) {id : Nat} {k : Nat} {es : List (List AVal)} {cap : Option Nat} {p : Pl} (h : S[id]? = some (.cells k es cap)) (hm : m id = some p) {i : Nat} (hi : i < es.length) :
  InMem F m w p.b (p.o + i * p.k) (es.getD i []) := by
 obtain ⟨q, hq, hok⟩ := hs.objs id _ h
 obtain rfl := Option.some.inj (hm.symm.trans hq)
 obtain ⟨rfl, _, _, _, _, h6, _, h8⟩ := hok
 intro j hj
 rw [elem_len h6 hi] at hj
 obtain ⟨v, hv, h1, hr⟩ := h8 i j hi hj
 exact ⟨v, by rw [Nat.add_assoc]; exact hv, h1, hr⟩
theorem frz_inMem {F m S w} (hs : Sim β F m S w) {es : List (List AVal)} {b o k : Nat} {vs : Nat → Nat → Value}
  (hk : ∀ e ∈ es, e.length = k) (h1 : ∀ i j, i < es.length → j < k → (vs i j).oneCell' = true)
  (hF : ∀ i j, i < es.length → j < k → F b (o + (i * k + j)) = some (vs i j)) (h : ∀ i j, i < es.length → j < k → Rel F m (cellAt es i j) (vs i j)) {i : Nat} (hi : i < es.length) :
  InMem F m w b (o + i * k) (es.getD i []) := by
 intro j hj
 rw [elem_len hk hi] at hj
 exact ⟨vs i j, by rw [Nat.add_assoc]; exact hs.agree _ _ _ (hF i j hi hj), h1 i j hi hj, h i j hi hj⟩
theorem sound_load {o : Oper} {t : TypeId} {i : TyI} {x : Operand} {y : MOpd} (ho : o.op = .load t x) (hi : tyI P t = some i) (hx : od β.G x = some y) : Sound P β o (.load i.agg i.size y) := by
 refine sound_keep fun F m S w a act v S' hs ht hr => ?_
 have rx := rel_od hs.glob ht hx
 simp only [MOp.run, loadR] at hr
 generalize hv : act.eval x = u at rx
 have key : ∀ b off, act.eval x = .pointer (some ⟨b, off, none⟩) → ∀ r, (loadVar t ⟨b, off, none⟩).run P w = .ok r w → Yields P o act w r w := fun b off he r hl => by
  refine .inl ?_
  simp [execOp, ho, Instr.loadAt, he, Instr.sureAddr, hl]
 split at hr
 ·rename_i id p j hb
  rw [hb] at rx
  split at hr
  ·rename_i k es cap hS
   simp only [ORes.ok.injEq, Bool.and_eq_true, decide_eq_true_eq] at hr
   obtain ⟨⟨hlt, hk⟩, rfl, rfl⟩ := hr
   cases rx with
   | ptr _ _ _ q hm =>
     obtain ⟨u, hu, hr⟩ := loadVar_elem (P := P) (hs.inMem hS hm hlt) hi j hk
     rw [Nat.add_assoc] at hu
     exact ⟨rfl, u, key _ _ hv _ hu, hr⟩
  ·cases hr
 ·rename_i es p j hb
  rw [hb] at rx
  simp only [ORes.ok.injEq, Bool.and_eq_true, decide_eq_true_eq] at hr
  obtain ⟨⟨hlt, hk⟩, rfl, rfl⟩ := hr
  cases rx with
  | fptr _ _ _ b o' k vs hk' hk0 h1 hF h =>
    obtain ⟨u, hu, hr⟩ := loadVar_elem (P := P) (frz_inMem hs hk' h1 hF h hlt) hi j hk
    rw [Nat.add_assoc] at hu
    exact ⟨rfl, u, key _ _ hv _ hu, hr⟩
 ·cases hr
theorem sound_iaddr {o : Oper} {t e : TypeId} {i : TyI} {x y : Operand} {x' y' : MOpd} (ho : o.op = .indexAddr t x y) (hd : P.underlying t = some (.slice e)) (hi : tyI P e = some i)
  (hx : od β.G x = some x') (hy : od β.G y = some y') : Sound P β o (.iaddr i.size x' y') := by
 refine sound_keep fun F m S w a act v S' hs ht hr => ?_
 have rx := rel_od hs.glob ht hx
 have ry := rel_od hs.glob ht hy
 simp only [MOp.run, iaddrR] at hr
 generalize hv : act.eval x = u at rx
 split at hr
 ·rename_i fl es n hb hn
  rw [hb] at rx
  simp only [ORes.ok.injEq, Bool.and_eq_true, decide_eq_true_eq] at hr
  obtain ⟨⟨⟨h0, hlt⟩, hk⟩, rfl, rfl⟩ := hr
  obtain ⟨kk, hyv⟩ := asI_inv hn ry
  have hlt' : n.toNat < es.length := by omega
  cases rx with
  | nil cap hc => simp at hlt'
  | list _ _ ad n' cap b o' k vs hfl hn' hcap hfull hk' hk0 hA hA0 ha h1 hF h =>
    have hne : es ≠ [] := by rintro rfl; simp at hlt'
    obtain rfl := ha hne
    have hkk : k = i.size := by rw [elem_len hk' hlt'] at hk; exact hk
    subst hkk
    refine ⟨rfl, .pointer (some ⟨b, o' + (n.toNat * i.size + 0), none⟩), .inl ?_, .fptr es n.toNat 0 b o' i.size vs hk' hk0 h1 hF h⟩
    have hlt2 : n < (n' : Int) := by omega
    simp [execOp, ho, Instr.indexAt, hv, hyv, asIntOf, run_underlying hd, h0, hlt2, run_sizeOf hi, addr_add]
 ·rename_i id off len n hb hn
  rw [hb] at rx
  split at hr
  ·rename_i k es cap hS
   simp only [ORes.ok.injEq, Bool.and_eq_true, decide_eq_true_eq] at hr
   obtain ⟨⟨⟨h0, hlt⟩, hk⟩, rfl, rfl⟩ := hr
   obtain ⟨kk, hyv⟩ := asI_inv hn ry
   cases rx with
   | row _ _ _ A cap' p hm hl hc hA hN =>
     have hA' := hA (by omega)
     subst hA'
     obtain ⟨q, hq, hok⟩ := hs.objs id _ hS
     obtain rfl := Option.some.inj (hm.symm.trans hq)
     have hpk : p.k = i.size := by rw [hok.1]; exact hk
     refine ⟨rfl, .pointer (some ⟨p.b, p.o + ((off + n.toNat) * p.k + 0), none⟩), .inl ?_, .ptr id (off + n.toNat) 0 p hm⟩
     have hlt2 : n < (len : Int) := by omega
     simp [execOp, ho, Instr.indexAt, hv, hyv, asIntOf, run_underlying hd, h0, hlt2, run_sizeOf hi, addr_add, hpk, Nat.add_mul, Nat.add_assoc]
  ·cases hr
 ·cases hr
theorem sound_iaddrA {o : Oper} {t e : TypeId} {i : TyI} {n : Nat} {x y : Operand} {x' y' : MOpd} (ho : o.op = .indexAddr t x y) (hd : P.underlying t = some (.array n e)) (hi : tyI P e = some i)
  (hx : od β.G x = some x') (hy : od β.G y = some y') : Sound P β o (.iaddrA n i.size x' y') := by
 refine sound_keep fun F m S w a act v S' hs ht hr => ?_
 have rx := rel_od hs.glob ht hx
 have ry := rel_od hs.glob ht hy
 simp only [MOp.run] at hr
 generalize hv : act.eval x = u at rx
 split at hr
 ·rename_i q hq
  obtain ⟨kk, hyv⟩ := asI_inv hq ry
  simp only [addOff] at hr
  split at hr
  ·rename_i s v1 S1 hres
   simp only [ORes.ok.injEq, Bool.and_eq_true, decide_eq_true_eq] at hr
   obtain ⟨⟨hs1, h0, hlt⟩, rfl, rfl⟩ := hr
   have key : ∀ b off, act.eval x = .pointer (some ⟨b, off, none⟩) → Yields P o act w (.pointer (some ⟨b, off + q.toNat * i.size, none⟩)) w := fun b off he => by
    refine .inl ?_
    simp [execOp, ho, Instr.indexAt, he, hyv, asIntOf, run_underlying hd, Instr.sureAddr, h0, hlt, run_sizeOf hi, addr_add]
   split at hres
   ·rename_i id p j hb
    rw [hb] at rx
    simp only [ORes.ok.injEq] at hres
    obtain ⟨_, rfl, rfl⟩ := hres
    cases rx with
    | ptr _ _ _ pl hm =>
      refine ⟨rfl, _, key _ _ hv, ?_⟩
      rw [Nat.add_assoc, Nat.add_assoc]; exact .ptr id p (j + q.toNat * i.size) pl hm
   ·rename_i es p j hb
    rw [hb] at rx
    simp only [ORes.ok.injEq] at hres
    obtain ⟨_, rfl, rfl⟩ := hres
    cases rx with
    | fptr _ _ _ b o' k vs hk' hk0 h1 hF h =>
      refine ⟨rfl, _, key _ _ hv, ?_⟩
      rw [Nat.add_assoc, Nat.add_assoc]; exact .fptr es p (j + q.toNat * i.size) b o' k vs hk' hk0 h1 hF h
   ·cases hres
  ·rename_i hres
   split at hr <;> simp_all
 ·cases hr
theorem sound_idxS {o : Oper} {t : TypeId} {x y : Operand} {x' y' : MOpd} (ho : o.op = .index t x y) (hd : P.underlying t = some .string)
  (hx : od β.G x = some x') (hy : od β.G y = some y') : Sound P β o (.idxS x' y') := by
 refine sound_keep fun F m S w a act v S' hs ht hr => ?_
 have rx := rel_od hs.glob ht hx
 have ry := rel_od hs.glob ht hy
 simp only [MOp.run] at hr
 split at hr
 ·rename_i l q hb hq
  rw [hb] at rx
  have hv := rx.str_inv
  obtain ⟨kk, hyv⟩ := asI_inv hq ry
  simp only [ORes.ok.injEq, decide_eq_true_eq] at hr
  obtain ⟨⟨h0, hlt⟩, rfl, rfl⟩ := hr
  have hlt' : q.toNat < l.length := by omega
  refine ⟨rfl, _, .inl ?_, .atom _⟩
  have hg : (⟨l.toArray⟩ : ByteArray)[q.toNat]? = some l[q.toNat] := by
   show (if h : q.toNat < (⟨l.toArray⟩ : ByteArray).size then some ((⟨l.toArray⟩ : ByteArray)[q.toNat]) else none) = _
   rw [dif_pos (by simpa [ByteArray.size] using hlt')]
   rfl
  simp [execOp, ho, Instr.index, hv, hyv, asIntOf, run_underlying hd, h0, hg, hlt']
 ·cases hr
theorem sound_lenStr {o : Oper} {t : TypeId} {ts : Array TypeId} {x : Operand} {x' : MOpd} (ho : o.op = .call { callee := .builtin .len, args := #[x], argTypes := ts }) (h0 : ts[0]? = some t) (hd : P.underlying t = some .string)
  (hx : od β.G x = some x') : Sound P β o (.lenStr x') := by
 refine sound_keep fun F m S w a act v S' hs ht hr => ?_
 have rx := rel_od hs.glob ht hx
 simp only [MOp.run] at hr
 split at hr
 ·rename_i l hb
  rw [hb] at rx
  have hv := rx.str_inv
  simp only [ORes.ok.injEq] at hr
  obtain ⟨_, rfl, rfl⟩ := hr
  refine ⟨rfl, _, .inl ?_, .atom _⟩
  have hsz : (⟨l.toArray⟩ : ByteArray).size = l.length := by simp [ByteArray.size]
  simp [execOp, ho, resolve, invoke, builtin, Builtin.len_, h0, hv, run_underlying hd, goInt, hsz]
 ·cases hr
theorem sound_lenS {o : Oper} {t e : TypeId} {ts : Array TypeId} {x : Operand} {x' : MOpd} (ho : o.op = .call { callee := .builtin .len, args := #[x], argTypes := ts }) (h0 : ts[0]? = some t) (hd : P.underlying t = some (.slice e))
  (hx : od β.G x = some x') : Sound P β o (.lenS x') := by
 refine sound_keep fun F m S w a act v S' hs ht hr => ?_
 have rx := rel_od hs.glob ht hx
 have key : ∀ A n c, act.eval x = .slice A n c → Yields P o act w (.int .i64 n) w := fun A n c hv => by
  refine .inl ?_
  simp [execOp, ho, resolve, invoke, builtin, Builtin.len_, h0, hv, run_underlying hd, goInt]
 simp only [MOp.run, lenR] at hr
 generalize hv : act.eval x = u at rx
 split at hr
 ·rename_i fl es hb
  rw [hb] at rx
  simp only [ORes.ok.injEq] at hr
  obtain ⟨_, rfl, rfl⟩ := hr
  cases rx with
  | nil cap hc => exact ⟨rfl, _, key _ _ _ hv, .atom _⟩
  | list _ _ ad n' cap b o' k vs hfl hn' hcap hfull hk' hk0 hA hA0 ha h1 hF h => subst hn'; exact ⟨rfl, _, key _ _ _ hv, .atom _⟩
 ·rename_i id off len hb
  rw [hb] at rx
  simp only [ORes.ok.injEq] at hr
  obtain ⟨_, rfl, rfl⟩ := hr
  cases rx with
  | row _ _ _ A cap' p hm hl hc hA hN => exact ⟨rfl, _, key _ _ _ hv, .atom _⟩
 ·cases hr
theorem sound_lenM {o : Oper} {t k e : TypeId} {ts : Array TypeId} {x : Operand} {x' : MOpd} (ho : o.op = .call { callee := .builtin .len, args := #[x], argTypes := ts }) (h0 : ts[0]? = some t) (hd : P.underlying t = some (.map k e))
  (hx : od β.G x = some x') : Sound P β o (.lenM x') := by
 refine sound_keep fun F m S w a act v S' hs ht hr => ?_
 have rx := rel_od hs.glob ht hx
 simp only [MOp.run] at hr
 generalize hv : act.eval x = u at rx
 split at hr
 ·rename_i hb
  rw [hb] at rx
  obtain rfl := rx.atom_eq
  simp only [ORes.ok.injEq] at hr
  obtain ⟨_, rfl, rfl⟩ := hr
  refine ⟨rfl, _, .inl ?_, .atom _⟩
  simp [execOp, ho, resolve, invoke, builtin, Builtin.len_, h0, hv, run_underlying hd, goInt]
 ·rename_i id hb
  rw [hb] at rx
  split at hr
  ·rename_i kvs c hS
   simp only [ORes.ok.injEq] at hr
   obtain ⟨_, rfl, rfl⟩ := hr
   cases rx with
   | mapv _ p hm =>
     obtain ⟨q, hq, hok⟩ := hs.objs id _ hS
     obtain rfl := Option.some.inj (hm.symm.trans hq)
     obtain ⟨_, es, hes, hsz, _⟩ := hok
     refine ⟨rfl, _, .inl ?_, .atom _⟩
     simp [execOp, ho, resolve, invoke, builtin, Builtin.len_, h0, hv, run_underlying hd, goInt, getObj, Sem.run, hes, hsz]
  ·cases hr
 ·cases hr
end
end Go.Abs
