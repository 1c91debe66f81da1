/- The abstract machine, part 13: slices that are made, appended to, copied and cleared. Conditions: none; lemmas. -/
import Derived.Test.YtdnpmnnidjeifaaGreatDoorA12
import Derived.Laws.MakeOwn
namespace Go.Abs
open Go Go.RowKit
section
variable {P : Program} {β : Base}
theorem wrap64_in {n : Int} (h0 : -9223372036854775808 ≤ n) (h1 : n ≤ 9223372036854775807) : IntKind.i64.wrap n = n := by
 unfold IntKind.wrap
 simp only [IntKind.bits, IntKind.signed, Bool.true_and]
 have e1 : ((2 ^ 64 : Nat) : Int) = 18446744073709551616 := by decide
 have e2 : ((2 : Int) ^ 64) = 18446744073709551616 := by decide
 have e3 : ((2 : Int) ^ (64 - 1)) = 9223372036854775808 := by decide
 simp only [e2, e3]
 split
 ·rename_i h
  simp only [ge_iff_le, decide_eq_true_eq] at h
  omega
 ·rename_i h
  simp only [ge_iff_le, decide_eq_true_eq] at h
  omega
theorem sound_mkslice {o : Oper} {t e : TypeId} {i : TyI} {l c : Operand} {l' c' : MOpd} (ho : o.op = .makeSlice t l c) (hd : P.underlying t = some (.slice e)) (hi : tyI P e = some i)
  (hl : od β.G l = some l') (hc : od β.G c = some c') : Sound P β o (.mkslice i.size i.bytes i.z l' c') := by
 intro F m S w a act v S' hs ht hr
 have rl := rel_od hs.glob ht hl
 have rc := rel_od hs.glob ht hc
 simp only [MOp.run, mkslR] at hr
 split at hr
 ·rename_i k1 n k2 q h1 h2
  rw [h1] at rl
  rw [h2] at rc
  have el := rl.int_inv
  have ec := rc.int_inv
  simp only [ORes.ok.injEq, Bool.and_eq_true, decide_eq_true_eq] at hr
  obtain ⟨⟨⟨⟨hn0, hnq, hb, hq⟩, hz⟩, hpos⟩, rfl, rfl⟩ := hr
  obtain ⟨_, inf, _, hinf, hz0, hsz, hby, _⟩ := tyI_spec hi
  have hrel := relE_zero (P := P) (F := F) (m := m) hi q.toNat
  have hsim := hs.allocRow ((Array.range (q.toNat * i.size)).map (i.zero.cells[· % i.zero.cells.size]!)) e i.size q.toNat (List.replicate q.toNat i.z) (some q.toNat) hpos (by simp) (by simp) (fun c hc => by simpa using hc) hrel.2.1 hrel.2.2
  refine ⟨.slice (some ⟨w.heap.size, 0, none⟩) n.toNat q.toNat, _, F, _, .inl ?_, Ext.put hs _, hsim, .row S.length 0 n.toNat _ q.toNat ⟨w.heap.size, 0, i.size, q.toNat⟩ (by simp [Pls.put]) (by omega) (by simp) (fun _ => by simp) (fun _ => rfl)⟩
  have hrun := run_make w t e inf i.zero hd hinf hz0 k1 k2 n q hn0 hnq (by rw [hby, Int.mul_comm]; omega) (by omega)
  simp only [execOp, ho, el, ec, Sem.run_bind, hrun, Result.andThen_ok, Sem.run_pure, hsz, madeCells]
 ·cases hr
theorem news_of {F m S w} (hs : Sim β F m S w) {y : AVal} {v : Value} {ys : List (List AVal)} {k : Nat} (r : Rel F m y v)
  (h : srcOf S y = some (true, ys)) (hk : ∀ e ∈ ys, e.length = k) (hk0 : 0 < k) :
  ∃ vs : Array Value, RelE F m k ys vs ∧ (Builtin.lenOf v).run P w = .ok ys.length w ∧ ∀ n, n ≤ ys.length → ∀ w', Below w.heap.size w w' → (Builtin.firstCells k n v).run P w' = .ok (vs.extract 0 (n * k)) w' := by
 by_cases hstr : ∃ l, y = .str l
 ·obtain ⟨l, rfl⟩ := hstr
  simp only [srcOf, Option.some.injEq, Prod.mk.injEq, true_and] at h
  subst h
  have hv := r.str_inv
  subst hv
  refine ⟨(l.map fun b => Value.int .u8 b.toNat).toArray, ⟨?_, hk, fun i j hi hj => ?_⟩, by simp [Builtin.lenOf, size_mk], fun n hn w' _ => ?_⟩
  ·cases l with
   | nil => simp
   | cons b l =>
     have : k = 1 := by have := hk (u8 b) (by simp); simp [u8] at this; exact this.symm
     subst this; simp
  ·have hi' : i < l.length := by simpa using hi
   have hk1 : k = 1 := by have := hk (u8 l[i]) (List.mem_map.2 ⟨_, List.getElem_mem hi', rfl⟩); simp [u8] at this; exact this.symm
   subst hk1
   have : j = 0 := by omega
   subst this
   simp only [Nat.mul_one, Nat.add_zero]
   rw [agetD_eq _ _ _ (by simpa using hi')]
   refine ⟨by simp [Value.oneCell'], ?_⟩
   have : cellAt (l.map u8) i 0 = .atom (.int .u8 (l[i]).toNat) := by simp [cellAt, List.getD, hi', u8]
   rw [this]
   simp
   exact .atom _
  ·have hn' : n ≤ l.length := by simpa using hn
   simp only [Builtin.firstCells, Sem.run_pure]
   congr 1
   rcases Nat.eq_zero_or_pos n with h0 | h0
   ·subst h0; apply Array.ext'; simp
   ·have hk1 : k = 1 := by
     cases l with
     | nil => simp at hn'; omega
     | cons b l => have := hk (u8 b) (by simp); simp [u8] at this; exact this.symm
    subst hk1
    apply Array.ext'
    simp [List.extract_eq_take_drop]
 ·have h : elemsOf S y = some (true, ys) := by
   cases y <;> first | exact h | exact absurd ⟨_, rfl⟩ hstr
  obtain ⟨A, cap, rfl, hne⟩ := elems_at hs r h hk
  by_cases h0 : ys = []
  ·subst h0
   refine ⟨#[], ⟨by simp, by simp, fun i j hi => by simp at hi⟩, rfl, fun n hn w' _ => ?_⟩
   have : n = 0 := by simpa using hn
   subst this
   cases A with
   | none => simp [Builtin.firstCells]
   | some a => simp [Builtin.firstCells, loadCells, loadCellsFrom]
  ·obtain ⟨b, x, rfl, hin⟩ := hne h0
   let f : Nat → Value := fun q => (w.cell? ⟨b, x + q, none⟩).getD undef
   have hf : ∀ i j, i < ys.length → j < k → w.cell? ⟨b, x + (i * k + j), none⟩ = some (f (i * k + j)) ∧ (f (i * k + j)).oneCell' = true ∧ Rel F m (cellAt ys i j) (f (i * k + j)) := fun i j hi hj => by
    obtain ⟨u, hu, h1, hr⟩ := hin i hi j (by rw [elem_len hk hi]; exact hj)
    rw [Nat.add_assoc] at hu
    have : f (i * k + j) = u := by simp [f, hu]
    rw [this]; exact ⟨hu, h1, hr⟩
   have hcell : ∀ q, q < ys.length * k → w.cell? ⟨b, x + q, none⟩ = some (f q) := fun q hq => by
    have hd : q / k < ys.length := by rw [Nat.div_lt_iff_lt_mul hk0]; exact hq
    have := (hf (q / k) (q % k) hd (Nat.mod_lt _ hk0)).1
    rwa [Nat.mul_comm, Nat.div_add_mod] at this
   refine ⟨((List.range (ys.length * k)).map f).toArray, ⟨by simp, hk, fun i j hi hj => ?_⟩, rfl, fun n hn w' hb => ?_⟩
   ·have hlt := idx_lt hi hj
    rw [agetD_eq _ _ _ (by simpa using hlt)]
    simp only [List.getElem_toArray, List.getElem_map, List.getElem_range]
    exact (hf i j hi hj).2
   ·have hnk : n * k ≤ ys.length * k := Nat.mul_le_mul_right _ hn
    have := run_loadCells (P := P) w' ⟨b, x, none⟩ (n * k) f (fun q hq => by
     rw [addr_add, hb.cell (p := ⟨b, x + q, none⟩) (World.block_lt_of_cell? w _ (hcell q (by omega)))]
     exact hcell q (by omega))
    simp only [Builtin.firstCells, this]
    congr 1
    apply Array.ext'
    simp [List.extract_eq_take_drop, ← List.map_take, List.take_range, Nat.min_eq_left hnk]
theorem RelE.append {F m k} {xs ys : List (List AVal)} {us vs : Array Value} (h : RelE F m k xs us) (h' : RelE F m k ys vs) : RelE F m k (xs ++ ys) (us ++ vs) := by
 refine ⟨by simp [h.1, h'.1, Nat.add_mul], fun e he => ?_, fun i j hi hj => ?_⟩
 ·rcases List.mem_append.1 he with h1 | h1
  ·exact h.2.1 e h1
  ·exact h'.2.1 e h1
 ·by_cases hl : i < xs.length
  ·have hlt := idx_lt hl hj
   have e1 : (us ++ vs).getD (i * k + j) undef = us.getD (i * k + j) undef := by
    have hu : i * k + j < us.size := by rw [h.1]; exact hlt
    rw [agetD_eq _ _ _ (by simp; omega), agetD_eq _ _ _ hu, Array.getElem_append_left hu]
   have e2 : cellAt (xs ++ ys) i j = cellAt xs i j := by simp [cellAt, List.getD, List.getElem?_append_left hl]
   rw [e1, e2]; exact h.2.2 i j hl hj
  ·have hi' : i - xs.length < ys.length := by simp at hi; omega
   have hlt := idx_lt hi' hj
   have hik : i * k + j - us.size = (i - xs.length) * k + j := by
    rw [h.1, Nat.sub_mul]
    have : xs.length * k ≤ i * k := Nat.mul_le_mul_right _ (by omega)
    omega
   have hge : us.size ≤ i * k + j := by
    rw [h.1]
    have : xs.length * k ≤ i * k := Nat.mul_le_mul_right _ (by omega)
    omega
   have e1 : (us ++ vs).getD (i * k + j) undef = vs.getD ((i - xs.length) * k + j) undef := by
    have hv : (i - xs.length) * k + j < vs.size := by rw [h'.1]; exact hlt
    rw [agetD_eq _ _ _ (by simp; omega), agetD_eq _ _ _ hv, Array.getElem_append_right hge]
    simp [hik]
   have e2 : cellAt (xs ++ ys) i j = cellAt ys (i - xs.length) j := by simp [cellAt, List.getD, List.getElem?_append_right (show xs.length ≤ i by omega)]
   rw [e1, e2]; exact h'.2.2 _ j hi' hj
theorem run_append_new {w : World} {ts : Array TypeId} {ty st e xt : TypeId} {i : TyI} {A : Option Addr} {len cap n : Nat} {v : Value} {us vs : Array Value} (h0 : ts[0]? = some st) (h1 : ts[1]? = some xt) (hd : P.underlying st = some (.slice e))
  (hx : P.underlying xt = some .string ∨ ∃ e', P.underlying xt = some (.slice e')) (hi : tyI P e = some i) (hlen : (Builtin.lenOf v).run P w = .ok n w) (hcap : cap < len + n) (hb : (len + n) * i.bytes ≤ 140737488355328) (hs : len + n ≤ 4611686018427387903)
  (hu : (Builtin.firstCells i.size len (.slice A len cap)).run P w.drew = .ok us w.drew) (hv : (Builtin.firstCells i.size n v).run P w.drew = .ok vs w.drew) :
  ∃ c, len + n ≤ c ∧ (Builtin.append_ ts ty #[.slice A len cap, v]).run P w = .ok (.slice (some ⟨w.heap.size, 0, none⟩) (len + n) c) (w.drew.alloc (.cells (us ++ vs ++ Builtin.zeroCells i.zero.cells (c - (len + n))) e)) := by
 obtain ⟨_, inf, _, hinf, hz0, hsz, hby, _⟩ := tyI_spec hi
 have hfit := growslice_fits (bytes := i.bytes) hcap hb
 refine ⟨Question.cut (.appendCap (len + n) cap e) (w.tape w.drawn (.appendCap (len + n) cap e)), by simp only [Question.cut]; omega, ?_⟩
 have hn : ¬ (len + n ≤ cap) := by omega
 have h63 : ¬ (9223372036854775807 < ((len : Int) + (n : Int))) := by omega
 have h48 : ¬ (281474976710656 < Builtin.nextslicecap (len + n) cap * i.bytes) := by omega
 rcases hx with hx | ⟨e', hx⟩
 all_goals simp [Builtin.append_, h0, h1, run_underlying hd, run_underlying hx, run_sizeOf hi, typeInfo, hinf, hby, hlen, hn, h63, h48, Question.forced, hu, hv, newRow, run_zero hi]
theorem run_append_fit {w : World} {ts : Array TypeId} {ty st e xt : TypeId} {i : TyI} {A : Option Addr} {len cap n : Nat} {v : Value} {vs : Array Value} (h0 : ts[0]? = some st) (h1 : ts[1]? = some xt) (hd : P.underlying st = some (.slice e))
  (hx : P.underlying xt = some .string ∨ ∃ e', P.underlying xt = some (.slice e')) (hi : tyI P e = some i) (hlen : (Builtin.lenOf v).run P w = .ok n w) (hcap : len + n ≤ cap)
  (hv : (Builtin.firstCells i.size n v).run P w = .ok vs w) :
  (A = none → (Builtin.append_ ts ty #[.slice A len cap, v]).run P w = .ok (.slice A (len + n) cap) w) ∧
  ∀ ad w', A = some ad → (storeCells (ad.add (len * i.size)) vs.toList).run P w = .ok () w' → (Builtin.append_ ts ty #[.slice A len cap, v]).run P w = .ok (.slice A (len + n) cap) w' := by
 refine ⟨?_, ?_⟩
 ·rintro rfl
  rcases hx with hx | ⟨e', hx⟩
  all_goals simp [Builtin.append_, h0, h1, run_underlying hd, run_underlying hx, run_sizeOf hi, hlen, hcap, hv]
 ·rintro ad w' rfl hst
  rcases hx with hx | ⟨e', hx⟩
  all_goals simp [Builtin.append_, h0, h1, run_underlying hd, run_underlying hx, run_sizeOf hi, hlen, hcap, hv, hst]
theorem zeroCells_size (z : Array Value) (n : Nat) : (Builtin.zeroCells z n).size = n * z.size := by simp [Builtin.zeroCells]
theorem extract_all {vs : Array Value} {n : Nat} (h : vs.size = n) : vs.extract 0 n = vs := by
 subst h; simp
theorem getD_append_left {us vs : Array Value} {q : Nat} (h : q < us.size) : (us ++ vs).getD q undef = us.getD q undef := by
 rw [agetD_eq _ _ _ (by simp; omega), agetD_eq _ _ _ h, Array.getElem_append_left h]
theorem Sim.allocE {F m S w} (hs : Sim β F m S w) {k : Nat} {es : List (List AVal)} {arr : Array Value} (hr : RelE F m k es arr) (hk0 : 0 < k) (T : TypeId) (c : Nat) (rest : Array Value) (hle : es.length ≤ c) (hrest : rest.size = (c - es.length) * k) :
  Sim β F (m.put S.length ⟨w.heap.size, 0, k, c⟩) (S ++ [.cells k es none]) (w.alloc (.cells (arr ++ rest) T)) :=
 hs.allocRow (arr ++ rest) T k c es none hk0 (by rw [Array.size_append, hr.1, hrest, ← Nat.add_mul]; congr 1; omega) hle (by simp) hr.2.1 (fun i j hi hj => by
  rw [getD_append_left (by rw [hr.1]; exact idx_lt hi hj)]; exact hr.2.2 i j hi hj)
theorem sound_append {o : Oper} {ts : Array TypeId} {st e xt : TypeId} {i : TyI} {x y : Operand} {x' y' : MOpd} (ho : o.op = .call { callee := .builtin .append, args := #[x, y], argTypes := ts }) (h0 : ts[0]? = some st) (h1 : ts[1]? = some xt)
  (hd : P.underlying st = some (.slice e)) (hxt : P.underlying xt = some .string ∨ ∃ e', P.underlying xt = some (.slice e')) (hi : tyI P e = some i) (hx : od β.G x = some x') (hy : od β.G y = some y') : Sound P β o (.append i.size i.bytes x' y') := by
 intro F m S w a act v S' hs ht hr
 have rx := rel_od hs.glob ht hx
 have ry := rel_od hs.glob ht hy
 obtain ⟨_, _, _, _, _, _, _, _, hzs, _, hk0⟩ := tyI_spec hi
 simp only [MOp.run, appendR] at hr
 generalize ev a x' = p at rx hr
 generalize ev a y' = q at ry hr
 have yields : ∀ r w', (Builtin.append_ ts o.type #[act.eval x, act.eval y]).run P w = .ok r w' → Yields P o act w r w' := fun r w' h => by
  refine .inl ?_
  simp [execOp, ho, resolve, invoke, builtin, h]
 generalize hux : act.eval x = u at rx yields
 generalize huy : act.eval y = vy at ry yields
 have hnews : ∀ s2 ys, srcOf S q = some (s2, ys) → s2 = true → (∀ e ∈ ys, e.length = i.size) → ∃ vs : Array Value, RelE F m i.size ys vs ∧ (Builtin.lenOf vy).run P w = .ok ys.length w ∧ ∀ w', Below w.heap.size w w' → (Builtin.firstCells i.size ys.length vy).run P w' = .ok vs w' := fun s2 ys h h2 hk => by
  subst h2
  obtain ⟨vs, v1, v2, v3⟩ := news_of (P := P) hs ry h hk hk0
  exact ⟨vs, v1, v2, fun w' hb => by rw [v3 _ (Nat.le_refl _) w' hb, extract_all v1.1]⟩
 split at hr
 ·cases hr
 ·rename_i s2 ys hys
  have hbd : Below w.heap.size w w.drew := (Below.refl _ _).drew
  have hbr : Below w.heap.size w w := Below.refl _ _
  split at hr
  ·rename_i fl
   simp only [ORes.ok.injEq, Bool.and_eq_true, Bool.or_eq_true, decide_eq_true_eq, Nat.zero_add] at hr
   obtain ⟨⟨⟨⟨⟨⟨hs2, hyk⟩, _⟩, hbytes⟩, hbig⟩, hfl⟩, rfl, rfl⟩ := hr
   obtain ⟨vs, v1, v2, v3⟩ := hnews s2 ys hys hs2 hyk
   have hu : ∃ A, u = .slice A 0 0 := by
    cases rx with
    | nil cap hc => exact ⟨none, by rw [hc]⟩
    | list _ _ ad n' cap b o' k vs hfl' hn' hcap hfull hk' hk0 hA hA0 ha h1 hF h =>
      have hn0 : n' = 0 := by simpa using hn'
      subst hn0
      rcases hfl with hfl | hfl
      ·exact absurd hfl hfl'
      ·exact ⟨ad, by rw [hfull hfl]⟩
   obtain ⟨A, rfl⟩ := hu
   by_cases hy0 : ys = []
   ·subst hy0
    have hvs : vs = #[] := by apply Array.eq_empty_of_size_eq_zero; simpa using v1.1
    subst hvs
    obtain ⟨f1, f2⟩ := run_append_fit (ty := o.type) (A := A) (len := 0) (cap := 0) h0 h1 hd hxt hi v2 (by simp) (v3 w hbr)
    have hrun : (Builtin.append_ ts o.type #[.slice A 0 0, vy]).run P w = .ok (.slice A 0 0) w := by
     cases A with
     | none => exact f1 rfl
     | some ad => exact f2 ad w rfl rfl
    have hsim := hs.push (.cells i.size [] none) ⟨β.w0.heap.size, 0, i.size, 0⟩ ⟨rfl, by simp, Nat.le_refl _, hk0, by simp, by simp, fun x hx hx' => by simp only [Nat.zero_mul] at hx'; omega, fun p j hp => by simp at hp⟩ (fun id o' p' _ _ b x _ hn => by obtain ⟨_, h1, h2⟩ := hn; simp only [Nat.zero_mul] at h2; omega)
    exact ⟨_, _, F, _, yields _ _ hrun, Ext.put hs _, hsim, .row S.length 0 0 A 0 ⟨β.w0.heap.size, 0, i.size, 0⟩ (by simp [Pls.put]) (Nat.le_refl _) rfl (fun h => absurd h (by simp)) (fun h => absurd h (by simp))⟩
   ·have hpos : 0 < ys.length := List.length_pos_iff.2 hy0
    have hfirst : (Builtin.firstCells i.size 0 (.slice A 0 0)).run P w.drew = .ok #[] w.drew := by
     cases A <;> simp [Builtin.firstCells, loadCells, loadCellsFrom]
    obtain ⟨c, hc, hrun⟩ := run_append_new (ty := o.type) (A := A) (len := 0) (cap := 0) h0 h1 hd hxt hi v2 (by omega) (by simpa using hbytes) (by omega) hfirst (v3 _ hbd)
    simp only [Nat.zero_add, Array.empty_append] at hrun hc
    have hsim := hs.drew.allocE v1 hk0 e c (Builtin.zeroCells i.zero.cells (c - ys.length)) hc (by rw [zeroCells_size, hzs])
    exact ⟨_, _, F, _, yields _ _ hrun, Ext.put hs _, hsim, .row S.length 0 ys.length _ c ⟨w.drew.heap.size, 0, i.size, c⟩ (by simp [Pls.put]) hc (by simp) (fun _ => by simp) (fun _ => rfl)⟩
  ·rename_i fl es hnn
   have hne : es ≠ [] := hnn
   by_cases hy0 : ys = []
   ·rw [if_pos hy0] at hr
    simp only [ORes.ok.injEq, Bool.and_eq_true, decide_eq_true_eq] at hr
    obtain ⟨⟨⟨⟨⟨⟨⟨hs2, hyk⟩, _⟩, hbytes⟩, hbig⟩, hek⟩, hfl⟩, rfl, rfl⟩ := hr
    obtain ⟨vs, v1, v2, v3⟩ := hnews s2 ys hys hs2 hyk
    have rx0 := rx
    cases rx with
    | nil cap hc => exact absurd rfl hne
    | list _ _ ad n' cap b o' k vs' hfl' hn' hcap hfull hk' hk0' hA hA0 ha h1' hF h =>
      subst hn'
      have hcap' := hfull hfl
      subst hcap'
      subst hy0
      have hvs : vs = #[] := by apply Array.eq_empty_of_size_eq_zero; simpa using v1.1
      subst hvs
      obtain ⟨f1, f2⟩ := run_append_fit (ty := o.type) (A := ad) (len := es.length) (cap := es.length) h0 h1 hd hxt hi v2 (by simp) (v3 w hbr)
      have had := ha hne
      subst had
      have hrun := f2 _ w rfl rfl
      refine ⟨_, _, F, m, yields _ _ hrun, Ext.refl F m, hs, ?_⟩
      simpa using rx0
   rw [if_neg hy0] at hr
   simp only [ORes.ok.injEq, Bool.and_eq_true, decide_eq_true_eq] at hr
   obtain ⟨⟨⟨⟨⟨⟨⟨hs2, hyk⟩, _⟩, hbytes⟩, hbig⟩, hek⟩, hfl⟩, rfl, rfl⟩ := hr
   obtain ⟨vs, v1, v2, v3⟩ := hnews s2 ys hys hs2 hyk
   obtain ⟨us, u1, u2, u3⟩ := news_of (P := P) (ys := es) hs rx rfl hek hk0
   have u3' := fun w' hb => by have := u3 es.length (Nat.le_refl _) w' hb; rwa [extract_all u1.1] at this
   cases rx with
   | nil cap hc => exact absurd rfl hne
   | list _ _ ad n' cap b o' k vs' hfl' hn' hcap hfull hk' hk0' hA hA0 ha h1' hF h =>
     subst hn'
     have hcap' := hfull hfl
     subst hcap'
     have hpos : 0 < ys.length := List.length_pos_iff.2 hy0
     obtain ⟨c, hc, hrun⟩ := run_append_new (ty := o.type) (A := ad) (len := es.length) (cap := es.length) h0 h1 hd hxt hi v2 (by omega) hbytes (by omega) (u3' _ hbd) (v3 _ hbd)
     have hrel := u1.append v1
     have hsim := hs.drew.allocE hrel hk0 e c (Builtin.zeroCells i.zero.cells (c - (es.length + ys.length))) (by simpa using hc) (by rw [zeroCells_size, hzs, List.length_append])
     exact ⟨_, _, F, _, yields _ _ hrun, Ext.put hs _, hsim, .row S.length 0 (es.length + ys.length) _ c ⟨w.drew.heap.size, 0, i.size, c⟩ (by simp [Pls.put]) hc (by simp) (fun _ => by simp) (fun _ => rfl)⟩
  ·rename_i id off len
   split at hr
   ·rename_i k es cp hS
    simp only [ORes.ok.injEq, Bool.and_eq_true, decide_eq_true_eq] at hr
    obtain ⟨⟨⟨⟨⟨⟨⟨hs2, hyk⟩, _⟩, hbytes⟩, hbig⟩, rfl⟩, hle⟩, rfl, rfl⟩ := hr
    obtain ⟨vs, v1, v2, v3⟩ := hnews s2 ys hys hs2 hyk
    have hold : ((es.drop off).take len).length = len := by simp; omega
    cases rx with
    | row _ _ _ A cap pl hm hl hc hA hN =>
      obtain ⟨pl', hq', hok⟩ := hs.objs id _ hS
      obtain rfl := Option.some.inj (hm.symm.trans hq')
      obtain ⟨hpk, h2, h3, h4, h5, h6, h7, h8⟩ := hok
      have rx' : Rel F m (.row id off len) (.slice A len cap) := .row id off len A cap pl hm hl hc hA hN
      by_cases hroom : len + ys.length ≤ cap
      ·obtain ⟨f1, f2⟩ := run_append_fit (ty := o.type) (A := A) (len := len) (cap := cap) h0 h1 hd hxt hi v2 hroom (v3 w hbr)
       have hmul : off * i.size + (len + ys.length) * i.size ≤ pl.cap * i.size := by rw [← Nat.add_mul]; exact Nat.mul_le_mul_right _ (by omega)
       have hrun : (Builtin.append_ ts o.type #[.slice A len cap, vy]).run P w = .ok (.slice A (len + ys.length) cap) (w.setCells pl.b (pl.o + (off + len) * i.size) vs.toList) := by
        by_cases hcap0 : cap = 0
        ·have hvs : vs = #[] := by apply Array.eq_empty_of_size_eq_zero; rw [v1.1, show ys.length = 0 by omega]; simp
         subst hvs
         cases A with
         | none => exact f1 rfl
         | some ad => exact f2 ad w rfl rfl
        ·have had := hA (by omega)
         subst had
         refine f2 _ _ rfl ?_
         have hst := run_storeCells_cells (P := P) pl.b (pl.o + (off + len) * i.size) vs.toList 0 w (fun j hj => by
           have hj : j < ys.length * i.size := by rw [← v1.1]; simpa using hj
           rw [Nat.add_mul] at hmul
           obtain ⟨⟨u, hu⟩, _⟩ := h7 (pl.o + (off + len) * i.size + j) (by omega) (by rw [Nat.add_mul]; omega)
           simp only [Nat.add_zero]; rw [hu]; rfl) (fun j hj => by
           have hj : j < ys.length * i.size := by rw [← v1.1]; simpa using hj
           rw [Nat.add_mul] at hmul
           simp only [Nat.add_zero]
           exact (h7 (pl.o + (off + len) * i.size + j) (by omega) (by rw [Nat.add_mul]; omega)).2.1) (fun u hu => by
           obtain ⟨j, hj, rfl⟩ := List.getElem_of_mem hu
           have hj' : j < ys.length * i.size := by rw [← v1.1]; simpa using hj
           have hd := (v1.2.2 (j / i.size) (j % i.size) (by rw [Nat.div_lt_iff_lt_mul hk0]; exact hj') (Nat.mod_lt _ hk0)).1
           rw [Nat.mul_comm, Nat.div_add_mod] at hd
           rwa [agetD_eq _ _ _ (by rw [v1.1]; exact hj')] at hd)
         simp only [Nat.add_zero] at hst
         rw [addr_add, hpk, Nat.add_assoc, ← Nat.add_mul]
         exact hst
       have hvl : vs.toList.length = ys.length * i.size := by rw [Array.length_toList, v1.1]
       have hsim1 := hs.rewrite (es' := es.take (off + len) ++ ys) hS hm (pl.o + (off + len) * i.size) vs.toList (by omega) (by rw [hvl, Nat.add_mul]; rw [Nat.add_mul] at hmul; omega) (by simp; omega)
        (fun e he => by
         rcases List.mem_append.1 he with h | h
         ·exact h6 e (List.mem_of_mem_take h)
         ·exact hyk e h)
        (fun p j hp hj => by
         have htl : (es.take (off + len)).length = off + len := by simp; omega
         by_cases hlt : p < off + len
         ·have e1 : cellAt (es.take (off + len) ++ ys) p j = cellAt es p j := by
           simp only [cellAt, List.getD]
           rw [List.getElem?_append_left (by omega), List.getElem?_take_of_lt hlt]
          obtain ⟨u, hu, hone, hrel⟩ := h8 p j (by omega) hj
          rw [e1]
          refine ⟨u, ?_, hone, hrel⟩
          rw [World.cell?_setCells_out _ _ _ _ _ (fun _ _ => ?_)]
          ·exact hu
          ·have := idx_lt hlt hj; left; simp only; omega
         ·have hp' : p - (off + len) < ys.length := by simp at hp; omega
          have e1 : cellAt (es.take (off + len) ++ ys) p j = cellAt ys (p - (off + len)) j := by
           simp only [cellAt, List.getD]
           rw [List.getElem?_append_right (by omega), htl]
          have hin := World.cell?_setCells_in pl.b vs.toList (pl.o + (off + len) * i.size) w (fun j' hj' => by
           rw [hvl] at hj'
           rw [Nat.add_mul] at hmul
           obtain ⟨⟨u, hu⟩, _⟩ := h7 (pl.o + (off + len) * i.size + j') (by omega) (by rw [Nat.add_mul]; omega)
           rw [hu]; rfl) ((p - (off + len)) * i.size + j) (by rw [hvl]; exact idx_lt hp' hj)
          have e2 : pl.o + (off + len) * i.size + ((p - (off + len)) * i.size + j) = pl.o + (p * i.size + j) := by
           rw [Nat.sub_mul]
           have : (off + len) * i.size ≤ p * i.size := Nat.mul_le_mul_right _ (by omega)
           omega
          rw [e2] at hin
          have hv2 := v1.2.2 (p - (off + len)) j hp' hj
          rw [agetD_eq _ _ _ (by rw [v1.1]; exact idx_lt hp' hj)] at hv2
          rw [e1]
          exact ⟨_, hin, hv2.1, hv2.2⟩)
       have hlt : id < S.length := by
        rcases Nat.lt_or_ge id S.length with h' | h'
        ·exact h'
        ·simp [List.getElem?_eq_none h'] at hS
       have hreb := hsim1.rebase (id := id) (off := off) (es := es.take (off + len) ++ ys) (cp := cp) (k := i.size) (by rw [List.getElem?_set_self hlt]) hm (by omega)
       have e3 : (es.take (off + len) ++ ys).drop off = (es.drop off).take len ++ ys := by
        rw [List.drop_append_of_le_length (by simp; omega), List.drop_take]
        simp
       rw [e3, List.set_set, List.length_set] at hreb
       refine ⟨_, _, F, _, yields _ _ hrun, Ext.put hs _, hreb, .row S.length 0 (len + ys.length) A cap ⟨pl.b, pl.o + off * i.size, i.size, pl.cap - off⟩ (by simp [Pls.put]) hroom (by simp; omega) (fun h => ?_) (fun h => hN (by simp at h; omega))⟩
       rw [hA h, hpk]; simp
      ·obtain ⟨us, u1, u2, u3⟩ := news_of (P := P) (ys := (es.drop off).take len) hs rx' (by simp [srcOf, elemsOf, hS, hle]) (fun e he => h6 e (List.mem_of_mem_drop (List.mem_of_mem_take he))) hk0
       have u3' := fun w' hb => by have := u3 _ (Nat.le_refl _) w' hb; rwa [extract_all u1.1] at this
       rw [hold] at u3'
       obtain ⟨c, hc', hrun⟩ := run_append_new (ty := o.type) (A := A) (len := len) (cap := cap) h0 h1 hd hxt hi v2 (by omega) hbytes hbig (u3' _ hbd) (v3 _ hbd)
       have hrel := u1.append v1
       have hk := (hs.drew.kill id).allocE hrel hk0 e c (Builtin.zeroCells i.zero.cells (c - (len + ys.length))) (by simpa [hold] using hc') (by rw [zeroCells_size, hzs]; simp [hold])
       rw [List.length_set] at hk
       exact ⟨_, _, F, _, yields _ _ hrun, Ext.put hs _, hk, .row S.length 0 (len + ys.length) _ c ⟨w.drew.heap.size, 0, i.size, c⟩ (by simp [Pls.put]) hc' (by simp) (fun _ => by simp) (fun _ => rfl)⟩
   ·cases hr
  ·cases hr
end
end Go.Abs
