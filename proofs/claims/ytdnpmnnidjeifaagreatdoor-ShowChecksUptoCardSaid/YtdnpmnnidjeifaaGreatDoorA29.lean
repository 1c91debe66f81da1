/- The abstract machine, part 29 (behind part 28): texts and bytes, copies, arrays, interface values. Conditions: none; lemmas. -/
import Derived.Test.YtdnpmnnidjeifaaGreatDoorA28
import Derived.Laws.IdiomStrings
namespace Go.Abs
open Go Go.RowKit
open Go.MapKept
open Go.ChangeMaps (setBlock)
section
variable {P : Program} {β : Base}
theorem Sim.allocRowF {F m S w} (hs : Sim β F m S w) (arr : Array Value) (T : TypeId) (fz : Nat × Nat) (hfz : arr.size ≤ fz.1) (k cap : Nat) (es : List (List AVal)) (cp : Option Nat) (hk0 : 0 < k) (hsz : arr.size = cap * k) (hle : es.length ≤ cap)
  (hcp : ∀ c, cp = some c → cap = c) (hk : ∀ e ∈ es, e.length = k)
  (h : ∀ i j, i < es.length → j < k → (arr.getD (i * k + j) undef).oneCell' = true ∧ Rel F m (cellAt es i j) (arr.getD (i * k + j) undef)) :
  Sim β F (m.put S.length ⟨w.heap.size, 0, k, cap⟩) (S ++ [.cells k es cp]) (w.alloc (.cells arr T fz)) := by
 have hs1 := hs.alloc (.cells arr T fz)
 have hc : ∀ x, (w.alloc (.cells arr T fz)).cell? ⟨w.heap.size, x, none⟩ = arr[x]? := fun x => by
  simp only [World.cell?, (heap_alloc w _).1]; rfl
 refine hs1.push _ _ ⟨rfl, hcp, hs.below.size, hk0, hle, hk, fun x hx hx' => ?_, fun i j hi hj => ?_⟩ (fun id o' p' hS hm b x ho hn => ?_)
 ·simp only [Nat.zero_add] at hx'
  have hlt : x < arr.size := by omega
  refine ⟨⟨arr[x], by rw [hc]; exact Array.getElem?_eq_getElem hlt⟩, ?_, ?_⟩
  ·simp only [World.frozen?, (heap_alloc w _).1]
   have : ¬ fz.1 ≤ x := by omega
   simp [this]
  ·cases hF : F w.heap.size x with
   | none => rfl
   | some v => exact absurd (hs.frz_lt hF) (Nat.lt_irrefl _)
 ·have hlt : i * k + j < arr.size := by
   have : (i + 1) * k ≤ cap * k := Nat.mul_le_mul_right _ (by omega)
   rw [Nat.add_mul] at this; omega
  obtain ⟨h1, h2⟩ := h i j hi hj
  refine ⟨arr.getD (i * k + j) undef, ?_, h1, h2.mono (Ext.put hs _)⟩
  simp only [Nat.zero_add]
  rw [hc, agetD_eq _ _ _ hlt]
  exact Array.getElem?_eq_getElem hlt
 ·have := (hs.own_lt hS hm ho).1
  have e := hn.1
  simp at e
  omega
theorem sound_strBytes {o : Oper} {s d e : TypeId} {x : Operand} {x' : MOpd} (ho : o.op = .convert s d x) (hs' : P.underlying s = some .string) (hd : P.underlying d = some (.slice e)) (he : P.underlying e = some (.int .u8))
  (hx : od β.G x = some x') : Sound P β o (.conv .strBytes x') := by
 intro F m S w a act v S' hs ht hr
 have rx := rel_od hs.glob ht hx
 simp only [MOp.run, convR] at hr
 generalize hv : act.eval x = u at rx
 split at hr
 all_goals first | (rename_i hc; cases hc; done) | (rename_i hc _; cases hc; done) | skip
 ·rename_i l _ hb
  rw [hb] at rx
  obtain rfl := rx.str_inv
  simp only [ORes.ok.injEq, true_and] at hr
  obtain ⟨rfl, rfl⟩ := hr
  have hsz : (⟨l.toArray⟩ : ByteArray).size = l.length := by simp [ByteArray.size]
  have hge := grownCap_ge w (⟨l.toArray⟩ : ByteArray).size 0 e
  generalize hcap : grownCap w (⟨l.toArray⟩ : ByteArray).size 0 e = cap at hge
  have hrun := run_bytes_of_string (P := P) w s d e ⟨l.toArray⟩ hs' hd he
  rw [hcap] at hrun
  have harr : (bytesRow ⟨l.toArray⟩ cap).size = cap := by simp [bytesRow, hsz]; omega
  have hsim := (hs.drew).allocRowF (bytesRow ⟨l.toArray⟩ cap) e ((bytesRow ⟨l.toArray⟩ cap).size, (bytesRow ⟨l.toArray⟩ cap).size + 1) (Nat.le_refl _) 1 cap (l.map u8) none (by omega) (by omega) (by simp; omega) (by simp)
   (fun e he => by
    obtain ⟨b, _, rfl⟩ := List.mem_map.1 he
    rfl)
   (fun i j hi hj => by
    have hi' : i < l.length := by simpa using hi
    have : j = 0 := by omega
    subst this
    have hg : (bytesRow ⟨l.toArray⟩ cap).getD (i * 1 + 0) undef = .int .u8 (l[i]).toNat := by
     rw [agetD_eq _ _ _ (by omega)]
     simp only [bytesRow, Nat.mul_one, Nat.add_zero]
     rw [Array.getElem_append_left (by simpa using hi')]
     simp
    have hcell : cellAt (l.map u8) i 0 = .atom (.int .u8 (l[i]).toNat) := by simp [cellAt, List.getD, hi', u8]
    rw [hg, hcell]
    exact ⟨by simp [Value.oneCell'], .atom _⟩)
  refine ⟨.slice (some ⟨w.heap.size, 0, none⟩) l.length cap, _, F, _, .inl ?_, Ext.put hs _, hsim, .row S.length 0 l.length _ cap ⟨w.heap.size, 0, 1, cap⟩ (by simp [Pls.put]) (by omega) (by simp) (fun _ => by simp) (fun _ => rfl)⟩
  simp only [execOp, ho, hv, strV, Sem.run_bind, hrun, Result.andThen_ok, Sem.run_pure, hsz]
 ·cases hr
theorem byteOf_inv {e : List AVal} {b : UInt8} (h : byteOf e = some b) : ∃ n : Int, e = [.atom (.int .u8 n)] ∧ b = UInt8.ofNat n.toNat := by
 unfold byteOf at h
 split at h
 ·simp only [Option.some.injEq] at h
  exact ⟨_, rfl, h.symm⟩
 ·cases h
theorem bytesOf_inv : ∀ {es : List (List AVal)} {l : List UInt8}, bytesOf es = some l → ∃ ns : List Int, es = ns.map (fun n => [.atom (.int .u8 n)]) ∧ l = ns.map fun n => UInt8.ofNat n.toNat
 | [], l, h => by simp only [bytesOf, Option.some.injEq] at h; exact ⟨[], rfl, h.symm⟩
 | e :: r, l, h => by
   simp only [bytesOf] at h
   split at h
   ·rename_i b l' hb hl
    simp only [Option.some.injEq] at h
    obtain ⟨n, rfl, rfl⟩ := byteOf_inv hb
    obtain ⟨ns, rfl, rfl⟩ := bytesOf_inv hl
    exact ⟨n :: ns, rfl, by rw [← h]; rfl⟩
   ·cases h
theorem foldl_push_ints : ∀ (ns : List Int) (r : ByteArray), ns.foldl (fun r n => r.push (UInt8.ofNat n.toNat)) r = ⟨r.data ++ (ns.map fun n => UInt8.ofNat n.toNat).toArray⟩
 | [], r => by simp
 | b :: l, r => by
   simp only [List.foldl_cons]
   rw [foldl_push_ints l]
   simp [ByteArray.push]
theorem sound_bytesStr {o : Oper} {s d e : TypeId} {x : Operand} {x' : MOpd} (ho : o.op = .convert s d x) (hs' : P.underlying s = some (.slice e)) (he : P.underlying e = some (.int .u8)) (hd : P.underlying d = some .string)
  (hx : od β.G x = some x') : Sound P β o (.conv .bytesStr x') := by
 refine sound_keep fun F m S w a act v S' hs ht hr => ?_
 have rx := rel_od hs.glob ht hx
 simp only [MOp.run, convR] at hr
 generalize hv : act.eval x = u at rx
 split at hr
 ·rename_i side es hes
  ·split at hr
   ·rename_i l hl
    simp only [ORes.ok.injEq] at hr
    obtain ⟨rfl, rfl, rfl⟩ := hr
    obtain ⟨ns, rfl, rfl⟩ := bytesOf_inv hl
    obtain ⟨A, cap, rfl, hne⟩ := elems_at hs rx hes (k := 1) (fun e he => by obtain ⟨n, _, rfl⟩ := List.mem_map.1 he; rfl)
    refine ⟨rfl, _, .inl ?_, .str _⟩
    have hconv : (Conv.bytesToString (.slice A (ns.map fun n => [AVal.atom (.int .u8 n)]).length cap)).run P w = .ok (strV (ns.map fun n => UInt8.ofNat n.toNat)) w := by
     by_cases h0 : ns = []
     ·subst h0
      cases A with
      | none => simp [Conv.bytesToString]; rfl
      | some a =>
        have := run_bytesToString (P := P) w a 0 cap [] (by simp [loadCells, loadCellsFrom])
        simp at this
        simp only [List.map_nil, List.length_nil, this]
        rfl
     ·obtain ⟨b, y, rfl, hin⟩ := hne (by simpa using h0)
      have hcell : ∀ q (hq : q < ns.length), w.cell? ⟨b, y + q, none⟩ = some (.int .u8 ns[q]) := fun q hq => by
       have hin' := hin q (by simpa using hq)
       have hlm : (ns.map fun n => [AVal.atom (.int .u8 n)]).getD q [] = [.atom (.int .u8 ns[q])] := by
        rw [getD_eq _ _ _ (by simpa using hq)]; simp
       rw [hlm] at hin'
       obtain ⟨v, hv1, _, hr⟩ := hin' 0 (by simp)
       rw [List.getD_cons_zero] at hr
       rw [hr.atom_eq] at hv1
       simpa using hv1
      have hload := run_loadCells (P := P) w ⟨b, y, none⟩ ns.length (fun q => .int .u8 (ns.getD q 0)) (fun q hq => by
       rw [addr_add, hcell q hq, getD_eq _ _ _ hq])
      have := run_bytesToString (P := P) w ⟨b, y, none⟩ ns.length cap ns (by
       rw [hload]
       congr 1
       apply Array.ext'
       simp
       refine List.ext_getElem (by simp) fun i h1 h2 => ?_
       have : i < ns.length := by simpa using h1
       simp [this])
      rw [foldl_push_ints] at this
      simpa [strV] using this
    rw [← run_convert_bytes_string (P := P) w s d e A _ cap hs' he hd] at hconv
    simp only [List.length_map] at hconv hv
    simp [execOp, ho, hv, hconv]
   ·cases hr
 ·cases hr
theorem set_same {S : Heap} {id : Nat} {o : AObj} (h : S[id]? = some o) : S.set id o = S := by
 obtain ⟨hlt, he⟩ := List.getElem?_eq_some_iff.1 h
 rw [← he, List.set_getElem_self hlt]
theorem sound_copy {o : Oper} {t e : TypeId} {ts : Array TypeId} {i : TyI} {x y : Operand} {x' y' : MOpd} (ho : o.op = .call { callee := .builtin .copy, args := #[x, y], argTypes := ts }) (hts : ts[0]? = some t) (hd : P.underlying t = some (.slice e)) (hi : tyI P e = some i)
  (hx : od β.G x = some x') (hy : od β.G y = some y') : Sound P β o (.copy i.size x' y') := by
 intro F m S w a act v S' hs ht hr
 have rx := rel_od hs.glob ht hx
 have ry := rel_od hs.glob ht hy
 have hpos : 0 < i.size := by obtain ⟨_, _, _, _, _, _, _, _, _, _, h⟩ := tyI_spec hi; omega
 simp only [MOp.run, copyR] at hr
 generalize hv : act.eval x = u at rx
 generalize hvy : act.eval y = uy at ry
 split at hr
 ·cases hr
 ·rename_i s2 ys hsrc
  split at hr
  ·rename_i fl hb
   rw [hb] at rx
   simp only [ORes.ok.injEq] at hr
   obtain ⟨rfl, rfl, rfl⟩ := hr
   have hu : ∃ A c, u = .slice A 0 c := by
    cases rx with
    | nil cap hc => exact ⟨none, cap, rfl⟩
    | list _ _ ad n' cap b o' k' vs hfl hn' hcap hfull hk' hk0 hA hA0 ha h1 hF h => subst hn'; exact ⟨ad, cap, rfl⟩
   obtain ⟨A, c, rfl⟩ := hu
   have hlen : ∃ n, (Builtin.lenOf uy).run P w = .ok n w ∧ (Builtin.firstCells i.size 0 uy).run P w = .ok #[] w := by
    by_cases hstr : ∃ l, ev a y' = .str l
    ·obtain ⟨l, hl⟩ := hstr
     rw [hl] at ry
     obtain rfl := ry.str_inv
     exact ⟨l.length, by simp [Builtin.lenOf, size_mk], by simp [Builtin.firstCells]⟩
    ·have hel : elemsOf S (ev a y') = some (true, ys) := by
      revert hsrc
      generalize ev a y' = q at hstr
      intro hsrc
      cases q <;> first | exact hsrc | exact absurd ⟨_, rfl⟩ hstr
     have : ∃ A n c, uy = .slice A n c := by
      generalize ev a y' = q at hel ry
      unfold elemsOf at hel
      split at hel
      ·cases ry with
       | nil cap hc => exact ⟨_, _, _, rfl⟩
       | list => exact ⟨_, _, _, rfl⟩
      ·cases ry with
       | row => exact ⟨_, _, _, rfl⟩
      ·cases hel
     obtain ⟨A', n, c', rfl⟩ := this
     refine ⟨n, by simp [Builtin.lenOf], ?_⟩
     cases A' <;> simp [Builtin.firstCells, loadCells, loadCellsFrom]
   obtain ⟨n, h1, h2⟩ := hlen
   refine ⟨.int .i64 0, w, F, m, .inl ?_, Ext.refl F m, hs, .atom _⟩
   cases A <;> simp [execOp, ho, resolve, hv, hvy, invoke, builtin, Builtin.copy_, hts, run_underlying hd, h1, run_sizeOf hi, h2, Result.andThen, goInt, storeCells]
  ·rename_i id off len hb
   rw [hb] at rx
   split at hr
   ·rename_i k0 es cp hS
    simp only [ORes.ok.injEq, Bool.and_eq_true, decide_eq_true_eq] at hr
    obtain ⟨⟨⟨⟨⟨rfl, hk⟩, hall⟩, hle⟩, hone⟩, rfl, rfl⟩ := hr
    subst hk
    cases rx with
    | row _ _ _ A cap p hm hl hc hA hN =>
      obtain ⟨q, hq, hok⟩ := hs.objs id _ hS
      obtain rfl := Option.some.inj (hm.symm.trans hq)
      have hpk : p.k = i.size := hok.1
      obtain ⟨vs, hrel, hlen, hfirst⟩ := news_of (P := P) hs ry hsrc hall hpos
      have hf := hfirst (min ys.length len) (Nat.min_le_left _ _) w (Below.refl _ _)
      have hrel' : RelE F m i.size (ys.take (min ys.length len)) (vs.extract 0 (min ys.length len * i.size)) := by
       refine ⟨?_, fun e he => hall e (List.mem_of_mem_take he), fun i' j hi' hj => ?_⟩
       ·have : min ys.length len * i.size ≤ ys.length * i.size := Nat.mul_le_mul_right _ (Nat.min_le_left _ _)
        simp [hrel.1]
       ·have hi2 : i' < min ys.length len := by simpa using hi'
        have hi3 : i' < ys.length := by omega
        have hlt := idx_lt hi2 hj
        have hlt3 := idx_lt hi3 hj
        have h3 := hrel.2.2 i' j hi3 hj
        have e1 : (vs.extract 0 (min ys.length len * i.size)).getD (i' * i.size + j) undef = vs.getD (i' * i.size + j) undef := by
         rw [agetD_eq _ _ _ (by simp [hrel.1]; omega), agetD_eq _ _ _ (by rw [hrel.1]; exact hlt3)]; simp
        have e2 : cellAt (ys.take (min ys.length len)) i' j = cellAt ys i' j := by
         simp only [cellAt, List.getD, List.getElem?_take_of_lt hi2]
        rw [e1, e2]; exact h3
      generalize vs.extract 0 (min ys.length len * i.size) = arr at hf hrel'
      have htl : (ys.take (min ys.length len)).length = min ys.length len := by simp
      obtain ⟨hst, hsim⟩ := hs.rewriteE (P := P) hS hm off hrel' (by rw [htl]; omega)
      rw [htl] at hsim
      rcases Nat.eq_zero_or_pos (min ys.length len) with h0 | h0
      ·refine ⟨.int .i64 (min ys.length len : Nat), w, F, m, .inl ?_, Ext.refl F m, ?_, .atom _⟩
       ·have harr : arr = #[] := Array.eq_empty_of_size_eq_zero (by rw [hrel'.1, htl, h0, Nat.zero_mul])
        subst harr
        rw [h0] at hf
        have hsto : ∀ aa, (storeCells aa ([] : List Value) 0).run P w = .ok () w := fun aa => by simp [storeCells]
        cases A <;> simp [execOp, ho, resolve, hv, hvy, invoke, builtin, Builtin.copy_, hts, run_underlying hd, hlen, run_sizeOf hi, show ys.length.min len = 0 from h0, hf, Result.andThen, goInt, hsto]
       ·rw [h0]
        simp only [List.take_zero, List.append_nil, Nat.add_zero, List.take_append_drop]
        rw [set_same hS]; exact hs
      ·have hA' := hA (by omega)
       rw [hpk] at hA'
       subst hA'
       refine ⟨.int .i64 (min ys.length len : Nat), _, F, m, .inl ?_, Ext.refl F m, hsim, .atom _⟩
       have hmin : Nat.min ys.length len = min ys.length len := rfl
       simp [execOp, ho, resolve, hv, hvy, invoke, builtin, Builtin.copy_, hts, run_underlying hd, hlen, run_sizeOf hi, hmin, hf, hst, Result.andThen, goInt]
   ·cases hr
  ·cases hr
theorem sound_idxA {o : Oper} {t e : TypeId} {n : Nat} {i : TyI} {x y : Operand} {x' y' : MOpd} (ho : o.op = .index t x y) (hd : P.underlying t = some (.array n e)) (hi : tyI P e = some i)
  (hx : od β.G x = some x') (hy : od β.G y = some y') : Sound P β o (.idxA n i.agg i.size x' y') := by
 refine sound_keep fun F m S w a act v S' hs ht hr => ?_
 have rx := rel_od hs.glob ht hx
 have ry := rel_od hs.glob ht hy
 have hpos : 0 < i.size := by obtain ⟨_, _, _, _, _, _, _, _, _, _, h⟩ := tyI_spec hi; omega
 simp only [MOp.run] at hr
 generalize hv : act.eval x = u at rx
 split at hr
 ·rename_i cs q hb hq
  rw [hb] at rx
  obtain ⟨kk, hyv⟩ := asI_inv hq ry
  simp only [ORes.ok.injEq, Bool.and_eq_true, decide_eq_true_eq] at hr
  obtain ⟨⟨⟨h0, hlt⟩, hle⟩, rfl, rfl⟩ := hr
  cases rx with
  | agg _ vs hl h1 h =>
    refine ⟨rfl, _, .inl ?_, rel_takeAt hl h1 h i.agg (q.toNat * i.size) i.size hle hpos⟩
    simp [execOp, ho, Instr.index, hv, hyv, asIntOf, run_underlying hd, h0, hlt, run_sizeOf hi, run_part hi vs (q.toNat * i.size) w (by omega)]
 ·cases hr
theorem sound_tassert {o : Oper} {xt t : TypeId} {d : TypeDesc} {ok : Bool} {i : TyI} {x : Operand} {x' : MOpd} (ho : o.op = .typeAssert x xt t ok) (hd : P.underlying t = some d) (hni : ∀ ms, d ≠ .interface ms) (hi : tyI P t = some i)
  (hx : od β.G x = some x') : Sound P β o (.tassert t ok (ofConst i.zero) x') := by
 refine sound_keep fun F m S w a act v S' hs ht hr => ?_
 have rx := rel_od hs.glob ht hx
 have rz : Rel F m (ofConst i.zero) i.zero := rel_ofConst _ (tyI_cells hi)
 simp only [MOp.run] at hr
 generalize hv : act.eval x = u at rx
 split at hr
 ·rename_i ut uv hb
  rw [hb] at rx
  cases rx with
  | iface _ _ vv hrel =>
    cases ok with
    | false =>
      simp only [Bool.false_eq_true, if_false, ORes.ok.injEq, decide_eq_true_eq] at hr
      obtain ⟨rfl, rfl, rfl⟩ := hr
      refine ⟨rfl, _, .inl ?_, hrel⟩
      cases d <;> simp [execOp, ho, hv, Instr.typeAssert, run_underlying hd, Result.andThen] <;> exact absurd rfl (hni _)
    | true =>
      simp only [if_true, ORes.ok.injEq, true_and] at hr
      by_cases he : ut = t
      ·subst he
       simp only [if_true] at hr
       obtain ⟨rfl, rfl⟩ := hr
       refine ⟨rfl, _, .inl ?_, rel_pair hrel (.atom _)⟩
       cases d <;> simp [execOp, ho, hv, Instr.typeAssert, run_underlying hd, Result.andThen] <;> exact absurd rfl (hni _)
      ·simp only [he, if_false] at hr
       obtain ⟨rfl, rfl⟩ := hr
       refine ⟨rfl, _, .inl ?_, rel_pair rz (.atom _)⟩
       cases d <;> simp [execOp, ho, hv, Instr.typeAssert, run_underlying hd, Result.andThen, he, run_zero hi] <;> exact absurd rfl (hni _)
 ·rename_i hb
  rw [hb] at rx
  obtain rfl := rx.atom_eq
  simp only [ORes.ok.injEq] at hr
  obtain ⟨rfl, rfl, rfl⟩ := hr
  refine ⟨rfl, _, .inl ?_, rel_pair rz (.atom _)⟩
  cases d <;> simp [execOp, ho, hv, Instr.typeAssert, run_underlying hd, Result.andThen, run_zero hi] <;> exact absurd rfl (hni _)
 ·cases hr
theorem sound_rangeS {o : Oper} {t : TypeId} {x : Operand} {x' : MOpd} (ho : o.op = .range t x) (hd : P.underlying t = some .string) (hx : od β.G x = some x') : Sound P β o (.rangeS x') := by
 intro F m S w a act v S' hs ht hr
 have rx := rel_od hs.glob ht hx
 simp only [MOp.run] at hr
 generalize hv : act.eval x = u at rx
 split at hr
 ·rename_i l hb
  rw [hb] at rx
  obtain rfl := rx.str_inv
  simp only [ORes.ok.injEq, true_and] at hr
  obtain ⟨rfl, rfl⟩ := hr
  have hsim := hs.allocObj (.stringIter ⟨l.toArray⟩ 0) (.strIter ⟨l.toArray⟩ 0) ⟨hs.below.size, (heap_alloc w _).1⟩ (fun _ _ h => h.symm)
  refine ⟨_, _, F, _, .inl ?_, Ext.put hs _, hsim, .itr S.length ⟨w.heap.size, 0, 1, 1⟩ (by simp [Pls.put])⟩
  simp [execOp, ho, Instr.range, hv, strV, run_underlying hd, Result.andThen]
 ·cases hr
theorem run_getObj_sit {w : World} {r : Nat} {s : ByteArray} {q : Nat} (h : w.heap[r]? = some (.stringIter s q)) : (getObj r).run P w = .ok (.stringIter s q) w := by
 simp [getObj, Sem.run, h]
theorem run_setObj_sit {w : World} {r : Nat} {s : ByteArray} {q : Nat} (h : w.heap[r]? = some (.stringIter s q)) (o' : Obj) : (setObj r o').run P w = .ok () (setBlock w r o') := by
 simp [setObj, Sem.run, h, setBlock]
theorem sound_nextS {o : Oper} {x : Operand} {x' : MOpd} (ho : o.op = .next x true) (hx : od β.G x = some x') : Sound P β o (.nextS x') := by
 intro F m S w a act v S' hs ht hr
 have rx := rel_od hs.glob ht hx
 simp only [MOp.run] at hr
 generalize hv : act.eval x = u at rx
 split at hr
 ·rename_i id hb
  rw [hb] at rx
  split at hr
  ·rename_i s pos hS
   simp only [ORes.ok.injEq, true_and] at hr
   obtain ⟨rfl, rfl⟩ := hr
   cases rx with
   | itr _ p hm =>
     obtain ⟨q, hq, hok⟩ := hs.objs id _ hS
     obtain rfl := Option.some.inj (hm.symm.trans hq)
     obtain ⟨hB, hw⟩ := hok
     by_cases hlt : pos < s.size
     ·simp only [hlt, if_true]
      refine ⟨.tuple #[.bool true, .int .i64 pos, .int .i32 (Utf8.decode s pos).1], setBlock w p.b (.stringIter s (pos + (Utf8.decode s pos).2)), F, m, .inl ?_, Ext.refl F m,
       hs.setObj hS hm hw (fun _ => rfl) hB (fun _ _ _ h => by cases h) (fun _ _ _ h => by cases h) (fun _ _ h => h) ⟨hB, (heap_set hw).1⟩, rel_triple (.atom _) (.atom _) (.atom _)⟩
      simp [execOp, ho, hv, Instr.next, run_getObj_sit hw, run_setObj_sit hw, hlt, Result.andThen, goInt]
     ·simp only [hlt, if_false]
      refine ⟨.tuple #[.bool false], w, F, m, .inl ?_, Ext.refl F m, hs, rel_single (.atom _)⟩
      simp [execOp, ho, hv, Instr.next, run_getObj_sit hw, hlt, Result.andThen]
  ·cases hr
 ·cases hr
end
end Go.Abs
