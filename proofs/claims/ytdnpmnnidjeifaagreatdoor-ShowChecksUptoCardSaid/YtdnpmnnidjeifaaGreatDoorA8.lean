/- The abstract machine, part 8: slices, conversions, look-ups. Conditions: none; lemmas. -/
import Derived.Test.YtdnpmnnidjeifaaGreatDoorA7
namespace Go.Abs
open Go Go.RowKit
section
variable {P : Program} {β : Base}
theorem sound_un {o : Oper} {op : UnOp} {t : TypeId} {x : Operand} {x' : MOpd} (ho : o.op = .unOp op t x) (hx : od β.G x = some x') : Sound P β o (.un op x') := by
 refine sound_keep fun F m S w a act v S' hs ht hr => ?_
 have rx := rel_od hs.glob ht hx
 simp only [MOp.run, unR] at hr
 split at hr
 ·rename_i k n hb
  rw [hb] at rx
  have := rx.int_inv
  simp only [ORes.ok.injEq] at hr
  obtain ⟨_, rfl, rfl⟩ := hr
  exact ⟨rfl, _, .inl (by simp [execOp, ho, this, Op.unary, Op.intArith]), .atom _⟩
 ·rename_i k n hb
  rw [hb] at rx
  have := rx.int_inv
  simp only [ORes.ok.injEq] at hr
  obtain ⟨_, rfl, rfl⟩ := hr
  exact ⟨rfl, _, .inl (by simp [execOp, ho, this, Op.unary, Op.intBits]), .atom _⟩
 ·rename_i b hb
  rw [hb] at rx
  have := rx.bool_inv
  simp only [ORes.ok.injEq] at hr
  obtain ⟨_, rfl, rfl⟩ := hr
  exact ⟨rfl, _, .inl (by simp [execOp, ho, this, Op.unary]), .atom _⟩
 ·cases hr
theorem sound_toInt {o : Oper} {s d : TypeId} {k k' : IntKind} {x : Operand} {x' : MOpd} (ho : o.op = .convert s d x) (hs' : P.underlying s = some (.int k')) (hd : P.underlying d = some (.int k)) (hx : od β.G x = some x') :
  Sound P β o (.conv (.toInt k) x') := by
 refine sound_keep fun F m S w a act v S' hs ht hr => ?_
 have rx := rel_od hs.glob ht hx
 simp only [MOp.run] at hr
 generalize ev a x' = p at rx hr
 cases p <;> simp only [convR, reduceCtorEq] at hr
 rename_i q
 cases q <;> simp only [reduceCtorEq, ORes.ok.injEq] at hr
 obtain ⟨_, rfl, rfl⟩ := hr
 have := rx.int_inv
 exact ⟨rfl, _, .inl (by simp [execOp, ho, convert, run_underlying hs', run_underlying hd, this, Conv.intToInt]), .atom _⟩
theorem sound_strStr {o : Oper} {s d : TypeId} {x : Operand} {x' : MOpd} (ho : o.op = .convert s d x) (hs' : P.underlying s = some .string) (hd : P.underlying d = some .string) (hx : od β.G x = some x') :
  Sound P β o (.conv .strStr x') := by
 refine sound_keep fun F m S w a act v S' hs ht hr => ?_
 have rx := rel_od hs.glob ht hx
 simp only [MOp.run] at hr
 generalize ev a x' = p at rx hr
 cases p <;> simp only [convR, reduceCtorEq, ORes.ok.injEq] at hr
 obtain ⟨_, rfl, rfl⟩ := hr
 have := rx.str_inv
 exact ⟨rfl, _, .inl (by simp [execOp, ho, convert, run_underlying hs', run_underlying hd, this]), .str _⟩
theorem sound_intStr {o : Oper} {s d : TypeId} {k' : IntKind} {x : Operand} {x' : MOpd} (ho : o.op = .convert s d x) (hs' : P.underlying s = some (.int k')) (hd : P.underlying d = some .string) (hx : od β.G x = some x') :
  Sound P β o (.conv .intStr x') := by
 refine sound_keep fun F m S w a act v S' hs ht hr => ?_
 have rx := rel_od hs.glob ht hx
 simp only [MOp.run] at hr
 generalize ev a x' = p at rx hr
 cases p <;> simp only [convR, reduceCtorEq] at hr
 rename_i q
 cases q <;> simp only [reduceCtorEq, ORes.ok.injEq] at hr
 obtain ⟨_, rfl, rfl⟩ := hr
 have := rx.int_inv
 exact ⟨rfl, .string (Utf8.encode _), .inl (by simp [execOp, ho, convert, run_underlying hs', run_underlying hd, this, Conv.intToString]), .str _⟩
theorem run_bound {F m} {a : Tmps} {act : Act} (hg : ∀ g, Rel F m (β.G g) (.pointer (some ⟨g, 0, none⟩))) (ht : RelT F m a act.tmps) {X : Option Operand} {x : Option MOpd} {d n : Nat} (hx : oda β.G X = some x) (hb : bound d a x = some n) :
  (X = none ∧ n = d) ∨ ∃ o k i, X = some o ∧ act.eval o = .int k i ∧ 0 ≤ i ∧ n = i.toNat := by
 cases X with
 | none => simp only [oda, Option.some.injEq] at hx; subst hx; simp [bound] at hb; exact .inl ⟨rfl, hb.symm⟩
 | some o =>
   simp only [oda, Option.map_eq_some_iff] at hx
   obtain ⟨y, hy, rfl⟩ := hx
   have r := rel_od hg ht hy
   simp only [bound] at hb
   split at hb
   ·rename_i k i he
    rw [he] at r
    split at hb
    ·rename_i h0
     simp only [Option.some.injEq] at hb
     exact .inr ⟨o, k, i, rfl, r.int_inv, h0, hb.symm⟩
    ·cases hb
   ·cases hb
theorem run_bounds {F m} {a : Tmps} {act : Act} (hg : ∀ g, Rel F m (β.G g) (.pointer (some ⟨g, 0, none⟩))) (ht : RelT F m a act.tmps) {Lo Hi Mx : Option Operand} {lo hi mx : Option MOpd} {len cap l h q : Nat} {dl dm : Nat} {b : Bool} {w : World}
  (hlo : oda β.G Lo = some lo) (hhi : oda β.G Hi = some hi) (hmx : oda β.G Mx = some mx)
  (bl : bound 0 a lo = some l) (bh : bound dl a hi = some h) (bm : bound dm a mx = some q) (hdl : dl = len) (hmh : mx ≠ none → hi ≠ none)
  (h1 : l ≤ h) (h2 : h ≤ len ∨ mx ≠ none) (h3 : len ≤ cap) (h4 : mx ≠ none → h ≤ q ∧ q ≤ cap) :
  (Instr.sliceBounds b len cap (Lo.map act.eval) (Hi.map act.eval) (Mx.map act.eval)).run P w = .ok (l, h, if mx = none then cap else q) w := by
 rcases run_bound hg ht hmx bm with ⟨rfl, rfl⟩ | ⟨om, km, im, rfl, em, pm, rfl⟩
 ·simp only [oda, Option.some.injEq] at hmx; subst hmx
  have hh : h ≤ len := h2.resolve_right (by simp)
  rcases run_bound hg ht hhi bh with ⟨rfl, rfl⟩ | ⟨oh, kh, ih, rfl, eh, ph, rfl⟩ <;> rcases run_bound hg ht hlo bl with ⟨rfl, rfl⟩ | ⟨ol, kl, il, rfl, el, pl, rfl⟩
  ·simp [Instr.sliceBounds, hdl]
  ·have : il ≤ (len : Int) := by omega
   simp [Instr.sliceBounds, Instr.sliceBound, el, asIntOf, pl, this, hdl]
  ·have : ih ≤ (cap : Int) := by omega
   simp [Instr.sliceBounds, Instr.sliceBound, eh, asIntOf, ph, this]
  ·have e1 : ih ≤ (cap : Int) := by omega
   have e2 : il ≤ max ih 0 := by omega
   simp [Instr.sliceBounds, Instr.sliceBound, eh, el, asIntOf, ph, pl, e1, e2]
 ·have hmn : mx ≠ none := by
   simp only [oda, Option.map_eq_some_iff] at hmx
   obtain ⟨_, _, rfl⟩ := hmx; simp
  obtain ⟨hq1, hq2⟩ := h4 hmn
  have ec : im ≤ (cap : Int) := by omega
  rcases run_bound hg ht hhi bh with ⟨rfl, rfl⟩ | ⟨oh, kh, ih, rfl, eh, ph, rfl⟩
  ·simp only [oda, Option.some.injEq] at hhi; subst hhi; exact absurd rfl (hmh hmn)
  ·have e1 : ih ≤ max im 0 := by omega
   rcases run_bound hg ht hlo bl with ⟨rfl, rfl⟩ | ⟨ol, kl, il, rfl, el, pl, rfl⟩
   ·simp [Instr.sliceBounds, Instr.sliceBound, em, eh, asIntOf, pm, ph, ec, e1, hmn]
   ·have e2 : il ≤ max ih 0 := by omega
    simp [Instr.sliceBounds, Instr.sliceBound, em, eh, el, asIntOf, pm, ph, pl, ec, e1, e2, hmn]
theorem sound_sslc {o : Oper} {t : TypeId} {x : Operand} {Lo Hi : Option Operand} {x' : MOpd} {lo hi : Option MOpd} (ho : o.op = .slice t x Lo Hi none) (hd : P.underlying t = some .string)
  (hx : od β.G x = some x') (hlo : oda β.G Lo = some lo) (hhi : oda β.G Hi = some hi) : Sound P β o (.sslc x' lo hi) := by
 refine sound_keep fun F m S w a act v S' hs ht hr => ?_
 have rx := rel_od hs.glob ht hx
 simp only [MOp.run, sslcR] at hr
 split at hr
 ·rename_i s hb
  rw [hb] at rx
  have hv := rx.str_inv
  split at hr
  ·rename_i l h bl bh
   simp only [ORes.ok.injEq, Bool.and_eq_true, decide_eq_true_eq] at hr
   obtain ⟨⟨h1, h2⟩, rfl, rfl⟩ := hr
   have hbd := run_bounds (P := P) (b := false) (w := w) (Mx := none) (mx := none) (dm := 0) (q := 0) hs.glob ht hlo hhi rfl bl bh rfl rfl (by simp) h1 (.inl h2) (Nat.le_refl _) (by simp)
   refine ⟨rfl, _, .inl ?_, .str _⟩
   have hex : (⟨s.toArray⟩ : ByteArray).extract l h = ⟨((s.take h).drop l).toArray⟩ := by
    apply ByteArray.ext
    simp [List.extract_eq_take_drop, List.drop_take]
   simp only [if_true, Option.map_none] at hbd
   simp [execOp, ho, Instr.sliceAt, Instr.slice, hv, run_underlying hd, size_mk, hbd, hex]
  ·cases hr
 ·cases hr
theorem getD_slice (es : List (List AVal)) (l h i : Nat) (hi : i < h - l) (hh : h ≤ es.length) : ((es.take h).drop l).getD i [] = es.getD (l + i) [] := by
 rw [getD_eq _ _ _ (by simp; omega), getD_eq _ _ _ (by omega)]; simp
theorem sound_slc {o : Oper} {t e : TypeId} {i : TyI} {x : Operand} {Lo Hi Mx : Option Operand} {x' : MOpd} {lo hi mx : Option MOpd} (ho : o.op = .slice t x Lo Hi Mx) (hd : P.underlying t = some (.slice e)) (hi' : tyI P e = some i)
  (hx : od β.G x = some x') (hlo : oda β.G Lo = some lo) (hhi : oda β.G Hi = some hi) (hmx : oda β.G Mx = some mx) (hmh : Mx ≠ none → Hi ≠ none) : Sound P β o (.slc i.size x' lo hi mx) := by
 refine sound_keep fun F m S w a act v S' hs ht hr => ?_
 have rx := rel_od hs.glob ht hx
 have hmh' : mx ≠ none → hi ≠ none := by
  intro h
  have : Mx ≠ none := by rintro rfl; simp only [oda, Option.some.injEq] at hmx; exact h hmx.symm
  have h2 := hmh this
  rintro rfl
  cases Hi with
  | none => exact h2 rfl
  | some q => simp only [oda, Option.map_eq_some_iff] at hhi; obtain ⟨_, _, h⟩ := hhi; cases h
 have key : ∀ A len cap l h q, act.eval x = .slice A len cap → (Instr.sliceBounds true len cap (Lo.map act.eval) (Hi.map act.eval) (Mx.map act.eval)).run P w = .ok (l, h, q) w →
   Yields P o act w (.slice (if q = l then A else A.map (·.add (l * i.size))) (h - l) (q - l)) w := fun A len cap l h q hv hb => by
  refine .inl ?_
  simp [execOp, ho, Instr.sliceAt, Instr.slice, hv, run_underlying hd, hb, run_sizeOf hi']
 simp only [MOp.run, slcR] at hr
 generalize hv : act.eval x = u at rx
 split at hr
 ·rename_i es hb
  rw [hb] at rx
  split at hr
  ·rename_i l h q bl bh bm
   simp only [ORes.ok.injEq, Bool.and_eq_true, decide_eq_true_eq] at hr
   obtain ⟨⟨⟨rfl, rfl⟩, rfl⟩, rfl, rfl⟩ := hr
   cases rx with
   | nil cap hc =>
     subst hc
     have hbd := run_bounds (P := P) (b := true) (w := w) (len := 0) (cap := 0) hs.glob ht hlo hhi hmx bl bh bm rfl hmh' (by omega) (.inl (by omega)) (by omega) (fun _ => by omega)
     refine ⟨rfl, _, key _ _ _ _ _ _ hv hbd, ?_⟩
     simp only [ite_self, Nat.sub_self]
     exact .nil 0 rfl
   | list _ _ ad n' cap b o' k vs hfl hn' hcap hfull hk' hk0 hA hA0 ha h1 hF h => exact absurd rfl hfl
  ·cases hr
 ·rename_i fl es hnn hb
  rw [hb] at rx
  cases rx with
  | nil cap hc => exact (hnn rfl).elim
  | list _ _ ad n' cap b o' k vs hfl hn' hcap hfull hk' hk0 hA hA0 ha h1 hF hrel =>
  subst hn'
  have main : ∀ l h q full, l ≤ h → h ≤ es.length → h ≤ q → q ≤ cap → (l = h ∨ (es.getD l []).length = i.size) → (full = true → q = h) →
    Rel F m (.list (fl.with full) ((es.take h).drop l)) (.slice (if q = l then ad else ad.map (·.add (l * i.size))) (h - l) (q - l)) := fun l h q full a1 a2 a3 a4 a5 a7 => by
   have hlen : ((es.take h).drop l).length = h - l := by simp; omega
   have hsome : ∃ ad', (if q = l then ad else ad.map (·.add (l * i.size))) = ad' ∧ ad'.isSome = ad.isSome ∧ (l < h → ad' = some ⟨b, o' + l * k, none⟩) := by
    by_cases hq : q = l
    ·exact ⟨ad, by simp [hq], rfl, fun hlt => by omega⟩
    ·refine ⟨ad.map (·.add (l * i.size)), by simp [hq], by simp, fun hlt => ?_⟩
     have hne : es ≠ [] := by rintro rfl; simp at a2; omega
     have hsz : k = i.size := by
      rcases a5 with h5 | h5
      ·omega
      ·rwa [elem_len hk' (by omega)] at h5
     rw [ha hne, Option.map_some, addr_add, hsz]
   obtain ⟨ad', e1, e0, e2⟩ := hsome
   rw [e1]
   have hw : (fl.with full) ≠ .nil ∧ ((fl.with full).isFull = true → full = true) ∧ ((fl.with full).non = true → fl.non = true) := by
    unfold Fl.with; cases fl.non <;> cases full <;> simp [Fl.isFull, Fl.non]
   refine .list _ _ ad' (h - l) (q - l) b (o' + l * k) k (fun p j => vs (l + p) j) hw.1 hlen.symm (by omega) (fun hf => by rw [a7 (hw.2.1 hf)]) (fun e he => hk' e (List.mem_of_mem_take (List.mem_of_mem_drop he))) hk0
    (fun hn => by rw [e0]; exact hA (hw.2.2 hn)) (fun hn => by rw [hn] at e0; have := hA0 (by cases ad <;> simp_all); omega)
    (fun hne => e2 (by rcases Nat.lt_or_ge l h with h' | h'; exact h'; exact absurd (List.eq_nil_of_length_eq_zero (by omega)) hne))
    (fun p j hp hj => h1 _ _ (by omega) hj) (fun p j hp hj => ?_) (fun p j hp hj => ?_)
   ·have := hF (l + p) j (by omega) hj
    rw [Nat.add_mul] at this
    rw [← this]; congr 1; omega
   ·have := hrel (l + p) j (by omega) hj
    simp only [cellAt] at this ⊢
    rwa [getD_slice _ _ _ _ (by omega) a2]
  split at hr
  ·rename_i l h bl bh
   simp only [ORes.ok.injEq, Bool.and_eq_true, Bool.or_eq_true, decide_eq_true_eq] at hr
   obtain ⟨⟨⟨a1, a2⟩, a3⟩, rfl, rfl⟩ := hr
   have bm : bound 0 a none = some 0 := rfl
   have hbd := run_bounds (P := P) (b := true) (w := w) (len := es.length) (cap := cap) hs.glob ht hlo hhi hmx bl bh (dm := 0) (q := 0) rfl rfl (by simp) a1 (.inl a2) hcap (by simp)
   simp only [if_true] at hbd
   refine ⟨rfl, _, key _ _ _ _ _ _ hv hbd, main l h cap _ a1 a2 (by omega) (Nat.le_refl _) a3 (fun hf => ?_)⟩
   simp only [Bool.and_eq_true, decide_eq_true_eq] at hf
   rw [hfull hf.2, hf.1]
  ·rename_i l h my bl bh
   split at hr
   ·rename_i q bm
    simp only [ORes.ok.injEq, Bool.and_eq_true, Bool.or_eq_true, decide_eq_true_eq] at hr
    obtain ⟨⟨⟨⟨a1, a2⟩, a2'⟩, a3⟩, rfl, rfl⟩ := hr
    have hbd := run_bounds (P := P) (b := true) (w := w) (len := es.length) (cap := cap) hs.glob ht hlo hhi hmx bl bh bm rfl hmh' a1 (.inr (by simp)) hcap (fun _ => ⟨a2, by omega⟩)
    simp only [reduceCtorEq, if_false] at hbd
    refine ⟨rfl, _, key _ _ _ _ _ _ hv hbd, main l h q _ a1 (by omega) a2 (by omega) a3 (fun hf => by simpa using hf)⟩
   ·cases hr
  ·cases hr
 ·rename_i id off len hb
  rw [hb] at rx
  split at hr
  ·rename_i k es cp hS
   split at hr
   ·rename_i l h bl bh
    simp only [ORes.ok.injEq, Bool.and_eq_true, decide_eq_true_eq] at hr
    obtain ⟨⟨⟨hk, a1⟩, a2⟩, rfl, rfl⟩ := hr
    cases rx with
    | row _ _ _ A cap p hm hl hc hA hN =>
      obtain ⟨q, hq, hok⟩ := hs.objs id _ hS
      obtain rfl := Option.some.inj (hm.symm.trans hq)
      have hle : es.length ≤ p.cap := hok.2.2.2.2.1
      have hpk : p.k = i.size := by rw [hok.1]; exact hk
      have hbd : (Instr.sliceBounds true len cap (Lo.map act.eval) (Hi.map act.eval) (Mx.map act.eval)).run P w = .ok (l, h, cap) w := by
       rcases run_bound hs.glob ht hmx (rfl : bound 0 a none = some 0) with ⟨rfl, _⟩ | ⟨om, km, im, rfl, em, pm, _⟩
       ·rcases run_bound hs.glob ht hhi bh with ⟨rfl, rfl⟩ | ⟨oh, kh, ih, rfl, eh, ph, rfl⟩ <;> rcases run_bound hs.glob ht hlo bl with ⟨rfl, rfl⟩ | ⟨ol, kl, il, rfl, el, pl, rfl⟩
        ·simp [Instr.sliceBounds]
        ·have : il ≤ (h : Int) := by omega
         simp [Instr.sliceBounds, Instr.sliceBound, el, asIntOf, pl, this]
        ·have : ih ≤ (cap : Int) := by omega
         simp [Instr.sliceBounds, Instr.sliceBound, eh, asIntOf, ph, this]
        ·have e1 : ih ≤ (cap : Int) := by omega
         have e2 : il ≤ max ih 0 := by omega
         simp [Instr.sliceBounds, Instr.sliceBound, eh, el, asIntOf, ph, pl, e1, e2]
       ·simp only [oda, Option.map_eq_some_iff] at hmx; obtain ⟨_, _, h⟩ := hmx; cases h
      refine ⟨rfl, _, key _ _ _ _ _ _ hv hbd, .row id (off + l) (h - l) _ (cap - l) p hm (by omega) (by omega) (fun h0 => ?_) (fun h0 => ?_)⟩
      ·have : cap ≠ l := by omega
       rw [if_neg this, hA (by omega)]
       simp only [Option.map_some, addr_add, hpk, Nat.add_mul, Nat.add_assoc]
      ·split
       ·exact hN h0
       ·simpa using hN h0
   ·rename_i l h my bl bh
    split at hr
    ·rename_i q bm
     simp only [ORes.ok.injEq, Bool.and_eq_true, decide_eq_true_eq] at hr
     obtain ⟨⟨⟨⟨a1, a2⟩, a3⟩, a4⟩, rfl, rfl⟩ := hr
     cases rx with
     | row _ _ _ A cap p hm hl hc hA hN =>
       obtain ⟨q', hq, hok⟩ := hs.objs id _ hS
       obtain rfl := Option.some.inj (hm.symm.trans hq)
       have hle : es.length ≤ p.cap := hok.2.2.2.2.1
       have hbd := run_bounds (P := P) (b := true) (w := w) (len := len) (cap := cap) hs.glob ht hlo hhi hmx bl bh bm rfl hmh' a1 (.inr (by simp)) hl (fun _ => ⟨a2, by omega⟩)
       simp only [reduceCtorEq, if_false] at hbd
       subst a3
       refine ⟨rfl, _, key _ _ _ _ _ _ hv hbd, ?_⟩
       have e0 : h - q = 0 := by omega
       rw [e0]
       simp only [if_true, Nat.sub_self]
       exact .list .fulu [] A 0 0 0 0 1 (fun _ _ => undef) (by simp) rfl (Nat.le_refl _) (fun _ => rfl) (fun e he => nomatch he) (by omega) (fun h => by cases h) (fun _ => rfl) (fun h => absurd rfl h)
        (fun i j hi => by simp at hi) (fun i j hi => by simp at hi) (fun i j hi => by simp at hi)
    ·cases hr
   ·cases hr
  ·cases hr
 ·cases hr
theorem elems_at {F m S w} (hs : Sim β F m S w) {y : AVal} {u : Value} {es : List (List AVal)} {k : Nat} (r : Rel F m y u) (h : elemsOf S y = some (true, es)) (hk : ∀ e ∈ es, e.length = k) :
  ∃ A cap, u = .slice A es.length cap ∧ (es ≠ [] → ∃ b x, A = some ⟨b, x, none⟩ ∧ ∀ i, i < es.length → InMem F m w b (x + i * k) (es.getD i [])) := by
 unfold elemsOf at h
 split at h
 ·rename_i fl es'
  simp only [Option.some.injEq, Prod.mk.injEq, true_and] at h
  subst h
  cases r with
  | nil cap hc => exact ⟨none, cap, rfl, fun h => absurd rfl h⟩
  | list _ _ ad n' cap b o' k' vs hfl hn' hcap hfull hk' hk0 hA hA0 ha h1 hF h =>
    subst hn'
    refine ⟨ad, cap, rfl, fun hne => ⟨b, o', ha hne, fun i hi => ?_⟩⟩
    have hkk : k' = k := by
     have e1 := elem_len hk' hi
     have e2 := elem_len hk hi
     omega
    subst hkk
    exact frz_inMem hs hk' h1 hF h hi
 ·rename_i id off len
  split at h
  ·rename_i k0 es' cp hS
   simp only [Option.some.injEq, Prod.mk.injEq, decide_eq_true_eq] at h
   obtain ⟨hle, rfl⟩ := h
   have hlen : ((es'.drop off).take len).length = len := by simp; omega
   cases r with
   | row _ _ _ A cap p hm hl hc hA hN =>
     refine ⟨A, cap, by rw [hlen], fun hne => ?_⟩
     have h0 : 0 < len := by
      rcases Nat.eq_zero_or_pos len with h | h
      ·subst h; simp at hne
      ·exact h
     refine ⟨p.b, p.o + off * p.k, hA (by omega), fun i hi => ?_⟩
     rw [hlen] at hi
     have hg : ((es'.drop off).take len).getD i [] = es'.getD (off + i) [] := by
      rw [getD_eq _ _ _ (by omega), getD_eq _ _ _ (by omega)]; simp
     have hin := hs.inMem hS hm (i := off + i) (by omega)
     obtain ⟨q, hq, hok⟩ := hs.objs id _ hS
     obtain rfl := Option.some.inj (hm.symm.trans hq)
     have hkk : p.k = k := by
      have e1 := elem_len hok.2.2.2.2.2.1 (i := off + i) (by omega)
      have e2 := elem_len hk (i := i) (by omega)
      rw [hg] at e2
      rw [hok.1]; omega
     rw [hg, ← hkk, Nat.add_assoc, ← Nat.add_mul]
     exact hin
  ·cases h
 ·cases h
end
end Go.Abs
