/- The abstract machine, part 7: arithmetic, comparisons, conversions, slices of what is frozen. Conditions: none; lemmas. -/
import Derived.Test.YtdnpmnnidjeifaaGreatDoorA6
import Derived.Laws.StructEq
namespace Go.Abs
open Go Go.RowKit
section
variable {P : Program} {β : Base}
theorem isNil_inv {F m} {k : NK} {x : AVal} {b : Bool} {u : Value} (h : isNil k x = some b) (r : Rel F m x u) :
  match k, b with
  | .ptr, true => u = .pointer none
  | .ptr, false => ∃ a, u = .pointer (some a)
  | .slice, true => ∃ c, u = .slice none 0 c
  | .slice, false => ∃ a n c, u = .slice (some a) n c
  | .map, true => u = .map none
  | .map, false => ∃ a, u = .map (some a)
  | .func, true => u = .nilFunc
  | .func, false => ∃ f a c, u = .func f a c
  | .iface _, true => u = .nilIface
  | .iface _, false => ∃ t v, u = .iface t v := by
 unfold isNil at h
 split at h <;> simp only [Option.some.injEq, reduceCtorEq] at h <;> subst h <;> cases r
 all_goals first
  | (simp_all; done)
  | (simp_all; exact Option.isSome_iff_exists.1 (‹Fl.full.non = true → _› rfl))
  | (simp_all; exact Option.isSome_iff_exists.1 (‹Fl.any.non = true → _› rfl))
  | (rename_i A cap p hm hl hc hA hN; exact ⟨_, _, _, by rw [hA (by omega)]⟩)
theorem run_eqR {F m w} : ∀ (n n' : Nat) (safe : Bool) (e : EqT) (t : TypeId) (x y : AVal) (b : Bool) (u v : Value) (d : Nat), eqT P n' safe t = some e → eqR n e x y = some b → Rel F m x u → Rel F m y v → n' ≤ d →
  (Op.equalIn d t u v).run P w = .ok b w
 | 0, _, _, _, _, _, _, _, _, _, _, _, h, _, _, _ => by simp [eqR] at h
 | n + 1, n', safe, e, t, x, y, b, u, v, d, ht, h, rx, ry, hd => by
   cases n' with
   | zero => simp [eqT] at ht
   | succ n' =>
   obtain ⟨d, rfl⟩ : ∃ d', d = d' + 1 := ⟨d - 1, by omega⟩
   simp only [eqT] at ht
   cases hu : P.underlying t with
   | none => rw [hu] at ht; simp at ht
   | some ty =>
   rw [hu] at ht
   cases ty <;> simp only [Option.some.injEq, reduceCtorEq] at ht
   case bool =>
    subst ht
    unfold eqR at h
    split at h <;> simp_all
    obtain rfl := rx.bool_inv
    obtain rfl := ry.bool_inv
    simp [Op.equalIn, run_underlying hu, ← h]
   case int k =>
    subst ht
    unfold eqR at h
    split at h <;> simp_all
    obtain rfl := rx.int_inv
    obtain rfl := ry.int_inv
    simp [Op.equalIn, run_underlying hu, ← h.2]
   case string =>
    subst ht
    unfold eqR at h
    split at h <;> simp_all
    obtain rfl := rx.str_inv
    obtain rfl := ry.str_inv
    simp [run_equalIn_string _ _ _ _ _ hu, ← h]
    rw [Bool.eq_iff_iff]; simp
   case struct fs =>
    split at ht
    ·cases ht
    ·rename_i hg
     simp only [Bool.or_eq_true, not_or, Bool.not_eq_true] at hg
     simp only [Option.map_eq_some_iff] at ht
     obtain ⟨l, hl, rfl⟩ := ht
     cases x <;> first | (simp [eqR] at h; done) | skip
     rename_i xs
     cases y <;> first | (simp [eqR] at h; done) | skip
     rename_i ys
     cases rx with
     | agg _ us hlx h1x hx =>
     cases ry with
     | agg _ vs hly h1y hy =>
     have hfo : P.fieldsOf t = fs := by simp [Program.fieldsOf, hu]
     rw [run_equalIn_agg w d t us vs (by rw [hfo]; exact hu) hg.1, hfo]
     simp only [eqR] at h
     generalize fs.toList = fl at hl
     clear hu hfo
     induction fl generalizing l b with
     | nil =>
       simp at hl; subst hl
       simp at h; subst h
       simp [Op.eqFields]
     | cons f fl ih =>
       simp only [List.filter_cons] at hl
       simp only [Op.eqFields]
       by_cases hnm : f.name = "_"
       ·simp only [hnm, bne_self_eq_false, Bool.false_eq_true, if_false] at hl
        simp only [hnm, ne_eq, not_true_eq_false, if_false]
        exact ih b l h hl
       ·have hnm' : (f.name != "_") = true := by simpa using hnm
        simp only [hnm', if_true] at hl
        rw [List.mapM_cons] at hl
        cases he : eqT P n' true f.type with
        | none => simp [eqF, he] at hl
        | some e =>
        cases hi : tyI P f.type with
        | none => simp [eqF, he, hi] at hl
        | some i =>
        have hf : eqF P (eqT P n' true) f = some (i.agg, f.offset, i.size, e) := by simp [eqF, he, hi]
        rw [hf] at hl
        cases hr : (fl.filter fun (f : Field) => f.name != "_").mapM (eqF P (eqT P n' true)) with
        | none => rw [hr] at hl; simp at hl
        | some l' =>
        rw [hr] at hl
        simp at hl
        subst hl
        simp only [List.foldr_cons] at h
        split at h
        ·rename_i p q hp hq
         split at h
         ·rename_i hb
          simp only [Option.some.injEq] at h
          subst h
          have hpos : 0 < i.size := by obtain ⟨_, _, _, _, _, _, _, _, _, _, h⟩ := tyI_spec hi; omega
          have r1 := rel_takeAt hlx h1x hx i.agg f.offset i.size hb.1 hpos
          have r2 := rel_takeAt hly h1y hy i.agg f.offset i.size hb.2 hpos
          have := run_eqR (w := w) n n' true e f.type _ _ p _ _ d he hp r1 r2 (by omega)
          simp only [ne_eq, hnm, not_false_eq_true, if_true, Sem.run_bind, run_part hi us f.offset w (by omega), Result.andThen_ok, run_part hi vs f.offset w (by omega), this]
          cases p
          ·simp
          ·simp only [Bool.not_true, Bool.false_eq_true, if_false, Bool.true_and]
           exact ih q l' hq hr
         ·cases h
        ·cases h
   all_goals
    subst ht
    simp only [eqR] at h
    split at h
    ·rename_i h1 h2
     have i1 := isNil_inv h1 rx
     have i2 := isNil_inv h2 ry
     simp at i1 i2
     first
      | (obtain ⟨c1, rfl⟩ := i1; obtain ⟨c2, rfl⟩ := i2; simp at h; subst h; simp [Op.equalIn, run_underlying hu]; done)
      | (subst i1 i2; simp at h; subst h; simp [Op.equalIn, run_underlying hu]; done)
      | (subst i1 i2; split at h <;> simp at h; subst h; simp [Op.equalIn, run_underlying hu]; done)
    ·rename_i h1 h2
     have i1 := isNil_inv h1 rx
     have i2 := isNil_inv h2 ry
     simp at i1 i2 h
     subst h
     first
      | (subst i1; obtain ⟨c, rfl⟩ := i2; simp [Op.equalIn, run_underlying hu]; done)
      | (subst i1; obtain ⟨c, c', rfl⟩ := i2; simp [Op.equalIn, run_underlying hu]; done)
      | (subst i1; obtain ⟨c, c', c'', rfl⟩ := i2; simp [Op.equalIn, run_underlying hu]; done)
      | (obtain ⟨c1, rfl⟩ := i1; obtain ⟨c, c', c'', rfl⟩ := i2; simp [Op.equalIn, run_underlying hu]; done)
    ·rename_i h1 h2
     have i1 := isNil_inv h1 rx
     have i2 := isNil_inv h2 ry
     simp at i1 i2 h
     subst h
     first
      | (subst i2; obtain ⟨c, rfl⟩ := i1; simp [Op.equalIn, run_underlying hu]; done)
      | (subst i2; obtain ⟨c, c', rfl⟩ := i1; simp [Op.equalIn, run_underlying hu]; done)
      | (subst i2; obtain ⟨c, c', c'', rfl⟩ := i1; simp [Op.equalIn, run_underlying hu]; done)
      | (obtain ⟨c1, rfl⟩ := i2; obtain ⟨c, c', c'', rfl⟩ := i1; simp [Op.equalIn, run_underlying hu]; done)
    ·cases h
theorem eqGuard_nonnil {op : BinOp} {t : TypeId} {x y : Operand} {u v : Value} {w : World} (h1 : u ≠ .nilIface) (h2 : ∀ cs, u ≠ .agg cs) : (eqGuard op t x y u v).run P w = .ok () w := by
 unfold eqGuard
 cases op <;> cases u <;> first | rfl | exact absurd rfl h1 | exact absurd rfl (h2 _)
theorem eqR_agg {n : Nat} {e : EqT} {p q : AVal} {b : Bool} {cs : Array Value} {F : Frz} {m : Pls} (h : eqR n e p q = some b) (rx : Rel F m p (.agg cs)) : ∃ fs, e = .agg fs := by
 cases n with
 | zero => simp [eqR] at h
 | succ n =>
 cases e with
 | agg fs => exact ⟨fs, rfl⟩
 | nilP k =>
   exfalso
   have hn : isNil k p = none := by cases rx <;> cases k <;> rfl
   simp [eqR, hn] at h
 | int => exfalso; cases rx <;> simp [eqR] at h
 | str => exfalso; cases rx <;> simp [eqR] at h
 | bool => exfalso; cases rx <;> simp [eqR] at h
theorem eqT_agg {n : Nat} {safe : Bool} {t : TypeId} {fs : List (Bool × Nat × Nat × EqT)} (h : eqT P n safe t = some (.agg fs)) : P.eqGuardType P.depth t = false := by
 cases n with
 | zero => simp [eqT] at h
 | succ n =>
 simp only [eqT] at h
 split at h <;> first | (simp at h; done) | skip
 split at h
 ·simp at h
 ·rename_i hg
  simp only [Bool.or_eq_true, not_or, Bool.not_eq_true] at hg
  exact hg.2
theorem eqR_nil {n : Nat} {e : EqT} {p q : AVal} {b : Bool} {F : Frz} {m : Pls} (h : eqR n e p q = some b) (rx : Rel F m p .nilIface) (ry : Rel F m q .nilIface) : e = .nilP (.iface true) := by
 cases n with
 | zero => simp [eqR] at h
 | succ n =>
 cases e with
 | agg fs => exfalso; cases rx <;> simp [eqR] at h
 | int => exfalso; cases rx <;> simp [eqR] at h
 | str => exfalso; cases rx <;> simp [eqR] at h
 | bool => exfalso; cases rx <;> simp [eqR] at h
 | nilP k =>
   cases rx with
   | top v => have hn : isNil k .top = none := by cases k <;> rfl
              simp [eqR, hn] at h
   | atom v =>
     cases ry with
     | top v => have hn : isNil k .top = none := by cases k <;> rfl
                simp [eqR, hn] at h
     | atom v =>
       cases k with
       | iface s => cases s <;> simp [eqR, isNil] at h ⊢
       | _ => simp [eqR, isNil] at h
theorem eqT_iface {n : Nat} {safe : Bool} {t : TypeId} (h : eqT P n safe t = some (.nilP (.iface true))) : ∃ ms, P.underlying t = some (.interface ms) ∧ (safe = true ∨ ms = #[]) := by
 cases n with
 | zero => simp [eqT] at h
 | succ n =>
 simp only [eqT] at h
 split at h <;> first | (simp at h; done) | skip
 ·rename_i ms hu
  simp at h
  exact ⟨ms, hu, h⟩
theorem run_guardIface {t : TypeId} {ms : Array (String × TypeId)} (hu : P.underlying t = some (.interface ms)) (d : Nat) (w : World) : (Op.eqGuardIn (d + 1) t .nilIface .nilIface).run P w = .ok (!ms.isEmpty) w := by
 simp [Op.eqGuardIn, run_underlying hu]
theorem eqGuard_ok {F m w} {op : BinOp} {t : TypeId} {x y : Operand} {u v : Value} {e : EqT} {p q : AVal} {n n' : Nat} {b : Bool} (ht : eqT P n' (isConst x || isConst y) t = some e) (h : eqR n e p q = some b)
  (rx : Rel F m p u) (ry : Rel F m q v) : (eqGuard op t x y u v).run P w = .ok () w := by
 by_cases h2 : ∃ cs, u = .agg cs
 ·obtain ⟨us, rfl⟩ := h2
  obtain ⟨fs, rfl⟩ := eqR_agg h rx
  have hg := eqT_agg ht
  cases v <;> first | exact run_eqGuard_agg w op t x y _ _ hg | (cases op <;> rfl)
 ·by_cases h1 : u = .nilIface
  ·subst h1
   cases v <;> first | (cases op <;> rfl) | skip
   obtain rfl := eqR_nil h rx ry
   obtain ⟨ms, hu, hs⟩ := eqT_iface ht
   unfold eqGuard
   cases op <;> try rfl
   all_goals
    rcases hs with hs | rfl
    ·simp only [Bool.or_eq_true] at hs
     rcases hs with hc | hc
     ·cases x <;> first | rfl | cases hc
     ·cases y <;> first | (cases x <;> rfl) | cases hc
    ·have hg := run_guardIface hu 9999 w
     cases x <;> cases y <;> first | rfl | simp [Op.maxDepth, hg]
  ·exact eqGuard_nonnil h1 fun cs hc => h2 ⟨cs, hc⟩
theorem run_bin_int {w : World} {S S' : Heap} {op : BinOp} {t : TypeId} {e : EqT} {k k' : IntKind} {a b : Int} {v : AVal} (h : binR op e (.atom (.int k a)) (.atom (.int k' b)) S = .ok true v S') :
  S' = S ∧ ∃ u, v = .atom u ∧ (binOp op t (.int k a) (.int k' b)).run P w = .ok u w := by
 cases op <;> simp only [binR, ORes.ok.injEq, decide_eq_true_eq] at h
 case quo => obtain ⟨⟨hk, hz⟩, rfl, rfl⟩ := h; exact ⟨rfl, _, rfl, by simp [binOp, hk, Op.intDiv, hz]⟩
 case rem => obtain ⟨⟨hk, hz⟩, rfl, rfl⟩ := h; exact ⟨rfl, _, rfl, by simp [binOp, hk, Op.intDiv, hz]⟩
 case shl => obtain ⟨hk, rfl, rfl⟩ := h; exact ⟨rfl, _, rfl, by simp [binOp, Op.shift, Int.not_lt.2 hk]⟩
 case shr => obtain ⟨hk, rfl, rfl⟩ := h; exact ⟨rfl, _, rfl, by simp [binOp, Op.shift, Int.not_lt.2 hk]⟩
 all_goals
  obtain ⟨hk, rfl, rfl⟩ := h
  subst hk
  exact ⟨rfl, _, rfl, by simp [binOp, Op.intArith, Op.intBits, Op.intCmp]⟩
theorem size_mk (l : List UInt8) : (⟨l.toArray⟩ : ByteArray).size = l.length := by simp [ByteArray.size]
theorem append_mk (a b : List UInt8) : (⟨a.toArray⟩ : ByteArray) ++ (⟨b.toArray⟩ : ByteArray) = ⟨(a ++ b).toArray⟩ := by
 apply ByteArray.ext
 simp
theorem run_bin_str {w : World} {S S' : Heap} {op : BinOp} {t : TypeId} {e : EqT} {a b : List UInt8} {v : AVal} (h : binR op e (.str a) (.str b) S = .ok true v S') :
  S' = S ∧ ∃ u, (∀ F m, Rel F m v u) ∧ (binOp op t (strV a) (strV b)).run P w = .ok u w := by
 cases op <;> simp only [binR, ORes.ok.injEq, reduceCtorEq, decide_eq_true_eq] at h
 case add =>
  obtain ⟨hk, rfl, rfl⟩ := h
  refine ⟨rfl, strV (a ++ b), fun _ _ => .str _, ?_⟩
  have : ¬ ((a.length + b.length : Nat) : Int) > 9223372036854775807 := by omega
  simp only [binOp, Op.stringOp, size_mk, IntKind.max_i64, if_neg this, append_mk]
  rfl
 all_goals
  obtain ⟨_, rfl, rfl⟩ := h
  refine ⟨rfl, _, fun _ _ => .atom _, ?_⟩
  have hb : (a == b) = decide (a = b) := by rw [Bool.eq_iff_iff]; simp
  simp [binOp, Op.stringOp, bytesLt, hb]
theorem binR_else {S : Heap} {op : BinOp} {e : EqT} {p q : AVal} (h1 : ¬ ∃ k a k' b, p = .atom (.int k a) ∧ q = .atom (.int k' b)) (h2 : ¬ ∃ a b, p = .str a ∧ q = .str b) {v : AVal} {S' : Heap} (h : binR op e p q S = .ok true v S') :
  S' = S ∧ ∃ b, eqR 20 e p q = some b ∧ ((op = .eql ∧ v = .bool b) ∨ (op = .neq ∧ v = .bool (!b))) := by
 unfold binR at h
 split at h
 all_goals first
  | exact absurd ⟨_, _, _, _, rfl, rfl⟩ h1
  | exact absurd ⟨_, _, rfl, rfl⟩ h2
  | (cases h; done)
  | skip
 ·split at h
  ·rename_i b hb
   simp only [ORes.ok.injEq] at h
   exact ⟨h.2.2.symm, b, hb, .inl ⟨rfl, h.2.1.symm⟩⟩
  ·cases h
 ·split at h
  ·rename_i b hb
   simp only [ORes.ok.injEq] at h
   exact ⟨h.2.2.symm, b, hb, .inr ⟨rfl, h.2.1.symm⟩⟩
  ·cases h
theorem run_bin_eq {w : World} {t : TypeId} {u v : Value} {b : Bool} (h : (Op.equal t u v).run P w = .ok b w) (hi : ∀ k a k' b, ¬ (u = .int k a ∧ v = .int k' b)) (hs : ∀ a b, ¬ (u = .string a ∧ v = .string b))
  (hf : ∀ k a k' b, ¬ (u = .float k a ∧ v = .float k' b)) (hc : ∀ k a b k' c d, ¬ (u = .complex k a b ∧ v = .complex k' c d)) :
  (binOp .eql t u v).run P w = .ok (.bool b) w ∧ (binOp .neq t u v).run P w = .ok (.bool (!b)) w := by
 have e1 : binOp .eql t u v = (do pure (.bool (← Op.equal t u v))) := by
  unfold binOp
  split <;> first
   | rfl
   | exact absurd ⟨rfl, rfl⟩ (hi _ _ _ _)
   | exact absurd ⟨rfl, rfl⟩ (hs _ _)
   | exact absurd ⟨rfl, rfl⟩ (hf _ _ _ _)
   | exact absurd ⟨rfl, rfl⟩ (hc _ _ _ _ _ _)
   | simp_all
 have e2 : binOp .neq t u v = (do pure (.bool (!(← Op.equal t u v)))) := by
  unfold binOp
  split <;> first
   | rfl
   | exact absurd ⟨rfl, rfl⟩ (hi _ _ _ _)
   | exact absurd ⟨rfl, rfl⟩ (hs _ _)
   | exact absurd ⟨rfl, rfl⟩ (hf _ _ _ _)
   | exact absurd ⟨rfl, rfl⟩ (hc _ _ _ _ _ _)
   | simp_all
 rw [e1, e2]
 simp [h]
theorem eqR_notnum {n : Nat} {e : EqT} {p q : AVal} {b : Bool} {F : Frz} {m : Pls} {u v : Value} (h : eqR n e p q = some b) (rx : Rel F m p u) (ry : Rel F m q v)
  (h1 : ¬ ∃ k a k' b, p = .atom (.int k a) ∧ q = .atom (.int k' b)) (h2 : ¬ ∃ a b, p = .str a ∧ q = .str b) :
  (∀ k a k' b, ¬ (u = .int k a ∧ v = .int k' b)) ∧ (∀ a b, ¬ (u = .string a ∧ v = .string b)) ∧ (∀ k a k' b, ¬ (u = .float k a ∧ v = .float k' b)) ∧ (∀ k a b k' c d, ¬ (u = .complex k a b ∧ v = .complex k' c d)) := by
 cases n with
 | zero => simp [eqR] at h
 | succ n =>
 cases e with
 | int => exfalso; unfold eqR at h; split at h <;> first | exact h1 ⟨_, _, _, _, rfl, rfl⟩ | simp_all
 | str => exfalso; unfold eqR at h; split at h <;> first | exact h2 ⟨_, _, rfl, rfl⟩ | simp_all
 | bool =>
   unfold eqR at h
   split at h <;> first | (cases h; done) | simp_all
   obtain rfl := rx.bool_inv
   simp
 | agg fs =>
   unfold eqR at h
   split at h <;> first | (cases h; done) | simp_all
   cases rx
   simp
 | nilP k =>
   have hu : ∃ b, isNil k p = some b := by
    cases hk : isNil k p with
    | none => simp [eqR, hk] at h
    | some b => exact ⟨b, rfl⟩
   obtain ⟨b', hb⟩ := hu
   have := isNil_inv hb rx
   cases k <;> cases b' <;> simp at this
   all_goals
    first
     | (subst this; simp; done)
     | (obtain ⟨_, rfl⟩ := this; simp; done)
     | (obtain ⟨_, _, rfl⟩ := this; simp; done)
     | (obtain ⟨_, _, _, rfl⟩ := this; simp; done)
theorem sound_bin {o : Oper} {op : BinOp} {t yt : TypeId} {e : EqT} {x y : Operand} {x' y' : MOpd} (ho : o.op = .binOp op t x y yt) (hx : od β.G x = some x') (hy : od β.G y = some y')
  (he : (op = .eql ∨ op = .neq) → eqT P 20 (isConst x || isConst y) t = some e) : Sound P β o (.bin op e x' y') := by
 refine sound_keep fun F m S w a act v S' hs ht hr => ?_
 have rx := rel_od hs.glob ht hx
 have ry := rel_od hs.glob ht hy
 have key : ∀ u, (eqGuard op t x y (act.eval x) (act.eval y)).run P w = .ok () w → (binOp op t (act.eval x) (act.eval y)).run P w = .ok u w → Yields P o act w u w := fun u h1 h2 =>
  .inl (by simp [execOp, ho, h1, h2])
 simp only [MOp.run] at hr
 generalize ev a x' = p at rx hr
 generalize ev a y' = q at ry hr
 by_cases h1 : ∃ k a k' b, p = .atom (.int k a) ∧ q = .atom (.int k' b)
 ·obtain ⟨k, i, k', j, rfl, rfl⟩ := h1
  obtain ⟨rfl, u, rfl, hu⟩ := run_bin_int (P := P) (w := w) (t := t) hr
  have e1 := rx.int_inv
  have e2 := ry.int_inv
  exact ⟨rfl, u, key u (by rw [e1]; exact eqGuard_nonnil (by simp) (by simp)) (by rw [e1, e2]; exact hu), .atom u⟩
 ·by_cases h2 : ∃ a b, p = .str a ∧ q = .str b
  ·obtain ⟨l, l', rfl, rfl⟩ := h2
   obtain ⟨rfl, u, hrel, hu⟩ := run_bin_str (P := P) (w := w) (t := t) hr
   have e1 := rx.str_inv
   have e2 := ry.str_inv
   exact ⟨rfl, u, key u (by rw [e1]; exact eqGuard_nonnil (by simp) (by simp)) (by rw [e1, e2]; exact hu), hrel F m⟩
  ·obtain ⟨rfl, b, hb, hv⟩ := binR_else h1 h2 hr
   obtain ⟨n1, n2, n3, n4⟩ := eqR_notnum hb rx ry h1 h2
   have hop : op = .eql ∨ op = .neq := hv.imp (·.1) (·.1)
   have ht' := he hop
   have heq : (Op.equal t (act.eval x) (act.eval y)).run P w = .ok b w := run_eqR 20 20 _ e t p q b _ _ _ ht' hb rx ry (by simp [Op.maxDepth])
   obtain ⟨k1, k2⟩ := run_bin_eq heq n1 n2 n3 n4
   have hg := eqGuard_ok (w := w) (op := op) (x := x) (y := y) ht' hb rx ry
   rcases hv with ⟨rfl, rfl⟩ | ⟨rfl, rfl⟩
   ·exact ⟨rfl, _, key _ hg k1, .atom _⟩
   ·exact ⟨rfl, _, key _ hg k2, .atom _⟩
end
end Go.Abs
