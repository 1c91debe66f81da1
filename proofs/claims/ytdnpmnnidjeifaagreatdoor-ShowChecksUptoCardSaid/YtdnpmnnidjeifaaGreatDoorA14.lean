/- The abstract machine, part 14: a row rewritten in part: clear, copy; and some small operations. Conditions: none; definitions and lemmas. -/
import Derived.Test.YtdnpmnnidjeifaaGreatDoorA13
namespace Go.Abs
open Go Go.RowKit
section
variable {P : Program} {β : Base}
theorem cellAt_mid (es news : List (List AVal)) (off i j : Nat) (hle : off + news.length ≤ es.length) :
  cellAt (es.take off ++ news ++ es.drop (off + news.length)) i j = if off ≤ i ∧ i < off + news.length then cellAt news (i - off) j else cellAt es i j := by
 have e1 : (es.take off).length = off := by simp; omega
 have key : (es.take off ++ news ++ es.drop (off + news.length)).getD i [] = if off ≤ i ∧ i < off + news.length then news.getD (i - off) [] else es.getD i [] := by
  simp only [List.getD_eq_getElem?_getD]
  split
  ·rename_i h
   rw [List.getElem?_append_left (by simp; omega), List.getElem?_append_right (by omega), e1]
  ·rename_i h
   rcases Nat.lt_or_ge i off with h1 | h1
   ·rw [List.getElem?_append_left (by simp; omega), List.getElem?_append_left (by omega), List.getElem?_take_of_lt h1]
   ·rw [List.getElem?_append_right (by simp; omega), List.getElem?_drop]
    congr 2; simp; omega
 unfold cellAt
 rw [key]
 split <;> rfl
theorem Sim.rewriteE {F m S w} (hs : Sim β F m S w) {id k : Nat} {es : List (List AVal)} {cp : Option Nat} {p : Pl} (hS : S[id]? = some (.cells k es cp)) (hm : m id = some p) (off : Nat) {news : List (List AVal)} {arr : Array Value} (hr : RelE F m k news arr)
  (hle : off + news.length ≤ es.length) : (storeCells ⟨p.b, p.o + off * k, none⟩ arr.toList 0).run P w = .ok () (w.setCells p.b (p.o + off * k) arr.toList) ∧
   Sim β F m (S.set id (.cells k (es.take off ++ news ++ es.drop (off + news.length)) cp)) (w.setCells p.b (p.o + off * k) arr.toList) := by
 obtain ⟨q, hq, hok⟩ := hs.objs id _ hS
 obtain rfl := Option.some.inj (hm.symm.trans hq)
 obtain ⟨hk, h2, h3, h4, h5, h6, h7, h8⟩ := hok
 obtain ⟨r1, r2, r3⟩ := hr
 have hmul : off * k + news.length * k ≤ p.cap * k := by rw [← Nat.add_mul]; exact Nat.mul_le_mul_right _ (by omega)
 have hidx : ∀ x, x < arr.size → x / k < news.length ∧ x % k < k ∧ x / k * k + x % k = x := fun x hx => by
  refine ⟨?_, Nat.mod_lt _ h4, by rw [Nat.mul_comm]; exact Nat.div_add_mod x k⟩
  rw [r1] at hx
  exact Nat.div_lt_of_lt_mul (by rwa [Nat.mul_comm])
 have hin : ∀ j, j < arr.size → (∃ v, w.cell? ⟨p.b, p.o + off * k + j, none⟩ = some v) ∧ w.frozen? ⟨p.b, p.o + off * k + j, none⟩ = false := fun j hj => by
  have := h7 (p.o + off * k + j) (by omega) (by omega)
  exact ⟨this.1, this.2.1⟩
 have hst := run_storeCells_cells (P := P) p.b (p.o + off * k) arr.toList 0 w (fun j hj => by
   obtain ⟨⟨u, hu⟩, _⟩ := hin j (by simpa using hj)
   simp only [Nat.add_zero]; rw [hu]; rfl) (fun j hj => by
   simp only [Nat.add_zero]; exact (hin j (by simpa using hj)).2) (fun u hu => by
   obtain ⟨j, hj, rfl⟩ := List.getElem_of_mem hu
   have hj' : j < arr.size := by simpa using hj
   obtain ⟨a1, a2, a3⟩ := hidx j hj'
   have := (r3 _ _ a1 a2).1
   rw [a3, agetD_eq _ _ _ hj'] at this
   simpa using this)
 simp only [Nat.add_zero] at hst
 refine ⟨hst, hs.rewrite (es' := es.take off ++ news ++ es.drop (off + news.length)) hS hm (p.o + off * k) arr.toList (by omega) (by simp only [Array.length_toList, r1]; omega) ?_ (fun e he => ?_) (fun i j hi hj => ?_)⟩
 ·simp only [List.length_append, List.length_take, List.length_drop]; omega
 ·rcases List.mem_append.1 he with he | he
  ·rcases List.mem_append.1 he with he | he
   ·exact h6 e (List.mem_of_mem_take he)
   ·exact r2 e he
  ·exact h6 e (List.mem_of_mem_drop he)
 ·have hi' : i < es.length := by simp only [List.length_append, List.length_take, List.length_drop] at hi; omega
  rw [cellAt_mid _ _ _ _ _ hle]
  split
  ·rename_i hin2
   have hx : (i - off) * k + j < arr.size := by rw [r1]; exact idx_lt (by omega) hj
   have := World.cell?_setCells_in p.b arr.toList (p.o + off * k) w (fun j' hj' => by
    obtain ⟨⟨u, hu⟩, _⟩ := hin j' (by simpa using hj')
    rw [hu]; rfl) ((i - off) * k + j) (by simpa using hx)
   have e1 : p.o + off * k + ((i - off) * k + j) = p.o + (i * k + j) := by
    have : off * k + (i - off) * k = i * k := by rw [← Nat.add_mul]; congr 1; omega
    omega
   rw [e1] at this
   obtain ⟨c1, c2⟩ := r3 (i - off) j (by omega) hj
   rw [agetD_eq _ _ _ hx] at c1 c2
   exact ⟨_, this, by simpa using c1, by simpa using c2⟩
  ·rename_i hout
   obtain ⟨u, hu, h1, hr⟩ := h8 i j hi' hj
   refine ⟨u, ?_, h1, hr⟩
   rw [World.cell?_setCells_out _ _ _ _ _ (fun _ _ => ?_)]
   ·exact hu
   ·simp only [Array.length_toList, r1]
    rcases Nat.lt_or_ge i off with h | h
    ·have : (i + 1) * k ≤ off * k := Nat.mul_le_mul_right _ h
     rw [Nat.add_mul] at this; left; omega
    ·have : (off + news.length) * k ≤ i * k := Nat.mul_le_mul_right _ (by omega)
     rw [Nat.add_mul] at this; right; omega
theorem zeroCells_eq {t : TypeId} {i : TyI} (hi : tyI P t = some i) (n : Nat) : Builtin.zeroCells i.zero.cells n = (Array.range (n * i.size)).map (i.zero.cells[· % i.zero.cells.size]!) := by
 obtain ⟨_, _, _, _, _, _, _, _, hsz, _, _⟩ := tyI_spec hi
 simp [Builtin.zeroCells, hsz]
theorem sound_clearS {o : Oper} {t e : TypeId} {ts : Array TypeId} {i : TyI} {x : Operand} {x' : MOpd} (ho : o.op = .call { callee := .builtin .clear, args := #[x], argTypes := ts }) (hts : ts[0]? = some t) (hd : P.underlying t = some (.slice e)) (hi : tyI P e = some i)
  (hx : od β.G x = some x') : Sound P β o (.clearS i.size i.z x') := by
 intro F m S w a act v S' hs ht hr
 have rx := rel_od hs.glob ht hx
 simp only [MOp.run, clearR] at hr
 obtain ⟨_, inf, hu1, hinf, hz0, hsz0, hby, _⟩ := tyI_spec hi
 split at hr
 ·rename_i fl hb
  rw [hb] at rx
  simp only [ORes.ok.injEq, true_and] at hr
  obtain ⟨rfl, rfl⟩ := hr
  generalize hv : act.eval x = u at rx
  have hu : ∃ A c, u = .slice A 0 c := by
   cases rx with
   | nil cap hc => exact ⟨none, cap, rfl⟩
   | list _ _ ad n' cap b o' k' vs hfl hn' hcap hfull hk' hk0 hA hA0 ha h1 hF h => subst hn'; exact ⟨ad, cap, rfl⟩
  obtain ⟨A, c, rfl⟩ := hu
  refine ⟨.tuple #[], w, F, m, .inl ?_, Ext.refl F m, hs, .tuple [] #[] rfl (fun i hi => by simp at hi)⟩
  cases A <;> simp [execOp, ho, resolve, hv, invoke, builtin, Builtin.clear_, hts, run_underlying hd]
 ·rename_i id off len hb
  rw [hb] at rx
  split at hr
  ·rename_i k0 es cp hS
   simp only [ORes.ok.injEq, Bool.and_eq_true, decide_eq_true_eq] at hr
   obtain ⟨⟨⟨⟨hk, hz⟩, hone⟩, hle⟩, rfl, rfl⟩ := hr
   subst hk
   generalize hv : act.eval x = u at rx
   cases rx with
   | row _ _ _ A cap p hm hl hc hA hN =>
     obtain ⟨q, hq, hok⟩ := hs.objs id _ hS
     obtain rfl := Option.some.inj (hm.symm.trans hq)
     have hpk : p.k = i.size := hok.1
     have hrel := relE_zero (P := P) (F := F) (m := m) hi len
     obtain ⟨hst, hsim⟩ := hs.rewriteE (P := P) hS hm off hrel (by simpa using hle)
     rcases Nat.eq_zero_or_pos len with h0 | h0
     ·subst h0
      refine ⟨.tuple #[], w, F, m, .inl ?_, Ext.refl F m, ?_, .tuple [] #[] rfl (fun i hi => by simp at hi)⟩
      ·cases A <;> simp [execOp, ho, resolve, hv, invoke, builtin, Builtin.clear_, hts, run_underlying hd]
      ·have : es.take off ++ List.replicate 0 i.z ++ es.drop (off + 0) = es := by simp
       rw [this]
       obtain ⟨hlt, he⟩ := List.getElem?_eq_some_iff.1 hS
       rw [← he, List.set_getElem_self hlt]
       exact hs
     ·have hA' := hA (by omega)
      rw [hpk] at hA'
      subst hA'
      refine ⟨.tuple #[], _, F, m, .inl ?_, Ext.refl F m, by simpa using hsim, .tuple [] #[] rfl (fun i hi => by simp at hi)⟩
      have hne : len ≠ 0 := by omega
      have hze := zeroCells_eq (P := P) hi len
      rw [← hze] at hst
      simp [execOp, ho, resolve, hv, invoke, builtin, Builtin.clear_, hts, run_underlying hd, run_zero hi, hst]
      rw [hze]; simp
  ·cases hr
 ·cases hr
theorem sound_mm {o : Oper} {ts : Array TypeId} {b : Bool} {x y : Operand} {x' y' : MOpd} (ho : o.op = .call { callee := .builtin (if b then .max else .min), args := #[x, y], argTypes := ts })
  (hx : od β.G x = some x') (hy : od β.G y = some y') : Sound P β o (.mm b x' y') := by
 refine sound_keep fun F m S w a act v S' hs ht hr => ?_
 have rx := rel_od hs.glob ht hx
 have ry := rel_od hs.glob ht hy
 simp only [MOp.run] at hr
 split at hr
 ·rename_i k p k' q h1 h2
  rw [h1] at rx
  rw [h2] at ry
  simp only [ORes.ok.injEq, true_and] at hr
  obtain ⟨rfl, rfl⟩ := hr
  have ex := rx.int_inv
  have ey := ry.int_inv
  cases b
  ·refine ⟨rfl, _, .inl ?_, .atom _⟩
   simp only [Bool.false_eq_true, if_false] at ho ⊢
   simp [execOp, ho, resolve, ex, ey, invoke, builtin, Builtin.min_, Builtin.min2]
  ·refine ⟨rfl, _, .inl ?_, .atom _⟩
   simp only [if_true] at ho ⊢
   simp [execOp, ho, resolve, ex, ey, invoke, builtin, Builtin.max_, Builtin.max2]
 ·cases hr
theorem sound_capS {o : Oper} {t e : TypeId} {ts : Array TypeId} {x : Operand} {x' : MOpd} (ho : o.op = .call { callee := .builtin .cap, args := #[x], argTypes := ts }) (hts : ts[0]? = some t) (hd : P.underlying t = some (.slice e)) (hx : od β.G x = some x') : Sound P β o (.capS x') := by
 refine sound_keep fun F m S w a act v S' hs ht hr => ?_
 have rx := rel_od hs.glob ht hx
 simp only [MOp.run] at hr
 generalize hv : act.eval x = u at rx
 have key : ∀ A l c, u = .slice A l c → Yields P o act w (.int .i64 c) w := fun A l c he => by
  subst he
  refine .inl ?_
  simp [execOp, ho, resolve, hv, invoke, builtin, Builtin.cap_, hts, run_underlying hd, goInt]
 split at hr
 ·rename_i es hb
  rw [hb] at rx
  simp only [ORes.ok.injEq, true_and] at hr
  obtain ⟨rfl, rfl⟩ := hr
  cases rx with
  | nil cap hc => subst hc; exact ⟨rfl, _, key _ _ _ rfl, .atom _⟩
  | list _ _ ad n' cap b o' k' vs hfl hn' hcap hfull hk' hk0 hA hA0 ha h1 hF h => exact absurd rfl hfl
 ·rename_i fl es hnn hb
  rw [hb] at rx
  simp only [ORes.ok.injEq] at hr
  obtain ⟨hf, rfl, rfl⟩ := hr
  cases rx with
  | nil cap hc => exact (hnn rfl).elim
  | list _ _ ad n' cap b o' k' vs hfl hn' hcap hfull hk' hk0 hA hA0 ha h1 hF h =>
    subst hn'
    have := hfull hf
    subst this
    exact ⟨rfl, _, key _ _ _ rfl, .atom _⟩
 ·rename_i id off len hb
  rw [hb] at rx
  split at hr
  ·rename_i k es c hS
   simp only [ORes.ok.injEq, true_and] at hr
   obtain ⟨rfl, rfl⟩ := hr
   cases rx with
   | row _ _ _ A cap p hm hl hc hA hN =>
     obtain ⟨q, hq, hok⟩ := hs.objs id _ hS
     obtain rfl := Option.some.inj (hm.symm.trans hq)
     have h2 := hok.2.1 c rfl
     have : c - off = cap := by omega
     rw [this]
     exact ⟨rfl, _, key _ _ _ rfl, .atom _⟩
  ·cases hr
 ·cases hr
end
end Go.Abs
