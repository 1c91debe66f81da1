/- The abstract machine, part 25: it runs. Conditions: none; definitions and lemmas. -/
import Derived.Test.YtdnpmnnidjeifaaGreatDoorA24
namespace Go.Abs
open Go Go.RowKit
mutual
def AVal.same : AVal → AVal → Bool
 | .atom (.int k a), .atom (.int k' b) => decide (k = k') && decide (a = b)
 | .atom (.bool a), .atom (.bool b) => decide (a = b)
 | .atom (.pointer none), .atom (.pointer none) => true
 | .atom (.map none), .atom (.map none) => true
 | .atom .nilFunc, .atom .nilFunc => true
 | .atom .nilIface, .atom .nilIface => true
 | .str a, .str b => decide (a = b)
 | .agg a, .agg b => sameL a b
 | .tuple a, .tuple b => sameL a b
 | .list f a, .list g b => decide (f = g) && sameLL a b
 | .row a b c, .row a' b' c' => decide (a = a') && decide (b = b') && decide (c = c')
 | .ptr a b c, .ptr a' b' c' => decide (a = a') && decide (b = b') && decide (c = c')
 | .fptr l i j, .fptr l' i' j' => sameLL l l' && decide (i = i') && decide (j = j')
 | .mapv a, .mapv b => decide (a = b)
 | .itr a, .itr b => decide (a = b)
 | .clo (.func f) a b, .clo (.func g) a' b' => decide (f = g) && sameL a a' && sameL b b'
 | .iface t v, .iface t' v' => decide (t = t') && v.same v'
 | _, _ => false
def sameL : List AVal → List AVal → Bool
 | [], [] => true
 | x :: r, y :: s => x.same y && sameL r s
 | _, _ => false
def sameLL : List (List AVal) → List (List AVal) → Bool
 | [], [] => true
 | x :: r, y :: s => sameL x y && sameLL r s
 | _, _ => false
end
mutual
theorem AVal.same_eq : ∀ {x y : AVal}, x.same y = true → x = y := by
 intro x y h
 unfold AVal.same at h
 split at h <;> first
  | rfl
  | (simp only [Bool.and_eq_true, decide_eq_true_eq] at h; simp [h]; done)
  | (simp only [decide_eq_true_eq] at h; simp [h]; done)
  | (rw [sameL_eq h]; done)
  | (simp only [Bool.and_eq_true, decide_eq_true_eq] at h; rw [h.1, sameLL_eq h.2]; done)
  | (simp only [Bool.and_eq_true, decide_eq_true_eq] at h; rw [sameLL_eq h.1.1, h.1.2, h.2]; done)
  | (simp only [Bool.and_eq_true, decide_eq_true_eq] at h; rw [h.1.1, sameL_eq h.1.2, sameL_eq h.2]; done)
  | (simp only [Bool.and_eq_true, decide_eq_true_eq] at h; rw [h.1, AVal.same_eq h.2]; done)
  | (cases h; done)
theorem sameL_eq : ∀ {x y : List AVal}, sameL x y = true → x = y := by
 intro x y h
 unfold sameL at h
 split at h
 ·rfl
 ·simp only [Bool.and_eq_true] at h; rw [AVal.same_eq h.1, sameL_eq h.2]
 ·cases h
theorem sameLL_eq : ∀ {x y : List (List AVal)}, sameLL x y = true → x = y := by
 intro x y h
 unfold sameLL at h
 split at h
 ·rfl
 ·simp only [Bool.and_eq_true] at h; rw [sameL_eq h.1, sameLL_eq h.2]
 ·cases h
end
theorem loadR_keep {agg k S x s v S'} (h : loadR agg k S x = .ok s v S') : S' = S := by
 unfold loadR at h; repeat' split at h
 all_goals first | (cases h; rfl) | cases h
theorem addOff_keep {o S x s v S'} (h : addOff o S x = .ok s v S') : S' = S := by
 unfold addOff at h; repeat' split at h
 all_goals first | (cases h; rfl) | cases h
theorem iaddrR_keep {k S x i s v S'} (h : iaddrR k S x i = .ok s v S') : S' = S := by
 unfold iaddrR at h; repeat' split at h
 all_goals first | (cases h; rfl) | cases h
theorem eff_keep {m : MOp} {S a s v S'} (he : m.eff = false) (h : m.run S a = .ok s v S') : S' = S := by
 cases m <;> simp only [MOp.eff] at he <;> first | (cases he; done) | skip
 all_goals simp only [MOp.run] at h
 case load => exact loadR_keep h
 case faddr => exact addOff_keep h
 case iaddr => exact iaddrR_keep h
 case bin op t x y =>
  unfold binR at h; repeat' split at h
  all_goals first | (cases h; rfl) | cases h
 case un op x =>
  unfold unR at h; repeat' split at h
  all_goals first | (cases h; rfl) | cases h
 case conv c x =>
  unfold convR at h
  repeat' split at h
  all_goals first | (cases h; rfl) | (cases h; done) | (simp at he; done)
 case slc k x lo hi mx =>
  unfold slcR at h; repeat' split at h
  all_goals first | (cases h; rfl) | cases h
 case sslc x lo hi =>
  unfold sslcR at h; repeat' split at h
  all_goals first | (cases h; rfl) | cases h
 case entry x =>
  unfold entryR at h; repeat' split at h
  all_goals first | (cases h; rfl) | cases h
 case lookup kd z ok x i =>
  unfold lookR at h; repeat' split at h
  all_goals first | (cases h; rfl) | cases h
 case lenS x =>
  unfold lenR at h; repeat' split at h
  all_goals first | (cases h; rfl) | cases h
 case iaddrA n k x i =>
  split at h
  ·split at h
   ·rename_i hr; cases h; exact addOff_keep hr
   ·rename_i hr; exact absurd h (hr _ _ _)
  ·cases h
 all_goals
  repeat' split at h
  all_goals first | (cases h; rfl) | cases h
def pendX (S : Heap) : List Pend → Bool
 | [] => true
 | p :: r => (!p.m.eff && match p.m.run S p.a with
   | .ok true v _ => v.same p.v
   | _ => false) && pendX S r
theorem pendX_ok {S : Heap} : ∀ {ps : List Pend}, pendX S ps = true → pendOk S ps
 | [], _ => trivial
 | p :: r, h => by
   simp only [pendX, Bool.and_eq_true, Bool.not_eq_true'] at h
   refine ⟨?_, pendX_ok h.2⟩
   obtain ⟨⟨he, h⟩, _⟩ := h
   split at h
   ·rename_i v S' hr
    rw [hr, eff_keep he hr, AVal.same_eq h]
   ·cases h
def allX {α γ : Type} : List α → (α → Option (List γ)) → Option (List γ)
 | [], _ => some []
 | x :: r, f => match f x, allX r f with
   | some a, some b => some (a ++ b)
   | _, _ => none
theorem allX_spec {α γ : Type} {f : α → Option (List γ)} : ∀ {l : List α} {out : List γ}, allX l f = some out → ∀ x ∈ l, ∃ o, f x = some o ∧ ∀ y ∈ o, y ∈ out
 | [], _, _, x, hx => nomatch hx
 | z :: r, out, h, x, hx => by
   simp only [allX] at h
   split at h
   ·rename_i a b ha hb
    simp only [Option.some.injEq] at h; subst h
    rcases List.mem_cons.1 hx with hx | hx
    ·subst hx; exact ⟨a, ha, fun y hy => List.mem_append_left _ hy⟩
    ·obtain ⟨o, ho, hs⟩ := allX_spec hb x hx
     exact ⟨o, ho, fun y hy => List.mem_append_right _ (hs y hy)⟩
   ·cases h
abbrev CallX := FuncId → List AVal → Heap → Option (List (AEnd × Heap))
def toXV : AEnd × Heap → AVal × Heap × Bool
 | (.ret v, S) => (v, S, true)
 | (.panic v, S) => (v, S, false)
def stepX (call : CallX) (i : MI) (a : Tmps) (S : Heap) : Option (List (AVal × Heap × Bool)) :=
 match wantedA a i.g with
 | none => none
 | some false => some [(.undef, S, true)]
 | some true => match i.k with
   | .op m => match m.run S a with
     | .ok true v S' => some [(v, S', true)]
     | .panic v S' => some [(v, S', false)]
     | _ => none
   | .next x => (nextM S (ev a x)).map (List.map fun o => (o.1, o.2, true))
   | .call f args => (call f (args.map (ev a)) S).map (List.map toXV)
   | .callV x args => match ev a x with
     | .clo (.func f) first cap => (call f (first ++ args.map (ev a) ++ cap) S).map (List.map toXV)
     | _ => none
abbrev XO := AExit × Tmps × Heap
abbrev XR := Option (List XO)
def opsX (call : CallX) : List MI → Tmps → Heap → XR
 | [], a, S => some [(.normal, a, S)]
 | i :: r, a, S => match stepX call i a S with
   | none => none
   | some [(v, S', true)] => opsX call r (putD i.dst v a) S'
   | some l => allX l fun o => match o with
     | (v, S', true) => opsX call r (putD i.dst v a) S'
     | (v, S', false) => some [(.panic v, a, S')]
def readX : List DE → List Pend → Tmps → Heap → Option (List Pend × Tmps)
 | [], ps, a, _ => some (ps, a)
 | x :: r, ps, a, S => match wantedA a x.i.g, x.i.k with
   | some false, _ => readX r ps (putD x.i.dst .undef a) S
   | some true, .op m => if m.eff then none else match m.run S a with
     | .ok true v _ => readX r (if x.late then ⟨x.ix, m, a, v⟩ :: ps else ps) (putD x.i.dst v a) S
     | _ => none
   | _, _ => none
def drawX (call : CallX) : DT → List Pend → Tmps → Heap → XR
 | .nil, _, a, S => some [(.normal, a, S)]
 | .rd l t, ps, a, S => match readX l ps a S with
   | some (ps', a') => drawX call t ps' a' S
   | none => none
 | .ef x keep t, ps, a, S => match stepX call x.i a S with
   | none => none
   | some l => allX l fun o => match o with
     | (v, S', true) => if pendX S' (kept keep ps) then drawX call t (kept keep ps) (putD x.i.dst v a) S' else none
     | (v, S', false) => some [(.panic v, [], S')]
 | .or s t, ps, a, S => match drawX call s ps a S, drawX call t ps a S with
   | some x, some y => some (x ++ y)
   | _, _ => none
def loopX (body : Tmps → Heap → XR) : Nat → Tmps → Heap → XR
 | 0, _, _ => none
 | n + 1, a, S => match body a S with
   | none => none
   | some l => allX l fun o => match o with
     | (.normal, a', S') => loopX body n a' S'
     | o => some [o]
def execC (call : CallX) (n : Nat) : MC → Tmps → Heap → XR
 | .skip, a, S => some [(.normal, a, S)]
 | .ops l, a, S => opsX call l a S
 | .draw t, a, S => drawX call t [] a S
 | .seq x y, a, S => match execC call n x a S with
   | none => none
   | some l => allX l fun o => match o with
     | (.normal, a', S') => execC call n y a' S'
     | o => some [o]
 | .cond c x y, a, S => match ev a c with
   | .atom (.bool true) => execC call n x a S
   | .atom (.bool false) => execC call n y a S
   | _ => none
 | .block i c, a, S => match execC call n c a S with
   | none => none
   | some l => some (l.map fun o => match o with
     | (.exit j, a', S') => if j = i then (.normal, a', S') else (.exit j, a', S')
     | o => o)
 | .loop c, a, S => loopX (execC call n c) n a S
 | .exit i, a, S => some [(.exit i, a, S)]
 | .ret, a, S => some [(.ret, a, S)]
def resX (res : List ARV) : XO → Option (AEnd × Heap)
 | (.normal, a, S) | (.ret, a, S) => match resL a S res with
   | some (true, vs) => some (.ret (one vs), S)
   | _ => none
 | (.panic v, _, S) => some (.panic v, S)
 | _ => none
def sameEs : List AEnt → List AEnt → Bool
 | [], [] => true
 | x :: r, y :: s => x.key.same y.key && x.val.same y.val && decide (x.born = y.born) && sameEs r s
 | _, _ => false
theorem sameEs_eq : ∀ {x y : List AEnt}, sameEs x y = true → x = y
 | [], [], _ => rfl
 | ⟨k, v, b⟩ :: r, ⟨k', v', b'⟩ :: s, h => by
   simp only [sameEs, Bool.and_eq_true, decide_eq_true_eq] at h
   rw [AVal.same_eq h.1.1.1, AVal.same_eq h.1.1.2, h.1.2, sameEs_eq h.2]
 | [], _ :: _, h => by simp [sameEs] at h
 | _ :: _, [], h => by simp [sameEs] at h
def sameO : AObj → AObj → Bool
 | .cells k es cap, .cells k' es' cap' => decide (k = k') && sameLL es es' && decide (cap = cap')
 | .map kvs c, .map kvs' c' => sameEs kvs kvs' && decide (c = c')
 | .mapIter mp s l q, .mapIter mp' s' l' q' => decide (mp = mp') && decide (s = s') && decide (l = l') && decide (q = q')
 | .strIter s q, .strIter s' q' => decide (s.data.toList = s'.data.toList) && decide (q = q')
 | .dead, .dead => true
 | _, _ => false
def sameH : Heap → Heap → Bool
 | [], [] => true
 | x :: r, y :: s => sameO x y && sameH r s
 | _, _ => false
theorem sameO_eq {x y : AObj} (h : sameO x y = true) : x = y := by
 unfold sameO at h
 split at h
 ·simp only [Bool.and_eq_true, decide_eq_true_eq] at h; rw [h.1.1, sameLL_eq h.1.2, h.2]
 ·simp only [Bool.and_eq_true, decide_eq_true_eq] at h; rw [sameEs_eq h.1, h.2]
 ·simp only [Bool.and_eq_true, decide_eq_true_eq] at h; rw [h.1.1.1, h.1.1.2, h.1.2, h.2]
 ·rename_i s q s' q'
  simp only [Bool.and_eq_true, decide_eq_true_eq] at h
  obtain ⟨⟨l⟩⟩ := s
  obtain ⟨⟨l'⟩⟩ := s'
  simp only at h
  rw [h.1, h.2]
 ·rfl
 ·cases h
theorem sameH_eq : ∀ {x y : Heap}, sameH x y = true → x = y
 | [], [], _ => rfl
 | x :: r, y :: s, h => by simp only [sameH, Bool.and_eq_true] at h; rw [sameO_eq h.1, sameH_eq h.2]
 | [], _ :: _, h => by simp [sameH] at h
 | _ :: _, [], h => by simp [sameH] at h
def gcX (S : Heap) (o : AEnd × Heap) : AEnd × Heap :=
 if o.1.sc S.length && sameH (o.2.take S.length) S then (o.1, S) else o
def sameE : AEnd → AEnd → Bool
 | .ret v, .ret u => v.same u
 | .panic v, .panic u => v.same u
 | _, _ => false
def onceX : List (AEnd × Heap) → List (AEnd × Heap)
 | [] => []
 | o :: r => if r.any fun o' => sameE o.1 o'.1 && sameH o.2 o'.2 then onceX r else o :: onceX r
theorem onceX_mem : ∀ {l : List (AEnd × Heap)}, ∀ o ∈ l, o ∈ onceX l
 | [], o, h => nomatch h
 | x :: r, o, h => by
   simp only [onceX]
   split
   ·rename_i ha
    rcases List.mem_cons.1 h with h | h
    ·subst h
     obtain ⟨o', ho', he⟩ := List.any_eq_true.1 ha
     simp only [Bool.and_eq_true] at he
     have : o = o' := by
      obtain ⟨e, S⟩ := o
      obtain ⟨e', S'⟩ := o'
      have h2 := sameH_eq he.2
      have h1 : e = e' := by
       have := he.1
       unfold sameE at this
       split at this
       ·rename_i h1 h2; simp only at h1 h2; rw [h1, h2, AVal.same_eq this]
       ·rename_i h1 h2; simp only at h1 h2; rw [h1, h2, AVal.same_eq this]
       ·cases this
      simp only at h2
      rw [h1, h2]
     subst this
     exact onceX_mem _ ho'
    ·exact onceX_mem o h
   ·rcases List.mem_cons.1 h with h | h
    ·subst h; simp
    ·exact List.mem_cons_of_mem _ (onceX_mem o h)
def resAll (res : List ARV) (S : Heap) : List XO → Option (List (AEnd × Heap))
 | [] => some []
 | o :: r => match resX res o, resAll res S r with
   | some x, some l => some (gcX S x :: l)
   | _, _ => none
def CallSound (C : CallP) (call : CallX) : Prop := ∀ f args S outs, call f args S = some outs → ∀ R : AEnd → Heap → Prop, (∀ o ∈ outs, R o.1 o.2) → C f args S R
section
variable {C : CallP} {call : CallX}
theorem stepX_val (hc : CallSound C call) {i : MI} {a : Tmps} {S : Heap} {l : List (AVal × Heap × Bool)} (h : stepX call i a S = some l) (Kp K : AVal → Heap → Prop)
  (hk : ∀ o ∈ l, if o.2.2 then K o.1 o.2.1 else Kp o.1 o.2.1) : stepV C Kp i a S K := by
 unfold stepX at h
 unfold stepV
 have hend : ∀ f args, (call f args S).map (List.map toXV) = some l → C f args S fun e S' => match e with
   | .ret v => K v S'
   | .panic v => Kp v S' := fun f args h => by
  simp only [Option.map_eq_some_iff] at h
  obtain ⟨outs, ho, rfl⟩ := h
  refine hc f args S _ ho _ fun o hm => ?_
  have := hk (toXV o) (List.mem_map_of_mem hm)
  obtain ⟨e, S'⟩ := o
  cases e <;> simpa [toXV] using this
 split at h
 ·cases h
 ·rename_i hw; rw [hw]
  simp only [Option.some.injEq] at h; subst h; simpa using hk _ (List.mem_singleton.2 rfl)
 ·rename_i hw; rw [hw]
  simp only
  split at h
  ·rename_i m hm
   rw [hm]; simp only
   split at h
   ·rename_i hr; rw [hr]; simp only [Option.some.injEq] at h; subst h; exact ⟨rfl, by simpa using hk _ (List.mem_singleton.2 rfl)⟩
   ·rename_i hr; rw [hr]; simp only [Option.some.injEq] at h; subst h; simpa using hk _ (List.mem_singleton.2 rfl)
   ·cases h
  ·rename_i y hm
   rw [hm]; simp only
   simp only [Option.map_eq_some_iff] at h
   obtain ⟨lm, hl, rfl⟩ := h
   rw [hl]
   exact fun o ho => by simpa using hk (o.1, o.2, true) (List.mem_map_of_mem ho)
  ·rename_i f args hm
   rw [hm]; exact hend _ _ h
  ·rename_i y args hm
   rw [hm]; simp only
   split at h
   ·rename_i hr; rw [hr]; exact hend _ _ h
   ·cases h
theorem opsX_wp (hc : CallSound C call) {Q : AExit → Tmps → Heap → Prop} : ∀ {l : List MI} {a : Tmps} {S : Heap} {outs}, opsX call l a S = some outs → (∀ o ∈ outs, Q o.1 o.2.1 o.2.2) → opsWp C (fun v a S => Q (.panic v) a S) l a S (Q .normal)
 | [], a, S, outs, h, hq => by simp only [opsX, Option.some.injEq] at h; subst h; exact hq _ (List.mem_singleton.2 rfl)
 | i :: r, a, S, outs, h, hq => by
   simp only [opsX] at h
   split at h
   ·cases h
   ·rename_i v S' hs
    refine stepX_val hc hs (fun v S => Q (.panic v) a S) (fun v S' => opsWp C (fun v a S => Q (.panic v) a S) r (putD i.dst v a) S' (Q .normal)) fun o hm => ?_
    rw [List.mem_singleton.1 hm]
    exact opsX_wp hc h hq
   ·rename_i l _ hs
    refine stepX_val hc hs (fun v S => Q (.panic v) a S) (fun v S' => opsWp C (fun v a S => Q (.panic v) a S) r (putD i.dst v a) S' (Q .normal)) fun o hm => ?_
    obtain ⟨out, ho, hsub⟩ := allX_spec h o hm
    obtain ⟨v, S', b⟩ := o
    cases b with
    | true => exact opsX_wp hc ho fun o hm => hq o (hsub o hm)
    | false => simp only [Option.some.injEq] at ho; subst ho; exact hq _ (hsub _ (List.mem_singleton.2 rfl))
theorem readX_wp {S : Heap} {K : List Pend → Tmps → Prop} : ∀ {l : List DE} {ps : List Pend} {a : Tmps} {ps' a'}, readX l ps a S = some (ps', a') → K ps' a' → readWp l ps a S K
 | [], ps, a, ps', a', h, hk => by simp only [readX, Option.some.injEq, Prod.mk.injEq] at h; obtain ⟨rfl, rfl⟩ := h; exact hk
 | x :: r, ps, a, ps', a', h, hk => by
   simp only [readX] at h
   simp only [readWp]
   split at h
   ·rename_i hw; simp only [hw]; exact readX_wp h hk
   ·rename_i m hw hm
    simp only [hw, hm]
    split at h
    ·cases h
    ·rename_i he
     split at h
     ·rename_i v S1 hr
      rw [hr]
      exact ⟨rfl, eff_keep (by simpa using he) hr, readX_wp h hk⟩
     ·cases h
   ·cases h
theorem drawX_wp (hc : CallSound C call) {Q : AExit → Tmps → Heap → Prop} : ∀ {t : DT} {ps : List Pend} {a : Tmps} {S : Heap} {outs}, drawX call t ps a S = some outs → (∀ o ∈ outs, Q o.1 o.2.1 o.2.2) → drawWp C (fun v S => Q (.panic v) [] S) t ps a S (Q .normal)
 | .nil, ps, a, S, outs, h, hq => by simp only [drawX, Option.some.injEq] at h; subst h; exact hq _ (List.mem_singleton.2 rfl)
 | .rd l t, ps, a, S, outs, h, hq => by
   simp only [drawX] at h
   split at h
   ·rename_i ps1 a1 hr
    exact readX_wp hr (drawX_wp hc h hq)
   ·cases h
 | .ef x keep t, ps, a, S, outs, h, hq => by
   simp only [drawX] at h
   split at h
   ·cases h
   ·rename_i l hs
    refine stepX_val hc hs (fun v S => Q (.panic v) [] S) (fun v S' => pendOk S' (kept keep ps) ∧ drawWp C (fun v S => Q (.panic v) [] S) t (kept keep ps) (putD x.i.dst v a) S' (Q .normal)) fun o hm => ?_
    obtain ⟨out, ho, hsub⟩ := allX_spec h o hm
    obtain ⟨v, S', b⟩ := o
    cases b with
    | true =>
      simp only at ho
      split at ho
      ·rename_i hp
       exact ⟨pendX_ok hp, drawX_wp hc ho fun o hm => hq o (hsub o hm)⟩
      ·cases ho
    | false => simp only [Option.some.injEq] at ho; subst ho; exact hq _ (hsub _ (List.mem_singleton.2 rfl))
 | .or s t, ps, a, S, outs, h, hq => by
   simp only [drawX] at h
   split at h
   ·rename_i x y hx hy
    simp only [Option.some.injEq] at h; subst h
    exact ⟨drawX_wp hc hx fun o hm => hq o (List.mem_append_left _ hm), drawX_wp hc hy fun o hm => hq o (List.mem_append_right _ hm)⟩
   ·cases h
theorem execC_wp (hc : CallSound C call) (n : Nat) : ∀ (c : MC) {Q : AExit → Tmps → Heap → Prop} {a : Tmps} {S : Heap} {outs}, execC call n c a S = some outs → (∀ o ∈ outs, Q o.1 o.2.1 o.2.2) → mwp C c Q a S := by
 intro c
 induction c with
 | skip => intro Q a S outs h hq; simp only [execC, Option.some.injEq] at h; subst h; exact hq _ (List.mem_singleton.2 rfl)
 | exit i => intro Q a S outs h hq; simp only [execC, Option.some.injEq] at h; subst h; exact hq _ (List.mem_singleton.2 rfl)
 | ret => intro Q a S outs h hq; simp only [execC, Option.some.injEq] at h; subst h; exact hq _ (List.mem_singleton.2 rfl)
 | ops l => intro Q a S outs h hq; exact opsX_wp hc h hq
 | draw t => intro Q a S outs h hq; exact drawX_wp hc h hq
 | seq x y ihx ihy =>
   intro Q a S outs h hq
   simp only [execC] at h
   split at h
   ·cases h
   ·rename_i l hx
    refine ihx hx fun o hm => ?_
    obtain ⟨out, ho, hsub⟩ := allX_spec h o hm
    obtain ⟨e, a', S'⟩ := o
    cases e with
    | normal => exact ihy ho fun o hm => hq o (hsub o hm)
    | _ => simp only [Option.some.injEq] at ho; subst ho; exact hq _ (hsub _ (List.mem_singleton.2 rfl))
 | cond c x y ihx ihy =>
   intro Q a S outs h hq
   simp only [execC] at h
   simp only [mwp]
   split at h
   ·rename_i hb; rw [hb]; exact ⟨fun _ => ihx h hq, fun h => (nomatch h)⟩
   ·rename_i hb; rw [hb]; exact ⟨fun h => (nomatch h), fun _ => ihy h hq⟩
   ·cases h
 | block i c ih =>
   intro Q a S outs h hq
   simp only [execC] at h
   split at h
   ·cases h
   ·rename_i l hx
    simp only [Option.some.injEq] at h; subst h
    refine ih hx fun o hm => ?_
    have := hq _ (List.mem_map_of_mem hm)
    obtain ⟨e, a', S'⟩ := o
    cases e with
    | exit j =>
      simp only at this ⊢
      split <;> rename_i hj
      ·simpa only [hj, if_true] using this
      ·simpa only [hj, if_false] using this
    | _ => exact this
 | loop c ih =>
   intro Q a S outs h hq
   simp only [execC] at h
   refine ⟨n, ?_⟩
   have key : ∀ (fuel : Nat) {a S outs}, loopX (execC call n c) fuel a S = some outs → (∀ o ∈ outs, Q o.1 o.2.1 o.2.2) → Nat.rec (motive := fun _ => Tmps → Heap → Prop) (fun _ _ => False) (fun _ R a S => mwp C c (fun e a' S' => match e with | .normal => R a' S' | e => Q e a' S') a S) fuel a S := by
    intro fuel
    induction fuel with
    | zero => intro a S outs h; simp [loopX] at h
    | succ f ihf =>
      intro a S outs h hq
      simp only [loopX] at h
      split at h
      ·cases h
      ·rename_i l hx
       refine ih hx fun o hm => ?_
       obtain ⟨out, ho, hsub⟩ := allX_spec h o hm
       obtain ⟨e, a', S'⟩ := o
       cases e with
       | normal => exact ihf ho fun o hm => hq o (hsub o hm)
       | _ => simp only [Option.some.injEq] at ho; subst ho; exact hq _ (hsub _ (List.mem_singleton.2 rfl))
   exact key n h hq
theorem resX_post {res : List ARV} {o : XO} {o' : AEnd × Heap} {R : AEnd → Heap → Prop} (h : resX res o = some o') (hR : R o'.1 o'.2) : resPost res R o.1 o.2.1 o.2.2 := by
 obtain ⟨e, a, S⟩ := o
 unfold resX at h
 split at h
 ·rename_i heq
  simp only [Prod.mk.injEq] at heq
  obtain ⟨rfl, rfl, rfl⟩ := heq
  simp only [resPost]
  split at h
  ·rename_i vs hv
   rw [hv]
   simp only [Option.some.injEq] at h
   subst h
   exact ⟨rfl, hR⟩
  ·cases h
 ·rename_i heq
  simp only [Prod.mk.injEq] at heq
  obtain ⟨rfl, rfl, rfl⟩ := heq
  simp only [resPost]
  split at h
  ·rename_i vs hv
   rw [hv]
   simp only [Option.some.injEq] at h
   subst h
   exact ⟨rfl, hR⟩
  ·cases h
 ·rename_i heq
  simp only [Prod.mk.injEq] at heq
  obtain ⟨rfl, rfl, rfl⟩ := heq
  simp only [Option.some.injEq] at h
  subst h
  exact hR
 ·cases h
theorem resAll_spec {res : List ARV} {S : Heap} : ∀ {l : List XO} {outs}, resAll res S l = some outs → ∀ o ∈ l, ∃ o', resX res o = some o' ∧ gcX S o' ∈ outs
 | [], _, _, o, ho => nomatch ho
 | x :: r, outs, h, o, ho => by
   simp only [resAll] at h
   split at h
   ·rename_i y l hy hl
    simp only [Option.some.injEq] at h; subst h
    rcases List.mem_cons.1 ho with ho | ho
    ·subst ho; exact ⟨y, hy, by simp⟩
    ·obtain ⟨o', h1, h2⟩ := resAll_spec hl o ho
     exact ⟨o', h1, List.mem_cons_of_mem _ h2⟩
   ·cases h
end
end Go.Abs
