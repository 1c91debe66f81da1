/- The abstract machine, part 24: what a call leaves behind that nobody can reach any more. Conditions: none; definitions and lemmas. -/
import Derived.Test.YtdnpmnnidjeifaaGreatDoorA23
namespace Go.Abs
open Go Go.RowKit
mutual
def AVal.sc (n : Nat) : AVal → Bool
 | .agg cs => scL n cs
 | .tuple cs => scL n cs
 | .list _ es => scLL n es
 | .row id _ _ => decide (id < n)
 | .ptr id _ _ => decide (id < n)
 | .fptr es _ _ => scLL n es
 | .mapv id => decide (id < n)
 | .itr id => decide (id < n)
 | .clo _ f c => scL n f && scL n c
 | .iface _ v => v.sc n
 | .top => true
 | .atom _ => true
 | .str _ => true
def scL (n : Nat) : List AVal → Bool
 | [] => true
 | x :: r => x.sc n && scL n r
def scLL (n : Nat) : List (List AVal) → Bool
 | [] => true
 | x :: r => scL n x && scLL n r
end
theorem scL_iff {n : Nat} : ∀ {l : List AVal}, scL n l = true ↔ ∀ x ∈ l, x.sc n = true
 | [] => by simp [scL]
 | x :: r => by simp [scL, scL_iff (l := r)]
theorem scLL_iff {n : Nat} : ∀ {l : List (List AVal)}, scLL n l = true ↔ ∀ x ∈ l, scL n x = true
 | [] => by simp [scLL]
 | x :: r => by simp [scLL, scLL_iff (l := r)]
theorem scL_get {n : Nat} {l : List AVal} : scL n l = true ↔ ∀ i, i < l.length → (l.getD i .top).sc n = true := by
 rw [scL_iff]
 constructor
 ·intro h i hi; rw [getD_eq _ _ _ hi]; exact h _ (List.getElem_mem hi)
 ·intro h x hx
  obtain ⟨i, hi, rfl⟩ := List.getElem_of_mem hx
  have := h i hi
  rwa [getD_eq _ _ _ hi] at this
theorem scLL_get {n k : Nat} {es : List (List AVal)} (hk : ∀ e ∈ es, e.length = k) : scLL n es = true ↔ ∀ i j, i < es.length → j < k → (cellAt es i j).sc n = true := by
 rw [scLL_iff]
 constructor
 ·intro h i j hi hj
  have := scL_get.1 (h _ (List.getElem_mem hi)) j (by rw [hk _ (List.getElem_mem hi)]; exact hj)
  unfold cellAt; rw [getD_eq _ _ _ hi]; exact this
 ·intro h e he
  obtain ⟨i, hi, rfl⟩ := List.getElem_of_mem he
  refine scL_get.2 fun j hj => ?_
  rw [hk _ (List.getElem_mem hi)] at hj
  have := h i j hi hj
  unfold cellAt at this; rwa [getD_eq _ _ _ hi] at this
theorem Rel.sc {F m n} (hn : ∀ id, n ≤ id → m id = none) {a : AVal} {v : Value} (h : Rel F m a v) : a.sc n = true := by
 have hid : ∀ {id p}, m id = some p → id < n := fun {id p} hm => by
  rcases Nat.lt_or_ge id n with h | h
  ·exact h
  ·rw [hn id h] at hm; cases hm
 induction h with
 | top v => rfl
 | atom v => rfl
 | str l => rfl
 | agg cs vs hl h1 _ ih => exact scL_get.2 ih
 | tuple cs vs hl _ ih => exact scL_get.2 ih
 | nil cap hc => rfl
 | list fl es A n' cap b o k vs hfl hn' hcap hfull hk hk0 hA hA0 ha h1 hF _ ih => exact (scLL_get hk).2 ih
 | row id off len A cap p hm hl hc hA hN => exact decide_eq_true (hid hm)
 | ptr id i j p hm => exact decide_eq_true (hid hm)
 | fptr es i j b o k vs hk hk0 h1 hF _ ih => exact (scLL_get hk).2 ih
 | mapv id p hm => exact decide_eq_true (hid hm)
 | itr id p hm => exact decide_eq_true (hid hm)
 | clo fn f1 c1 f2 c2 hf hc _ _ ih1 ih2 => simp only [AVal.sc, Bool.and_eq_true]; exact ⟨scL_get.2 ih1, scL_get.2 ih2⟩
 | iface t a v _ ih => exact ih
theorem Rel.cut {F m m' n} (hm' : ∀ id p, id < n → m id = some p → m' id = some p) {a : AVal} {v : Value} (h : Rel F m a v) (hs : a.sc n = true) : Rel F m' a v := by
 induction h with
 | top v => exact .top v
 | atom v => exact .atom v
 | str l => exact .str l
 | agg cs vs hl h1 _ ih => exact .agg cs vs hl h1 fun i hi => ih i hi (scL_get.1 hs i hi)
 | tuple cs vs hl _ ih => exact .tuple cs vs hl fun i hi => ih i hi (scL_get.1 hs i hi)
 | nil cap hc => exact .nil cap hc
 | list fl es A n' cap b o k vs hfl hn' hcap hfull hk hk0 hA hA0 ha h1 hF _ ih =>
   exact .list fl es A n' cap b o k vs hfl hn' hcap hfull hk hk0 hA hA0 ha h1 hF fun i j hi hj => ih i j hi hj ((scLL_get hk).1 hs i j hi hj)
 | row id off len A cap p hm hl hc hA hN => exact .row id off len A cap p (hm' _ _ (of_decide_eq_true hs) hm) hl hc hA hN
 | ptr id i j p hm => exact .ptr id i j p (hm' _ _ (of_decide_eq_true hs) hm)
 | fptr es i j b o k vs hk hk0 h1 hF _ ih => exact .fptr es i j b o k vs hk hk0 h1 hF fun i j hi hj => ih i j hi hj ((scLL_get hk).1 hs i j hi hj)
 | mapv id p hm => exact .mapv id p (hm' _ _ (of_decide_eq_true hs) hm)
 | itr id p hm => exact .itr id p (hm' _ _ (of_decide_eq_true hs) hm)
 | clo fn f1 c1 f2 c2 hf hc _ _ ih1 ih2 =>
   simp only [AVal.sc, Bool.and_eq_true] at hs
   exact .clo fn f1 c1 f2 c2 hf hc (fun i hi => ih1 i hi (scL_get.1 hs.1 i hi)) (fun i hi => ih2 i hi (scL_get.1 hs.2 i hi))
 | iface t a v _ ih => exact .iface t a v (ih hs)
def AObj.sc (n : Nat) : AObj → Bool
 | .cells _ es _ => scLL n es
 | .map kvs _ => kvs.all fun e => e.key.sc n && e.val.sc n
 | .mapIter (some id) _ _ _ => decide (id < n)
 | _ => true
theorem AObj.ok.cut {F m m' n B w p} (hm' : ∀ id p, id < n → m id = some p → m' id = some p) {o : AObj} (h : o.ok F m B w p) (hs : o.sc n = true) : o.ok F m' B w p := by
 cases o with
 | cells k es cap =>
   obtain ⟨rfl, h2, h3, h4, h5, h6, h7, h8⟩ := h
   refine ⟨rfl, h2, h3, h4, h5, h6, h7, fun i j hi hj => ?_⟩
   obtain ⟨v, hv, h1, hr⟩ := h8 i j hi hj
   exact ⟨v, hv, h1, hr.cut hm' ((scLL_get h6).1 hs i j hi hj)⟩
 | map kvs clock =>
   obtain ⟨h1, es, h2, h3, h4⟩ := h
   refine ⟨h1, es, h2, h3, fun i hi => ?_⟩
   have hh := List.all_eq_true.1 hs (kvs.getD i default) (by rw [getD_eq _ _ _ hi]; exact List.getElem_mem hi)
   simp only [Bool.and_eq_true] at hh
   exact ⟨(h4 i hi).1.cut hm' hh.1, (h4 i hi).2.1, (h4 i hi).2.2.cut hm' hh.2⟩
 | mapIter id since seen stepped =>
   cases id with
   | none => exact h
   | some id => obtain ⟨h1, q, h2, h3⟩ := h; exact ⟨h1, q, hm' _ _ (of_decide_eq_true hs) h2, h3⟩
 | strIter s pos => exact h
 | dead => trivial
theorem AObj.ok.sc {F m n B w p} (hn : ∀ id, n ≤ id → m id = none) {o : AObj} (h : o.ok F m B w p) : o.sc n = true := by
 cases o with
 | cells k es cap =>
   obtain ⟨rfl, h2, h3, h4, h5, h6, h7, h8⟩ := h
   refine (scLL_get h6).2 fun i j hi hj => ?_
   obtain ⟨v, hv, h1, hr⟩ := h8 i j hi hj
   exact hr.sc hn
 | map kvs clock =>
   obtain ⟨h1, es, h2, h3, h4⟩ := h
   refine List.all_eq_true.2 fun e he => ?_
   obtain ⟨i, hi, rfl⟩ := List.getElem_of_mem he
   have := h4 i hi
   rw [getD_eq _ _ _ hi] at this
   simp only [Bool.and_eq_true]
   exact ⟨this.1.sc hn, this.2.2.sc hn⟩
 | mapIter id since seen stepped =>
   cases id with
   | none => rfl
   | some id =>
     obtain ⟨h1, q, h2, h3⟩ := h
     refine decide_eq_true ?_
     rcases Nat.lt_or_ge id n with h' | h'
     ·exact h'
     ·rw [hn id h'] at h2; cases h2
 | strIter s pos => rfl
 | dead => rfl
section
variable {P : Program} {β : Base}
theorem Sim.scs {F m S w} (h : Sim β F m S w) : ∀ o ∈ S, o.sc S.length = true := fun o ho => by
 obtain ⟨i, hi, rfl⟩ := List.getElem_of_mem ho
 obtain ⟨p, _, hok⟩ := h.objs i _ (List.getElem?_eq_getElem hi)
 exact hok.sc h.dom
theorem Sim.keep {F m S w} (h : Sim β F m S w) {m0 : Pls} {n : Nat} (hm0 : ∀ g, Rel F m0 (β.G g) (.pointer (some ⟨g, 0, none⟩))) (he : ∀ id p, m0 id = some p → id < n ∧ m id = some p) (ks : List Nat) (hks : (ks.map fun r => r).Nodup) (hn : ∀ r ∈ ks, n ≤ r ∧ r < S.length) (hle : n ≤ S.length)
  (hsc : ∀ o ∈ S.take n, o.sc n = true) (hsk : ∀ r ∈ ks, ∀ o, S[r]? = some o → o.sc n = true) :
  ∃ m1 : Pls, (∀ id p, m0 id = some p → m1 id = some p) ∧ (∀ id p, id < n → m id = some p → m1 id = some p) ∧ (∀ i r p, ks[i]? = some r → m r = some p → m1 (n + i) = some p) ∧
   Sim β F m1 (S.take n ++ ks.map fun r => (S[r]?).getD .dead) w := by
 let σ : Nat → Option Nat := fun id => if id < n then some id else ks[id - n]?
 let m1 : Pls := fun id => (σ id).bind m
 have hlo : ∀ id p, id < n → m id = some p → m1 id = some p := fun id p hi hp => by simp [m1, σ, hi, hp]
 have hS : ∀ id o, (S.take n ++ ks.map fun r => (S[r]?).getD .dead)[id]? = some o → ∃ id', σ id = some id' ∧ S[id']? = some o ∧ o.sc n = true := fun id o ho => by
  by_cases hi : id < n
  ·rw [List.getElem?_append_left (by simp; omega)] at ho
   refine ⟨id, by simp [σ, hi], ?_, hsc o (List.mem_of_getElem? ho)⟩
   rw [List.getElem?_take] at ho
   simpa [hi] using ho
  ·rw [List.getElem?_append_right (by simp; omega)] at ho
   have e1 : (S.take n).length = n := by simp; omega
   rw [e1, List.getElem?_map, Option.map_eq_some_iff] at ho
   obtain ⟨r, hr, rfl⟩ := ho
   have hr' := hn r (List.mem_of_getElem? hr)
   have : S[r]? = some S[r] := List.getElem?_eq_getElem hr'.2
   refine ⟨r, by simp [σ, hi, hr], by rw [this]; rfl, ?_⟩
   rw [this]
   exact hsk r (List.mem_of_getElem? hr) _ this
 have hinj : ∀ i i' j, σ i = some j → σ i' = some j → i = i' := fun i i' j h1 h2 => by
  simp only [σ] at h1 h2
  split at h1 <;> split at h2
  ·simp at h1 h2; omega
  ·simp at h1; subst h1
   have := hn i (List.mem_of_getElem? h2); omega
  ·simp at h2; subst h2
   have := hn i' (List.mem_of_getElem? h1); omega
  ·obtain ⟨l1, e1⟩ := List.getElem?_eq_some_iff.1 h1
   obtain ⟨l2, e2⟩ := List.getElem?_eq_some_iff.1 h2
   rw [List.map_id'] at hks
   have := (List.getElem_inj hks).1 (e1.trans e2.symm)
   omega
 refine ⟨m1, fun id p hp => hlo id p (he id p hp).1 (he id p hp).2, hlo, fun i r p hr hp => ?_, ⟨h.below, fun g => (hm0 g).mono ⟨fun _ _ _ h => h, fun id p hp => hlo id p (he id p hp).1 (he id p hp).2⟩, h.agree, fun id o ho => ?_, fun id id' o1 o2 p1 p2 h1 h2 q1 q2 hne => ?_, fun id hid => ?_⟩⟩
 ·have hni : ¬ n + i < n := by omega
  simp [m1, σ, hr, hp, hni]
 ·obtain ⟨id', h1, h2, h3⟩ := hS id o ho
  obtain ⟨p, hp, hok⟩ := h.objs id' o h2
  exact ⟨p, by simp [m1, h1, hp], hok.cut hlo h3⟩
 ·obtain ⟨i1, a1, b1, _⟩ := hS id o1 h1
  obtain ⟨i2, a2, b2, _⟩ := hS id' o2 h2
  have e1 : m i1 = some p1 := by simpa [m1, a1] using q1
  have e2 : m i2 = some p2 := by simpa [m1, a2] using q2
  exact h.apart i1 i2 o1 o2 p1 p2 b1 b2 e1 e2 (fun he => hne (by subst he; exact hinj _ _ _ a1 a2))
 ·simp at hid
  have : ¬ id < n := by omega
  have e2 : ks[id - n]? = none := List.getElem?_eq_none (by omega)
  simp [m1, σ, this, e2]
def AEnd.sc (n : Nat) : AEnd → Bool
 | .ret v => v.sc n
 | .panic v => v.sc n
mutual
def AVal.fz (id : Nat) (es : List (List AVal)) : AVal → AVal
 | .agg cs => .agg (fzL id es cs)
 | .tuple cs => .tuple (fzL id es cs)
 | .row i off len => if i = id ∧ off + len ≤ es.length then .list .unk ((es.drop off).take len) else .row i off len
 | .top => .top
 | .atom v => .atom v
 | .str l => .str l
 | .list fl l => .list fl l
 | .ptr i a b => .ptr i a b
 | .fptr l a b => .fptr l a b
 | .mapv i => .mapv i
 | .itr i => .itr i
 | .clo f a b => .clo f a b
 | .iface t v => .iface t (v.fz id es)
def fzL (id : Nat) (es : List (List AVal)) : List AVal → List AVal
 | [] => []
 | x :: r => x.fz id es :: fzL id es r
end
theorem fzL_eq {id : Nat} {es : List (List AVal)} : ∀ {l : List AVal}, fzL id es l = l.map (AVal.fz id es)
 | [] => rfl
 | x :: r => by simp [fzL, fzL_eq (l := r)]
theorem Rel.fz {F F' m} (he : Ext F m F' m) {id : Nat} {es : List (List AVal)} (hf : ∀ off len v, off + len ≤ es.length → Rel F m (.row id off len) v → Rel F' m (.list .unk ((es.drop off).take len)) v) {a : AVal} {v : Value} (h : Rel F m a v) : Rel F' m (a.fz id es) v := by
 have hget : ∀ (cs : List AVal) (i : Nat), i < cs.length → (fzL id es cs).getD i .top = (cs.getD i .top).fz id es := fun cs i hi => by
  rw [fzL_eq, getD_eq _ _ _ (by simpa using hi), getD_eq _ _ _ hi]; simp
 have hlen : ∀ cs : List AVal, (fzL id es cs).length = cs.length := fun cs => by rw [fzL_eq]; simp
 induction h with
 | agg cs vs hl h1 _ ih => exact .agg _ vs (by rw [hlen]; exact hl) (fun i hi => h1 i (by rwa [hlen] at hi)) fun i hi => by rw [hlen] at hi; rw [hget cs i hi]; exact ih i hi
 | tuple cs vs hl _ ih => exact .tuple _ vs (by rw [hlen]; exact hl) fun i hi => by rw [hlen] at hi; rw [hget cs i hi]; exact ih i hi
 | row i off len A cap p hm hl hc hA hN =>
   simp only [AVal.fz]
   split
   ·rename_i hh
    obtain ⟨rfl, hle⟩ := hh
    exact hf off len _ hle (.row _ off len A cap p hm hl hc hA hN)
   ·exact (Rel.row i off len A cap p hm hl hc hA hN).mono he
 | iface t a v _ ih => exact .iface t _ v ih
 | top v => exact .top v
 | atom v => exact .atom v
 | str l => exact .str l
 | nil cap hc => exact .nil cap hc
 | list fl es' A n' cap b o k vs hfl hn' hcap hfull hk hk0 hA hA0 ha h1 hF h _ => exact (Rel.list fl es' A n' cap b o k vs hfl hn' hcap hfull hk hk0 hA hA0 ha h1 hF h).mono he
 | ptr id i j p hm => exact (Rel.ptr id i j p hm).mono he
 | fptr es' i j b o k vs hk hk0 h1 hF h _ => exact (Rel.fptr es' i j b o k vs hk hk0 h1 hF h).mono he
 | mapv id p hm => exact (Rel.mapv id p hm).mono he
 | itr id p hm => exact (Rel.itr id p hm).mono he
 | clo fn f1 c1 f2 c2 hf' hc h1 h2 _ _ => exact (Rel.clo fn f1 c1 f2 c2 hf' hc h1 h2).mono he
def AEnd.fz (id : Nat) (es : List (List AVal)) : AEnd → AEnd
 | .ret v => .ret (v.fz id es)
 | .panic v => .panic (v.fz id es)
inductive Closes (S : Heap) : AEnd → Heap → (AEnd → Heap → Prop) → Prop
 | flat {e : AEnd} {S' : Heap} {R : AEnd → Heap → Prop} (h : S'.take S.length = S) (hs : e.sc S.length = true) (hr : R e S) : Closes S e S' R
 | row {S' : Heap} {R : AEnd → Heap → Prop} (id off len k : Nat) (es : List (List AVal)) (cap : Option Nat) (h : S'.take S.length = S) (hid : S.length ≤ id) (hS : S'[id]? = some (.cells k es cap)) (hs : scLL S.length es = true)
   (hr : R (.ret (.row S.length off len)) (S ++ [.cells k es cap])) : Closes S (.ret (.row id off len)) S' R
 | keep {e : AEnd} {S' : Heap} {R : AEnd → Heap → Prop} (hr : R e S') : Closes S e S' R
 | frz {e : AEnd} {S' : Heap} {R : AEnd → Heap → Prop} (id k : Nat) (es : List (List AVal)) (cap : Option Nat) (hS : S'[id]? = some (.cells k es cap)) (hr : Closes S (e.fz id es) (S'.set id .dead) R) : Closes S e S' R
theorem ACalls.close {f args S} {R R' : AEnd → Heap → Prop} (h : ACalls P β f args S R) (hr : ∀ e S', R e S' → Closes S e S' R') : ACalls P β f args S R' := by
 refine ⟨h.1, fun F m w vs hs hv => (h.2 F m w vs hs hv).mono fun e w' ⟨ae, F', m', S', he, hs', hrel, hR⟩ => ?_⟩
 have hdom : ∀ id p, m id = some p → id < S.length := fun id p hp => by
  rcases Nat.lt_or_ge id S.length with h' | h'
  ·exact h'
  ·rw [hs.dom id h'] at hp; cases hp
 have hc := hr ae S' hR
 clear hR hr
 induction hc generalizing F' with
 | flat hg hsc hr =>
   rename_i ae S' R'
   have hm0 : ∀ g, Rel F' m (β.G g) (.pointer (some ⟨g, 0, none⟩)) := fun g => (hs.glob g).mono ⟨he.f, fun _ _ h => h⟩
   have hle : S.length ≤ S'.length := by
    have := congrArg List.length hg
    simp at this; omega
   obtain ⟨m1, k1, k2, _, hs1⟩ := hs'.keep (m0 := m) (n := S.length) hm0 (fun id p hp => ⟨hdom id p hp, he.m id p hp⟩) [] (by simp) (by simp) hle (by rw [hg]; exact hs.scs) (by simp)
   rw [hg] at hs1
   simp only [List.map_nil, List.append_nil] at hs1
   refine ⟨ae, F', m1, S, ⟨he.f, k1⟩, hs1, ?_, hr⟩
   cases ae with
   | ret v => cases e <;> first | exact hrel.elim | exact Rel.cut k2 hrel hsc
   | panic v =>
     cases e <;> first | exact hrel.elim | skip
     obtain ⟨u, rfl, hu⟩ := hrel
     exact ⟨u, rfl, Rel.cut k2 hu hsc⟩
 | row id off len k es cap hg hid hS hsc hr =>
   rename_i S' R'
   have hm0 : ∀ g, Rel F' m (β.G g) (.pointer (some ⟨g, 0, none⟩)) := fun g => (hs.glob g).mono ⟨he.f, fun _ _ h => h⟩
   have hlt : id < S'.length := by
    rcases Nat.lt_or_ge id S'.length with h' | h'
    ·exact h'
    ·rw [List.getElem?_eq_none h'] at hS; cases hS
   obtain ⟨m1, k1, k2, k3, hs1⟩ := hs'.keep (m0 := m) (n := S.length) hm0 (fun id p hp => ⟨hdom id p hp, he.m id p hp⟩) [id] (by simp) (by simp only [List.mem_singleton]; rintro r rfl; exact ⟨hid, hlt⟩) (by omega) (by rw [hg]; exact hs.scs) (by
    simp only [List.mem_singleton]; rintro r rfl o ho; rw [hS] at ho; cases ho; exact hsc)
   rw [hg] at hs1
   simp only [List.map_cons, List.map_nil, hS, Option.getD_some] at hs1
   refine ⟨_, F', m1, _, ⟨he.f, k1⟩, hs1, ?_, hr⟩
   cases e <;> first | exact hrel.elim | skip
   cases hrel with
   | row _ _ _ A cap p hm hl hc hA hN => exact .row _ _ _ A cap p (by simpa using k3 0 id p rfl hm) hl hc hA hN
 | keep hr => exact ⟨_, F', m', _, he, hs', hrel, hr⟩
 | @frz ae S'' R'' id k es cap hS hr ih =>
   obtain ⟨p, hp, _⟩ := hs'.objs id _ hS
   obtain ⟨ef, hsf, hfr⟩ := hs'.freeze hS hp
   refine ih _ (he.trans ef) hsf ?_
   cases ae with
   | ret v => cases e <;> first | exact hrel.elim | exact Rel.fz ef hfr hrel
   | panic v =>
     cases e <;> first | exact hrel.elim | skip
     obtain ⟨u, rfl, hu⟩ := hrel
     exact ⟨u, rfl, Rel.fz ef hfr hu⟩
end
end Go.Abs
