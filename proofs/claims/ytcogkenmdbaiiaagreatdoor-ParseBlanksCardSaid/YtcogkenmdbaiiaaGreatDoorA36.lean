/- The abstract machine, part 36: a closed call that makes new rows, over any heap. Conditions: none; definitions and lemmas. -/
import Derived.Test.YtcogkenmdbaiiaaGreatDoorA35
namespace Go.Abs
open Go Go.RowKit

mutual
/-- Its places are moved up by n. -/
def AVal.sh (n : Nat) : AVal → AVal
  | .row id o l => .row (n + id) o l
  | .ptr id i j => .ptr (n + id) i j
  | .agg cs => .agg (shL n cs)
  | .tuple cs => .tuple (shL n cs)
  | .iface t v => .iface t (v.sh n)
  | x => x
def shL (n : Nat) : List AVal → List AVal
  | [] => []
  | x :: r => x.sh n :: shL n r
end
mutual
/-- Nothing in it is frozen memory. -/
def AVal.noF : AVal → Bool
  | .atom _ => true
  | .str _ => true
  | .agg cs => noFL cs
  | .tuple cs => noFL cs
  | .row _ _ _ => true
  | .ptr _ _ _ => true
  | .list _ [] => true
  | .iface _ v => v.noF
  | _ => false
def noFL : List AVal → Bool
  | [] => true
  | x :: r => x.noF && noFL r
end
theorem noFL_iff : ∀ {l : List AVal}, noFL l = true ↔ ∀ x ∈ l, x.noF = true
  | [] => by simp [noFL]
  | x :: r => by simp [noFL, noFL_iff (l := r)]
theorem noFL_get {l : List AVal} (h : noFL l = true) (i : Nat) (hi : i < l.length) : (l.getD i .top).noF = true := by
  rw [getD_eq _ _ _ hi]; exact noFL_iff.1 h _ (List.getElem_mem hi)
theorem shL_map (n : Nat) : ∀ (l : List AVal), shL n l = l.map (AVal.sh n)
  | [] => rfl
  | x :: r => by simp [shL, shL_map n r]
@[simp] theorem shL_len (n : Nat) (l : List AVal) : (shL n l).length = l.length := by simp [shL_map]
theorem shL_get (n : Nat) (l : List AVal) (i : Nat) (hi : i < l.length) : (shL n l).getD i .top = (l.getD i .top).sh n := by
  rw [getD_eq _ _ _ (by simpa using hi), getD_eq _ _ _ hi]; simp [shL_map]

theorem Rel.shift {F m F' m' n} (hm : ∀ id p, m id = some p → m' (n + id) = some p) {a : AVal} {v : Value} (h : Rel F m a v) (hs : a.noF = true) : Rel F' m' (a.sh n) v := by
  induction h with
  | atom v => exact .atom v
  | str l => exact .str l
  | agg cs vs hl h1 _ ih =>
    exact .agg _ vs (by simp [hl]) (fun i hi => h1 i (by simpa using hi)) fun i hi => by
      have hi' : i < cs.length := by simpa using hi
      rw [shL_get _ _ _ hi']; exact ih i hi' (noFL_get (by simpa [AVal.noF] using hs) i hi')
  | tuple cs vs hl _ ih =>
    exact .tuple _ vs (by simp [hl]) fun i hi => by
      have hi' : i < cs.length := by simpa using hi
      rw [shL_get _ _ _ hi']; exact ih i hi' (noFL_get (by simpa [AVal.noF] using hs) i hi')
  | nil cap hc => exact .nil cap hc
  | list fl es A nn cap b o k vs hfl hn hcap hfull hk hk0 hA hA0 ha h1 hF _ ih =>
    cases es with
    | nil => exact .list fl [] A nn cap b o k vs hfl hn hcap hfull hk hk0 hA hA0 ha h1 (fun i j hi => absurd hi (Nat.not_lt_zero i)) (fun i j hi => absurd hi (Nat.not_lt_zero i))
    | cons e r => simp [AVal.noF] at hs
  | row id off len A cap p hm' hl hc hA hN => exact .row _ off len A cap p (hm _ _ hm') hl hc hA hN
  | ptr id i j p hm' => exact .ptr _ i j p (hm _ _ hm')
  | iface t a v _ ih => exact .iface t _ v (ih (by simpa [AVal.noF] using hs))
  | _ => simp [AVal.noF] at hs

def AObj.sh (n : Nat) : AObj → AObj
  | .cells k es cap => .cells k (es.map (shL n)) cap
  | x => x
def AObj.noF : AObj → Bool
  | .cells _ es _ => es.all noFL
  | .dead => true
  | _ => false

theorem AObj.ok.shift {F m F' m' n B B' w p} (hm : ∀ id p, m id = some p → m' (n + id) = some p) (hF : ∀ b x, F b x = none → F' b x = none) (hB : B' ≤ B) {o : AObj} (h : o.ok F m B w p) (hs : o.noF = true) : (o.sh n).ok F' m' B' w p := by
  cases o with
  | cells k es cap =>
    obtain ⟨rfl, h2, h3, h4, h5, h6, h7, h8⟩ := h
    refine ⟨rfl, h2, Nat.le_trans hB h3, h4, by simpa using h5, fun e he => ?_, fun x hx hx' => ?_, fun i j hi hj => ?_⟩
    · obtain ⟨e', he', rfl⟩ := List.mem_map.1 he
      simp [h6 e' he']
    · obtain ⟨q1, q2, q3⟩ := h7 x hx hx'
      exact ⟨q1, q2, hF _ _ q3⟩
    · have hi' : i < es.length := by simpa using hi
      obtain ⟨v, hv, h1, hr⟩ := h8 i j hi' hj
      refine ⟨v, hv, h1, ?_⟩
      have he : es[i].length = p.k := h6 _ (List.getElem_mem hi')
      have hn : noFL es[i] = true := List.all_eq_true.1 (by simpa [AObj.noF] using hs) _ (List.getElem_mem hi')
      unfold cellAt at hr ⊢
      have hlm : i < (es.map (shL n)).length := by simpa using hi'
      have e1 : (es.map (shL n)).getD i [] = shL n es[i] := by rw [getD_eq _ _ _ hlm]; simp
      rw [e1, shL_get _ _ _ (by omega)]
      rw [getD_eq _ _ _ hi'] at hr
      exact hr.shift hm (noFL_get hn j (by omega))
  | dead => trivial
  | _ => simp [AObj.noF] at hs
theorem AObj.sh_owns {n : Nat} {o : AObj} {p : Pl} {b x : Nat} (h : (o.sh n).owns p b x) : o.owns p b x := by cases o <;> exact h

section
variable {P : Program} {β : Base}
/-- A closed call, over any heap: what it makes lies behind what was there. -/
theorem ACalls.frameS {f args S} {v : AVal} {S1 : Heap} (hG : ∀ g, (β.G g).sc 0 = true) (ha : scL 0 args = true) (hv : v.noF = true) (hS : S1.all AObj.noF = true) (h : ∀ w0, ACalls P ⟨w0, β.G⟩ f args [] fun e S' => e = .ret v ∧ S' = S1) :
    ACalls P β f args S fun e S' => e = .ret (v.sh S.length) ∧ S' = S ++ S1.map (AObj.sh S.length) := by
  refine ⟨(h default).1, fun F m w vs hs hv' => ?_⟩
  have hs0 : Sim ⟨w, β.G⟩ F (fun _ => none) [] w :=
    ⟨Below.refl _ _, fun g => (hs.glob g).cut (n := 0) (fun id p h => absurd h (by omega)) (hG g), hs.agree, fun id o h => by simp at h, fun id id' o o' p p' h => by simp at h, fun _ _ => rfl⟩
  have hv0 : RelL F (fun _ => none) args vs := ⟨hv'.1, fun i hi => (hv'.2 i hi).cut (n := 0) (fun id p h => absurd h (by omega)) (scL_get.1 ha i hi)⟩
  refine ((h w).2 F _ w vs hs0 hv0).mono fun e w' ⟨ae, F', m', S', he, hs', hrel, hR⟩ => ?_
  obtain ⟨rfl, rfl⟩ := hR
  have hb : Below w.heap.size w w' := hs'.below
  have hso := hs.more hb
  let m2 : Pls := fun id => if id < S.length then m id else m' (id - S.length)
  have hm1 : ∀ id p, m id = some p → m2 id = some p := fun id p hp => by
    have : id < S.length := by
      rcases Nat.lt_or_ge id S.length with h' | h'
      · exact h'
      · rw [hs.dom id h'] at hp; cases hp
    simp only [m2, this, if_true]; exact hp
  have hm2 : ∀ id p, m' id = some p → m2 (S.length + id) = some p := fun id p hp => by
    have : ¬ S.length + id < S.length := by omega
    simp only [m2, this, if_false]
    rw [Nat.add_sub_cancel_left]; exact hp
  have hext : Ext F m F m2 := ⟨fun _ _ _ h => h, hm1⟩
  have hFn : ∀ b x, F' b x = none → F b x = none := fun b x hn => by
    cases hc : F b x with
    | none => rfl
    | some u => rw [he.f _ _ _ hc] at hn; cases hn
  have hnew : ∀ id o, (S ++ S'.map (AObj.sh S.length))[id]? = some o → (id < S.length ∧ S[id]? = some o) ∨ (S.length ≤ id ∧ ∃ o', S'[id - S.length]? = some o' ∧ o = o'.sh S.length) := fun id o ho => by
    rcases Nat.lt_or_ge id S.length with h' | h'
    · rw [List.getElem?_append_left h'] at ho; exact .inl ⟨h', ho⟩
    · rw [List.getElem?_append_right h', List.getElem?_map] at ho
      obtain ⟨o', h1, h2⟩ := Option.map_eq_some_iff.1 ho
      exact .inr ⟨h', o', h1, h2.symm⟩
  have hpl : ∀ id p, S.length ≤ id → m2 id = some p → m' (id - S.length) = some p := fun id p hle hp => by
    have : ¬ id < S.length := by omega
    simpa only [m2, this, if_false] using hp
  have hpo : ∀ id p, id < S.length → m2 id = some p → m id = some p := fun id p hlt hp => by
    simpa only [m2, hlt, if_true] using hp
  have hsim : Sim β F m2 (S ++ S'.map (AObj.sh S.length)) w' := by
    refine ⟨hso.below, fun g => (hso.glob g).mono hext, hso.agree, fun id o ho => ?_, fun id id' o o' p p' ho ho' hp hp' hne b x hx hx' => ?_, fun id hid => ?_⟩
    · rcases hnew id o ho with ⟨hlt, h1⟩ | ⟨hge, o', h1, rfl⟩
      · obtain ⟨p, hp, hok⟩ := hso.objs id o h1
        exact ⟨p, hm1 _ _ hp, hok.ext hext fun _ _ => rfl⟩
      · obtain ⟨p, hp, hok⟩ := hs'.objs _ o' h1
        refine ⟨p, ?_, hok.shift hm2 hFn hs.below.size (List.all_eq_true.1 hS _ (List.mem_of_getElem? h1))⟩
        have := hm2 _ _ hp
        rwa [show S.length + (id - S.length) = id by omega] at this
    · rcases hnew id o ho with ⟨hlt, h1⟩ | ⟨hge, q, h1, rfl⟩ <;> rcases hnew id' o' ho' with ⟨hlt', h1'⟩ | ⟨hge', q', h1', rfl⟩
      · exact hso.apart id id' o o' p p' h1 h1' (hpo _ _ hlt hp) (hpo _ _ hlt' hp') hne b x hx hx'
      · obtain ⟨p0, hp0, hok0⟩ := hs.objs id o h1
        have e0 := hpo _ _ hlt hp
        rw [hp0] at e0; obtain rfl := Option.some.inj e0
        have hlt0 := hok0.lt hx
        obtain ⟨p1, hp1, hok1⟩ := hs'.objs _ q' h1'
        have e1 := hpl _ _ hge' hp'
        rw [hp1] at e1; obtain rfl := Option.some.inj e1
        have hx2 := AObj.sh_owns hx'
        have hbe := hok1.below x b hx2
        have hbb : p1.b = b := by
          cases q' with
          | dead => exact hx2.elim
          | cells k es cap => exact hx2.1
          | map _ _ => exact hx2
          | mapIter _ _ _ _ => exact hx2
          | strIter _ _ => exact hx2
        have hbe' : w.heap.size ≤ p1.b := hbe
        omega
      · obtain ⟨p0, hp0, hok0⟩ := hs.objs id' o' h1'
        have e0 := hpo _ _ hlt' hp'
        rw [hp0] at e0; obtain rfl := Option.some.inj e0
        have hlt0 := hok0.lt hx'
        obtain ⟨p1, hp1, hok1⟩ := hs'.objs _ q h1
        have e1 := hpl _ _ hge hp
        rw [hp1] at e1; obtain rfl := Option.some.inj e1
        have hx2 := AObj.sh_owns hx
        have hbe := hok1.below x b hx2
        have hbb : p1.b = b := by
          cases q with
          | dead => exact hx2.elim
          | cells k es cap => exact hx2.1
          | map _ _ => exact hx2
          | mapIter _ _ _ _ => exact hx2
          | strIter _ _ => exact hx2
        have hbe' : w.heap.size ≤ p1.b := hbe
        omega
      · exact hs'.apart _ _ q q' p p' h1 h1' (hpl _ _ hge hp) (hpl _ _ hge' hp') (by omega) b x (AObj.sh_owns hx) (AObj.sh_owns hx')
    · simp only [List.length_append, List.length_map] at hid
      have : ¬ id < S.length := by omega
      simp only [m2, this, if_false]
      exact hs'.dom _ (by omega)
  refine ⟨.ret (v.sh S.length), F, m2, _, hext, hsim, ?_, rfl, rfl⟩
  cases e with
  | returned u => exact (show Rel F' m' v u from hrel).shift hm2 hv
  | _ => exact hrel.elim
end
end Go.Abs
