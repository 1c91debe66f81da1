/- The abstract machine, part 36: a closed call that makes new rows, over any heap. Conditions: none; definitions and lemmas. -/
import Derived.Test.YtcogkenmdbaiiaaGreatDoorA35
namespace Go.Abs
open Go Go.RowKit

mutual
/-- Its places are moved up by n. -/
def AVal.sh (n : Nat) : AVal → AVal
  | .row id o l => .row (n + id) o l
  | .ptr id i j => .ptr (n + id) i j
  | .agg cs => .agg (shL n cs)
  | .tuple cs => .tuple (shL n cs)
  | .iface t v => .iface t (v.sh n)
  | x => x
def shL (n : Nat) : List AVal → List AVal
  | [] => []
  | x :: r => x.sh n :: shL n r
end
mutual
/-- Nothing in it is frozen memory. -/
def AVal.noF : AVal → Bool
  | .atom _ => true
  | .str _ => true
  | .agg cs => noFL cs
  | .tuple cs => noFL cs
  | .row _ _ _ => true
  | .ptr _ _ _ => true
  | .list _ [] => true
  | .iface _ v => v.noF
  | _ => false
def noFL : List AVal → Bool
  | [] => true
  | x :: r => x.noF && noFL r
end
theorem noFL_iff : ∀ {l : List AVal}, noFL l = true ↔ ∀ x ∈ l, x.noF = true
  | [] => by simp [noFL]
  | x :: r => by simp [noFL, noFL_iff (l := r)]
theorem noFL_get {l : List AVal} (h : noFL l = true) (i : Nat) (hi : i < l.length) : (l.getD i .top).noF = true := by
  rw [getD_eq _ _ _ hi]; exact noFL_iff.1 h _ (List.getElem_mem hi)
theorem shL_map (n : Nat) : ∀ (l : List AVal), shL n l = l.map (AVal.sh n)
  | [] => rfl
  | x :: r => by simp [shL, shL_map n r]
@[simp] theorem shL_len (n : Nat) (l : List AVal) : (shL n l).length = l.length := by simp [shL_map]
theorem shL_get (n : Nat) (l : List AVal) (i : Nat) (hi : i < l.length) : (shL n l).getD i .top = (l.getD i .top).sh n := by
  rw [getD_eq _ _ _ (by simpa using hi), getD_eq _ _ _ hi]; simp [shL_map]

theorem Rel.shift {F m F' m' n} (hm : ∀ id p, m id = some p → m' (n + id) = some p) {a : AVal} {v : Value} (h : Rel F m a v) (hs : a.noF = true) : Rel F' m' (a.sh n) v := by
  induction h with
  | atom v => exact .atom v
  | str l => exact .str l
  | agg cs vs hl h1 _ ih =>
    exact .agg _ vs (by simp [hl]) (fun i hi => h1 i (by simpa using hi)) fun i hi => by
      have hi' : i < cs.length := by simpa using hi
      rw [shL_get _ _ _ hi']; exact ih i hi' (noFL_get (by simpa [AVal.noF] using hs) i hi')
  | tuple cs vs hl _ ih =>
    exact .tuple _ vs (by simp [hl]) fun i hi => by
      have hi' : i < cs.length := by simpa using hi
      rw [shL_get _ _ _ hi']; exact ih i hi' (noFL_get (by simpa [AVal.noF] using hs) i hi')
  | nil cap hc => exact .nil cap hc
  | list fl es A nn cap b o k vs hfl hn hcap hfull hk hk0 hA hA0 ha h1 hF _ ih =>
    cases es with
    | nil => exact .list fl [] A nn cap b o k vs hfl hn hcap hfull hk hk0 hA hA0 ha h1 (fun i j hi => absurd hi (Nat.not_lt_zero i)) (fun i j hi => absurd hi (Nat.not_lt_zero i))
    | cons e r => simp [AVal.noF] at hs
  | row id off len A cap p hm' hl hc hA hN => exact .row _ off len A cap p (hm _ _ hm') hl hc hA hN
  | ptr id i j p hm' => exact .ptr _ i j p (hm _ _ hm')
  | iface t a v _ ih => exact .iface t _ v (ih (by simpa [AVal.noF] using hs))
  | _ => simp [AVal.noF] at hs

def AObj.sh (n : Nat) : AObj → AObj
  | .cells k es cap => .cells k (es.map (shL n)) cap
  | x => x
def AObj.noF : AObj → Bool
  | .cells _ es _ => es.all noFL
  | .dead => true
  | _ => false

theorem AObj.ok.shift {F m F' m' n B B' w p} (hm : ∀ id p, m id = some p → m' (n + id) = some p) (hF : ∀ b x, F b x = none → F' b x = none) (hB : B' ≤ B) {o : AObj} (h : o.ok F m B w p) (hs : o.noF = true) : (o.sh n).ok F' m' B' w p := by
  cases o with
  | cells k es cap =>
    obtain ⟨rfl, h2, h3, h4, h5, h6, h7, h8⟩ := h
    refine ⟨rfl, h2, Nat.le_trans hB h3, h4, by simpa using h5, fun e he => ?_, fun x hx hx' => ?_, fun i j hi hj => ?_⟩
    · obtain ⟨e', he', rfl⟩ := List.mem_map.1 he
      simp [h6 e' he']
    · obtain ⟨q1, q2, q3⟩ := h7 x hx hx'
      exact ⟨q1, q2, hF _ _ q3⟩
    · have hi' : i < es.length := by simpa using hi
      obtain ⟨v, hv, h1, hr⟩ := h8 i j hi' hj
      refine ⟨v, hv, h1, ?_⟩
      have he : es[i].length = p.k := h6 _ (List.getElem_mem hi')
      have hn : noFL es[i] = true := List.all_eq_true.1 (by simpa [AObj.noF] using hs) _ (List.getElem_mem hi')
      unfold cellAt at hr ⊢
      have hlm : i < (es.map (shL n)).length := by simpa using hi'
      have e1 : (es.map (shL n)).getD i [] = shL n es[i] := by rw [getD_eq _ _ _ hlm]; simp
      rw [e1, shL_get _ _ _ (by omega)]
      rw [getD_eq _ _ _ hi'] at hr
      exact hr.shift hm (noFL_get hn j (by omega))
  | dead => trivial
  | _ => simp [AObj.noF] at hs
section
variable {P : Program} {β : Base}
end
end Go.Abs
