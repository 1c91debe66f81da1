/- The abstract machine, part 38: a row is frozen, wherever it is held. Conditions: none; definitions and lemmas. -/
import Derived.Test.YtdnpmnnidjeifaaGreatDoorA37
namespace Go.Abs
open Go Go.RowKit
def AObj.fz (id : Nat) (es : List (List AVal)) : AObj → AObj
 | .cells k rows cap => .cells k (rows.map (fzL id es)) cap
 | .map kvs clock => .map (kvs.map fun e => { e with key := e.key.fz id es, val := e.val.fz id es }) clock
 | o => o
section
variable {P : Program} {β : Base}
end
mutual
theorem AVal.fz_sc {n id : Nat} {es : List (List AVal)} (hn : n ≤ id) : ∀ (a : AVal), a.sc n = true → a.fz id es = a
 | .top, _ => rfl
 | .atom _, _ => rfl
 | .str _, _ => rfl
 | .agg cs, h => by simp only [AVal.fz]; rw [fzL_sc hn cs (by simpa [AVal.sc] using h)]
 | .tuple cs, h => by simp only [AVal.fz]; rw [fzL_sc hn cs (by simpa [AVal.sc] using h)]
 | .list _ _, _ => rfl
 | .row i off len, h => by
   have : i < n := by simpa [AVal.sc] using h
   simp only [AVal.fz]
   rw [if_neg (by omega)]
 | .ptr _ _ _, _ => rfl
 | .fptr _ _ _, _ => rfl
 | .mapv _, _ => rfl
 | .itr _, _ => rfl
 | .clo _ _ _, _ => rfl
 | .iface t v, h => by simp only [AVal.fz]; rw [AVal.fz_sc hn v (by simpa [AVal.sc] using h)]
theorem fzL_sc {n id : Nat} {es : List (List AVal)} (hn : n ≤ id) : ∀ (l : List AVal), scL n l = true → fzL id es l = l
 | [], _ => rfl
 | x :: r, h => by
   simp only [scL, Bool.and_eq_true] at h
   simp only [fzL]
   rw [AVal.fz_sc hn x h.1, fzL_sc hn r h.2]
end
end Go.Abs
