/- The walk of the search into the depth. Conditions: the lengths, and that there is fuel; definitions and lemmas. -/
import Derived.Test.YtjoehmgnapdhaaaW7
set_option linter.unusedSimpArgs false
set_option linter.unusedVariables false
namespace Go.Abs
open Go Go.RowKit Go.Proofs
variable {β : Base}

abbrev DR := Bool × List Int × List Int
def goL (f : List Int → List Int → Int → DR) : List Int → List Int → List Int → DR
  | [], m, w => (false, m, w)
  | y :: ys, m, w => if y ∈ m then goL f ys m w else if (f m w y).1 = true then f m w y else goL f ys (f m w y).2.1 (f m w y).2.2
/-- The search: who was met, and the way. -/
def dfs (nx : Int → List Int) (z : Int) : Nat → List Int → List Int → Int → DR
  | 0, m, w, _ => (false, m, w)
  | n + 1, m, w, x => if z ∈ nx x then (true, m ++ [x], w ++ [x]) else
      if (goL (dfs nx z n) (nx x) (m ++ [x]) (w ++ [x])).1 = true then goL (dfs nx z n) (nx x) (m ++ [x]) (w ++ [x])
      else (false, (goL (dfs nx z n) (nx x) (m ++ [x]) (w ++ [x])).2.1, w)

theorem goL_w {f : List Int → List Int → Int → DR} (hf : ∀ m w y, (f m w y).1 = false → (f m w y).2.2 = w) : ∀ (ys m w : List Int), (goL f ys m w).1 = false → (goL f ys m w).2.2 = w
  | [], m, w, _ => rfl
  | y :: ys, m, w, h => by
    simp only [goL] at h ⊢
    split at h
    · rename_i hy; rw [if_pos hy]; exact goL_w hf ys m w h
    · rename_i hy
      rw [if_neg hy]
      split at h
      · rename_i ht; rw [ht] at h; cases h
      · rename_i ht
        rw [if_neg ht]
        have := hf m w y (by simpa using ht)
        rw [this] at h ⊢
        exact goL_w hf ys _ w h
theorem dfs_w (nx z) : ∀ n m w y, (dfs nx z n m w y).1 = false → (dfs nx z n m w y).2.2 = w
  | 0, m, w, y, _ => rfl
  | n + 1, m, w, y, h => by
    simp only [dfs] at h ⊢
    split at h
    · cases h
    · rename_i hz
      rw [if_neg hz]
      split at h
      · rename_i ht; rw [ht] at h; cases h
      · rename_i ht; rw [if_neg ht]

/-- The marks of who was met. -/
def metE : List Int → Nat → List AEnt
  | [], _ => []
  | y :: l, k => ⟨.int y, .int 1, k⟩ :: metE l (k + 1)
theorem metE_snoc (x : Int) : ∀ (l : List Int) (k : Nat), metE (l ++ [x]) k = metE l k ++ [⟨.int x, .int 1, k + l.length⟩]
  | [], k => rfl
  | y :: l, k => by
    simp only [List.cons_append, metE, metE_snoc x l (k + 1), List.length_cons]
    rw [show k + 1 + l.length = k + (l.length + 1) by omega]
theorem findE_met (y : Int) : ∀ (l : List Int) (k : Nat), (y ∉ l ∧ findE (.int .i64) (.int y) (metE l k) = some none) ∨ (y ∈ l ∧ ∃ b, findE (.int .i64) (.int y) (metE l k) = some (some ⟨.int y, .int 1, b⟩))
  | [], k => .inl ⟨by simp, rfl⟩
  | x :: l, k => by
    simp only [metE, findE, keyEq, and_self, if_true]
    by_cases h : y = x
    · subst h; exact .inr ⟨by simp, k, by simp⟩
    · simp only [h, decide_false]
      rcases findE_met y l (k + 1) with ⟨h1, h2⟩ | ⟨h1, b, h2⟩
      · exact .inl ⟨by simp [h, h1], h2⟩
      · exact .inr ⟨by simp [h1], b, h2⟩

/-- The way so far, as a slice of one's own. -/
inductive Wy (N : Nat) (S : Heap) : AVal → List Int → Prop
  | nil : Wy N S .nilS []
  | row (id : Nat) (l w : List Int) (cap : Option Nat) (hN : N ≤ id) (h : S[id]? = some (.cells 1 (ints l) cap)) (hl : w.length ≤ l.length) (ht : l.take w.length = w) : Wy N S (.row id 0 w.length) w

theorem Wy.one {N S v w} (h : Wy N S v w) : v.one = true := by cases h <;> rfl
theorem Wy.frame {N S S' v w} (h : Wy N S v w) (hs : ∀ j, N ≤ j → j < S.length → S'[j]? = S[j]?) : Wy N S' v w := by
  cases h with
  | nil => exact .nil
  | row id l w cap hN h hl ht => exact .row id l _ cap hN ((hs id hN (lt_of_some h)).trans h) hl ht
theorem Wy.app {N S v w} (h : Wy N S v w) (hN : N ≤ S.length) (x : Int) (hw : w.length ≤ 4194304) : ∃ S', appendR 1 8 S v (.list .full [[.int x]]) = .ok true (.row S.length 0 (w.length + 1)) S' ∧
    Wy N S' (.row S.length 0 (w.length + 1)) (w ++ [x]) ∧ (∀ j, j < N → S'[j]? = S[j]?) ∧ S.length ≤ S'.length := by
  cases h with
  | nil =>
    refine ⟨S ++ [.cells 1 [[.int x]] none], by simp, ?_, fun j hj => by rw [List.getElem?_append_left (by omega)], by simp⟩
    have := Wy.row (N := N) (S := S ++ [.cells 1 [[.int x]] none]) S.length [x] [x] none hN (by simp [ints]) (by simp) (by simp)
    simpa using this
  | row id l w cap hN' h hl ht =>
    have e1 : (ints l).take w.length = ints w := by rw [ints, ← List.map_take, ht]; rfl
    refine ⟨S.set id .dead ++ [.cells 1 (ints w ++ [[.int x]]) none], ?_, ?_, fun j hj => by rw [List.getElem?_append_left (by simp; omega), List.getElem?_set_ne (by omega)], by simp⟩
    · have hb : (w.length + 1) * 8 ≤ 140737488355328 := by omega
      have hb' : w.length + 1 ≤ 4611686018427387903 := by omega
      simp [h, hb, hb', hl, e1]
    · have := Wy.row (N := N) (S := S.set id .dead ++ [.cells 1 (ints w ++ [[.int x]]) none]) S.length (w ++ [x]) (w ++ [x]) none hN (by rw [List.getElem?_append_right (by simp), ints_snoc]; simp) (Nat.le_refl _) (List.take_length)
      simpa using this
theorem Wy.pop {N S v w} {x : Int} (h : Wy N S v (w ++ [x])) : ∃ v', (∀ a y, ev a y = .int w.length → slcR 1 a S v none (some y) none = .ok true v' S) ∧ Wy N S v' w := by
  generalize hwx : w ++ [x] = wx at h
  cases h with
  | nil => simp at hwx
  | row id l wx cap hN h hl ht =>
    subst hwx
    simp only [List.length_append, List.length_singleton] at hl ht ⊢
    refine ⟨.row id 0 w.length, fun a y hy => ?_, .row id l w cap hN h (by omega) ?_⟩
    · simp [slcR, bound, hy, h]; omega
    · have := congrArg (List.take w.length) ht
      rw [List.take_take, Nat.min_eq_left (by omega)] at this
      rw [this]; simp
theorem Wy.rk {N S v w} (h : Wy N S v w) : Rk 1 S v (ints w) := by
  cases h with
  | nil => exact .list _ _
  | row id l w cap hN h hl ht =>
    have := Rk.row (k := 1) (S := S) id 0 w.length (ints l) cap h (by simpa using hl)
    rw [List.drop_zero, show (ints l).take w.length = ints w by rw [ints, ← List.map_take, ht]; rfl] at this
    exact this

/-- How many aren't met yet. -/
def mu (V m : List Int) : Nat := (V.filter fun y => !decide (y ∈ m)).length
theorem mu_le {V m m' : List Int} (h : ∀ y ∈ m, y ∈ m') : mu V m' ≤ mu V m := by
  unfold mu
  induction V with
  | nil => simp
  | cons v V ih =>
    rw [List.filter_cons, List.filter_cons]
    by_cases h1 : v ∈ m
    · simp [h1, h v h1]; exact ih
    · by_cases h2 : v ∈ m' <;> simp [h1, h2] <;> omega
theorem mu_lt {V m : List Int} {y : Int} (hy : y ∈ V) (hm : y ∉ m) : mu V (m ++ [y]) < mu V m := by
  unfold mu
  exact filter_lt (fun u _ hu => by simp at hu ⊢; exact hu.1) hy (by simpa using hm) (by simp)

structure DI (S0 : Heap) (nid : Nat) (z : Int) (V : List Int) (B : Nat) (S : Heap) (m w : List Int) : Prop where
  low : ∀ j, j < S0.length → S[j]? = S0[j]?
  mp : S[S0.length]? = some (.map (metE m 0) m.length)
  so : ∃ wv, S[S0.length + 1]? = some (.cells 4 [[.mapv nid, .int z, .mapv S0.length, wv]] (some 1)) ∧ Wy (S0.length + 2) S wv w
  len : S0.length + 2 ≤ S.length
  bd : m.length + mu V m ≤ B
  wl : w.length ≤ m.length

theorem DI.look {S0 nid z V B S m w} (h : DI S0 nid z V B S m w) (y : Int) : lookR (.int .i64) (.int 0) false S (.mapv S0.length) (.int y) = .ok true (.int (if y ∈ m then 1 else 0)) S := by
  simp only [lookR, h.mp]
  rcases findE_met y m 0 with ⟨h1, h2⟩ | ⟨h1, b, h2⟩ <;> simp [h2, h1]

def J22 (S0 : Heap) (nid : Nat) (z : Int) (V : List Int) (B n M : Nat) (nx : Int → List Int) (x : Int) (u : AVal) (R : DR) (q : Nat) (a : Tmps) (S' : Heap) : Prop :=
  ∃ (i : Nat) (m w : List Int), q = (nx x).length - i ∧ i ≤ (nx x).length ∧ get a 0 = .ptr (S0.length + 1) 0 0 ∧ get a 42 = u ∧ get a 43 = .int (nx x).length ∧ get a 44 = .int i ∧
    DI S0 nid z V B S' m w ∧ mu V m ≤ M ∧ goL (dfs nx z n) ((nx x).drop i) m w = R

set_option maxHeartbeats 1000000 in
theorem w22 {S0 : Heap} {nid : Nat} {z : Int} {V : List Int} {B : Nat} {nx : Int → List Int} (hB : B ≤ 4194304)
    (hof : ∀ x, ∃ u, ∀ S'' : Heap, (∀ j, j < S0.length → S''[j]? = S0[j]?) → lookR (.int .i64) .nilS false S'' (.mapv nid) (.int x) = .ok true u S'' ∧ Rk 1 S'' u (ints (nx x)))
    (hnl : ∀ x, (nx x).length ≤ 4194304) (hV : ∀ x, ∀ y ∈ nx x, y ∈ V) : ∀ (n : Nat) (S : Heap) (m w : List Int) (x : Int), DI S0 nid z V B S m w → x ∉ m → mu V (m ++ [x]) < n → (m ++ [x]).length + mu V (m ++ [x]) ≤ B →
    ACalls Try.prog β 22 [.ptr (S0.length + 1) 0 0, .int x] S fun e S' => e = .ret (.bool (dfs nx z n m w x).1) ∧ DI S0 nid z V B S' (dfs nx z n m w x).2.1 (dfs nx z n m w x).2.2 ∧ mu V (dfs nx z n m w x).2.1 ≤ mu V (m ++ [x]) := by
  intro n
  induction n with
  | zero => intro S m w x _ _ h; exact absurd h (Nat.not_lt_zero _)
  | succ n ih =>
    intro S m w x hI hx hn hb
    obtain ⟨wv, hso, hwy⟩ := hI.so
    have hlen := hI.len
    have hwl := hI.wl
    have hbd := hI.bd
    have hlook := hI.look x
    rw [if_neg hx] at hlook
    have hup : mapUpR (.int .i64) S (.mapv S0.length) (.int x) (.int 1) = .ok true .undef (S.set S0.length (.map (metE (m ++ [x]) 0) (m.length + 1))) := by
      simp only [mapUpR, hI.mp]
      rcases findE_met x m 0 with ⟨h1, h2⟩ | ⟨h1, b, h2⟩
      · simp only [h2, metE_snoc, Nat.zero_add]
      · exact absurd h1 hx
    -- the marks, then the way
    generalize hS1 : S.set S0.length (AObj.map (metE (m ++ [x]) 0) (m.length + 1)) = S1 at hup
    have l1 : S1.length = S.length := by rw [← hS1]; simp
    have so1 : S1[S0.length + 1]? = some (.cells 4 [[.mapv nid, .int z, .mapv S0.length, wv]] (some 1)) := by rw [← hS1, List.getElem?_set_ne (by omega)]; exact hso
    have mp1 : S1[S0.length]? = some (.map (metE (m ++ [x]) 0) (m.length + 1)) := by rw [← hS1, List.getElem?_set_self (by omega)]
    have wy1 : Wy (S0.length + 2) S1 wv w := hwy.frame fun j h1 h2 => by rw [← hS1, List.getElem?_set_ne (by omega)]
    obtain ⟨S2, hap, wy2, fr2, l2⟩ := wy1.app (by omega) x (by omega)
    have so2 : S2[S0.length + 1]? = some (.cells 4 [[.mapv nid, .int z, .mapv S0.length, wv]] (some 1)) := by rw [fr2 _ (by omega)]; exact so1
    generalize hS3 : S2.set (S0.length + 1) (AObj.cells 4 [[.mapv nid, .int z, .mapv S0.length, .row S1.length 0 (w.length + 1)]] (some 1)) = S3
    have so3 : S3[S0.length + 1]? = some (.cells 4 [[.mapv nid, .int z, .mapv S0.length, .row S1.length 0 (w.length + 1)]] (some 1)) := by rw [← hS3, List.getElem?_set_self (by omega)]
    have I3 : DI S0 nid z V B S3 (m ++ [x]) (w ++ [x]) := by
      refine ⟨fun j hj => ?_, ?_, ⟨_, so3, wy2.frame fun j h1 h2 => by rw [← hS3, List.getElem?_set_ne (by omega)]⟩, by rw [← hS3]; simp; omega, hb, by simp; omega⟩
      · rw [← hS3, List.getElem?_set_ne (by omega), fr2 j (by omega), ← hS1, List.getElem?_set_ne (by omega)]; exact hI.low j hj
      · rw [← hS3, List.getElem?_set_ne (by omega), fr2 _ (by omega), mp1]; simp
    obtain ⟨u, hu⟩ := hof x
    obtain ⟨hu3, ru3⟩ := hu S3 I3.low
    refine fn_sound tryOrd (f22_c β.G) (by simp [f22]) ?_
    have hw1 : IntKind.i64.wrap 1 = 1 := by rfl
    simp [-appendR, f22, f22m, hw1, hso, hlook, hup, so1, hap, so2, hS3, so3, hu3]
    refine (w37 ru3 (hnl x)).use ?_
    rintro e S4 ⟨rfl, rfl⟩
    by_cases hz : z ∈ nx x
    · simp [hz, dfs]
      exact I3
    simp [hz, so3, hu3, ru3.lenR]
    have hR0 : goL (dfs nx z n) ((nx x).drop 0) (m ++ [x]) (w ++ [x]) = goL (dfs nx z n) (nx x) (m ++ [x]) (w ++ [x]) := by rw [List.drop_zero]
    generalize hR : goL (dfs nx z n) (nx x) (m ++ [x]) (w ++ [x]) = R at hR0
    refine mwp_loop (I := J22 S0 nid z V B n (mu V (m ++ [x])) nx x u R) (n := (nx x).length) ?_ ?_
    · exact ⟨0, m ++ [x], w ++ [x], by simp, by simp, by simp, by simp, by simp, by simp, I3, Nat.le_refl _, hR0⟩
    have hdfs : ∀ b, R.1 = b → dfs nx z (n + 1) m w x = if b = true then R else (false, R.2.1, w) := fun b hb => by
      simp only [dfs, if_neg hz, hR, hb]
    have hRw : R.1 = false → R.2.2 = w ++ [x] := fun h => by
      rw [← hR] at h ⊢
      exact goL_w (dfs_w nx z n) _ _ _ h
    clear hap hup hlook hso so1 mp1 wy1 wy2 fr2 so2 so3 I3 hu3 ru3 hS1 hS3 hwy
    rintro q a S5 ⟨i, m', w', rfl, hi, a0, a42, a43, a44, I5, hmu, hgo⟩
    obtain ⟨wv', hso5, hwy5⟩ := I5.so
    obtain ⟨hu5, ru5⟩ := hu S5 I5.low
    have hlen5 := I5.len
    have hbd5 := I5.bd
    have hwl5 := I5.wl
    by_cases hlt : i < (nx x).length
    · obtain ⟨p, q1, q2⟩ := ru5.int hlt
      have hly := I5.look (nx x)[i]
      have hdrop : (nx x).drop i = (nx x)[i] :: (nx x).drop (i + 1) := List.drop_eq_getElem_cons hlt
      rw [hdrop] at hgo
      simp only [goL] at hgo
      have hw := wrapS i (by have := hnl x; omega)
      by_cases hym : (nx x)[i] ∈ m'
      · rw [if_pos hym] at hly hgo
        simp [f22b0, a0, a42, a43, a44, hlt, q1, q2, hso5, hly, hw]
        exact ⟨(nx x).length - (i + 1), by omega, i + 1, m', w', rfl, by omega, by simp [a0], by simp [a42], by simp [a43], by simp, I5, hmu, hgo⟩
      · rw [if_neg hym] at hly hgo
        have hyV := hV x _ (List.getElem_mem hlt)
        have hml := mu_lt hyV hym
        simp [f22b0, a0, a42, a43, a44, hlt, q1, q2, hso5, hly]
        refine (ih S5 m' w' (nx x)[i] I5 hym (by omega) (by simp; omega)).use ?_
        rintro e S6 ⟨rfl, I6, hmu6⟩
        by_cases hb : (dfs nx z n m' w' (nx x)[i]).1 = true
        · rw [if_pos hb] at hgo
          have hR1 : R.1 = true := by rw [← hgo]; exact hb
          simp [hb]
          rw [hdfs true hR1, if_pos rfl]
          refine ⟨hR1, by rw [← hgo]; exact I6, ?_⟩
          rw [← hgo]; omega
        · rw [if_neg hb] at hgo
          have hb' : (dfs nx z n m' w' (nx x)[i]).1 = false := by simpa using hb
          simp [hb', a44, hw]
          exact ⟨(nx x).length - (i + 1), by omega, i + 1, _, _, rfl, by omega, by simp [a0], by simp [a42], by simp [a43], by simp, I6, by omega, hgo⟩
    · have hil : i = (nx x).length := by omega
      subst hil
      rw [List.drop_length] at hgo
      simp only [goL] at hgo
      have hR1 : R.1 = false := by rw [← hgo]
      have hw2 := hRw hR1
      rw [← hgo] at hw2
      simp only at hw2
      subst hw2
      obtain ⟨v', hsl, hwv⟩ := hwy5.pop
      have hlr := hwy5.rk.lenR
      rw [ints_len, List.length_append, List.length_singleton] at hlr
      simp at hwl5
      simp [-slcR, f22b0, a0, a43, a44, hso5, hlr, wrapN w.length (by omega), hsl, hwv.one]
      rw [hdfs false hR1]
      simp only [Bool.false_eq_true, if_false]
      refine ⟨trivial, ?_, by rw [← hgo]; exact hmu⟩
      rw [← hgo]
      refine ⟨fun j hj => ?_, ?_, ⟨v', by rw [List.getElem?_set_self (by omega)], hwv.frame fun j h1 h2 => by rw [List.getElem?_set_ne (by omega)]⟩, by simp; omega, I5.bd, (show w.length ≤ m'.length by omega)⟩
      · rw [List.getElem?_set_ne (by omega)]; exact I5.low j hj
      · rw [List.getElem?_set_ne (by omega)]; exact I5.mp
end Go.Abs
