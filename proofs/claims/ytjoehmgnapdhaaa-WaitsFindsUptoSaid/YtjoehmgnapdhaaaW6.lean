/- The map of who waits for whom: what a lookup and an update do. Conditions: none; definitions and lemmas. -/
import Derived.Test.YtjoehmgnapdhaaaW5
set_option linter.unusedSimpArgs false
set_option linter.unusedVariables false
namespace Go.Abs
open Go Go.RowKit Go.Proofs
variable {β : Base}

/-- An entry: whose, its row, what stands in it, its stamp. -/
structure Ad where
  key : Int
  id : Nat
  l : List Int
  born : Nat

def Ad.ent (t : Ad) : AEnt := ⟨.int t.key, .row t.id 0 t.l.length, t.born⟩
def vals (E : List (Int × Int)) (x : Int) : List Int := (E.filter fun e => decide (e.1 = x)).map (·.2)
def nxt (E : List (Int × Int)) (x : Int) : List Int := cmpt (sortI (vals E x))
def fnd (T : List Ad) (x : Int) : Option Ad := T.find? fun t => decide (t.key = x)
def valT (T : List Ad) (x : Int) : List Int := ((fnd T x).map Ad.l).getD []

theorem findE_ad (x : Int) : ∀ T : List Ad, findE (.int .i64) (.int x) (T.map Ad.ent) = some ((fnd T x).map Ad.ent)
  | [] => rfl
  | t :: T => by
    have ih := findE_ad x T
    simp only [fnd] at ih
    simp only [List.map_cons, findE, fnd, List.find?_cons, keyEq, Ad.ent]
    by_cases h : x = t.key
    · subst h; simp [Ad.ent]
    · have h' : ¬ t.key = x := fun e => h e.symm
      simp only [and_self, if_true, h, h', decide_false]
      exact ih

def upA (x : Int) (i : Nat) (l : List Int) (t : Ad) : Ad := if t.key = x then { t with id := i, l := l } else t
@[simp] theorem upA_key (x i l t) : (upA x i l t).key = t.key := by unfold upA; split <;> rfl
@[simp] theorem upA_born (x i l t) : (upA x i l t).born = t.born := by unfold upA; split <;> rfl

theorem map_upA_ne {x i l} : ∀ {T : List Ad}, (∀ t ∈ T, t.key ≠ x) → T.map (upA x i l) = T
  | [], _ => rfl
  | t :: T, h => by
    rw [List.map_cons, map_upA_ne fun t ht => h t (List.mem_cons_of_mem _ ht)]
    simp [upA, h t (by simp)]

abbrev PwA (T : List Ad) : Prop := T.Pairwise fun a b => a.key ≠ b.key ∧ a.id ≠ b.id ∧ a.born ≠ b.born

theorem setE_ad (x : Int) (i : Nat) (l : List Int) : ∀ {T : List Ad}, PwA T → setE (.int .i64) (.int x) (.row i 0 l.length) (T.map Ad.ent) = (T.map (upA x i l)).map Ad.ent
  | [], _ => rfl
  | t :: T, h => by
    rw [PwA, List.pairwise_cons] at h
    simp only [List.map_cons, setE, keyEq, Ad.ent]
    by_cases hk : x = t.key
    · subst hk
      rw [map_upA_ne fun u hu e => (h.1 u hu).1 e.symm]
      simp [upA]
    · have h' : ¬ t.key = x := fun e => hk e.symm
      simp only [and_self, if_true, hk, decide_false]
      rw [setE_ad x i l h.2]
      simp [upA, h', Ad.ent]

/-- The map, and its rows. -/
structure Mp (N : Nat) (S : Heap) (T : List Ad) (c : Nat) : Prop where
  hlen : N + 3 ≤ S.length
  mp : S[N + 1]? = some (.map (T.map Ad.ent) c)
  pw : PwA T
  lo : ∀ t ∈ T, N + 3 ≤ t.id ∧ t.born < c
  rw : ∀ t ∈ T, S[t.id]? = some (.cells 1 (ints t.l) none)

theorem fnd_some {T : List Ad} {x : Int} {t : Ad} (h : fnd T x = some t) : t ∈ T ∧ t.key = x :=
  ⟨List.mem_of_find?_eq_some h, by simpa using List.find?_some h⟩
theorem fnd_none {T : List Ad} {x : Int} (h : fnd T x = none) : ∀ t ∈ T, t.key ≠ x := by
  simpa [fnd, List.find?_eq_none] using h

theorem pw_ne : ∀ {T : List Ad}, PwA T → ∀ {a b : Ad}, a ∈ T → b ∈ T → a.key ≠ b.key → a.id ≠ b.id ∧ a.born ≠ b.born
  | t :: T, h, a, b, ha, hb, hk => by
    rw [PwA, List.pairwise_cons] at h
    rcases List.mem_cons.1 ha with h1 | h1 <;> rcases List.mem_cons.1 hb with h2 | h2
    · exact absurd (by rw [h1, h2]) hk
    · rw [h1]; exact (h.1 b h2).2
    · rw [h2]; have := (h.1 a h1).2; exact ⟨fun e => this.1 e.symm, fun e => this.2 e.symm⟩
    · exact pw_ne h.2 h1 h2 hk

theorem fnd_upA {T : List Ad} {x : Int} {i : Nat} {l : List Int} (z : Int) : fnd (T.map (upA x i l)) z = (fnd T z).map (upA x i l) := by
  unfold fnd
  rw [List.find?_map]
  congr 1
  congr 1
  funext t
  simp

theorem Mp.look {N S T c} (h : Mp N S T c) (x : Int) (z : AVal) : lookR (.int .i64) z false S (.mapv (N + 1)) (.int x) = .ok true (match fnd T x with | some t => .row t.id 0 t.l.length | none => z) S := by
  simp only [lookR, h.mp, findE_ad]
  cases fnd T x <;> rfl

/-- One more edge. -/
theorem Mp.step {N S T c} (h : Mp N S T c) (x y : Int) (hlen : (valT T x).length + 1 ≤ 4194304) : ∃ v n S1 S2 T' c', lookR (.int .i64) .nilS false S (.mapv (N + 1)) (.int x) = .ok true v S ∧
    appendR 1 8 S v (.list .full [[.int y]]) = .ok true (.row S.length 0 n) S1 ∧ mapUpR (.int .i64) S1 (.mapv (N + 1)) (.int x) (.row S.length 0 n) = .ok true .undef S2 ∧ Mp N S2 T' c' ∧
    (∀ z, valT T' z = if z = x then valT T x ++ [y] else valT T z) ∧ (∀ j, j < S.length → j ≠ N + 1 → (∀ t ∈ T, t.id ≠ j) → S1[j]? = S[j]? ∧ S2[j]? = S[j]?) ∧ S.length ≤ S2.length := by
  have hN : N + 1 < S.length := lt_of_some h.mp
  have hids : ∀ t ∈ T, t.id < S.length := fun t ht => lt_of_some (h.rw t ht)
  have hlook := h.look x .nilS
  cases hf : fnd T x with
  | none =>
    rw [hf] at hlook
    have hnone := fnd_none hf
    have hv : valT T x = [] := by simp [valT, hf]
    have hS1 : (S ++ [AObj.cells 1 [[.int y]] none])[N + 1]? = some (.map (T.map Ad.ent) c) := by rw [List.getElem?_append_left hN]; exact h.mp
    refine ⟨.nilS, 1, S ++ [AObj.cells 1 [[.int y]] none], (S ++ [AObj.cells 1 [[.int y]] none]).set (N + 1) (AObj.map ((T ++ [(⟨x, S.length, [y], c⟩ : Ad)]).map Ad.ent) (c + 1)), T ++ [(⟨x, S.length, [y], c⟩ : Ad)], c + 1, hlook, ?_, ?_, ?_, ?_, ?_, by simp⟩
    · simp
    · simp only [mapUpR, hS1, findE_ad, hf, Option.map_none]
      simp [Ad.ent]
    · refine ⟨by have := h.hlen; simp; omega, ?_, ?_, ?_, ?_⟩
      · rw [List.getElem?_set_self (by simp; omega)]
      · rw [PwA, List.pairwise_append]
        refine ⟨h.pw, by simp, fun a ha b hb => ?_⟩
        simp only [List.mem_singleton] at hb
        subst hb
        exact ⟨hnone a ha, Nat.ne_of_lt (hids a ha), Nat.ne_of_lt (h.lo a ha).2⟩
      · intro t ht
        rcases List.mem_append.1 ht with ht | ht
        · have := h.lo t ht; exact ⟨this.1, by omega⟩
        · simp only [List.mem_singleton] at ht
          subst ht
          exact ⟨h.hlen, by simp⟩
      · intro t ht
        rcases List.mem_append.1 ht with ht | ht
        · have h1 := h.lo t ht
          rw [List.getElem?_set_ne (by omega), List.getElem?_append_left (hids t ht)]
          exact h.rw t ht
        · simp only [List.mem_singleton] at ht
          subst ht
          rw [List.getElem?_set_ne (by simp; omega)]
          simp [ints]
    · intro z
      by_cases hz : z = x
      · subst hz
        rw [if_pos rfl, hv]
        have : fnd (T ++ [(⟨z, S.length, [y], c⟩ : Ad)]) z = some (⟨z, S.length, [y], c⟩ : Ad) := by
          unfold fnd at hf ⊢
          rw [List.find?_append, hf]; simp
        simp [valT, this]
      · rw [if_neg hz]
        have hz' : ¬ x = z := fun e => hz e.symm
        have : fnd (T ++ [(⟨x, S.length, [y], c⟩ : Ad)]) z = fnd T z := by
          unfold fnd
          rw [List.find?_append]
          simp [hz']
        simp [valT, this]
    · intro j hj hne _
      rw [List.getElem?_set_ne (fun e => hne e.symm), List.getElem?_append_left hj]
      exact ⟨rfl, rfl⟩
  | some t0 =>
    rw [hf] at hlook
    obtain ⟨ht0, hk0⟩ := fnd_some hf
    have hv : valT T x = t0.l := by simp [valT, hf]
    rw [hv] at hlen
    have hlo0 := (h.lo t0 ht0).1
    have hr0 := h.rw t0 ht0
    have hS1 : (S.set t0.id AObj.dead ++ [AObj.cells 1 (ints t0.l ++ [[.int y]]) none])[N + 1]? = some (.map (T.map Ad.ent) c) := by
      rw [List.getElem?_append_left (by simpa using hN), List.getElem?_set_ne (by omega)]; exact h.mp
    refine ⟨.row t0.id 0 t0.l.length, t0.l.length + 1, S.set t0.id AObj.dead ++ [AObj.cells 1 (ints t0.l ++ [[.int y]]) none], (S.set t0.id AObj.dead ++ [AObj.cells 1 (ints t0.l ++ [[.int y]]) none]).set (N + 1) (AObj.map ((T.map (upA x S.length (t0.l ++ [y]))).map Ad.ent) c),
      T.map (upA x S.length (t0.l ++ [y])), c, hlook, ?_, ?_, ?_, ?_, ?_, by simp⟩
    · have hb : (t0.l.length + 1) * 8 ≤ 140737488355328 := by omega
      have hb' : t0.l.length + 1 ≤ 4611686018427387903 := by omega
      have ht : (ints t0.l).take t0.l.length = ints t0.l := by rw [← ints_len t0.l, List.take_length]
      simp [hr0, hb, hb', ht]
    · simp only [mapUpR, hS1, findE_ad, hf, Option.map_some]
      have := setE_ad x S.length (t0.l ++ [y]) h.pw
      rw [List.length_append, List.length_singleton] at this
      rw [this]
    · refine ⟨by have := h.hlen; simp; omega, ?_, ?_, ?_, ?_⟩
      · rw [List.getElem?_set_self (by simp; omega)]
      · rw [PwA, List.pairwise_map]
        refine h.pw.imp_of_mem fun {a b} ha hb hr => ?_
        simp only [upA_key, upA_born]
        refine ⟨hr.1, ?_, hr.2.2⟩
        unfold upA
        split <;> split
        · rename_i e1 e2; exact absurd (e1.trans e2.symm) hr.1
        · have := hids b hb; simp; omega
        · have := hids a ha; simp; omega
        · exact hr.2.1
      · intro t ht
        obtain ⟨u, hu, rfl⟩ := List.mem_map.1 ht
        rw [upA_born]
        refine ⟨?_, (h.lo u hu).2⟩
        unfold upA
        split
        · have := hids t0 ht0; simp; omega
        · exact (h.lo u hu).1
      · intro t ht
        obtain ⟨u, hu, rfl⟩ := List.mem_map.1 ht
        by_cases hku : u.key = x
        · simp only [upA, hku, if_true]
          rw [List.getElem?_set_ne (by have := hids t0 ht0; omega), List.getElem?_append_right (by simp)]
          simp [ints]
        · simp only [upA, hku, if_false]
          have h1 := h.lo u hu
          have h2 := (pw_ne h.pw ht0 hu (fun e => hku (by rw [← e, hk0]))).1
          rw [List.getElem?_set_ne (by omega), List.getElem?_append_left (by simpa using hids u hu), List.getElem?_set_ne h2]
          exact h.rw u hu
    · intro z
      rw [valT, fnd_upA]
      by_cases hz : z = x
      · subst hz
        rw [if_pos rfl, hf, hv]
        simp [upA, hk0]
      · rw [if_neg hz, valT]
        cases hfz : fnd T z with
        | none => rfl
        | some u =>
          have := (fnd_some hfz).2
          simp only [Option.map_some, Option.getD_some, upA, this, if_neg hz]
    · intro j hj hne hids'
      have h2 := hids' t0 ht0
      rw [List.getElem?_set_ne (fun e => hne e.symm), List.getElem?_append_left (by simpa using hj), List.getElem?_set_ne h2]
      exact ⟨rfl, rfl⟩
end Go.Abs
