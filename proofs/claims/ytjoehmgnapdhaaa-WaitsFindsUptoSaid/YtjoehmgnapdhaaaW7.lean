/- The walk of 'of': a map of sorted rows, each successor once. Conditions: the length; definitions and lemmas. -/
import Derived.Test.YtjoehmgnapdhaaaW6
set_option linter.unusedSimpArgs false
set_option linter.unusedVariables false
namespace Go.Abs
open Go Go.RowKit Go.Proofs
variable {β : Base}

theorem Mp.more {N S T c} (h : Mp N S T c) (g : Heap) : Mp N (S ++ g) T c :=
  ⟨by have := h.hlen; simp; omega, by rw [List.getElem?_append_left (lt_of_some h.mp)]; exact h.mp, h.pw, h.lo, fun t ht => by rw [List.getElem?_append_left (lt_of_some (h.rw t ht))]; exact h.rw t ht⟩

theorem pw_eq : ∀ {T : List Ad}, PwA T → ∀ {a b : Ad}, a ∈ T → b ∈ T → (a.key = b.key ∨ a.born = b.born) → a = b
  | t :: T, h, a, b, ha, hb, hk => by
    rw [PwA, List.pairwise_cons] at h
    rcases List.mem_cons.1 ha with h1 | h1 <;> rcases List.mem_cons.1 hb with h2 | h2
    · rw [h1, h2]
    · rw [h1] at hk; have := h.1 b h2; rcases hk with hk | hk
      · exact absurd hk this.1
      · exact absurd hk this.2.2
    · rw [h2] at hk; have := h.1 a h1; rcases hk with hk | hk
      · exact absurd hk.symm this.1
      · exact absurd hk.symm this.2.2
    · exact pw_eq h.2 h1 h2 hk

theorem filter_lt {α : Type} {p q : α → Bool} {t : α} : ∀ {T : List α}, (∀ u ∈ T, q u = true → p u = true) → t ∈ T → p t = true → q t = false → (T.filter q).length < (T.filter p).length
  | u :: T, hs, ht, hp, hq => by
    have hle : ∀ (L : List α), (∀ u ∈ L, q u = true → p u = true) → (L.filter q).length ≤ (L.filter p).length := by
      intro L
      induction L with
      | nil => intro _; simp
      | cons a L ih =>
        intro h
        have := ih fun u hu => h u (List.mem_cons_of_mem _ hu)
        have ha := h a (by simp)
        rw [List.filter_cons, List.filter_cons]
        cases hqa : q a
        · cases hpa : p a <;> simp <;> omega
        · rw [ha hqa]; simp; omega
    rcases List.mem_cons.1 ht with h | h
    · subst h
      have := hle T fun u hu => hs u (List.mem_cons_of_mem _ hu)
      rw [List.filter_cons, List.filter_cons, hq, hp]; simp; omega
    · have := filter_lt (fun u hu => hs u (List.mem_cons_of_mem _ hu)) h hp hq
      have hu := hs u (by simp)
      rw [List.filter_cons, List.filter_cons]
      cases hqu : q u
      · cases hpu : p u <;> simp <;> omega
      · rw [hu hqu]; simp; omega

theorem vals_succ {E : List (Int × Int)} {i : Nat} (h : i < E.length) (z : Int) : vals (E.take (i + 1)) z = if z = E[i].1 then vals (E.take i) E[i].1 ++ [E[i].2] else vals (E.take i) z := by
  rw [List.take_add_one, List.getElem?_eq_getElem h]
  simp only [vals, Option.toList_some, List.filter_append, List.map_append]
  by_cases hz : z = E[i].1
  · subst hz; simp
  · have : ¬ E[i].1 = z := fun e => hz e.symm
    simp [this, hz]
theorem vals_len (E : List (Int × Int)) (x : Int) : (vals E x).length ≤ E.length := by
  unfold vals; rw [List.length_map]; exact List.length_filter_le _ _

structure B21 (S S' : Heap) : Prop where
  low : ∀ j, j < S.length → S'[j]? = S[j]?
  o0 : S'[S.length]? = some (.cells 1 [[.atom (.map none)]] (some 1))
  o2 : S'[S.length + 2]? = some (.cells 1 [[.mapv (S.length + 1)]] (some 1))

def J21 (S : Heap) (v : AVal) (E : List (Int × Int)) (n : Nat) (a : Tmps) (S' : Heap) : Prop :=
  ∃ (i : Nat) (T : List Ad) (c : Nat), n = E.length - i ∧ i ≤ E.length ∧ get a 2 = .ptr S.length 0 0 ∧ get a 3 = .ptr (S.length + 2) 0 0 ∧ get a 10 = v ∧ get a 11 = .int E.length ∧ get a 12 = .int i ∧
    B21 S S' ∧ Mp S.length S' T c ∧ ∀ x, valT T x = vals (E.take i) x

/-- The second loop's: some of the rows are sorted, and hold nothing twice. -/
structure M2 (N : Nat) (S : Heap) (K : Nat) (T : List Ad) (c : Nat) (seen : List Nat) : Prop where
  hK : N + 3 ≤ K
  it : S[K]? = some (.mapIter (some (N + 1)) c seen c)
  mp : S[N + 1]? = some (.map (T.map Ad.ent) c)
  pw : PwA T
  lo : ∀ t ∈ T, N + 3 ≤ t.id ∧ t.id ≠ K ∧ t.born < c
  rw : ∀ t ∈ T, t.born ∉ seen → S[t.id]? = some (.cells 1 (ints t.l) none)
  rs : ∀ t ∈ T, t.born ∈ seen → ∃ es cap, S[t.id]? = some (.cells 1 es cap) ∧ t.l.length ≤ es.length ∧ es.take t.l.length = ints t.l

def K21 (S : Heap) (E : List (Int × Int)) (K c : Nat) (n : Nat) (a : Tmps) (S' : Heap) : Prop :=
  ∃ (T : List Ad) (seen : List Nat), n = (T.filter fun t => !seen.contains t.born).length ∧ get a 2 = .ptr S.length 0 0 ∧ get a 3 = .ptr (S.length + 2) 0 0 ∧ get a 32 = .itr K ∧
    B21 S S' ∧ M2 S.length S' K T c seen ∧ (∀ t ∈ T, t.l = if t.born ∈ seen then nxt E t.key else vals E t.key) ∧ ∀ x, fnd T x = none → vals E x = []

theorem nextM_ad {N S K T c seen} (h : M2 N S K T c seen) : nextM S (.itr K) = some (match T.filter fun t => !seen.contains t.born with
    | [] => [(.tuple [.bool false], S)]
    | L => L.map fun t => (.tuple [.bool true, .int t.key, .row t.id 0 t.l.length], S.set K (.mapIter (some (N + 1)) c (seen ++ [t.born]) c))) := by
  have hall : (T.map Ad.ent).all (fun e => decide (e.born < c)) = true := by
    rw [List.all_eq_true]
    intro e he
    obtain ⟨t, ht, rfl⟩ := List.mem_map.1 he
    exact decide_eq_true (h.lo t ht).2.2
  have hfil : (T.map Ad.ent).filter (fun e => !seen.contains e.born) = (T.filter fun t => !seen.contains t.born).map Ad.ent := by
    rw [List.filter_map]; rfl
  simp only [nextM, h.it, h.mp, hall, hfil]
  cases hL : T.filter fun t => !seen.contains t.born with
  | nil => simp
  | cons t L => simp [Ad.ent, Function.comp_def]

theorem find_born {T : List Ad} (h : PwA T) {t : Ad} (ht : t ∈ T) : (T.map Ad.ent).find? (fun e => e.born == t.born) = some t.ent := by
  rw [List.find?_map]
  have : T.find? ((fun e : AEnt => e.born == t.born) ∘ Ad.ent) = some t := by
    cases hf : T.find? ((fun e : AEnt => e.born == t.born) ∘ Ad.ent) with
    | none =>
      rw [List.find?_eq_none] at hf
      exact absurd (by simp [Ad.ent]) (hf t ht)
    | some u =>
      have h1 := List.mem_of_find?_eq_some hf
      have h2 := List.find?_some hf
      have : u.born = t.born := by simpa [Ad.ent] using h2
      rw [pw_eq h h1 ht (.inr this)]
  rw [this]; rfl

/-- What 'of' leaves: at whatever memory that holds it, a lookup finds the sorted successors. -/
def OfI (S : Heap) (E : List (Int × Int)) (S' : Heap) : Prop :=
  (∀ j, j < S.length → S'[j]? = S[j]?) ∧ S.length + 3 ≤ S'.length ∧ ∀ x, ∃ u, ∀ S'' : Heap, (∀ j, j < S'.length → S''[j]? = S'[j]?) → lookR (.int .i64) .nilS false S'' (.mapv (S.length + 1)) (.int x) = .ok true u S'' ∧ Rk 1 S'' u (ints (nxt E x))

set_option maxHeartbeats 1000000 in
theorem w21 {S : Heap} {v : AVal} {E : List (Int × Int)} (h : Rk 2 S v (edgs E)) (hv : v.sc S.length = true) (hl : E.length ≤ 1048576) :
    ACalls Try.prog β 21 [v] S fun e S' => e = .ret (.agg [.mapv (S.length + 1)]) ∧ OfI S E S' := by
  refine fn_sound tryOrd (f21_c β.G) (by simp [f21]) ?_
  have hmore := fun g => (h.more g).lenR
  simp [f21, f21m, hmore]
  refine mwp_loop (I := J21 S v E) (n := E.length) ?_ ?_
  · refine ⟨0, [], 0, rfl, Nat.zero_le _, by simp, by simp, by simp, by simp, by simp, ⟨fun j hj => by rw [List.getElem?_append_left hj], by simp, by simp⟩, ⟨by simp, by simp, by simp, by simp, by simp⟩, fun x => by simp [valT, fnd, vals]⟩
  rintro n a S1 ⟨i, T, c, rfl, hi, a2, a3, a10, a11, a12, hB, hM, hval⟩
  by_cases hlt : i < E.length
  · have rv : Rk 2 S1 v (edgs E) := h.frame hB.low hv
    obtain ⟨p, p1, p2, q1, q2, _⟩ := rv.edge hlt
    have hvl : (valT T E[i].1).length + 1 ≤ 4194304 := by
      rw [hval]; have := vals_len (E.take i) E[i].1; simp at this; omega
    obtain ⟨u, m, S2, S3, T', c', l1, l2, l3, hM', hval', hfr, hle⟩ := (hM.more [.cells 2 [[.int E[i].1, .int E[i].2]] (some 1)]).step E[i].1 E[i].2 hvl
    simp only [List.length_append, List.length_singleton] at l2 l3
    have hlen := hM.hlen
    have hid : ∀ t ∈ T, t.id < S1.length := fun t ht => lt_of_some (hM.rw t ht)
    have f2 := hfr (S.length + 2) (by simp; omega) (by omega) (fun t ht => by have := (hM.lo t ht).1; omega)
    have fe := hfr S1.length (by simp) (by omega) (fun t ht => by have := hid t ht; omega)
    rw [List.getElem?_append_left (by omega), hB.o2] at f2
    rw [hget0] at fe
    have g2 := hB.o2
    have e2 : (S1 ++ [AObj.cells 2 [[.int E[i].1, .int E[i].2]] (some 1)])[S.length + 2]? = some (.cells 1 [[.mapv (S.length + 1)]] (some 1)) := by rw [List.getElem?_append_left (by omega)]; exact g2
    simp [-appendR, f21b0, a3, a10, a11, a12, hlt, q1, q2, e2, l1, l2, l3, f2.1, fe.1, wrapS i (by omega)]
    refine ⟨E.length - (i + 1), by omega, i + 1, T', c', rfl, by omega, by simp [a2], by simp [a3], by simp [a10], by simp [a11], by simp, ?_, hM', fun z => ?_⟩
    · refine ⟨fun j hj => ?_, ?_, f2.2⟩
      · rw [(hfr j (by simp; omega) (by omega) (fun t ht => by have := (hM.lo t ht).1; omega)).2, List.getElem?_append_left (by omega)]; exact hB.low j hj
      · rw [(hfr S.length (by simp; omega) (by omega) (fun t ht => by have := (hM.lo t ht).1; omega)).2, List.getElem?_append_left (by omega)]; exact hB.o0
    · rw [hval', vals_succ hlt, hval, hval]
  · have hie : i = E.length := by omega
    subst hie
    rw [List.take_length] at hval
    have hlen := hM.hlen
    simp [f21b0, a2, a3, a11, a12, hB.o2, hM.mp]
    refine mwp_loop (I := K21 S E S1.length c) (n := T.length) ?_ ?_
    · refine ⟨T, [], by rw [List.filter_eq_self.2 (by simp)], by simp [a2], by simp [a3], by simp, ?_, ?_, ?_, ?_⟩
      · exact ⟨fun j hj => by rw [List.getElem?_append_left (by omega)]; exact hB.low j hj, by rw [List.getElem?_append_left (by omega)]; exact hB.o0, by rw [List.getElem?_append_left (by omega)]; exact hB.o2⟩
      · have hid : ∀ t ∈ T, t.id < S1.length := fun t ht => lt_of_some (hM.rw t ht)
        exact ⟨hlen, by simp, by rw [List.getElem?_append_left (by omega)]; exact hM.mp, hM.pw, fun t ht => ⟨(hM.lo t ht).1, by have := hid t ht; omega, (hM.lo t ht).2⟩, fun t ht _ => by rw [List.getElem?_append_left (hid t ht)]; exact hM.rw t ht, fun t ht hs => by simp at hs⟩
      · intro t ht
        have := hval t.key
        have hf : fnd T t.key = some t := by
          cases hf : fnd T t.key with
          | none => exact absurd rfl (fnd_none hf t ht)
          | some u => rw [pw_eq hM.pw (fnd_some hf).1 ht (.inl (fnd_some hf).2)]
        simp only [valT, hf, Option.map_some, Option.getD_some] at this
        simpa using this
      · intro x hf
        rw [← hval x]; simp [valT, hf]
    clear hB hM hval hi hlt
    generalize S1.length = K at *
    rintro q a S2 ⟨T, seen, rfl, b2, b3, b32, hB, hM, hcon, hno⟩
    have hnx := nextM_ad hM
    cases hL : T.filter fun t => !seen.contains t.born with
    | nil =>
      rw [hL] at hnx
      have hN2 : S.length < S2.length := lt_of_some hB.o0
      simp [f21b1, b2, b3, b32, hnx, hB.o0, hB.o2, List.getElem?_set_self hN2]
      have hseen : ∀ t ∈ T, t.born ∈ seen := fun t ht => by
        have := List.filter_eq_nil_iff.1 hL t ht
        simpa using this
      refine ⟨fun j hj => ?_, by have := lt_of_some hM.it; have := hM.hK; simp; omega, fun x => ?_⟩
      · rw [List.getElem?_set_ne (by omega)]; exact hB.low j hj
      · refine ⟨match fnd T x with | some t => .row t.id 0 t.l.length | none => .nilS, fun S3 hS3 => ?_⟩
        have hS3' : ∀ j, S.length < j → j < S2.length → S3[j]? = S2[j]? := fun j hj hj' => by
          rw [hS3 j (by simpa using hj'), List.getElem?_set_ne (by omega)]
        have hmp : S3[S.length + 1]? = some (.map (T.map Ad.ent) c) := by rw [hS3' _ (by omega) (lt_of_some hM.mp)]; exact hM.mp
        simp only [lookR, hmp, findE_ad]
        cases hf : fnd T x with
        | none =>
          refine ⟨by simp, ?_⟩
          rw [nxt, hno x hf]
          simp [sortI, cmpt, ints]
          exact .list _ _
        | some t =>
          obtain ⟨ht, hk⟩ := fnd_some hf
          obtain ⟨es, cap, r1, r2, r3⟩ := hM.rs t ht (hseen t ht)
          refine ⟨by simp [Ad.ent], ?_⟩
          have hr : S3[t.id]? = some (.cells 1 es cap) := by rw [hS3' _ (by have := (hM.lo t ht).1; omega) (lt_of_some r1)]; exact r1
          have := Rk.row (k := 1) (S := S3) t.id 0 t.l.length es cap hr (by omega)
          rw [List.drop_zero, r3] at this
          have hc := hcon t ht
          rw [if_pos (hseen t ht), hk] at hc
          rw [← hc]; exact this
    | cons t0 L0 =>
      have hnx' : nextM S2 (.itr K) = some ((T.filter fun t => !seen.contains t.born).map fun t => (.tuple [.bool true, .int t.key, .row t.id 0 t.l.length], S2.set K (.mapIter (some (S.length + 1)) c (seen ++ [t.born]) c))) := by
        rw [hnx, hL]
      have hLn : (T.filter fun t => !seen.contains t.born).length = L0.length + 1 := by rw [hL]; rfl
      clear hnx hL
      simp [f21b1, b32, hnx']
      rw [afterN_some]
      intro o ho
      obtain ⟨t, htf, rfl⟩ := List.mem_map.1 ho
      clear ho
      rw [List.mem_filter] at htf
      obtain ⟨ht, hns⟩ := htf
      have hns : t.born ∉ seen := by simpa using hns
      have hlo := hM.lo t ht
      have hrow := hM.rw t ht hns
      have hKl := lt_of_some hM.it
      have hidl := lt_of_some hrow
      have hN1 := lt_of_some hM.mp
      have hK3 := hM.hK
      have hcl : t.l.length ≤ 1048576 := by
        have := hcon t ht
        rw [if_neg hns] at this
        rw [this]; have := vals_len E t.key; omega
      have hent : entryR (S2.set K (.mapIter (some (S.length + 1)) c (seen ++ [t.born]) c)) (.itr K) = .ok true (.tuple [.int t.key, .row t.id 0 t.l.length]) (S2.set K (.mapIter (some (S.length + 1)) c (seen ++ [t.born]) c)) := by
        have e1 : (S2.set K (AObj.mapIter (some (S.length + 1)) c (seen ++ [t.born]) c))[S.length + 1]? = some (.map (T.map Ad.ent) c) := by rw [List.getElem?_set_ne (by omega)]; exact hM.mp
        have e2 : (seen ++ [t.born]).getLast? = some t.born := by simp
        simp only [entryR, List.getElem?_set_self hKl, e1, e2, find_born hM.pw ht]
        simp [Ad.ent]
      simp [b32, hent]
      have hrow1 : (S2.set K (AObj.mapIter (some (S.length + 1)) c (seen ++ [t.born]) c))[t.id]? = some (.cells 1 (ints t.l) none) := by rw [List.getElem?_set_ne (fun e => hlo.2.1 e.symm)]; exact hrow
      refine (w35 hrow1 (by omega)).use ?_
      rintro e S3 ⟨rfl, rfl⟩
      have hsl : (sortI t.l).length = t.l.length := by simp [sortI]
      generalize hS3 : (S2.set K (AObj.mapIter (some (S.length + 1)) c (seen ++ [t.born]) c)).set t.id (AObj.cells 1 (ints (sortI t.l)) none) = S3
      have hrow3 : S3[t.id]? = some (.cells 1 (ints (sortI t.l)) none) := by rw [← hS3, List.getElem?_set_self (by simpa using hidl)]
      have o3 : S3[S.length + 2]? = some (.cells 1 [[.mapv (S.length + 1)]] (some 1)) := by rw [← hS3, List.getElem?_set_ne (by omega), List.getElem?_set_ne (by omega)]; exact hB.o2
      have h36 := w36 (β := β) hrow3 (by omega)
      rw [hsl] at h36
      simp [b3, o3]
      refine h36.use ?_
      rintro e S4 ⟨rfl, es, rfl, hes1, hes2⟩
      have o4 : (S3.set t.id (AObj.cells 1 es none))[S.length + 2]? = some (.cells 1 [[.mapv (S.length + 1)]] (some 1)) := by rw [List.getElem?_set_ne (by omega)]; exact o3
      have m4 : (S3.set t.id (AObj.cells 1 es none))[S.length + 1]? = some (.map (T.map Ad.ent) c) := by
        rw [List.getElem?_set_ne (by omega), ← hS3, List.getElem?_set_ne (by omega), List.getElem?_set_ne (by omega)]; exact hM.mp
      have hfk : fnd T t.key = some t := by
        cases hf : fnd T t.key with
        | none => exact absurd rfl (fnd_none hf t ht)
        | some u => rw [pw_eq hM.pw (fnd_some hf).1 ht (.inl (fnd_some hf).2)]
      have hup : mapUpR (.int .i64) (S3.set t.id (AObj.cells 1 es none)) (.mapv (S.length + 1)) (.int t.key) (.row t.id 0 (cmpt (sortI t.l)).length) =
          .ok true .undef ((S3.set t.id (AObj.cells 1 es none)).set (S.length + 1) (.map ((T.map (upA t.key t.id (cmpt (sortI t.l)))).map Ad.ent) c)) := by
        simp only [mapUpR, m4, findE_ad, hfk, Option.map_some, setE_ad t.key t.id (cmpt (sortI t.l)) hM.pw]
      simp [-List.map_map, o4, hup]
      have hupid : ∀ u ∈ T, (upA t.key t.id (cmpt (sortI t.l)) u).id = u.id := fun u hu => by
        unfold upA
        split
        · rename_i he; rw [pw_eq hM.pw hu ht (.inl he)]
        · rfl
      have hupl : ∀ u ∈ T, (upA t.key t.id (cmpt (sortI t.l)) u).l = if u.born = t.born then cmpt (sortI t.l) else u.l := fun u hu => by
        by_cases he : u.key = t.key
        · have := pw_eq hM.pw hu ht (.inl he)
          subst this
          simp [upA]
        · have : u.born ≠ t.born := fun e => he (by rw [pw_eq hM.pw hu ht (.inr e)])
          simp [upA, he, this]
      have hkeep : ∀ j, j ≠ K → j ≠ t.id → j ≠ S.length + 1 → ((S3.set t.id (AObj.cells 1 es none)).set (S.length + 1) (.map ((T.map (upA t.key t.id (cmpt (sortI t.l)))).map Ad.ent) c))[j]? = S2[j]? := fun j h1 h2 h3 => by
        rw [List.getElem?_set_ne (fun e => h3 e.symm), List.getElem?_set_ne (fun e => h2 e.symm), ← hS3, List.getElem?_set_ne (fun e => h2 e.symm), List.getElem?_set_ne (fun e => h1 e.symm)]
      have hS3l : S3.length = S2.length := by rw [← hS3]; simp
      refine ⟨((T.map (upA t.key t.id (cmpt (sortI t.l)))).filter fun u => !(seen ++ [t.born]).contains u.born).length, ?_, T.map (upA t.key t.id (cmpt (sortI t.l))), seen ++ [t.born], rfl, by simp [b2], by simp [b3], by simp [b32], ?_, ?_, ?_, ?_⟩
      · rw [List.filter_map, List.length_map, ← hLn]
        refine filter_lt (p := fun u => !seen.contains u.born) (q := (fun u : Ad => !(seen ++ [t.born]).contains u.born) ∘ upA t.key t.id (cmpt (sortI t.l))) (t := t) (fun u hu hq => ?_) ht (by simpa using hns) (by simp)
        simp only [Function.comp_apply, upA_born, Bool.not_eq_true', List.contains_eq_mem, List.mem_append, decide_eq_false_iff_not, not_or] at hq ⊢
        exact hq.1
      · refine ⟨fun j hj => ?_, ?_, ?_⟩
        · rw [hkeep j (by omega) (by omega) (by omega)]; exact hB.low j hj
        · rw [hkeep _ (by omega) (by omega) (by omega)]; exact hB.o0
        · rw [hkeep _ (by omega) (by omega) (by omega)]; exact hB.o2
      · refine ⟨hM.hK, ?_, ?_, ?_, ?_, ?_, ?_⟩
        · rw [List.getElem?_set_ne (by omega), List.getElem?_set_ne hlo.2.1, ← hS3, List.getElem?_set_ne hlo.2.1, List.getElem?_set_self hKl]
        · rw [List.getElem?_set_self (by simp [hS3l]; omega)]
        · rw [PwA, List.pairwise_map]
          refine hM.pw.imp_of_mem fun {x y} hx hy hr => ?_
          simp only [upA_key, upA_born, hupid x hx, hupid y hy]
          exact hr
        · intro w hw
          obtain ⟨u, hu, rfl⟩ := List.mem_map.1 hw
          rw [hupid u hu, upA_born]
          exact hM.lo u hu
        · intro w hw hn
          obtain ⟨u, hu, rfl⟩ := List.mem_map.1 hw
          rw [upA_born] at hn
          simp only [List.mem_append, List.mem_singleton, not_or] at hn
          rw [hupid u hu, hupl u hu, if_neg hn.2]
          have hne : u.id ≠ t.id := by
            have : u.key ≠ t.key := fun e => hn.2 (by rw [pw_eq hM.pw hu ht (.inl e)])
            exact (pw_ne hM.pw hu ht this).1
          have := hM.lo u hu
          rw [hkeep u.id this.2.1 hne (by omega)]
          exact hM.rw u hu hn.1
        · intro w hw hs
          obtain ⟨u, hu, rfl⟩ := List.mem_map.1 hw
          rw [upA_born] at hs
          rw [hupid u hu, hupl u hu]
          by_cases hb : u.born = t.born
          · have := pw_eq hM.pw hu ht (.inr hb)
            subst this
            rw [if_pos rfl]
            refine ⟨es, none, ?_, hes1, hes2⟩
            rw [List.getElem?_set_ne (by omega), List.getElem?_set_self (by rw [hS3l]; exact hidl)]
          · rw [if_neg hb]
            simp only [List.mem_append, List.mem_singleton] at hs
            obtain ⟨es', cap', r1, r2, r3⟩ := hM.rs u hu (hs.resolve_right hb)
            have hne : u.id ≠ t.id := by
              have : u.key ≠ t.key := fun e => hb (by rw [pw_eq hM.pw hu ht (.inl e)])
              exact (pw_ne hM.pw hu ht this).1
            have := hM.lo u hu
            exact ⟨es', cap', by rw [hkeep u.id this.2.1 hne (by omega)]; exact r1, r2, r3⟩
      · intro w hw
        obtain ⟨u, hu, rfl⟩ := List.mem_map.1 hw
        rw [hupl u hu, upA_born, upA_key]
        by_cases hb : u.born = t.born
        · have := pw_eq hM.pw hu ht (.inr hb)
          subst this
          have hc := hcon u hu
          rw [if_neg hns] at hc
          rw [if_pos rfl, if_pos (by simp), hc]; rfl
        · rw [if_neg hb]
          have hc := hcon u hu
          rw [hc]
          have : (u.born ∈ seen ++ [t.born]) ↔ u.born ∈ seen := by simp [hb]
          simp only [this]
      · intro x hf
        rw [fnd_upA] at hf
        exact hno x (by simpa using hf)
end Go.Abs
