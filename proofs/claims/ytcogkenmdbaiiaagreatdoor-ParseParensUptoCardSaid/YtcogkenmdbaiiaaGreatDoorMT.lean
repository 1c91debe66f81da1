/- Walks of Same; what the lexer makes of letters. Conditions: none but the lengths; definitions and lemmas. -/
import Derived.Test.YtcogkenmdbaiiaaGreatDoorMW
set_option linter.unusedSimpArgs false
set_option linter.unusedVariables false
namespace Go.Abs
open Go Go.RowKit Go.Proofs Go.Lx Go.Pz
variable {w0 : World}

abbrev TrueR (S : Heap) (e : AEnd) (S' : Heap) : Prop := e = .ret (.bool true) ∧ S' = S
theorem exsV_list (l : List Ex) : ∃ fl, exsV l = .list fl (exlC l) := by
  cases l with
  | nil => exact ⟨.nil, by rw [exsV]; rfl⟩
  | cons x r => exact ⟨.full, by rw [exsV, exsL_map]; rfl⟩
theorem li_addr {k i : Nat} {es : List (List AVal)} {c : List AVal} (hi : i < es.length) (hc : es.getD i [] = c) (hk : c.length = k) (fl : Fl) (S : Heap) : iaddrR k S (.list fl es) (.int i) = .ok true (.fptr es i 0) S := by
  have hk' : es[i].length = k := by rw [← hk, ← hc, getD_eq _ _ _ hi]
  simp [hi, hk']
theorem li_load {k i : Nat} {es : List (List AVal)} {c : List AVal} (hi : i < es.length) (hc : es.getD i [] = c) (hk : c.length = k) (agg : Bool) (m off : Nat) (hm : off + m ≤ k) (S : Heap) : loadR agg m S (.fptr es i off) = .ok true (takeAt agg m c off) S := by
  have hk' : es[i].length = k := by rw [← hk, ← hc, getD_eq _ _ _ hi]
  have hc' : es[i] = c := by rw [← hc, getD_eq _ _ _ hi]
  simp [hi, hk', hc', hm, hk]

def SaI (S : Heap) (l : List Ex) (v v' : AVal) (m : Nat) (a : Tmps) (S' : Heap) : Prop :=
  ∃ i : Nat, m = l.length - i ∧ i ≤ l.length ∧ S' = S ∧ get a 0 = v ∧ get a 1 = v' ∧ get a 5 = .int i
theorem w25 {l : List Ex} (hl : l.length < 4000000000000000000) (h17 : ∀ x ∈ l, ∀ S, ACalls Tryz.prog (B0 w0) 17 [.agg (exC x), .agg (exC x)] S (TrueR S)) (fl fl' : Fl) (S : Heap) :
    ACalls Tryz.prog (B0 w0) 25 [.list fl (exlC l), .list fl' (exlC l)] S (TrueR S) := by
  refine fn_sound tryOrd (f25_c _) (by simp [f25]) ?_
  simp [f25, f25m]
  refine mwp_loop (I := SaI S l (.list fl (exlC l)) (.list fl' (exlC l))) (n := l.length) ⟨0, rfl, Nat.zero_le _, rfl, rfl, rfl, rfl⟩ ?_
  rintro m a S' ⟨i, rfl, hi, rfl, a0, a1, a5⟩
  by_cases hlt : i < l.length
  · have hltI : (i : Int) < (l.length : Int) := by omega
    have hg : (exlC l).getD i [] = exC l[i] := by rw [getD_eq _ _ _ (by simpa using hlt)]; simp [exlC]
    have q1 := li_addr (k := 7) (es := exlC l) (by simpa using hlt) hg (by simp)
    have q2 := li_load (k := 7) (es := exlC l) (by simpa using hlt) hg (by simp) true 7 0 (by omega)
    have hw := wrapS i (by omega)
    have h := h17 l[i] (List.getElem_mem hlt)
    have ht : takeAt true 7 (exC l[i]) 0 = .agg (exC l[i]) := by simp [takeAt, List.take_of_length_le]
    rw [ht] at q2
    generalize l[i] = y at *
    simp [f25b0, a0, a1, a5, hltI, q1, q2]
    refine (h _).use ?_
    rintro e S1 ⟨rfl, rfl⟩
    simp [a0, a1, a5, hw]
    exact ⟨l.length - (i + 1), by omega, i + 1, rfl, by omega, rfl, by simp [a0], by simp [a1], by simp⟩
  · have hie : i = l.length := by omega
    subst hie
    simp [f25b0, a0, a1, a5]
    exact ⟨rfl, rfl⟩

theorem w17 : ∀ (n : Nat), n < 4000000000000000000 → ∀ (x : Ex), x.w ≤ n → ∀ (S : Heap), ACalls Tryz.prog (B0 w0) 17 [.agg (exC x), .agg (exC x)] S (TrueR S) := by
  intro n
  induction n using Nat.strongRecOn with
  | _ n ih =>
    intro hn x hx S
    obtain ⟨op, args, kind, num, scale, text, qual⟩ := x
    rw [w_mk] at hx
    have hal := wL_len args
    refine ACalls.close (R := fun e S' => e = .ret (.bool true) ∧ S'.take S.length = S) ?_ ?_
    rotate_left 1
    · rintro e S' ⟨rfl, ht⟩
      exact .flat ht rfl ⟨rfl, rfl⟩
    obtain ⟨fl, hfl⟩ := exsV_list args
    rw [exC_eq, hfl]
    refine fn_sound tryOrd (f17_c _) (by simp [f17]) ?_
    simp [f17, f17m]
    refine (w25 (by omega) (fun y hy S => ih y.w (by have := w_mem hy; omega) (by have := w_mem hy; omega) y (Nat.le_refl _) S) _ _ _).use ?_
    rintro e S1 ⟨rfl, rfl⟩
    simp
end Go.Abs
set_option linter.unusedSimpArgs false
set_option linter.unusedVariables false
namespace Go.Abs
open Go Go.RowKit Go.Proofs Go.Lx Go.Pz

theorem wL_append (a b : List Ex) : wL (a ++ b) = wL a + wL b := by
  induction a with
  | nil => rw [List.nil_append, wL_nil]; omega
  | cons x r ih => rw [List.cons_append, wL_cons, wL_cons, ih]; omega
def wR : List (List Ex) → Nat
  | [] => 0
  | x :: r => wL x + 1 + wR r
theorem wR_append (a b : List (List Ex)) : wR (a ++ b) = wR a + wR b := by
  induction a with
  | nil => simp [wR]
  | cons x r ih => simp [wR, ih]; omega
theorem wR_len (a : List (List Ex)) : a.length ≤ wR a := by
  induction a with
  | nil => simp [wR]
  | cons x r ih => simp [wR]; omega
theorem wR_mem {x : List Ex} {l : List (List Ex)} (h : x ∈ l) : wL x + 1 ≤ wR l := by
  induction l with
  | nil => cases h
  | cons y r ih =>
    rw [wR]
    rcases List.mem_cons.1 h with rfl | h
    · omega
    · have := ih h; omega

theorem listF_w {α : Type} {V : α → Nat} {step : α → Sta → ResS α} {N : Nat} (hs : ∀ x s x' s', s.l.length ≤ N → step x s = .ok (x', s') → V x' + s'.l.length ≤ V x + s.l.length ∧ s'.l.length ≤ s.l.length) : ∀ (f : Nat) (x : α) (s : Sta) (x' : α) (s' : Sta), s.l.length ≤ N → listF step f x s = .ok (x', s') → V x' + s'.l.length ≤ V x + s.l.length ∧ s'.l.length ≤ s.l.length
  | 0, x, s, x', s', hl, h => hs x s x' s' hl h
  | f + 1, x, s, x', s', hl, h => by
    rw [listF] at h
    cases hF : step x s with
    | error c => rw [hF] at h; cases h
    | ok y =>
      obtain ⟨y, s1⟩ := y
      have h1 := hs _ _ _ _ hl hF
      rw [hF] at h
      simp only at h
      split at h
      · split at h
        · cases h
        · have h2 := listF_w hs f y ⟨s1.l.tail, s1.d⟩ x' s' (by simp; omega) h
          simp only [List.length_tail] at h2
          omega
      · simp only [Except.ok.injEq, Prod.mk.injEq] at h
        obtain ⟨rfl, rfl⟩ := h
        omega
theorem whole_w {N : Nat} {s s' : Sta} {x : Ex} (h : whole resv N s = .ok (x, s')) (hl : s.l.length ≤ N) : x.w + s'.l.length < s.l.length := by
  rw [whole] at h
  cases hF : Pz.either resv N 0 s.l with
  | error c => rw [hF] at h; cases h
  | ok y =>
    obtain ⟨y, l'⟩ := y
    have := either_good resv N 0 _ _ _ hl hF
    rw [hF] at h
    simp only [Except.ok.injEq, Prod.mk.injEq] at h
    obtain ⟨rfl, rfl⟩ := h
    simpa using this
theorem bindS_inv {α β : Type} {x : ResS α} {f : α → Sta → ResS β} {r : β × Sta} (h : bindS x f = .ok r) : ∃ a s, x = .ok (a, s) ∧ f a s = .ok r := by
  cases x with
  | error c => cases h
  | ok y => obtain ⟨a, s⟩ := y; exact ⟨a, s, rfl, h⟩
theorem thenS_inv {β : Type} {x : Except Int Sta} {f : Sta → ResS β} {r : β × Sta} (h : thenS x f = .ok r) : ∃ s, x = .ok s ∧ f s = .ok r := by
  cases x with
  | error c => cases h
  | ok s => exact ⟨s, rfl, h⟩
theorem needS_inv {k : Int} {w : Bs} {s s' : Sta} (h : needS k w s = .ok s') : s'.l.length < s.l.length := by
  rw [needS] at h
  split at h
  · rename_i hh
    have := isT_len hh
    cases h
    simp only; omega
  · cases h
theorem aliasS_inv {s s' : Sta} {x : Bs} (h : aliasS resv s = .ok (x, s')) : s'.l.length ≤ s.l.length := by
  rw [aliasS] at h
  split at h
  · rename_i hh
    have := isT_len hh
    have := nameS_len h
    simp only at this; omega
  · cases h; exact Nat.le_refl _
theorem whereS_w {N : Nat} {s s' : Sta} {x : Ex} (h : whereS resv N s = .ok (x, s')) (hl : s.l.length ≤ N) : x.w + s'.l.length ≤ s.l.length := by
  rw [whereS] at h
  split at h
  · rename_i hh
    have := isT_len hh
    have := whole_w h (by simp only; omega)
    simp only at this; omega
  · cases h
    simp [Ex.zero, w_mk, wL_nil]

/-- How much a statement holds. -/
structure StB (n : Nat) (st : Stm) : Prop where
  cols : st.cols.length ≤ n
  names : st.names.length ≤ n
  rows : wR st.rows ≤ n
  items : wL (st.items.map (·.e)) ≤ n
  src : wL (st.src.map (·.on)) ≤ n
  wher : st.wher.w ≤ n
  order : wL (st.order.map (·.e)) ≤ n
  sets : wL (st.sets.map (·.e)) ≤ n
theorem StB.zero (n : Nat) : StB n {} := by constructor <;> simp [wR, wL_nil, Ex.zero, w_mk]

section
variable {N : Nat} {s s' : Sta}
theorem createS_b {st : Stm} (h : createS resv s = .ok (st, s')) : StB s.l.length st := by
  rw [createS] at h
  split at h
  · rename_i hh
    have h0 := isT_len hh
    obtain ⟨n, s1, h1, h⟩ := bindS_inv h
    obtain ⟨s2, h2, h⟩ := thenS_inv h
    obtain ⟨cs, s3, h3, h⟩ := bindS_inv h
    obtain ⟨s4, h4, h⟩ := thenS_inv h
    cases h
    have := nameS_len h1
    have := needS_inv h2
    have := (listF_w (V := List.length) (N := s2.l.length) (fun x s x' s' _ h => by
      have hw := h
      obtain ⟨c, s5, h5, h⟩ := bindS_inv h
      obtain ⟨nn, s6, h6, h5⟩ := bindS_inv (show (bindS (nameS resv s) _) = _ from h5)
      have := nameS_len h6
      have hc := colS_step hw
      cases h
      obtain ⟨t, s7, h7, h5⟩ := bindS_inv h5
      have ht : s7.l.length ≤ s6.l.length := by
        rw [typeS] at h7
        split at h7
        · cases h7; simp
        split at h7
        · cases h7; simp
        split at h7
        · cases h7; simp
        split at h7
        · cases h7; simp
        · cases h7
      have hs : s'.l.length ≤ s7.l.length := by
        split at h5
        · obtain ⟨s8, h8, h5⟩ := thenS_inv h5
          have := needS_inv h8
          cases h5
          simp only [List.length_tail] at this; omega
        · cases h5; exact Nat.le_refl _
      simp
      omega) 16 [] s2 cs s3 (Nat.le_refl _) h3).1
    simp only [List.length_tail] at *
    constructor <;> simp [wR, wL_nil, Ex.zero, w_mk] at * <;> omega
  · simp only at h
    obtain ⟨s1, h1, h⟩ := thenS_inv h
    obtain ⟨i, s2, h2, h⟩ := bindS_inv h
    obtain ⟨s3, h3, h⟩ := thenS_inv h
    obtain ⟨n, s4, h4, h⟩ := bindS_inv h
    obtain ⟨s5, h5, h⟩ := thenS_inv h
    obtain ⟨ns, s6, h6, h⟩ := bindS_inv h
    obtain ⟨s7, h7, h⟩ := thenS_inv h
    cases h
    have a1 := needS_inv h1
    have := nameS_len h2
    have := needS_inv h3
    have := nameS_len h4
    have := needS_inv h5
    have := (listF_w (V := List.length) (N := s5.l.length) (fun x s x' s' _ h => by
      obtain ⟨c, s5, h5, h⟩ := bindS_inv h
      have := nameS_len h5
      cases h
      simp; omega) 4 [] s5 ns s6 (Nat.le_refl _) h6).1
    have hle : (if isT 1 [117, 110, 105, 113, 117, 101] s.l = true then (⟨s.l.tail, s.d⟩ : Sta) else s).l.length ≤ s.l.length := by split <;> simp
    constructor <;> simp [wR, wL_nil, Ex.zero, w_mk] at * <;> omega
theorem insertS_b {st : Stm} (hl : s.l.length ≤ N) (h : insertS resv N s = .ok (st, s')) : StB s.l.length st := by
  rw [insertS] at h
  obtain ⟨s1, h1, h⟩ := thenS_inv h
  obtain ⟨n, s2, h2, h⟩ := bindS_inv h
  obtain ⟨s3, h3, h⟩ := thenS_inv h
  obtain ⟨rs, s4, h4, h⟩ := bindS_inv h
  cases h
  have := needS_inv h1
  have := nameS_len h2
  have := needS_inv h3
  have := (listF_w (V := wR) (N := N) (fun x s x' s' hl h => by
    rw [rowS] at h
    obtain ⟨s5, h5, h⟩ := thenS_inv h
    obtain ⟨xs, s6, h6, h⟩ := bindS_inv h
    obtain ⟨s7, h7, h⟩ := thenS_inv h
    cases h
    have := needS_inv h5
    have := needS_inv h7
    have := (listF_w (V := wL) (N := N) (fun x s x' s' hl h => by
      rw [exprsS] at h
      obtain ⟨y, s8, h8, h⟩ := bindS_inv h
      cases h
      have := whole_w h8 hl
      rw [wL_append, wL_cons, wL_nil]
      omega) 50 [] s5 xs s6 (by omega) h6).1
    rw [wL_nil] at this
    rw [wR_append]
    simp only [wR]
    omega) 50 [] s3 rs s' (by omega) h4).1
  constructor <;> simp [wR, wL_nil, Ex.zero, w_mk] at * <;> omega
theorem updateS_b {st : Stm} (hl : s.l.length ≤ N) (h : updateS resv N s = .ok (st, s')) : StB s.l.length st := by
  rw [updateS] at h
  obtain ⟨n, s1, h1, h⟩ := bindS_inv h
  obtain ⟨s2, h2, h⟩ := thenS_inv h
  obtain ⟨xs0, s3, h3, h⟩ := bindS_inv h
  obtain ⟨w, s4, h4, h⟩ := bindS_inv h
  cases h
  have := nameS_len h1
  have := needS_inv h2
  have hL := listF_w (V := fun xs : List Asn => wL (xs.map (·.e))) (N := N) (fun x s x' s' hl h => by
    rw [setS] at h
    obtain ⟨n, s5, h5, h⟩ := bindS_inv h
    obtain ⟨s6, h6, h⟩ := thenS_inv h
    obtain ⟨y, s7, h7, h⟩ := bindS_inv h
    cases h
    have := nameS_len h5
    have := needS_inv h6
    have := whole_w h7 (by omega)
    rw [List.map_append, wL_append, List.map_cons, List.map_nil, wL_cons, wL_nil]
    try dsimp only
    omega) 50 [] s2 xs0 s3 (by omega) h3
  have := whereS_w h4 (by omega)
  simp only [List.map_nil, wL_nil] at hL
  constructor <;> simp [wR, wL_nil] <;> omega
theorem queryS_b {st : Stm} (hl : s.l.length ≤ N) (h : queryS resv N s = .ok (st, s')) : StB s.l.length st := by
  rw [queryS] at h
  obtain ⟨is, s1, h1, h⟩ := bindS_inv h
  obtain ⟨s2, h2, h⟩ := thenS_inv h
  obtain ⟨x, s3, h3, h⟩ := bindS_inv h
  obtain ⟨fs, s4, h4, h⟩ := bindS_inv h
  obtain ⟨w, s5, h5, h⟩ := bindS_inv h
  obtain ⟨os, s6, h6, h⟩ := bindS_inv h
  cases h
  have b1 : wL (is.map (·.e)) + s1.l.length ≤ s.l.length := by
    rw [itemsS] at h1
    split at h1
    · cases h1
      simp [wL_nil]
    · have := (listF_w (V := fun xs : List Itm => wL (xs.map (·.e))) (N := N) (fun x s x' s' hl h => by
        rw [itemS] at h
        obtain ⟨y, s7, h7, h⟩ := bindS_inv h
        obtain ⟨n, s8, h8, h⟩ := bindS_inv h
        cases h
        have := whole_w h7 hl
        have := aliasS_inv h8
        rw [List.map_append, wL_append, List.map_cons, List.map_nil, wL_cons, wL_nil]
        try dsimp only
        omega) 50 [] s is s1 hl h1).1
      simpa [wL_nil] using this
  have := needS_inv h2
  have b3 : s3.l.length < s2.l.length ∧ x.on = .zero := (sourceS_on h3).symm
  have b4 : ∀ (f : Nat) (xs : List Src) (s : Sta) (fs : List Src) (s' : Sta), s.l.length ≤ N → joinsS resv N f xs s = .ok (fs, s') → wL (fs.map (·.on)) + s'.l.length ≤ wL (xs.map (·.on)) + s.l.length := by
    intro f
    induction f with
    | zero =>
      intro xs s fs s' hl h
      rw [joinsS] at h
      split at h
      · cases h
      · cases h; exact Nat.le_refl _
    | succ f ih =>
      intro xs s fs s' hl h
      rw [joinsS] at h
      split at h
      · try simp only at h
        obtain ⟨s7, h7, h⟩ := thenS_inv h
        obtain ⟨y, s8, h8, h⟩ := bindS_inv h
        obtain ⟨s9, h9, h⟩ := thenS_inv h
        obtain ⟨o, s10, h10, h⟩ := bindS_inv h
        have a7 := needS_inv h7
        have hle : (if isT 1 [105, 110, 110, 101, 114] s.l = true then (⟨s.l.tail, s.d⟩ : Sta) else s).l.length ≤ s.l.length := by split <;> simp
        have := (sourceS_on h8).2
        have := needS_inv h9
        have := whole_w h10 (by omega)
        have := ih _ _ _ _ (by omega) h
        rw [List.map_append, wL_append, List.map_cons, List.map_nil, wL_cons, wL_nil] at this
        dsimp only at this
        omega
      · cases h; exact Nat.le_refl _
  have b5 := b4 3 [x] s3 fs s4 (by omega) h4
  simp only [List.map_cons, List.map_nil, wL_cons, wL_nil, b3.2, Ex.zero, w_mk] at b5
  have b6 := whereS_w h5 (by omega)
  have b7 : wL (os.map (·.e)) + s'.l.length ≤ s5.l.length := by
    rw [orderS] at h6
    split at h6
    · rename_i hh
      have := isT_len hh
      obtain ⟨s7, h7, h6⟩ := thenS_inv h6
      have := needS_inv h7
      simp only at this
      have := (listF_w (V := fun xs : List Srt => wL (xs.map (·.e))) (N := N) (fun x s x' s' hl h => by
        rw [sortS] at h
        obtain ⟨y, s8, h8, h⟩ := bindS_inv h
        cases h
        have := whole_w h8 hl
        have hle : (if isT 1 [100, 101, 115, 99] s8.l = true then (⟨s8.l.tail, s8.d⟩ : Sta) else s8).l.length ≤ s8.l.length := by split <;> simp
        rw [List.map_append, wL_append, List.map_cons, List.map_nil, wL_cons, wL_nil]
        try dsimp only
        omega) 50 [] s7 os s' (by omega) h6).1
      simp only [List.map_nil, wL_nil] at this
      omega
    · cases h6; simp [wL_nil]
  constructor <;> simp [wR, wL_nil] <;> omega
theorem stmtS_b {st : Stm} (hl : s.l.length ≤ N) (h : stmtS resv N s = .ok (st, s')) : StB s.l.length st := by
  have up : ∀ {n m : Nat} {st}, StB n st → n ≤ m → StB m st := fun h hm => ⟨by have := h.cols; omega, by have := h.names; omega, by have := h.rows; omega, by have := h.items; omega, by have := h.src; omega, by have := h.wher; omega, by have := h.order; omega, by have := h.sets; omega⟩
  rw [stmtS] at h
  split at h
  · exact up (createS_b h) (by simp)
  split at h
  · rw [dropS] at h
    split at h
    · obtain ⟨n, s1, h1, h⟩ := bindS_inv h
      cases h
      constructor <;> simp [wR, wL_nil, Ex.zero, w_mk]
    · obtain ⟨s1, h1, h⟩ := thenS_inv h
      obtain ⟨n, s2, h2, h⟩ := bindS_inv h
      cases h
      constructor <;> simp [wR, wL_nil, Ex.zero, w_mk]
  split at h
  · exact up (insertS_b (by simp only [List.length_tail]; omega) h) (by simp)
  split at h
  · exact up (queryS_b (by simp only [List.length_tail]; omega) h) (by simp)
  split at h
  · exact up (updateS_b (by simp only [List.length_tail]; omega) h) (by simp)
  split at h
  · rw [deleteS] at h
    obtain ⟨s1, h1, h⟩ := thenS_inv h
    obtain ⟨n, s2, h2, h⟩ := bindS_inv h
    obtain ⟨w, s3, h3, h⟩ := bindS_inv h
    cases h
    have hlt9 : s1.l.length < s.l.length := by
      have := needS_inv h1
      simp only [List.length_tail] at this
      omega
    have := nameS_len h2
    have := whereS_w h3 (by omega)
    constructor <;> simp [wR, wL_nil] <;> omega
  split at h
  · cases h; constructor <;> simp [wR, wL_nil, Ex.zero, w_mk]
  split at h
  · cases h; constructor <;> simp [wR, wL_nil, Ex.zero, w_mk]
  split at h
  · cases h; constructor <;> simp [wR, wL_nil, Ex.zero, w_mk]
  · cases h
end
theorem parse_b {x : Bs} {st : Stm} (h : Pz.parse resv x = .ok st) : StB 4000 st := by
  rw [Pz.parse] at h
  cases hT : Lx.tokens x with
  | error n => rw [hT] at h; cases h
  | ok ts =>
    rw [hT] at h
    simp only at h
    have hl := tokens_len hT
    rw [parseT] at h
    cases hs : stmtS resv (ts.length + 1) ⟨ts, 0⟩ with
    | error c => rw [hs] at h; cases h
    | ok y =>
      obtain ⟨st', s⟩ := y
      rw [hs] at h
      simp only at h
      have hb := stmtS_b (N := ts.length + 1) (by simp) hs
      split at h
      · cases h
      split at h
      · cases h
      · cases h
        exact ⟨by have := hb.cols; simp only at this; omega, by have := hb.names; simp only at this; omega, by have := hb.rows; simp only at this; omega, by have := hb.items; simp only at this; omega, by have := hb.src; simp only at this; omega, by have := hb.wher; simp only at this; omega, by have := hb.order; simp only at this; omega, by have := hb.sets; simp only at this; omega⟩
end Go.Abs
set_option linter.unusedSimpArgs false
set_option linter.unusedVariables false
namespace Go.Abs
open Go Go.RowKit Go.Proofs Go.Lx Go.Pz
variable {w0 : World}

def LpI (H : Heap) (n slot p2 p3 : Nat) (m : Nat) (a : Tmps) (S' : Heap) : Prop :=
  ∃ i : Nat, m = n - i ∧ i ≤ n ∧ S' = H ∧ get a 2 = .ptr p2 0 0 ∧ get a 3 = .ptr p3 0 0 ∧ get a slot = .int i
def LpQ (H : Heap) (p2 p3 : Nat) : AExit → Tmps → Heap → Prop
  | .normal, a, S' => S' = H ∧ get a 2 = .ptr p2 0 0 ∧ get a 3 = .ptr p3 0 0
  | _, _, _ => False

section
variable {H : Heap} {p2 p3 : Nat} {fl fl' : Fl} {a : Tmps}
/-- An element of each of two lists of the same. -/
theorem two_elem {k i : Nat} {es : List (List AVal)} {c : List AVal} (hi : i < es.length) (hc : es.getD i [] = c) (hk : c.length = k) (fl : Fl) :
    ∃ p, iaddrR k H (.list fl es) (.int i) = .ok true p H ∧ (∀ agg m, m ≤ k → loadR agg m H p = .ok true (takeAt agg m c 0) H) ∧
    ∀ off, ∃ p', addOff off H p = .ok true p' H ∧ ∀ agg m, off + m ≤ k → loadR agg m H p' = .ok true (takeAt agg m c off) H := by
  have := (Rk.list (k := k) (S := H) fl es).elem hi (by rw [hc]; exact hk)
  rwa [hc] at this

set_option maxHeartbeats 1000000 in
theorem lp26a {os : List Srt} (hn : wL (os.map (·.e)) ≤ 4000) (l2 : loadR false 1 H (.ptr p2 0 16) = .ok true (.list fl (srtsC os)) H) (l3 : loadR false 1 H (.ptr p3 0 16) = .ok true (.list fl' (srtsC os)) H) {G : Nat → AVal} (b2 : get a 2 = .ptr p2 0 0) (b3 : get a 3 = .ptr p3 0 0) (b5 : get a 5 = .int 0) :
    mwp (ACalls Tryz.prog (B0 w0)) (.block 0 (.loop (f26b0 G))) (LpQ H p2 p3) a H := by
  have hol : os.length ≤ 4000 := by have := wL_len (os.map (·.e)); simp at this; omega
  simp only [mwp_block]
  refine mwp_loop (I := LpI H os.length 5 p2 p3) ⟨0, rfl, Nat.zero_le _, rfl, b2, b3, b5⟩ ?_
  clear b2 b3 b5
  rintro m a S' ⟨i, rfl, hi, rfl, b2, b3, b5⟩
  by_cases hlt : i < os.length
  · have hltI : (i : Int) < (os.length : Int) := by omega
    have hg : (srtsC os).getD i [] = srtC os[i] := by rw [getD_eq _ _ _ (by simpa using hlt)]; simp [srtsC]
    have hm : os[i].e.w ≤ 4000 := by have := w_mem (x := os[i].e) (l := os.map (·.e)) (List.mem_map.2 ⟨_, List.getElem_mem hlt, rfl⟩); omega
    obtain ⟨p, q1, q2, q3⟩ := two_elem (H := S') (by simpa using hlt) hg (k := 8) (by simp [srtC]) fl
    obtain ⟨p', r1, r2, r3⟩ := two_elem (H := S') (by simpa using hlt) hg (k := 8) (by simp [srtC]) fl'
    obtain ⟨pa, q4, q5⟩ := q3 7
    obtain ⟨pa', r4, r5⟩ := r3 7
    obtain ⟨pb, q6, q7⟩ := q3 0
    obtain ⟨pb', r6, r7⟩ := r3 0
    have hw := wrapS i (by omega)
    generalize os[i] = y at *
    obtain ⟨op, vv, kind, num, scale, text, qual, hx, o1, o2⟩ := exC_shape y.e
    have t1 : takeAt true 7 (srtC y) 0 = .agg (exC y.e) := by simp [srtC, hx, takeAt]
    have t2 : takeAt false 1 (srtC y) 7 = .bool y.desc := by simp [srtC, hx, takeAt]
    have q8 := q7 true 7 (by omega)
    have r8 := r7 true 7 (by omega)
    have q9 := q5 false 1 (by omega)
    have r9 := r5 false 1 (by omega)
    rw [t1] at q8 r8
    rw [t2] at q9 r9
    simp [f26b0, b2, b3, b5, l2, l3, hltI, q1, r1, q4, r4, q6, r6, q8, r8, q9, r9]
    refine (w17 4000 (by decide) y.e hm _).use ?_
    rintro e S1 ⟨rfl, rfl⟩
    simp [b2, b3, b5, hw]
    exact ⟨os.length - (i + 1), by omega, i + 1, rfl, by omega, rfl, by simp [b2], by simp [b3], by simp⟩
  · have hie : i = os.length := by omega
    subst hie
    simp [f26b0, b2, b3, b5, l2]
    exact ⟨rfl, by simp [b2], by simp [b3]⟩
set_option maxHeartbeats 1000000 in
theorem lp26b {os : List Asn} (hn : wL (os.map (·.e)) ≤ 4000) (l2 : loadR false 1 H (.ptr p2 0 17) = .ok true (.list fl (asnsC os)) H) (l3 : loadR false 1 H (.ptr p3 0 17) = .ok true (.list fl' (asnsC os)) H) {G : Nat → AVal} (b2 : get a 2 = .ptr p2 0 0) (b3 : get a 3 = .ptr p3 0 0) (b5 : get a 6 = .int 0) :
    mwp (ACalls Tryz.prog (B0 w0)) (.block 2 (.loop (f26b1 G))) (LpQ H p2 p3) a H := by
  have hol : os.length ≤ 4000 := by have := wL_len (os.map (·.e)); simp at this; omega
  simp only [mwp_block]
  refine mwp_loop (I := LpI H os.length 6 p2 p3) ⟨0, rfl, Nat.zero_le _, rfl, b2, b3, b5⟩ ?_
  clear b2 b3 b5
  rintro m a S' ⟨i, rfl, hi, rfl, b2, b3, b5⟩
  by_cases hlt : i < os.length
  · have hltI : (i : Int) < (os.length : Int) := by omega
    have hg : (asnsC os).getD i [] = asnC os[i] := by rw [getD_eq _ _ _ (by simpa using hlt)]; simp [asnsC]
    have hm : os[i].e.w ≤ 4000 := by have := w_mem (x := os[i].e) (l := os.map (·.e)) (List.mem_map.2 ⟨_, List.getElem_mem hlt, rfl⟩); omega
    obtain ⟨p, q1, q2, q3⟩ := two_elem (H := S') (by simpa using hlt) hg (k := 8) (by simp [asnC]) fl
    obtain ⟨p', r1, r2, r3⟩ := two_elem (H := S') (by simpa using hlt) hg (k := 8) (by simp [asnC]) fl'
    obtain ⟨pa, q4, q5⟩ := q3 0
    obtain ⟨pa', r4, r5⟩ := r3 0
    obtain ⟨pb, q6, q7⟩ := q3 1
    obtain ⟨pb', r6, r7⟩ := r3 1
    have hw := wrapS i (by omega)
    generalize os[i] = y at *
    obtain ⟨op, vv, kind, num, scale, text, qual, hx, o1, o2⟩ := exC_shape y.e
    have t1 : takeAt true 7 (asnC y) 1 = .agg (exC y.e) := by simp [asnC, hx, takeAt]
    have t2 : takeAt false 1 (asnC y) 0 = .str y.col := by simp [asnC, hx, takeAt]
    have q8 := q7 true 7 (by omega)
    have r8 := r7 true 7 (by omega)
    have q9 := q5 false 1 (by omega)
    have r9 := r5 false 1 (by omega)
    rw [t1] at q8 r8
    rw [t2] at q9 r9
    simp [f26b1, b2, b3, b5, l2, l3, hltI, q1, r1, q4, r4, q6, r6, q8, r8, q9, r9]
    refine (w17 4000 (by decide) y.e hm _).use ?_
    rintro e S1 ⟨rfl, rfl⟩
    simp [b2, b3, b5, hw]
    exact ⟨os.length - (i + 1), by omega, i + 1, rfl, by omega, rfl, by simp [b2], by simp [b3], by simp⟩
  · have hie : i = os.length := by omega
    subst hie
    simp [f26b1, b2, b3, b5, l2]
    exact ⟨rfl, by simp [b2], by simp [b3]⟩
set_option maxHeartbeats 1000000 in
theorem lp11a {os : List Pz.Col} (hol : os.length ≤ 4000) (l2 : loadR false 1 H (.ptr p2 0 3) = .ok true (.list fl (pcolsC os)) H) (l3 : loadR false 1 H (.ptr p3 0 3) = .ok true (.list fl' (pcolsC os)) H) {G : Nat → AVal} (b2 : get a 2 = .ptr p2 0 0) (b3 : get a 3 = .ptr p3 0 0) (b5 : get a 5 = .int 0) :
    mwp (ACalls Tryz.prog (B0 w0)) (.block 0 (.loop (f11b0 G))) (LpQ H p2 p3) a H := by
  simp only [mwp_block]
  refine mwp_loop (I := LpI H os.length 5 p2 p3) ⟨0, rfl, Nat.zero_le _, rfl, b2, b3, b5⟩ ?_
  clear b2 b3 b5
  rintro m a S' ⟨i, rfl, hi, rfl, b2, b3, b5⟩
  by_cases hlt : i < os.length
  · have hltI : (i : Int) < (os.length : Int) := by omega
    have hg : (pcolsC os).getD i [] = pcolC os[i] := by rw [getD_eq _ _ _ (by simpa using hlt)]; simp [pcolsC]
    obtain ⟨p, q1, q2, q3⟩ := two_elem (H := S') (by simpa using hlt) hg (k := 3) (by simp [pcolC]) fl
    obtain ⟨p', r1, r2, r3⟩ := two_elem (H := S') (by simpa using hlt) hg (k := 3) (by simp [pcolC]) fl'
    have hw := wrapS i (by omega)
    generalize os[i] = y at *
    have t1 : takeAt true 3 (pcolC y) 0 = .agg [.str y.name, .int y.type, .bool y.req] := by simp [pcolC, takeAt]
    have q8 := q2 true 3 (by omega)
    have r8 := r2 true 3 (by omega)
    rw [t1] at q8 r8
    simp [f11b0, b2, b3, b5, l2, l3, hltI, q1, r1, q8, r8, hw]
    exact ⟨os.length - (i + 1), by omega, i + 1, rfl, by omega, rfl, by simp [b2], by simp [b3], by simp⟩
  · have hie : i = os.length := by omega
    subst hie
    simp [f11b0, b2, b3, b5, l2]
    exact ⟨rfl, by simp [b2], by simp [b3]⟩
set_option maxHeartbeats 1000000 in
theorem lp11b {os : List Bs} (hol : os.length ≤ 4000) (l2 : loadR false 1 H (.ptr p2 0 4) = .ok true (.list fl (namesC os)) H) (l3 : loadR false 1 H (.ptr p3 0 4) = .ok true (.list fl' (namesC os)) H) {G : Nat → AVal} (b2 : get a 2 = .ptr p2 0 0) (b3 : get a 3 = .ptr p3 0 0) (b5 : get a 6 = .int 0) :
    mwp (ACalls Tryz.prog (B0 w0)) (.block 2 (.loop (f11b1 G))) (LpQ H p2 p3) a H := by
  simp only [mwp_block]
  refine mwp_loop (I := LpI H os.length 6 p2 p3) ⟨0, rfl, Nat.zero_le _, rfl, b2, b3, b5⟩ ?_
  clear b2 b3 b5
  rintro m a S' ⟨i, rfl, hi, rfl, b2, b3, b5⟩
  by_cases hlt : i < os.length
  · have hltI : (i : Int) < (os.length : Int) := by omega
    have hg : (namesC os).getD i [] = [.str os[i]] := by rw [getD_eq _ _ _ (by simpa using hlt)]; simp [namesC]
    obtain ⟨p, q1, q2, q3⟩ := two_elem (H := S') (by simpa using hlt) hg (k := 1) (by simp) fl
    obtain ⟨p', r1, r2, r3⟩ := two_elem (H := S') (by simpa using hlt) hg (k := 1) (by simp) fl'
    have hw := wrapS i (by omega)
    generalize os[i] = y at *
    have t1 : takeAt false 1 [.str y] 0 = .str y := by simp [takeAt]
    have q8 := q2 false 1 (by omega)
    have r8 := r2 false 1 (by omega)
    rw [t1] at q8 r8
    simp [f11b1, b2, b3, b5, l2, l3, hltI, q1, r1, q8, r8, hw]
    exact ⟨os.length - (i + 1), by omega, i + 1, rfl, by omega, rfl, by simp [b2], by simp [b3], by simp⟩
  · have hie : i = os.length := by omega
    subst hie
    simp [f11b1, b2, b3, b5, l2]
    exact ⟨rfl, by simp [b2], by simp [b3]⟩
set_option maxHeartbeats 1000000 in
theorem lp11c {os : List (List Ex)} (hn : wR os ≤ 4000) (l2 : loadR false 1 H (.ptr p2 0 6) = .ok true (.list fl (rwsC os)) H) (l3 : loadR false 1 H (.ptr p3 0 6) = .ok true (.list fl' (rwsC os)) H) {G : Nat → AVal} (b2 : get a 2 = .ptr p2 0 0) (b3 : get a 3 = .ptr p3 0 0) (b5 : get a 7 = .int 0) :
    mwp (ACalls Tryz.prog (B0 w0)) (.block 4 (.loop (f11b2 G))) (LpQ H p2 p3) a H := by
  have hol : os.length ≤ 4000 := by have := wR_len os; omega
  simp only [mwp_block]
  refine mwp_loop (I := LpI H os.length 7 p2 p3) ⟨0, rfl, Nat.zero_le _, rfl, b2, b3, b5⟩ ?_
  clear b2 b3 b5
  rintro m a S' ⟨i, rfl, hi, rfl, b2, b3, b5⟩
  by_cases hlt : i < os.length
  · have hltI : (i : Int) < (os.length : Int) := by omega
    have hg : (rwsC os).getD i [] = [.list .unk (exlC os[i])] := by rw [getD_eq _ _ _ (by simpa using hlt)]; simp [rwsC]
    have hm := wR_mem (List.getElem_mem hlt)
    obtain ⟨p, q1, q2, q3⟩ := two_elem (H := S') (by simpa using hlt) hg (k := 1) (by simp) fl
    obtain ⟨p', r1, r2, r3⟩ := two_elem (H := S') (by simpa using hlt) hg (k := 1) (by simp) fl'
    have hw := wrapS i (by omega)
    generalize os[i] = y at *
    have t1 : takeAt false 1 [.list .unk (exlC y)] 0 = .list .unk (exlC y) := by simp [takeAt]
    have q8 := q2 false 1 (by omega)
    have r8 := r2 false 1 (by omega)
    rw [t1] at q8 r8
    have hyl := wL_len y
    simp [f11b2, b2, b3, b5, l2, l3, hltI, q1, r1, q8, r8]
    refine (w25 (by omega) (fun x hx S => w17 4000 (by decide) x (by have := w_mem hx; omega) S) _ _ _).use ?_
    rintro e S1 ⟨rfl, rfl⟩
    simp [b2, b3, b5, hw]
    exact ⟨os.length - (i + 1), by omega, i + 1, rfl, by omega, rfl, by simp [b2], by simp [b3], by simp⟩
  · have hie : i = os.length := by omega
    subst hie
    simp [f11b2, b2, b3, b5, l2]
    exact ⟨rfl, by simp [b2], by simp [b3]⟩
set_option maxHeartbeats 1000000 in
theorem lp11d {os : List Itm} (hn : wL (os.map (·.e)) ≤ 4000) (l2 : loadR false 1 H (.ptr p2 0 7) = .ok true (.list fl (itmsC os)) H) (l3 : loadR false 1 H (.ptr p3 0 7) = .ok true (.list fl' (itmsC os)) H) {G : Nat → AVal} (b2 : get a 2 = .ptr p2 0 0) (b3 : get a 3 = .ptr p3 0 0) (b5 : get a 8 = .int 0) :
    mwp (ACalls Tryz.prog (B0 w0)) (.block 6 (.loop (f11b3 G))) (LpQ H p2 p3) a H := by
  have hol : os.length ≤ 4000 := by have := wL_len (os.map (·.e)); simp at this; omega
  simp only [mwp_block]
  refine mwp_loop (I := LpI H os.length 8 p2 p3) ⟨0, rfl, Nat.zero_le _, rfl, b2, b3, b5⟩ ?_
  clear b2 b3 b5
  rintro m a S' ⟨i, rfl, hi, rfl, b2, b3, b5⟩
  by_cases hlt : i < os.length
  · have hltI : (i : Int) < (os.length : Int) := by omega
    have hg : (itmsC os).getD i [] = itmC os[i] := by rw [getD_eq _ _ _ (by simpa using hlt)]; simp [itmsC]
    have hm : os[i].e.w ≤ 4000 := by have := w_mem (x := os[i].e) (l := os.map (·.e)) (List.mem_map.2 ⟨_, List.getElem_mem hlt, rfl⟩); omega
    obtain ⟨p, q1, q2, q3⟩ := two_elem (H := S') (by simpa using hlt) hg (k := 8) (by simp [itmC]) fl
    obtain ⟨p', r1, r2, r3⟩ := two_elem (H := S') (by simpa using hlt) hg (k := 8) (by simp [itmC]) fl'
    obtain ⟨pa, q4, q5⟩ := q3 7
    obtain ⟨pa', r4, r5⟩ := r3 7
    obtain ⟨pb, q6, q7⟩ := q3 0
    obtain ⟨pb', r6, r7⟩ := r3 0
    have hw := wrapS i (by omega)
    generalize os[i] = y at *
    obtain ⟨op, vv, kind, num, scale, text, qual, hx, o1, o2⟩ := exC_shape y.e
    have t1 : takeAt true 7 (itmC y) 0 = .agg (exC y.e) := by simp [itmC, hx, takeAt]
    have t2 : takeAt false 1 (itmC y) 7 = .str y.name := by simp [itmC, hx, takeAt]
    have q8 := q7 true 7 (by omega)
    have r8 := r7 true 7 (by omega)
    have q9 := q5 false 1 (by omega)
    have r9 := r5 false 1 (by omega)
    rw [t1] at q8 r8
    rw [t2] at q9 r9
    simp [f11b3, b2, b3, b5, l2, l3, hltI, q1, r1, q4, r4, q6, r6, q8, r8, q9, r9]
    refine (w17 4000 (by decide) y.e hm _).use ?_
    rintro e S1 ⟨rfl, rfl⟩
    simp [b2, b3, b5, hw]
    exact ⟨os.length - (i + 1), by omega, i + 1, rfl, by omega, rfl, by simp [b2], by simp [b3], by simp⟩
  · have hie : i = os.length := by omega
    subst hie
    simp [f11b3, b2, b3, b5, l2]
    exact ⟨rfl, by simp [b2], by simp [b3]⟩
set_option maxHeartbeats 1000000 in
theorem lp11e {os : List Src} (hn : wL (os.map (·.on)) ≤ 4000) (l2 : loadR false 1 H (.ptr p2 0 8) = .ok true (.list fl (srcsC os)) H) (l3 : loadR false 1 H (.ptr p3 0 8) = .ok true (.list fl' (srcsC os)) H) {G : Nat → AVal} (b2 : get a 2 = .ptr p2 0 0) (b3 : get a 3 = .ptr p3 0 0) (b5 : get a 9 = .int 0) :
    mwp (ACalls Tryz.prog (B0 w0)) (.block 8 (.loop (f11b4 G))) (LpQ H p2 p3) a H := by
  have hol : os.length ≤ 4000 := by have := wL_len (os.map (·.on)); simp at this; omega
  simp only [mwp_block]
  refine mwp_loop (I := LpI H os.length 9 p2 p3) ⟨0, rfl, Nat.zero_le _, rfl, b2, b3, b5⟩ ?_
  clear b2 b3 b5
  rintro m a S' ⟨i, rfl, hi, rfl, b2, b3, b5⟩
  by_cases hlt : i < os.length
  · have hltI : (i : Int) < (os.length : Int) := by omega
    have hg : (srcsC os).getD i [] = srcC os[i] := by rw [getD_eq _ _ _ (by simpa using hlt)]; simp [srcsC]
    have hm : os[i].on.w ≤ 4000 := by have := w_mem (x := os[i].on) (l := os.map (·.on)) (List.mem_map.2 ⟨_, List.getElem_mem hlt, rfl⟩); omega
    obtain ⟨p, q1, q2, q3⟩ := two_elem (H := S') (by simpa using hlt) hg (k := 9) (by simp [srcC]) fl
    obtain ⟨p', r1, r2, r3⟩ := two_elem (H := S') (by simpa using hlt) hg (k := 9) (by simp [srcC]) fl'
    obtain ⟨pa, q4, q5⟩ := q3 0
    obtain ⟨pa', r4, r5⟩ := r3 0
    obtain ⟨pb, q6, q7⟩ := q3 1
    obtain ⟨pb', r6, r7⟩ := r3 1
    obtain ⟨pc, q10, q11⟩ := q3 2
    obtain ⟨pc', r10, r11⟩ := r3 2
    have hw := wrapS i (by omega)
    generalize os[i] = y at *
    obtain ⟨op, vv, kind, num, scale, text, qual, hx, o1, o2⟩ := exC_shape y.on
    have t1 : takeAt true 7 (srcC y) 2 = .agg (exC y.on) := by simp [srcC, hx, takeAt]
    have t2 : takeAt false 1 (srcC y) 0 = .str y.table := by simp [srcC, hx, takeAt]
    have t3 : takeAt false 1 (srcC y) 1 = .str y.alias := by simp [srcC, hx, takeAt]
    have q8 := q11 true 7 (by omega)
    have r8 := r11 true 7 (by omega)
    have q9 := q5 false 1 (by omega)
    have r9 := r5 false 1 (by omega)
    have q12 := q7 false 1 (by omega)
    have r12 := r7 false 1 (by omega)
    rw [t1] at q8 r8
    rw [t2] at q9 r9
    rw [t3] at q12 r12
    simp [f11b4, b2, b3, b5, l2, l3, hltI, q1, r1, q4, r4, q6, r6, q10, r10, q8, r8, q9, r9, q12, r12]
    refine (w17 4000 (by decide) y.on hm _).use ?_
    rintro e S1 ⟨rfl, rfl⟩
    simp [b2, b3, b5, hw]
    exact ⟨os.length - (i + 1), by omega, i + 1, rfl, by omega, rfl, by simp [b2], by simp [b3], by simp⟩
  · have hie : i = os.length := by omega
    subst hie
    simp [f11b4, b2, b3, b5, l2]
    exact ⟨rfl, by simp [b2], by simp [b3]⟩
end
end Go.Abs
set_option linter.unusedSimpArgs false
set_option linter.unusedVariables false
namespace Go.Abs
open Go Go.RowKit Go.Proofs Go.Lx Go.Pz
variable {w0 : World}

theorem setNext {H : Heap} {p2 p3 : Nat} {a : Tmps} {S' : Heap} (h : LpQ H p2 p3 .normal a S') : S' = H ∧ get a 2 = .ptr p2 0 0 ∧ get a 3 = .ptr p3 0 0 := h
set_option maxHeartbeats 2000000 in
theorem w26 {st : Stm} {c c' : List AVal} (hb : StB 4000 st) (hc : FC st c) (hc' : FC st c') (S : Heap) : ACalls Tryz.prog (B0 w0) 26 [.agg c, .agg c'] S (TrueR S) := by
  obtain ⟨vC, vN, vR, vI, vF, vO, vS, rfl, ⟨f1, rfl⟩, ⟨f2, rfl⟩, ⟨f3, rfl⟩, ⟨f4, rfl⟩, ⟨f5, rfl⟩, ⟨f6, rfl⟩, ⟨f7, rfl⟩⟩ := hc
  obtain ⟨vC', vN', vR', vI', vF', vO', vS', rfl, ⟨g1, rfl⟩, ⟨g2, rfl⟩, ⟨g3, rfl⟩, ⟨g4, rfl⟩, ⟨g5, rfl⟩, ⟨g6, rfl⟩, ⟨g7, rfl⟩⟩ := hc'
  obtain ⟨op, vv, kind, num, scale, text, qual, hx, o1, o2⟩ := exC_shape st.wher
  refine ACalls.close (R := fun e S' => e = .ret (.bool true) ∧ S'.take S.length = S) ?_ ?_
  rotate_left 1
  · rintro e S' ⟨rfl, ht⟩
    exact .flat ht rfl ⟨rfl, rfl⟩
  refine fn_sound tryOrd (f26_c _) (by simp [f26]) ?_
  rw [f26, f26m, mwp_seq]
  simp [-appendR, -mwp_seq, -mwp_block, hx, o1]
  generalize hH : S ++ [AObj.cells 18 _ (some 1), AObj.cells 18 _ (some 1)] = H
  have p2 : H[S.length]? = some (.cells 18 [[.int st.kind, .str st.table, .str st.index, .list f1 (pcolsC st.cols), .list f2 (namesC st.names), .bool st.uniq, .list f3 (rwsC st.rows), .list f4 (itmsC st.items), .list f5 (srcsC st.src), .int op, vv, .int kind, .int num, .int scale, .str text, .str qual, .list f6 (srtsC st.order), .list f7 (asnsC st.sets)]] (some 1)) := by rw [← hH]; simp
  have p3 : H[S.length + 1]? = some (.cells 18 [[.int st.kind, .str st.table, .str st.index, .list g1 (pcolsC st.cols), .list g2 (namesC st.names), .bool st.uniq, .list g3 (rwsC st.rows), .list g4 (itmsC st.items), .list g5 (srcsC st.src), .int op, vv, .int kind, .int num, .int scale, .str text, .str qual, .list g6 (srtsC st.order), .list g7 (asnsC st.sets)]] (some 1)) := by rw [← hH]; simp
  have ht : H.take S.length = S := by rw [← hH]; simp
  clear hH
  have l16 : loadR false 1 H (.ptr S.length 0 16) = .ok true (.list f6 (srtsC st.order)) H := by simp [p2]
  have m16 : loadR false 1 H (.ptr (S.length + 1) 0 16) = .ok true (.list g6 (srtsC st.order)) H := by simp [p3]
  have l17 : loadR false 1 H (.ptr S.length 0 17) = .ok true (.list f7 (asnsC st.sets)) H := by simp [p2]
  have m17 : loadR false 1 H (.ptr (S.length + 1) 0 17) = .ok true (.list g7 (asnsC st.sets)) H := by simp [p3]
  rw [mwp_seq, mwp_seq]
  simp [-appendR, -mwp_seq, -mwp_block]
  refine mwp_mono _ _ (fun _ _ _ _ _ hr h => h.mono hr) ?_ (lp26a (w0 := w0) (p2 := S.length) (p3 := S.length + 1) hb.order l16 m16 (by simp) (by simp) (by simp))
  intro e a S' h
  cases e <;> first | exact h.elim | skip
  obtain ⟨rfl, b2, b3⟩ := setNext h
  simp only [afterX_normal]
  rw [mwp_seq, mwp_seq]
  simp [-appendR, -mwp_seq, -mwp_block]
  refine mwp_mono _ _ (fun _ _ _ _ _ hr h => h.mono hr) ?_ (lp26b (w0 := w0) (p2 := S.length) (p3 := S.length + 1) hb.sets l17 m17 (by simp [b2]) (by simp [b3]) (by simp))
  intro e a S' h
  cases e <;> first | exact h.elim | skip
  obtain ⟨rfl, b2, b3⟩ := setNext h
  simp [ht]
end Go.Abs
set_option linter.unusedSimpArgs false
set_option linter.unusedVariables false
namespace Go.Abs
open Go Go.RowKit Go.Proofs Go.Lx Go.Pz
variable {w0 : World}

set_option maxRecDepth 100000 in
set_option maxHeartbeats 16000000 in
theorem w11 {st : Stm} {c c' : List AVal} (hb : StB 4000 st) (hc : FC st c) (hc' : FC st c') (S : Heap) : ACalls Tryz.prog (B0 w0) 11 [.agg c, .agg c'] S (TrueR S) := by
  have h26 := fun S => w26 (w0 := w0) hb hc hc' S
  obtain ⟨vC, vN, vR, vI, vF, vO, vS, rfl, ⟨f1, rfl⟩, ⟨f2, rfl⟩, ⟨f3, rfl⟩, ⟨f4, rfl⟩, ⟨f5, rfl⟩, ⟨f6, rfl⟩, ⟨f7, rfl⟩⟩ := hc
  obtain ⟨vC', vN', vR', vI', vF', vO', vS', rfl, ⟨g1, rfl⟩, ⟨g2, rfl⟩, ⟨g3, rfl⟩, ⟨g4, rfl⟩, ⟨g5, rfl⟩, ⟨g6, rfl⟩, ⟨g7, rfl⟩⟩ := hc'
  have h17 := fun S => w17 (w0 := w0) 4000 (by decide) st.wher hb.wher S
  obtain ⟨op, vv, kind, num, scale, text, qual, hx, o1, o2⟩ := exC_shape st.wher
  rw [hx] at h17 h26
  refine ACalls.close (R := fun e S' => e = .ret (.bool true) ∧ S'.take S.length = S) ?_ ?_
  rotate_left 1
  · rintro e S' ⟨rfl, ht⟩
    exact .flat ht rfl ⟨rfl, rfl⟩
  refine fn_sound tryOrd (f11_c _) (by simp [f11]) ?_
  rw [f11, f11m, mwp_seq]
  simp [-appendR, -mwp_seq, -mwp_block, hx, o1]
  generalize hH : S ++ [AObj.cells 18 _ (some 1), AObj.cells 18 _ (some 1)] = H
  have p2 : H[S.length]? = some (.cells 18 [[.int st.kind, .str st.table, .str st.index, .list f1 (pcolsC st.cols), .list f2 (namesC st.names), .bool st.uniq, .list f3 (rwsC st.rows), .list f4 (itmsC st.items), .list f5 (srcsC st.src), .int op, vv, .int kind, .int num, .int scale, .str text, .str qual, .list f6 (srtsC st.order), .list f7 (asnsC st.sets)]] (some 1)) := by rw [← hH]; simp
  have p3 : H[S.length + 1]? = some (.cells 18 [[.int st.kind, .str st.table, .str st.index, .list g1 (pcolsC st.cols), .list g2 (namesC st.names), .bool st.uniq, .list g3 (rwsC st.rows), .list g4 (itmsC st.items), .list g5 (srcsC st.src), .int op, vv, .int kind, .int num, .int scale, .str text, .str qual, .list g6 (srtsC st.order), .list g7 (asnsC st.sets)]] (some 1)) := by rw [← hH]; simp
  have ht : H.take S.length = S := by rw [← hH]; simp
  clear hH
  have l3 : loadR false 1 H (.ptr S.length 0 3) = .ok true (.list f1 (pcolsC st.cols)) H := by simp [p2]
  have m3 : loadR false 1 H (.ptr (S.length + 1) 0 3) = .ok true (.list g1 (pcolsC st.cols)) H := by simp [p3]
  have l4 : loadR false 1 H (.ptr S.length 0 4) = .ok true (.list f2 (namesC st.names)) H := by simp [p2]
  have m4 : loadR false 1 H (.ptr (S.length + 1) 0 4) = .ok true (.list g2 (namesC st.names)) H := by simp [p3]
  have l6 : loadR false 1 H (.ptr S.length 0 6) = .ok true (.list f3 (rwsC st.rows)) H := by simp [p2]
  have m6 : loadR false 1 H (.ptr (S.length + 1) 0 6) = .ok true (.list g3 (rwsC st.rows)) H := by simp [p3]
  have l7 : loadR false 1 H (.ptr S.length 0 7) = .ok true (.list f4 (itmsC st.items)) H := by simp [p2]
  have m7 : loadR false 1 H (.ptr (S.length + 1) 0 7) = .ok true (.list g4 (itmsC st.items)) H := by simp [p3]
  have l8 : loadR false 1 H (.ptr S.length 0 8) = .ok true (.list f5 (srcsC st.src)) H := by simp [p2]
  have m8 : loadR false 1 H (.ptr (S.length + 1) 0 8) = .ok true (.list g5 (srcsC st.src)) H := by simp [p3]
  rw [mwp_seq, mwp_seq]
  simp [-appendR, -mwp_seq, -mwp_block, p2, p3]
  refine (h17 _).use ?_
  rintro e S1 ⟨rfl, rfl⟩
  simp [-appendR, -mwp_seq, -mwp_block]
  rw [mwp_seq, mwp_seq]
  simp [-appendR, -mwp_seq, -mwp_block]
  refine mwp_mono _ _ (fun _ _ _ _ _ hr h => h.mono hr) ?_ (lp11a (w0 := w0) (p2 := S.length) (p3 := S.length + 1) hb.cols l3 m3 (by simp) (by simp) (by simp))
  intro e a S' h
  cases e <;> first | exact h.elim | skip
  obtain ⟨rfl, b2, b3⟩ := setNext h
  clear h
  simp only [afterX_normal]
  rw [mwp_seq, mwp_seq]
  simp [-appendR, -mwp_seq, -mwp_block]
  refine mwp_mono _ _ (fun _ _ _ _ _ hr h => h.mono hr) ?_ (lp11b (w0 := w0) (p2 := S.length) (p3 := S.length + 1) hb.names l4 m4 (by simp [b2]) (by simp [b3]) (by simp))
  intro e a S' h
  cases e <;> first | exact h.elim | skip
  obtain ⟨rfl, b2, b3⟩ := setNext h
  clear h
  simp only [afterX_normal]
  rw [mwp_seq, mwp_seq]
  simp [-appendR, -mwp_seq, -mwp_block]
  refine mwp_mono _ _ (fun _ _ _ _ _ hr h => h.mono hr) ?_ (lp11c (w0 := w0) (p2 := S.length) (p3 := S.length + 1) hb.rows l6 m6 (by simp [b2]) (by simp [b3]) (by simp))
  intro e a S' h
  cases e <;> first | exact h.elim | skip
  obtain ⟨rfl, b2, b3⟩ := setNext h
  clear h
  simp only [afterX_normal]
  rw [mwp_seq, mwp_seq]
  simp [-appendR, -mwp_seq, -mwp_block]
  refine mwp_mono _ _ (fun _ _ _ _ _ hr h => h.mono hr) ?_ (lp11d (w0 := w0) (p2 := S.length) (p3 := S.length + 1) hb.items l7 m7 (by simp [b2]) (by simp [b3]) (by simp))
  intro e a S' h
  cases e <;> first | exact h.elim | skip
  obtain ⟨rfl, b2, b3⟩ := setNext h
  clear h
  simp only [afterX_normal]
  rw [mwp_seq, mwp_seq]
  simp [-appendR, -mwp_seq, -mwp_block]
  refine mwp_mono _ _ (fun _ _ _ _ _ hr h => h.mono hr) ?_ (lp11e (w0 := w0) (p2 := S.length) (p3 := S.length + 1) hb.src l8 m8 (by simp [b2]) (by simp [b3]) (by simp))
  intro e a S' h
  cases e <;> first | exact h.elim | skip
  obtain ⟨rfl, b2, b3⟩ := setNext h
  clear h
  simp only [afterX_normal]
  rw [mwp_seq]
  simp [-appendR, -mwp_seq, b2, b3, p2, p3]
  refine (h26 _).use ?_
  rintro e S2 ⟨rfl, rfl⟩
  simp [ht]
end Go.Abs
set_option linter.unusedSimpArgs false
set_option linter.unusedVariables false
namespace Go.Abs
open Go Go.RowKit Go.Proofs Go.Lx Go.Pz
variable {w0 : World}

theorem wrapM (i : Nat) (h : i < 9223372036854775807) : IntKind.i64.wrap ((i : Int) + 1) = ((i + 1 : Nat) : Int) := by rw [wrap64_in (by omega) (by omega)]; simp
theorem FC.zero : FC {} z18 := ⟨.nilS, .nilS, .nilS, .nilS, .nilS, .nilS, .nilS, by rw [exC_zero]; rfl, ⟨.nil, rfl⟩, ⟨.nil, rfl⟩, ⟨.nil, rfl⟩, ⟨.nil, rfl⟩, ⟨.nil, rfl⟩, ⟨.nil, rfl⟩, ⟨.nil, rfl⟩⟩
theorem FC.len {st c} (h : FC st c) : c.length = 18 ∧ c.all AVal.one = true := by
  obtain ⟨vC, vN, vR, vI, vF, vO, vS, rfl, ⟨f1, rfl⟩, ⟨f2, rfl⟩, ⟨f3, rfl⟩, ⟨f4, rfl⟩, ⟨f5, rfl⟩, ⟨f6, rfl⟩, ⟨f7, rfl⟩⟩ := h
  exact ⟨by simp, by simp⟩
/-- What Parse answers, as a statement and a number. -/
def stOf : Except Int Stm → Stm
  | .ok st => st
  | .error _ => {}
def cdOf : Except Int Stm → Int
  | .ok _ => 0
  | .error n => n
theorem PaR.two {S : Heap} {x : Bs} {e : AEnd} {S' : Heap} (h : PaR S x e S') : S' = S ∧ ∃ c, e = .ret (.tuple [.agg c, .int (cdOf (Pz.parse resv x))]) ∧ FC (stOf (Pz.parse resv x)) c ∧ StB 4000 (stOf (Pz.parse resv x)) := by
  obtain ⟨rfl, h⟩ := h
  refine ⟨rfl, ?_⟩
  cases hp : Pz.parse resv x with
  | error n =>
    rw [hp] at h
    exact ⟨z18, h, FC.zero, StB.zero _⟩
  | ok st =>
    rw [hp] at h
    obtain ⟨c, h1, h2⟩ := h
    exact ⟨c, h1, h2, parse_b hp⟩

end Go.Abs
