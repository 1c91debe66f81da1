/- Walks of the seat's functions, and their plain laws. Conditions: none but the lengths and the tables; definitions and lemmas. -/
import Derived.Test.YtdnpmnnidjeifaaGreatDoorMC
import Derived.Test.YtdnpmnnidjeifaaGreatDoorMA
set_option linter.unusedSimpArgs false
set_option linter.unusedVariables false
namespace Go.Abs
open Go Go.RowKit Go.Proofs Go.Lx Go.Pz
variable {w0 : World}
theorem all_take {α : Type} {p : α → Bool} {l : List α} {i : Nat} (h : i < l.length) : (l.take (i + 1)).all p = ((l.take i).all p && p l[i]) := by
 rw [List.take_add_one,List.getElem?_eq_getElem h,List.all_append]; simp only [Option.toList_some,List.all_cons,List.all_nil,Bool.and_true]
theorem all_false {α : Type} {p : α → Bool} {l : List α} {x : α} (hx : x ∈ l) (h : p x = false) : l.all p = false := by
 rw [List.all_eq_false]; exact ⟨x,hx,by simp [h]⟩
def Ev17 {α : Type} (S : Heap) (l : List α) (p : α → Bool) (v : AVal) (fo : FuncId) (n : Nat) (a : Tmps) (S' : Heap) : Prop :=
 ∃ (i : Nat) (g : Heap),n = l.length - i ∧ i ≤ l.length ∧ S' = S ++ g ∧ get a 1 = .clo (.func fo) [] [] ∧ get a 7 = v ∧ get a 8 = .int l.length ∧ get a 9 = .int i ∧ (l.take i).all p = true
set_option maxHeartbeats 1000000 in
theorem w17 {α : Type} {l : List α} {es : List (List AVal)} {v : AVal} {S : Heap} {p : α → Bool} {fo : FuncId} (hv : Rk 7 S v es) (hl : es.length = l.length) (hk : ∀ i,i < l.length → (es.getD i []).length = 7) (h1' : ∀ i,i < l.length → ∀ x ∈ es.getD i [],x.one = true)
  (hsm : l.length < 4000000000000000000) (hp : ∀ i (h : i < l.length) g,ACalls Tryz.prog (B0 w0) fo [(.agg (es.getD i []))] (S ++ g) fun e S' => e = .ret (.bool (p l[i])) ∧ S' = S ++ g) :
  ACalls Tryz.prog (B0 w0) 17 [v,.clo (.func fo) [] []] S fun e S' => e = .ret (.bool (l.all p)) ∧ S' = S := by
 refine ACalls.close (R := fun e S' => e = .ret (.bool (l.all p)) ∧ S'.take S.length = S) ?_ ?_
 rotate_left 1
 ·rintro e S' ⟨rfl,ht⟩
  exact .flat ht rfl ⟨rfl,rfl⟩
 refine fn_sound tryOrd (f17_c _) (by simp [f17]) ?_
 have hlen := hv.lenR
 simp [f17,f17m,hlen,hl]
 refine mwp_loop (I := Ev17 S l p v fo) (n := l.length) ⟨0,[],rfl,Nat.zero_le _,by simp,by simp,by simp,by simp,by simp,by simp⟩ ?_
 rintro n a S' ⟨i,g,rfl,hi,rfl,a1,a7,a8,a9,hall⟩
 by_cases hlt : i < l.length
 ·obtain ⟨q,q1,q2,_⟩ := (hv.more g).elem (i := i) (by omega) (hk i hlt)
  have hki := hk i hlt
  have h1i := h1' i hlt
  have hc := hp i hlt
  have htk := all_take (p := p) hlt
  have hmem := List.getElem_mem hlt
  generalize es.getD i [] = ev at *
  generalize l[i] = y at *
  have hltI : (i : Int) < (l.length : Int) := by omega
  have hw := wrapS i (by omega)
  have r2 := q2 true 7 (Nat.le_refl _)
  have htk2 : takeAt true 7 ev 0 = .agg ev := by simp [takeAt,List.take_of_length_le,hki]
  rw [htk2] at r2
  simp [f17b0,a1,a7,a8,a9,hltI,q1,r2,hki]
  have hc1 := hc (g ++ [.cells 7 [ev] (some 1)])
  refine ⟨h1i,?_⟩
  refine hc1.use ?_
  rintro e S1 ⟨rfl,rfl⟩
  cases hy : p y with
  | true =>
    simp [a1,a7,a8,a9,hw]
    refine ⟨l.length - (i + 1),by omega,i + 1,g ++ [.cells 7 [ev] (some 1)],rfl,by omega,by simp,by simp [a1],by simp [a7],by simp [a8],by simp,?_⟩
    rw [htk,hall,hy]; rfl
  | false =>
    simp [all_false hmem hy]
 ·have hie : i = l.length := by omega
  subst hie
  rw [List.take_length] at hall
  simp [f17b0,a1,a7,a8,a9,hall]
def Ev49 {α : Type} (S : Heap) (l : List α) (p : α → Bool) (v : AVal) (fo : FuncId) (n : Nat) (a : Tmps) (S' : Heap) : Prop :=
 ∃ (i : Nat) (g : Heap),n = l.length - i ∧ i ≤ l.length ∧ S' = S ++ g ∧ get a 1 = .clo (.func fo) [] [] ∧ get a 7 = v ∧ get a 8 = .int l.length ∧ get a 9 = .int i ∧ (l.take i).all p = true
set_option maxHeartbeats 1000000 in
theorem w49 {α : Type} {l : List α} {es : List (List AVal)} {v : AVal} {S : Heap} {p : α → Bool} {fo : FuncId} (hv : Rk 8 S v es) (hl : es.length = l.length) (hk : ∀ i,i < l.length → (es.getD i []).length = 8) (h1' : ∀ i,i < l.length → ∀ x ∈ es.getD i [],x.one = true)
  (hsm : l.length < 4000000000000000000) (hp : ∀ i (h : i < l.length) g,ACalls Tryz.prog (B0 w0) fo [(.agg (es.getD i []))] (S ++ g) fun e S' => e = .ret (.bool (p l[i])) ∧ S' = S ++ g) :
  ACalls Tryz.prog (B0 w0) 49 [v,.clo (.func fo) [] []] S fun e S' => e = .ret (.bool (l.all p)) ∧ S' = S := by
 refine ACalls.close (R := fun e S' => e = .ret (.bool (l.all p)) ∧ S'.take S.length = S) ?_ ?_
 rotate_left 1
 ·rintro e S' ⟨rfl,ht⟩
  exact .flat ht rfl ⟨rfl,rfl⟩
 refine fn_sound tryOrd (f49_c _) (by simp [f49]) ?_
 have hlen := hv.lenR
 simp [f49,f49m,hlen,hl]
 refine mwp_loop (I := Ev49 S l p v fo) (n := l.length) ⟨0,[],rfl,Nat.zero_le _,by simp,by simp,by simp,by simp,by simp,by simp⟩ ?_
 rintro n a S' ⟨i,g,rfl,hi,rfl,a1,a7,a8,a9,hall⟩
 by_cases hlt : i < l.length
 ·obtain ⟨q,q1,q2,_⟩ := (hv.more g).elem (i := i) (by omega) (hk i hlt)
  have hki := hk i hlt
  have h1i := h1' i hlt
  have hc := hp i hlt
  have htk := all_take (p := p) hlt
  have hmem := List.getElem_mem hlt
  generalize es.getD i [] = ev at *
  generalize l[i] = y at *
  have hltI : (i : Int) < (l.length : Int) := by omega
  have hw := wrapS i (by omega)
  have r2 := q2 true 8 (Nat.le_refl _)
  have htk2 : takeAt true 8 ev 0 = .agg ev := by simp [takeAt,List.take_of_length_le,hki]
  rw [htk2] at r2
  simp [f49b0,a1,a7,a8,a9,hltI,q1,r2,hki]
  have hc1 := hc (g ++ [.cells 8 [ev] (some 1)])
  refine ⟨h1i,?_⟩
  refine hc1.use ?_
  rintro e S1 ⟨rfl,rfl⟩
  cases hy : p y with
  | true =>
    simp [a1,a7,a8,a9,hw]
    refine ⟨l.length - (i + 1),by omega,i + 1,g ++ [.cells 8 [ev] (some 1)],rfl,by omega,by simp,by simp [a1],by simp [a7],by simp [a8],by simp,?_⟩
    rw [htk,hall,hy]; rfl
  | false =>
    simp [all_false hmem hy]
 ·have hie : i = l.length := by omega
  subst hie
  rw [List.take_length] at hall
  simp [f49b0,a1,a7,a8,a9,hall]
def Ev53 {α : Type} (S : Heap) (l : List α) (p : α → Bool) (v : AVal) (fo : FuncId) (n : Nat) (a : Tmps) (S' : Heap) : Prop :=
 ∃ (i : Nat) (g : Heap),n = l.length - i ∧ i ≤ l.length ∧ S' = S ++ g ∧ get a 1 = .clo (.func fo) [] [] ∧ get a 7 = v ∧ get a 8 = .int l.length ∧ get a 9 = .int i ∧ (l.take i).all p = true
set_option maxHeartbeats 1000000 in
theorem w53 {α : Type} {l : List α} {es : List (List AVal)} {v : AVal} {S : Heap} {p : α → Bool} {fo : FuncId} (hv : Rk 8 S v es) (hl : es.length = l.length) (hk : ∀ i,i < l.length → (es.getD i []).length = 8) (h1' : ∀ i,i < l.length → ∀ x ∈ es.getD i [],x.one = true)
  (hsm : l.length < 4000000000000000000) (hp : ∀ i (h : i < l.length) g,ACalls Tryz.prog (B0 w0) fo [(.agg (es.getD i []))] (S ++ g) fun e S' => e = .ret (.bool (p l[i])) ∧ S' = S ++ g) :
  ACalls Tryz.prog (B0 w0) 53 [v,.clo (.func fo) [] []] S fun e S' => e = .ret (.bool (l.all p)) ∧ S' = S := by
 refine ACalls.close (R := fun e S' => e = .ret (.bool (l.all p)) ∧ S'.take S.length = S) ?_ ?_
 rotate_left 1
 ·rintro e S' ⟨rfl,ht⟩
  exact .flat ht rfl ⟨rfl,rfl⟩
 refine fn_sound tryOrd (f53_c _) (by simp [f53]) ?_
 have hlen := hv.lenR
 simp [f53,f53m,hlen,hl]
 refine mwp_loop (I := Ev53 S l p v fo) (n := l.length) ⟨0,[],rfl,Nat.zero_le _,by simp,by simp,by simp,by simp,by simp,by simp⟩ ?_
 rintro n a S' ⟨i,g,rfl,hi,rfl,a1,a7,a8,a9,hall⟩
 by_cases hlt : i < l.length
 ·obtain ⟨q,q1,q2,_⟩ := (hv.more g).elem (i := i) (by omega) (hk i hlt)
  have hki := hk i hlt
  have h1i := h1' i hlt
  have hc := hp i hlt
  have htk := all_take (p := p) hlt
  have hmem := List.getElem_mem hlt
  generalize es.getD i [] = ev at *
  generalize l[i] = y at *
  have hltI : (i : Int) < (l.length : Int) := by omega
  have hw := wrapS i (by omega)
  have r2 := q2 true 8 (Nat.le_refl _)
  have htk2 : takeAt true 8 ev 0 = .agg ev := by simp [takeAt,List.take_of_length_le,hki]
  rw [htk2] at r2
  simp [f53b0,a1,a7,a8,a9,hltI,q1,r2,hki]
  have hc1 := hc (g ++ [.cells 8 [ev] (some 1)])
  refine ⟨h1i,?_⟩
  refine hc1.use ?_
  rintro e S1 ⟨rfl,rfl⟩
  cases hy : p y with
  | true =>
    simp [a1,a7,a8,a9,hw]
    refine ⟨l.length - (i + 1),by omega,i + 1,g ++ [.cells 8 [ev] (some 1)],rfl,by omega,by simp,by simp [a1],by simp [a7],by simp [a8],by simp,?_⟩
    rw [htk,hall,hy]; rfl
  | false =>
    simp [all_false hmem hy]
 ·have hie : i = l.length := by omega
  subst hie
  rw [List.take_length] at hall
  simp [f53b0,a1,a7,a8,a9,hall]
def Ev55 {α : Type} (S : Heap) (l : List α) (p : α → Bool) (v : AVal) (fo : FuncId) (n : Nat) (a : Tmps) (S' : Heap) : Prop :=
 ∃ (i : Nat) (g : Heap),n = l.length - i ∧ i ≤ l.length ∧ S' = S ++ g ∧ get a 1 = .clo (.func fo) [] [] ∧ get a 7 = v ∧ get a 8 = .int l.length ∧ get a 9 = .int i ∧ (l.take i).all p = true
set_option maxHeartbeats 1000000 in
theorem w55 {α : Type} {l : List α} {es : List (List AVal)} {v : AVal} {S : Heap} {p : α → Bool} {fo : FuncId} (hv : Rk 8 S v es) (hl : es.length = l.length) (hk : ∀ i,i < l.length → (es.getD i []).length = 8) (h1' : ∀ i,i < l.length → ∀ x ∈ es.getD i [],x.one = true)
  (hsm : l.length < 4000000000000000000) (hp : ∀ i (h : i < l.length) g,ACalls Tryz.prog (B0 w0) fo [(.agg (es.getD i []))] (S ++ g) fun e S' => e = .ret (.bool (p l[i])) ∧ S' = S ++ g) :
  ACalls Tryz.prog (B0 w0) 55 [v,.clo (.func fo) [] []] S fun e S' => e = .ret (.bool (l.all p)) ∧ S' = S := by
 refine ACalls.close (R := fun e S' => e = .ret (.bool (l.all p)) ∧ S'.take S.length = S) ?_ ?_
 rotate_left 1
 ·rintro e S' ⟨rfl,ht⟩
  exact .flat ht rfl ⟨rfl,rfl⟩
 refine fn_sound tryOrd (f55_c _) (by simp [f55]) ?_
 have hlen := hv.lenR
 simp [f55,f55m,hlen,hl]
 refine mwp_loop (I := Ev55 S l p v fo) (n := l.length) ⟨0,[],rfl,Nat.zero_le _,by simp,by simp,by simp,by simp,by simp,by simp⟩ ?_
 rintro n a S' ⟨i,g,rfl,hi,rfl,a1,a7,a8,a9,hall⟩
 by_cases hlt : i < l.length
 ·obtain ⟨q,q1,q2,_⟩ := (hv.more g).elem (i := i) (by omega) (hk i hlt)
  have hki := hk i hlt
  have h1i := h1' i hlt
  have hc := hp i hlt
  have htk := all_take (p := p) hlt
  have hmem := List.getElem_mem hlt
  generalize es.getD i [] = ev at *
  generalize l[i] = y at *
  have hltI : (i : Int) < (l.length : Int) := by omega
  have hw := wrapS i (by omega)
  have r2 := q2 true 8 (Nat.le_refl _)
  have htk2 : takeAt true 8 ev 0 = .agg ev := by simp [takeAt,List.take_of_length_le,hki]
  rw [htk2] at r2
  simp [f55b0,a1,a7,a8,a9,hltI,q1,r2,hki]
  have hc1 := hc (g ++ [.cells 8 [ev] (some 1)])
  refine ⟨h1i,?_⟩
  refine hc1.use ?_
  rintro e S1 ⟨rfl,rfl⟩
  cases hy : p y with
  | true =>
    simp [a1,a7,a8,a9,hw]
    refine ⟨l.length - (i + 1),by omega,i + 1,g ++ [.cells 8 [ev] (some 1)],rfl,by omega,by simp,by simp [a1],by simp [a7],by simp [a8],by simp,?_⟩
    rw [htk,hall,hy]; rfl
  | false =>
    simp [all_false hmem hy]
 ·have hie : i = l.length := by omega
  subst hie
  rw [List.take_length] at hall
  simp [f55b0,a1,a7,a8,a9,hall]
def Ev59 {α : Type} (S : Heap) (l : List α) (p : α → Bool) (v : AVal) (fo : FuncId) (n : Nat) (a : Tmps) (S' : Heap) : Prop :=
 ∃ (i : Nat) (g : Heap),n = l.length - i ∧ i ≤ l.length ∧ S' = S ++ g ∧ get a 1 = .clo (.func fo) [] [] ∧ get a 7 = v ∧ get a 8 = .int l.length ∧ get a 9 = .int i ∧ (l.take i).all p = true
set_option maxHeartbeats 1000000 in
theorem w59 {α : Type} {l : List α} {es : List (List AVal)} {v : AVal} {S : Heap} {p : α → Bool} {fo : FuncId} (hv : Rk 3 S v es) (hl : es.length = l.length) (hk : ∀ i,i < l.length → (es.getD i []).length = 3) (h1' : ∀ i,i < l.length → ∀ x ∈ es.getD i [],x.one = true)
  (hsm : l.length < 4000000000000000000) (hp : ∀ i (h : i < l.length) g,ACalls Tryz.prog (B0 w0) fo [(.agg (es.getD i []))] (S ++ g) fun e S' => e = .ret (.bool (p l[i])) ∧ S' = S ++ g) :
  ACalls Tryz.prog (B0 w0) 59 [v,.clo (.func fo) [] []] S fun e S' => e = .ret (.bool (l.all p)) ∧ S' = S := by
 refine ACalls.close (R := fun e S' => e = .ret (.bool (l.all p)) ∧ S'.take S.length = S) ?_ ?_
 rotate_left 1
 ·rintro e S' ⟨rfl,ht⟩
  exact .flat ht rfl ⟨rfl,rfl⟩
 refine fn_sound tryOrd (f59_c _) (by simp [f59]) ?_
 have hlen := hv.lenR
 simp [f59,f59m,hlen,hl]
 refine mwp_loop (I := Ev59 S l p v fo) (n := l.length) ⟨0,[],rfl,Nat.zero_le _,by simp,by simp,by simp,by simp,by simp,by simp⟩ ?_
 rintro n a S' ⟨i,g,rfl,hi,rfl,a1,a7,a8,a9,hall⟩
 by_cases hlt : i < l.length
 ·obtain ⟨q,q1,q2,_⟩ := (hv.more g).elem (i := i) (by omega) (hk i hlt)
  have hki := hk i hlt
  have h1i := h1' i hlt
  have hc := hp i hlt
  have htk := all_take (p := p) hlt
  have hmem := List.getElem_mem hlt
  generalize es.getD i [] = ev at *
  generalize l[i] = y at *
  have hltI : (i : Int) < (l.length : Int) := by omega
  have hw := wrapS i (by omega)
  have r2 := q2 true 3 (Nat.le_refl _)
  have htk2 : takeAt true 3 ev 0 = .agg ev := by simp [takeAt,List.take_of_length_le,hki]
  rw [htk2] at r2
  simp [f59b0,a1,a7,a8,a9,hltI,q1,r2,hki]
  have hc1 := hc (g ++ [.cells 3 [ev] (some 1)])
  refine ⟨h1i,?_⟩
  refine hc1.use ?_
  rintro e S1 ⟨rfl,rfl⟩
  cases hy : p y with
  | true =>
    simp [a1,a7,a8,a9,hw]
    refine ⟨l.length - (i + 1),by omega,i + 1,g ++ [.cells 3 [ev] (some 1)],rfl,by omega,by simp,by simp [a1],by simp [a7],by simp [a8],by simp,?_⟩
    rw [htk,hall,hy]; rfl
  | false =>
    simp [all_false hmem hy]
 ·have hie : i = l.length := by omega
  subst hie
  rw [List.take_length] at hall
  simp [f59b0,a1,a7,a8,a9,hall]
def Ev61 {α : Type} (S : Heap) (l : List α) (p : α → Bool) (v : AVal) (fo : FuncId) (n : Nat) (a : Tmps) (S' : Heap) : Prop :=
 ∃ (i : Nat) (g : Heap),n = l.length - i ∧ i ≤ l.length ∧ S' = S ++ g ∧ get a 1 = .clo (.func fo) [] [] ∧ get a 7 = v ∧ get a 8 = .int l.length ∧ get a 9 = .int i ∧ (l.take i).all p = true
set_option maxHeartbeats 1000000 in
theorem w61 {α : Type} {l : List α} {es : List (List AVal)} {v : AVal} {S : Heap} {p : α → Bool} {fo : FuncId} (hv : Rk 1 S v es) (hl : es.length = l.length) (hk : ∀ i,i < l.length → (es.getD i []).length = 1)
  (hsm : l.length < 4000000000000000000) (hp : ∀ i (h : i < l.length) g,ACalls Tryz.prog (B0 w0) fo [((es.getD i []).getD 0 .top)] (S ++ g) fun e S' => e = .ret (.bool (p l[i])) ∧ S' = S ++ g) :
  ACalls Tryz.prog (B0 w0) 61 [v,.clo (.func fo) [] []] S fun e S' => e = .ret (.bool (l.all p)) ∧ S' = S := by
 refine ACalls.close (R := fun e S' => e = .ret (.bool (l.all p)) ∧ S'.take S.length = S) ?_ ?_
 rotate_left 1
 ·rintro e S' ⟨rfl,ht⟩
  exact .flat ht rfl ⟨rfl,rfl⟩
 refine fn_sound tryOrd (f61_c _) (by simp [f61]) ?_
 have hlen := hv.lenR
 simp [f61,f61m,hlen,hl]
 refine mwp_loop (I := Ev61 S l p v fo) (n := l.length) ⟨0,[],rfl,Nat.zero_le _,by simp,by simp,by simp,by simp,by simp,by simp⟩ ?_
 rintro n a S' ⟨i,g,rfl,hi,rfl,a1,a7,a8,a9,hall⟩
 by_cases hlt : i < l.length
 ·obtain ⟨q,q1,q2,_⟩ := (hv.more g).elem (i := i) (by omega) (hk i hlt)
  have hki := hk i hlt
  have hc := hp i hlt
  have htk := all_take (p := p) hlt
  have hmem := List.getElem_mem hlt
  generalize es.getD i [] = ev at *
  generalize l[i] = y at *
  have hltI : (i : Int) < (l.length : Int) := by omega
  have hw := wrapS i (by omega)
  have r2 := q2 false 1 (Nat.le_refl _)
  obtain ⟨z,rfl⟩ : ∃ z,ev = [z] := List.length_eq_one_iff.1 hki
  have htk2 : takeAt false 1 [z] 0 = z := rfl
  rw [htk2] at r2
  simp [f61b0,a1,a7,a8,a9,hltI,q1,r2]
  have hc1 := hc g
  simp only [List.getD_cons_zero] at hc1
  refine hc1.use ?_
  rintro e S1 ⟨rfl,rfl⟩
  cases hy : p y with
  | true =>
    simp [a1,a7,a8,a9,hw]
    refine ⟨l.length - (i + 1),by omega,i + 1,g,rfl,by omega,by simp,by simp [a1],by simp [a7],by simp [a8],by simp,?_⟩
    rw [htk,hall,hy]; rfl
  | false =>
    simp [all_false hmem hy]
 ·have hie : i = l.length := by omega
  subst hie
  rw [List.take_length] at hall
  simp [f61b0,a1,a7,a8,a9,hall]
def Ev62 {α : Type} (S : Heap) (l : List α) (p : α → Bool) (v : AVal) (fo : FuncId) (n : Nat) (a : Tmps) (S' : Heap) : Prop :=
 ∃ (i : Nat) (g : Heap),n = l.length - i ∧ i ≤ l.length ∧ S' = S ++ g ∧ get a 1 = .clo (.func fo) [] [] ∧ get a 7 = v ∧ get a 8 = .int l.length ∧ get a 9 = .int i ∧ (l.take i).all p = true
set_option maxHeartbeats 1000000 in
theorem w62 {α : Type} {l : List α} {es : List (List AVal)} {v : AVal} {S : Heap} {p : α → Bool} {fo : FuncId} (hv : Rk 1 S v es) (hl : es.length = l.length) (hk : ∀ i,i < l.length → (es.getD i []).length = 1)
  (hsm : l.length < 4000000000000000000) (hp : ∀ i (h : i < l.length) g,ACalls Tryz.prog (B0 w0) fo [((es.getD i []).getD 0 .top)] (S ++ g) fun e S' => e = .ret (.bool (p l[i])) ∧ S' = S ++ g) :
  ACalls Tryz.prog (B0 w0) 62 [v,.clo (.func fo) [] []] S fun e S' => e = .ret (.bool (l.all p)) ∧ S' = S := by
 refine ACalls.close (R := fun e S' => e = .ret (.bool (l.all p)) ∧ S'.take S.length = S) ?_ ?_
 rotate_left 1
 ·rintro e S' ⟨rfl,ht⟩
  exact .flat ht rfl ⟨rfl,rfl⟩
 refine fn_sound tryOrd (f62_c _) (by simp [f62]) ?_
 have hlen := hv.lenR
 simp [f62,f62m,hlen,hl]
 refine mwp_loop (I := Ev62 S l p v fo) (n := l.length) ⟨0,[],rfl,Nat.zero_le _,by simp,by simp,by simp,by simp,by simp,by simp⟩ ?_
 rintro n a S' ⟨i,g,rfl,hi,rfl,a1,a7,a8,a9,hall⟩
 by_cases hlt : i < l.length
 ·obtain ⟨q,q1,q2,_⟩ := (hv.more g).elem (i := i) (by omega) (hk i hlt)
  have hki := hk i hlt
  have hc := hp i hlt
  have htk := all_take (p := p) hlt
  have hmem := List.getElem_mem hlt
  generalize es.getD i [] = ev at *
  generalize l[i] = y at *
  have hltI : (i : Int) < (l.length : Int) := by omega
  have hw := wrapS i (by omega)
  have r2 := q2 false 1 (Nat.le_refl _)
  obtain ⟨z,rfl⟩ : ∃ z,ev = [z] := List.length_eq_one_iff.1 hki
  have htk2 : takeAt false 1 [z] 0 = z := rfl
  rw [htk2] at r2
  simp [f62b0,a1,a7,a8,a9,hltI,q1,r2]
  have hc1 := hc g
  simp only [List.getD_cons_zero] at hc1
  refine hc1.use ?_
  rintro e S1 ⟨rfl,rfl⟩
  cases hy : p y with
  | true =>
    simp [a1,a7,a8,a9,hw]
    refine ⟨l.length - (i + 1),by omega,i + 1,g,rfl,by omega,by simp,by simp [a1],by simp [a7],by simp [a8],by simp,?_⟩
    rw [htk,hall,hy]; rfl
  | false =>
    simp [all_false hmem hy]
 ·have hie : i = l.length := by omega
  subst hie
  rw [List.take_length] at hall
  simp [f62b0,a1,a7,a8,a9,hall]
end Go.Abs
namespace Go.Abs
open Go Go.RowKit Go.Proofs Go.Lx Go.Pz
variable {w0 : World}
mutual
def inrE : Ex → Bool
 | .mk _ args _ num _ _ _ => decide (num ≤ 9223372036854775807) && inrL args
def inrL : List Ex → Bool
 | [] => true
 | x :: r => inrE x && inrL r
end
theorem inrE_mk {op : Int} {args : List Ex} {kind num scale : Int} {text qual : Bs} : inrE (.mk op args kind num scale text qual) = (decide (num ≤ 9223372036854775807) && inrL args) := by rw [inrE]
theorem inrL_iff : ∀ {l : List Ex},inrL l = true ↔ ∀ x ∈ l,inrE x = true
 | [] => by rw [inrL]; simp
 | x :: r => by rw [inrL,Bool.and_eq_true,inrL_iff]; simp
theorem okL_all : ∀ (l : List Ex),okL l = l.all okE
 | [] => by rw [okL_nil]; rfl
 | x :: r => by rw [okL_cons,okL_all r]; rfl
set_option maxHeartbeats 4000000 in
theorem w51 (hT : Tb w0) : ∀ (n : Nat),n < 4000000000000000000 → ∀ (x : Ex),x.w ≤ n → inrE x = true → ∀ (av : List AVal),ExV x av → ∀ (S : Heap),ACalls Tryz.prog (B0 w0) 51 [.agg av] S fun e S' => e = .ret (.bool (okE x)) ∧ S' = S := by
 intro n
 induction n using Nat.strongRecOn with
 | _ n ih =>
   intro hn x hx hin av hav S
   obtain ⟨op,args,kind,num,scale,text,qual⟩ := x
   rw [w_mk] at hx
   rw [inrE_mk,Bool.and_eq_true,decide_eq_true_eq] at hin
   obtain ⟨hnum,hin⟩ := hin
   rw [ExV_mk] at hav
   obtain ⟨fl,es,rfl,hes⟩ := hav
   have hal := wL_len args
   have hel := ExsV_len hes
   refine ACalls.close (R := fun e S' => e = .ret (.bool (okE (.mk op args kind num scale text qual))) ∧ S'.take S.length = S) ?_ ?_
   rotate_left 1
   ·rintro e S' ⟨rfl,ht⟩
    exact .flat ht rfl ⟨rfl,rfl⟩
   rw [okE_mk]
   refine fn_sound tryOrd (f51_c _) (by simp [f51]) ?_
   simp [f51,f51m]
   refine (w100 op _).use ?_
   rintro e S1 ⟨rfl,rfl⟩
   by_cases hl : (args.length : Int) = opnds op
   rotate_left 1
   ·have hb : ((es.length : Int) != opnds op) = true := by simp; omega
    simp [hb,hl]
   have hb : ((es.length : Int) != opnds op) = false := by simp; omega
   by_cases h21 : op = 21
   ·subst h21
    simp [hb,hl]
    refine (w101 hT (.list fl es) rfl _ _ _ _ _ _ hnum _).use ?_
    rintro e S1 ⟨rfl,rfl⟩
    simp [hl]
   have b21 : (op == 21) = false := beq_eq_false_iff_ne.2 h21
   by_cases hk : kind = 0
   rotate_left 1
   ·have hk' : (kind != 0) = true := by simp [hk]
    simp [hb,hl,b21,h21,hk',hk]
   by_cases hnm : num = 0
   rotate_left 1
   ·have hk' : (num != 0) = true := by simp [hnm]
    simp [hb,hl,b21,h21,hk,hk',hnm]
   by_cases hsc : scale = 0
   rotate_left 1
   ·have hk' : (scale != 0) = true := by simp [hsc]
    simp [hb,hl,b21,h21,hk,hk',hnm,hsc]
   by_cases h22 : op = 22
   ·subst h22
    simp [hb,hl,hk,hnm,hsc]
    refine (w57 text _).use ?_
    rintro e S1 ⟨rfl,rfl⟩
    cases htx : nameB text with
    | false => simp [hl,hk,hnm,hsc]
    | true =>
      simp
      refine (w52 qual _).use ?_
      rintro e S1 ⟨rfl,rfl⟩
      simp [aliasB,hl,hk,hnm,hsc]
   have b22 : (op == 22) = false := beq_eq_false_iff_ne.2 h22
   by_cases htx : text = []
   rotate_left 1
   ·simp [hb,hl,b21,h21,b22,h22,hk,hnm,hsc,htx]
   by_cases hqu : qual = []
   rotate_left 1
   ·simp [hb,hl,b21,h21,b22,h22,hk,hnm,hsc,htx,hqu]
   have hev := fun S => w17 (w0 := w0) (l := args) (p := okE) (fo := 51) (S := S) (Rk.list fl es) hel (fun i hi => ExV_len (ExsV_get hes i hi)) (fun i hi => List.all_eq_true.1 (ExV_one (ExsV_get hes i hi))) (by omega) fun i hi g =>
    ih (args[i]).w (by have := w_mem (List.getElem_mem hi); omega) (by have := w_mem (List.getElem_mem hi); omega) args[i] (Nat.le_refl _) (inrL_iff.1 hin _ (List.getElem_mem hi)) _ (ExsV_get hes i hi) _
   simp [hb,hl,b21,h21,b22,h22,hk,hnm,hsc,htx,hqu]
   refine (hev _).use ?_
   rintro e S1 ⟨rfl,rfl⟩
   simp [okL_all,hl,h21,h22,hk,hnm,hsc,htx,hqu]
def zeroB : Ex → Bool
 | .mk op args kind num scale text qual => decide (op = 0) && args.isEmpty && decide (kind = 0) && decide (num = 0) && decide (scale = 0) && decide (text = []) && decide (qual = [])
def perB (x : Ex) : Bool := zeroB x || okE x
set_option maxHeartbeats 2000000 in
theorem w106 {x : Ex} (hx : x.w < 4000000000000000000) {av : List AVal} (hav : ExV x av) (S : Heap) : ACalls Tryz.prog (B0 w0) 106 [.agg av] S fun e S' => e = .ret (.bool (zeroB x)) ∧ S' = S := by
 obtain ⟨op,args,kind,num,scale,text,qual⟩ := x
 rw [ExV_mk] at hav
 obtain ⟨fl,es,rfl,hes⟩ := hav
 have hel := ExsV_len hes
 refine ACalls.close (R := fun e S' => e = .ret (.bool (zeroB (.mk op args kind num scale text qual))) ∧ S'.take S.length = S) ?_ ?_
 rotate_left 1
 ·rintro e S' ⟨rfl,ht⟩
  exact .flat ht rfl ⟨rfl,rfl⟩
 refine fn_sound tryOrd (f106_c _) (by simp [f106]) ?_
 by_cases h1 : op = 0
 rotate_left 1
 ·have h1' : (op == 0) = false := beq_eq_false_iff_ne.2 h1
  simp [f106,f106m,h1,h1',zeroB]
 by_cases h2 : args = []
 rotate_left 1
 ·have h2' : ((es.length : Int) == 0) = false := by
   rw [beq_eq_false_iff_ne]
   have := List.length_pos_iff.2 h2
   omega
  simp [f106,f106m,h1,h2,h2',zeroB]
 have h2' : es = [] := List.eq_nil_of_length_eq_zero (by rw [hel,h2]; rfl)
 by_cases h3 : kind = 0
 rotate_left 1
 ·have h3' : (kind == 0) = false := beq_eq_false_iff_ne.2 h3
  simp [f106,f106m,h1,h2,h2',h3,h3',zeroB]
 by_cases h4 : num = 0
 rotate_left 1
 ·have h4' : (num == 0) = false := beq_eq_false_iff_ne.2 h4
  simp [f106,f106m,h1,h2,h2',h3,h4,h4',zeroB]
 by_cases h5 : scale = 0
 rotate_left 1
 ·have h5' : (scale == 0) = false := beq_eq_false_iff_ne.2 h5
  simp [f106,f106m,h1,h2,h2',h3,h4,h5,h5',zeroB]
 by_cases h6 : text = []
 rotate_left 1
 ·simp [f106,f106m,h1,h2,h2',h3,h4,h5,h6,zeroB]
 simp [f106,f106m,h1,h2,h2',h3,h4,h5,h6,zeroB]
theorem w65 (hT : Tb w0) {x : Ex} (hx : x.w < 4000000000000000000) (hin : inrE x = true) {av : List AVal} (hav : ExV x av) (S : Heap) : ACalls Tryz.prog (B0 w0) 65 [.agg av] S fun e S' => e = .ret (.bool (perB x)) ∧ S' = S := by
 have hl7 := ExV_len hav
 have hone := List.all_eq_true.1 (ExV_one hav)
 have htk2 : takeAt true 7 av 0 = .agg av := by simp [takeAt,List.take_of_length_le,hl7]
 refine ACalls.close (R := fun e S' => e = .ret (.bool (perB x)) ∧ S'.take S.length = S) ?_ ?_
 rotate_left 1
 ·rintro e S' ⟨rfl,ht⟩
  exact .flat ht rfl ⟨rfl,rfl⟩
 refine fn_sound tryOrd (f65_c _) (by simp [f65]) ?_
 simp [f65,f65m,hl7,htk2]
 refine ⟨hone,?_⟩
 refine (w106 hx hav _).use ?_
 rintro e S1 ⟨rfl,rfl⟩
 cases hz : zeroB x with
 | true => simp [perB,hz]
 | false =>
   simp [perB,hz,hl7,htk2]
   refine (w51 hT _ hx x (Nat.le_refl _) hin av hav _).use ?_
   rintro e S1 ⟨rfl,rfl⟩
   simp [perB,hz]
end Go.Abs
namespace Go.Abs
open Go Go.RowKit Go.Proofs Go.Lx Go.Pz
variable {w0 : World}
set_option maxHeartbeats 8000000 in
theorem w37 (hT : Tb w0) : ∀ (n : Nat),n < 1000000000000000 → ∀ (x : Ex),x.w ≤ n → okE x = true → ∀ (av : List AVal),ExV x av → ∀ (S : Heap),ACalls Tryz.prog (B0 w0) 37 [.agg av] S fun e S' => e = .ret (.str (textE x)) ∧ S' = S := by
 intro n
 induction n using Nat.strongRecOn with
 | _ n ih =>
   intro hn x hx ho av hav S
   obtain ⟨op,args,kind,num,scale,text,qual⟩ := x
   rw [w_mk] at hx
   have ho0 := ho
   rw [okE_mk] at ho
   rw [Bool.and_eq_true,decide_eq_true_eq] at ho
   obtain ⟨hl,ho⟩ := ho
   rw [ExV_mk] at hav
   obtain ⟨fl,es,rfl,hes⟩ := hav
   have hel := ExsV_len hes
   refine ACalls.close (R := fun e S' => e = .ret (.str (textE (.mk op args kind num scale text qual))) ∧ S'.take S.length = S) ?_ ?_
   rotate_left 1
   ·rintro e S' ⟨rfl,ht⟩
    exact .flat ht rfl ⟨rfl,rfl⟩
   rw [textE_mk]
   refine fn_sound tryOrd (f37_c _) (by simp [f37]) ?_
   by_cases h21 : op = 21
   ·rw [if_pos h21] at ho
    rw [shapeT_const h21]
    subst h21
    simp [f37,f37m]
    refine (w90 hT (.list fl es) rfl _ _ _ _ _ _ ho _).use ?_
    rintro e S1 ⟨rfl,rfl⟩
    simp
   rw [if_neg h21] at ho
   simp only [Bool.and_eq_true,decide_eq_true_eq] at ho
   obtain ⟨⟨⟨rfl,rfl⟩,rfl⟩,ho⟩ := ho
   have b21 : (op == 21) = false := beq_eq_false_iff_ne.2 h21
   by_cases h22 : op = 22
   ·rw [if_pos h22] at ho
    rw [shapeT_col h22]
    subst h22
    simp only [Bool.and_eq_true,Bool.or_eq_true,decide_eq_true_eq] at ho
    have h1 := nameB_len ho.1
    by_cases hq : qual = []
    ·simp [f37,f37m,hq]
    ·have h2 := nameB_len (ho.2.resolve_left hq)
     simp [f37,f37m,hq]
     omega
   rw [if_neg h22] at ho
   have b22 : (op == 22) = false := beq_eq_false_iff_ne.2 h22
   simp only [Bool.and_eq_true,decide_eq_true_eq] at ho
   obtain ⟨⟨hL,rfl⟩,rfl⟩ := ho
   rcases op_none hl h21 h22 with hn1 | hn1
   ·obtain ⟨y,rfl⟩ : ∃ y,args = [y] := List.length_eq_one_iff.1 hn1
    have hv : ExV y (es.getD 0 []) := ExsV_get hes 0 (by simp)
    have he1 : es.length = 1 := hel
    obtain ⟨ev,rfl⟩ : ∃ ev,es = [ev] := List.length_eq_one_iff.1 he1
    simp only [List.getD_cons_zero] at hv
    have hw : wL [y] = y.w + 1 := by rw [wL_cons,wL_nil]
    have hoy := okL_iff.1 hL y (by simp)
    have hd := ih y.w (by omega) (by omega) y (Nat.le_refl _) hoy _ hv
    have hlen := textE_len y.w y (Nat.le_refl _) hoy
    have hl7 := ExV_len hv
    have htk2 : takeAt true 7 ev 0 = .agg ev := by simp [takeAt,List.take_of_length_le,hl7]
    rw [textsE_cons,textsE_nil,shapeT_one h21 h22]
    have hop := op_one (op := op) (by simpa using hl.symm)
    generalize textE y = ty at *
    rcases hop with rfl | rfl | rfl | rfl | rfl | rfl
    all_goals
     simp [f37,f37m,hl7,htk2]
     refine (hd _).use ?_
     rintro e S1 ⟨rfl,rfl⟩
     simp [aheadT,behindT]
     omega
   ·obtain ⟨y,z,rfl⟩ : ∃ y z,args = [y,z] := length_two hn1
    have hv : ExV y (es.getD 0 []) := ExsV_get hes 0 (by simp)
    have hvz : ExV z (es.getD 1 []) := ExsV_get hes 1 (by simp)
    have he1 : es.length = 2 := hel
    obtain ⟨ev,ez,rfl⟩ : ∃ ev ez,es = [ev,ez] := length_two he1
    simp only [List.getD_cons_zero,List.getD_cons_succ] at hv hvz
    have hw : wL [y,z] = y.w + z.w + 2 := by rw [wL_cons,wL_cons,wL_nil]; omega
    have hoy := okL_iff.1 hL y (by simp)
    have hoz := okL_iff.1 hL z (by simp)
    have hd := ih y.w (by omega) (by omega) y (Nat.le_refl _) hoy _ hv
    have hdz := ih z.w (by omega) (by omega) z (Nat.le_refl _) hoz _ hvz
    have hlen := textE_len y.w y (Nat.le_refl _) hoy
    have hlenz := textE_len z.w z (Nat.le_refl _) hoz
    have hl7 := ExV_len hv
    have hl7z := ExV_len hvz
    have htk2 : takeAt true 7 ev 0 = .agg ev := by simp [takeAt,List.take_of_length_le,hl7]
    have htk3 : takeAt true 7 ez 0 = .agg ez := by simp [takeAt,List.take_of_length_le,hl7z]
    rw [textsE_cons,textsE_cons,textsE_nil,shapeT_two h21 h22]
    have h91 := fun S => w91 (w0 := w0) (op := op) (by simpa using hl.symm) S
    have hop := op_two (op := op) (by simpa using hl.symm)
    generalize textE y = ty at *
    generalize textE z = tz at *
    rcases hop with rfl | rfl | rfl | rfl | rfl | rfl | rfl | rfl | rfl | rfl | rfl | rfl | rfl | rfl
    all_goals
     simp [f37,f37m,hl7,hl7z,htk2,htk3]
     refine (hd _).use ?_
     rintro e S1 ⟨rfl,rfl⟩
     simp [hl7z]
     refine ⟨by omega,by omega,?_⟩
     refine (h91 _).use ?_
     rintro e S1 ⟨rfl,rfl⟩
     simp [signT,hl7z,htk3]
     refine ⟨by omega,by omega,by omega,?_⟩
     refine (hdz _).use ?_
     rintro e S1 ⟨rfl,rfl⟩
     simp [signT]
     omega
end Go.Abs
namespace Go.Abs
open Go Go.RowKit Go.Proofs Go.Lx Go.Pz
variable {w0 : World}
theorem strs_snoc (a : List Bs) (b : Bs) : strs (a ++ [b]) = strs a ++ [[.str b]] := by simp [strs]
theorem map_take {α β : Type} {t : α → β} {l : List α} {i : Nat} (h : i < l.length) : (l.take (i + 1)).map t = (l.take i).map t ++ [t l[i]] := by
 rw [List.take_add_one,List.getElem?_eq_getElem h,List.map_append]; rfl
theorem Own.take {N : Nat} {S0 S : Heap} {L} (h : Own N S0 S L) (hN : N = S0.length) : S.take S0.length = S0 := by
 subst hN
 refine List.ext_getElem? fun j => ?_
 rcases Nat.lt_or_ge j S0.length with hj | hj
 ·rw [List.getElem?_take_of_lt hj]; exact h.low j hj
 ·rw [List.getElem?_eq_none (by simp; omega),List.getElem?_eq_none hj]
def Li31 {α : Type} (S : Heap) (l : List α) (t : α → Bs) (v : AVal) (fo : FuncId) (n : Nat) (a : Tmps) (S' : Heap) : Prop :=
 ∃ (i : Nat) (u : AVal),n = l.length - i ∧ i ≤ l.length ∧ get a 1 = .clo (.func fo) [] [] ∧ get a 5 = u ∧ get a 8 = v ∧ get a 9 = .int l.length ∧ get a 10 = .int i ∧ Own S.length S S' [(u,1,strs ((l.take i).map t))]
set_option maxHeartbeats 1000000 in
theorem w31 {α : Type} {l : List α} {es : List (List AVal)} {fl : Fl} {t : α → Bs} {fo : FuncId} (hl : es.length = l.length) (hk : ∀ i,i < l.length → (es.getD i []).length = 3) (h1' : ∀ i,i < l.length → ∀ x ∈ es.getD i [],x.one = true)
  (hsm : l.length < 1000000000) (hj : (Lib.join (l.map t) [44,32]).length ≤ 140737488355328) (hp : ∀ i (h : i < l.length) S,ACalls Tryz.prog (B0 w0) fo [(.agg (es.getD i []))] S fun e S' => e = .ret (.str (t l[i])) ∧ S' = S) (S : Heap) :
  ACalls Tryz.prog (B0 w0) 31 [.list fl es,.clo (.func fo) [] []] S fun e S' => e = .ret (.str (Lib.join (l.map t) [44,32])) ∧ S' = S := by
 refine ACalls.close (R := fun e S' => e = .ret (.str (Lib.join (l.map t) [44,32])) ∧ S'.take S.length = S) ?_ ?_
 rotate_left 1
 ·rintro e S' ⟨rfl,ht⟩
  exact .flat ht rfl ⟨rfl,rfl⟩
 refine fn_sound tryOrd (f31_c _) (by simp [f31]) ?_
 simp [f31,f31m,hl]
 refine mwp_loop (I := Li31 S l t (.list fl es) fo) (n := l.length) ⟨0,_,rfl,Nat.zero_le _,by simp,rfl,by simp,by simp,by simp,by simpa [strs] using (Own.start S).add0 1 .nil (.inl rfl)⟩ ?_
 rintro n a S' ⟨i,u,rfl,hi,a1,a5,a8,a9,a10,ho⟩
 by_cases hlt : i < l.length
 ·have hki := hk i hlt
  have h1i := h1' i hlt
  have hc := hp i hlt
  have hle : i < es.length := by omega
  have q1 := li_addr (k := 3) (es := es) hle rfl hki fl
  have hmt := map_take (t := t) hlt
  have htl : (l.take i).length = i := by simp; omega
  have q2 := li_load (k := 3) (es := es) hle rfl hki true 3 0 (by omega)
  generalize es.getD i [] = ev at *
  generalize l[i] = y at *
  have hltI : (i : Int) < (l.length : Int) := by omega
  have hw := wrapS i (by omega)
  obtain ⟨S2,happ,ho2,_⟩ := (ho.more [AObj.cells 3 [ev] (some 1)]).app 0 rfl (y := .list .full [[.str (t y)]]) (ys := [[.str (t y)]]) (bytes := 16) rfl (by simp) (by decide) (by simp [strs,htl]; omega) (by simp [strs,htl]; omega)
  have hown : Own S.length S S2 [(.row (S' ++ [AObj.cells 3 [ev] (some 1)]).length 0 ((strs ((l.take i).map t)).length + 1),1,strs ((l.take (i + 1)).map t))] := by
   rw [hmt,strs_snoc]
   simpa using ho2
  have htk2 : takeAt true 3 ev 0 = .agg ev := by simp [takeAt,List.take_of_length_le,hki]
  rw [htk2] at q2
  simp [-appendR,f31b0,a1,a5,a8,a9,a10,hltI,q1,q2,hki]
  refine ⟨h1i,?_⟩
  refine (hc _).use ?_
  rintro e S1 ⟨rfl,rfl⟩
  simp [-appendR] at happ
  simp [-appendR,a1,a5,a8,a9,a10,happ,hw]
  exact ⟨l.length - (i + 1),by omega,i + 1,_,rfl,by omega,by simp [a1],rfl,by simp [a8],by simp [a9],by simp,by simpa using hown⟩
 ·have hie : i = l.length := by omega
  subst hie
  rw [List.take_length] at ho
  have hrk := ho.rk 0 rfl
  have hjoin := w33 (w0 := w0) hrk (by simp; omega) hj
  simp [f31b0,a1,a5,a8,a9,a10]
  refine hjoin.use ?_
  rintro e S1 ⟨rfl,rfl⟩
  simp [ho.take rfl]
def Li34 {α : Type} (S : Heap) (l : List α) (t : α → Bs) (v : AVal) (fo : FuncId) (n : Nat) (a : Tmps) (S' : Heap) : Prop :=
 ∃ (i : Nat) (u : AVal),n = l.length - i ∧ i ≤ l.length ∧ get a 1 = .clo (.func fo) [] [] ∧ get a 5 = u ∧ get a 8 = v ∧ get a 9 = .int l.length ∧ get a 10 = .int i ∧ Own S.length S S' [(u,1,strs ((l.take i).map t))]
set_option maxHeartbeats 1000000 in
theorem w34 {α : Type} {l : List α} {es : List (List AVal)} {fl : Fl} {t : α → Bs} {fo : FuncId} (hl : es.length = l.length) (hk : ∀ i,i < l.length → (es.getD i []).length = 1)
  (hsm : l.length < 1000000000) (hj : (Lib.join (l.map t) [44,32]).length ≤ 140737488355328) (hp : ∀ i (h : i < l.length) S,ACalls Tryz.prog (B0 w0) fo [((es.getD i []).getD 0 .top)] S fun e S' => e = .ret (.str (t l[i])) ∧ S' = S) (S : Heap) :
  ACalls Tryz.prog (B0 w0) 34 [.list fl es,.clo (.func fo) [] []] S fun e S' => e = .ret (.str (Lib.join (l.map t) [44,32])) ∧ S' = S := by
 refine ACalls.close (R := fun e S' => e = .ret (.str (Lib.join (l.map t) [44,32])) ∧ S'.take S.length = S) ?_ ?_
 rotate_left 1
 ·rintro e S' ⟨rfl,ht⟩
  exact .flat ht rfl ⟨rfl,rfl⟩
 refine fn_sound tryOrd (f34_c _) (by simp [f34]) ?_
 simp [f34,f34m,hl]
 refine mwp_loop (I := Li34 S l t (.list fl es) fo) (n := l.length) ⟨0,_,rfl,Nat.zero_le _,by simp,rfl,by simp,by simp,by simp,by simpa [strs] using (Own.start S).add0 1 .nil (.inl rfl)⟩ ?_
 rintro n a S' ⟨i,u,rfl,hi,a1,a5,a8,a9,a10,ho⟩
 by_cases hlt : i < l.length
 ·have hki := hk i hlt
  have hc := hp i hlt
  have hle : i < es.length := by omega
  have q1 := li_addr (k := 1) (es := es) hle rfl hki fl
  have hmt := map_take (t := t) hlt
  have htl : (l.take i).length = i := by simp; omega
  have q2 := li_load (k := 1) (es := es) hle rfl hki false 1 0 (by omega)
  generalize es.getD i [] = ev at *
  generalize l[i] = y at *
  have hltI : (i : Int) < (l.length : Int) := by omega
  have hw := wrapS i (by omega)
  obtain ⟨S2,happ,ho2,_⟩ := (ho.more ([] : Heap)).app 0 rfl (y := .list .full [[.str (t y)]]) (ys := [[.str (t y)]]) (bytes := 16) rfl (by simp) (by decide) (by simp [strs,htl]; omega) (by simp [strs,htl]; omega)
  have hown : Own S.length S S2 [(.row (S' ++ ([] : Heap)).length 0 ((strs ((l.take i).map t)).length + 1),1,strs ((l.take (i + 1)).map t))] := by
   rw [hmt,strs_snoc]
   simpa using ho2
  obtain ⟨z,rfl⟩ : ∃ z,ev = [z] := List.length_eq_one_iff.1 hki
  have htk2 : takeAt false 1 [z] 0 = z := rfl
  rw [htk2] at q2
  simp only [List.append_nil] at happ hown
  simp [-appendR,f34b0,a1,a5,a8,a9,a10,hltI,q1,q2]
  simp only [List.getD_cons_zero] at hc
  refine (hc _).use ?_
  rintro e S1 ⟨rfl,rfl⟩
  simp [-appendR] at happ
  simp [-appendR,a1,a5,a8,a9,a10,happ,hw]
  exact ⟨l.length - (i + 1),by omega,i + 1,_,rfl,by omega,by simp [a1],rfl,by simp [a8],by simp [a9],by simp,by simpa using hown⟩
 ·have hie : i = l.length := by omega
  subst hie
  rw [List.take_length] at ho
  have hrk := ho.rk 0 rfl
  have hjoin := w33 (w0 := w0) hrk (by simp; omega) hj
  simp [f34b0,a1,a5,a8,a9,a10]
  refine hjoin.use ?_
  rintro e S1 ⟨rfl,rfl⟩
  simp [ho.take rfl]
def Li36 {α : Type} (S : Heap) (l : List α) (t : α → Bs) (v : AVal) (fo : FuncId) (n : Nat) (a : Tmps) (S' : Heap) : Prop :=
 ∃ (i : Nat) (u : AVal),n = l.length - i ∧ i ≤ l.length ∧ get a 1 = .clo (.func fo) [] [] ∧ get a 5 = u ∧ get a 8 = v ∧ get a 9 = .int l.length ∧ get a 10 = .int i ∧ Own S.length S S' [(u,1,strs ((l.take i).map t))]
set_option maxHeartbeats 1000000 in
theorem w36 {α : Type} {l : List α} {es : List (List AVal)} {fl : Fl} {t : α → Bs} {fo : FuncId} (hl : es.length = l.length) (hk : ∀ i,i < l.length → (es.getD i []).length = 7) (h1' : ∀ i,i < l.length → ∀ x ∈ es.getD i [],x.one = true)
  (hsm : l.length < 1000000000) (hj : (Lib.join (l.map t) [44,32]).length ≤ 140737488355328) (hp : ∀ i (h : i < l.length) S,ACalls Tryz.prog (B0 w0) fo [(.agg (es.getD i []))] S fun e S' => e = .ret (.str (t l[i])) ∧ S' = S) (S : Heap) :
  ACalls Tryz.prog (B0 w0) 36 [.list fl es,.clo (.func fo) [] []] S fun e S' => e = .ret (.str (Lib.join (l.map t) [44,32])) ∧ S' = S := by
 refine ACalls.close (R := fun e S' => e = .ret (.str (Lib.join (l.map t) [44,32])) ∧ S'.take S.length = S) ?_ ?_
 rotate_left 1
 ·rintro e S' ⟨rfl,ht⟩
  exact .flat ht rfl ⟨rfl,rfl⟩
 refine fn_sound tryOrd (f36_c _) (by simp [f36]) ?_
 simp [f36,f36m,hl]
 refine mwp_loop (I := Li36 S l t (.list fl es) fo) (n := l.length) ⟨0,_,rfl,Nat.zero_le _,by simp,rfl,by simp,by simp,by simp,by simpa [strs] using (Own.start S).add0 1 .nil (.inl rfl)⟩ ?_
 rintro n a S' ⟨i,u,rfl,hi,a1,a5,a8,a9,a10,ho⟩
 by_cases hlt : i < l.length
 ·have hki := hk i hlt
  have h1i := h1' i hlt
  have hc := hp i hlt
  have hle : i < es.length := by omega
  have q1 := li_addr (k := 7) (es := es) hle rfl hki fl
  have hmt := map_take (t := t) hlt
  have htl : (l.take i).length = i := by simp; omega
  have q2 := li_load (k := 7) (es := es) hle rfl hki true 7 0 (by omega)
  generalize es.getD i [] = ev at *
  generalize l[i] = y at *
  have hltI : (i : Int) < (l.length : Int) := by omega
  have hw := wrapS i (by omega)
  obtain ⟨S2,happ,ho2,_⟩ := (ho.more [AObj.cells 7 [ev] (some 1)]).app 0 rfl (y := .list .full [[.str (t y)]]) (ys := [[.str (t y)]]) (bytes := 16) rfl (by simp) (by decide) (by simp [strs,htl]; omega) (by simp [strs,htl]; omega)
  have hown : Own S.length S S2 [(.row (S' ++ [AObj.cells 7 [ev] (some 1)]).length 0 ((strs ((l.take i).map t)).length + 1),1,strs ((l.take (i + 1)).map t))] := by
   rw [hmt,strs_snoc]
   simpa using ho2
  have htk2 : takeAt true 7 ev 0 = .agg ev := by simp [takeAt,List.take_of_length_le,hki]
  rw [htk2] at q2
  simp [-appendR,f36b0,a1,a5,a8,a9,a10,hltI,q1,q2,hki]
  refine ⟨h1i,?_⟩
  refine (hc _).use ?_
  rintro e S1 ⟨rfl,rfl⟩
  simp [-appendR] at happ
  simp [-appendR,a1,a5,a8,a9,a10,happ,hw]
  exact ⟨l.length - (i + 1),by omega,i + 1,_,rfl,by omega,by simp [a1],rfl,by simp [a8],by simp [a9],by simp,by simpa using hown⟩
 ·have hie : i = l.length := by omega
  subst hie
  rw [List.take_length] at ho
  have hrk := ho.rk 0 rfl
  have hjoin := w33 (w0 := w0) hrk (by simp; omega) hj
  simp [f36b0,a1,a5,a8,a9,a10]
  refine hjoin.use ?_
  rintro e S1 ⟨rfl,rfl⟩
  simp [ho.take rfl]
def Li39 {α : Type} (S : Heap) (l : List α) (t : α → Bs) (v : AVal) (fo : FuncId) (n : Nat) (a : Tmps) (S' : Heap) : Prop :=
 ∃ (i : Nat) (u : AVal),n = l.length - i ∧ i ≤ l.length ∧ get a 1 = .clo (.func fo) [] [] ∧ get a 5 = u ∧ get a 8 = v ∧ get a 9 = .int l.length ∧ get a 10 = .int i ∧ Own S.length S S' [(u,1,strs ((l.take i).map t))]
set_option maxHeartbeats 1000000 in
theorem w39 {α : Type} {l : List α} {es : List (List AVal)} {fl : Fl} {t : α → Bs} {fo : FuncId} (hl : es.length = l.length) (hk : ∀ i,i < l.length → (es.getD i []).length = 8) (h1' : ∀ i,i < l.length → ∀ x ∈ es.getD i [],x.one = true)
  (hsm : l.length < 1000000000) (hj : (Lib.join (l.map t) [44,32]).length ≤ 140737488355328) (hp : ∀ i (h : i < l.length) S,ACalls Tryz.prog (B0 w0) fo [(.agg (es.getD i []))] S fun e S' => e = .ret (.str (t l[i])) ∧ S' = S) (S : Heap) :
  ACalls Tryz.prog (B0 w0) 39 [.list fl es,.clo (.func fo) [] []] S fun e S' => e = .ret (.str (Lib.join (l.map t) [44,32])) ∧ S' = S := by
 refine ACalls.close (R := fun e S' => e = .ret (.str (Lib.join (l.map t) [44,32])) ∧ S'.take S.length = S) ?_ ?_
 rotate_left 1
 ·rintro e S' ⟨rfl,ht⟩
  exact .flat ht rfl ⟨rfl,rfl⟩
 refine fn_sound tryOrd (f39_c _) (by simp [f39]) ?_
 simp [f39,f39m,hl]
 refine mwp_loop (I := Li39 S l t (.list fl es) fo) (n := l.length) ⟨0,_,rfl,Nat.zero_le _,by simp,rfl,by simp,by simp,by simp,by simpa [strs] using (Own.start S).add0 1 .nil (.inl rfl)⟩ ?_
 rintro n a S' ⟨i,u,rfl,hi,a1,a5,a8,a9,a10,ho⟩
 by_cases hlt : i < l.length
 ·have hki := hk i hlt
  have h1i := h1' i hlt
  have hc := hp i hlt
  have hle : i < es.length := by omega
  have q1 := li_addr (k := 8) (es := es) hle rfl hki fl
  have hmt := map_take (t := t) hlt
  have htl : (l.take i).length = i := by simp; omega
  have q2 := li_load (k := 8) (es := es) hle rfl hki true 8 0 (by omega)
  generalize es.getD i [] = ev at *
  generalize l[i] = y at *
  have hltI : (i : Int) < (l.length : Int) := by omega
  have hw := wrapS i (by omega)
  obtain ⟨S2,happ,ho2,_⟩ := (ho.more [AObj.cells 8 [ev] (some 1)]).app 0 rfl (y := .list .full [[.str (t y)]]) (ys := [[.str (t y)]]) (bytes := 16) rfl (by simp) (by decide) (by simp [strs,htl]; omega) (by simp [strs,htl]; omega)
  have hown : Own S.length S S2 [(.row (S' ++ [AObj.cells 8 [ev] (some 1)]).length 0 ((strs ((l.take i).map t)).length + 1),1,strs ((l.take (i + 1)).map t))] := by
   rw [hmt,strs_snoc]
   simpa using ho2
  have htk2 : takeAt true 8 ev 0 = .agg ev := by simp [takeAt,List.take_of_length_le,hki]
  rw [htk2] at q2
  simp [-appendR,f39b0,a1,a5,a8,a9,a10,hltI,q1,q2,hki]
  refine ⟨h1i,?_⟩
  refine (hc _).use ?_
  rintro e S1 ⟨rfl,rfl⟩
  simp [-appendR] at happ
  simp [-appendR,a1,a5,a8,a9,a10,happ,hw]
  exact ⟨l.length - (i + 1),by omega,i + 1,_,rfl,by omega,by simp [a1],rfl,by simp [a8],by simp [a9],by simp,by simpa using hown⟩
 ·have hie : i = l.length := by omega
  subst hie
  rw [List.take_length] at ho
  have hrk := ho.rk 0 rfl
  have hjoin := w33 (w0 := w0) hrk (by simp; omega) hj
  simp [f39b0,a1,a5,a8,a9,a10]
  refine hjoin.use ?_
  rintro e S1 ⟨rfl,rfl⟩
  simp [ho.take rfl]
def Li92 {α : Type} (S : Heap) (l : List α) (t : α → Bs) (v : AVal) (fo : FuncId) (n : Nat) (a : Tmps) (S' : Heap) : Prop :=
 ∃ (i : Nat) (u : AVal),n = l.length - i ∧ i ≤ l.length ∧ get a 1 = .clo (.func fo) [] [] ∧ get a 5 = u ∧ get a 8 = v ∧ get a 9 = .int l.length ∧ get a 10 = .int i ∧ Own S.length S S' [(u,1,strs ((l.take i).map t))]
set_option maxHeartbeats 1000000 in
theorem w92 {α : Type} {l : List α} {es : List (List AVal)} {fl : Fl} {t : α → Bs} {fo : FuncId} (hl : es.length = l.length) (hk : ∀ i,i < l.length → (es.getD i []).length = 8) (h1' : ∀ i,i < l.length → ∀ x ∈ es.getD i [],x.one = true)
  (hsm : l.length < 1000000000) (hj : (Lib.join (l.map t) [44,32]).length ≤ 140737488355328) (hp : ∀ i (h : i < l.length) S,ACalls Tryz.prog (B0 w0) fo [(.agg (es.getD i []))] S fun e S' => e = .ret (.str (t l[i])) ∧ S' = S) (S : Heap) :
  ACalls Tryz.prog (B0 w0) 92 [.list fl es,.clo (.func fo) [] []] S fun e S' => e = .ret (.str (Lib.join (l.map t) [44,32])) ∧ S' = S := by
 refine ACalls.close (R := fun e S' => e = .ret (.str (Lib.join (l.map t) [44,32])) ∧ S'.take S.length = S) ?_ ?_
 rotate_left 1
 ·rintro e S' ⟨rfl,ht⟩
  exact .flat ht rfl ⟨rfl,rfl⟩
 refine fn_sound tryOrd (f92_c _) (by simp [f92]) ?_
 simp [f92,f92m,hl]
 refine mwp_loop (I := Li92 S l t (.list fl es) fo) (n := l.length) ⟨0,_,rfl,Nat.zero_le _,by simp,rfl,by simp,by simp,by simp,by simpa [strs] using (Own.start S).add0 1 .nil (.inl rfl)⟩ ?_
 rintro n a S' ⟨i,u,rfl,hi,a1,a5,a8,a9,a10,ho⟩
 by_cases hlt : i < l.length
 ·have hki := hk i hlt
  have h1i := h1' i hlt
  have hc := hp i hlt
  have hle : i < es.length := by omega
  have q1 := li_addr (k := 8) (es := es) hle rfl hki fl
  have hmt := map_take (t := t) hlt
  have htl : (l.take i).length = i := by simp; omega
  have q2 := li_load (k := 8) (es := es) hle rfl hki true 8 0 (by omega)
  generalize es.getD i [] = ev at *
  generalize l[i] = y at *
  have hltI : (i : Int) < (l.length : Int) := by omega
  have hw := wrapS i (by omega)
  obtain ⟨S2,happ,ho2,_⟩ := (ho.more [AObj.cells 8 [ev] (some 1)]).app 0 rfl (y := .list .full [[.str (t y)]]) (ys := [[.str (t y)]]) (bytes := 16) rfl (by simp) (by decide) (by simp [strs,htl]; omega) (by simp [strs,htl]; omega)
  have hown : Own S.length S S2 [(.row (S' ++ [AObj.cells 8 [ev] (some 1)]).length 0 ((strs ((l.take i).map t)).length + 1),1,strs ((l.take (i + 1)).map t))] := by
   rw [hmt,strs_snoc]
   simpa using ho2
  have htk2 : takeAt true 8 ev 0 = .agg ev := by simp [takeAt,List.take_of_length_le,hki]
  rw [htk2] at q2
  simp [-appendR,f92b0,a1,a5,a8,a9,a10,hltI,q1,q2,hki]
  refine ⟨h1i,?_⟩
  refine (hc _).use ?_
  rintro e S1 ⟨rfl,rfl⟩
  simp [-appendR] at happ
  simp [-appendR,a1,a5,a8,a9,a10,happ,hw]
  exact ⟨l.length - (i + 1),by omega,i + 1,_,rfl,by omega,by simp [a1],rfl,by simp [a8],by simp [a9],by simp,by simpa using hown⟩
 ·have hie : i = l.length := by omega
  subst hie
  rw [List.take_length] at ho
  have hrk := ho.rk 0 rfl
  have hjoin := w33 (w0 := w0) hrk (by simp; omega) hj
  simp [f92b0,a1,a5,a8,a9,a10]
  refine hjoin.use ?_
  rintro e S1 ⟨rfl,rfl⟩
  simp [ho.take rfl]
def Li95 {α : Type} (S : Heap) (l : List α) (t : α → Bs) (v : AVal) (fo : FuncId) (n : Nat) (a : Tmps) (S' : Heap) : Prop :=
 ∃ (i : Nat) (u : AVal),n = l.length - i ∧ i ≤ l.length ∧ get a 1 = .clo (.func fo) [] [] ∧ get a 5 = u ∧ get a 8 = v ∧ get a 9 = .int l.length ∧ get a 10 = .int i ∧ Own S.length S S' [(u,1,strs ((l.take i).map t))]
set_option maxHeartbeats 1000000 in
theorem w95 {α : Type} {l : List α} {es : List (List AVal)} {fl : Fl} {t : α → Bs} {fo : FuncId} (hl : es.length = l.length) (hk : ∀ i,i < l.length → (es.getD i []).length = 8) (h1' : ∀ i,i < l.length → ∀ x ∈ es.getD i [],x.one = true)
  (hsm : l.length < 1000000000) (hj : (Lib.join (l.map t) [44,32]).length ≤ 140737488355328) (hp : ∀ i (h : i < l.length) S,ACalls Tryz.prog (B0 w0) fo [(.agg (es.getD i []))] S fun e S' => e = .ret (.str (t l[i])) ∧ S' = S) (S : Heap) :
  ACalls Tryz.prog (B0 w0) 95 [.list fl es,.clo (.func fo) [] []] S fun e S' => e = .ret (.str (Lib.join (l.map t) [44,32])) ∧ S' = S := by
 refine ACalls.close (R := fun e S' => e = .ret (.str (Lib.join (l.map t) [44,32])) ∧ S'.take S.length = S) ?_ ?_
 rotate_left 1
 ·rintro e S' ⟨rfl,ht⟩
  exact .flat ht rfl ⟨rfl,rfl⟩
 refine fn_sound tryOrd (f95_c _) (by simp [f95]) ?_
 simp [f95,f95m,hl]
 refine mwp_loop (I := Li95 S l t (.list fl es) fo) (n := l.length) ⟨0,_,rfl,Nat.zero_le _,by simp,rfl,by simp,by simp,by simp,by simpa [strs] using (Own.start S).add0 1 .nil (.inl rfl)⟩ ?_
 rintro n a S' ⟨i,u,rfl,hi,a1,a5,a8,a9,a10,ho⟩
 by_cases hlt : i < l.length
 ·have hki := hk i hlt
  have h1i := h1' i hlt
  have hc := hp i hlt
  have hle : i < es.length := by omega
  have q1 := li_addr (k := 8) (es := es) hle rfl hki fl
  have hmt := map_take (t := t) hlt
  have htl : (l.take i).length = i := by simp; omega
  have q2 := li_load (k := 8) (es := es) hle rfl hki true 8 0 (by omega)
  generalize es.getD i [] = ev at *
  generalize l[i] = y at *
  have hltI : (i : Int) < (l.length : Int) := by omega
  have hw := wrapS i (by omega)
  obtain ⟨S2,happ,ho2,_⟩ := (ho.more [AObj.cells 8 [ev] (some 1)]).app 0 rfl (y := .list .full [[.str (t y)]]) (ys := [[.str (t y)]]) (bytes := 16) rfl (by simp) (by decide) (by simp [strs,htl]; omega) (by simp [strs,htl]; omega)
  have hown : Own S.length S S2 [(.row (S' ++ [AObj.cells 8 [ev] (some 1)]).length 0 ((strs ((l.take i).map t)).length + 1),1,strs ((l.take (i + 1)).map t))] := by
   rw [hmt,strs_snoc]
   simpa using ho2
  have htk2 : takeAt true 8 ev 0 = .agg ev := by simp [takeAt,List.take_of_length_le,hki]
  rw [htk2] at q2
  simp [-appendR,f95b0,a1,a5,a8,a9,a10,hltI,q1,q2,hki]
  refine ⟨h1i,?_⟩
  refine (hc _).use ?_
  rintro e S1 ⟨rfl,rfl⟩
  simp [-appendR] at happ
  simp [-appendR,a1,a5,a8,a9,a10,happ,hw]
  exact ⟨l.length - (i + 1),by omega,i + 1,_,rfl,by omega,by simp [a1],rfl,by simp [a8],by simp [a9],by simp,by simpa using hown⟩
 ·have hie : i = l.length := by omega
  subst hie
  rw [List.take_length] at ho
  have hrk := ho.rk 0 rfl
  have hjoin := w33 (w0 := w0) hrk (by simp; omega) hj
  simp [f95b0,a1,a5,a8,a9,a10]
  refine hjoin.use ?_
  rintro e S1 ⟨rfl,rfl⟩
  simp [ho.take rfl]
end Go.Abs
namespace Go.Abs
open Go.Lx Go.Pz
def joinT : List Bs → Bs
 | [] => []
 | a :: r => match r with
   | [] => a
   | _ :: _ => a ++ 44 :: 32 :: joinT r
def joinK : List (List Tok) → List Tok
 | [] => []
 | a :: r => match r with
   | [] => a
   | _ :: _ => a ++ sT [44] :: joinK r
def asT (s n : Bs) : Bs := if n = [] then s else s ++ [32,65,83,32] ++ n
def asK (l : List Tok) (n : Bs) : List Tok := if n = [] then l else l ++ [wT [97,115],wT n]
def typeT (t : Int) : Bs := [[],[66,79,79,76],[73,78,84],[82,69,65,76],[84,69,88,84]].getD t.toNat []
def typeK (t : Int) : Tok := wT ([[],[98,111,111,108],[105,110,116],[114,101,97,108],[116,101,120,116]].getD t.toNat [])
def colT (c : Pz.Col) : Bs := c.name ++ 32 :: typeT c.type ++ (if c.req then [32,78,79,84,32,78,85,76,76] else [])
def colK (c : Pz.Col) : List Tok := [wT c.name,typeK c.type] ++ (if c.req then [wT [110,111,116],wT [110,117,108,108]] else [])
def rowT (r : List Ex) : Bs := 40 :: joinT (r.map textE) ++ [41]
def rowK (r : List Ex) : List Tok := sT [40] :: joinK (r.map tokE) ++ [sT [41]]
def itemT (x : Itm) : Bs := asT (textE x.e) x.name
def itemK (x : Itm) : List Tok := asK (tokE x.e) x.name
def sortT (x : Srt) : Bs := if x.desc then textE x.e ++ [32,68,69,83,67] else textE x.e
def sortK (x : Srt) : List Tok := if x.desc then tokE x.e ++ [wT [100,101,115,99]] else tokE x.e
def setT (x : Asn) : Bs := x.col ++ [32,61,32] ++ textE x.e
def setK (x : Asn) : List Tok := wT x.col :: sT [61] :: tokE x.e
def srcT (x : Src) : Bs := asT x.table x.alias
def srcK (x : Src) : List Tok := asK [wT x.table] x.alias
def joinsT (xs : List Src) : Bs := (xs.map fun x => [32,73,78,78,69,82,32,74,79,73,78,32] ++ srcT x ++ [32,79,78,32] ++ textE x.on).flatten
def joinsK (xs : List Src) : List Tok := (xs.map fun x => wT [105,110,110,101,114] :: wT [106,111,105,110] :: srcK x ++ wT [111,110] :: tokE x.on).flatten
def opOf : Ex → Int
 | .mk op _ _ _ _ _ _ => op
def whereT (x : Ex) : Bs := if opOf x = 0 then [] else [32,87,72,69,82,69,32] ++ textE x
def whereK (x : Ex) : List Tok := if opOf x = 0 then [] else wT [119,104,101,114,101] :: tokE x
def queryT (st : Stm) : Bs :=
 [83,69,76,69,67,84,32] ++ (if st.items = [] then [42] else joinT (st.items.map itemT)) ++
 (match st.src with | [] => [] | s :: r => [32,70,82,79,77,32] ++ srcT s ++ joinsT r) ++ whereT st.wher ++
 (if st.order = [] then [] else [32,79,82,68,69,82,32,66,89,32] ++ joinT (st.order.map sortT))
def queryK (st : Stm) : List Tok :=
 wT [115,101,108,101,99,116] :: (if st.items = [] then [sT [42]] else joinK (st.items.map itemK)) ++
 (match st.src with | [] => [] | s :: r => wT [102,114,111,109] :: srcK s ++ joinsK r) ++ whereK st.wher ++
 (if st.order = [] then [] else wT [111,114,100,101,114] :: wT [98,121] :: joinK (st.order.map sortK))
def formS (st : Stm) : Bs :=
 if st.kind = 1 then [67,82,69,65,84,69,32,84,65,66,76,69,32] ++ st.table ++ [32,40] ++ joinT (st.cols.map colT) ++ [41]
 else if st.kind = 2 then [68,82,79,80,32,84,65,66,76,69,32] ++ st.table
 else if st.kind = 3 then [67,82,69,65,84,69,32] ++ (if st.uniq then [85,78,73,81,85,69,32] else []) ++ [73,78,68,69,88,32] ++ st.index ++ [32,79,78,32] ++ st.table ++ [32,40] ++ joinT st.names ++ [41]
 else if st.kind = 4 then [68,82,79,80,32,73,78,68,69,88,32] ++ st.index
 else if st.kind = 5 then [73,78,83,69,82,84,32,73,78,84,79,32] ++ st.table ++ [32,86,65,76,85,69,83,32] ++ joinT (st.rows.map rowT)
 else if st.kind = 6 then queryT st
 else if st.kind = 7 then [85,80,68,65,84,69,32] ++ st.table ++ [32,83,69,84,32] ++ joinT (st.sets.map setT) ++ whereT st.wher
 else if st.kind = 8 then [68,69,76,69,84,69,32,70,82,79,77,32] ++ st.table ++ whereT st.wher
 else if st.kind = 9 then [66,69,71,73,78] else if st.kind = 10 then [67,79,77,77,73,84] else [82,79,76,76,66,65,67,75]
def formK (st : Stm) : List Tok :=
 if st.kind = 1 then wT [99,114,101,97,116,101] :: wT [116,97,98,108,101] :: wT st.table :: sT [40] :: joinK (st.cols.map colK) ++ [sT [41]]
 else if st.kind = 2 then [wT [100,114,111,112],wT [116,97,98,108,101],wT st.table]
 else if st.kind = 3 then wT [99,114,101,97,116,101] :: (if st.uniq then [wT [117,110,105,113,117,101]] else []) ++ wT [105,110,100,101,120] :: wT st.index :: wT [111,110] :: wT st.table :: sT [40] :: joinK (st.names.map fun n => [wT n]) ++ [sT [41]]
 else if st.kind = 4 then [wT [100,114,111,112],wT [105,110,100,101,120],wT st.index]
 else if st.kind = 5 then wT [105,110,115,101,114,116] :: wT [105,110,116,111] :: wT st.table :: wT [118,97,108,117,101,115] :: joinK (st.rows.map rowK)
 else if st.kind = 6 then queryK st
 else if st.kind = 7 then wT [117,112,100,97,116,101] :: wT st.table :: wT [115,101,116] :: joinK (st.sets.map setK) ++ whereK st.wher
 else if st.kind = 8 then wT [100,101,108,101,116,101] :: wT [102,114,111,109] :: wT st.table :: whereK st.wher
 else if st.kind = 9 then [wT [98,101,103,105,110]] else if st.kind = 10 then [wT [99,111,109,109,105,116]] else [wT [114,111,108,108,98,97,99,107]]
def colB (c : Pz.Col) : Bool := nameB c.name && decide (1 ≤ c.type) && decide (c.type ≤ 4)
def between (n a b : Nat) : Bool := decide (a ≤ n) && decide (n ≤ b)
def tableU (k : Int) : Bool := decide (k = 1) || decide (k = 2) || decide (k = 3) || decide (k = 5) || decide (k = 7) || decide (k = 8)
def indexU (k : Int) : Bool := decide (k = 3) || decide (k = 4)
def srcB : List Src → Bool
 | [] => true
 | s :: r => nameB s.table && aliasB s.alias && zeroB s.on && r.all fun x => nameB x.table && aliasB x.alias && okE x.on
def okS (st : Stm) : Bool :=
 decide (1 ≤ st.kind) && decide (st.kind ≤ 11) &&
 (if tableU st.kind then nameB st.table else decide (st.table = [])) && (if indexU st.kind then nameB st.index else decide (st.index = [])) &&
 (if st.kind = 1 then between st.cols.length 1 16 && st.cols.all colB else st.cols.isEmpty) &&
 (if st.kind = 3 then between st.names.length 1 4 && st.names.all nameB else st.names.isEmpty && !st.uniq) &&
 (if st.kind = 5 then between st.rows.length 1 50 && st.rows.all (fun r => between r.length 1 50 && okL r) else st.rows.isEmpty) &&
 (if st.kind = 6 then decide (st.items.length ≤ 50) && st.items.all (fun x => okE x.e && aliasB x.name) && between st.src.length 1 4 && srcB st.src && decide (st.order.length ≤ 50) && st.order.all (fun x => okE x.e) else st.items.isEmpty && st.src.isEmpty && st.order.isEmpty) &&
 (if st.kind = 7 then between st.sets.length 1 50 && st.sets.all (fun x => nameB x.col && okE x.e) else st.sets.isEmpty) &&
 (if st.kind = 6 ∨ st.kind = 7 ∨ st.kind = 8 then perB st.wher else zeroB st.wher)
def exsS (st : Stm) : List Ex := st.wher :: (st.rows.flatten ++ (st.items.map (·.e) ++ (st.src.map (·.on) ++ (st.order.map (·.e) ++ st.sets.map (·.e)))))
def checkS (st : Stm) : Int := if okS st = true then (if (exsS st).all fun x => decide (x.depth ≤ 40) then 0 else 5) else 2
end Go.Abs
namespace Go.Abs
open Go Go.RowKit Go.Proofs Go.Lx Go.Pz
variable {w0 : World}
def Al {α : Type} (R : α → List AVal → Prop) (l : List α) (es : List (List AVal)) : Prop := es.length = l.length ∧ ∀ i (h : i < l.length),R l[i] (es.getD i [])
def ItmV (x : Itm) (e : List AVal) : Prop := ∃ ev,ExV x.e ev ∧ e = ev ++ [.str x.name]
def SrcV (x : Src) (e : List AVal) : Prop := ∃ ev,ExV x.on ev ∧ e = .str x.table :: .str x.alias :: ev
def SrtV (x : Srt) (e : List AVal) : Prop := ∃ ev,ExV x.e ev ∧ e = ev ++ [.bool x.desc]
def AsnV (x : Asn) (e : List AVal) : Prop := ∃ ev,ExV x.e ev ∧ e = .str x.col :: ev
def RowV (r : List Ex) (e : List AVal) : Prop := ∃ fl es,e = [.list fl es] ∧ ExsV r es
def StV (st : Stm) (c : List AVal) : Prop := ∃ fC fN fR fI fF fO fS eR eI eF ew eO eS,
 c = [.int st.kind,.str st.table,.str st.index,.list fC (pcolsC st.cols),.list fN (namesC st.names),.bool st.uniq,.list fR eR,.list fI eI,.list fF eF] ++ ew ++ [.list fO eO,.list fS eS] ∧
 ExV st.wher ew ∧ Al RowV st.rows eR ∧ Al ItmV st.items eI ∧ Al SrcV st.src eF ∧ Al SrtV st.order eO ∧ Al AsnV st.sets eS
structure Sm (st : Stm) : Prop where
 cols : st.cols.length ≤ 4000000
 names : st.names.length ≤ 4000000
 rows : st.rows.length ≤ 4000000
 items : st.items.length ≤ 4000000
 src : st.src.length ≤ 4000000
 order : st.order.length ≤ 4000000
 sets : st.sets.length ≤ 4000000
 ex : (exsS st).length ≤ 4000000
 w : ∀ x ∈ exsS st,x.w ≤ 4000000 ∧ inrE x = true
section
variable {st : Stm}
theorem mem_wher : st.wher ∈ exsS st := by simp [exsS]
theorem mem_rows {r : List Ex} {x : Ex} (hr : r ∈ st.rows) (hx : x ∈ r) : x ∈ exsS st := by
 have : x ∈ st.rows.flatten := List.mem_flatten.2 ⟨r,hr,hx⟩
 simp [exsS]; exact .inr (.inl ⟨r,hr,hx⟩)
theorem mem_items {x : Itm} (h : x ∈ st.items) : x.e ∈ exsS st := by
 simp [exsS]; exact .inr (.inr (.inl ⟨x,h,rfl⟩))
theorem mem_src {x : Src} (h : x ∈ st.src) : x.on ∈ exsS st := by
 simp [exsS]; exact .inr (.inr (.inr (.inl ⟨x,h,rfl⟩)))
theorem mem_order {x : Srt} (h : x ∈ st.order) : x.e ∈ exsS st := by
 simp [exsS]; exact .inr (.inr (.inr (.inr (.inl ⟨x,h,rfl⟩))))
theorem mem_sets {x : Asn} (h : x ∈ st.sets) : x.e ∈ exsS st := by
 simp [exsS]; exact .inr (.inr (.inr (.inr (.inr ⟨x,h,rfl⟩))))
end
theorem ExV_cells {x : Ex} {av : List AVal} (h : ExV x av) : ∃ fl es k n s t q,av = [.int (opOf x),.list fl es,.int k,.int n,.int s,.str t,.str q] := by
 obtain ⟨op,args,kind,num,scale,text,qual⟩ := x
 rw [ExV_mk] at h
 obtain ⟨fl,es,rfl,_⟩ := h
 exact ⟨fl,es,_,_,_,_,_,rfl⟩
def usesT (k : Int) : Bs := [[],[116,99],[116],[105,116,110],[105],[116,114],[115,119],[116,117,119],[116,119],[],[],[]].getD k.toNat []
def kindB (k : Int) : Bool := decide (1 ≤ k) && decide (k ≤ 11)
set_option maxHeartbeats 1000000 in
theorem w46 (k : Int) (S : Heap) : ACalls Tryz.prog (B0 w0) 46 [.int k] S fun e S' => e = .ret (.tuple [.str (if kindB k then usesT k else []),.bool (kindB k)]) ∧ S' = S := by
 refine ACalls.close (R := fun e S' => e = .ret (.tuple [.str (if kindB k then usesT k else []),.bool (kindB k)]) ∧ S'.take S.length = S) ?_ ?_
 rotate_left 1
 ·rintro e S' ⟨rfl,ht⟩
  exact .flat ht rfl ⟨rfl,rfl⟩
 refine fn_sound tryOrd (f46_c _) (by simp [f46]) ?_
 by_cases h1 : k < 1
 ·have h1' : ¬ 1 ≤ k := by omega
  simp [f46,f46m,h1,h1',kindB]
 by_cases h2 : 11 < k
 ·have h1' : 1 ≤ k := by omega
  have h2' : ¬ k ≤ 11 := by omega
  simp [f46,f46m,h1,h1',h2,h2',kindB]
 obtain ⟨n,rfl⟩ : ∃ n : Nat,k = n := ⟨k.toNat,by omega⟩
 have hc : n = 1 ∨ n = 2 ∨ n = 3 ∨ n = 4 ∨ n = 5 ∨ n = 6 ∨ n = 7 ∨ n = 8 ∨ n = 9 ∨ n = 10 ∨ n = 11 := by omega
 rcases hc with rfl | rfl | rfl | rfl | rfl | rfl | rfl | rfl | rfl | rfl | rfl
 all_goals simp [f46,f46m,kindB,usesT]
def hasB (u : Bs) (c : UInt8) (z r : Bool) : Bool := if 0 ≤ Lib.indexByte u c then r else z
theorem w47 {u : Bs} {b : Nat} {H : Heap} (hb : H[b]? = some (.cells 1 [[.str u]] (some 1))) (c : UInt8) (z r : Bool) : ACalls Tryz.prog (B0 w0) 47 [.str [c],.bool z,.bool r,.ptr b 0 0] H fun e S' => e = .ret (.bool (hasB u c z r)) ∧ S' = H := by
 refine fn_sound tryOrd (f47_c _) (by simp [f47]) ?_
 simp [f47,f47m,hb]
 refine (w48 u c _).use ?_
 rintro e S1 ⟨rfl,rfl⟩
 by_cases h : 0 ≤ Lib.indexByte u c <;> simp [h,hasB]
theorem w60 (c : Pz.Col) (S : Heap) : ACalls Tryz.prog (B0 w0) 60 [.agg (pcolC c)] S fun e S' => e = .ret (.bool (colB c)) ∧ S' = S := by
 refine ACalls.close (R := fun e S' => e = .ret (.bool (colB c)) ∧ S'.take S.length = S) ?_ ?_
 rotate_left 1
 ·rintro e S' ⟨rfl,ht⟩
  exact .flat ht rfl ⟨rfl,rfl⟩
 refine fn_sound tryOrd (f60_c _) (by simp [f60]) ?_
 simp [f60,f60m,pcolC]
 refine (w57 c.name _).use ?_
 rintro e S1 ⟨rfl,rfl⟩
 cases hn : nameB c.name with
 | false => simp [colB,hn]
 | true => by_cases h1 : 1 ≤ c.type <;> simp [colB,hn,h1]
def rowB (r : List Ex) : Bool := between r.length 1 50 && okL r
theorem w63 (hT : Tb w0) {r : List Ex} {fl : Fl} {es : List (List AVal)} (hes : ExsV r es) (hr : r.length ≤ 4000000) (hw : ∀ x ∈ r,x.w ≤ 4000000 ∧ inrE x = true) (S : Heap) : ACalls Tryz.prog (B0 w0) 63 [.list fl es] S fun e S' => e = .ret (.bool (rowB r)) ∧ S' = S := by
 have hel := ExsV_len hes
 refine fn_sound tryOrd (f63_c _) (by simp [f63]) ?_
 simp [f63,f63m]
 refine (w58 es.length 1 50 _).use ?_
 rintro e S1 ⟨rfl,rfl⟩
 by_cases h : 1 ≤ (es.length : Int) ∧ (es.length : Int) ≤ 50
 ·have hev := fun S => w17 (w0 := w0) (l := r) (p := okE) (fo := 51) (S := S) (Rk.list fl es) hel (fun i hi => ExV_len (ExsV_get hes i hi)) (fun i hi => List.all_eq_true.1 (ExV_one (ExsV_get hes i hi))) (by omega) fun i hi g =>
   w51 hT 4000000 (by omega) r[i] (hw _ (List.getElem_mem hi)).1 (hw _ (List.getElem_mem hi)).2 _ (ExsV_get hes i hi) _
  simp [h.1,h.2]
  refine (hev _).use ?_
  rintro e S1 ⟨rfl,rfl⟩
  have e1 : between r.length 1 50 = true := by unfold between; simp; omega
  simp [rowB,okL_all,e1]
 ·have e1 : between r.length 1 50 = false := by unfold between; simp; omega
  by_cases h1 : 1 ≤ (es.length : Int)
  ·have h2 : ¬ (es.length : Int) ≤ 50 := fun h2 => h ⟨h1,h2⟩
   simp [h1,h2,rowB,e1]
  ·simp [h1,rowB,e1]
theorem w50 (hT : Tb w0) {x : Itm} (hw : x.e.w ≤ 4000000) (hi : inrE x.e = true) {e : List AVal} (hv : ItmV x e) (S : Heap) : ACalls Tryz.prog (B0 w0) 50 [.agg e] S fun r S' => r = .ret (.bool (okE x.e && aliasB x.name)) ∧ S' = S := by
 obtain ⟨ev,hev,rfl⟩ := hv
 have h51 := fun S => w51 hT 4000000 (by omega) x.e hw hi ev hev S
 obtain ⟨fl,es,k,n,s,t,q,rfl⟩ := ExV_cells hev
 refine ACalls.close (R := fun r S' => r = .ret (.bool (okE x.e && aliasB x.name)) ∧ S'.take S.length = S) ?_ ?_
 rotate_left 1
 ·rintro e S' ⟨rfl,ht⟩
  exact .flat ht rfl ⟨rfl,rfl⟩
 refine fn_sound tryOrd (f50_c _) (by simp [f50]) ?_
 simp [f50,f50m]
 refine (h51 _).use ?_
 rintro e S1 ⟨rfl,rfl⟩
 cases ho : okE x.e with
 | false => simp
 | true =>
   simp
   refine (w52 x.name _).use ?_
   rintro e S1 ⟨rfl,rfl⟩
   simp
theorem w54 (hT : Tb w0) {x : Srt} (hw : x.e.w ≤ 4000000) (hi : inrE x.e = true) {e : List AVal} (hv : SrtV x e) (S : Heap) : ACalls Tryz.prog (B0 w0) 54 [.agg e] S fun r S' => r = .ret (.bool (okE x.e)) ∧ S' = S := by
 obtain ⟨ev,hev,rfl⟩ := hv
 have h51 := fun S => w51 hT 4000000 (by omega) x.e hw hi ev hev S
 obtain ⟨fl,es,k,n,s,t,q,rfl⟩ := ExV_cells hev
 refine ACalls.close (R := fun r S' => r = .ret (.bool (okE x.e)) ∧ S'.take S.length = S) ?_ ?_
 rotate_left 1
 ·rintro e S' ⟨rfl,ht⟩
  exact .flat ht rfl ⟨rfl,rfl⟩
 refine fn_sound tryOrd (f54_c _) (by simp [f54]) ?_
 simp [f54,f54m]
 refine (h51 _).use ?_
 rintro e S1 ⟨rfl,rfl⟩
 simp
theorem w56 (hT : Tb w0) {x : Asn} (hw : x.e.w ≤ 4000000) (hi : inrE x.e = true) {e : List AVal} (hv : AsnV x e) (S : Heap) : ACalls Tryz.prog (B0 w0) 56 [.agg e] S fun r S' => r = .ret (.bool (nameB x.col && okE x.e)) ∧ S' = S := by
 obtain ⟨ev,hev,rfl⟩ := hv
 have h51 := fun S => w51 hT 4000000 (by omega) x.e hw hi ev hev S
 obtain ⟨fl,es,k,n,s,t,q,rfl⟩ := ExV_cells hev
 refine ACalls.close (R := fun r S' => r = .ret (.bool (nameB x.col && okE x.e)) ∧ S'.take S.length = S) ?_ ?_
 rotate_left 1
 ·rintro e S' ⟨rfl,ht⟩
  exact .flat ht rfl ⟨rfl,rfl⟩
 refine fn_sound tryOrd (f56_c _) (by simp [f56]) ?_
 simp [f56,f56m]
 refine (w57 x.col _).use ?_
 rintro e S1 ⟨rfl,rfl⟩
 cases ho : nameB x.col with
 | false => simp
 | true =>
   simp
   refine (h51 _).use ?_
   rintro e S1 ⟨rfl,rfl⟩
   simp
end Go.Abs
namespace Go.Abs
open Go Go.RowKit Go.Proofs Go.Lx Go.Pz
variable {w0 : World}
theorem okE_op {x : Ex} (h : okE x = true) : opOf x ≠ 0 := by
 obtain ⟨op,args,kind,num,scale,text,qual⟩ := x
 rw [okE_mk,Bool.and_eq_true,decide_eq_true_eq] at h
 intro h0
 have h0 : op = 0 := h0
 subst h0
 have := h.1
 have e : opnds 0 = -1 := by decide
 omega
theorem zeroB_op {x : Ex} (h : zeroB x = true) : opOf x = 0 := by
 obtain ⟨op,args,kind,num,scale,text,qual⟩ := x
 simp only [zeroB,Bool.and_eq_true,decide_eq_true_eq] at h
 exact h.1.1.1.1.1.1
theorem perB_zero {x : Ex} (h : opOf x = 0) : perB x = zeroB x := by
 have : okE x = false := by
  cases ho : okE x with
  | false => rfl
  | true => exact absurd h (okE_op ho)
 rw [perB,this,Bool.or_false]
theorem perB_ok {x : Ex} (h : opOf x ≠ 0) : perB x = okE x := by
 have : zeroB x = false := by
  cases ho : zeroB x with
  | false => rfl
  | true => exact absurd (zeroB_op ho) h
 rw [perB,this,Bool.false_or]
theorem zeroB_not {x : Ex} (h : opOf x ≠ 0) : zeroB x = false := by
 cases ho : zeroB x with
 | false => rfl
 | true => exact absurd (zeroB_op ho) h
theorem okE_not {x : Ex} (h : opOf x = 0) : okE x = false := by
 cases ho : okE x with
 | false => rfl
 | true => exact absurd h (okE_op ho)
def srcG (i : Nat) (s : Src) : Bool := nameB s.table && aliasB s.alias && (if i = 0 then zeroB s.on else okE s.on)
theorem srcB_iff {l : List Src} : srcB l = true ↔ ∀ i (h : i < l.length),srcG i l[i] = true := by
 cases l with
 | nil => simp [srcB]
 | cons s r =>
   simp only [srcB,Bool.and_eq_true,List.all_eq_true]
   constructor
   ·rintro ⟨h1,h2⟩ i hi
    cases i with
    | zero => simp [srcG,h1]
    | succ i =>
      have := h2 (r[i]'(by simpa using hi)) (List.getElem_mem _)
      simp [srcG,this]
   ·intro h
    have h0 := h 0 (by simp)
    simp [srcG] at h0
    refine ⟨⟨⟨h0.1.1,h0.1.2⟩,h0.2⟩,fun x hx => ?_⟩
    obtain ⟨i,hi,rfl⟩ := List.getElem_of_mem hx
    have := h (i + 1) (by simpa using hi)
    simp [srcG] at this
    exact ⟨⟨this.1.1,this.1.2⟩,this.2⟩
theorem srcB_not {l : List Src} {i : Nat} (h : i < l.length) (hb : srcG i l[i] = false) : srcB l = false := by
 cases hs : srcB l with
 | false => rfl
 | true => rw [srcB_iff.1 hs i h] at hb; cases hb
def FrI (S : Heap) (l : List Src) (v : AVal) (n : Nat) (a : Tmps) (S' : Heap) : Prop :=
 ∃ (i : Nat) (g : Heap),n = l.length - i ∧ i ≤ l.length ∧ S' = S ++ g ∧ get a 0 = v ∧ get a 5 = v ∧ get a 6 = .int l.length ∧ get a 7 = .int i ∧ ∀ j (h : j < l.length),j < i → srcG j l[j] = true
set_option maxHeartbeats 4000000 in
theorem w64 (hT : Tb w0) {l : List Src} {fl : Fl} {es : List (List AVal)} (hes : Al SrcV l es) (hl : l.length ≤ 4000000) (hw : ∀ x ∈ l,x.on.w ≤ 4000000 ∧ inrE x.on = true) (S : Heap) :
  ACalls Tryz.prog (B0 w0) 64 [.list fl es] S fun e S' => e = .ret (.bool (between l.length 1 4 && srcB l)) ∧ S' = S := by
 obtain ⟨hel,hes⟩ := hes
 refine ACalls.close (R := fun e S' => e = .ret (.bool (between l.length 1 4 && srcB l)) ∧ S'.take S.length = S) ?_ ?_
 rotate_left 1
 ·rintro e S' ⟨rfl,ht⟩
  exact .flat ht rfl ⟨rfl,rfl⟩
 refine fn_sound tryOrd (f64_c _) (by simp [f64]) ?_
 simp [f64,f64m,hel]
 refine mwp_loop (I := FrI S l (.list fl es)) (n := l.length) ⟨0,[],rfl,Nat.zero_le _,by simp,by simp,by simp,by simp,by simp,fun j _ h => absurd h (by omega)⟩ ?_
 rintro n a S' ⟨i,g,rfl,hi,rfl,a0,a5,a6,a7,hall⟩
 by_cases hlt : i < l.length
 ·obtain ⟨ev,hev,he⟩ := hes i hlt
  have hle : i < es.length := by omega
  have q1 := li_addr (k := 9) (es := es) hle he (by simp [ExV_len hev]) fl
  have q2 := li_load (k := 9) (es := es) hle he (by simp [ExV_len hev]) true 9 0 (by omega)
  have hwx := hw _ (List.getElem_mem hlt)
  have h65 := fun S => w65 hT (x := l[i].on) (by omega) hwx.2 hev S
  have hbad := srcB_not hlt
  have hnext : ∀ x : Bool,srcG i l[i] = true → ∀ j (h : j < l.length),j < i + 1 → srcG j l[j] = true := fun _ hg j h hj => by
   rcases Nat.lt_or_ge j i with h' | h'
   ·exact hall j h h'
   ·have : j = i := by omega
    subst this; exact hg
  have hnext := hnext true
  generalize l[i] = y at *
  obtain ⟨fl',es',k',n',s',t',q',rfl⟩ := ExV_cells hev
  have hltI : (i : Int) < (l.length : Int) := by omega
  have hw1 := wrapS i (by omega)
  have htk : ∀ c : List AVal,c.length = 9 → takeAt true 9 c 0 = .agg c := fun c hc => by simp [takeAt,List.take_of_length_le,hc]
  rw [htk _ rfl] at q2
  simp [f64b0,a0,a5,a6,a7,hltI,q1,q2]
  refine (w57 y.table _).use ?_
  rintro e S1 ⟨rfl,rfl⟩
  cases hn : nameB y.table with
  | false =>
    have hb := hbad (by simp [srcG,hn])
    simp [hb]
  | true =>
  simp
  refine (w52 y.alias _).use ?_
  rintro e S1 ⟨rfl,rfl⟩
  cases hn2 : aliasB y.alias with
  | false =>
    have hb := hbad (by simp [srcG,hn,hn2])
    simp [hb]
  | true =>
  by_cases h0 : opOf y.on = 0
  ·have b0 : (opOf y.on == 0) = true := by simp [h0]
   have c0 : (opOf y.on != 0) = false := by simp [h0]
   by_cases hi0 : i = 0
   ·have bi : ((i : Int) == 0) = true := by simp [hi0]
    have ci : ¬ 0 < (i : Int) := by omega
    have cn : ¬ 0 < i := by omega
    simp [bi,ci,cn,c0]
    refine (h65 _).use ?_
    rintro e S1 ⟨rfl,rfl⟩
    rw [perB_zero h0]
    cases hz : zeroB y.on with
    | false =>
      have hb := hbad (by simp [srcG,hn,hn2,hi0,hz])
      simp [hb]
    | true =>
      have hg := hnext (by simp [srcG,hn,hn2,hi0,hz])
      simp [bi,ci,cn,c0,b0,a0,a5,a6,a7,hw1]
      exact ⟨l.length - (i + 1),by omega,i + 1,_,rfl,by omega,rfl,by simp [a0],by simp [a5],by simp [a6],by simp,hg⟩
   ·have bi : ((i : Int) == 0) = false := beq_eq_false_iff_ne.2 (by omega)
    have ci : 0 < (i : Int) := by omega
    have cn : 0 < i := by omega
    have hb := hbad (by simp [srcG,hn,hn2,hi0,okE_not h0])
    simp [bi,ci,cn,c0]
    refine (h65 _).use ?_
    rintro e S1 ⟨rfl,rfl⟩
    cases hz : perB y.on with
    | false => simp [hb]
    | true => simp [bi,ci,cn,c0,b0,hb]
  ·have b0 : (opOf y.on == 0) = false := by simp [h0]
   have c0 : (opOf y.on != 0) = true := by simp [h0]
   by_cases hi0 : i = 0
   ·have bi : ((i : Int) == 0) = true := by simp [hi0]
    have hb := hbad (by simp [srcG,hn,hn2,hi0,zeroB_not h0])
    simp [bi,c0,hb]
   ·have bi : ((i : Int) == 0) = false := beq_eq_false_iff_ne.2 (by omega)
    have ci : 0 < (i : Int) := by omega
    have cn : 0 < i := by omega
    simp [bi,ci,cn,c0]
    refine (h65 _).use ?_
    rintro e S1 ⟨rfl,rfl⟩
    rw [perB_ok h0]
    cases hz : okE y.on with
    | false =>
      have hb := hbad (by simp [srcG,hn,hn2,hi0,hz])
      simp [hb]
    | true =>
      have hg := hnext (by simp [srcG,hn,hn2,hi0,hz])
      simp [bi,ci,cn,c0,b0,a0,a5,a6,a7,hw1]
      exact ⟨l.length - (i + 1),by omega,i + 1,_,rfl,by omega,rfl,by simp [a0],by simp [a5],by simp [a6],by simp,hg⟩
 ·have hie : i = l.length := by omega
  have hsb : srcB l = true := srcB_iff.2 fun j h => hall j h (by omega)
  subst hie
  simp [f64b0,a0,a5,a6,a7,hel]
  refine (w58 l.length 1 4 _).use ?_
  rintro e S1 ⟨rfl,rfl⟩
  have e1 : (decide (1 ≤ (l.length : Int)) && decide ((l.length : Int) ≤ 4)) = between l.length 1 4 := by unfold between; rw [Bool.eq_iff_iff]; simp; omega
  simp [hsb,e1]
end Go.Abs
namespace Go.Abs
open Go Go.RowKit Go.Proofs Go.Lx Go.Pz
variable {w0 : World}
def hs1 (st : Stm) : Bool := hasB (usesT st.kind) 116 (decide (st.table = [])) (nameB st.table)
def hs2 (st : Stm) : Bool := hasB (usesT st.kind) 105 (decide (st.index = [])) (nameB st.index)
def hs3 (st : Stm) : Bool := hasB (usesT st.kind) 99 st.cols.isEmpty (between st.cols.length 1 16 && st.cols.all colB)
def hs4 (st : Stm) : Bool := hasB (usesT st.kind) 110 (st.names.isEmpty && !st.uniq) (between st.names.length 1 4 && st.names.all nameB)
def hs5 (st : Stm) : Bool := hasB (usesT st.kind) 114 st.rows.isEmpty (between st.rows.length 1 50 && st.rows.all rowB)
def itemsB (st : Stm) : Bool := st.items.all fun x => okE x.e && aliasB x.name
def orderB (st : Stm) : Bool := st.order.all fun x => okE x.e
def setsB (st : Stm) : Bool := st.sets.all fun x => nameB x.col && okE x.e
def hs6 (st : Stm) : Bool := hasB (usesT st.kind) 115 (st.items.isEmpty && st.src.isEmpty && st.order.isEmpty) (decide (st.items.length ≤ 50) && itemsB st && (between st.src.length 1 4 && srcB st.src) && decide (st.order.length ≤ 50) && orderB st)
def hs7 (st : Stm) : Bool := hasB (usesT st.kind) 117 st.sets.isEmpty (between st.sets.length 1 50 && setsB st)
def hs8 (st : Stm) : Bool := hasB (usesT st.kind) 119 (zeroB st.wher) (perB st.wher)
def rightB (st : Stm) : Bool := kindB st.kind && hs1 st && hs2 st && hs3 st && hs4 st && hs5 st && hs6 st && hs7 st && hs8 st
theorem count_between (n a b : Nat) : (decide ((a : Int) ≤ (n : Int)) && decide ((n : Int) ≤ (b : Int))) = between n a b := by unfold between; rw [Bool.eq_iff_iff]; simp
theorem len_empty {α : Type} (l : List α) : ((l.length : Int) == 0) = l.isEmpty := by cases l <;> simp; omega
theorem names_get {ns : List Bs} {i : Nat} (h : i < ns.length) : (namesC ns).getD i [] = [.str ns[i]] := by
 rw [getD_eq _ _ _ (show i < (namesC ns).length by simpa using h)]; simp [namesC]
theorem pcols_get {ns : List Pz.Col} {i : Nat} (h : i < ns.length) : (pcolsC ns).getD i [] = pcolC ns[i] := by
 rw [getD_eq _ _ _ (show i < (pcolsC ns).length by simpa using h)]; simp [pcolsC]
theorem flat_len {α : Type} : ∀ {l : List (List α)} {r : List α},r ∈ l → r.length ≤ l.flatten.length
 | [],r,h => by simp at h
 | a :: l,r,h => by
   rcases List.mem_cons.1 h with rfl | h
   ·simp
   ·have := flat_len h
    rw [List.flatten_cons,List.length_append]; omega
theorem rows_len {st : Stm} (hm : Sm st) {r : List Ex} (h : r ∈ st.rows) : r.length ≤ 4000000 := by
 have h1 := flat_len h
 have h2 := hm.ex
 simp only [exsS,List.length_cons,List.length_append] at h2
 omega
def f16d7 : DT := .rd [⟨128,iO 153 (.pick 139 152 (.val (.bool false))),false,false⟩,⟨129,iO 154 (.mv 153),false,false⟩,⟨130,iG 155 154 true (.mv 5),false,true⟩,⟨131,iG 156 154 true (.faddr 9 1),false,false⟩,⟨132,iG 157 154 true (.load true 7 156),false,false⟩,⟨140,iG 165 154 true (.faddr 9 1),false,true⟩,⟨141,iG 166 154 true (.load true 7 165),false,true⟩]
 (.ef ⟨133,⟨some 158,some (154,true),.call 65 [157]⟩,true,false⟩ [130,140,141]
 (.rd [⟨134,iG 159 154 true (.mv 158),false,false⟩,⟨135,iG 160 159 true (.faddr 9 1),false,true⟩,⟨136,iG 161 159 true (.faddr 0 160),false,true⟩,⟨137,iG 162 159 true (.load false 1 161),false,true⟩,⟨138,iG 163 159 true (.bin .eql .int 162 (aI 0)),false,true⟩,⟨139,iG 164 154 true (.pick 159 163 (.val (.bool false))),false,true⟩]
 (.ef ⟨142,⟨some 167,some (154,true),.call 65 [166]⟩,true,false⟩ [130,135,136,137,138,139]
 (.ef ⟨143,⟨some 168,some (154,true),.callV 155 [(aS [119]),164,167]⟩,true,false⟩ []
 (.rd [⟨144,iO 169 (.pick 154 168 (.val (.bool false))),false,false⟩,⟨145,iO 2 (.mv 169),false,false⟩]
 (.nil))))))
def f16d6 : DT := .rd [⟨113,iO 138 (.pick 102 137 (.val (.bool false))),false,false⟩,⟨114,iO 139 (.mv 138),false,false⟩,⟨115,iG 140 139 true (.mv 5),false,true⟩,⟨116,iG 141 139 true (.faddr 17 1),false,true⟩,⟨117,iG 142 139 true (.load false 1 141),false,true⟩,⟨118,iG 143 139 true (.lenS 142),false,true⟩,⟨119,iG 144 139 true (.bin .eql .int 143 (aI 0)),false,true⟩,⟨120,iG 145 139 true (.faddr 17 1),false,false⟩,⟨121,iG 146 139 true (.load false 1 145),false,false⟩,⟨122,iG 147 139 true (.lenS 146),false,false⟩]
 (.ef ⟨123,⟨some 148,some (139,true),.call 58 [147,(aI 1),(aI 50)]⟩,true,false⟩ [115,116,117,118,119]
 (.rd [⟨124,iG 149 139 true (.mv 148),false,false⟩,⟨125,iG 150 149 true (.mv 8),false,false⟩,⟨126,iG 151 139 true (.pick 149 150 (.val (.bool false))),false,false⟩]
 (.ef ⟨127,⟨some 152,some (139,true),.callV 140 [(aS [117]),144,151]⟩,true,false⟩ []
 f16d7)))
def f16d5 : DT := .rd [⟨76,iO 101 (.pick 85 100 (.val (.bool false))),false,false⟩,⟨77,iO 102 (.mv 101),false,false⟩,⟨78,iG 103 102 true (.mv 5),false,true⟩,⟨79,iG 104 102 true (.faddr 7 1),false,true⟩,⟨80,iG 105 102 true (.load false 1 104),false,true⟩,⟨81,iG 106 102 true (.lenS 105),false,true⟩,⟨82,iG 107 102 true (.faddr 8 1),false,true⟩,⟨83,iG 108 102 true (.load false 1 107),false,true⟩,⟨84,iG 109 102 true (.lenS 108),false,true⟩,⟨85,iG 110 102 true (.bin .add .int 106 109),false,true⟩,⟨86,iG 111 102 true (.faddr 16 1),false,true⟩,⟨87,iG 112 102 true (.load false 1 111),false,true⟩,⟨88,iG 113 102 true (.lenS 112),false,true⟩,⟨89,iG 114 102 true (.bin .add .int 110 113),false,true⟩,⟨90,iG 115 102 true (.bin .eql .int 114 (aI 0)),false,true⟩,⟨91,iG 116 102 true (.faddr 7 1),false,false⟩,⟨92,iG 117 102 true (.load false 1 116),false,false⟩,⟨93,iG 118 102 true (.lenS 117),false,false⟩,⟨94,iG 119 102 true (.bin .leq .int 118 (aI 50)),false,false⟩,⟨95,iG 120 102 true (.mv 119),false,false⟩,⟨96,iG 121 120 true (.mv 6),false,false⟩,⟨97,iG 122 102 true (.pick 120 121 (.val (.bool false))),false,false⟩,⟨98,iG 123 102 true (.mv 122),false,false⟩,⟨99,iG 124 123 true (.faddr 8 1),false,false⟩,⟨100,iG 125 123 true (.load false 1 124),false,false⟩]
 (.ef ⟨101,⟨some 126,some (123,true),.call 64 [125]⟩,true,false⟩ [78,79,80,81,82,83,84,85,86,87,88,89,90]
 (.rd [⟨102,iG 127 102 true (.pick 123 126 (.val (.bool false))),false,false⟩,⟨103,iG 128 102 true (.mv 127),false,false⟩,⟨104,iG 129 128 true (.faddr 16 1),false,false⟩,⟨105,iG 130 128 true (.load false 1 129),false,false⟩,⟨106,iG 131 128 true (.lenS 130),false,false⟩,⟨107,iG 132 128 true (.bin .leq .int 131 (aI 50)),false,false⟩,⟨108,iG 133 102 true (.pick 128 132 (.val (.bool false))),false,false⟩,⟨109,iG 134 102 true (.mv 133),false,false⟩,⟨110,iG 135 134 true (.mv 7),false,false⟩,⟨111,iG 136 102 true (.pick 134 135 (.val (.bool false))),false,false⟩]
 (.ef ⟨112,⟨some 137,some (102,true),.callV 103 [(aS [115]),115,136]⟩,true,false⟩ []
 f16d6)))
def f16d4 : DT := .rd [⟨59,iO 84 (.pick 63 83 (.val (.bool false))),false,false⟩,⟨60,iO 85 (.mv 84),false,false⟩,⟨61,iG 86 85 true (.mv 5),false,true⟩,⟨62,iG 87 85 true (.faddr 6 1),false,true⟩,⟨63,iG 88 85 true (.load false 1 87),false,true⟩,⟨64,iG 89 85 true (.lenS 88),false,true⟩,⟨65,iG 90 85 true (.bin .eql .int 89 (aI 0)),false,true⟩,⟨66,iG 91 85 true (.faddr 6 1),false,false⟩,⟨67,iG 92 85 true (.load false 1 91),false,false⟩,⟨68,iG 93 85 true (.lenS 92),false,false⟩]
 (.ef ⟨69,⟨some 94,some (85,true),.call 58 [93,(aI 1),(aI 50)]⟩,true,false⟩ [61,62,63,64,65]
 (.rd [⟨70,iG 95 85 true (.mv 94),false,false⟩,⟨71,iG 96 95 true (.faddr 6 1),false,false⟩,⟨72,iG 97 95 true (.load false 1 96),false,false⟩]
 (.ef ⟨73,⟨some 98,some (95,true),.call 62 [97,(.val (.clo (.func 63) [] []))]⟩,true,false⟩ [61,62,63,64,65]
 (.rd [⟨74,iG 99 85 true (.pick 95 98 (.val (.bool false))),false,false⟩]
 (.ef ⟨75,⟨some 100,some (85,true),.callV 86 [(aS [114]),90,99]⟩,true,false⟩ []
 f16d5)))))
def f16d3 : DT := .rd [⟨37,iO 62 (.pick 46 61 (.val (.bool false))),false,false⟩,⟨38,iO 63 (.mv 62),false,false⟩,⟨39,iG 64 63 true (.mv 5),false,true⟩,⟨40,iG 65 63 true (.faddr 4 1),false,false⟩,⟨41,iG 66 63 true (.load false 1 65),false,false⟩,⟨42,iG 67 63 true (.lenS 66),false,false⟩,⟨43,iG 68 63 true (.bin .eql .int 67 (aI 0)),false,false⟩,⟨44,iG 69 63 true (.mv 68),false,false⟩,⟨45,iG 70 69 true (.faddr 5 1),false,true⟩,⟨46,iG 71 69 true (.load false 1 70),false,true⟩,⟨47,iG 72 69 true (.un .not 71),false,true⟩,⟨48,iG 73 63 true (.pick 69 72 (.val (.bool false))),false,true⟩,⟨49,iG 74 63 true (.faddr 4 1),false,false⟩,⟨50,iG 75 63 true (.load false 1 74),false,false⟩,⟨51,iG 76 63 true (.lenS 75),false,false⟩]
 (.ef ⟨52,⟨some 77,some (63,true),.call 58 [76,(aI 1),(aI 4)]⟩,true,false⟩ [39,45,46,47,48]
 (.rd [⟨53,iG 78 63 true (.mv 77),false,false⟩,⟨54,iG 79 78 true (.faddr 4 1),false,false⟩,⟨55,iG 80 78 true (.load false 1 79),false,false⟩]
 (.ef ⟨56,⟨some 81,some (78,true),.call 61 [80,(.val (.clo (.func 57) [] []))]⟩,true,false⟩ [39,45,46,47,48]
 (.rd [⟨57,iG 82 63 true (.pick 78 81 (.val (.bool false))),false,false⟩]
 (.ef ⟨58,⟨some 83,some (63,true),.callV 64 [(aS [110]),73,82]⟩,true,false⟩ []
 f16d4)))))
def f16d2 : DT := .rd [⟨20,iO 45 (.pick 36 44 (.val (.bool false))),false,false⟩,⟨21,iO 46 (.mv 45),false,false⟩,⟨22,iG 47 46 true (.mv 5),false,true⟩,⟨23,iG 48 46 true (.faddr 3 1),false,true⟩,⟨24,iG 49 46 true (.load false 1 48),false,true⟩,⟨25,iG 50 46 true (.lenS 49),false,true⟩,⟨26,iG 51 46 true (.bin .eql .int 50 (aI 0)),false,true⟩,⟨27,iG 52 46 true (.faddr 3 1),false,false⟩,⟨28,iG 53 46 true (.load false 1 52),false,false⟩,⟨29,iG 54 46 true (.lenS 53),false,false⟩]
 (.ef ⟨30,⟨some 55,some (46,true),.call 58 [54,(aI 1),(aI 16)]⟩,true,false⟩ [22,23,24,25,26]
 (.rd [⟨31,iG 56 46 true (.mv 55),false,false⟩,⟨32,iG 57 56 true (.faddr 3 1),false,false⟩,⟨33,iG 58 56 true (.load false 1 57),false,false⟩]
 (.ef ⟨34,⟨some 59,some (56,true),.call 59 [58,(.val (.clo (.func 60) [] []))]⟩,true,false⟩ [22,23,24,25,26]
 (.rd [⟨35,iG 60 46 true (.pick 56 59 (.val (.bool false))),false,false⟩]
 (.ef ⟨36,⟨some 61,some (46,true),.callV 47 [(aS [99]),51,60]⟩,true,false⟩ []
 f16d3)))))
def f16d1 : DT := .rd [⟨10,iO 35 (.pick 26 34 (.val (.bool false))),false,false⟩,⟨11,iO 36 (.mv 35),false,false⟩,⟨12,iG 37 36 true (.mv 5),false,true⟩,⟨13,iG 38 36 true (.faddr 2 1),false,true⟩,⟨14,iG 39 36 true (.load false 1 38),false,true⟩,⟨15,iG 40 36 true (.bin .eql .str 39 (aS [])),false,true⟩,⟨16,iG 41 36 true (.faddr 2 1),false,false⟩,⟨17,iG 42 36 true (.load false 1 41),false,false⟩]
 (.ef ⟨18,⟨some 43,some (36,true),.call 57 [42]⟩,true,false⟩ [12,13,14,15]
 (.ef ⟨19,⟨some 44,some (36,true),.callV 37 [(aS [105]),40,43]⟩,true,false⟩ []
 f16d2))
def f16h (G : Nat → AVal) : MC :=
 .seq (.ops [iO 1 (.box true 18 0),iO 2 (.mv (.val (.bool false)))])
 (.seq (.ops [iO 10 (.faddr 0 1),iO 11 (.load false 1 10),iC 12 46 [11],iO 9 (.mv 12),iO 13 (.extract 9 0),iO 14 (.extract 9 1),iO 3 (.alloc 1 [.str []]),iZ (.store false 1 3 13),iO 4 (.mv 14)])
 (.seq (.ops [iO 15 (.mkfn (.func 47) [] [3]),iO 5 (.mv 15)])
 (.seq (.ops [iO 16 (.faddr 7 1),iO 17 (.load false 1 16),iC 18 49 [17,(.val (.clo (.func 50) [] []))],iO 6 (.mv 18)])
 (.seq (.ops [iO 19 (.faddr 16 1),iO 20 (.load false 1 19),iC 21 53 [20,(.val (.clo (.func 54) [] []))],iO 7 (.mv 21)])
 (.seq (.ops [iO 22 (.faddr 17 1),iO 23 (.load false 1 22),iC 24 55 [23,(.val (.clo (.func 56) [] []))],iO 8 (.mv 24)])
 (.seq (.draw (.rd [⟨0,iO 25 (.mv 4),false,false⟩,⟨1,iO 26 (.mv 25),false,false⟩,⟨2,iG 27 26 true (.mv 5),false,true⟩,⟨3,iG 28 26 true (.faddr 1 1),false,true⟩,⟨4,iG 29 26 true (.load false 1 28),false,true⟩,⟨5,iG 30 26 true (.bin .eql .str 29 (aS [])),false,true⟩,⟨6,iG 31 26 true (.faddr 1 1),false,false⟩,⟨7,iG 32 26 true (.load false 1 31),false,false⟩]
 (.ef ⟨8,⟨some 33,some (26,true),.call 57 [32]⟩,true,false⟩ [2,3,4,5]
 (.ef ⟨9,⟨some 34,some (26,true),.callV 27 [(aS [116]),30,33]⟩,true,false⟩ []
 f16d1))))
 (.ret)))))))
theorem f16m_eq (G : Nat → AVal) : f16m G = f16h G := rfl
end Go.Abs
namespace Go.Abs
open Go Go.RowKit Go.Proofs Go.Lx Go.Pz
variable {w0 : World}
def fromB (st : Stm) : Bool := between st.src.length 1 4 && srcB st.src
structure E16 (st : Stm) (b : Nat) (a : Tmps) : Prop where
 a1 : get a 1 = .ptr b 0 0
 a5 : get a 5 = .clo (.func 47) [] [.ptr (b + 1) 0 0]
 a6 : get a 6 = .bool (itemsB st)
 a7 : get a 7 = .bool (orderB st)
 a8 : get a 8 = .bool (setsB st)
structure C16 (w0 : World) (st : Stm) (b : Nat) (H : Heap) : Prop where
 cells : ∃ fC fN fR fI fF fO fS eR eI eF fl' es' k' n' s' t' q' eO eS,H[b]? = some (.cells 18 [[AVal.int st.kind,.str st.table,.str st.index,.list fC (pcolsC st.cols),.list fN (namesC st.names),.bool st.uniq,.list fR eR,.list fI eI,.list fF eF,.int (opOf st.wher),.list fl' es',.int k',.int n',.int s',.str t',.str q',.list fO eO,.list fS eS]] (some 1)) ∧
  eR.length = st.rows.length ∧ eI.length = st.items.length ∧ eF.length = st.src.length ∧ eO.length = st.order.length ∧ eS.length = st.sets.length ∧
  (ACalls Tryz.prog (B0 w0) 65 [.agg [.int (opOf st.wher),.list fl' es',.int k',.int n',.int s',.str t',.str q']] H fun e S' => e = .ret (.bool (perB st.wher)) ∧ S' = H) ∧
  (ACalls Tryz.prog (B0 w0) 64 [.list fF eF] H fun e S' => e = .ret (.bool (fromB st)) ∧ S' = H) ∧
  (ACalls Tryz.prog (B0 w0) 59 [.list fC (pcolsC st.cols),.clo (.func 60) [] []] H fun e S' => e = .ret (.bool (st.cols.all colB)) ∧ S' = H) ∧
  (ACalls Tryz.prog (B0 w0) 61 [.list fN (namesC st.names),.clo (.func 57) [] []] H fun e S' => e = .ret (.bool (st.names.all nameB)) ∧ S' = H) ∧
  (ACalls Tryz.prog (B0 w0) 62 [.list fR eR,.clo (.func 63) [] []] H fun e S' => e = .ret (.bool (st.rows.all rowB)) ∧ S' = H)
 u : H[b + 1]? = some (.cells 1 [[.str (usesT st.kind)]] (some 1))
section
variable {st : Stm} {b : Nat} {H : Heap} {a : Tmps} {p q : Bool} {Kp : AVal → Heap → Prop} {Q : Tmps → Heap → Prop}
set_option maxHeartbeats 2000000 in
theorem w16d7 (hc : C16 w0 st b H) (hm : Sm st) (he : E16 st b a) (hp : get a 139 = .bool p) (hq : p = true → get a 152 = .bool q) (hQ : ∀ a',get a' 2 = .bool (p && (q && hs8 st)) → Q a' H) :
  drawWp (ACalls Tryz.prog (B0 w0)) Kp f16d7 [] a H Q := by
 obtain ⟨⟨fC,fN,fR,fI,fF,fO,fS,eR,eI,eF,fl',es',k',n',s',t',q',eO,eS,hg,lR,lI,lF,lO,lS,h65,h64,h59,h61,h62⟩,hu⟩ := id hc
 obtain ⟨a1,a5,a6,a7,a8⟩ := id he
 have h47 := fun c z r => w47 (w0 := w0) hu c z r
 have hpq : (p && q) = true ∨ (p && q) = false := by cases (p && q) <;> simp
 rcases hpq with hpq | hpq
 rotate_left 1
 ·have hcase : p = false ∨ p = true ∧ q = false := by revert hpq; cases p <;> cases q <;> simp
  rcases hcase with rfl | ⟨rfl,rfl⟩
  ·simp [f16d7,hp,a1,a5,a6,a7,a8]
   exact hQ _ (by simp)
  ·have hq := hq rfl
   simp [f16d7,hp,hq,a1,a5,a6,a7,a8]
   exact hQ _ (by simp)
 rw [Bool.and_eq_true] at hpq
 obtain ⟨rfl,rfl⟩ := hpq
 have hq := hq rfl
 simp only [Bool.true_and] at hQ
 simp [f16d7,a1,a5,a6,a7,a8,hp,hq,hg]
 refine h65.use ?_
 rintro e S1 ⟨rfl,rfl⟩
 cases hw : perB st.wher with
 | false =>
   simp [a1,a5,a6,a7,a8,hp,hq,hg]
   refine h65.use ?_
   rintro e S1 ⟨rfl,rfl⟩
   simp [a1,a5,a6,a7,a8,hp,hq,hg]
   refine (h47 _ _ _).use ?_
   rintro e S1 ⟨rfl,rfl⟩
   have hz : zeroB st.wher = false := by
    have := hw
    simp only [perB,Bool.or_eq_false_iff] at this
    exact this.1
   have e8 : hasB (usesT st.kind) 119 false false = hs8 st := by rw [hs8,hz,hw]
   simp [hw,e8]
   exact hQ _ (by simp)
 | true =>
   have e8 : hasB (usesT st.kind) 119 (opOf st.wher == 0) true = hs8 st := by
    rw [hs8,hw]
    by_cases h0 : opOf st.wher = 0
    ·have := perB_zero h0
     rw [hw] at this
     rw [← this]; simp [h0]
    ·rw [zeroB_not h0,beq_eq_false_iff_ne.2 h0]
   simp [a1,a5,a6,a7,a8,hp,hq,hg]
   refine h65.use ?_
   rintro e S1 ⟨rfl,rfl⟩
   simp [a1,a5,a6,a7,a8,hp,hq,hg,hw]
   refine (h47 _ _ _).use ?_
   rintro e S1 ⟨rfl,rfl⟩
   simp [e8]
   exact hQ _ (by simp)
set_option maxHeartbeats 2000000 in
theorem w16d6 (hc : C16 w0 st b H) (hm : Sm st) (he : E16 st b a) (hp : get a 102 = .bool p) (hq : p = true → get a 137 = .bool q) (hQ : ∀ a',get a' 2 = .bool (p && (q && (hs7 st && hs8 st))) → Q a' H) :
  drawWp (ACalls Tryz.prog (B0 w0)) Kp f16d6 [] a H Q := by
 obtain ⟨⟨fC,fN,fR,fI,fF,fO,fS,eR,eI,eF,fl',es',k',n',s',t',q',eO,eS,hg,lR,lI,lF,lO,lS,h65,h64,h59,h61,h62⟩,hu⟩ := id hc
 obtain ⟨a1,a5,a6,a7,a8⟩ := id he
 have h47 := fun c z r => w47 (w0 := w0) hu c z r
 have hpq : (p && q) = true ∨ (p && q) = false := by cases (p && q) <;> simp
 rcases hpq with hpq | hpq
 rotate_left 1
 ·have hcase : p = false ∨ p = true ∧ q = false := by revert hpq; cases p <;> cases q <;> simp
  rcases hcase with rfl | ⟨rfl,rfl⟩
  ·simp [f16d6,hp,a1,a5,a6,a7,a8]
   refine w16d7 hc hm ⟨by simp [a1],by simp [a5],by simp [a6],by simp [a7],by simp [a8]⟩ (p := false) (q := false) (by simp) (by simp) ?_
   intro a' h
   exact hQ a' (by simpa using h)
  ·have hq := hq rfl
   simp [f16d6,hp,hq,a1,a5,a6,a7,a8]
   refine w16d7 hc hm ⟨by simp [a1],by simp [a5],by simp [a6],by simp [a7],by simp [a8]⟩ (p := false) (q := false) (by simp) (by simp) ?_
   intro a' h
   exact hQ a' (by simpa using h)
 rw [Bool.and_eq_true] at hpq
 obtain ⟨rfl,rfl⟩ := hpq
 have hq := hq rfl
 simp only [Bool.true_and] at hQ
 simp [f16d6,a1,a5,a6,a7,a8,hp,hq,hg,lS]
 refine (w58 _ _ _ _).use ?_
 rintro e S1 ⟨rfl,rfl⟩
 rw [show (decide (1 ≤ (st.sets.length : Int)) && decide ((st.sets.length : Int) ≤ 50)) = between st.sets.length 1 50 from count_between _ _ _]
 have e7 : hasB (usesT st.kind) 117 ((st.sets.length : Int) == 0) (between st.sets.length 1 50 && setsB st) = hs7 st := by rw [len_empty,hs7]
 cases hb : between st.sets.length 1 50 with
 | false =>
   rw [hb,Bool.false_and] at e7
   simp [a1,a5,a6,a7,a8,hp,hq,hg,lS]
   refine (h47 _ _ _).use ?_
   rintro e S1 ⟨rfl,rfl⟩
   simp [e7]
   refine w16d7 hc hm ⟨by simp [a1],by simp [a5],by simp [a6],by simp [a7],by simp [a8]⟩ (p := true) (q := hs7 st) (by simp) (by simp) ?_
   intro a' h
   exact hQ a' (by simpa using h)
 | true =>
   rw [hb,Bool.true_and] at e7
   simp [a1,a5,a6,a7,a8,hp,hq,hg,lS]
   refine (h47 _ _ _).use ?_
   rintro e S1 ⟨rfl,rfl⟩
   simp [e7]
   refine w16d7 hc hm ⟨by simp [a1],by simp [a5],by simp [a6],by simp [a7],by simp [a8]⟩ (p := true) (q := hs7 st) (by simp) (by simp) ?_
   intro a' h
   exact hQ a' (by simpa using h)
set_option maxHeartbeats 2000000 in
theorem w16d5 (hc : C16 w0 st b H) (hm : Sm st) (he : E16 st b a) (hp : get a 85 = .bool p) (hq : p = true → get a 100 = .bool q) (hQ : ∀ a',get a' 2 = .bool (p && (q && (hs6 st && (hs7 st && hs8 st)))) → Q a' H) :
  drawWp (ACalls Tryz.prog (B0 w0)) Kp f16d5 [] a H Q := by
 obtain ⟨⟨fC,fN,fR,fI,fF,fO,fS,eR,eI,eF,fl',es',k',n',s',t',q',eO,eS,hg,lR,lI,lF,lO,lS,h65,h64,h59,h61,h62⟩,hu⟩ := id hc
 obtain ⟨a1,a5,a6,a7,a8⟩ := id he
 have h47 := fun c z r => w47 (w0 := w0) hu c z r
 have hpq : (p && q) = true ∨ (p && q) = false := by cases (p && q) <;> simp
 rcases hpq with hpq | hpq
 rotate_left 1
 ·have hcase : p = false ∨ p = true ∧ q = false := by revert hpq; cases p <;> cases q <;> simp
  rcases hcase with rfl | ⟨rfl,rfl⟩
  ·simp [f16d5,hp,a1,a5,a6,a7,a8]
   refine w16d6 hc hm ⟨by simp [a1],by simp [a5],by simp [a6],by simp [a7],by simp [a8]⟩ (p := false) (q := false) (by simp) (by simp) ?_
   intro a' h
   exact hQ a' (by simpa using h)
  ·have hq := hq rfl
   simp [f16d5,hp,hq,a1,a5,a6,a7,a8]
   refine w16d6 hc hm ⟨by simp [a1],by simp [a5],by simp [a6],by simp [a7],by simp [a8]⟩ (p := false) (q := false) (by simp) (by simp) ?_
   intro a' h
   exact hQ a' (by simpa using h)
 rw [Bool.and_eq_true] at hpq
 obtain ⟨rfl,rfl⟩ := hpq
 have hq := hq rfl
 simp only [Bool.true_and] at hQ
 have hmi := hm.items
 have hms := hm.src
 have hmo := hm.order
 have w1 : IntKind.i64.wrap ((st.items.length : Int) + (st.src.length : Int)) = ((st.items.length + st.src.length : Nat) : Int) := by rw [wrap64_in (by omega) (by omega)]; omega
 have w2 : IntKind.i64.wrap (((st.items.length + st.src.length : Nat) : Int) + (st.order.length : Int)) = ((st.items.length + st.src.length + st.order.length : Nat) : Int) := by rw [wrap64_in (by omega) (by omega)]; omega
 have w3 : (((st.items.length + st.src.length + st.order.length : Nat) : Int) == 0) = (st.items.isEmpty && st.src.isEmpty && st.order.isEmpty) := by
  rw [← len_empty,← len_empty,← len_empty,Bool.eq_iff_iff]; simp only [Bool.and_eq_true,beq_iff_eq]; omega
 have e6 : ∀ R,R = (decide (st.items.length ≤ 50) && itemsB st && fromB st && decide (st.order.length ≤ 50) && orderB st) → hasB (usesT st.kind) 115 (st.items.isEmpty && st.src.isEmpty && st.order.isEmpty) R = hs6 st := fun R h => by rw [h,hs6,fromB]
 have w1' : IntKind.i64.wrap ((st.items.length : Int) + (st.src.length : Int)) = ((st.items.length : Int) + (st.src.length : Int)) := by rw [w1]; omega
 have w2' : IntKind.i64.wrap (((st.items.length : Int) + (st.src.length : Int)) + (st.order.length : Int)) = ((st.items.length : Int) + (st.src.length : Int)) + (st.order.length : Int) := by rw [wrap64_in (by omega) (by omega)]
 have w3' : ((((st.items.length : Int) + (st.src.length : Int)) + (st.order.length : Int)) == 0) = (st.items.isEmpty && st.src.isEmpty && st.order.isEmpty) := by rw [← w3]; congr 1
 generalize (st.items.isEmpty && st.src.isEmpty && st.order.isEmpty) = Z at *
 by_cases c1 : st.items.length ≤ 50
 rotate_left 1
 ·have c1' : ¬ (st.items.length : Int) ≤ 50 := by omega
  simp [f16d5,a1,a5,a6,a7,a8,hp,hq,hg,lI,lF,lO,w1',w2',w3',c1,c1']
  refine (h47 _ _ _).use ?_
  rintro e S1 ⟨rfl,rfl⟩
  simp [e6 false (by simp [c1])]
  refine w16d6 hc hm ⟨by simp [a1],by simp [a5],by simp [a6],by simp [a7],by simp [a8]⟩ (p := true) (q := hs6 st) (by simp) (by simp) ?_
  intro a' h
  exact hQ a' (by simpa using h)
 have c1' : (st.items.length : Int) ≤ 50 := by omega
 cases c2 : itemsB st with
 | false =>
   simp [f16d5,a1,a5,a6,a7,a8,hp,hq,hg,lI,lF,lO,w1',w2',w3',c1,c1',c2]
   refine (h47 _ _ _).use ?_
   rintro e S1 ⟨rfl,rfl⟩
   simp [e6 false (by simp [c2])]
   refine w16d6 hc hm ⟨by simp [a1],by simp [a5],by simp [a6],by simp [a7],by simp [a8]⟩ (p := true) (q := hs6 st) (by simp) (by simp) ?_
   intro a' h
   exact hQ a' (by simpa using h)
 | true =>
 cases c3 : fromB st with
 | false =>
   rw [c3] at h64
   have e6f := e6 false (by simp [c1,c2,c3])
   simp [f16d5,a1,a5,a6,a7,a8,hp,hq,hg,lI,lF,lO,w1',w2',w3',c1,c1',c2]
   refine h64.use ?_
   rintro e S1 ⟨rfl,rfl⟩
   simp [a1,a5,a6,a7,a8,hp,hq,hg,lI,lF,lO,w1',w2',w3']
   refine (h47 _ _ _).use ?_
   rintro e S1 ⟨rfl,rfl⟩
   simp [e6f]
   refine w16d6 hc hm ⟨by simp [a1],by simp [a5],by simp [a6],by simp [a7],by simp [a8]⟩ (p := true) (q := hs6 st) (by simp) (by simp) ?_
   intro a' h
   exact hQ a' (by simpa using h)
 | true =>
 rw [c3] at h64
 by_cases c4 : st.order.length ≤ 50
 rotate_left 1
 ·have c4' : ¬ (st.order.length : Int) ≤ 50 := by omega
  have e6f := e6 false (by simp [c4])
  simp [f16d5,a1,a5,a6,a7,a8,hp,hq,hg,lI,lF,lO,w1',w2',w3',c1,c1',c2]
  refine h64.use ?_
  rintro e S1 ⟨rfl,rfl⟩
  simp [a1,a5,a6,a7,a8,hp,hq,hg,lI,lF,lO,w1',w2',w3',c4,c4']
  refine (h47 _ _ _).use ?_
  rintro e S1 ⟨rfl,rfl⟩
  simp [e6f]
  refine w16d6 hc hm ⟨by simp [a1],by simp [a5],by simp [a6],by simp [a7],by simp [a8]⟩ (p := true) (q := hs6 st) (by simp) (by simp) ?_
  intro a' h
  exact hQ a' (by simpa using h)
 have c4' : (st.order.length : Int) ≤ 50 := by omega
 have e6f := e6 (orderB st) (by simp [c1,c2,c3,c4])
 simp [f16d5,a1,a5,a6,a7,a8,hp,hq,hg,lI,lF,lO,w1',w2',w3',c1,c1',c2]
 refine h64.use ?_
 rintro e S1 ⟨rfl,rfl⟩
 simp [a1,a5,a6,a7,a8,hp,hq,hg,lI,lF,lO,w1',w2',w3',c4,c4']
 refine (h47 _ _ _).use ?_
 rintro e S1 ⟨rfl,rfl⟩
 simp [e6f]
 refine w16d6 hc hm ⟨by simp [a1],by simp [a5],by simp [a6],by simp [a7],by simp [a8]⟩ (p := true) (q := hs6 st) (by simp) (by simp) ?_
 intro a' h
 exact hQ a' (by simpa using h)
set_option maxHeartbeats 2000000 in
theorem w16d4 (hc : C16 w0 st b H) (hm : Sm st) (he : E16 st b a) (hp : get a 63 = .bool p) (hq : p = true → get a 83 = .bool q) (hQ : ∀ a',get a' 2 = .bool (p && (q && (hs5 st && (hs6 st && (hs7 st && hs8 st))))) → Q a' H) :
  drawWp (ACalls Tryz.prog (B0 w0)) Kp f16d4 [] a H Q := by
 obtain ⟨⟨fC,fN,fR,fI,fF,fO,fS,eR,eI,eF,fl',es',k',n',s',t',q',eO,eS,hg,lR,lI,lF,lO,lS,h65,h64,h59,h61,h62⟩,hu⟩ := id hc
 obtain ⟨a1,a5,a6,a7,a8⟩ := id he
 have h47 := fun c z r => w47 (w0 := w0) hu c z r
 have hpq : (p && q) = true ∨ (p && q) = false := by cases (p && q) <;> simp
 rcases hpq with hpq | hpq
 rotate_left 1
 ·have hcase : p = false ∨ p = true ∧ q = false := by revert hpq; cases p <;> cases q <;> simp
  rcases hcase with rfl | ⟨rfl,rfl⟩
  ·simp [f16d4,hp,a1,a5,a6,a7,a8]
   refine w16d5 hc hm ⟨by simp [a1],by simp [a5],by simp [a6],by simp [a7],by simp [a8]⟩ (p := false) (q := false) (by simp) (by simp) ?_
   intro a' h
   exact hQ a' (by simpa using h)
  ·have hq := hq rfl
   simp [f16d4,hp,hq,a1,a5,a6,a7,a8]
   refine w16d5 hc hm ⟨by simp [a1],by simp [a5],by simp [a6],by simp [a7],by simp [a8]⟩ (p := false) (q := false) (by simp) (by simp) ?_
   intro a' h
   exact hQ a' (by simpa using h)
 rw [Bool.and_eq_true] at hpq
 obtain ⟨rfl,rfl⟩ := hpq
 have hq := hq rfl
 simp only [Bool.true_and] at hQ
 have e5 : ∀ R,R = (between st.rows.length 1 50 && st.rows.all rowB) → hasB (usesT st.kind) 114 ((st.rows.length : Int) == 0) R = hs5 st := fun R h => by rw [h,hs5,len_empty]
 simp [f16d4,a1,a5,a6,a7,a8,hp,hq,hg,lR]
 refine (w58 _ _ _ _).use ?_
 rintro e S1 ⟨rfl,rfl⟩
 rw [show (decide (1 ≤ (st.rows.length : Int)) && decide ((st.rows.length : Int) ≤ 50)) = between st.rows.length 1 50 from count_between _ _ _]
 cases hb : between st.rows.length 1 50 with
 | false =>
   simp [a1,a5,a6,a7,a8,hp,hq,hg,lR]
   refine (h47 _ _ _).use ?_
   rintro e S1 ⟨rfl,rfl⟩
   simp [e5 false (by simp [hb])]
   refine w16d5 hc hm ⟨by simp [a1],by simp [a5],by simp [a6],by simp [a7],by simp [a8]⟩ (p := true) (q := hs5 st) (by simp) (by simp) ?_
   intro a' h
   exact hQ a' (by simpa using h)
 | true =>
   simp [a1,a5,a6,a7,a8,hp,hq,hg,lR]
   refine h62.use ?_
   rintro e S1 ⟨rfl,rfl⟩
   simp [a1,a5,a6,a7,a8,hp,hq,hg,lR]
   refine (h47 _ _ _).use ?_
   rintro e S1 ⟨rfl,rfl⟩
   simp [e5 (st.rows.all rowB) (by simp [hb])]
   refine w16d5 hc hm ⟨by simp [a1],by simp [a5],by simp [a6],by simp [a7],by simp [a8]⟩ (p := true) (q := hs5 st) (by simp) (by simp) ?_
   intro a' h
   exact hQ a' (by simpa using h)
set_option maxHeartbeats 2000000 in
theorem w16d3 (hc : C16 w0 st b H) (hm : Sm st) (he : E16 st b a) (hp : get a 46 = .bool p) (hq : p = true → get a 61 = .bool q) (hQ : ∀ a',get a' 2 = .bool (p && (q && (hs4 st && (hs5 st && (hs6 st && (hs7 st && hs8 st)))))) → Q a' H) :
  drawWp (ACalls Tryz.prog (B0 w0)) Kp f16d3 [] a H Q := by
 obtain ⟨⟨fC,fN,fR,fI,fF,fO,fS,eR,eI,eF,fl',es',k',n',s',t',q',eO,eS,hg,lR,lI,lF,lO,lS,h65,h64,h59,h61,h62⟩,hu⟩ := id hc
 obtain ⟨a1,a5,a6,a7,a8⟩ := id he
 have h47 := fun c z r => w47 (w0 := w0) hu c z r
 have hpq : (p && q) = true ∨ (p && q) = false := by cases (p && q) <;> simp
 rcases hpq with hpq | hpq
 rotate_left 1
 ·have hcase : p = false ∨ p = true ∧ q = false := by revert hpq; cases p <;> cases q <;> simp
  rcases hcase with rfl | ⟨rfl,rfl⟩
  ·simp [f16d3,hp,a1,a5,a6,a7,a8]
   refine w16d4 hc hm ⟨by simp [a1],by simp [a5],by simp [a6],by simp [a7],by simp [a8]⟩ (p := false) (q := false) (by simp) (by simp) ?_
   intro a' h
   exact hQ a' (by simpa using h)
  ·have hq := hq rfl
   simp [f16d3,hp,hq,a1,a5,a6,a7,a8]
   refine w16d4 hc hm ⟨by simp [a1],by simp [a5],by simp [a6],by simp [a7],by simp [a8]⟩ (p := false) (q := false) (by simp) (by simp) ?_
   intro a' h
   exact hQ a' (by simpa using h)
 rw [Bool.and_eq_true] at hpq
 obtain ⟨rfl,rfl⟩ := hpq
 have hq := hq rfl
 simp only [Bool.true_and] at hQ
 have e4 : ∀ Z R,Z = (st.names.isEmpty && !st.uniq) → R = (between st.names.length 1 4 && st.names.all nameB) → hasB (usesT st.kind) 110 Z R = hs4 st := fun Z R hZ h => by rw [h,hZ,hs4]
 have hl := len_empty st.names
 cases hz : st.names.isEmpty with
 | false =>
   rw [hz] at hl
   simp [f16d3,a1,a5,a6,a7,a8,hp,hq,hg,hl]
   refine (w58 _ _ _ _).use ?_
   rintro e S1 ⟨rfl,rfl⟩
   rw [show (decide (1 ≤ (st.names.length : Int)) && decide ((st.names.length : Int) ≤ 4)) = between st.names.length 1 4 from count_between _ _ _]
   cases hb : between st.names.length 1 4 with
   | false =>
     simp [a1,a5,a6,a7,a8,hp,hq,hg]
     refine (h47 _ _ _).use ?_
     rintro e S1 ⟨rfl,rfl⟩
     simp [e4 false false (by simp [hz]) (by simp [hb])]
     refine w16d4 hc hm ⟨by simp [a1],by simp [a5],by simp [a6],by simp [a7],by simp [a8]⟩ (p := true) (q := hs4 st) (by simp) (by simp) ?_
     intro a' h
     exact hQ a' (by simpa using h)
   | true =>
     simp [a1,a5,a6,a7,a8,hp,hq,hg]
     refine h61.use ?_
     rintro e S1 ⟨rfl,rfl⟩
     simp [a1,a5,a6,a7,a8,hp,hq,hg]
     refine (h47 _ _ _).use ?_
     rintro e S1 ⟨rfl,rfl⟩
     simp [e4 false (st.names.all nameB) (by simp [hz]) (by simp [hb])]
     refine w16d4 hc hm ⟨by simp [a1],by simp [a5],by simp [a6],by simp [a7],by simp [a8]⟩ (p := true) (q := hs4 st) (by simp) (by simp) ?_
     intro a' h
     exact hQ a' (by simpa using h)
 | true =>
   rw [hz] at hl
   simp [f16d3,a1,a5,a6,a7,a8,hp,hq,hg,hl]
   refine (w58 _ _ _ _).use ?_
   rintro e S1 ⟨rfl,rfl⟩
   rw [show (decide (1 ≤ (st.names.length : Int)) && decide ((st.names.length : Int) ≤ 4)) = between st.names.length 1 4 from count_between _ _ _]
   cases hb : between st.names.length 1 4 with
   | false =>
     simp [a1,a5,a6,a7,a8,hp,hq,hg]
     refine (h47 _ _ _).use ?_
     rintro e S1 ⟨rfl,rfl⟩
     simp [e4 (!st.uniq) false (by simp [hz]) (by simp [hb])]
     refine w16d4 hc hm ⟨by simp [a1],by simp [a5],by simp [a6],by simp [a7],by simp [a8]⟩ (p := true) (q := hs4 st) (by simp) (by simp) ?_
     intro a' h
     exact hQ a' (by simpa using h)
   | true =>
     simp [a1,a5,a6,a7,a8,hp,hq,hg]
     refine h61.use ?_
     rintro e S1 ⟨rfl,rfl⟩
     simp [a1,a5,a6,a7,a8,hp,hq,hg]
     refine (h47 _ _ _).use ?_
     rintro e S1 ⟨rfl,rfl⟩
     simp [e4 (!st.uniq) (st.names.all nameB) (by simp [hz]) (by simp [hb])]
     refine w16d4 hc hm ⟨by simp [a1],by simp [a5],by simp [a6],by simp [a7],by simp [a8]⟩ (p := true) (q := hs4 st) (by simp) (by simp) ?_
     intro a' h
     exact hQ a' (by simpa using h)
set_option maxHeartbeats 2000000 in
theorem w16d2 (hc : C16 w0 st b H) (hm : Sm st) (he : E16 st b a) (hp : get a 36 = .bool p) (hq : p = true → get a 44 = .bool q) (hQ : ∀ a',get a' 2 = .bool (p && (q && (hs3 st && (hs4 st && (hs5 st && (hs6 st && (hs7 st && hs8 st))))))) → Q a' H) :
  drawWp (ACalls Tryz.prog (B0 w0)) Kp f16d2 [] a H Q := by
 obtain ⟨⟨fC,fN,fR,fI,fF,fO,fS,eR,eI,eF,fl',es',k',n',s',t',q',eO,eS,hg,lR,lI,lF,lO,lS,h65,h64,h59,h61,h62⟩,hu⟩ := id hc
 obtain ⟨a1,a5,a6,a7,a8⟩ := id he
 have h47 := fun c z r => w47 (w0 := w0) hu c z r
 have hpq : (p && q) = true ∨ (p && q) = false := by cases (p && q) <;> simp
 rcases hpq with hpq | hpq
 rotate_left 1
 ·have hcase : p = false ∨ p = true ∧ q = false := by revert hpq; cases p <;> cases q <;> simp
  rcases hcase with rfl | ⟨rfl,rfl⟩
  ·simp [f16d2,hp,a1,a5,a6,a7,a8]
   refine w16d3 hc hm ⟨by simp [a1],by simp [a5],by simp [a6],by simp [a7],by simp [a8]⟩ (p := false) (q := false) (by simp) (by simp) ?_
   intro a' h
   exact hQ a' (by simpa using h)
  ·have hq := hq rfl
   simp [f16d2,hp,hq,a1,a5,a6,a7,a8]
   refine w16d3 hc hm ⟨by simp [a1],by simp [a5],by simp [a6],by simp [a7],by simp [a8]⟩ (p := false) (q := false) (by simp) (by simp) ?_
   intro a' h
   exact hQ a' (by simpa using h)
 rw [Bool.and_eq_true] at hpq
 obtain ⟨rfl,rfl⟩ := hpq
 have hq := hq rfl
 simp only [Bool.true_and] at hQ
 have e3 : ∀ R,R = (between st.cols.length 1 16 && st.cols.all colB) → hasB (usesT st.kind) 99 ((st.cols.length : Int) == 0) R = hs3 st := fun R h => by rw [h,hs3,len_empty]
 simp [f16d2,a1,a5,a6,a7,a8,hp,hq,hg]
 refine (w58 _ _ _ _).use ?_
 rintro e S1 ⟨rfl,rfl⟩
 rw [show (decide (1 ≤ (st.cols.length : Int)) && decide ((st.cols.length : Int) ≤ 16)) = between st.cols.length 1 16 from count_between _ _ _]
 cases hb : between st.cols.length 1 16 with
 | false =>
   simp [a1,a5,a6,a7,a8,hp,hq,hg]
   refine (h47 _ _ _).use ?_
   rintro e S1 ⟨rfl,rfl⟩
   simp [e3 false (by simp [hb])]
   refine w16d3 hc hm ⟨by simp [a1],by simp [a5],by simp [a6],by simp [a7],by simp [a8]⟩ (p := true) (q := hs3 st) (by simp) (by simp) ?_
   intro a' h
   exact hQ a' (by simpa using h)
 | true =>
   simp [a1,a5,a6,a7,a8,hp,hq,hg]
   refine h59.use ?_
   rintro e S1 ⟨rfl,rfl⟩
   simp [a1,a5,a6,a7,a8,hp,hq,hg]
   refine (h47 _ _ _).use ?_
   rintro e S1 ⟨rfl,rfl⟩
   simp [e3 (st.cols.all colB) (by simp [hb])]
   refine w16d3 hc hm ⟨by simp [a1],by simp [a5],by simp [a6],by simp [a7],by simp [a8]⟩ (p := true) (q := hs3 st) (by simp) (by simp) ?_
   intro a' h
   exact hQ a' (by simpa using h)
set_option maxHeartbeats 2000000 in
theorem w16d1 (hc : C16 w0 st b H) (hm : Sm st) (he : E16 st b a) (hp : get a 26 = .bool p) (hq : p = true → get a 34 = .bool q) (hQ : ∀ a',get a' 2 = .bool (p && (q && (hs2 st && (hs3 st && (hs4 st && (hs5 st && (hs6 st && (hs7 st && hs8 st)))))))) → Q a' H) :
  drawWp (ACalls Tryz.prog (B0 w0)) Kp f16d1 [] a H Q := by
 obtain ⟨⟨fC,fN,fR,fI,fF,fO,fS,eR,eI,eF,fl',es',k',n',s',t',q',eO,eS,hg,lR,lI,lF,lO,lS,h65,h64,h59,h61,h62⟩,hu⟩ := id hc
 obtain ⟨a1,a5,a6,a7,a8⟩ := id he
 have h47 := fun c z r => w47 (w0 := w0) hu c z r
 have hpq : (p && q) = true ∨ (p && q) = false := by cases (p && q) <;> simp
 rcases hpq with hpq | hpq
 rotate_left 1
 ·have hcase : p = false ∨ p = true ∧ q = false := by revert hpq; cases p <;> cases q <;> simp
  rcases hcase with rfl | ⟨rfl,rfl⟩
  ·simp [f16d1,hp,a1,a5,a6,a7,a8]
   refine w16d2 hc hm ⟨by simp [a1],by simp [a5],by simp [a6],by simp [a7],by simp [a8]⟩ (p := false) (q := false) (by simp) (by simp) ?_
   intro a' h
   exact hQ a' (by simpa using h)
  ·have hq := hq rfl
   simp [f16d1,hp,hq,a1,a5,a6,a7,a8]
   refine w16d2 hc hm ⟨by simp [a1],by simp [a5],by simp [a6],by simp [a7],by simp [a8]⟩ (p := false) (q := false) (by simp) (by simp) ?_
   intro a' h
   exact hQ a' (by simpa using h)
 rw [Bool.and_eq_true] at hpq
 obtain ⟨rfl,rfl⟩ := hpq
 have hq := hq rfl
 simp only [Bool.true_and] at hQ
 have e2 : hasB (usesT st.kind) 105 (decide (st.index = [])) (nameB st.index) = hs2 st := rfl
 simp [f16d1,a1,a5,a6,a7,a8,hp,hq,hg]
 refine (w57 _ _).use ?_
 rintro e S1 ⟨rfl,rfl⟩
 simp [a1,a5,a6,a7,a8,hp,hq,hg]
 refine (h47 _ _ _).use ?_
 rintro e S1 ⟨rfl,rfl⟩
 simp [e2]
 refine w16d2 hc hm ⟨by simp [a1],by simp [a5],by simp [a6],by simp [a7],by simp [a8]⟩ (p := true) (q := hs2 st) (by simp) (by simp) ?_
 intro a' h
 exact hQ a' (by simpa using h)
end
end Go.Abs
namespace Go.Abs
open Go Go.RowKit Go.Proofs Go.Lx Go.Pz
variable {w0 : World}
set_option maxHeartbeats 4000000 in
theorem w16 (hT : Tb w0) {st : Stm} (hm : Sm st) {c : List AVal} (hc : StV st c) (S : Heap) : ACalls Tryz.prog (B0 w0) 16 [.agg c] S fun e S' => e = .ret (.bool (rightB st)) ∧ S' = S := by
 obtain ⟨fC,fN,fR,fI,fF,fO,fS,eR,eI,eF,ew,eO,eS,rfl,hw,hR,hI,hF,hO,hS⟩ := hc
 refine ACalls.close (R := fun e S' => e = .ret (.bool (rightB st)) ∧ S'.take S.length = S) ?_ ?_
 rotate_left 1
 ·rintro e S' ⟨rfl,ht⟩
  exact .flat ht rfl ⟨rfl,rfl⟩
 have h65 := fun S => w65 hT (x := st.wher) (by have := (hm.w _ mem_wher).1; omega) (hm.w _ mem_wher).2 hw S
 have h64 := fun S => w64 hT (fl := fF) hF hm.src (fun x hx => hm.w _ (mem_src hx)) S
 have h49 := fun S => w49 (w0 := w0) (l := st.items) (es := eI) (p := fun x => okE x.e && aliasB x.name) (fo := 50) (S := S) (Rk.list fI eI) hI.1 (fun i hi => by obtain ⟨ev,h,e⟩ := hI.2 i hi; rw [e]; simp [ExV_len h])
  (fun i hi => by obtain ⟨ev,h,e⟩ := hI.2 i hi; rw [e]; have := List.all_eq_true.1 (ExV_one h); intro x hx; simp at hx; rcases hx with hx | rfl; exact this x hx; rfl) (by have := hm.items; omega)
  fun i hi g => w50 hT (hm.w _ (mem_items (List.getElem_mem hi))).1 (hm.w _ (mem_items (List.getElem_mem hi))).2 (hI.2 i hi) _
 have h53 := fun S => w53 (w0 := w0) (l := st.order) (es := eO) (p := fun x => okE x.e) (fo := 54) (S := S) (Rk.list fO eO) hO.1 (fun i hi => by obtain ⟨ev,h,e⟩ := hO.2 i hi; rw [e]; simp [ExV_len h])
  (fun i hi => by obtain ⟨ev,h,e⟩ := hO.2 i hi; rw [e]; have := List.all_eq_true.1 (ExV_one h); intro x hx; simp at hx; rcases hx with hx | rfl; exact this x hx; rfl) (by have := hm.order; omega)
  fun i hi g => w54 hT (hm.w _ (mem_order (List.getElem_mem hi))).1 (hm.w _ (mem_order (List.getElem_mem hi))).2 (hO.2 i hi) _
 have h55 := fun S => w55 (w0 := w0) (l := st.sets) (es := eS) (p := fun x => nameB x.col && okE x.e) (fo := 56) (S := S) (Rk.list fS eS) hS.1 (fun i hi => by obtain ⟨ev,h,e⟩ := hS.2 i hi; rw [e]; simp [ExV_len h])
  (fun i hi => by obtain ⟨ev,h,e⟩ := hS.2 i hi; rw [e]; have := List.all_eq_true.1 (ExV_one h); intro x hx; simp at hx; rcases hx with rfl | hx; rfl; exact this x hx) (by have := hm.sets; omega)
  fun i hi g => w56 hT (hm.w _ (mem_sets (List.getElem_mem hi))).1 (hm.w _ (mem_sets (List.getElem_mem hi))).2 (hS.2 i hi) _
 have h59 := fun S => w59 (w0 := w0) (l := st.cols) (es := pcolsC st.cols) (p := colB) (fo := 60) (S := S) (Rk.list fC _) (by simp) (fun i hi => by rw [pcols_get hi]; rfl)
  (fun i hi => by rw [pcols_get hi]; simp [pcolC]) (by have := hm.cols; omega)
  fun i hi g => by rw [pcols_get hi]; exact w60 _ _
 have h61 := fun S => w61 (w0 := w0) (l := st.names) (es := namesC st.names) (p := nameB) (fo := 57) (S := S) (Rk.list fN _) (by simp) (fun i hi => by rw [names_get hi]; rfl)
  (by have := hm.names; omega) fun i hi g => by rw [names_get hi]; exact w57 _ _
 have h62 := fun S => w62 (w0 := w0) (l := st.rows) (es := eR) (p := rowB) (fo := 63) (S := S) (Rk.list fR eR) hR.1 (fun i hi => by obtain ⟨fl,es,e,h⟩ := hR.2 i hi; rw [e]; rfl)
  (by have := hm.rows; omega) fun i hi g => by
   obtain ⟨fl,es,e,h⟩ := hR.2 i hi
   rw [e]
   have hsub : ∀ x ∈ st.rows[i],x ∈ exsS st := fun x hx => mem_rows (List.getElem_mem hi) hx
   exact w63 hT h (rows_len hm (List.getElem_mem hi)) (fun x hx => hm.w x (hsub x hx)) _
 obtain ⟨fl',es',k',n',s',t',q',rfl⟩ := ExV_cells hw
 refine fn_sound tryOrd (f16_c _) (by simp [f16]) ?_
 rw [f16,f16m_eq,f16h,mwp_seq]
 simp [-mwp_seq]
 rw [mwp_seq]
 simp [-mwp_seq]
 refine (w46 st.kind _).use ?_
 rintro e S1 ⟨rfl,rfl⟩
 simp [-mwp_seq]
 generalize hu : (if kindB st.kind = true then usesT st.kind else []) = u
 obtain ⟨H,hH⟩ : ∃ H,H = S ++ [AObj.cells 18 [[AVal.int st.kind,.str st.table,.str st.index,.list fC (pcolsC st.cols),.list fN (namesC st.names),.bool st.uniq,.list fR eR,.list fI eI,.list fF eF,.int (opOf st.wher),.list fl' es',.int k',.int n',.int s',.str t',.str q',.list fO eO,.list fS eS]] (some 1),.cells 1 [[.str u]] (some 1)] := ⟨_,rfl⟩
 have hg : H[S.length]? = some (.cells 18 [[AVal.int st.kind,.str st.table,.str st.index,.list fC (pcolsC st.cols),.list fN (namesC st.names),.bool st.uniq,.list fR eR,.list fI eI,.list fF eF,.int (opOf st.wher),.list fl' es',.int k',.int n',.int s',.str t',.str q',.list fO eO,.list fS eS]] (some 1)) := by rw [hH]; simp
 have hgu : H[S.length + 1]? = some (.cells 1 [[.str u]] (some 1)) := by rw [hH,List.getElem?_append_right (by omega)]; simp
 have ht : H.take S.length = S := by rw [hH]; simp
 rw [← hH]
 rw [mwp_seq]
 simp [-mwp_seq]
 rw [mwp_seq]
 simp [-mwp_seq,hg]
 refine (h49 _).use ?_
 rintro e S1 ⟨rfl,rfl⟩
 simp [-mwp_seq]
 rw [mwp_seq]
 simp [-mwp_seq,hg]
 refine (h53 _).use ?_
 rintro e S1 ⟨rfl,rfl⟩
 simp [-mwp_seq]
 rw [mwp_seq]
 simp [-mwp_seq,hg]
 refine (h55 _).use ?_
 rintro e S1 ⟨rfl,rfl⟩
 simp [-mwp_seq]
 rw [mwp_seq]
 cases hk : kindB st.kind with
 | false => simp [f16d1,f16d2,f16d3,f16d4,f16d5,f16d6,f16d7,hg,hk,rightB,ht]
 | true =>
 rw [hk,if_pos rfl] at hu
 subst hu
 have hC : C16 w0 st S.length S1 := ⟨⟨fC,fN,fR,fI,fF,fO,fS,eR,eI,eF,fl',es',k',n',s',t',q',eO,eS,hg,hR.1,hI.1,hF.1,hO.1,hS.1,h65 _,h64 _,h59 _,h61 _,h62 _⟩,hgu⟩
 have h47 := fun c z r => w47 (w0 := w0) hgu c z r
 simp [hg,hk]
 refine (w57 st.table _).use ?_
 rintro e S2 ⟨rfl,rfl⟩
 simp [hg]
 refine (h47 _ _ _).use ?_
 rintro e S2 ⟨rfl,rfl⟩
 rw [show hasB (usesT st.kind) 116 (decide (st.table = [])) (nameB st.table) = hs1 st from rfl]
 simp
 refine w16d1 hC hm ⟨by simp,by simp,by simp [itemsB],by simp [orderB],by simp [setsB]⟩ (p := true) (q := hs1 st) (by simp [hk]) (by simp) ?_
 intro a' h
 have hr : rightB st = (true && (hs1 st && (hs2 st && (hs3 st && (hs4 st && (hs5 st && (hs6 st && (hs7 st && hs8 st)))))))) := by simp [rightB,hk,Bool.and_assoc]
 simp [h,ht,hr]
end Go.Abs
namespace Go.Abs
open Go.Lx Go.Pz
theorem kind_cases {k : Int} (h : kindB k = true) : k = 1 ∨ k = 2 ∨ k = 3 ∨ k = 4 ∨ k = 5 ∨ k = 6 ∨ k = 7 ∨ k = 8 ∨ k = 9 ∨ k = 10 ∨ k = 11 := by
 simp only [kindB,Bool.and_eq_true,decide_eq_true_eq] at h; omega
section
variable {k : Int} (h : kindB k = true) (z r : Bool)
include h
theorem has_t : hasB (usesT k) 116 z r = if tableU k then r else z := by
 rcases kind_cases h with rfl | rfl | rfl | rfl | rfl | rfl | rfl | rfl | rfl | rfl | rfl <;> rfl
theorem has_i : hasB (usesT k) 105 z r = if indexU k then r else z := by
 rcases kind_cases h with rfl | rfl | rfl | rfl | rfl | rfl | rfl | rfl | rfl | rfl | rfl <;> rfl
theorem has_c : hasB (usesT k) 99 z r = if k = 1 then r else z := by
 rcases kind_cases h with rfl | rfl | rfl | rfl | rfl | rfl | rfl | rfl | rfl | rfl | rfl <;> rfl
theorem has_n : hasB (usesT k) 110 z r = if k = 3 then r else z := by
 rcases kind_cases h with rfl | rfl | rfl | rfl | rfl | rfl | rfl | rfl | rfl | rfl | rfl <;> rfl
theorem has_r : hasB (usesT k) 114 z r = if k = 5 then r else z := by
 rcases kind_cases h with rfl | rfl | rfl | rfl | rfl | rfl | rfl | rfl | rfl | rfl | rfl <;> rfl
theorem has_s : hasB (usesT k) 115 z r = if k = 6 then r else z := by
 rcases kind_cases h with rfl | rfl | rfl | rfl | rfl | rfl | rfl | rfl | rfl | rfl | rfl <;> rfl
theorem has_u : hasB (usesT k) 117 z r = if k = 7 then r else z := by
 rcases kind_cases h with rfl | rfl | rfl | rfl | rfl | rfl | rfl | rfl | rfl | rfl | rfl <;> rfl
theorem has_w : hasB (usesT k) 119 z r = if k = 6 ∨ k = 7 ∨ k = 8 then r else z := by
 rcases kind_cases h with rfl | rfl | rfl | rfl | rfl | rfl | rfl | rfl | rfl | rfl | rfl <;> rfl
end
theorem rightB_eq (st : Stm) : rightB st = okS st := by
 unfold rightB
 cases h : kindB st.kind with
 | false =>
   have h' : (decide (1 ≤ st.kind) && decide (st.kind ≤ 11)) = false := h
   simp [okS,h']
 | true =>
   have h' : (decide (1 ≤ st.kind) && decide (st.kind ≤ 11)) = true := h
   rw [hs1,hs2,hs3,hs4,hs5,hs6,hs7,hs8,has_t h,has_i h,has_c h,has_n h,has_r h,has_s h,has_u h,has_w h]
   have e : rowB = fun r => between r.length 1 50 && okL r := rfl
   rw [okS,h',e]
   simp only [itemsB,orderB,setsB,Bool.and_assoc]
end Go.Abs
namespace Go.Lx
open Go.Lib
theorem toks_comma {y : Bs} {ts : List Tok} (ht : toks y = .ok ts) : toks (44 :: y) = .ok (sT [44] :: ts) := by
 have ho : one (44 :: y) = .ok (sT [44],1) := by
  cases y with
  | nil => rfl
  | cons d y =>
    have h2 : two 44 d = false := by simp [two]
    have h3 : (44 : UInt8) ∈ ones := by decide
    have h4 : isL 44 = false ∧ isD 44 = false ∧ ¬ (44 : UInt8).toNat = 39 := by decide
    rw [one,if_neg (by simp [h4.1]),if_neg (by simp [h4.2.1]),if_neg h4.2.2,sign,h2]
    simp [h3]
 rw [toks_tok rfl ho]
 simp [ht]
end Go.Lx
namespace Go.Abs
open Go.Lx Go.Pz
def okW : Bs → Bool
 | [] => false
 | c :: r => Lx.isL c && (c :: r).all isW && decide (r.length < 32)
theorem ke {w s y : Bs} {ts : List Tok} (hw : okW w = true) (hs : w.map Lib.lowerB = s) (hy : Stp y) (ht : toks y = .ok ts) : toks (w ++ y) = .ok (wT s :: ts) := by
 cases w with
 | nil => cases hw
 | cons c r =>
   simp only [okW,Bool.and_eq_true,decide_eq_true_eq] at hw
   exact kw hw.1.1 hw.1.2 hw.2 hs (nw_stp hy) ht
theorem ne {x y : Bs} {ts : List Tok} (h : nameB x = true) (hy : Stp y) (ht : toks y = .ok ts) : toks (x ++ y) = .ok (wT x :: ts) := name_word h (nw_stp hy) ht
structure Cut (b : Bs) (k : List Tok) : Prop where
 go : ∀ (y : Bs) (ts : List Tok),Stp y → toks y = .ok ts → toks (b ++ y) = .ok (k ++ ts)
theorem Cut.nil : Cut [] [] := ⟨fun _ _ _ h => h⟩
theorem Cut.of {b : Bs} {k : List Tok} (h : Cut b k) : toks b = .ok k := by have := h.go [] [] Stp.nil toks_nil; simpa using this
theorem Cut.text {x : Ex} (h : okE x = true) : Cut (textE x) (tokE x) := ⟨fun _ _ hy ht => toks_text x.w x (Nat.le_refl _) h hy ht⟩
theorem Cut.name {x : Bs} (h : nameB x = true) : Cut x [wT x] := ⟨fun _ _ hy ht => ne h hy ht⟩
theorem Cut.word {w s : Bs} (hw : okW w = true) (hs : w.map Lib.lowerB = s) : Cut w [wT s] := ⟨fun _ _ hy ht => ke hw hs hy ht⟩
theorem Cut.sp {a b : Bs} {k l : List Tok} (ha : Cut a k) (hb : Cut b l) : Cut (a ++ 32 :: b) (k ++ l) := ⟨fun _ _ hy ht => by
 rw [List.append_assoc,List.append_assoc]
 exact ha.go _ _ (Stp.blank _) (toks_sp (hb.go _ _ hy ht))⟩
theorem Cut.lead {b : Bs} {l : List Tok} (hb : Cut b l) : Cut (32 :: b) l := ⟨fun _ _ hy ht => toks_sp (hb.go _ _ hy ht)⟩
theorem Cut.then {a b : Bs} {k l : List Tok} (ha : Cut a k) (hb : Cut b l) (hs : ∀ y,Stp y → Stp (b ++ y)) : Cut (a ++ b) (k ++ l) := ⟨fun _ _ hy ht => by
 rw [List.append_assoc,List.append_assoc]
 exact ha.go _ _ (hs _ hy) (hb.go _ _ hy ht)⟩
theorem Cut.paren {b : Bs} {l : List Tok} (hb : Cut b l) : Cut (40 :: b ++ [41]) (sT [40] :: l ++ [sT [41]]) := ⟨fun y ts hy ht => by
 have h1 := toks_s1 (c := 40) (by simp) (hb.go _ _ (Stp.close y) (toks_s1 (c := 41) (by simp) ht))
 simpa [List.append_assoc] using h1⟩
theorem Cut.join {α : Type} {t : α → Bs} {k : α → List Tok} : ∀ (l : List α),(∀ a ∈ l,Cut (t a) (k a)) → Cut (joinT (l.map t)) (joinK (l.map k))
 | [],_ => Cut.nil
 | [a],h => h a (by simp)
 | a :: b :: r,h => ⟨fun y ts hy ht => by
   have h1 := (Cut.join (b :: r) (fun x hx => h x (by simp [List.mem_cons.1 hx]))).go _ _ hy ht
   have h2 := (h a (by simp)).go _ _ (Stp.comma _) (toks_comma (toks_sp h1))
   simpa [joinT,joinK,List.append_assoc] using h2⟩
theorem Cut.flat {α : Type} {t : α → Bs} {k : α → List Tok} : ∀ (l : List α),(∀ a ∈ l,Cut (t a) (k a)) → (∀ a ∈ l,∃ b,t a = 32 :: b) → Cut ((l.map t).flatten) ((l.map k).flatten)
 | [],_,_ => Cut.nil
 | a :: r,h,hs => by
   rw [List.map_cons,List.map_cons,List.flatten_cons,List.flatten_cons]
   refine Cut.then (h a (by simp)) (Cut.flat r (fun x hx => h x (by simp [hx])) (fun x hx => hs x (by simp [hx]))) fun y hy => ?_
   cases r with
   | nil => simpa using hy
   | cons b r =>
     obtain ⟨b',hb⟩ := hs b (by simp)
     rw [List.map_cons,List.flatten_cons,hb]
     exact Stp.blank _
theorem Cut.as {b n : Bs} {k : List Tok} (hb : Cut b k) (hn : aliasB n = true) : Cut (asT b n) (asK k n) := by
 unfold asT asK
 by_cases h : n = []
 ·rw [if_pos h,if_pos h]; exact hb
 ·rw [if_neg h,if_neg h]
  have hn : nameB n = true := by
   simp only [aliasB,Bool.or_eq_true,decide_eq_true_eq] at hn
   exact hn.resolve_left h
  have := Cut.sp hb (Cut.sp (Cut.word (w := [65,83]) (s := [97,115]) rfl rfl) (Cut.name hn))
  simpa [List.append_assoc] using this
theorem cut_col {c : Pz.Col} (h : colB c = true) : Cut (colT c) (colK c) := by
 simp only [colB,Bool.and_eq_true,decide_eq_true_eq] at h
 obtain ⟨⟨h1,h2⟩,h3⟩ := h
 have ht : Cut (typeT c.type) [typeK c.type] := by
  obtain ⟨n,hn⟩ : ∃ n : Nat,c.type = n := ⟨c.type.toNat,by omega⟩
  rw [hn]
  have hc : n = 1 ∨ n = 2 ∨ n = 3 ∨ n = 4 := by omega
  rcases hc with rfl | rfl | rfl | rfl <;> exact Cut.word rfl rfl
 have h0 := Cut.sp (Cut.name h1) ht
 unfold colT colK
 cases c.req with
 | false => simpa using h0
 | true =>
   have := Cut.sp h0 (Cut.sp (Cut.word (w := [78,79,84]) (s := [110,111,116]) rfl rfl) (Cut.word (w := [78,85,76,76]) (s := [110,117,108,108]) rfl rfl))
   simpa [List.append_assoc] using this
theorem cut_row {r : List Ex} (h : okL r = true) : Cut (rowT r) (rowK r) := Cut.paren (Cut.join r fun x hx => Cut.text (okL_iff.1 h x hx))
theorem cut_item {x : Itm} (h : okE x.e = true) (hn : aliasB x.name = true) : Cut (itemT x) (itemK x) := Cut.as (Cut.text h) hn
theorem cut_sort {x : Srt} (h : okE x.e = true) : Cut (sortT x) (sortK x) := by
 unfold sortT sortK
 cases x.desc with
 | false => simpa using Cut.text h
 | true =>
   have := Cut.sp (Cut.text h) (Cut.word (w := [68,69,83,67]) (s := [100,101,115,99]) rfl rfl)
   simpa using this
theorem cut_eq : Cut [61] [sT [61]] := ⟨fun y ts hy ht => toks_one (c := 61) (r := []) rfl rfl hy ht⟩
theorem cut_star : Cut [42] [sT [42]] := ⟨fun y ts hy ht => toks_one (c := 42) (r := []) rfl rfl hy ht⟩
theorem cut_set {x : Asn} (h : nameB x.col = true) (he : okE x.e = true) : Cut (setT x) (setK x) := by
 have := Cut.sp (Cut.name h) (Cut.sp cut_eq (Cut.text he))
 simpa [setT,setK] using this
theorem cut_src {x : Src} (h : nameB x.table = true) (ha : aliasB x.alias = true) : Cut (srcT x) (srcK x) := Cut.as (Cut.name h) ha
theorem cut_joins {l : List Src} (h : ∀ x ∈ l,nameB x.table = true ∧ aliasB x.alias = true ∧ okE x.on = true) : Cut (joinsT l) (joinsK l) := by
 refine Cut.flat l (fun x hx => ?_) (fun x hx => ⟨_,rfl⟩)
 obtain ⟨h1,h2,h3⟩ := h x hx
 have := Cut.lead (Cut.sp (Cut.word (w := [73,78,78,69,82]) (s := [105,110,110,101,114]) rfl rfl) (Cut.sp (Cut.word (w := [74,79,73,78]) (s := [106,111,105,110]) rfl rfl) (Cut.sp (cut_src h1 h2) (Cut.sp (Cut.word (w := [79,78]) (s := [111,110]) rfl rfl) (Cut.text h3)))))
 simpa [List.append_assoc] using this
theorem joins_stp {l : List Src} {y : Bs} (hy : Stp y) : Stp (joinsT l ++ y) := by
 cases l with
 | nil => simpa [joinsT] using hy
 | cons x r => simpa [joinsT] using Stp.blank _
theorem cut_where {x : Ex} (h : perB x = true) : Cut (whereT x) (whereK x) := by
 unfold whereT whereK
 by_cases h0 : opOf x = 0
 ·rw [if_pos h0,if_pos h0]; exact Cut.nil
 ·rw [if_neg h0,if_neg h0]
  rw [perB_ok h0] at h
  have := Cut.lead (Cut.sp (Cut.word (w := [87,72,69,82,69]) (s := [119,104,101,114,101]) rfl rfl) (Cut.text h))
  simpa using this
theorem where_stp {x : Ex} {y : Bs} (hy : Stp y) : Stp (whereT x ++ y) := by
 unfold whereT
 split
 ·simpa using hy
 ·simpa using Stp.blank _
theorem cut_order {l : List Srt} (h : ∀ x ∈ l,okE x.e = true) : Cut (if l = [] then [] else [32,79,82,68,69,82,32,66,89,32] ++ joinT (l.map sortT)) (if l = [] then [] else wT [111,114,100,101,114] :: wT [98,121] :: joinK (l.map sortK)) := by
 by_cases h0 : l = []
 ·rw [if_pos h0,if_pos h0]; exact Cut.nil
 ·rw [if_neg h0,if_neg h0]
  have := Cut.lead (Cut.sp (Cut.word (w := [79,82,68,69,82]) (s := [111,114,100,101,114]) rfl rfl) (Cut.sp (Cut.word (w := [66,89]) (s := [98,121]) rfl rfl) (Cut.join l fun x hx => cut_sort (h x hx))))
  simpa using this
theorem order_stp {l : List Srt} {y : Bs} (hy : Stp y) : Stp ((if l = [] then [] else [32,79,82,68,69,82,32,66,89,32] ++ joinT (l.map sortT)) ++ y) := by
 split
 ·simpa using hy
 ·simpa using Stp.blank _
end Go.Abs
namespace Go.Abs
open Go.Lx Go.Pz
theorem between_iff {n a b : Nat} : between n a b = true ↔ a ≤ n ∧ n ≤ b := by simp [between]
theorem not_nil {α : Type} {l : List α} (h : 1 ≤ l.length) : l ≠ [] := fun e => by subst e; simp at h
inductive OkS : Stm → Prop where
 | createT (t : Bs) (cs : List Pz.Col) (ht : nameB t = true) (h1 : 1 ≤ cs.length) (h2 : cs.length ≤ 16) (hc : ∀ c ∈ cs,colB c = true) : OkS { kind := 1,table := t,cols := cs }
 | dropT (t : Bs) (ht : nameB t = true) : OkS { kind := 2,table := t }
 | createI (u : Bool) (i t : Bs) (ns : List Bs) (hi : nameB i = true) (ht : nameB t = true) (h1 : 1 ≤ ns.length) (h2 : ns.length ≤ 4) (hn : ∀ n ∈ ns,nameB n = true) : OkS { kind := 3,uniq := u,index := i,table := t,names := ns }
 | dropI (i : Bs) (hi : nameB i = true) : OkS { kind := 4,index := i }
 | insert (t : Bs) (rs : List (List Ex)) (ht : nameB t = true) (h1 : 1 ≤ rs.length) (h2 : rs.length ≤ 50) (hr : ∀ r ∈ rs,1 ≤ r.length ∧ r.length ≤ 50 ∧ okL r = true) : OkS { kind := 5,table := t,rows := rs }
 | query (is : List Itm) (s : Src) (fs : List Src) (w : Ex) (os : List Srt) (hi : is.length ≤ 50) (his : ∀ x ∈ is,okE x.e = true ∧ aliasB x.name = true) (hf : fs.length ≤ 3) (hs : nameB s.table = true ∧ aliasB s.alias = true ∧ zeroB s.on = true)
   (hfs : ∀ x ∈ fs,nameB x.table = true ∧ aliasB x.alias = true ∧ okE x.on = true) (hw : perB w = true) (ho : os.length ≤ 50) (hos : ∀ x ∈ os,okE x.e = true) : OkS { kind := 6,items := is,src := s :: fs,wher := w,order := os }
 | update (t : Bs) (zs : List Asn) (w : Ex) (ht : nameB t = true) (h1 : 1 ≤ zs.length) (h2 : zs.length ≤ 50) (hz : ∀ x ∈ zs,nameB x.col = true ∧ okE x.e = true) (hw : perB w = true) : OkS { kind := 7,table := t,sets := zs,wher := w }
 | delete (t : Bs) (w : Ex) (ht : nameB t = true) (hw : perB w = true) : OkS { kind := 8,table := t,wher := w }
 | trans (k : Int) (h1 : 9 ≤ k) (h2 : k ≤ 11) : OkS { kind := k }
theorem zeroB_eq {x : Ex} (h : zeroB x = true) : x = .zero := by
 obtain ⟨op,args,kind,num,scale,text,qual⟩ := x
 simp only [zeroB,Bool.and_eq_true,decide_eq_true_eq,List.isEmpty_iff] at h
 simp_all [Ex.zero]
theorem okS_iff {st : Stm} : okS st = true ↔ OkS st := by
 constructor
 ·intro h
  obtain ⟨kind,table,index,cols,names,uniq,rows,items,src,wher,order,sets⟩ := st
  simp only [okS,Bool.and_eq_true,decide_eq_true_eq] at h
  obtain ⟨⟨⟨⟨⟨⟨⟨⟨⟨k1,k2⟩,ht⟩,hi⟩,hc⟩,hn⟩,hr⟩,hq⟩,hs⟩,hw⟩ := h
  have hk : kind = 1 ∨ kind = 2 ∨ kind = 3 ∨ kind = 4 ∨ kind = 5 ∨ kind = 6 ∨ kind = 7 ∨ kind = 8 ∨ (9 ≤ kind ∧ kind ≤ 11) := by omega
  rcases hk with rfl | rfl | rfl | rfl | rfl | rfl | rfl | rfl | ⟨k3,k4⟩
  ·simp [tableU,indexU,between_iff] at ht hi hc hn hr hq hs hw
   obtain rfl := zeroB_eq hw
   simp_all
   exact .createT table cols ht hc.1.1 hc.1.2 hc.2
  ·simp [tableU,indexU,between_iff] at ht hi hc hn hr hq hs hw
   obtain rfl := zeroB_eq hw
   simp_all
   exact .dropT table ht
  ·simp [tableU,indexU,between_iff] at ht hi hc hn hr hq hs hw
   obtain rfl := zeroB_eq hw
   simp_all
   exact .createI uniq index table names hi ht hn.1.1 hn.1.2 hn.2
  ·simp [tableU,indexU,between_iff] at ht hi hc hn hr hq hs hw
   obtain rfl := zeroB_eq hw
   simp_all
   exact .dropI index hi
  ·simp [tableU,indexU,between_iff] at ht hi hc hn hr hq hs hw
   obtain rfl := zeroB_eq hw
   simp_all
   exact .insert table rows ht hr.1.1 hr.1.2 fun r hm => ⟨(hr.2 r hm).1.1,(hr.2 r hm).1.2,(hr.2 r hm).2⟩
  ·simp [tableU,indexU,between_iff] at ht hi hc hn hr hq hs hw
   obtain ⟨⟨⟨⟨⟨q1,q2⟩,q3,q4⟩,q5⟩,q6⟩,q7⟩ := hq
   simp_all
   cases src with
   | nil => simp at q3
   | cons s fs =>
     simp [srcB] at q5 q4
     exact .query items s fs wher order q1 q2 (by omega) ⟨q5.1.1.1,q5.1.1.2,q5.1.2⟩ (fun x hx => ⟨(q5.2 x hx).1.1,(q5.2 x hx).1.2,(q5.2 x hx).2⟩) hw q6 q7
  ·simp [tableU,indexU,between_iff] at ht hi hc hn hr hq hs hw
   simp_all
   exact .update table sets wher ht hs.1.1 hs.1.2 hs.2 hw
  ·simp [tableU,indexU,between_iff] at ht hi hc hn hr hq hs hw
   simp_all
   exact .delete table wher ht hw
  ·have n1 : ¬ kind = 1 := by omega
   have n2 : ¬ kind = 2 := by omega
   have n3 : ¬ kind = 3 := by omega
   have n4 : ¬ kind = 4 := by omega
   have n5 : ¬ kind = 5 := by omega
   have n6 : ¬ kind = 6 := by omega
   have n7 : ¬ kind = 7 := by omega
   have n8 : ¬ kind = 8 := by omega
   simp [tableU,indexU,n1,n2,n3,n4,n5,n6,n7,n8] at ht hi hc hn hr hq hs hw
   obtain rfl := zeroB_eq hw
   simp_all
   exact .trans kind k3 k4
 ·intro h
  have hz : zeroB Ex.zero = true := rfl
  cases h with
  | createT t cs ht h1 h2 hc => simp [okS,tableU,indexU,between_iff,hz,ht,h1,h2]; exact hc
  | dropT t ht => simp [okS,tableU,indexU,between_iff,hz,ht]
  | createI u i t ns hi ht h1 h2 hn => simp [okS,tableU,indexU,between_iff,hz,ht,hi,h1,h2]; exact hn
  | dropI i hi => simp [okS,tableU,indexU,between_iff,hz,hi]
  | insert t rs ht h1 h2 hr => simp [okS,tableU,indexU,between_iff,hz,ht,h1,h2]; exact fun r hm => ⟨⟨(hr r hm).1,(hr r hm).2.1⟩,(hr r hm).2.2⟩
  | query is s fs w os hi his hf hs hfs hw ho hos =>
    simp [okS,tableU,indexU,between_iff,srcB,hw,hi,ho,hs]
    exact ⟨⟨⟨his,by omega⟩,fun x hx => ⟨⟨(hfs x hx).1,(hfs x hx).2.1⟩,(hfs x hx).2.2⟩⟩,hos⟩
  | update t zs w ht h1 h2 hz hw => simp [okS,tableU,indexU,between_iff,ht,h1,h2,hw]; exact hz
  | delete t w ht hw => simp [okS,tableU,indexU,between_iff,ht,hw]
  | trans k h1 h2 =>
    have n1 : ¬ k = 1 := by omega
    have n2 : ¬ k = 2 := by omega
    have n3 : ¬ k = 3 := by omega
    have n4 : ¬ k = 4 := by omega
    have n5 : ¬ k = 5 := by omega
    have n6 : ¬ k = 6 := by omega
    have n7 : ¬ k = 7 := by omega
    have n8 : ¬ k = 8 := by omega
    simp [okS,tableU,indexU,n1,n2,n3,n4,n5,n6,n7,n8,hz]; omega
theorem cut_items {l : List Itm} (h : ∀ x ∈ l,okE x.e = true ∧ aliasB x.name = true) : Cut (if l = [] then [42] else joinT (l.map itemT)) (if l = [] then [sT [42]] else joinK (l.map itemK)) := by
 by_cases h0 : l = []
 ·rw [if_pos h0,if_pos h0]; exact cut_star
 ·rw [if_neg h0,if_neg h0]
  exact Cut.join l fun x hx => cut_item (h x hx).1 (h x hx).2
theorem cut_form {st : Stm} (h : OkS st) : Cut (formS st) (formK st) := by
 cases h with
 | createT t cs ht h1 h2 hc =>
   have := Cut.sp (Cut.word (w := [67,82,69,65,84,69]) (s := [99,114,101,97,116,101]) rfl rfl) (Cut.sp (Cut.word (w := [84,65,66,76,69]) (s := [116,97,98,108,101]) rfl rfl) (Cut.sp (Cut.name ht) (Cut.paren (Cut.join cs fun c hx => cut_col (hc c hx)))))
   simpa [formS,formK] using this
 | dropT t ht =>
   have := Cut.sp (Cut.word (w := [68,82,79,80]) (s := [100,114,111,112]) rfl rfl) (Cut.sp (Cut.word (w := [84,65,66,76,69]) (s := [116,97,98,108,101]) rfl rfl) (Cut.name ht))
   simpa [formS,formK] using this
 | createI u i t ns hi ht h1 h2 hn =>
   have h0 := Cut.sp (Cut.word (w := [73,78,68,69,88]) (s := [105,110,100,101,120]) rfl rfl) (Cut.sp (Cut.name hi) (Cut.sp (Cut.word (w := [79,78]) (s := [111,110]) rfl rfl) (Cut.sp (Cut.name ht) (Cut.paren (Cut.join (t := id) (k := fun n => [wT n]) ns fun n hx => Cut.name (hn n hx))))))
   cases u with
   | false =>
     have := Cut.sp (Cut.word (w := [67,82,69,65,84,69]) (s := [99,114,101,97,116,101]) rfl rfl) h0
     simpa [formS,formK] using this
   | true =>
     have := Cut.sp (Cut.word (w := [67,82,69,65,84,69]) (s := [99,114,101,97,116,101]) rfl rfl) (Cut.sp (Cut.word (w := [85,78,73,81,85,69]) (s := [117,110,105,113,117,101]) rfl rfl) h0)
     simpa [formS,formK] using this
 | dropI i hi =>
   have := Cut.sp (Cut.word (w := [68,82,79,80]) (s := [100,114,111,112]) rfl rfl) (Cut.sp (Cut.word (w := [73,78,68,69,88]) (s := [105,110,100,101,120]) rfl rfl) (Cut.name hi))
   simpa [formS,formK] using this
 | insert t rs ht h1 h2 hr =>
   have := Cut.sp (Cut.word (w := [73,78,83,69,82,84]) (s := [105,110,115,101,114,116]) rfl rfl) (Cut.sp (Cut.word (w := [73,78,84,79]) (s := [105,110,116,111]) rfl rfl) (Cut.sp (Cut.name ht) (Cut.sp (Cut.word (w := [86,65,76,85,69,83]) (s := [118,97,108,117,101,115]) rfl rfl) (Cut.join rs fun r hx => cut_row (hr r hx).2.2))))
   simpa [formS,formK] using this
 | query is s fs w os hi his hf hs hfs hw ho hos =>
   have h0 := Cut.sp (Cut.word (w := [83,69,76,69,67,84]) (s := [115,101,108,101,99,116]) rfl rfl) (Cut.sp (cut_items his) (Cut.sp (Cut.word (w := [70,82,79,77]) (s := [102,114,111,109]) rfl rfl) (cut_src hs.1 hs.2.1)))
   have := Cut.then (Cut.then (Cut.then h0 (cut_joins hfs) fun y hy => joins_stp hy) (cut_where hw) fun y hy => where_stp hy) (cut_order hos) fun y hy => order_stp hy
   have e1 : formS { kind := 6,items := is,src := s :: fs,wher := w,order := os } = queryT { kind := 6,items := is,src := s :: fs,wher := w,order := os } := rfl
   have e2 : formK { kind := 6,items := is,src := s :: fs,wher := w,order := os } = queryK { kind := 6,items := is,src := s :: fs,wher := w,order := os } := rfl
   rw [e1,e2]
   unfold queryT queryK
   simpa only [List.append_assoc,List.cons_append,List.nil_append] using this
 | update t zs w ht h1 h2 hz hw =>
   have h0 := Cut.sp (Cut.word (w := [85,80,68,65,84,69]) (s := [117,112,100,97,116,101]) rfl rfl) (Cut.sp (Cut.name ht) (Cut.sp (Cut.word (w := [83,69,84]) (s := [115,101,116]) rfl rfl) (Cut.join zs fun x hx => cut_set (hz x hx).1 (hz x hx).2)))
   have := Cut.then h0 (cut_where hw) fun y hy => where_stp hy
   simpa [formS,formK] using this
 | delete t w ht hw =>
   have h0 := Cut.sp (Cut.word (w := [68,69,76,69,84,69]) (s := [100,101,108,101,116,101]) rfl rfl) (Cut.sp (Cut.word (w := [70,82,79,77]) (s := [102,114,111,109]) rfl rfl) (Cut.name ht))
   have := Cut.then h0 (cut_where hw) fun y hy => where_stp hy
   simpa [formS,formK] using this
 | trans k h1 h2 =>
   have hk : k = 9 ∨ k = 10 ∨ k = 11 := by omega
   rcases hk with rfl | rfl | rfl
   ·exact Cut.word (w := [66,69,71,73,78]) rfl rfl
   ·exact Cut.word (w := [67,79,77,77,73,84]) rfl rfl
   ·exact Cut.word (w := [82,79,76,76,66,65,67,75]) rfl rfl
theorem toks_formS {st : Stm} (h : OkS st) : toks (formS st) = .ok (formK st) := (cut_form h).of
end Go.Abs
namespace Go.Abs
open Go.Lx Go.Pz
theorem joinT_eq : ∀ (l : List Bs),Lib.join l [44,32] = joinT l
 | [] => rfl
 | [a] => by simp [Lib.join,List.intercalate,joinT]
 | a :: b :: r => by
   have h := joinT_eq (b :: r)
   simp only [Lib.join,List.intercalate,joinT] at h ⊢
   rw [List.intersperse_cons_cons,List.flatten_cons,List.flatten_cons,h]
   rfl
theorem joinT_len {c : Nat} : ∀ {l : List Bs},(∀ a ∈ l,a.length ≤ c) → (joinT l).length ≤ l.length * (c + 2)
 | [],_ => by simp [joinT]
 | [a],h => by have := h a (by simp); simp [joinT]; omega
 | a :: b :: r,h => by
   have h1 := joinT_len (c := c) (l := b :: r) (fun x hx => h x (by simp [List.mem_cons.1 hx]))
   have h2 := h a (by simp)
   have e : (joinT (a :: b :: r)).length = a.length + 2 + (joinT (b :: r)).length := by simp [joinT]; omega
   rw [e,List.length_cons,Nat.add_mul]
   omega
theorem joinT_map_len {α : Type} {t : α → Bs} {c n : Nat} {l : List α} (h : ∀ a ∈ l,(t a).length ≤ c) (hl : l.length ≤ n) : (joinT (l.map t)).length ≤ n * (c + 2) := by
 have := joinT_len (c := c) (l := l.map t) (fun a ha => by obtain ⟨b,hb,rfl⟩ := List.mem_map.1 ha; exact h b hb)
 rw [List.length_map] at this
 exact Nat.le_trans this (Nat.mul_le_mul_right _ hl)
theorem asT_len {s n : Bs} (h : aliasB n = true) : (asT s n).length ≤ s.length + 36 := by
 unfold asT
 simp only [aliasB,Bool.or_eq_true,decide_eq_true_eq] at h
 split
 ·omega
 ·rename_i h0
  have := nameB_len (h.resolve_left h0)
  simp; omega
theorem textE_le {x : Ex} (ho : okE x = true) (hw : x.w ≤ 4000000) : (textE x).length ≤ 5000000000 := by
 have := textE_len x.w x (Nat.le_refl _) ho
 omega
theorem colT_len {c : Pz.Col} (h : colB c = true) : (colT c).length ≤ 60 := by
 simp only [colB,Bool.and_eq_true,decide_eq_true_eq] at h
 obtain ⟨⟨h1,h2⟩,h3⟩ := h
 have := nameB_len h1
 have ht : (typeT c.type).length ≤ 4 := by
  obtain ⟨n,hn⟩ : ∃ n : Nat,c.type = n := ⟨c.type.toNat,by omega⟩
  rw [hn]
  have hc : n = 1 ∨ n = 2 ∨ n = 3 ∨ n = 4 := by omega
  rcases hc with rfl | rfl | rfl | rfl <;> decide
 unfold colT
 split <;> simp <;> omega
theorem rowT_len {r : List Ex} (ho : okL r = true) (hl : r.length ≤ 50) (hw : ∀ x ∈ r,x.w ≤ 4000000) : (rowT r).length ≤ 250000000200 := by
 have := joinT_map_len (t := textE) (c := 5000000000) (n := 50) (l := r) (fun x hx => textE_le (okL_iff.1 ho x hx) (hw x hx)) hl
 simp [rowT]; omega
end Go.Abs
namespace Go.Abs
open Go Go.RowKit Go.Proofs Go.Lx Go.Pz
variable {w0 : World}
theorem w94 {s n : Bs} (hs : s.length ≤ 1000000000000000) (hn : n.length ≤ 1000000000000000) (S : Heap) : ACalls Tryz.prog (B0 w0) 94 [.str s,.str n] S fun e S' => e = .ret (.str (asT s n)) ∧ S' = S := by
 refine fn_sound tryOrd (f94_c _) (by simp [f94]) ?_
 by_cases h : n = []
 ·simp [f94,f94m,h,asT]
 ·simp [f94,f94m,h,asT]; omega
set_option maxHeartbeats 2000000 in
theorem w32 {c : Pz.Col} (h : colB c = true) (S : Heap) : ACalls Tryz.prog (B0 w0) 32 [.agg (pcolC c)] S fun e S' => e = .ret (.str (colT c)) ∧ S' = S := by
 refine ACalls.close (R := fun e S' => e = .ret (.str (colT c)) ∧ S'.take S.length = S) ?_ ?_
 rotate_left 1
 ·rintro e S' ⟨rfl,ht⟩
  exact .flat ht rfl ⟨rfl,rfl⟩
 obtain ⟨name,type,req⟩ := c
 simp only [colB,Bool.and_eq_true,decide_eq_true_eq] at h
 obtain ⟨⟨h1,h2⟩,h3⟩ := h
 have hn := nameB_len h1
 obtain ⟨n,rfl⟩ : ∃ n : Nat,type = n := ⟨type.toNat,by omega⟩
 have hc : n = 1 ∨ n = 2 ∨ n = 3 ∨ n = 4 := by omega
 refine fn_sound tryOrd (f32_c _) (by simp [f32]) ?_
 rcases hc with rfl | rfl | rfl | rfl <;> cases req
 all_goals
  simp [f32,f32m,pcolC,colT,typeT]
  try omega
theorem w41 (hT : Tb w0) {x : Ex} (hp : perB x = true) (hw : x.w ≤ 4000000) {ev : List AVal} (hev : ExV x ev) (S : Heap) : ACalls Tryz.prog (B0 w0) 41 [.agg ev] S fun e S' => e = .ret (.str (whereT x)) ∧ S' = S := by
 have h37 := fun ho S => w37 hT 4000000 (by omega) x hw ho ev hev S
 obtain ⟨fl,es,k,n,s,t,q,rfl⟩ := ExV_cells hev
 refine ACalls.close (R := fun e S' => e = .ret (.str (whereT x)) ∧ S'.take S.length = S) ?_ ?_
 rotate_left 1
 ·rintro e S' ⟨rfl,ht⟩
  exact .flat ht rfl ⟨rfl,rfl⟩
 refine fn_sound tryOrd (f41_c _) (by simp [f41]) ?_
 by_cases h0 : opOf x = 0
 ·simp [f41,f41m,h0,whereT]
 ·have b0 : (opOf x == 0) = false := beq_eq_false_iff_ne.2 h0
  rw [perB_ok h0] at hp
  have hl := textE_le hp hw
  simp [f41,f41m,h0,b0,whereT]
  refine (h37 hp _).use ?_
  rintro e S1 ⟨rfl,rfl⟩
  simp
  omega
theorem w40 (hT : Tb w0) {x : Asn} (hn : nameB x.col = true) (ho : okE x.e = true) (hw : x.e.w ≤ 4000000) {e : List AVal} (hv : AsnV x e) (S : Heap) : ACalls Tryz.prog (B0 w0) 40 [.agg e] S fun e S' => e = .ret (.str (setT x)) ∧ S' = S := by
 obtain ⟨ev,hev,rfl⟩ := hv
 have h37 := fun S => w37 hT 4000000 (by omega) x.e hw ho ev hev S
 have hl := textE_le ho hw
 have hnl := nameB_len hn
 obtain ⟨fl,es,k,n,s,t,q,rfl⟩ := ExV_cells hev
 refine ACalls.close (R := fun e S' => e = .ret (.str (setT x)) ∧ S'.take S.length = S) ?_ ?_
 rotate_left 1
 ·rintro e S' ⟨rfl,ht⟩
  exact .flat ht rfl ⟨rfl,rfl⟩
 refine fn_sound tryOrd (f40_c _) (by simp [f40]) ?_
 simp [f40,f40m,setT]
 refine ⟨by omega,?_⟩
 refine (h37 _).use ?_
 rintro e S1 ⟨rfl,rfl⟩
 simp
 omega
theorem w93 (hT : Tb w0) {x : Itm} (hn : aliasB x.name = true) (ho : okE x.e = true) (hw : x.e.w ≤ 4000000) {e : List AVal} (hv : ItmV x e) (S : Heap) : ACalls Tryz.prog (B0 w0) 93 [.agg e] S fun e S' => e = .ret (.str (itemT x)) ∧ S' = S := by
 obtain ⟨ev,hev,rfl⟩ := hv
 have h37 := fun S => w37 hT 4000000 (by omega) x.e hw ho ev hev S
 have hl := textE_le ho hw
 have hnl : x.name.length ≤ 32 := by
  simp only [aliasB,Bool.or_eq_true,decide_eq_true_eq] at hn
  rcases hn with hn | hn
  ·simp [hn]
  ·exact nameB_len hn
 obtain ⟨fl,es,k,n,s,t,q,rfl⟩ := ExV_cells hev
 refine ACalls.close (R := fun e S' => e = .ret (.str (itemT x)) ∧ S'.take S.length = S) ?_ ?_
 rotate_left 1
 ·rintro e S' ⟨rfl,ht⟩
  exact .flat ht rfl ⟨rfl,rfl⟩
 refine fn_sound tryOrd (f93_c _) (by simp [f93]) ?_
 simp [f93,f93m,itemT]
 refine (h37 _).use ?_
 rintro e S1 ⟨rfl,rfl⟩
 simp
 refine (w94 (by omega) (by omega) _).use ?_
 rintro e S1 ⟨rfl,rfl⟩
 simp
theorem w96 (hT : Tb w0) {x : Srt} (ho : okE x.e = true) (hw : x.e.w ≤ 4000000) {e : List AVal} (hv : SrtV x e) (S : Heap) : ACalls Tryz.prog (B0 w0) 96 [.agg e] S fun e S' => e = .ret (.str (sortT x)) ∧ S' = S := by
 obtain ⟨ev,hev,rfl⟩ := hv
 have h37 := fun S => w37 hT 4000000 (by omega) x.e hw ho ev hev S
 have hl := textE_le ho hw
 obtain ⟨fl,es,k,n,s,t,q,rfl⟩ := ExV_cells hev
 refine ACalls.close (R := fun e S' => e = .ret (.str (sortT x)) ∧ S'.take S.length = S) ?_ ?_
 rotate_left 1
 ·rintro e S' ⟨rfl,ht⟩
  exact .flat ht rfl ⟨rfl,rfl⟩
 refine fn_sound tryOrd (f96_c _) (by simp [f96]) ?_
 cases hd : x.desc with
 | false =>
   simp [f96,f96m,sortT,hd]
   refine (h37 _).use ?_
   rintro e S1 ⟨rfl,rfl⟩
   simp
 | true =>
   simp [f96,f96m,sortT,hd]
   refine (h37 _).use ?_
   rintro e S1 ⟨rfl,rfl⟩
   simp
   omega
theorem w35 (hT : Tb w0) {r : List Ex} (ho : okL r = true) (hl : r.length ≤ 50) (hw : ∀ x ∈ r,x.w ≤ 4000000) {fl : Fl} {es : List (List AVal)} (hv : ExsV r es) (S : Heap) : ACalls Tryz.prog (B0 w0) 35 [.list fl es] S fun e S' => e = .ret (.str (rowT r)) ∧ S' = S := by
 have hel := ExsV_len hv
 have hlen := joinT_map_len (t := textE) (c := 5000000000) (n := 50) (l := r) (fun x hx => textE_le (okL_iff.1 ho x hx) (hw x hx)) hl
 have h36 := fun S => w36 (w0 := w0) (l := r) (es := es) (fl := fl) (t := textE) (fo := 37) hel (fun i hi => ExV_len (ExsV_get hv i hi)) (fun i hi => List.all_eq_true.1 (ExV_one (ExsV_get hv i hi))) (by omega) (by rw [joinT_eq]; omega)
  (fun i hi S => w37 hT 4000000 (by omega) r[i] (hw _ (List.getElem_mem hi)) (okL_iff.1 ho _ (List.getElem_mem hi)) _ (ExsV_get hv i hi) S) S
 rw [joinT_eq] at h36
 refine fn_sound tryOrd (f35_c _) (by simp [f35]) ?_
 simp [f35,f35m,rowT]
 refine (h36 _).use ?_
 rintro e S1 ⟨rfl,rfl⟩
 simp
 omega
end Go.Abs
namespace Go.Abs
open Go Go.RowKit Go.Proofs Go.Lx Go.Pz
variable {w0 : World}
def frT : Bs := [32,70,82,79,77,32]
def ijT : Bs := [32,73,78,78,69,82,32,74,79,73,78,32]
def onT : Bs := [32,79,78,32]
def srcsT : List Src → Bs
 | [] => []
 | s :: r => frT ++ srcT s ++ joinsT r
theorem joinsT_snoc (r : List Src) (x : Src) : joinsT (r ++ [x]) = joinsT r ++ (ijT ++ srcT x ++ onT ++ textE x.on) := by
 simp [joinsT,ijT,onT]
theorem srcsT_step {l : List Src} {i : Nat} (h : i < l.length) (h0 : i ≠ 0) : srcsT (l.take (i + 1)) = srcsT (l.take i) ++ (ijT ++ srcT l[i] ++ onT ++ textE l[i].on) := by
 rw [List.take_add_one,List.getElem?_eq_getElem h,Option.toList_some]
 cases l with
 | nil => simp at h
 | cons s r =>
   obtain ⟨j,rfl⟩ : ∃ j,i = j + 1 := ⟨i - 1,by omega⟩
   rw [List.take_succ_cons,List.cons_append,srcsT,srcsT,joinsT_snoc,List.append_assoc (frT ++ srcT s)]
theorem srcsT_zero {l : List Src} (h : 0 < l.length) : srcsT (l.take 1) = frT ++ srcT l[0] := by
 cases l with
 | nil => simp at h
 | cons s r => simp [srcsT,joinsT]
def QrI (H0 : Heap) (l : List Src) (v : AVal) (base : Bs) (p : AVal) (n : Nat) (a : Tmps) (S' : Heap) : Prop :=
 ∃ (i : Nat) (g : Heap),n = l.length - i ∧ i ≤ l.length ∧ S' = H0 ++ g ∧ (base ++ srcsT (l.take i)).length ≤ 1000000000000 + i * 6000000000 ∧ get a 1 = p ∧ get a 3 = .str (base ++ srcsT (l.take i)) ∧ get a 15 = v ∧ get a 16 = .int l.length ∧ get a 17 = .int i
def QrQ (H0 : Heap) (p : AVal) (r : Bs) : AExit → Tmps → Heap → Prop
 | .normal,a,S' => ∃ g,S' = H0 ++ g ∧ get a 1 = p ∧ get a 3 = .str r ∧ r.length ≤ 2000000000000
 | _,_,_ => False
theorem aliasB_len {x : Bs} (h : aliasB x = true) : x.length ≤ 32 := by
 simp only [aliasB,Bool.or_eq_true,decide_eq_true_eq] at h
 rcases h with h | h
 ·simp [h]
 ·exact nameB_len h
set_option maxHeartbeats 4000000 in
theorem lp38 (hT : Tb w0) {l : List Src} {fl : Fl} {es : List (List AVal)} (hes : Al SrcV l es) (hl : l.length ≤ 4) (hn : ∀ x ∈ l,nameB x.table = true ∧ aliasB x.alias = true) (ho : ∀ i (h : i < l.length),i ≠ 0 → okE l[i].on = true) (hw : ∀ x ∈ l,x.on.w ≤ 4000000)
  {H0 : Heap} {a : Tmps} {base : Bs} (hb : base.length ≤ 1000000000000) {p : AVal} {G : Nat → AVal} (b1 : get a 1 = p) (b3 : get a 3 = .str base) (b15 : get a 15 = .list fl es) (b16 : get a 16 = .int l.length) (b17 : get a 17 = .int 0) :
  mwp (ACalls Tryz.prog (B0 w0)) (.block 0 (.loop (f38b0 G))) (QrQ H0 p (base ++ srcsT l)) a H0 := by
 obtain ⟨hel,hes⟩ := hes
 simp only [mwp_block]
 refine mwp_loop (I := QrI H0 l (.list fl es) base p) ⟨0,[],rfl,Nat.zero_le _,by simp,by simpa [srcsT] using hb,b1,by simpa [srcsT] using b3,b15,b16,b17⟩ ?_
 clear b1 b3 b15 b16 b17
 rintro m a S' ⟨i,g,rfl,hi,rfl,hbl,b1,b3,b15,b16,b17⟩
 by_cases hlt : i < l.length
 ·obtain ⟨ev,hev,he⟩ := hes i hlt
  have hle : i < es.length := by omega
  have q1 := li_addr (k := 9) (es := es) hle he (by simp [ExV_len hev]) fl
  have q2 := li_load (k := 9) (es := es) hle he (by simp [ExV_len hev]) true 9 0 (by omega)
  have hwx := hw _ (List.getElem_mem hlt)
  have hnx := hn _ (List.getElem_mem hlt)
  have h37 := fun (ho : okE l[i].on = true) S => w37 hT 4000000 (by omega) l[i].on hwx ho ev hev S
  have hox := ho i hlt
  have hst := fun h0 => srcsT_step hlt h0
  have hst0 : i = 0 → srcsT (l.take (i + 1)) = frT ++ srcT l[i] := fun h => by subst h; exact srcsT_zero hlt
  have hin : ∀ r : Bs,base ++ srcsT (l.take (i + 1)) = r → r.length ≤ 1000000000000 + (i + 1) * 6000000000 → (base ++ srcsT (l.take (i + 1))).length ≤ 1000000000000 + (i + 1) * 6000000000 := fun r h h' => by rw [h]; exact h'
  have n1 := nameB_len hnx.1
  have n2 := aliasB_len hnx.2
  have n3 := asT_len (s := l[i].table) hnx.2
  have n4 := fun (ho : okE l[i].on = true) => textE_le (x := l[i].on) ho hwx
  generalize l[i] = y at *
  generalize hacc : base ++ srcsT (l.take i) = acc at *
  obtain ⟨fl',es',k',n',s',t',q',rfl⟩ := ExV_cells hev
  have hltI : (i : Int) < (l.length : Int) := by omega
  have hw1 := wrapS i (by omega)
  have htk : ∀ c : List AVal,c.length = 9 → takeAt true 9 c 0 = .agg c := fun c hc => by simp [takeAt,List.take_of_length_le,hc]
  rw [htk _ rfl] at q2
  by_cases h0 : i = 0
  ·have hz := hst0 h0
   have hfin : base ++ srcsT (l.take (i + 1)) = acc ++ (frT ++ asT y.table y.alias) := by
    rw [hz,← hacc,h0]; simp [srcsT,srcT]
   have bi : ((i : Int) == 0) = true := by simp [h0]
   have hlen : (base ++ srcsT (l.take (i + 1))).length ≤ 1000000000000 + (i + 1) * 6000000000 := by
    rw [hfin]; simp only [List.length_append,frT,List.length_cons,List.length_nil]; omega
   simp [f38b0,b1,b3,b15,b16,b17,hltI,q1,q2,bi]
   refine (w94 (s := y.table) (n := y.alias) (by omega) (by omega) _).use ?_
   rintro e S1 ⟨rfl,rfl⟩
   simp [b1,b3,b15,b16,b17,hw1]
   refine ⟨by omega,by omega,?_⟩
   exact ⟨l.length - (i + 1),by omega,i + 1,_,rfl,by omega,rfl,hlen,by simp [b1],by rw [hfin]; simp [frT],by simp [b15],by simp [b16],by simp⟩
  ·have hz := hst h0
   have hoy := hox h0
   have n5 := n4 hoy
   have hfin : base ++ srcsT (l.take (i + 1)) = acc ++ (ijT ++ asT y.table y.alias ++ onT ++ textE y.on) := by
    rw [hz,← hacc]; simp [srcT]
   have bi : ((i : Int) == 0) = false := beq_eq_false_iff_ne.2 (by omega)
   have hlen : (base ++ srcsT (l.take (i + 1))).length ≤ 1000000000000 + (i + 1) * 6000000000 := by
    rw [hfin]; simp only [List.length_append,ijT,onT,List.length_cons,List.length_nil]; omega
   simp [f38b0,b1,b3,b15,b16,b17,hltI,q1,q2,bi]
   refine (w94 (s := y.table) (n := y.alias) (by omega) (by omega) _).use ?_
   rintro e S1 ⟨rfl,rfl⟩
   simp [b1,b3,b15,b16,b17]
   refine ⟨by omega,by omega,?_⟩
   refine (h37 hoy _).use ?_
   rintro e S1 ⟨rfl,rfl⟩
   simp [b1,b3,b15,b16,b17,hw1]
   refine ⟨by omega,by omega,by omega,?_⟩
   exact ⟨l.length - (i + 1),by omega,i + 1,_,rfl,by omega,rfl,hlen,by simp [b1],by rw [hfin]; simp [ijT,onT],by simp [b15],by simp [b16],by simp⟩
 ·have hie : i = l.length := by omega
  subst hie
  rw [List.take_length] at b3 hbl
  simp [f38b0,b1,b3,b15,b16,b17]
  exact ⟨g,rfl,by simp [b1],by simp [b3],by omega⟩
end Go.Abs
namespace Go.Abs
open Go Go.RowKit Go.Proofs Go.Lx Go.Pz
variable {w0 : World}
def baseT (is : List Itm) : Bs := if is = [] then [83,69,76,69,67,84,32,42] else [83,69,76,69,67,84,32] ++ joinT (is.map itemT)
def ordT (os : List Srt) : Bs := if os = [] then [] else [32,79,82,68,69,82,32,66,89,32] ++ joinT (os.map sortT)
theorem queryT_eq (st : Stm) : queryT st = baseT st.items ++ srcsT st.src ++ whereT st.wher ++ ordT st.order := by
 unfold queryT baseT ordT
 by_cases h1 : st.items = [] <;> cases h2 : st.src <;> simp [h1,srcsT,frT]
theorem query_parts {st : Stm} (ho : OkS st) (hk : st.kind = 6) : (st.items.length ≤ 50 ∧ (∀ x ∈ st.items,okE x.e = true ∧ aliasB x.name = true)) ∧ (st.src.length ≤ 4 ∧ (∀ x ∈ st.src,nameB x.table = true ∧ aliasB x.alias = true) ∧ ∀ i (h : i < st.src.length),i ≠ 0 → okE st.src[i].on = true) ∧ perB st.wher = true ∧ (st.order.length ≤ 50 ∧ ∀ x ∈ st.order,okE x.e = true) := by
 cases ho with
 | query is s fs w os hi his hf hs hfs hw ho hos =>
   refine ⟨⟨hi,his⟩,⟨by simp; omega,fun x hx => ?_,fun i h h0 => ?_⟩,hw,ho,hos⟩
   ·rcases List.mem_cons.1 hx with rfl | hx
    ·exact ⟨hs.1,hs.2.1⟩
    ·exact ⟨(hfs x hx).1,(hfs x hx).2.1⟩
   ·obtain ⟨j,rfl⟩ : ∃ j,i = j + 1 := ⟨i - 1,by omega⟩
    simp only [List.getElem_cons_succ]
    exact (hfs _ (List.getElem_mem _)).2.2
 | trans k h1 h2 => simp only at hk; omega
 | createT => simp at hk
 | dropT => simp at hk
 | createI => simp at hk
 | dropI => simp at hk
 | insert => simp at hk
 | update => simp at hk
 | delete => simp at hk
theorem itemT_le {x : Itm} (ho : okE x.e = true) (hn : aliasB x.name = true) (hw : x.e.w ≤ 4000000) : (itemT x).length ≤ 5000000040 := by
 have h1 := textE_le ho hw
 have h2 := asT_len (s := textE x.e) hn
 unfold itemT; omega
theorem sortT_le {x : Srt} (ho : okE x.e = true) (hw : x.e.w ≤ 4000000) : (sortT x).length ≤ 5000000040 := by
 have h1 := textE_le ho hw
 unfold sortT; split <;> simp <;> omega
theorem whereT_le {x : Ex} (hp : perB x = true) (hw : x.w ≤ 4000000) : (whereT x).length ≤ 5000000040 := by
 unfold whereT
 split
 ·simp
 ·rename_i h0
  rw [perB_ok h0] at hp
  have h1 := textE_le hp hw
  simp; omega
set_option maxHeartbeats 8000000 in
theorem w38 (hT : Tb w0) {st : Stm} (ho : OkS st) (hk : st.kind = 6) (hwd : ∀ x ∈ exsS st,x.w ≤ 4000000) {c : List AVal} (hc : StV st c) (S : Heap) : ACalls Tryz.prog (B0 w0) 38 [.agg c] S fun e S' => e = .ret (.str (queryT st)) ∧ S' = S := by
 obtain ⟨⟨hi1,hi2⟩,⟨hf1,hf2,hf3⟩,hwp,hs1,hs2⟩ := query_parts ho hk
 obtain ⟨fC,fN,fR,fI,fF,fO,fS,eR,eI,eF,ew,eO,eS,rfl,hw,hR,hI,hF,hO,hS⟩ := hc
 refine ACalls.close (R := fun e S' => e = .ret (.str (queryT st)) ∧ S'.take S.length = S) ?_ ?_
 rotate_left 1
 ·rintro e S' ⟨rfl,ht⟩
  exact .flat ht rfl ⟨rfl,rfl⟩
 have j1 := joinT_map_len (t := itemT) (c := 5000000040) (n := 50) (l := st.items) (fun x hx => itemT_le (hi2 x hx).1 (hi2 x hx).2 (hwd _ (mem_items hx))) hi1
 have j2 := joinT_map_len (t := sortT) (c := 5000000040) (n := 50) (l := st.order) (fun x hx => sortT_le (hs2 x hx) (hwd _ (mem_order hx))) hs1
 have j3 := whereT_le hwp (hwd _ mem_wher)
 have h41 := fun S => w41 hT hwp (hwd _ mem_wher) hw S
 have h92 := fun S => w92 (w0 := w0) (l := st.items) (es := eI) (fl := fI) (t := itemT) (fo := 93) hI.1 (fun i hi => by obtain ⟨ev,h,e⟩ := hI.2 i hi; rw [e]; simp [ExV_len h])
  (fun i hi => by obtain ⟨ev,h,e⟩ := hI.2 i hi; rw [e]; have := List.all_eq_true.1 (ExV_one h); intro x hx; simp at hx; rcases hx with hx | rfl; exact this x hx; rfl) (by omega) (by rw [joinT_eq]; omega)
  (fun i hi S => w93 hT (hi2 _ (List.getElem_mem hi)).2 (hi2 _ (List.getElem_mem hi)).1 (hwd _ (mem_items (List.getElem_mem hi))) (hI.2 i hi) S) S
 have h95 := fun S => w95 (w0 := w0) (l := st.order) (es := eO) (fl := fO) (t := sortT) (fo := 96) hO.1 (fun i hi => by obtain ⟨ev,h,e⟩ := hO.2 i hi; rw [e]; simp [ExV_len h])
  (fun i hi => by obtain ⟨ev,h,e⟩ := hO.2 i hi; rw [e]; have := List.all_eq_true.1 (ExV_one h); intro x hx; simp at hx; rcases hx with hx | rfl; exact this x hx; rfl) (by omega) (by rw [joinT_eq]; omega)
  (fun i hi S => w96 hT (hs2 _ (List.getElem_mem hi)) (hwd _ (mem_order (List.getElem_mem hi))) (hO.2 i hi) S) S
 rw [joinT_eq] at h92 h95
 have eI0 : 0 < eI.length ↔ st.items ≠ [] := by rw [hI.1]; cases st.items <;> simp
 have eO0 : 0 < eO.length ↔ st.order ≠ [] := by rw [hO.1]; cases st.order <;> simp
 have hbl : (baseT st.items).length ≤ 1000000000000 := by unfold baseT; split <;> simp <;> omega
 have hol : (ordT st.order).length ≤ 1000000000000 := by unfold ordT; split <;> simp <;> omega
 have hq := queryT_eq st
 obtain ⟨fl',es',k',n',s',t',q',rfl⟩ := ExV_cells hw
 refine fn_sound tryOrd (f38_c _) (by simp [f38]) ?_
 rw [f38,f38m,mwp_seq]
 simp [-mwp_seq]
 obtain ⟨H,hH⟩ : ∃ H,H = S ++ [AObj.cells 18 [[AVal.int st.kind,.str st.table,.str st.index,.list fC (pcolsC st.cols),.list fN (namesC st.names),.bool st.uniq,.list fR eR,.list fI eI,.list fF eF,.int (opOf st.wher),.list fl' es',.int k',.int n',.int s',.str t',.str q',.list fO eO,.list fS eS]] (some 1)] := ⟨_,rfl⟩
 have hg : ∀ g : Heap,(H ++ g)[S.length]? = some (.cells 18 [[AVal.int st.kind,.str st.table,.str st.index,.list fC (pcolsC st.cols),.list fN (namesC st.names),.bool st.uniq,.list fR eR,.list fI eI,.list fF eF,.int (opOf st.wher),.list fl' es',.int k',.int n',.int s',.str t',.str q',.list fO eO,.list fS eS]] (some 1)) := fun g => by rw [hH]; simp
 have hg0 := hg []
 rw [List.append_nil] at hg0
 have ht : ∀ g : Heap,(H ++ g).take S.length = S := fun g => by rw [hH]; simp
 rw [← hH]
 rw [mwp_seq]
 simp [-mwp_seq]
 rw [mwp_seq]
 by_cases hie : st.items = []
 case' pos =>
  have eb : baseT st.items = [83,69,76,69,67,84,32,42] := by rw [hie]; rfl
  have e0 : ¬ 0 < eI.length := fun h => eI0.1 h hie
  rw [mwp_seq]
  simp [-mwp_seq,-mwp_block,hg0,e0]
  rw [mwp_seq,mwp_seq]
  simp [-mwp_seq,-mwp_block,hg0,e0]
  refine mwp_mono _ _ (fun _ _ _ _ _ hr h => h.mono hr) ?_ (lp38 hT (fl := fF) hF hf1 hf2 hf3 (fun x hx => hwd _ (mem_src hx)) (base := baseT st.items) hbl (p := .ptr S.length 0 0) (by simp) (by simp [eb]) (by simp) (by simp [hF.1]) (by simp))
 case' neg =>
  have eb : baseT st.items = [83,69,76,69,67,84,32] ++ joinT (st.items.map itemT) := by unfold baseT; rw [if_neg hie]
  have e0 : 0 < eI.length := eI0.2 hie
  rw [mwp_seq]
  simp [-mwp_seq,-mwp_block,hg0,e0]
  refine (h92 _).use ?_
  rintro e S1 ⟨rfl,rfl⟩
  simp [-mwp_seq,-mwp_block]
  refine ⟨by omega,?_⟩
  rw [mwp_seq,mwp_seq]
  simp [-mwp_seq,-mwp_block,hg0,e0]
  refine mwp_mono _ _ (fun _ _ _ _ _ hr h => h.mono hr) ?_ (lp38 hT (fl := fF) hF hf1 hf2 hf3 (fun x hx => hwd _ (mem_src hx)) (base := baseT st.items) hbl (p := .ptr S.length 0 0) (by simp) (by simp [eb]) (by simp) (by simp [hF.1]) (by simp))
 all_goals
  intro e a S' h
  cases e <;> first | exact h.elim | skip
  obtain ⟨g,rfl,b1,b3,hl3⟩ := h
  rw [List.length_append] at hl3
  simp only [afterX_normal]
  rw [mwp_seq]
  simp [-mwp_seq,-mwp_block,b1,b3,hg]
  refine (h41 _).use ?_
  rintro e S1 ⟨rfl,rfl⟩
  simp [-mwp_seq,-mwp_block]
  refine ⟨by omega,?_⟩
  by_cases hoe : st.order = []
  ·have e1 : ¬ 0 < eO.length := fun h => eO0.1 h hoe
   have e2 : ordT st.order = [] := by rw [hoe]; rfl
   rw [e2,List.append_nil] at hq
   simp [b1,b3,hg,e1,hq,ht]
  ·have e1 : 0 < eO.length := eO0.2 hoe
   have e2 : ordT st.order = [32,79,82,68,69,82,32,66,89,32] ++ joinT (st.order.map sortT) := by unfold ordT; rw [if_neg hoe]
   rw [e2] at hq
   simp [b1,b3,hg,e1]
   refine (h95 _).use ?_
   rintro e S1 ⟨rfl,rfl⟩
   simp [hq,ht]
   omega
end Go.Abs
namespace Go.Abs
open Go Go.RowKit Go.Proofs Go.Lx Go.Pz
variable {w0 : World}
theorem setT_le {x : Asn} (hn : nameB x.col = true) (ho : okE x.e = true) (hw : x.e.w ≤ 4000000) : (setT x).length ≤ 5000000040 := by
 have h1 := textE_le ho hw
 have h2 := nameB_len hn
 unfold setT; simp; omega
set_option maxHeartbeats 8000000 in
theorem w14 (hT : Tb w0) {st : Stm} (ho : OkS st) (hwd : ∀ x ∈ exsS st,x.w ≤ 4000000) {c : List AVal} (hc : StV st c) (S : Heap) : ACalls Tryz.prog (B0 w0) 14 [.agg c] S fun e S' => e = .ret (.str (formS st)) ∧ S' = S := by
 have h38 := fun hk S => w38 hT ho hk hwd hc S
 obtain ⟨fC,fN,fR,fI,fF,fO,fS,eR,eI,eF,ew,eO,eS,rfl,hw,hR,hI,hF,hO,hS⟩ := hc
 refine ACalls.close (R := fun e S' => e = .ret (.str (formS st)) ∧ S'.take S.length = S) ?_ ?_
 rotate_left 1
 ·rintro e S' ⟨rfl,ht⟩
  exact .flat ht rfl ⟨rfl,rfl⟩
 have h41 := fun hwp S => w41 hT hwp (hwd _ mem_wher) hw S
 obtain ⟨fl',es',k',n',s',t',q',rfl⟩ := ExV_cells hw
 refine fn_sound tryOrd (f14_c _) (by simp [f14]) ?_
 rw [f14,f14m,mwp_seq]
 simp [-mwp_seq]
 obtain ⟨H,hH⟩ : ∃ H,H = S ++ [AObj.cells 18 [[AVal.int st.kind,.str st.table,.str st.index,.list fC (pcolsC st.cols),.list fN (namesC st.names),.bool st.uniq,.list fR eR,.list fI eI,.list fF eF,.int (opOf st.wher),.list fl' es',.int k',.int n',.int s',.str t',.str q',.list fO eO,.list fS eS]] (some 1)] := ⟨_,rfl⟩
 have hg : H[S.length]? = some (.cells 18 [[AVal.int st.kind,.str st.table,.str st.index,.list fC (pcolsC st.cols),.list fN (namesC st.names),.bool st.uniq,.list fR eR,.list fI eI,.list fF eF,.int (opOf st.wher),.list fl' es',.int k',.int n',.int s',.str t',.str q',.list fO eO,.list fS eS]] (some 1)) := by rw [hH]; simp
 have ht : H.take S.length = S := by rw [hH]; simp
 rw [← hH]
 clear hH
 cases ho with
 | createT t cs ht1 h1 h2 hcs =>
   have hlen := joinT_map_len (t := colT) (c := 60) (n := 16) (l := cs) (fun x hx => colT_len (hcs x hx)) h2
   have h31 := fun S => w31 (w0 := w0) (l := cs) (es := pcolsC cs) (fl := fC) (t := colT) (fo := 32) (by simp [pcolsC]) (fun i hi => by rw [pcols_get hi]; rfl) (fun i hi => by rw [pcols_get hi]; simp [pcolC]) (by omega) (by rw [joinT_eq]; omega)
    (fun i hi S => by rw [pcols_get hi]; exact w32 (hcs _ (List.getElem_mem hi)) S) S
   rw [joinT_eq] at h31
   have hnl := nameB_len ht1
   simp [hg]
   refine ⟨by omega,by omega,?_⟩
   refine (h31 _).use ?_
   rintro e S1 ⟨rfl,rfl⟩
   simp [hg,formS,ht]
   omega
 | dropT t ht1 =>
   have hnl := nameB_len ht1
   simp [hg,formS,ht]
   try omega
 | createI u i t ns hi ht1 h1 h2 hn =>
   have hlen := joinT_map_len (t := id) (c := 32) (n := 4) (l := ns) (fun x hx => nameB_len (hn x hx)) h2
   rw [List.map_id] at hlen
   have h33 := fun S => w33 (w0 := w0) (S := S) (v := .list fN (namesC ns)) (xs := ns) (sep := [44,32]) (Rk.list fN _) (by omega) (by rw [joinT_eq]; omega)
   rw [joinT_eq] at h33
   have hnl := nameB_len ht1
   have hil := nameB_len hi
   cases u with
   | false =>
     simp [hg]
     refine ⟨by omega,by omega,by omega,by omega,?_⟩
     refine (h33 _).use ?_
     rintro e S1 ⟨rfl,rfl⟩
     simp [hg,formS,ht]
     omega
   | true =>
     simp [hg]
     refine ⟨by omega,by omega,by omega,by omega,?_⟩
     refine (h33 _).use ?_
     rintro e S1 ⟨rfl,rfl⟩
     simp [hg,formS,ht]
     omega
 | dropI i hi =>
   have hnl := nameB_len hi
   simp [hg,formS,ht]
   try omega
 | insert t rs ht1 h1 h2 hr =>
   have hwr : ∀ r ∈ rs,∀ x ∈ r,x.w ≤ 4000000 := fun r hr x hx => hwd x (mem_rows (st := { kind := 5,table := t,rows := rs }) hr hx)
   have hlen := joinT_map_len (t := rowT) (c := 250000000200) (n := 50) (l := rs) (fun r hx => rowT_len (hr r hx).2.2 (hr r hx).2.1 (hwr r hx)) h2
   have h34 := fun S => w34 (w0 := w0) (l := rs) (es := eR) (fl := fR) (t := rowT) (fo := 35) hR.1 (fun i hi => by obtain ⟨fl,es,e,h⟩ := hR.2 i hi; rw [e]; rfl) (by omega) (by rw [joinT_eq]; omega)
    (fun i hi S => by
     obtain ⟨fl,es,e,h⟩ := hR.2 i hi
     rw [e]
     have hri := hr _ (List.getElem_mem hi)
     exact w35 hT hri.2.2 hri.2.1 (hwr _ (List.getElem_mem hi)) h S) S
   rw [joinT_eq] at h34
   have hnl := nameB_len ht1
   simp [hg]
   refine ⟨by omega,by omega,?_⟩
   refine (h34 _).use ?_
   rintro e S1 ⟨rfl,rfl⟩
   simp [hg,formS,ht]
   omega
 | query is s fs w os hi his hf hs hfs hwp ho hos =>
   simp [hg]
   refine (h38 rfl _).use ?_
   rintro e S1 ⟨rfl,rfl⟩
   simp [formS,ht]
 | update t zs w ht1 h1 h2 hz hwp =>
   have hwz : ∀ x ∈ zs,x.e.w ≤ 4000000 := fun x hx => hwd _ (mem_sets (st := { kind := 7,table := t,sets := zs,wher := w }) hx)
   have hlen := joinT_map_len (t := setT) (c := 5000000040) (n := 50) (l := zs) (fun x hx => setT_le (hz x hx).1 (hz x hx).2 (hwz x hx)) h2
   have h39 := fun S => w39 (w0 := w0) (l := zs) (es := eS) (fl := fS) (t := setT) (fo := 40) hS.1 (fun i hi => by obtain ⟨ev,h,e⟩ := hS.2 i hi; rw [e]; simp [ExV_len h])
    (fun i hi => by obtain ⟨ev,h,e⟩ := hS.2 i hi; rw [e]; have := List.all_eq_true.1 (ExV_one h); intro x hx; simp at hx; rcases hx with rfl | hx; rfl; exact this x hx) (by omega) (by rw [joinT_eq]; omega)
    (fun i hi S => w40 hT (hz _ (List.getElem_mem hi)).1 (hz _ (List.getElem_mem hi)).2 (hwz _ (List.getElem_mem hi)) (hS.2 i hi) S) S
   rw [joinT_eq] at h39
   have hnl := nameB_len ht1
   have hwl := whereT_le hwp (hwd w (mem_wher (st := { kind := 7,table := t,sets := zs,wher := w })))
   simp [hg]
   refine ⟨by omega,by omega,?_⟩
   refine (h39 _).use ?_
   rintro e S1 ⟨rfl,rfl⟩
   simp [hg]
   refine ⟨by omega,by omega,?_⟩
   refine (h41 hwp _).use ?_
   rintro e S1 ⟨rfl,rfl⟩
   simp [hg,formS,ht]
   omega
 | delete t w ht1 hwp =>
   have hnl := nameB_len ht1
   have hwl := whereT_le hwp (hwd w (mem_wher (st := { kind := 8,table := t,wher := w })))
   simp [hg]
   refine ⟨by omega,?_⟩
   refine (h41 hwp _).use ?_
   rintro e S1 ⟨rfl,rfl⟩
   simp [hg,formS,ht]
   omega
 | trans k h1 h2 =>
   have hk : k = 9 ∨ k = 10 ∨ k = 11 := by omega
   rcases hk with rfl | rfl | rfl <;> simp [hg,formS,ht]
end Go.Abs
namespace Go.Abs
open Go Go.RowKit Go.Proofs Go.Lx Go.Pz
variable {w0 : World}
theorem w20v : ∀ (n : Nat),n < 4000000000000000000 → ∀ (x : Ex),x.w ≤ n → ∀ (av : List AVal),ExV x av → ∀ (S : Heap),ACalls Tryz.prog (B0 w0) 20 [.agg av] S fun e S' => e = .ret (.int x.depth) ∧ S' = S := by
 intro n
 induction n using Nat.strongRecOn with
 | _ n ih =>
   intro hn x hx av hav S
   obtain ⟨op,args,kind,num,scale,text,qual⟩ := x
   rw [depth_mk]
   rw [w_mk] at hx
   rw [ExV_mk] at hav
   obtain ⟨fl,es,rfl,hes⟩ := hav
   have hal := wL_len args
   have hdl := depthL_le args
   have hel := ExsV_len hes
   refine ACalls.close (R := fun e S' => e = .ret (.int (depthL args)) ∧ S'.take S.length = S) ?_ ?_
   rotate_left 1
   ·rintro e S' ⟨rfl,ht⟩
    exact .flat ht rfl ⟨rfl,rfl⟩
   refine fn_sound tryOrd (f20_c _) (by simp [f20]) ?_
   simp [f20,f20m,hel]
   refine mwp_loop (I := fun m a S' => ∃ (i : Nat) (g : Heap),m = args.length - i ∧ i ≤ args.length ∧ S' = S ++ g ∧ get a 7 = .list fl es ∧ get a 8 = .int args.length ∧ get a 9 = .int i ∧ get a 3 = .int (depthL (args.take i))) (n := args.length)
    ⟨0,_,rfl,Nat.zero_le _,rfl,rfl,rfl,rfl,by simp [depthL_nil]⟩ ?_
   rintro m a S' ⟨i,g,rfl,hi,rfl,a7,a8,a9,a3⟩
   by_cases hlt : i < args.length
   ·have hltI : (i : Int) < (args.length : Int) := by omega
    have hv := ExsV_get hes i hlt
    have hlt2 : i < es.length := by omega
    have q1 := li_addr (k := 7) (es := es) hlt2 rfl (ExV_len hv) fl
    have q2 := li_load (k := 7) (es := es) hlt2 rfl (ExV_len hv) true 7 0 (by omega)
    have hmem := w_mem (List.getElem_mem hlt)
    have hd := ih (args[i].w) (by omega) (by omega) args[i] (Nat.le_refl _) _ hv
    have hl7 := ExV_len hv
    have h1v := List.all_eq_true.1 (ExV_one hv)
    generalize es.getD i [] = ev at *
    have htk2 : takeAt true 7 ev 0 = .agg ev := by simp [takeAt,List.take_of_length_le,hl7]
    rw [htk2] at q2
    have hdw := depth_le args[i]
    have htk : depthL (args.take (i + 1)) = max (depthL (args.take i)) (args[i].depth + 1) := by
     rw [List.take_add_one,List.getElem?_eq_getElem hlt,depthL_append,Option.toList_some,depthL_cons,depthL_nil]; omega
    have hw : IntKind.i64.wrap ((args[i].depth : Int) + 1) = ((args[i].depth + 1 : Nat) : Int) := wrapS _ (by omega)
    have hw2 := wrapS i (by omega)
    generalize args[i] = y at *
    simp [f20b0,a7,a8,a9,a3,hltI,q1,q2,hl7]
    refine ⟨h1v,?_⟩
    refine (hd _).use ?_
    rintro e S1 ⟨rfl,rfl⟩
    simp [a7,a8,a9,a3,hw,hw2]
    refine ⟨args.length - (i + 1),by omega,i + 1,rfl,by omega,by simp,?_⟩
    rw [htk]
    split <;> omega
   ·have hie : i = args.length := by omega
    subst hie
    rw [List.take_length] at a3
    simp [f20b0,a7,a8,a9,a3]
theorem w19 {x : Ex} (hw : x.w ≤ 4000000) {ev : List AVal} (hev : ExV x ev) (S : Heap) : ACalls Tryz.prog (B0 w0) 19 [.agg ev] S fun e S' => e = .ret (.bool (decide (x.depth ≤ 40))) ∧ S' = S := by
 have h20 := fun S => w20v (w0 := w0) 4000000 (by decide) x hw ev hev S
 obtain ⟨fl,es,k,n,s,t,q,rfl⟩ := ExV_cells hev
 refine ACalls.close (R := fun e S' => e = .ret (.bool (decide (x.depth ≤ 40))) ∧ S'.take S.length = S) ?_ ?_
 rotate_left 1
 ·rintro e S' ⟨rfl,ht⟩
  exact .flat ht rfl ⟨rfl,rfl⟩
 refine fn_sound tryOrd (f19_c _) (by simp [f19]) ?_
 simp [f19,f19m]
 refine (h20 _).use ?_
 rintro e S1 ⟨rfl,rfl⟩
 simp
 omega
end Go.Abs
namespace Go.Abs
open Go Go.RowKit Go.Proofs Go.Lx Go.Pz
variable {w0 : World}
section
variable {α : Type} {R : α → List AVal → Prop}
theorem Al.nil : Al R [] [] := ⟨rfl,fun i h => by simp at h⟩
theorem Al.cons {x : α} {l : List α} {e : List AVal} {es : List (List AVal)} (h : R x e) (h' : Al R l es) : Al R (x :: l) (e :: es) :=
 ⟨by simp [h'.1],fun i hi => by
  cases i with
  | zero => simpa using h
  | succ i => simpa using h'.2 i (by simpa using hi)⟩
theorem Al.uncons {x : α} {l : List α} {es : List (List AVal)} (h : Al R (x :: l) es) : ∃ e es',es = e :: es' ∧ R x e ∧ Al R l es' := by
 obtain ⟨h1,h2⟩ := h
 cases es with
 | nil => simp at h1
 | cons e es' =>
   refine ⟨e,es',rfl,h2 0 (by simp),by simpa using h1,fun i hi => h2 (i + 1) (by simpa using hi)⟩
theorem Al.empty {es : List (List AVal)} (h : Al R [] es) : es = [] := List.eq_nil_of_length_eq_zero h.1
theorem Al.app : ∀ {l : List α} {es : List (List AVal)} {l' : List α} {es' : List (List AVal)},Al R l es → Al R l' es' → Al R (l ++ l') (es ++ es')
 | [],es,l',es',h,h' => by rw [h.empty]; exact h'
 | x :: l,es,l',es',h,h' => by
   obtain ⟨e,es2,rfl,h1,h2⟩ := h.uncons
   exact Al.cons h1 (Al.app h2 h')
theorem Al.map {β : Type} {R' : β → List AVal → Prop} {f : α → β} {g : List AVal → List AVal} (hR : ∀ x e,R x e → R' (f x) (g e)) : ∀ {l : List α} {es : List (List AVal)},Al R l es → Al R' (l.map f) (es.map g)
 | [],es,h => by rw [h.empty]; exact Al.nil
 | x :: l,es,h => by
   obtain ⟨e,es2,rfl,h1,h2⟩ := h.uncons
   exact Al.cons (hR x e h1) (Al.map hR h2)
end
theorem ExsV.al {l : List Ex} {es : List (List AVal)} (h : ExsV l es) : Al ExV l es := ⟨ExsV_len h,fun i hi => ExsV_get h i hi⟩
def rowOf : List AVal → List (List AVal)
 | [.list _ es] => es
 | _ => []
def rowsC (eR : List (List AVal)) : List (List AVal) := (eR.map rowOf).flatten
def itC (e : List AVal) : List AVal := e.take 7
def srC (e : List AVal) : List AVal := (e.drop 2).take 7
def asC (e : List AVal) : List AVal := (e.drop 1).take 7
theorem rows_al : ∀ {rs : List (List Ex)} {eR : List (List AVal)},Al RowV rs eR → Al ExV rs.flatten (rowsC eR)
 | [],es,h => by rw [h.empty]; exact Al.nil
 | x :: l,es,h => by
   obtain ⟨e,es2,rfl,⟨fl,es3,rfl,h1⟩,h2⟩ := h.uncons
   exact Al.app h1.al (rows_al h2)
theorem items_al {l : List Itm} {es : List (List AVal)} (h : Al ItmV l es) : Al ExV (l.map (·.e)) (es.map itC) := Al.map (fun x e ⟨ev,h1,h2⟩ => by
 subst h2; rw [itC,List.take_append_of_le_length (by rw [ExV_len h1]; exact Nat.le_refl _),List.take_of_length_le (by rw [ExV_len h1]; exact Nat.le_refl _)]; exact h1) h
theorem order_al {l : List Srt} {es : List (List AVal)} (h : Al SrtV l es) : Al ExV (l.map (·.e)) (es.map itC) := Al.map (fun x e ⟨ev,h1,h2⟩ => by
 subst h2; rw [itC,List.take_append_of_le_length (by rw [ExV_len h1]; exact Nat.le_refl _),List.take_of_length_le (by rw [ExV_len h1]; exact Nat.le_refl _)]; exact h1) h
theorem src_al {l : List Src} {es : List (List AVal)} (h : Al SrcV l es) : Al ExV (l.map (·.on)) (es.map srC) := Al.map (fun x e ⟨ev,h1,h2⟩ => by
 subst h2; rw [srC]; simp only [List.drop_succ_cons,List.drop_zero]; rw [List.take_of_length_le (by rw [ExV_len h1]; exact Nat.le_refl _)]; exact h1) h
theorem sets_al {l : List Asn} {es : List (List AVal)} (h : Al AsnV l es) : Al ExV (l.map (·.e)) (es.map asC) := Al.map (fun x e ⟨ev,h1,h2⟩ => by
 subst h2; rw [asC]; simp only [List.drop_succ_cons,List.drop_zero]; rw [List.take_of_length_le (by rw [ExV_len h1]; exact Nat.le_refl _)]; exact h1) h
theorem al_seven {l : List Ex} {es : List (List AVal)} (h : Al ExV l es) : ∀ e ∈ es,e.length = 7 := fun e he => by
 obtain ⟨i,hi,rfl⟩ := List.getElem_of_mem he
 have := ExV_len (h.2 i (by rw [← h.1]; exact hi))
 rwa [getD_eq _ _ _ hi] at this
def ApO (S0 S : Heap) (u : AVal) (es : List (List AVal)) : Prop := (u = .list .full es ∧ es ≠ [] ∧ Own S0.length S0 S []) ∨ Own S0.length S0 S [(u,7,es)]
theorem ApO.more {S0 S : Heap} {u : AVal} {es} (h : ApO S0 S u es) (g : Heap) : ApO S0 (S ++ g) u es := by
 rcases h with ⟨h1,h2,h3⟩ | h
 ·exact .inl ⟨h1,h2,h3.more g⟩
 ·exact .inr (h.more g)
theorem ApO.low {S0 S : Heap} {u : AVal} {es} (h : ApO S0 S u es) : ∀ j,j < S0.length → S[j]? = S0[j]? := by
 rcases h with ⟨h1,h2,h3⟩ | h
 ·exact h3.low
 ·exact h.low
theorem ApO.rk {S0 S : Heap} {u : AVal} {es} (h : ApO S0 S u es) : Rk 7 S u es := by
 rcases h with ⟨rfl,h2,h3⟩ | h
 ·exact .list _ _
 ·exact h.rk 0 rfl
theorem ApO.take {S0 S : Heap} {u : AVal} {es} (h : ApO S0 S u es) : S.take S0.length = S0 := by
 rcases h with ⟨h1,h2,h3⟩ | h
 ·exact h3.take rfl
 ·exact h.take rfl
theorem ApO.app {S0 S : Heap} {u : AVal} {es} (h : ApO S0 S u es) (hes : ∀ e ∈ es,e.length = 7) {y : AVal} {ys : List (List AVal)} (hy : srcOf S y = some (true,ys)) (hk : ∀ e ∈ ys,e.length = 7) (hb : es.length + ys.length ≤ 5000000) :
  ∃ u' S',appendR 7 88 S u y = .ok true u' S' ∧ ApO S0 S' u' (es ++ ys) := by
 have hb1 : (es.length + ys.length) * 88 ≤ 140737488355328 := by omega
 have hb2 : es.length + ys.length ≤ 4611686018427387903 := by omega
 rcases h with ⟨rfl,hne,h⟩ | h
 ·obtain ⟨e,r,rfl⟩ := List.exists_cons_of_ne_nil hne
  have d1 : decide (∀ e ∈ ys,e.length = 7) = true := by simpa using hk
  have d2 : decide (∀ x ∈ e :: r,x.length = 7) = true := decide_eq_true hes
  by_cases hys : ys = []
  ·subst hys
   refine ⟨.list .full (e :: r),S,?_,.inl ⟨by simp,by simp,h⟩⟩
   simp only [appendR,hy,if_pos,d1,d2,Bool.true_and,Fl.isFull,Bool.and_true,hb1,hb2,decide_true]
   rfl
  ·refine ⟨.row S.length 0 ((e :: r).length + ys.length),S ++ [.cells 7 (e :: r ++ ys) none],?_,.inr ?_⟩
   ·simp only [appendR,hy,if_neg hys,d1,d2,Bool.true_and,Fl.isFull,Bool.and_true,hb1,hb2,decide_true]
    rfl
   ·have := h.add 7 (e :: r ++ ys) none
    rw [List.length_append] at this
    exact this
 ·obtain ⟨S',h1,h2,_⟩ := h.app 0 rfl hy hk (by decide) hb1 hb2
  exact ⟨_,S',h1,.inr (by simpa using h2)⟩
def LxI (S0 : Heap) (p v : AVal) (n sl sn si : Nat) (F : Nat → List (List AVal)) (m : Nat) (a : Tmps) (S' : Heap) : Prop :=
 ∃ (i : Nat) (u : AVal),m = n - i ∧ i ≤ n ∧ get a 1 = p ∧ get a 3 = u ∧ get a sl = v ∧ get a sn = .int n ∧ get a si = .int i ∧ ApO S0 S' u (F i)
def LxQ (S0 : Heap) (p : AVal) (r : List (List AVal)) : AExit → Tmps → Heap → Prop
 | .normal,a,S' => ∃ u,get a 1 = p ∧ get a 3 = u ∧ ApO S0 S' u r
 | _,_,_ => False
def RF (base eR : List (List AVal)) (i : Nat) : List (List AVal) := base ++ rowsC (eR.take i)
def LF (base es : List (List AVal)) (C : List AVal → List AVal) (i : Nat) : List (List AVal) := base ++ (es.take i).map C
theorem rowsC_take {eR : List (List AVal)} {i : Nat} (h : i < eR.length) : rowsC (eR.take (i + 1)) = rowsC (eR.take i) ++ rowOf eR[i] := by
 rw [rowsC,map_take h,List.flatten_append]; simp [rowsC]
theorem rowsC_len {eR : List (List AVal)} : ∀ i,(rowsC (eR.take i)).length ≤ (rowsC eR).length := fun i => by
 conv => rhs; rw [← List.take_append_drop i eR]
 rw [rowsC,rowsC,List.map_append,List.flatten_append,List.length_append]; omega
set_option maxHeartbeats 1000000 in
theorem lp18_0 {rs : List (List Ex)} {eR : List (List AVal)} {fl : Fl} (hR : Al RowV rs eR) (hn : rs.length ≤ 4000000) {S0 S1 : Heap} {p u : AVal} {base : List (List AVal)} {a : Tmps} {G : Nat → AVal} (h7 : ∀ e ∈ base ++ rowsC eR,e.length = 7) (hbl : (base ++ rowsC eR).length ≤ 5000000)
  (ho : ApO S0 S1 u base) (b1 : get a 1 = p) (b3 : get a 3 = u) (bl : get a 18 = .list fl eR) (bn : get a 19 = .int rs.length) (bi : get a 20 = .int 0) : mwp (ACalls Tryz.prog (B0 w0)) (.block 0 (.loop (f18b0 G))) (LxQ S0 p (base ++ rowsC eR)) a S1 := by
 simp only [mwp_block]
 refine mwp_loop (I := LxI S0 p (.list fl eR) rs.length 18 19 20 (RF base eR)) ⟨0,u,rfl,Nat.zero_le _,b1,b3,bl,bn,bi,by simpa [rowsC,RF] using ho⟩ ?_
 clear b1 b3 bl bn bi ho
 rintro m a S' ⟨i,u,rfl,hi,b1,b3,bl,bn,bi,ho⟩
 rw [RF] at ho
 obtain ⟨hel,hR⟩ := hR
 by_cases hlt : i < rs.length
 ·obtain ⟨fl2,es,he,hv⟩ := hR i hlt
  have hle : i < eR.length := by omega
  have q1 := li_addr (k := 1) (es := eR) hle he rfl fl
  have q2 := li_load (k := 1) (es := eR) hle he rfl false 1 0 (by omega)
  have hst := rowsC_take hle
  have hro : rowOf eR[i] = es := by rw [getD_eq _ _ _ hle] at he; rw [he]; rfl
  rw [hro] at hst
  have hlen2 := rowsC_len (eR := eR) (i + 1)
  rw [hst,List.length_append] at hlen2
  rw [List.length_append] at hbl
  have hsub : ∀ e ∈ (base ++ rowsC (eR.take i)),e.length = 7 := fun e he => by
   rcases List.mem_append.1 he with he | he
   ·exact h7 e (by simp [he])
   ·refine h7 e (List.mem_append.2 (.inr ?_))
    rw [← List.take_append_drop i eR,rowsC,List.map_append,List.flatten_append]
    exact List.mem_append.2 (.inl he)
  obtain ⟨u',S2,happ,ho2⟩ := ho.app hsub (y := .list fl2 es) (ys := es) rfl (al_seven hv.al) (by rw [List.length_append]; omega)
  have htk : takeAt false 1 [.list fl2 es] 0 = .list fl2 es := rfl
  rw [htk] at q2
  have hltI : (i : Int) < (rs.length : Int) := by omega
  have hw := wrapS i (by omega)
  simp [-appendR,f18b0,b1,b3,bl,bn,bi,hltI,q1,q2]
  try simp [-appendR] at happ
  simp [-appendR,b1,b3,bl,bn,bi,happ,hw]
  exact ⟨rs.length - (i + 1),by omega,i + 1,_,rfl,by omega,by simp [b1],rfl,by simp [bl],by simp [bn],by simp,by rw [RF,hst,← List.append_assoc]; exact ho2⟩
 ·have hie : i = rs.length := by omega
  subst hie
  rw [List.take_of_length_le (by omega)] at ho
  simp [f18b0,b1,b3,bl,bn,bi]
  exact ⟨u,by simp [b1],by simp [b3],ho⟩
set_option maxHeartbeats 2000000 in
theorem lp18_1 {l : List Itm} {es : List (List AVal)} {fl : Fl} (hR : Al ItmV l es) (hn : l.length ≤ 4000000) {S0 S1 : Heap} {p u : AVal} {base : List (List AVal)} {a : Tmps} {G : Nat → AVal} (h7 : ∀ e ∈ base,e.length = 7) (hbl : base.length + l.length ≤ 5000000)
  (ho : ApO S0 S1 u base) (b1 : get a 1 = p) (b3 : get a 3 = u) (bl : get a 29 = .list fl es) (bn : get a 30 = .int l.length) (bi : get a 31 = .int 0) : mwp (ACalls Tryz.prog (B0 w0)) (.block 2 (.loop (f18b1 G))) (LxQ S0 p (base ++ es.map itC)) a S1 := by
 simp only [mwp_block]
 refine mwp_loop (I := LxI S0 p (.list fl es) l.length 29 30 31 (LF base es itC)) ⟨0,u,rfl,Nat.zero_le _,b1,b3,bl,bn,bi,by simpa [LF] using ho⟩ ?_
 clear b1 b3 bl bn bi ho
 rintro m a S' ⟨i,u,rfl,hi,b1,b3,bl,bn,bi,ho⟩
 rw [LF] at ho
 obtain ⟨hel,hR⟩ := hR
 by_cases hlt : i < l.length
 ·obtain ⟨ev,hev,he⟩ := hR i hlt
  have hle : i < es.length := by omega
  have hall : ∀ e ∈ (base ++ (es.take i).map itC),e.length = 7 := fun e he => by
   rcases List.mem_append.1 he with he | he
   ·exact h7 e he
   ·obtain ⟨e',he',rfl⟩ := List.mem_map.1 he
    obtain ⟨j,hj,rfl⟩ := List.getElem_of_mem (List.mem_of_mem_take he')
    obtain ⟨ev',h1,h2⟩ := hR j (by omega)
    rw [getD_eq _ _ _ hj] at h2
    rw [h2,itC]; simp [ExV_len h1]
  have q1 := li_addr (k := 8) (es := es) hle he (by simp [ExV_len hev]) fl
  have q2 := li_load (k := 8) (es := es) hle he (by simp [ExV_len hev]) true 8 0 (by omega)
  have hst := map_take (t := itC) hle
  rw [getD_eq _ _ _ hle] at he
  generalize hy : l[i] = y at *
  obtain ⟨fl',es',k',n',s',t',q',rfl⟩ := ExV_cells hev
  have htk : ∀ c : List AVal,c.length = 8 → takeAt true 8 c 0 = .agg c := fun c hc => by simp [takeAt,List.take_of_length_le,hc]
  rw [htk _ rfl] at q2
  rw [he] at hst
  obtain ⟨u',S2,happ,ho2⟩ := (ho.more [AObj.cells 8 [es[i]] (some 1)]).app hall (y := .list .full [[.int (opOf y.e),.list fl' es',.int k',.int n',.int s',.str t',.str q']]) (ys := [[.int (opOf y.e),.list fl' es',.int k',.int n',.int s',.str t',.str q']]) rfl (by simp) (by simp; omega)
  rw [he] at happ
  have hltI : (i : Int) < (l.length : Int) := by omega
  have hw := wrapS i (by omega)
  simp [-appendR,f18b1,b1,b3,bl,bn,bi,hltI,q1,q2]
  try simp [-appendR] at happ
  simp [-appendR,b1,b3,bl,bn,bi,happ,hw]
  exact ⟨l.length - (i + 1),by omega,i + 1,_,rfl,by omega,by simp [b1],rfl,by simp [bl],by simp [bn],by simp,by rw [LF,hst,← List.append_assoc]; exact ho2⟩
 ·have hie : i = l.length := by omega
  subst hie
  rw [List.take_of_length_le (by omega)] at ho
  simp [f18b1,b1,b3,bl,bn,bi]
  exact ⟨u,by simp [b1],by simp [b3],ho⟩
set_option maxHeartbeats 2000000 in
theorem lp18_2 {l : List Src} {es : List (List AVal)} {fl : Fl} (hR : Al SrcV l es) (hn : l.length ≤ 4000000) {S0 S1 : Heap} {p u : AVal} {base : List (List AVal)} {a : Tmps} {G : Nat → AVal} (h7 : ∀ e ∈ base,e.length = 7) (hbl : base.length + l.length ≤ 5000000)
  (ho : ApO S0 S1 u base) (b1 : get a 1 = p) (b3 : get a 3 = u) (bl : get a 42 = .list fl es) (bn : get a 43 = .int l.length) (bi : get a 44 = .int 0) : mwp (ACalls Tryz.prog (B0 w0)) (.block 4 (.loop (f18b2 G))) (LxQ S0 p (base ++ es.map srC)) a S1 := by
 simp only [mwp_block]
 refine mwp_loop (I := LxI S0 p (.list fl es) l.length 42 43 44 (LF base es srC)) ⟨0,u,rfl,Nat.zero_le _,b1,b3,bl,bn,bi,by simpa [LF] using ho⟩ ?_
 clear b1 b3 bl bn bi ho
 rintro m a S' ⟨i,u,rfl,hi,b1,b3,bl,bn,bi,ho⟩
 rw [LF] at ho
 obtain ⟨hel,hR⟩ := hR
 by_cases hlt : i < l.length
 ·obtain ⟨ev,hev,he⟩ := hR i hlt
  have hle : i < es.length := by omega
  have hall : ∀ e ∈ (base ++ (es.take i).map srC),e.length = 7 := fun e he => by
   rcases List.mem_append.1 he with he | he
   ·exact h7 e he
   ·obtain ⟨e',he',rfl⟩ := List.mem_map.1 he
    obtain ⟨j,hj,rfl⟩ := List.getElem_of_mem (List.mem_of_mem_take he')
    obtain ⟨ev',h1,h2⟩ := hR j (by omega)
    rw [getD_eq _ _ _ hj] at h2
    rw [h2,srC]; simp [ExV_len h1]
  have q1 := li_addr (k := 9) (es := es) hle he (by simp [ExV_len hev]) fl
  have q2 := li_load (k := 9) (es := es) hle he (by simp [ExV_len hev]) true 9 0 (by omega)
  have hst := map_take (t := srC) hle
  rw [getD_eq _ _ _ hle] at he
  generalize hy : l[i] = y at *
  obtain ⟨fl',es',k',n',s',t',q',rfl⟩ := ExV_cells hev
  have htk : ∀ c : List AVal,c.length = 9 → takeAt true 9 c 0 = .agg c := fun c hc => by simp [takeAt,List.take_of_length_le,hc]
  rw [htk _ rfl] at q2
  rw [he] at hst
  obtain ⟨u',S2,happ,ho2⟩ := (ho.more [AObj.cells 9 [es[i]] (some 1)]).app hall (y := .list .full [[.int (opOf y.on),.list fl' es',.int k',.int n',.int s',.str t',.str q']]) (ys := [[.int (opOf y.on),.list fl' es',.int k',.int n',.int s',.str t',.str q']]) rfl (by simp) (by simp; omega)
  rw [he] at happ
  have hltI : (i : Int) < (l.length : Int) := by omega
  have hw := wrapS i (by omega)
  simp [-appendR,f18b2,b1,b3,bl,bn,bi,hltI,q1,q2]
  try simp [-appendR] at happ
  simp [-appendR,b1,b3,bl,bn,bi,happ,hw]
  exact ⟨l.length - (i + 1),by omega,i + 1,_,rfl,by omega,by simp [b1],rfl,by simp [bl],by simp [bn],by simp,by rw [LF,hst,← List.append_assoc]; exact ho2⟩
 ·have hie : i = l.length := by omega
  subst hie
  rw [List.take_of_length_le (by omega)] at ho
  simp [f18b2,b1,b3,bl,bn,bi]
  exact ⟨u,by simp [b1],by simp [b3],ho⟩
set_option maxHeartbeats 2000000 in
theorem lp18_3 {l : List Srt} {es : List (List AVal)} {fl : Fl} (hR : Al SrtV l es) (hn : l.length ≤ 4000000) {S0 S1 : Heap} {p u : AVal} {base : List (List AVal)} {a : Tmps} {G : Nat → AVal} (h7 : ∀ e ∈ base,e.length = 7) (hbl : base.length + l.length ≤ 5000000)
  (ho : ApO S0 S1 u base) (b1 : get a 1 = p) (b3 : get a 3 = u) (bl : get a 55 = .list fl es) (bn : get a 56 = .int l.length) (bi : get a 57 = .int 0) : mwp (ACalls Tryz.prog (B0 w0)) (.block 6 (.loop (f18b3 G))) (LxQ S0 p (base ++ es.map itC)) a S1 := by
 simp only [mwp_block]
 refine mwp_loop (I := LxI S0 p (.list fl es) l.length 55 56 57 (LF base es itC)) ⟨0,u,rfl,Nat.zero_le _,b1,b3,bl,bn,bi,by simpa [LF] using ho⟩ ?_
 clear b1 b3 bl bn bi ho
 rintro m a S' ⟨i,u,rfl,hi,b1,b3,bl,bn,bi,ho⟩
 rw [LF] at ho
 obtain ⟨hel,hR⟩ := hR
 by_cases hlt : i < l.length
 ·obtain ⟨ev,hev,he⟩ := hR i hlt
  have hle : i < es.length := by omega
  have hall : ∀ e ∈ (base ++ (es.take i).map itC),e.length = 7 := fun e he => by
   rcases List.mem_append.1 he with he | he
   ·exact h7 e he
   ·obtain ⟨e',he',rfl⟩ := List.mem_map.1 he
    obtain ⟨j,hj,rfl⟩ := List.getElem_of_mem (List.mem_of_mem_take he')
    obtain ⟨ev',h1,h2⟩ := hR j (by omega)
    rw [getD_eq _ _ _ hj] at h2
    rw [h2,itC]; simp [ExV_len h1]
  have q1 := li_addr (k := 8) (es := es) hle he (by simp [ExV_len hev]) fl
  have q2 := li_load (k := 8) (es := es) hle he (by simp [ExV_len hev]) true 8 0 (by omega)
  have hst := map_take (t := itC) hle
  rw [getD_eq _ _ _ hle] at he
  generalize hy : l[i] = y at *
  obtain ⟨fl',es',k',n',s',t',q',rfl⟩ := ExV_cells hev
  have htk : ∀ c : List AVal,c.length = 8 → takeAt true 8 c 0 = .agg c := fun c hc => by simp [takeAt,List.take_of_length_le,hc]
  rw [htk _ rfl] at q2
  rw [he] at hst
  obtain ⟨u',S2,happ,ho2⟩ := (ho.more [AObj.cells 8 [es[i]] (some 1)]).app hall (y := .list .full [[.int (opOf y.e),.list fl' es',.int k',.int n',.int s',.str t',.str q']]) (ys := [[.int (opOf y.e),.list fl' es',.int k',.int n',.int s',.str t',.str q']]) rfl (by simp) (by simp; omega)
  rw [he] at happ
  have hltI : (i : Int) < (l.length : Int) := by omega
  have hw := wrapS i (by omega)
  simp [-appendR,f18b3,b1,b3,bl,bn,bi,hltI,q1,q2]
  try simp [-appendR] at happ
  simp [-appendR,b1,b3,bl,bn,bi,happ,hw]
  exact ⟨l.length - (i + 1),by omega,i + 1,_,rfl,by omega,by simp [b1],rfl,by simp [bl],by simp [bn],by simp,by rw [LF,hst,← List.append_assoc]; exact ho2⟩
 ·have hie : i = l.length := by omega
  subst hie
  rw [List.take_of_length_le (by omega)] at ho
  simp [f18b3,b1,b3,bl,bn,bi]
  exact ⟨u,by simp [b1],by simp [b3],ho⟩
set_option maxHeartbeats 2000000 in
theorem lp18_4 {l : List Asn} {es : List (List AVal)} {fl : Fl} (hR : Al AsnV l es) (hn : l.length ≤ 4000000) {S0 S1 : Heap} {p u : AVal} {base : List (List AVal)} {a : Tmps} {G : Nat → AVal} (h7 : ∀ e ∈ base,e.length = 7) (hbl : base.length + l.length ≤ 5000000)
  (ho : ApO S0 S1 u base) (b1 : get a 1 = p) (b3 : get a 3 = u) (bl : get a 68 = .list fl es) (bn : get a 69 = .int l.length) (bi : get a 70 = .int 0) : mwp (ACalls Tryz.prog (B0 w0)) (.block 8 (.loop (f18b4 G))) (LxQ S0 p (base ++ es.map asC)) a S1 := by
 simp only [mwp_block]
 refine mwp_loop (I := LxI S0 p (.list fl es) l.length 68 69 70 (LF base es asC)) ⟨0,u,rfl,Nat.zero_le _,b1,b3,bl,bn,bi,by simpa [LF] using ho⟩ ?_
 clear b1 b3 bl bn bi ho
 rintro m a S' ⟨i,u,rfl,hi,b1,b3,bl,bn,bi,ho⟩
 rw [LF] at ho
 obtain ⟨hel,hR⟩ := hR
 by_cases hlt : i < l.length
 ·obtain ⟨ev,hev,he⟩ := hR i hlt
  have hle : i < es.length := by omega
  have hall : ∀ e ∈ (base ++ (es.take i).map asC),e.length = 7 := fun e he => by
   rcases List.mem_append.1 he with he | he
   ·exact h7 e he
   ·obtain ⟨e',he',rfl⟩ := List.mem_map.1 he
    obtain ⟨j,hj,rfl⟩ := List.getElem_of_mem (List.mem_of_mem_take he')
    obtain ⟨ev',h1,h2⟩ := hR j (by omega)
    rw [getD_eq _ _ _ hj] at h2
    rw [h2,asC]; simp [ExV_len h1]
  have q1 := li_addr (k := 8) (es := es) hle he (by simp [ExV_len hev]) fl
  have q2 := li_load (k := 8) (es := es) hle he (by simp [ExV_len hev]) true 8 0 (by omega)
  have hst := map_take (t := asC) hle
  rw [getD_eq _ _ _ hle] at he
  generalize hy : l[i] = y at *
  obtain ⟨fl',es',k',n',s',t',q',rfl⟩ := ExV_cells hev
  have htk : ∀ c : List AVal,c.length = 8 → takeAt true 8 c 0 = .agg c := fun c hc => by simp [takeAt,List.take_of_length_le,hc]
  rw [htk _ rfl] at q2
  rw [he] at hst
  obtain ⟨u',S2,happ,ho2⟩ := (ho.more [AObj.cells 8 [es[i]] (some 1)]).app hall (y := .list .full [[.int (opOf y.e),.list fl' es',.int k',.int n',.int s',.str t',.str q']]) (ys := [[.int (opOf y.e),.list fl' es',.int k',.int n',.int s',.str t',.str q']]) rfl (by simp) (by simp; omega)
  rw [he] at happ
  have hltI : (i : Int) < (l.length : Int) := by omega
  have hw := wrapS i (by omega)
  simp [-appendR,f18b4,b1,b3,bl,bn,bi,hltI,q1,q2]
  try simp [-appendR] at happ
  simp [-appendR,b1,b3,bl,bn,bi,happ,hw]
  exact ⟨l.length - (i + 1),by omega,i + 1,_,rfl,by omega,by simp [b1],rfl,by simp [bl],by simp [bn],by simp,by rw [LF,hst,← List.append_assoc]; exact ho2⟩
 ·have hie : i = l.length := by omega
  subst hie
  rw [List.take_of_length_le (by omega)] at ho
  simp [f18b4,b1,b3,bl,bn,bi]
  exact ⟨u,by simp [b1],by simp [b3],ho⟩
end Go.Abs
namespace Go.Abs
open Go Go.RowKit Go.Proofs Go.Lx Go.Pz
variable {w0 : World}
theorem Own.shrink {S g S' : Heap} {L} (h : Own (S ++ g).length (S ++ g) S' L) : Own S.length S S' L :=
 ⟨by have := h.le; simp at this; omega,fun j hj => by rw [h.low j (by simp; omega),List.getElem?_append_left hj],fun i v k es hi => by
  have := h.ap i v k es hi
  cases this with
  | none fl hf => exact .none fl hf
  | row id off len es cap hN hS hl => exact .row id off len es cap (by simp at hN; omega) hS hl,h.sep⟩
theorem ApO.shrink {S g S' : Heap} {u : AVal} {es} (h : ApO (S ++ g) S' u es) : ApO S S' u es := by
 rcases h with ⟨h1,h2,h3⟩ | h
 ·exact .inl ⟨h1,h2,h3.shrink⟩
 ·exact .inr h.shrink
def allC (ew : List AVal) (eR eI eF eO eS : List (List AVal)) : List (List AVal) := [ew] ++ rowsC eR ++ eI.map itC ++ eF.map srC ++ eO.map itC ++ eS.map asC
set_option maxHeartbeats 4000000 in
theorem w18 {st : Stm} (hm : Sm st) {c : List AVal} (hc : StV st c) (S : Heap) : ACalls Tryz.prog (B0 w0) 18 [.agg c] S fun e S' => ∃ u es,e = .ret u ∧ ApO S S' u es ∧ Al ExV (exsS st) es := by
 obtain ⟨fC,fN,fR,fI,fF,fO,fS,eR,eI,eF,ew,eO,eS,rfl,hw,hR,hI,hF,hO,hS⟩ := hc
 have hal : Al ExV (exsS st) (allC ew eR eI eF eO eS) := by
  have := Al.app (Al.cons hw Al.nil) (Al.app (rows_al hR) (Al.app (items_al hI) (Al.app (src_al hF) (Al.app (order_al hO) (sets_al hS)))))
  simpa [exsS,allC,List.append_assoc] using this
 have hlen : (allC ew eR eI eF eO eS).length ≤ 4000000 := by rw [hal.1]; exact hm.ex
 have h7 := al_seven hal
 have hq : ∀ e ∈ allC ew eR eI eF eO eS,e.length = 7 := h7
 simp only [allC,List.length_append,List.length_map,List.length_cons,List.length_nil] at hlen
 have s5 : ∀ e ∈ [ew] ++ rowsC eR ++ eI.map itC ++ eF.map srC ++ eO.map itC,e.length = 7 := fun e he => h7 e (List.mem_append.2 (.inl he))
 have s4 : ∀ e ∈ [ew] ++ rowsC eR ++ eI.map itC ++ eF.map srC,e.length = 7 := fun e he => s5 e (List.mem_append.2 (.inl he))
 have s3 : ∀ e ∈ [ew] ++ rowsC eR ++ eI.map itC,e.length = 7 := fun e he => s4 e (List.mem_append.2 (.inl he))
 have s2 : ∀ e ∈ [ew] ++ rowsC eR,e.length = 7 := fun e he => s3 e (List.mem_append.2 (.inl he))
 have l1 := hI.1; have l2 := hF.1; have l3 := hO.1; have l4 := hS.1; have l0 := hR.1
 obtain ⟨fl',es',k',n',s',t',q',hew⟩ := ExV_cells hw
 subst hew
 refine fn_sound tryOrd (f18_c _) (by simp [f18]) ?_
 rw [f18,f18m,mwp_seq]
 simp [-mwp_seq]
 obtain ⟨H,hH⟩ : ∃ H,H = S ++ [AObj.cells 18 [[AVal.int st.kind,.str st.table,.str st.index,.list fC (pcolsC st.cols),.list fN (namesC st.names),.bool st.uniq,.list fR eR,.list fI eI,.list fF eF,.int (opOf st.wher),.list fl' es',.int k',.int n',.int s',.str t',.str q',.list fO eO,.list fS eS]] (some 1)] := ⟨_,rfl⟩
 have hg : H[S.length]? = some (.cells 18 [[AVal.int st.kind,.str st.table,.str st.index,.list fC (pcolsC st.cols),.list fN (namesC st.names),.bool st.uniq,.list fR eR,.list fI eI,.list fF eF,.int (opOf st.wher),.list fl' es',.int k',.int n',.int s',.str t',.str q',.list fO eO,.list fS eS]] (some 1)) := by rw [hH]; simp
 have hHl : S.length < H.length := by rw [hH]; simp
 have hsh : ∀ {S' u es},ApO H S' u es → ApO S S' u es := fun {S' u es} h => by rw [hH] at h; exact h.shrink
 rw [← hH]
 clear hH
 rw [mwp_seq]
 simp [-mwp_seq,-mwp_block,hg]
 rw [mwp_seq,mwp_seq]
 simp [-mwp_seq,-mwp_block,hg]
 have o0 : ApO H H (.list .full [[.int (opOf st.wher),.list fl' es',.int k',.int n',.int s',.str t',.str q']]) [[.int (opOf st.wher),.list fl' es',.int k',.int n',.int s',.str t',.str q']] := .inl ⟨rfl,by simp,Own.start H⟩
 refine mwp_mono _ _ (fun _ _ _ _ _ hr h => h.mono hr) ?_ (lp18_0 (fl := fR) hR hm.rows (p := .ptr S.length 0 0) s2 (by simp only [List.length_append,List.length_cons,List.length_nil]; omega) o0 (by simp) (by simp) (by simp) (by simp [l0]) (by simp))
 intro e a S' h
 cases e <;> first | exact h.elim | skip
 obtain ⟨u1,b1,b3,o1⟩ := h
 have hg1 := (o1.low S.length hHl).trans hg
 simp only [afterX_normal]
 rw [mwp_seq,mwp_seq]
 simp [-mwp_seq,-mwp_block,b1,b3,hg1]
 refine mwp_mono _ _ (fun _ _ _ _ _ hr h => h.mono hr) ?_ (lp18_1 (fl := fI) hI hm.items (p := .ptr S.length 0 0) s2 (by simp only [List.length_append,List.length_cons,List.length_nil]; omega) o1 (by simp [b1]) (by simp [b3]) (by simp) (by simp [l1]) (by simp))
 intro e a S' h
 cases e <;> first | exact h.elim | skip
 obtain ⟨u2,b1,b3,o2⟩ := h
 have hg2 := (o2.low S.length hHl).trans hg
 simp only [afterX_normal]
 rw [mwp_seq,mwp_seq]
 simp [-mwp_seq,-mwp_block,b1,b3,hg2]
 refine mwp_mono _ _ (fun _ _ _ _ _ hr h => h.mono hr) ?_ (lp18_2 (fl := fF) hF hm.src (p := .ptr S.length 0 0) s3 (by simp only [List.length_append,List.length_map,List.length_cons,List.length_nil]; omega) o2 (by simp [b1]) (by simp [b3]) (by simp) (by simp [l2]) (by simp))
 intro e a S' h
 cases e <;> first | exact h.elim | skip
 obtain ⟨u3,b1,b3,o3⟩ := h
 have hg3 := (o3.low S.length hHl).trans hg
 simp only [afterX_normal]
 rw [mwp_seq,mwp_seq]
 simp [-mwp_seq,-mwp_block,b1,b3,hg3]
 refine mwp_mono _ _ (fun _ _ _ _ _ hr h => h.mono hr) ?_ (lp18_3 (fl := fO) hO hm.order (p := .ptr S.length 0 0) s4 (by simp only [List.length_append,List.length_map,List.length_cons,List.length_nil]; omega) o3 (by simp [b1]) (by simp [b3]) (by simp) (by simp [l3]) (by simp))
 intro e a S' h
 cases e <;> first | exact h.elim | skip
 obtain ⟨u4,b1,b3,o4⟩ := h
 have hg4 := (o4.low S.length hHl).trans hg
 simp only [afterX_normal]
 rw [mwp_seq,mwp_seq]
 simp [-mwp_seq,-mwp_block,b1,b3,hg4]
 refine mwp_mono _ _ (fun _ _ _ _ _ hr h => h.mono hr) ?_ (lp18_4 (fl := fS) hS hm.sets (p := .ptr S.length 0 0) s5 (by simp only [List.length_append,List.length_map,List.length_cons,List.length_nil]; omega) o4 (by simp [b1]) (by simp [b3]) (by simp) (by simp [l4]) (by simp))
 intro e a S' h
 cases e <;> first | exact h.elim | skip
 obtain ⟨u5,b1,b3,o5⟩ := h
 simp [b1,b3]
 exact ⟨_,hsh o5,hal⟩
set_option maxHeartbeats 2000000 in
theorem w10 (hT : Tb w0) {st : Stm} (hm : Sm st) {c : List AVal} (hc : StV st c) (S : Heap) : ACalls Tryz.prog (B0 w0) 10 [.agg c] S fun e S' => e = .ret (.int (checkS st)) ∧ S' = S := by
 have h16 := fun S => w16 hT hm hc S
 have h18 := fun S => w18 (w0 := w0) hm hc S
 rw [rightB_eq] at h16
 obtain ⟨fC,fN,fR,fI,fF,fO,fS,eR,eI,eF,ew,eO,eS,rfl,hw,hR,hI,hF,hO,hS⟩ := hc
 obtain ⟨fl',es',k',n',s',t',q',rfl⟩ := ExV_cells hw
 refine ACalls.close (R := fun e S' => e = .ret (.int (checkS st)) ∧ S'.take S.length = S) ?_ ?_
 rotate_left 1
 ·rintro e S' ⟨rfl,ht⟩
  exact .flat ht rfl ⟨rfl,rfl⟩
 refine fn_sound tryOrd (f10_c _) (by simp [f10]) ?_
 rw [f10,f10m,mwp_seq]
 simp [-mwp_seq]
 obtain ⟨H,hH⟩ : ∃ H,H = S ++ [AObj.cells 18 [[AVal.int st.kind,.str st.table,.str st.index,.list fC (pcolsC st.cols),.list fN (namesC st.names),.bool st.uniq,.list fR eR,.list fI eI,.list fF eF,.int (opOf st.wher),.list fl' es',.int k',.int n',.int s',.str t',.str q',.list fO eO,.list fS eS]] (some 1)] := ⟨_,rfl⟩
 have hg : H[S.length]? = some (.cells 18 [[AVal.int st.kind,.str st.table,.str st.index,.list fC (pcolsC st.cols),.list fN (namesC st.names),.bool st.uniq,.list fR eR,.list fI eI,.list fF eF,.int (opOf st.wher),.list fl' es',.int k',.int n',.int s',.str t',.str q',.list fO eO,.list fS eS]] (some 1)) := by rw [hH]; simp
 have ht : H.take S.length = S := by rw [hH]; simp
 have hHl : S.length < H.length := by rw [hH]; simp
 rw [← hH]
 clear hH
 simp [hg]
 refine (h16 _).use ?_
 rintro e S1 ⟨rfl,rfl⟩
 cases hok : okS st with
 | false => simp [checkS,hok,ht]
 | true =>
   simp [hg]
   refine (h18 _).use ?_
   rintro e S2 ⟨u,es,rfl,ho,hal⟩
   have hg2 := (ho.low S.length hHl).trans hg
   have hS2 : S2.take S.length = S := by
    have e : S2.take S.length = (S2.take S1.length).take S.length := by rw [List.take_take,Nat.min_eq_left (by omega)]
    rw [e,ho.take,ht]
   have h17 := w17 (w0 := w0) (l := exsS st) (p := fun x => decide (x.depth ≤ 40)) (fo := 19) ho.rk hal.1 (fun i hi => ExV_len (hal.2 i hi)) (fun i hi => List.all_eq_true.1 (ExV_one (hal.2 i hi))) (by have := hm.ex; omega)
    fun i hi g => w19 (hm.w _ (List.getElem_mem hi)).1 (hal.2 i hi) _
   simp
   refine h17.use ?_
   rintro e S3 ⟨rfl,rfl⟩
   cases hall : (exsS st).all fun x => decide (x.depth ≤ 40) with
   | false =>
     have hc : checkS st = 5 := by rw [checkS,if_pos hok,hall]; rfl
     simp [hc,hS2]
   | true =>
     have hc : checkS st = 0 := by rw [checkS,if_pos hok,hall]; rfl
     simp [hc,hS2]
def showT (st : Stm) : Bs := if checkS st = 0 ∧ (formS st).length ≤ 4000 then formS st else []
def showC (st : Stm) : Int := if checkS st = 0 then (if (formS st).length ≤ 4000 then 0 else 1) else checkS st
theorem check_ok {st : Stm} (h : checkS st = 0) : OkS st := by
 cases h0 : okS st with
 | true => exact okS_iff.1 h0
 | false => rw [checkS,if_neg (by simp [h0])] at h; cases h
set_option maxHeartbeats 2000000 in
theorem w8 (hT : Tb w0) {st : Stm} (hm : Sm st) {c : List AVal} (hc : StV st c) (S : Heap) : ACalls Tryz.prog (B0 w0) 8 [.agg c] S fun e S' => e = .ret (.tuple [.str (showT st),.int (showC st)]) ∧ S' = S := by
 have h10 := fun S => w10 hT hm hc S
 have h14 := fun ho S => w14 hT ho (fun x hx => (hm.w x hx).1) hc S
 obtain ⟨fC,fN,fR,fI,fF,fO,fS,eR,eI,eF,ew,eO,eS,rfl,hw,hR,hI,hF,hO,hS⟩ := hc
 obtain ⟨fl',es',k',n',s',t',q',rfl⟩ := ExV_cells hw
 refine ACalls.close (R := fun e S' => e = .ret (.tuple [.str (showT st),.int (showC st)]) ∧ S'.take S.length = S) ?_ ?_
 rotate_left 1
 ·rintro e S' ⟨rfl,ht⟩
  exact .flat ht rfl ⟨rfl,rfl⟩
 refine fn_sound tryOrd (f8_c _) (by simp [f8]) ?_
 rw [f8,f8m,mwp_seq]
 simp [-mwp_seq]
 obtain ⟨H,hH⟩ : ∃ H,H = S ++ [AObj.cells 18 [[AVal.int st.kind,.str st.table,.str st.index,.list fC (pcolsC st.cols),.list fN (namesC st.names),.bool st.uniq,.list fR eR,.list fI eI,.list fF eF,.int (opOf st.wher),.list fl' es',.int k',.int n',.int s',.str t',.str q',.list fO eO,.list fS eS]] (some 1)] := ⟨_,rfl⟩
 have hg : H[S.length]? = some (.cells 18 [[AVal.int st.kind,.str st.table,.str st.index,.list fC (pcolsC st.cols),.list fN (namesC st.names),.bool st.uniq,.list fR eR,.list fI eI,.list fF eF,.int (opOf st.wher),.list fl' es',.int k',.int n',.int s',.str t',.str q',.list fO eO,.list fS eS]] (some 1)) := by rw [hH]; simp
 have ht : H.take S.length = S := by rw [hH]; simp
 rw [← hH]
 clear hH
 simp [hg]
 refine (h10 _).use ?_
 rintro e S1 ⟨rfl,rfl⟩
 by_cases h0 : checkS st = 0
 ·simp [h0,hg]
  refine (h14 (check_ok h0) _).use ?_
  rintro e S1 ⟨rfl,rfl⟩
  by_cases hl : (formS st).length ≤ 4000
  ·have hl' : ¬ (4000 : Int) < ((formS st).length : Int) := by omega
   simp [showT,showC,h0,hl,hl',ht]
  ·have hl' : (4000 : Int) < ((formS st).length : Int) := by omega
   simp [showT,showC,h0,hl,hl',ht]
 ·have b0 : (checkS st != 0) = true := by simpa using h0
  simp [h0,b0,showT,showC,ht]
end Go.Abs
namespace Go.Abs
open Go.Lx Go.Pz
def Red {α : Type} (x : ResS α) (a : α) (r : List Tok) (d : Nat) : Prop := ∃ d',x = .ok (a,⟨r,d'⟩) ∧ (d ≤ 40 → d' ≤ 40)
theorem Red.pure {α : Type} {a : α} {r : List Tok} {d : Nat} : Red (.ok (a,⟨r,d⟩)) a r d := ⟨d,rfl,id⟩
theorem Red.bind {α β : Type} {x : ResS α} {f : α → Sta → ResS β} {a : α} {b : β} {r r2 : List Tok} {d : Nat} (h : Red x a r d) (hf : ∀ d',Red (f a ⟨r,d'⟩) b r2 d') : Red (bindS x f) b r2 d := by
 obtain ⟨d1,rfl,h1⟩ := h
 obtain ⟨d2,h2,h3⟩ := hf d1
 exact ⟨d2,h2,fun h => h3 (h1 h)⟩
theorem Red.need {β : Type} {k : Int} {w : Bs} {l : List Tok} {d : Nat} {f : Sta → ResS β} {b : β} {r : List Tok} (h : isT k w l = true) (hf : Red (f ⟨l.tail,d⟩) b r d) : Red (thenS (needS k w ⟨l,d⟩) f) b r d := by
 rw [needS,if_pos h,thenS_ok]; exact hf
theorem Red.name {x : Bs} {r : List Tok} {d : Nat} (h : nameB x = true) : Red (nameS resv ⟨wT x :: r,d⟩) x r d := by
 rw [nameS,nameR_ok h]; exact Red.pure
theorem Red.ex {N : Nat} {x : Ex} {r : List Tok} {d : Nat} (ho : okE x = true) (hd : x.depth ≤ 40) (hN : x.depth < N) (hc : Clo r) : Red (whole resv N ⟨tokE x ++ r,d⟩) x r d := by
 obtain ⟨n,rfl⟩ : ∃ n,N = n + 1 := ⟨N - 1,by omega⟩
 have h1 := one_text x.w x (Nat.le_refl _) ho n 0 (by omega) (by omega) r hc.dot
 have hh := tokE_head ho r
 have hE : Pz.either resv (n + 1) 0 (tokE x ++ r) = .ok (x,r) := up_one h1 hh.1 hh.2 hc
 refine ⟨max d x.depth,?_,by omega⟩
 rw [whole]
 simp only
 rw [hE]
theorem Red.alias {n : Bs} {r : List Tok} {d : Nat} (h : aliasB n = true) (hr : isT 1 [97,115] r = false) : Red (aliasS resv ⟨(if n = [] then [] else [wT [97,115],wT n]) ++ r,d⟩) n r d := by
 unfold aliasS
 by_cases h0 : n = []
 ·subst h0
  simp only [if_pos rfl,List.nil_append]
  rw [if_neg (by simp [hr])]
  exact Red.pure
 ·simp only [aliasB,Bool.or_eq_true,decide_eq_true_eq] at h
  simp only [if_neg h0,List.cons_append,List.nil_append]
  rw [if_pos (by simp [isT])]
  exact Red.name (h.resolve_left h0)
theorem asK_eq (l : List Tok) (n : Bs) (r : List Tok) : asK l n ++ r = l ++ ((if n = [] then [] else [wT [97,115],wT n]) ++ r) := by
 unfold asK; split <;> simp
theorem clo_as {n : Bs} {r : List Tok} (h : Clo r) : Clo ((if n = [] then [] else [wT [97,115],wT n]) ++ r) := by
 split
 ·exact h
 ·exact clo_tok (by simp [cloT])
theorem Red.list {α : Type} {k : α → List Tok} {step : List α → Sta → ResS (List α)} {Q : List Tok → Prop} (hQ : ∀ r,Q (sT [44] :: r)) : ∀ (l : List α),l ≠ [] → (∀ a ∈ l,∀ acc r d,Q r → Red (step acc ⟨k a ++ r,d⟩) (acc ++ [a]) r d) →
  ∀ (f : Nat),l.length ≤ f → ∀ (acc : List α) (r : List Tok) (d : Nat),Q r → isT 5 [44] r = false → Red (listF step f acc ⟨joinK (l.map k) ++ r,d⟩) (acc ++ l) r d
 | [],h,_ => absurd rfl h
 | [a],_,hs => fun f hf acc r d hq hc => by
   obtain ⟨f,rfl⟩ : ∃ m,f = m + 1 := ⟨f - 1,by simp at hf; omega⟩
   obtain ⟨d',h1,h2⟩ := hs a (by simp) acc r d hq
   refine ⟨d',?_,h2⟩
   rw [listF]
   simp only [List.map_cons,List.map_nil,joinK]
   rw [h1]
   simp only
   rw [if_neg (by simp [hc])]
 | a :: b :: l,_,hs => fun f hf acc r d hq hc => by
   obtain ⟨f,rfl⟩ : ∃ m,f = m + 1 := ⟨f - 1,by simp at hf; omega⟩
   obtain ⟨d',h1,h2⟩ := hs a (by simp) acc (sT [44] :: (joinK ((b :: l).map k) ++ r)) d (hQ _)
   obtain ⟨d2,h3,h4⟩ := Red.list hQ (b :: l) (by simp) (fun x hx => hs x (by simp [List.mem_cons.1 hx])) f (by simp at hf ⊢; omega) (acc ++ [a]) r d' hq hc
   refine ⟨d2,?_,fun h => h4 (h2 h)⟩
   have e : joinK ((a :: b :: l).map k) ++ r = k a ++ sT [44] :: (joinK ((b :: l).map k) ++ r) := by simp [joinK,List.append_assoc]
   rw [e,listF,h1]
   simp only
   rw [if_pos (by simp [isT]),if_neg (by simp at hf; omega)]
   simp only [List.tail_cons]
   rw [h3]
   simp
section
variable {N : Nat}
theorem Red.col {c : Pz.Col} {r : List Tok} {d : Nat} {acc : List Pz.Col} (h : colB c = true) (hr : isT 1 [110,111,116] r = false) : Red (bindS (columnS resv ⟨colK c ++ r,d⟩) fun c s => .ok (acc ++ [c],s)) (acc ++ [c]) r d := by
 obtain ⟨name,type,req⟩ := c
 simp only [colB,Bool.and_eq_true,decide_eq_true_eq] at h
 obtain ⟨⟨h1,h2⟩,h3⟩ := h
 obtain ⟨n,rfl⟩ : ∃ n : Nat,type = n := ⟨type.toNat,by omega⟩
 have hc : n = 1 ∨ n = 2 ∨ n = 3 ∨ n = 4 := by omega
 have ht : ∀ l d,Red (typeS ⟨typeK (n : Int) :: l,d⟩) (n : Int) l d := fun l d => by
  rcases hc with rfl | rfl | rfl | rfl <;> exact ⟨d,rfl,id⟩
 refine Red.bind (a := ⟨name,n,req⟩) (r := r) ?_ fun d' => Red.pure
 unfold columnS
 cases req with
 | false =>
   refine Red.bind (Red.name h1) fun d1 => Red.bind (ht _ _) fun d2 => ?_
   rw [if_neg]
   ·exact Red.pure
   ·show ¬ isT 1 [110,111,116] ([] ++ r) = true
    rw [List.nil_append,hr]; simp
 | true =>
   refine Red.bind (Red.name h1) fun d1 => Red.bind (ht _ _) fun d2 => ?_
   rw [if_pos (by simp [isT])]
   exact Red.need (by simp [isT]) Red.pure
theorem Red.row {x : List Ex} {r : List Tok} {d : Nat} {acc : List (List Ex)} (h : okL x = true) (h1 : 1 ≤ x.length) (h2 : x.length ≤ 50) (hd : ∀ y ∈ x,y.depth ≤ 40 ∧ y.depth < N) : Red (rowS resv N acc ⟨rowK x ++ r,d⟩) (acc ++ [x]) r d := by
 unfold rowS
 refine Red.need (by simp [rowK,isT]) ?_
 have e : (rowK x ++ r).tail = joinK (x.map tokE) ++ (sT [41] :: r) := by simp [rowK]
 rw [e]
 refine Red.bind (Red.list (Q := Clo) clo_comma x (not_nil h1) (fun a ha acc r d hq => ?_) 50 h2 [] (sT [41] :: r) d (clo_close r) (by simp [isT])) fun d' => Red.need (by simp [isT]) ?_
 ·unfold exprsS
  exact Red.bind (Red.ex (okL_iff.1 h a ha) (hd a ha).1 (hd a ha).2 hq) fun d' => Red.pure
 ·exact Red.pure
theorem Red.item {x : Itm} {r : List Tok} {d : Nat} {acc : List Itm} (h : okE x.e = true) (hn : aliasB x.name = true) (hd : x.e.depth ≤ 40 ∧ x.e.depth < N) (hc : Clo r) (hr : isT 1 [97,115] r = false) : Red (itemS resv N acc ⟨itemK x ++ r,d⟩) (acc ++ [x]) r d := by
 unfold itemS itemK
 rw [asK_eq]
 exact Red.bind (Red.ex h hd.1 hd.2 (clo_as hc)) fun d1 => Red.bind (Red.alias hn hr) fun d2 => Red.pure
theorem Red.src {x : Src} {r : List Tok} {d : Nat} (h : nameB x.table = true) (hn : aliasB x.alias = true) (hr : isT 1 [97,115] r = false) : Red (sourceS resv ⟨srcK x ++ r,d⟩) ⟨x.table,x.alias,.zero⟩ r d := by
 unfold sourceS srcK
 rw [asK_eq]
 exact Red.bind (Red.name h) fun d1 => Red.bind (Red.alias hn hr) fun d2 => Red.pure
theorem Red.sort {x : Srt} {r : List Tok} {d : Nat} {acc : List Srt} (h : okE x.e = true) (hd : x.e.depth ≤ 40 ∧ x.e.depth < N) (hc : Clo r) (hr : isT 1 [100,101,115,99] r = false) : Red (sortS resv N acc ⟨sortK x ++ r,d⟩) (acc ++ [x]) r d := by
 obtain ⟨e,desc⟩ := x
 unfold sortS sortK
 cases desc with
 | false =>
   refine Red.bind (Red.ex h hd.1 hd.2 hc) fun d1 => ?_
   simp only [hr]
   exact Red.pure
 | true =>
   rw [if_pos rfl,List.append_assoc]
   refine Red.bind (Red.ex (r := wT [100,101,115,99] :: r) h hd.1 hd.2 (clo_tok (by simp [cloT]))) fun d1 => ?_
   exact Red.pure
theorem Red.set {x : Asn} {r : List Tok} {d : Nat} {acc : List Asn} (hn : nameB x.col = true) (h : okE x.e = true) (hd : x.e.depth ≤ 40 ∧ x.e.depth < N) (hc : Clo r) : Red (setS resv N acc ⟨setK x ++ r,d⟩) (acc ++ [x]) r d := by
 unfold setS setK
 refine Red.bind (Red.name hn) fun d1 => Red.need (by simp [isT]) (Red.bind (Red.ex h hd.1 hd.2 hc) fun d2 => Red.pure)
theorem Red.wher {x : Ex} {r : List Tok} {d : Nat} (h : perB x = true) (hd : x.depth ≤ 40 ∧ x.depth < N) (hc : Clo r) (hr : isT 1 [119,104,101,114,101] r = false) : Red (whereS resv N ⟨whereK x ++ r,d⟩) x r d := by
 unfold whereS whereK
 by_cases h0 : opOf x = 0
 ·rw [perB_zero h0] at h
  obtain rfl := zeroB_eq h
  simp only [if_pos h0,List.nil_append]
  rw [if_neg (by simp [hr])]
  exact Red.pure
 ·rw [perB_ok h0] at h
  simp only [if_neg h0]
  rw [if_pos (by simp [isT])]
  exact Red.ex h hd.1 hd.2 hc
theorem Red.joins : ∀ (l : List Src),(∀ x ∈ l,nameB x.table = true ∧ aliasB x.alias = true ∧ okE x.on = true) → (∀ x ∈ l,x.on.depth ≤ 40 ∧ x.on.depth < N) → ∀ (f : Nat),l.length ≤ f → ∀ (acc : List Src) (r : List Tok) (d : Nat),Clo r → isT 1 [105,110,110,101,114] r = false → isT 1 [106,111,105,110] r = false →
  Red (joinsS resv N f acc ⟨joinsK l ++ r,d⟩) (acc ++ l) r d
 | [],_,_,f,_,acc,r,d,hc,h1,h2 => by
   rw [List.append_nil]
   unfold joinsS
   simp only [joinsK,List.map_nil,List.flatten_nil,List.nil_append,h1,h2]
   exact Red.pure
 | x :: l,hl,hd,f,hf,acc,r,d,hc,h1,h2 => by
   obtain ⟨f,rfl⟩ : ∃ m,f = m + 1 := ⟨f - 1,by simp at hf; omega⟩
   have e : joinsK (x :: l) ++ r = wT [105,110,110,101,114] :: wT [106,111,105,110] :: (srcK x ++ (wT [111,110] :: (tokE x.on ++ (joinsK l ++ r)))) := by simp [joinsK,List.append_assoc]
   have hcl : Clo (joinsK l ++ r) := by
    cases l with
    | nil => simpa [joinsK] using hc
    | cons y l => simp only [joinsK,List.map_cons,List.flatten_cons,List.cons_append]; exact clo_tok (by simp [cloT])
   rw [e]
   unfold joinsS
   have hx := hl x (by simp)
   have hxd := hd x (by simp)
   rw [if_pos (by simp [isT])]
   simp only
   rw [if_pos (by simp [isT])]
   refine Red.need (by simp [isT]) (Red.bind (Red.src hx.1 hx.2.1 (by simp [isT])) fun d1 => Red.need (by simp [isT]) (Red.bind (Red.ex hx.2.2 hxd.1 hxd.2 hcl) fun d2 => ?_))
   have := Red.joins l (fun y hy => hl y (by simp [hy])) (fun y hy => hd y (by simp [hy])) f (by simp at hf; omega) (acc ++ [⟨x.table,x.alias,x.on⟩]) r d2 hc h1 h2
   simpa [List.append_assoc] using this
end
theorem tokE_star {x : Ex} (ho : okE x = true) (r : List Tok) : isT 5 [42] (tokE x ++ r) = false := by
 obtain ⟨op,args,kind,num,scale,text,qual⟩ := x
 rw [okE_mk,Bool.and_eq_true,decide_eq_true_eq] at ho
 obtain ⟨hl,ho⟩ := ho
 rw [tokE_mk]
 by_cases h21 : op = 21
 ·rw [if_pos h21] at ho
  rw [shapeK_const h21]
  unfold constK
  rcases const_tok ho with ⟨rfl,_⟩ | ⟨rfl,h1,_⟩ | ⟨rfl,h1,_⟩ | ⟨h1,h2,h3,h4,h5,h6⟩
  ·simp [isT]
  ·rcases h1 with rfl | rfl <;> simp [isT]
  ·rcases h1 with rfl | rfl <;> simp [isT]
  ·rw [if_neg h1,if_neg h2,if_neg h3,if_neg h4]
   rcases h6 with rfl | rfl | rfl <;> simp [isT]
 rw [if_neg h21] at ho
 simp only [Bool.and_eq_true,decide_eq_true_eq] at ho
 obtain ⟨_,ho⟩ := ho
 by_cases h22 : op = 22
 ·rw [if_pos h22] at ho
  rw [shapeK_col h22]
  by_cases hq : qual = []
  ·rw [if_pos hq]; simp [isT]
  ·rw [if_neg hq]; simp [isT]
 rw [if_neg h22] at ho
 rcases op_none hl h21 h22 with hn | hn
 ·obtain ⟨a,rfl⟩ : ∃ a,args = [a] := List.length_eq_one_iff.1 hn
  have hop := op_one (op := op) (by simpa using hl.symm)
  rw [toksE_cons,toksE_nil,shapeK_one h21 h22]
  rcases hop with rfl | rfl | rfl | rfl | rfl | rfl <;> simp [isT,aheadK]
 ·obtain ⟨a,b,rfl⟩ : ∃ a b,args = [a,b] := length_two hn
  rw [toksE_cons,toksE_cons,toksE_nil,shapeK_two h21 h22]
  simp [isT]
end Go.Abs
namespace Go.Abs
open Go.Lx Go.Pz
section
variable {N : Nat} {l : List Tok} {d : Nat}
theorem st_create : stmtS resv N ⟨wT [99,114,101,97,116,101] :: l,d⟩ = createS resv ⟨l,d⟩ := by
 rw [stmtS,if_pos (by simp [isT])]; rfl
theorem st_drop : stmtS resv N ⟨wT [100,114,111,112] :: l,d⟩ = dropS resv ⟨l,d⟩ := by
 rw [stmtS,if_neg (by simp [isT]),if_pos (by simp [isT])]; rfl
theorem st_insert : stmtS resv N ⟨wT [105,110,115,101,114,116] :: l,d⟩ = insertS resv N ⟨l,d⟩ := by
 rw [stmtS,if_neg (by simp [isT]),if_neg (by simp [isT]),if_pos (by simp [isT])]; rfl
theorem st_select : stmtS resv N ⟨wT [115,101,108,101,99,116] :: l,d⟩ = queryS resv N ⟨l,d⟩ := by
 rw [stmtS,if_neg (by simp [isT]),if_neg (by simp [isT]),if_neg (by simp [isT]),if_pos (by simp [isT])]; rfl
theorem st_update : stmtS resv N ⟨wT [117,112,100,97,116,101] :: l,d⟩ = updateS resv N ⟨l,d⟩ := by
 rw [stmtS,if_neg (by simp [isT]),if_neg (by simp [isT]),if_neg (by simp [isT]),if_neg (by simp [isT]),if_pos (by simp [isT])]; rfl
theorem st_delete : stmtS resv N ⟨wT [100,101,108,101,116,101] :: l,d⟩ = deleteS resv N ⟨l,d⟩ := by
 rw [stmtS,if_neg (by simp [isT]),if_neg (by simp [isT]),if_neg (by simp [isT]),if_neg (by simp [isT]),if_neg (by simp [isT]),if_pos (by simp [isT])]; rfl
theorem rd_items {is : List Itm} (hi : is.length ≤ 50) (his : ∀ x ∈ is,okE x.e = true ∧ aliasB x.name = true) (hd : ∀ x ∈ is,x.e.depth ≤ 40 ∧ x.e.depth < N) (r : List Tok) (hc : Clo r) (hr : isT 1 [97,115] r = false) (h44 : isT 5 [44] r = false) :
  Red (itemsS resv N ⟨(if is = [] then [sT [42]] else joinK (is.map itemK)) ++ r,d⟩) is r d := by
 unfold itemsS
 cases is with
 | nil =>
   simp only [if_pos rfl]
   rw [if_pos (by simp [isT])]
   exact Red.pure
 | cons x is =>
   have hx := (his x (by simp)).1
   have hst : isT 5 [42] (joinK ((x :: is).map itemK) ++ r) = false := by
    have h := fun r => tokE_star hx r
    cases is with
    | nil => simp only [List.map_cons,List.map_nil,joinK,itemK,asK_eq]; exact h _
    | cons y is => simp only [List.map_cons,joinK,itemK,List.append_assoc,asK_eq]; exact h _
   have hst' : ¬ (isT 5 [42] (joinK ((x :: is).map itemK) ++ r) = true) := by rw [hst]; decide
   rw [if_neg (List.cons_ne_nil x is),if_neg hst']
   exact Red.list (Q := fun r => Clo r ∧ isT 1 [97,115] r = false) (fun r => ⟨clo_comma r,by simp [isT]⟩) (x :: is) (by simp) (fun a ha acc r d hq => Red.item (his a ha).1 (his a ha).2 (hd a ha) hq.1 hq.2) 50 hi [] r d ⟨hc,hr⟩ h44
theorem rd_order {os : List Srt} (ho : os.length ≤ 50) (hos : ∀ x ∈ os,okE x.e = true) (hd : ∀ x ∈ os,x.e.depth ≤ 40 ∧ x.e.depth < N) :
  Red (orderS resv N ⟨(if os = [] then [] else wT [111,114,100,101,114] :: wT [98,121] :: joinK (os.map sortK)),d⟩) os [] d := by
 unfold orderS
 by_cases h0 : os = []
 ·subst h0
  simp only [if_pos rfl]
  rw [if_neg (by simp [isT])]
  exact Red.pure
 ·simp only [if_neg h0]
  rw [if_pos (by simp [isT])]
  refine Red.need (by simp [isT]) ?_
  have := Red.list (Q := fun r => Clo r ∧ isT 1 [100,101,115,99] r = false) (fun r => ⟨clo_comma r,by simp [isT]⟩) os h0 (fun a ha acc r d hq => Red.sort (hos a ha) (hd a ha) hq.1 hq.2) 50 ho [] [] d ⟨.inl rfl,rfl⟩ rfl
  simpa using this
theorem order_clo {os : List Srt} : Clo (if os = [] then [] else wT [111,114,100,101,114] :: wT [98,121] :: joinK (os.map sortK)) := by
 split
 ·exact .inl rfl
 ·exact clo_tok (by simp [cloT])
theorem where_clo {w : Ex} {r : List Tok} (h : Clo r) : Clo (whereK w ++ r) := by
 unfold whereK
 split
 ·exact h
 ·exact clo_tok (by simp [cloT])
theorem order_not {os : List Srt} {w : Bs} (h : w ≠ [111,114,100,101,114]) : isT 1 w (if os = [] then [] else wT [111,114,100,101,114] :: wT [98,121] :: joinK (os.map sortK)) = false := by
 split
 ·rfl
 ·simp [isT,Ne.symm h]
theorem where_not {x : Ex} {r : List Tok} {w : Bs} (h : w ≠ [119,104,101,114,101]) (hr : isT 1 w r = false) : isT 1 w (whereK x ++ r) = false := by
 unfold whereK
 split
 ·exact hr
 ·simp [isT,Ne.symm h]
theorem joins_not {l : List Src} {r : List Tok} {w : Bs} (h : w ≠ [105,110,110,101,114]) (hr : isT 1 w r = false) : isT 1 w (joinsK l ++ r) = false := by
 cases l with
 | nil => simpa [joinsK] using hr
 | cons y l => simp only [joinsK,List.map_cons,List.flatten_cons,List.cons_append]; simp [isT,Ne.symm h]
theorem rd_stm {st : Stm} (h : OkS st) (hd : ∀ x ∈ exsS st,x.depth ≤ 40 ∧ x.depth < N) : Red (stmtS resv N ⟨formK st,d⟩) st [] d := by
 cases h with
 | createT t cs ht h1 h2 hc =>
   show Red (stmtS resv N ⟨wT [99,114,101,97,116,101] :: wT [116,97,98,108,101] :: wT t :: sT [40] :: (joinK (cs.map colK) ++ [sT [41]]),d⟩) _ _ _
   rw [st_create,createS,if_pos (by simp [isT])]
   refine Red.bind (Red.name ht) fun d1 => Red.need (by simp [isT]) (Red.bind (Red.list (Q := fun r => isT 1 [110,111,116] r = false) (fun r => by simp [isT]) cs (not_nil h1) (fun a ha acc r d hq => Red.col (hc a ha) hq) 16 h2 [] [sT [41]] _ (by simp [isT]) (by simp [isT])) fun d2 => Red.need (by simp [isT]) ?_)
   exact Red.pure
 | dropT t ht =>
   show Red (stmtS resv N ⟨wT [100,114,111,112] :: wT [116,97,98,108,101] :: wT t :: [],d⟩) _ _ _
   rw [st_drop,dropS,if_pos (by simp [isT])]
   exact Red.bind (Red.name ht) fun d1 => Red.pure
 | createI u i t ns hi ht h1 h2 hn =>
   have hj : ∀ d,Red (listF (fun ns s => bindS (nameS resv s) fun c s => .ok (ns ++ [c],s)) 4 [] ⟨joinK (ns.map fun n => [wT n]) ++ [sT [41]],d⟩) ns [sT [41]] d := fun d => by
    have := Red.list (k := fun n => [wT n]) (step := fun ns s => bindS (nameS resv s) fun c s => .ok (ns ++ [c],s)) (Q := fun _ => True) (fun r => trivial) ns (not_nil h1) (fun a ha acc r d hq => Red.bind (Red.name (hn a ha)) fun d1 => Red.pure) 4 h2 [] [sT [41]] d trivial (by simp [isT])
    simpa using this
   cases u with
   | false =>
     show Red (stmtS resv N ⟨wT [99,114,101,97,116,101] :: wT [105,110,100,101,120] :: wT i :: wT [111,110] :: wT t :: sT [40] :: (joinK (ns.map fun n => [wT n]) ++ [sT [41]]),d⟩) _ _ _
     rw [st_create,createS,if_neg (by simp [isT])]
     simp only [show ∀ r,isT 1 [117,110,105,113,117,101] (wT [105,110,100,101,120] :: r) = false from fun r => by simp [isT],Bool.false_eq_true,if_false]
     refine Red.need (by simp [isT]) (Red.bind (Red.name hi) fun d1 => Red.need (by simp [isT]) (Red.bind (Red.name ht) fun d2 => Red.need (by simp [isT]) (Red.bind (hj _) fun d3 => Red.need (by simp [isT]) ?_)))
     exact Red.pure
   | true =>
     show Red (stmtS resv N ⟨wT [99,114,101,97,116,101] :: wT [117,110,105,113,117,101] :: wT [105,110,100,101,120] :: wT i :: wT [111,110] :: wT t :: sT [40] :: (joinK (ns.map fun n => [wT n]) ++ [sT [41]]),d⟩) _ _ _
     rw [st_create,createS,if_neg (by simp [isT])]
     simp only [show ∀ r,isT 1 [117,110,105,113,117,101] (wT [117,110,105,113,117,101] :: r) = true from fun r => by simp [isT],if_true,List.tail_cons]
     refine Red.need (by simp [isT]) (Red.bind (Red.name hi) fun d1 => Red.need (by simp [isT]) (Red.bind (Red.name ht) fun d2 => Red.need (by simp [isT]) (Red.bind (hj _) fun d3 => Red.need (by simp [isT]) ?_)))
     exact Red.pure
 | dropI i hi =>
   show Red (stmtS resv N ⟨wT [100,114,111,112] :: wT [105,110,100,101,120] :: wT i :: [],d⟩) _ _ _
   rw [st_drop,dropS,if_neg (by simp [isT])]
   exact Red.need (by simp [isT]) (Red.bind (Red.name hi) fun d1 => Red.pure)
 | insert t rs ht h1 h2 hr =>
   show Red (stmtS resv N ⟨wT [105,110,115,101,114,116] :: wT [105,110,116,111] :: wT t :: wT [118,97,108,117,101,115] :: joinK (rs.map rowK),d⟩) _ _ _
   have hj : ∀ d,Red (listF (rowS resv N) 50 [] ⟨joinK (rs.map rowK),d⟩) rs [] d := fun d => by
    have := Red.list (k := rowK) (step := rowS resv N) (Q := fun _ => True) (fun r => trivial) rs (not_nil h1) (fun a ha acc r d hq => Red.row (hr a ha).2.2 (hr a ha).1 (hr a ha).2.1 (fun y hy => hd y (mem_rows (st := { kind := 5,table := t,rows := rs }) ha hy))) 50 h2 [] [] d trivial rfl
    simpa using this
   rw [st_insert,insertS]
   exact Red.need (by simp [isT]) (Red.bind (Red.name ht) fun d1 => Red.need (by simp [isT]) (Red.bind (hj _) fun d2 => Red.pure))
 | query is s fs w os hi his hf hs hfs hw ho hos =>
   have e : formK { kind := 6,items := is,src := s :: fs,wher := w,order := os } = wT [115,101,108,101,99,116] :: ((if is = [] then [sT [42]] else joinK (is.map itemK)) ++ (wT [102,114,111,109] :: (srcK s ++ (joinsK fs ++ (whereK w ++ (if os = [] then [] else wT [111,114,100,101,114] :: wT [98,121] :: joinK (os.map sortK))))))) := by
    have e2 : formK { kind := 6,items := is,src := s :: fs,wher := w,order := os } = queryK { kind := 6,items := is,src := s :: fs,wher := w,order := os } := rfl
    rw [e2,queryK]
    simp only [List.append_assoc,List.cons_append,List.nil_append]
   have d1 : ∀ x ∈ is,x.e.depth ≤ 40 ∧ x.e.depth < N := fun x hx => hd _ (mem_items (st := { kind := 6,items := is,src := s :: fs,wher := w,order := os }) hx)
   have d2 : ∀ x ∈ fs,x.on.depth ≤ 40 ∧ x.on.depth < N := fun x hx => hd _ (mem_src (st := { kind := 6,items := is,src := s :: fs,wher := w,order := os }) (by simp [hx]))
   have d3 : ∀ x ∈ os,x.e.depth ≤ 40 ∧ x.e.depth < N := fun x hx => hd _ (mem_order (st := { kind := 6,items := is,src := s :: fs,wher := w,order := os }) hx)
   have d4 := hd w (mem_wher (st := { kind := 6,items := is,src := s :: fs,wher := w,order := os }))
   have hon := zeroB_eq hs.2.2
   rw [e,st_select,queryS]
   refine Red.bind (rd_items hi his d1 _ (clo_tok (by simp [cloT])) (by simp [isT]) (by simp [isT])) fun d5 => Red.need (by simp [isT]) ?_
   refine Red.bind (Red.src hs.1 hs.2.1 (joins_not (by decide) (where_not (by decide) (order_not (by decide))))) fun d6 => ?_
   refine Red.bind (Red.joins fs hfs d2 3 hf _ _ _ (where_clo order_clo) (where_not (by decide) (order_not (by decide))) (where_not (by decide) (order_not (by decide)))) fun d7 => ?_
   refine Red.bind (Red.wher hw d4 order_clo (order_not (by decide))) fun d8 => ?_
   refine Red.bind (rd_order ho hos d3) fun d9 => ?_
   rw [← hon]
   exact Red.pure
 | update t zs w ht h1 h2 hz hw =>
   show Red (stmtS resv N ⟨wT [117,112,100,97,116,101] :: wT t :: wT [115,101,116] :: (joinK (zs.map setK) ++ whereK w),d⟩) _ _ _
   have d1 : ∀ x ∈ zs,x.e.depth ≤ 40 ∧ x.e.depth < N := fun x hx => hd _ (mem_sets (st := { kind := 7,table := t,sets := zs,wher := w }) hx)
   have d4 := hd w (mem_wher (st := { kind := 7,table := t,sets := zs,wher := w }))
   have hcl : Clo (whereK w) := by simpa using where_clo (w := w) (r := []) (.inl rfl)
   have hcm : isT 5 [44] (whereK w) = false := by
    unfold whereK; split
    ·rfl
    ·simp [isT]
   have hw2 : ∀ d,Red (whereS resv N ⟨whereK w,d⟩) w [] d := fun d => by simpa using Red.wher (r := []) (d := d) hw d4 (.inl rfl) rfl
   rw [st_update,updateS]
   refine Red.bind (Red.name ht) fun d5 => Red.need (by simp [isT]) (Red.bind (Red.list (Q := Clo) clo_comma zs (not_nil h1) (fun a ha acc r d hq => Red.set (hz a ha).1 (hz a ha).2 (d1 a ha) hq) 50 h2 [] _ _ hcl hcm) fun d6 => Red.bind (hw2 _) fun d7 => ?_)
   exact Red.pure
 | delete t w ht hw =>
   show Red (stmtS resv N ⟨wT [100,101,108,101,116,101] :: wT [102,114,111,109] :: wT t :: whereK w,d⟩) _ _ _
   have d4 := hd w (mem_wher (st := { kind := 8,table := t,wher := w }))
   have hw2 : ∀ d,Red (whereS resv N ⟨whereK w,d⟩) w [] d := fun d => by simpa using Red.wher (r := []) (d := d) hw d4 (.inl rfl) rfl
   rw [st_delete,deleteS]
   exact Red.need (by simp [isT]) (Red.bind (Red.name ht) fun d1 => Red.bind (hw2 _) fun d2 => Red.pure)
 | trans k h1 h2 =>
   have hk : k = 9 ∨ k = 10 ∨ k = 11 := by omega
   rcases hk with rfl | rfl | rfl <;> exact ⟨d,rfl,id⟩
end
theorem tokE_depth : ∀ (w : Nat) (x : Ex),x.w ≤ w → okE x = true → x.depth ≤ (tokE x).length := by
 intro w
 induction w using Nat.strongRecOn with
 | _ w ih =>
   intro x hx ho
   obtain ⟨op,args,kind,num,scale,text,qual⟩ := x
   rw [okE_mk,Bool.and_eq_true,decide_eq_true_eq] at ho
   obtain ⟨hl,ho⟩ := ho
   rw [w_mk] at hx
   rw [depth_mk,tokE_mk]
   by_cases h21 : op = 21
   ·subst h21
    have hl0 : args = [] := List.eq_nil_of_length_eq_zero (by have : opnds 21 = 0 := by decide
                                                              omega)
    subst hl0
    rw [depthL_nil]; omega
   by_cases h22 : op = 22
   ·subst h22
    have hl0 : args = [] := List.eq_nil_of_length_eq_zero (by have : opnds 22 = 0 := by decide
                                                              omega)
    subst hl0
    rw [depthL_nil]; omega
   rw [if_neg h21] at ho
   simp only [Bool.and_eq_true,decide_eq_true_eq] at ho
   obtain ⟨_,ho⟩ := ho
   rw [if_neg h22] at ho
   simp only [Bool.and_eq_true,decide_eq_true_eq] at ho
   obtain ⟨⟨hL,_⟩,_⟩ := ho
   rcases op_none hl h21 h22 with hn1 | hn1
   ·obtain ⟨a,rfl⟩ : ∃ a,args = [a] := List.length_eq_one_iff.1 hn1
    have hw : wL [a] = a.w + 1 := by rw [wL_cons,wL_nil]
    have h1 := ih a.w (by omega) a (Nat.le_refl _) (okL_iff.1 hL a (by simp))
    rw [depthL_one,toksE_cons,toksE_nil,shapeK_one h21 h22]
    have hop := op_one (op := op) (by simpa using hl.symm)
    have h2 : 1 ≤ (aheadK op).length := by rcases hop with rfl | rfl | rfl | rfl | rfl | rfl <;> simp [aheadK]
    simp only [List.length_append]
    omega
   ·obtain ⟨a,b,rfl⟩ : ∃ a b,args = [a,b] := length_two hn1
    have hw : wL [a,b] = a.w + b.w + 2 := by rw [wL_cons,wL_cons,wL_nil]; omega
    have h1 := ih a.w (by omega) a (Nat.le_refl _) (okL_iff.1 hL a (by simp))
    have h2 := ih b.w (by omega) b (Nat.le_refl _) (okL_iff.1 hL b (by simp))
    rw [depthL_two,toksE_cons,toksE_cons,toksE_nil,shapeK_two h21 h22]
    simp only [List.cons_append,List.length_append,List.length_cons,List.length_nil]
    omega
theorem join_mem {α : Type} {k : α → List Tok} : ∀ {l : List α} {a : α},a ∈ l → (k a).length ≤ (joinK (l.map k)).length
 | [b],a,h => by
   obtain rfl : a = b := by simpa using h
   simp [joinK]
 | b :: c :: l,a,h => by
   have e : (joinK ((b :: c :: l).map k)).length = (k b).length + 1 + (joinK ((c :: l).map k)).length := by simp [joinK]; omega
   rcases List.mem_cons.1 h with rfl | h
   ·omega
   ·have := join_mem (k := k) h
    omega
theorem flat_mem {α : Type} {k : α → List Tok} {l : List α} {a : α} (h : a ∈ l) : (k a).length ≤ ((l.map k).flatten).length := by
 induction l with
 | nil => cases h
 | cons b l ih =>
   rw [List.map_cons,List.flatten_cons,List.length_append]
   rcases List.mem_cons.1 h with rfl | h
   ·omega
   ·have := ih h; omega
theorem asK_len (l : List Tok) (n : Bs) : l.length ≤ (asK l n).length := by unfold asK; split <;> simp
theorem per_depth {x : Ex} (h : perB x = true) : x.depth ≤ (whereK x).length := by
 unfold whereK
 by_cases h0 : opOf x = 0
 ·rw [perB_zero h0] at h
  obtain rfl := zeroB_eq h
  rw [if_pos h0]
  rw [Ex.zero,depth_mk,depthL_nil]; exact Nat.zero_le _
 ·rw [perB_ok h0] at h
  rw [if_neg h0]
  have := tokE_depth x.w x (Nat.le_refl _) h
  simp; omega
theorem depth_zero : Ex.zero.depth = 0 := by rw [Ex.zero,depth_mk,depthL_nil]
theorem exs_depth {st : Stm} (h : OkS st) : ∀ x ∈ exsS st,x.depth ≤ (formK st).length := by
 intro x hx
 cases h with
 | createT t cs ht h1 h2 hc => simp [exsS] at hx; subst hx; rw [depth_zero]; exact Nat.zero_le _
 | dropT t ht => simp [exsS] at hx; subst hx; rw [depth_zero]; exact Nat.zero_le _
 | createI u i t ns hi ht h1 h2 hn => simp [exsS] at hx; subst hx; rw [depth_zero]; exact Nat.zero_le _
 | dropI i hi => simp [exsS] at hx; subst hx; rw [depth_zero]; exact Nat.zero_le _
 | trans k h1 h2 => simp [exsS] at hx; subst hx; rw [depth_zero]; exact Nat.zero_le _
 | insert t rs ht h1 h2 hr =>
   simp [exsS] at hx
   rcases hx with rfl | ⟨r,hr1,hr2⟩
   ·rw [depth_zero]; exact Nat.zero_le _
   ·have a1 := tokE_depth x.w x (Nat.le_refl _) (okL_iff.1 (hr r hr1).2.2 x hr2)
    have a2 := join_mem (k := tokE) hr2
    have a3 := join_mem (k := rowK) hr1
    have a4 : (rowK r).length = (joinK (r.map tokE)).length + 2 := by simp [rowK]
    simp [formK]; omega
 | query is s fs w os hi his hf hs hfs hw ho hos =>
   have e2 : formK { kind := 6,items := is,src := s :: fs,wher := w,order := os } = queryK { kind := 6,items := is,src := s :: fs,wher := w,order := os } := rfl
   rw [e2,queryK]
   simp only [exsS,List.flatten_nil,List.nil_append,List.map_nil,List.append_nil,List.mem_cons,List.mem_append,List.mem_map] at hx
   simp only [List.length_append,List.length_cons]
   rcases hx with rfl | ⟨y,hy,rfl⟩ | ⟨y,hy,rfl⟩ | ⟨y,hy,rfl⟩
   ·have := per_depth hw; omega
   ·have a1 := tokE_depth y.e.w y.e (Nat.le_refl _) (his y hy).1
    have a2 := asK_len (tokE y.e) y.name
    have a3 := join_mem (k := itemK) hy
    have a4 : itemK y = asK (tokE y.e) y.name := rfl
    have hne : is ≠ [] := fun e => by subst e; cases hy
    rw [if_neg hne]
    rw [a4] at a3
    omega
   ·rcases hy with rfl | hy
    ·rw [zeroB_eq hs.2.2,depth_zero]; exact Nat.zero_le _
    ·have a1 := tokE_depth y.on.w y.on (Nat.le_refl _) (hfs y hy).2.2
     obtain ⟨kf,hkf⟩ : ∃ kf : Src → List Tok,kf = fun x : Src => wT [105,110,110,101,114] :: wT [106,111,105,110] :: srcK x ++ wT [111,110] :: tokE x.on := ⟨_,rfl⟩
     have a3 := flat_mem (k := kf) hy
     have a4 : (joinsK fs).length = ((fs.map kf).flatten).length := by rw [hkf]; rfl
     have a5 : (tokE y.on).length ≤ (kf y).length := by rw [hkf]; simp; omega
     omega
   ·have a1 := tokE_depth y.e.w y.e (Nat.le_refl _) (hos y hy)
    have a3 := join_mem (k := sortK) hy
    have a4 : (tokE y.e).length ≤ (sortK y).length := by unfold sortK; split <;> simp
    have hne : os ≠ [] := fun e => by subst e; cases hy
    rw [if_neg hne]
    simp only [List.length_cons]
    omega
 | update t zs w ht h1 h2 hz hw =>
   simp only [exsS,List.flatten_nil,List.nil_append,List.map_nil,List.append_nil,List.mem_cons,List.mem_append,List.mem_map] at hx
   have e : (formK { kind := 7,table := t,sets := zs,wher := w }).length = 3 + (joinK (zs.map setK)).length + (whereK w).length := by simp [formK]; omega
   rw [e]
   rcases hx with rfl | ⟨y,hy,rfl⟩
   ·have := per_depth hw; omega
   ·have a1 := tokE_depth y.e.w y.e (Nat.le_refl _) (hz y hy).2
    have a3 := join_mem (k := setK) hy
    have a4 : (setK y).length = (tokE y.e).length + 2 := by simp [setK]
    omega
 | delete t w ht hw =>
   simp only [exsS,List.flatten_nil,List.nil_append,List.map_nil,List.append_nil,List.mem_cons,List.mem_append,List.mem_map,List.not_mem_nil,or_false] at hx
   subst hx
   have := per_depth hw
   simp [formK]; omega
theorem parse_formS {st : Stm} (h : checkS st = 0) (hl : (formS st).length ≤ 4000) : Pz.parse resv (formS st) = .ok st := by
 have ho : okS st = true := by
  cases h0 : okS st with
  | true => rfl
  | false => rw [checkS,if_neg (by simp [h0])] at h; cases h
 rw [checkS,if_pos ho] at h
 have hall : (exsS st).all (fun x => decide (x.depth ≤ 40)) = true := by
  cases h0 : (exsS st).all (fun x => decide (x.depth ≤ 40)) with
  | true => rfl
  | false => rw [if_neg (by simp only [h0]; decide)] at h; cases h
 have h40 : ∀ x ∈ exsS st,x.depth ≤ 40 := fun x hx => by simpa using List.all_eq_true.1 hall x hx
 have hok := okS_iff.1 ho
 have hdp := exs_depth hok
 obtain ⟨d',h1,h2⟩ := rd_stm (N := (formK st).length + 1) (d := 0) hok fun x hx => ⟨h40 x hx,Nat.lt_succ_of_le (hdp x hx)⟩
 have htk : Lx.tokens (formS st) = .ok (formK st) := by rw [Lx.tokens,if_neg (by omega)]; exact toks_formS hok
 rw [Pz.parse,htk]
 simp only
 rw [parseT,h1]
 simp only
 rw [if_neg (by simp),if_neg (by have := h2 (by omega); omega)]
end Go.Abs
namespace Go.Abs
open Go.Lx Go.Pz
def Okl (l : List Tok) : Prop := ∀ t ∈ l,OkT t
theorem Okl.tail {l : List Tok} (h : Okl l) : Okl l.tail := fun t ht => h t (List.mem_of_mem_tail ht)
theorem Okl.drop {l : List Tok} (h : Okl l) (n : Nat) : Okl (l.drop n) := fun t ht => h t (List.mem_of_mem_drop ht)
section
variable {E : Nat → List Tok → Pz.Res Ex}
end
section
variable {N : Nat} {s s' : Sta}
end
end Go.Abs
namespace Go.Abs
open Go Go.RowKit Go.Proofs Go.Lx Go.Pz
variable {w0 : World}
theorem exC_V : ∀ (n : Nat) (x : Ex),x.w ≤ n → ExV x (exC x) := by
 intro n
 induction n using Nat.strongRecOn with
 | _ n ih =>
   intro x hx
   obtain ⟨op,args,kind,num,scale,text,qual⟩ := x
   rw [w_mk] at hx
   obtain ⟨fl,hfl⟩ := exsV_list args
   rw [exC_eq,hfl,ExV_mk]
   refine ⟨fl,exlC args,rfl,ExsV_of (by simp) fun i hi => ?_⟩
   have hm := w_mem (List.getElem_mem hi)
   rw [getD_eq _ _ _ (by simpa using hi)]
   simp only [exlC,List.getElem_map]
   exact ih args[i].w (by omega) _ (Nat.le_refl _)
theorem exC_V' (x : Ex) : ExV x (exC x) := exC_V x.w x (Nat.le_refl _)
theorem Al.ofMap {α : Type} {R : α → List AVal → Prop} {f : α → List AVal} (h : ∀ x,R x (f x)) : ∀ (l : List α),Al R l (l.map f)
 | [] => Al.nil
 | x :: l => Al.cons (h x) (Al.ofMap h l)
theorem FC.stv {st : Stm} {c : List AVal} (h : FC st c) : StV st c := by
 obtain ⟨vC,vN,vR,vI,vF,vO,vS,rfl,⟨f1,rfl⟩,⟨f2,rfl⟩,⟨f3,rfl⟩,⟨f4,rfl⟩,⟨f5,rfl⟩,⟨f6,rfl⟩,⟨f7,rfl⟩⟩ := h
 exact ⟨f1,f2,f3,f4,f5,f6,f7,rwsC st.rows,itmsC st.items,srcsC st.src,exC st.wher,srtsC st.order,asnsC st.sets,by simp,exC_V' _,
  Al.ofMap (fun r => ⟨.unk,exlC r,rfl,ExsV_of (by simp) fun i hi => by rw [getD_eq _ _ _ (by simpa using hi)]; simp only [exlC,List.getElem_map]; exact exC_V' _⟩) _,
  Al.ofMap (fun x => ⟨exC x.e,exC_V' _,rfl⟩) _,Al.ofMap (fun x => ⟨exC x.on,exC_V' _,rfl⟩) _,Al.ofMap (fun x => ⟨exC x.e,exC_V' _,rfl⟩) _,Al.ofMap (fun x => ⟨exC x.e,exC_V' _,rfl⟩) _⟩
theorem const_num {kind num scale : Int} {text qual : Bs} (h : constB kind num scale text qual = true) : num ≤ 9223372036854775807 := by
 rcases const_tok h with ⟨rfl,rfl,_⟩ | ⟨rfl,h1,_⟩ | ⟨rfl,h1,rfl,_⟩ | ⟨h1,h2,h3,h4,h5,_⟩
 ·decide
 ·rcases h1 with rfl | rfl <;> decide
 ·decide
 ·generalize ht : (⟨kind,text,num,scale⟩ : Tok) = t at h5
  cases h5 <;> cases ht <;> omega
theorem okE_inr : ∀ (n : Nat) (x : Ex),x.w ≤ n → okE x = true → inrE x = true := by
 intro n
 induction n using Nat.strongRecOn with
 | _ n ih =>
   intro x hx ho
   obtain ⟨op,args,kind,num,scale,text,qual⟩ := x
   rw [w_mk] at hx
   rw [okE_mk,Bool.and_eq_true,decide_eq_true_eq] at ho
   obtain ⟨hl,ho⟩ := ho
   rw [inrE_mk,Bool.and_eq_true,decide_eq_true_eq]
   by_cases h21 : op = 21
   ·subst h21
    rw [if_pos rfl] at ho
    have hl0 : args = [] := List.eq_nil_of_length_eq_zero (by have : opnds 21 = 0 := by decide
                                                              omega)
    subst hl0
    exact ⟨const_num ho,by rw [inrL]⟩
   rw [if_neg h21] at ho
   simp only [Bool.and_eq_true,decide_eq_true_eq] at ho
   obtain ⟨⟨⟨_,h0⟩,_⟩,ho⟩ := ho
   refine ⟨by omega,?_⟩
   by_cases h22 : op = 22
   ·subst h22
    have hl0 : args = [] := List.eq_nil_of_length_eq_zero (by have : opnds 22 = 0 := by decide
                                                              omega)
    subst hl0
    rw [inrL]
   rw [if_neg h22] at ho
   simp only [Bool.and_eq_true,decide_eq_true_eq] at ho
   exact inrL_iff.2 fun y hy => ih y.w (by have := w_mem hy; omega) y (Nat.le_refl _) (okL_iff.1 ho.1.1 y hy)
theorem zero_inr : inrE Ex.zero = true := by rw [Ex.zero,inrE_mk,inrL]; rfl
theorem per_inr {x : Ex} (h : perB x = true) : inrE x = true := by
 by_cases h0 : opOf x = 0
 ·rw [perB_zero h0] at h
  rw [zeroB_eq h]; exact zero_inr
 ·rw [perB_ok h0] at h
  exact okE_inr x.w x (Nat.le_refl _) h
theorem oks_inr {st : Stm} (h : OkS st) : ∀ x ∈ exsS st,inrE x = true := by
 intro x hx
 have hok : ∀ y,okE y = true → inrE y = true := fun y => okE_inr y.w y (Nat.le_refl _)
 cases h with
 | createT t cs ht h1 h2 hc => simp [exsS] at hx; subst hx; exact zero_inr
 | dropT t ht => simp [exsS] at hx; subst hx; exact zero_inr
 | createI u i t ns hi ht h1 h2 hn => simp [exsS] at hx; subst hx; exact zero_inr
 | dropI i hi => simp [exsS] at hx; subst hx; exact zero_inr
 | trans k h1 h2 => simp [exsS] at hx; subst hx; exact zero_inr
 | insert t rs ht h1 h2 hr =>
   simp [exsS] at hx
   rcases hx with rfl | ⟨r,hr1,hr2⟩
   ·exact zero_inr
   ·exact hok _ (okL_iff.1 (hr r hr1).2.2 x hr2)
 | query is s fs w os hi his hf hs hfs hw ho hos =>
   simp only [exsS,List.flatten_nil,List.nil_append,List.map_nil,List.append_nil,List.mem_cons,List.mem_append,List.mem_map] at hx
   rcases hx with rfl | ⟨y,hy,rfl⟩ | ⟨y,hy,rfl⟩ | ⟨y,hy,rfl⟩
   ·exact per_inr hw
   ·exact hok _ (his y hy).1
   ·rcases hy with rfl | hy
    ·rw [zeroB_eq hs.2.2]; exact zero_inr
    ·exact hok _ (hfs y hy).2.2
   ·exact hok _ (hos y hy)
 | update t zs w ht h1 h2 hz hw =>
   simp only [exsS,List.flatten_nil,List.nil_append,List.map_nil,List.append_nil,List.mem_cons,List.mem_append,List.mem_map] at hx
   rcases hx with rfl | ⟨y,hy,rfl⟩
   ·exact per_inr hw
   ·exact hok _ (hz y hy).2
 | delete t w ht hw =>
   simp only [exsS,List.flatten_nil,List.nil_append,List.map_nil,List.append_nil,List.mem_cons,List.not_mem_nil,or_false] at hx
   subst hx
   exact per_inr hw
theorem wR_flat : ∀ (l : List (List Ex)),l.flatten.length ≤ wR l
 | [] => by simp [wR]
 | x :: l => by
   have h1 := wR_flat l
   have h2 := wL_len x
   rw [List.flatten_cons,List.length_append,wR]; omega
theorem StB.sm {st : Stm} (hb : StB 4000 st) (ho : OkS st) : Sm st := by
 have a1 := wR_len st.rows
 have a2 := wL_len (st.items.map (·.e))
 have a3 := wL_len (st.src.map (·.on))
 have a4 := wL_len (st.order.map (·.e))
 have a5 := wL_len (st.sets.map (·.e))
 have a6 := wR_flat st.rows
 have b1 := hb.rows; have b2 := hb.items; have b3 := hb.src; have b4 := hb.order; have b5 := hb.sets; have b6 := hb.cols; have b7 := hb.names; have b8 := hb.wher
 simp only [List.length_map] at a2 a3 a4 a5
 refine ⟨by omega,by omega,by omega,by omega,by omega,by omega,by omega,?_,fun x hx => ⟨?_,oks_inr ho x hx⟩⟩
 ·simp only [exsS,List.length_cons,List.length_append,List.length_map]; omega
 ·simp only [exsS,List.mem_cons,List.mem_append] at hx
  rcases hx with rfl | hx | hx | hx | hx | hx
  ·omega
  ·obtain ⟨r,hr,hx⟩ := List.mem_flatten.1 hx
   have := wR_mem hr
   have := w_mem hx
   omega
  ·have := w_mem hx; omega
  ·have := w_mem hx; omega
  ·have := w_mem hx; omega
  ·have := w_mem hx; omega
end Go.Abs
