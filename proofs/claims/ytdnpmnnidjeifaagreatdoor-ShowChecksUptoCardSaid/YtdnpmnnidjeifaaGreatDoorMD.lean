/- Walks of the seat's functions, and their plain laws. Conditions: none but the lengths and the tables; definitions and lemmas. -/
import Derived.Test.YtdnpmnnidjeifaaGreatDoorMC
import Derived.Test.YtdnpmnnidjeifaaGreatDoorMB
import Derived.Test.YtdnpmnnidjeifaaGreatDoorMA
import Derived.Test.YtdnpmnnidjeifaaGreatDoorA35
import Derived.Test.YtdnpmnnidjeifaaGreatDoorA37
set_option linter.unusedSimpArgs false
set_option linter.unusedVariables false
namespace Go.Abs
open Go Go.RowKit Go.Proofs Go.Lx Go.Pz
variable {w0 : World}
def TzI (b i n : Nat) (H0 : Heap) (base : Bs) (F : Nat → Bs) (m : Nat) (a : Tmps) (S' : Heap) : Prop :=
 ∃ (j : Nat) (g : Heap), m = n - j ∧ j ≤ n ∧ S' = H0 ++ g ∧ get a 1 = .ptr b 0 0 ∧ get a 3 = .str (base ++ F j) ∧ (base ++ F j).length ≤ 50000000000000 + j * 6000000000 ∧ get a 7 = .int i ∧ get a 8 = .int j
def TzQ (b i : Nat) (H0 : Heap) (r : Bs) : AExit → Tmps → Heap → Prop
 | .normal, a, S' => ∃ g, S' = H0 ++ g ∧ get a 1 = .ptr b 0 0 ∧ get a 3 = .str r ∧ get a 7 = .int i
 | _, _, _ => False
theorem grow2 {x y z : Bs} {i C B : Nat} (h : x.length ≤ B + i * C) (hz : z = x ++ y) (hy : y.length ≤ C) : z.length ≤ B + (i + 1) * C := by
 rw [hz, List.length_append, Nat.add_mul]; omega
section
variable {b : Nat} {H0 : Heap} {fl : Fl} {a : Tmps} {g0 : Heap} {G : Nat → AVal} {base : Bs}
set_option maxHeartbeats 4000000 in
theorem lt_e {i : Nat} {l : List Ex} {eR es : List (List AVal)} {fl2 : Fl} (hv : ExsV l es) (ho : okL l = true) (hn : l.length ≤ 50) (hw : ∀ x ∈ l, x.w ≤ 4000000) (hf : Fd b 6 H0 (.list fl eR)) (p1 : ∀ S, iaddrR 1 S (.list fl eR) (.int i) = .ok true (.fptr eR i 0) S) (p2 : ∀ S, loadR false 1 S (.fptr eR i 0) = .ok true (.list fl2 es) S)
  (hb : base.length ≤ 50000000000000) (b1 : get a 1 = .ptr b 0 0) (b3 : get a 3 = .str base) (b7 : get a 7 = .int i) (b8 : get a 8 = .int 0) : mwp (ACalls Tryz.prog (B0 w0)) (.block 7 (.loop (f15b2 G))) (TzQ b i H0 (base ++ joinT (l.map textE))) a (H0 ++ g0) := by
 have hel := ExsV_len hv
 simp only [mwp_block]
 refine mwp_loop (I := TzI b i l.length H0 base (JF textE l)) ⟨0, g0, rfl, Nat.zero_le _, rfl, b1, by rw [JF_zero, List.append_nil]; exact b3, by rw [JF_zero, List.append_nil]; omega, b7, b8⟩ ?_
 clear b1 b3 b7 b8
 rintro m a S' ⟨j, g, rfl, hj, rfl, b1, b3, hbl, b7, b8⟩
 have hfg := hf g
 have hfu := hfg
 simp at hfu
 by_cases hlt : j < l.length
 ·have hltI : (j : Int) < (l.length : Int) := by omega
  have hwr := wrapS j (by omega)
  have hs := JF_succ (t := textE) hlt
  have hmem := List.getElem_mem hlt
  have hev := ExsV_get hv j hlt
  have hle : j < es.length := by omega
  have hox := okL_iff.1 ho _ hmem
  have h43 := fun S => w43 (w0 := w0) 4000000 (by omega) l[j] (hw _ hmem) hox _ hev S
  have hl2 := textE_le hox (hw _ hmem)
  have q1 := li_addr (k := 7) (es := es) hle rfl (ExV_len hev) fl2
  have q2 := li_load (k := 7) (es := es) hle rfl (ExV_len hev) true 7 0 (by omega)
  have hl7 := ExV_len hev
  have hcl := comT_len j
  have hall : base ++ JF textE l (j + 1) = (base ++ JF textE l j) ++ (comT j ++ textE l[j]) := by rw [hs, ← List.append_assoc]
  have hgr := grow2 hbl hall (by rw [List.length_append]; omega)
  generalize es.getD j [] = ev at *
  have htk2 : takeAt true 7 ev 0 = .agg ev := by simp [takeAt, List.take_of_length_le, hl7]
  rw [htk2] at q2
  generalize textE l[j] = ty at *
  generalize hacc : base ++ JF textE l j = acc at *
  simp [f15b2, b1, b3, b7, b8, hfg, p1, p2, hel, hltI, q1, q2]
  refine (w42 j _).use ?_
  rintro e S1 ⟨rfl, rfl⟩
  simp [b1, b3, b7, b8, hfg, p1, p2, hel, q1, q2]
  refine ⟨hfu, ?_⟩
  refine (h43 _).use ?_
  rintro e S1 ⟨rfl, rfl⟩
  simp [b1, b3, b7, b8, hfg, p1, p2, hel, q1, q2, hwr]
  refine ⟨by omega, by omega, ?_⟩
  exact ⟨l.length - (j + 1), by omega, j + 1, _, rfl, by omega, rfl, by simp [b1], by rw [hall]; simp, hgr, by simp [b7], by simp⟩
 ·have hie : j = l.length := by omega
  subst hie
  rw [JF_all] at b3 hbl
  simp [f15b2, b1, b3, b7, b8, hfg, p1, p2, hel]
  exact ⟨g, rfl, by simp [b1], by simp [b3], by simp [b7]⟩
set_option maxHeartbeats 4000000 in
theorem lt_r {l : List (List Ex)} {es : List (List AVal)} (hV : Al RowV l es) (hn : l.length ≤ 50) (hk : ∀ r ∈ l, 1 ≤ r.length ∧ r.length ≤ 50 ∧ okL r = true) (hw : ∀ r ∈ l, ∀ x ∈ r, x.w ≤ 4000000) (hf : Fd b 6 H0 (.list fl es)) (hb : base.length ≤ 1000000000000) (b1 : get a 1 = .ptr b 0 0) (b3 : get a 3 = .str base) (b5 : get a 7 = .int 0) :
  mwp (ACalls Tryz.prog (B0 w0)) (.block 5 (.loop (f15b3 G))) (TxQ b H0 (base ++ joinT (l.map rowT))) a (H0 ++ g0) := by
 simp only [mwp_block]
 refine mwp_loop (I := TxI b 7 l.length H0 base 260000000000 (JF rowT l)) ⟨0, g0, rfl, Nat.zero_le _, rfl, b1, by rw [JF_zero, List.append_nil]; exact b3, by rw [JF_zero, List.append_nil]; omega, b5⟩ ?_
 clear b1 b3 b5
 rintro m a S' ⟨i, g, rfl, hi, rfl, b1, b3, hbl, b5⟩
 have hfg := hf g
 by_cases hlt : i < l.length
 ·have hltI : (i : Int) < (l.length : Int) := by omega
  have hwr := wrapS i (by omega)
  have hs := JF_succ (t := rowT) hlt
  have hmem := List.getElem_mem hlt
  obtain ⟨fl2, es2, he, hv⟩ := hV.2 i hlt
  have hle : i < es.length := by have := hV.1; omega
  have hkx := hk _ hmem
  have hwx := hw _ hmem
  have hl2 := rowT_len hkx.2.2 hkx.2.1 hwx
  have q1 := li_addr (k := 1) (es := es) hle he rfl fl
  have q2 := li_load (k := 1) (es := es) hle he rfl false 1 0 (by omega)
  rw [show takeAt false 1 [AVal.list fl2 es2] 0 = .list fl2 es2 from rfl] at q2
  have hcl := comT_len i
  have hall : base ++ JF rowT l (i + 1) = (base ++ JF rowT l i) ++ (comT i ++ rowT l[i]) := by rw [hs, ← List.append_assoc]
  have hgr := grow hbl hall (by rw [List.length_append]; omega)
  have hjl := joinT_map_len (t := textE) (c := 5000000000) (n := 50) (l := l[i]) (fun x hx => textE_le (okL_iff.1 hkx.2.2 x hx) (hwx x hx)) hkx.2.1
  generalize l[i] = y at *
  generalize hacc : base ++ JF rowT l i = acc at *
  simp [-mwp_block, f15b3, b1, b3, b5, hfg, hV.1, hltI]
  rw [mwp_block, mwp_seq]
  simp [-mwp_block, -mwp_seq, b1, b3, b5]
  refine (w42 i _).use ?_
  rintro e S1 ⟨rfl, rfl⟩
  simp [-mwp_block, -mwp_seq, b1, b3, b5]
  refine ⟨by omega, by omega, ?_⟩
  rw [mwp_seq, mwp_seq]
  simp [-mwp_block, -mwp_seq, b1, b3, b5]
  refine mwp_mono _ _ (fun _ _ _ _ _ hr h => h.mono hr) ?_ (lt_e (i := i) (eR := es) (fl2 := fl2) (base := acc ++ (comT i ++ [40])) hv hkx.2.2 hkx.2.1 hwx hf q1 q2 (by simp; omega) (by simp [b1]) (by simp) (by simp [b5]) (by simp))
  intro e a2 S2 h
  cases e <;> first | exact h.elim | skip
  obtain ⟨g2, rfl, c1, c3, c7⟩ := h
  simp [c1, c3, c7, hwr]
  refine ⟨by omega, ?_⟩
  exact ⟨l.length - (i + 1), by omega, i + 1, _, rfl, by omega, rfl, by simp [c1], by rw [hall]; simp [rowT], hgr, by simp⟩
 ·have hie : i = l.length := by omega
  subst hie
  rw [JF_all] at b3 hbl
  simp [f15b3, b1, b3, b5, hfg, hV.1]
  exact ⟨g, rfl, by simp [b1], by simp [b3], by omega⟩
end
end Go.Abs
namespace Go.Abs
open Go Go.RowKit Go.Proofs Go.Lx Go.Pz
variable {w0 : World}
section
variable {b : Nat} {H0 : Heap} {fl : Fl} {a : Tmps} {g0 : Heap} {G : Nat → AVal} {base : Bs}
set_option maxHeartbeats 4000000 in
theorem lt_i {l : List Itm} {es : List (List AVal)} (hV : Al ItmV l es) (hn : l.length ≤ 50) (hk : ∀ x ∈ l, okE x.e = true ∧ aliasB x.name = true) (hw : ∀ x ∈ l, x.e.w ≤ 4000000) (hf : Fd b 7 H0 (.list fl es)) (hb : base.length ≤ 1000000000000) (b1 : get a 1 = .ptr b 0 0) (b3 : get a 3 = .str base) (b5 : get a 4 = .int 0) :
  mwp (ACalls Tryz.prog (B0 w0)) (.block 0 (.loop (f44b0 G))) (TxQ b H0 (base ++ joinT (l.map itemT))) a (H0 ++ g0) := by
 simp only [mwp_block]
 refine mwp_loop (I := TxI b 4 l.length H0 base 6000000000 (JF itemT l)) ⟨0, g0, rfl, Nat.zero_le _, rfl, b1, by rw [JF_zero, List.append_nil]; exact b3, by rw [JF_zero, List.append_nil]; omega, b5⟩ ?_
 clear b1 b3 b5
 rintro m a S' ⟨i, g, rfl, hi, rfl, b1, b3, hbl, b5⟩
 have hfg := hf g
 have hfu := hfg
 simp at hfu
 by_cases hlt : i < l.length
 ·have hltI : (i : Int) < (l.length : Int) := by omega
  have hwr := wrapS i (by omega)
  have hs := JF_succ (t := itemT) hlt
  have hmem := List.getElem_mem hlt
  obtain ⟨ev, hev, he⟩ := hV.2 i hlt
  have hle : i < es.length := by have := hV.1; omega
  have hkx := hk _ hmem
  have hwx := hw _ hmem
  have h43 := fun S => w43 (w0 := w0) 4000000 (by omega) l[i].e hwx hkx.1 ev hev S
  have hl1 := aliasB_len hkx.2
  have hl2 := textE_le hkx.1 hwx
  have hl3 := itemT_le hkx.1 hkx.2 hwx
  have q1 := li_addr (k := 8) (es := es) hle he (by simp [ExV_len hev]) fl
  have q2 := li_load (k := 8) (es := es) hle he (by simp [ExV_len hev]) true 7 0 (by omega)
  have q3 := li_load (k := 8) (es := es) hle he (by simp [ExV_len hev]) false 1 7 (by omega)
  have hcl := comT_len i
  have hall : base ++ JF itemT l (i + 1) = (base ++ JF itemT l i) ++ (comT i ++ itemT l[i]) := by rw [hs, ← List.append_assoc]
  have hgr := grow hbl hall (by rw [List.length_append]; omega)
  generalize l[i] = y at *
  generalize hacc : base ++ JF itemT l i = acc at *
  obtain ⟨fl', es', k', n', s', t', q', rfl⟩ := ExV_cells hev
  have t2 : takeAt true 7 ([.int (opOf y.e), .list fl' es', .int k', .int n', .int s', .str t', .str q'] ++ [.str y.name] : List AVal) 0 = .agg [.int (opOf y.e), .list fl' es', .int k', .int n', .int s', .str t', .str q'] := by simp [takeAt]
  have t3 : takeAt false 1 ([.int (opOf y.e), .list fl' es', .int k', .int n', .int s', .str t', .str q'] ++ [.str y.name] : List AVal) 7 = .str y.name := by simp [takeAt]
  rw [t2] at q2
  rw [t3] at q3
  have hit : itemT y = asT (textE y.e) y.name := rfl
  rw [hit] at hall hl3
  have h98 := fun S => w98 (w0 := w0) (s := textE y.e) (n := y.name) (by omega) (by omega) S
  generalize asT (textE y.e) y.name = ta at *
  simp [f44b0, b1, b3, b5, hfg, hV.1, hltI, q1, q2, q3]
  refine (w42 i _).use ?_
  rintro e S1 ⟨rfl, rfl⟩
  simp [b1, b3, b5, hfg, q1, q2, q3]
  refine ⟨hfu, ?_⟩
  refine (h43 _).use ?_
  rintro e S1 ⟨rfl, rfl⟩
  simp [b1, b3, b5, hfg, q1, q2, q3]
  refine ⟨hfu, ?_⟩
  refine (h98 _).use ?_
  rintro e S1 ⟨rfl, rfl⟩
  simp [b1, b3, b5, hfg, q1, q2, q3, hwr]
  refine ⟨by omega, by omega, ?_⟩
  exact ⟨l.length - (i + 1), by omega, i + 1, _, rfl, by omega, rfl, by simp [b1], by rw [hall]; simp, hgr, by simp⟩
 ·have hie : i = l.length := by omega
  subst hie
  rw [JF_all] at b3 hbl
  simp [f44b0, b1, b3, b5, hfg, hV.1]
  exact ⟨g, rfl, by simp [b1], by simp [b3], by omega⟩
def TsI (b : Nat) (l : List Src) (H0 : Heap) (base : Bs) (m : Nat) (a : Tmps) (S' : Heap) : Prop :=
 ∃ (i : Nat) (g : Heap), m = l.length - i ∧ 1 ≤ i ∧ i ≤ l.length ∧ S' = H0 ++ g ∧ get a 1 = .ptr b 0 0 ∧ get a 3 = .str (base ++ srcsT (l.take i)) ∧ (base ++ srcsT (l.take i)).length ≤ 2000000000000 + i * 6000000000 ∧ get a 5 = .int i
set_option maxHeartbeats 4000000 in
theorem lt_s {l : List Src} {es : List (List AVal)} (hV : Al SrcV l es) (h1l : 1 ≤ l.length) (hn : l.length ≤ 4) (hk : ∀ x ∈ l, nameB x.table = true ∧ aliasB x.alias = true) (hko : ∀ i (h : i < l.length), i ≠ 0 → okE l[i].on = true) (hw : ∀ x ∈ l, x.on.w ≤ 4000000) (hf : Fd b 8 H0 (.list fl es)) (hb : (base ++ srcsT (l.take 1)).length ≤ 2000000000000)
  (b1 : get a 1 = .ptr b 0 0) (b3 : get a 3 = .str (base ++ srcsT (l.take 1))) (b5 : get a 5 = .int 1) : mwp (ACalls Tryz.prog (B0 w0)) (.block 2 (.loop (f44b1 G))) (TxQ b H0 (base ++ srcsT l)) a (H0 ++ g0) := by
 simp only [mwp_block]
 refine mwp_loop (I := TsI b l H0 base) ⟨1, g0, rfl, Nat.le_refl _, h1l, rfl, b1, b3, by omega, b5⟩ ?_
 clear b1 b3 b5
 rintro m a S' ⟨i, g, rfl, h1i, hi, rfl, b1, b3, hbl, b5⟩
 have hfg := hf g
 have hfu := hfg
 simp at hfu
 by_cases hlt : i < l.length
 ·have hltI : (i : Int) < (l.length : Int) := by omega
  have hwr := wrapS i (by omega)
  have hs := srcsT_step hlt (by omega)
  have hmem := List.getElem_mem hlt
  obtain ⟨ev, hev, he⟩ := hV.2 i hlt
  have hle : i < es.length := by have := hV.1; omega
  have hkx := hk _ hmem
  have hwx := hw _ hmem
  have hox := hko i hlt (by omega)
  have h43 := fun S => w43 (w0 := w0) 4000000 (by omega) l[i].on hwx hox ev hev S
  have hl0 := nameB_len hkx.1
  have hl1 := aliasB_len hkx.2
  have hl2 := textE_le hox hwx
  have hl3 := asT_len (s := l[i].table) hkx.2
  have q1 := li_addr (k := 9) (es := es) hle he (by simp [ExV_len hev]) fl
  have q2 := li_load (k := 9) (es := es) hle he (by simp [ExV_len hev]) true 7 2 (by omega)
  have q3 := li_load (k := 9) (es := es) hle he (by simp [ExV_len hev]) false 1 0 (by omega)
  have q4 := li_load (k := 9) (es := es) hle he (by simp [ExV_len hev]) false 1 1 (by omega)
  have hall : base ++ srcsT (l.take (i + 1)) = (base ++ srcsT (l.take i)) ++ (ijT ++ asT l[i].table l[i].alias ++ onT ++ textE l[i].on) := by rw [hs, ← List.append_assoc]; rfl
  have hgr := grow2 (C := 6000000000) (B := 2000000000000) hbl hall (by simp [ijT, onT]; omega)
  generalize l[i] = y at *
  generalize hacc : base ++ srcsT (l.take i) = acc at *
  obtain ⟨fl', es', k', n', s', t', q', rfl⟩ := ExV_cells hev
  have t2 : takeAt true 7 (.str y.table :: .str y.alias :: [.int (opOf y.on), .list fl' es', .int k', .int n', .int s', .str t', .str q'] : List AVal) 2 = .agg [.int (opOf y.on), .list fl' es', .int k', .int n', .int s', .str t', .str q'] := by simp [takeAt]
  have t3 : takeAt false 1 (.str y.table :: .str y.alias :: [.int (opOf y.on), .list fl' es', .int k', .int n', .int s', .str t', .str q'] : List AVal) 0 = .str y.table := by simp [takeAt]
  have t4 : takeAt false 1 (.str y.table :: .str y.alias :: [.int (opOf y.on), .list fl' es', .int k', .int n', .int s', .str t', .str q'] : List AVal) 1 = .str y.alias := by simp [takeAt]
  rw [t2] at q2
  rw [t3] at q3
  rw [t4] at q4
  have h98 := fun S => w98 (w0 := w0) (s := y.table) (n := y.alias) (by omega) (by omega) S
  generalize asT y.table y.alias = ta at *
  generalize textE y.on = to at *
  simp [f44b1, b1, b3, b5, hfg, hV.1, hltI, q1, q2, q3, q4]
  refine (h98 _).use ?_
  rintro e S1 ⟨rfl, rfl⟩
  simp [b1, b3, b5, hfg, q1, q2, q3, q4]
  refine ⟨hfu, by omega, by omega, ?_⟩
  refine (h43 _).use ?_
  rintro e S1 ⟨rfl, rfl⟩
  simp [b1, b3, b5, hfg, q1, q2, q3, q4, hwr]
  refine ⟨by omega, by omega, by omega, ?_⟩
  exact ⟨l.length - (i + 1), by omega, i + 1, _, rfl, by omega, by omega, rfl, by simp [b1], by rw [hall]; simp [ijT, onT], hgr, by simp⟩
 ·have hie : i = l.length := by omega
  subst hie
  rw [List.take_length] at b3 hbl
  simp [f44b1, b1, b3, b5, hfg, hV.1]
  exact ⟨g, rfl, by simp [b1], by simp [b3], by omega⟩
def obT : Bs := [32, 79, 82, 68, 69, 82, 32, 66, 89, 32]
def OF (l : List Srt) (i : Nat) : Bs := if i = 0 then [] else obT ++ JF sortT l i
theorem OF_succ {l : List Srt} {i : Nat} (h : i < l.length) : OF l (i + 1) = OF l i ++ ((if i = 0 then obT else []) ++ (comT i ++ sortT l[i])) := by
 unfold OF
 rw [if_neg (by omega), JF_succ (t := sortT) h]
 by_cases h0 : i = 0
 ·subst h0; simp [JF_zero, comT]
 ·rw [if_neg h0, if_neg h0]; simp
theorem OF_all (l : List Srt) : OF l l.length = ordT l := by
 unfold OF ordT
 cases l with
 | nil => rfl
 | cons x l => rw [if_neg (by simp), if_neg (by simp), JF_all]; rfl
def ToI (b : Nat) (l : List Srt) (H0 : Heap) (base : Bs) (m : Nat) (a : Tmps) (S' : Heap) : Prop :=
 ∃ (i : Nat) (g : Heap), m = l.length - i ∧ i ≤ l.length ∧ S' = H0 ++ g ∧ get a 1 = .ptr b 0 0 ∧ get a 3 = .str (base ++ OF l i) ∧ (base ++ OF l i).length ≤ 50000000000000 + i * 6000000000 ∧ get a 6 = .int i
set_option maxHeartbeats 4000000 in
theorem lt_o {l : List Srt} {es : List (List AVal)} (hV : Al SrtV l es) (hn : l.length ≤ 50) (hk : ∀ x ∈ l, okE x.e = true) (hw : ∀ x ∈ l, x.e.w ≤ 4000000) (hf : Fd b 16 H0 (.list fl es)) (hb : base.length ≤ 50000000000000) (b1 : get a 1 = .ptr b 0 0) (b3 : get a 3 = .str base) (b5 : get a 6 = .int 0) :
  mwp (ACalls Tryz.prog (B0 w0)) (.block 4 (.loop (f44b2 G))) (TxQ b H0 (base ++ ordT l)) a (H0 ++ g0) := by
 simp only [mwp_block]
 refine mwp_loop (I := ToI b l H0 base) ⟨0, g0, rfl, Nat.zero_le _, rfl, b1, by rw [OF, if_pos rfl, List.append_nil]; exact b3, by rw [OF, if_pos rfl, List.append_nil]; omega, b5⟩ ?_
 clear b1 b3 b5
 rintro m a S' ⟨i, g, rfl, hi, rfl, b1, b3, hbl, b5⟩
 have hfg := hf g
 have hfu := hfg
 simp at hfu
 by_cases hlt : i < l.length
 ·have hltI : (i : Int) < (l.length : Int) := by omega
  have hwr := wrapS i (by omega)
  have hs := OF_succ hlt
  have hmem := List.getElem_mem hlt
  obtain ⟨ev, hev, he⟩ := hV.2 i hlt
  have hle : i < es.length := by have := hV.1; omega
  have hkx := hk _ hmem
  have hwx := hw _ hmem
  have h43 := fun S => w43 (w0 := w0) 4000000 (by omega) l[i].e hwx hkx ev hev S
  have hl2 := textE_le hkx hwx
  have hl3 := sortT_le hkx hwx
  have q1 := li_addr (k := 8) (es := es) hle he (by simp [ExV_len hev]) fl
  have q2 := li_load (k := 8) (es := es) hle he (by simp [ExV_len hev]) true 7 0 (by omega)
  have q3 := li_load (k := 8) (es := es) hle he (by simp [ExV_len hev]) false 1 7 (by omega)
  have hcl := comT_len i
  have hall : base ++ OF l (i + 1) = (base ++ OF l i) ++ ((if i = 0 then obT else []) ++ (comT i ++ sortT l[i])) := by rw [hs, ← List.append_assoc]
  have hgr := grow2 (C := 6000000000) (B := 50000000000000) hbl hall (by
   have : (if i = 0 then obT else []).length ≤ 10 := by split <;> simp [obT]
   rw [List.length_append, List.length_append]; omega)
  generalize l[i] = y at *
  generalize hacc : base ++ OF l i = acc at *
  obtain ⟨fl', es', k', n', s', t', q', rfl⟩ := ExV_cells hev
  have t2 : takeAt true 7 ([.int (opOf y.e), .list fl' es', .int k', .int n', .int s', .str t', .str q'] ++ [.bool y.desc] : List AVal) 0 = .agg [.int (opOf y.e), .list fl' es', .int k', .int n', .int s', .str t', .str q'] := by simp [takeAt]
  have t3 : takeAt false 1 ([.int (opOf y.e), .list fl' es', .int k', .int n', .int s', .str t', .str q'] ++ [.bool y.desc] : List AVal) 7 = .bool y.desc := by simp [takeAt]
  rw [t2] at q2
  rw [t3] at q3
  have hst : sortT y = if y.desc then textE y.e ++ [32, 68, 69, 83, 67] else textE y.e := rfl
  rw [hst] at hall
  generalize textE y.e = ty at *
  by_cases h0 : i = 0
  ·have bi : ((i : Int) == 0) = true := by simp [h0]
   rw [if_pos h0] at hall
   cases hd : y.desc with
   | false =>
     rw [hd] at q3 hall
     simp [f44b2, b1, b3, b5, hfg, hV.1, hltI, q1, q2, q3, bi]
     refine ⟨by omega, ?_⟩
     refine (w42 i _).use ?_
     rintro e S1 ⟨rfl, rfl⟩
     simp [b1, b3, b5, hfg, q1, q2, q3]
     refine ⟨hfu, ?_⟩
     refine (h43 _).use ?_
     rintro e S1 ⟨rfl, rfl⟩
     simp [b1, b3, b5, hfg, q1, q2, q3, hwr]
     refine ⟨by omega, by omega, ?_⟩
     exact ⟨l.length - (i + 1), by omega, i + 1, _, rfl, by omega, rfl, by simp [b1], by rw [hall]; simp [obT], hgr, by simp⟩
   | true =>
     rw [hd] at q3 hall
     simp [f44b2, b1, b3, b5, hfg, hV.1, hltI, q1, q2, q3, bi]
     refine ⟨by omega, ?_⟩
     refine (w42 i _).use ?_
     rintro e S1 ⟨rfl, rfl⟩
     simp [b1, b3, b5, hfg, q1, q2, q3]
     refine ⟨hfu, ?_⟩
     refine (h43 _).use ?_
     rintro e S1 ⟨rfl, rfl⟩
     simp [b1, b3, b5, hfg, q1, q2, q3, hwr]
     refine ⟨by omega, by omega, by omega, ?_⟩
     exact ⟨l.length - (i + 1), by omega, i + 1, _, rfl, by omega, rfl, by simp [b1], by rw [hall]; simp [obT], hgr, by simp⟩
  ·have bi : ((i : Int) == 0) = false := beq_eq_false_iff_ne.2 (by omega)
   rw [if_neg h0] at hall
   cases hd : y.desc with
   | false =>
     rw [hd] at q3 hall
     simp [f44b2, b1, b3, b5, hfg, hV.1, hltI, q1, q2, q3, bi]
     refine (w42 i _).use ?_
     rintro e S1 ⟨rfl, rfl⟩
     simp [b1, b3, b5, hfg, q1, q2, q3]
     refine ⟨hfu, ?_⟩
     refine (h43 _).use ?_
     rintro e S1 ⟨rfl, rfl⟩
     simp [b1, b3, b5, hfg, q1, q2, q3, hwr]
     refine ⟨by omega, by omega, ?_⟩
     exact ⟨l.length - (i + 1), by omega, i + 1, _, rfl, by omega, rfl, by simp [b1], by rw [hall]; simp [obT], hgr, by simp⟩
   | true =>
     rw [hd] at q3 hall
     simp [f44b2, b1, b3, b5, hfg, hV.1, hltI, q1, q2, q3, bi]
     refine (w42 i _).use ?_
     rintro e S1 ⟨rfl, rfl⟩
     simp [b1, b3, b5, hfg, q1, q2, q3]
     refine ⟨hfu, ?_⟩
     refine (h43 _).use ?_
     rintro e S1 ⟨rfl, rfl⟩
     simp [b1, b3, b5, hfg, q1, q2, q3, hwr]
     refine ⟨by omega, by omega, by omega, ?_⟩
     exact ⟨l.length - (i + 1), by omega, i + 1, _, rfl, by omega, rfl, by simp [b1], by rw [hall]; simp [obT], hgr, by simp⟩
 ·have hie : i = l.length := by omega
  subst hie
  rw [OF_all] at b3 hbl
  simp [f44b2, b1, b3, b5, hfg, hV.1]
  exact ⟨g, rfl, by simp [b1], by simp [b3], by omega⟩
end
end Go.Abs
namespace Go.Abs
open Go Go.RowKit Go.Proofs Go.Lx Go.Pz
variable {w0 : World}
theorem joinsT_len : ∀ {r : List Src}, (∀ x ∈ r, nameB x.table = true ∧ aliasB x.alias = true ∧ okE x.on = true ∧ x.on.w ≤ 4000000) → (joinsT r).length ≤ r.length * 6000000000
 | [], _ => by simp [joinsT]
 | x :: r, h => by
   have ih := joinsT_len (r := r) fun y hy => h y (List.mem_cons_of_mem _ hy)
   obtain ⟨h1, h2, h3, h4⟩ := h x (List.mem_cons_self ..)
   have l1 := nameB_len h1
   have l2 := asT_len (s := x.table) h2
   have l3 := textE_le h3 h4
   simp only [joinsT, srcT, List.map_cons, List.flatten_cons, List.length_append, List.length_cons, List.length_nil] at ih ⊢
   omega
theorem srcsT_len {l : List Src} (hn : l.length ≤ 4) (hk : ∀ x ∈ l, nameB x.table = true ∧ aliasB x.alias = true) (hko : ∀ i (h : i < l.length), i ≠ 0 → okE l[i].on = true) (hw : ∀ x ∈ l, x.on.w ≤ 4000000) : (srcsT l).length ≤ 30000000000 := by
 cases l with
 | nil => simp [srcsT]
 | cons s r =>
   have hj := joinsT_len (r := r) fun x hx => by
    have hm := List.mem_cons_of_mem s hx
    obtain ⟨i, hi, rfl⟩ := List.getElem_of_mem hx
    exact ⟨(hk _ hm).1, (hk _ hm).2, hko (i + 1) (by simp; omega) (by omega), hw _ hm⟩
   obtain ⟨h1, h2⟩ := hk s (List.mem_cons_self ..)
   have l1 := nameB_len h1
   have l2 := asT_len (s := s.table) h2
   simp only [List.length_cons] at hn
   simp only [srcsT, srcT, frT, List.length_append, List.length_cons, List.length_nil]
   omega
set_option maxHeartbeats 8000000 in
theorem w44 {st : Stm} (ho : OkS st) (hk : st.kind = 6) (hwd : ∀ x ∈ exsS st, x.w ≤ 4000000) {c : List AVal} (hc : StV st c) (S : Heap) : ACalls Tryz.prog (B0 w0) 44 [.agg c] S fun e S' => e = .ret (.str (queryT st)) ∧ S' = S := by
 obtain ⟨⟨hi1, hi2⟩, ⟨hf1, hf2, hf3⟩, hwp, hs1, hs2⟩ := query_parts ho hk
 have h1f : 1 ≤ st.src.length := by cases ho <;> simp_all
 obtain ⟨fC, fN, fR, fI, fF, fO, fS, eR, eI, eF, ew, eO, eS, rfl, hw, hR, hI, hF, hO, hS⟩ := hc
 refine ACalls.close (R := fun e S' => e = .ret (.str (queryT st)) ∧ S'.take S.length = S) ?_ ?_
 rotate_left 1
 ·rintro e S' ⟨rfl, ht⟩
  exact .flat ht rfl ⟨rfl, rfl⟩
 have j1 := joinT_map_len (t := itemT) (c := 5000000040) (n := 50) (l := st.items) (fun x hx => itemT_le (hi2 x hx).1 (hi2 x hx).2 (hwd _ (mem_items hx))) hi1
 have j3 := whereT_le hwp (hwd _ mem_wher)
 have j4 := srcsT_len hf1 hf2 hf3 (fun x hx => hwd _ (mem_src hx))
 have h45 := fun S => w45 (w0 := w0) hwp (hwd _ mem_wher) hw S
 have eI0 : ((eI.length : Int) == 0) = decide (st.items = []) := by rw [hI.1]; cases st.items <;> simp; omega
 have hbl : (baseT st.items).length ≤ 400000000000 := by unfold baseT; split <;> simp <;> omega
 have hq := queryT_eq st
 have hz := srcsT_zero (l := st.src) (by omega)
 obtain ⟨fl', es', k', n', s', t', q', rfl⟩ := ExV_cells hw
 obtain ⟨ev, hev, he⟩ := hF.2 0 (by omega)
 have hle : 0 < eF.length := by have := hF.1; omega
 have hk0 := hf2 _ (List.getElem_mem (show 0 < st.src.length by omega))
 have hl0 := nameB_len hk0.1
 have hl1 := aliasB_len hk0.2
 have hl3 := asT_len (s := st.src[0].table) hk0.2
 have h98 := fun S => w98 (w0 := w0) (s := st.src[0].table) (n := st.src[0].alias) (by omega) (by omega) S
 have h9 : (eF[0]?.getD []).length = 9 := by rw [← List.getD_eq_getElem?_getD, he]; simp [ExV_len hev]
 have q1 := li_addr (k := 9) (es := eF) hle he (by simp [ExV_len hev]) fF
 have q3 := li_load (k := 9) (es := eF) hle he (by simp [ExV_len hev]) false 1 0 (by omega)
 have q4 := li_load (k := 9) (es := eF) hle he (by simp [ExV_len hev]) false 1 1 (by omega)
 rw [show takeAt false 1 (.str st.src[0].table :: .str st.src[0].alias :: ev : List AVal) 0 = .str st.src[0].table by simp [takeAt]] at q3
 rw [show takeAt false 1 (.str st.src[0].table :: .str st.src[0].alias :: ev : List AVal) 1 = .str st.src[0].alias by simp [takeAt]] at q4
 have hz2 : srcsT (st.src.take 1) = frT ++ asT st.src[0].table st.src[0].alias := hz
 generalize hy : st.src[0].table = yt at *
 generalize hy2 : st.src[0].alias = ya at *
 refine fn_sound tryOrd (f44_c _) (by simp [f44]) ?_
 rw [f44, f44m, mwp_seq]
 simp [-mwp_seq]
 obtain ⟨H, hH⟩ : ∃ H, H = S ++ [AObj.cells 18 [[AVal.int st.kind, .str st.table, .str st.index, .list fC (pcolsC st.cols), .list fN (namesC st.names), .bool st.uniq, .list fR eR, .list fI eI, .list fF eF, .int (opOf st.wher), .list fl' es', .int k', .int n', .int s', .str t', .str q', .list fO eO, .list fS eS]] (some 1)] := ⟨_, rfl⟩
 have hg : ∀ g : Heap, (H ++ g)[S.length]? = some (.cells 18 [[AVal.int st.kind, .str st.table, .str st.index, .list fC (pcolsC st.cols), .list fN (namesC st.names), .bool st.uniq, .list fR eR, .list fI eI, .list fF eF, .int (opOf st.wher), .list fl' es', .int k', .int n', .int s', .str t', .str q', .list fO eO, .list fS eS]] (some 1)) := fun g => by rw [hH]; simp
 obtain ⟨gn, hgn⟩ : ∃ g, g = ([] : Heap) := ⟨_, rfl⟩
 have hHg : H = H ++ gn := by rw [hgn, List.append_nil]
 have hg0 := hg gn
 have ht : ∀ g : Heap, (H ++ g).take S.length = S := fun g => by rw [hH]; simp
 have p7 : Fd S.length 7 H (.list fI eI) := fun g => by simp [hg g]
 have p8 : Fd S.length 8 H (.list fF eF) := fun g => by simp [hg g]
 have p16 : Fd S.length 16 H (.list fO eO) := fun g => by simp [hg g]
 rw [← hH, hHg]
 clear hH
 rw [mwp_seq]
 simp [-mwp_seq]
 rw [mwp_seq]
 by_cases hie : st.items = []
 case' pos =>
  have eb : baseT st.items = [83, 69, 76, 69, 67, 84, 32, 42] := by rw [hie]; rfl
  have e2 : ([83, 69, 76, 69, 67, 84, 32, 42] : Bs) ++ joinT (st.items.map itemT) = baseT st.items := by rw [eb, hie]; rfl
  rw [mwp_seq]
  simp [-mwp_seq, -mwp_block, hg0, eI0, hie]
  rw [mwp_seq, mwp_seq]
  simp [-mwp_seq, -mwp_block, hg0]
  refine mwp_mono _ _ (fun _ _ _ _ _ hr h => h.mono hr) ?_ (lt_i (fl := fI) (base := [83, 69, 76, 69, 67, 84, 32, 42]) hI hi1 hi2 (fun x hx => hwd _ (mem_items hx)) p7 (by simp) (by simp) (by simp) (by simp))
  rw [e2]
 case' neg =>
  have e2 : ([83, 69, 76, 69, 67, 84, 32] : Bs) ++ joinT (st.items.map itemT) = baseT st.items := by unfold baseT; rw [if_neg hie]
  rw [mwp_seq]
  simp [-mwp_seq, -mwp_block, hg0, eI0, hie]
  rw [mwp_seq, mwp_seq]
  simp [-mwp_seq, -mwp_block, hg0]
  refine mwp_mono _ _ (fun _ _ _ _ _ hr h => h.mono hr) ?_ (lt_i (fl := fI) (base := [83, 69, 76, 69, 67, 84, 32]) hI hi1 hi2 (fun x hx => hwd _ (mem_items hx)) p7 (by simp) (by simp) (by simp) (by simp))
  rw [e2]
 all_goals
  intro e a S' h
  cases e <;> first | exact h.elim | skip
  obtain ⟨g, rfl, b1, b3, -⟩ := h
  have hfg := p8 g
  have hfu := hfg
  simp at hfu
  simp only [afterX_normal]
  rw [mwp_seq]
  simp [-mwp_seq, -mwp_block, b1, b3, hfg, hF.1, q1, q3, q4]
  refine ⟨⟨by omega, h9⟩, ?_⟩
  refine (h98 _).use ?_
  rintro e S1 ⟨rfl, rfl⟩
  simp [-mwp_seq, -mwp_block, b1, b3, hfg, hF.1, q1, q3, q4]
  refine ⟨by omega, by omega, ?_⟩
  rw [mwp_seq, mwp_seq]
  simp [-mwp_seq, -mwp_block, b1]
  refine mwp_mono _ _ (fun _ _ _ _ _ hr h => h.mono hr) ?_ (lt_s (fl := fF) (base := baseT st.items) hF h1f hf1 hf2 hf3 (fun x hx => hwd _ (mem_src hx)) p8 (by rw [hz2]; simp [frT]; omega) (by simp [b1]) (by rw [hz2]; simp [frT]) (by simp))
  intro e a S' h
  cases e <;> first | exact h.elim | skip
  obtain ⟨g, rfl, b1, b3, -⟩ := h
  have p9 := hg g
  simp only [afterX_normal]
  rw [mwp_seq]
  simp [-mwp_seq, -mwp_block, b1, b3, p9]
  refine (h45 _).use ?_
  rintro e S1 ⟨rfl, rfl⟩
  simp [-mwp_seq, -mwp_block, b1, b3]
  refine ⟨by omega, ?_⟩
  rw [mwp_seq, mwp_seq]
  simp [-mwp_seq, -mwp_block, b1]
  refine mwp_mono _ _ (fun _ _ _ _ _ hr h => h.mono hr) ?_ (lt_o (fl := fO) (base := baseT st.items ++ srcsT st.src ++ whereT st.wher) hO hs1 hs2 (fun x hx => hwd _ (mem_order hx)) p16 (by simp; omega) (by simp [b1]) (by simp) (by simp))
  rw [← hq]
  intro e a S' h
  cases e <;> first | exact h.elim | skip
  obtain ⟨g, rfl, b1, b3, -⟩ := h
  simp [b1, b3, ht]
end Go.Abs
namespace Go.Abs
open Go Go.RowKit Go.Proofs Go.Lx Go.Pz
variable {w0 : World}
set_option maxHeartbeats 8000000 in
theorem w15 {st : Stm} (ho : OkS st) (hwd : ∀ x ∈ exsS st, x.w ≤ 4000000) {c : List AVal} (hc : StV st c) (S : Heap) : ACalls Tryz.prog (B0 w0) 15 [.agg c] S fun e S' => e = .ret (.str (formS st)) ∧ S' = S := by
 have h44 := fun hk S => w44 (w0 := w0) ho hk hwd hc S
 obtain ⟨fC, fN, fR, fI, fF, fO, fS, eR, eI, eF, ew, eO, eS, rfl, hw, hR, hI, hF, hO, hS⟩ := hc
 refine ACalls.close (R := fun e S' => e = .ret (.str (formS st)) ∧ S'.take S.length = S) ?_ ?_
 rotate_left 1
 ·rintro e S' ⟨rfl, ht⟩
  exact .flat ht rfl ⟨rfl, rfl⟩
 have h45 := fun hwp S => w45 (w0 := w0) hwp (hwd _ mem_wher) hw S
 obtain ⟨fl', es', k', n', s', t', q', rfl⟩ := ExV_cells hw
 refine fn_sound tryOrd (f15_c _) (by simp [f15]) ?_
 rw [f15, f15m, mwp_seq]
 simp [-mwp_seq]
 obtain ⟨H, hH⟩ : ∃ H, H = S ++ [AObj.cells 18 [[AVal.int st.kind, .str st.table, .str st.index, .list fC (pcolsC st.cols), .list fN (namesC st.names), .bool st.uniq, .list fR eR, .list fI eI, .list fF eF, .int (opOf st.wher), .list fl' es', .int k', .int n', .int s', .str t', .str q', .list fO eO, .list fS eS]] (some 1)] := ⟨_, rfl⟩
 have hg : ∀ g : Heap, (H ++ g)[S.length]? = some (.cells 18 [[AVal.int st.kind, .str st.table, .str st.index, .list fC (pcolsC st.cols), .list fN (namesC st.names), .bool st.uniq, .list fR eR, .list fI eI, .list fF eF, .int (opOf st.wher), .list fl' es', .int k', .int n', .int s', .str t', .str q', .list fO eO, .list fS eS]] (some 1)) := fun g => by rw [hH]; simp
 have ht : ∀ g : Heap, (H ++ g).take S.length = S := fun g => by rw [hH]; simp
 have hHl : S.length < H.length := by rw [hH]; simp
 obtain ⟨gn, hgn⟩ : ∃ g, g = ([] : Heap) := ⟨_, rfl⟩
 have hHg : H = H ++ gn := by rw [hgn, List.append_nil]
 have hg0 := hg gn
 have p3 : Fd S.length 3 H (.list fC (pcolsC st.cols)) := fun g => by simp [hg g]
 have p4 : Fd S.length 4 H (.list fN (namesC st.names)) := fun g => by simp [hg g]
 have p6 : Fd S.length 6 H (.list fR eR) := fun g => by simp [hg g]
 have p17 : Fd S.length 17 H (.list fS eS) := fun g => by simp [hg g]
 rw [← hH, hHg]
 clear hH
 rw [mwp_seq]
 simp [-mwp_seq, -mwp_block]
 rw [mwp_seq, mwp_seq]
 simp [-mwp_seq, -mwp_block, hg0]
 rw [mwp_block]
 cases ho with
 | createT t cs ht1 h1 h2 hcs =>
   have hnl := nameB_len ht1
   have hlen := joinT_map_len (t := colT) (c := 60) (n := 16) (l := cs) (fun x hx => colT_len (hcs x hx)) h2
   simp [-mwp_seq, -mwp_block, hg0]
   iterate 4 (first | (rw [mwp_seq]; simp [-mwp_seq, -mwp_block, hg0, hg]) | skip)
   refine ⟨by omega, by omega, ?_⟩
   rw [mwp_seq, mwp_seq]
   simp [-mwp_seq, -mwp_block, hg0]
   obtain ⟨H2, hH2⟩ : ∃ H2, H2 = H ++ (gn ++ [AObj.cells 5 [[AVal.str [], AVal.str [32, 66, 79, 79, 76], AVal.str [32, 73, 78, 84], AVal.str [32, 82, 69, 65, 76], AVal.str [32, 84, 69, 88, 84]]] (some 1)]) := ⟨_, rfl⟩
   have ht2 : ∀ g : Heap, (H2 ++ g).take S.length = S := fun g => by rw [hH2, List.append_assoc]; exact ht _
   have hq : ∀ g : Heap, (H2 ++ g)[H.length + gn.length]? = some (AObj.cells 5 [[AVal.str [], AVal.str [32, 66, 79, 79, 76], AVal.str [32, 73, 78, 84], AVal.str [32, 82, 69, 65, 76], AVal.str [32, 84, 69, 88, 84]]] (some 1)) := fun g => by
    rw [hH2, ← List.append_assoc H, List.append_assoc (H ++ gn), List.getElem?_append_right (by simp)]; simp
   have p32 : Fd S.length 3 H2 (.list fC (pcolsC cs)) := fun g => by rw [hH2, List.append_assoc]; exact p3 _
   obtain ⟨gm, hgm⟩ : ∃ g, g = ([] : Heap) := ⟨_, rfl⟩
   have hHm : H2 = H2 ++ gm := by rw [hgm, List.append_nil]
   rw [← hH2, hHm]
   clear hH2
   refine mwp_mono _ _ (fun _ _ _ _ _ hr h => h.mono hr) ?_ (lt_c (fl := fC) (q := H.length + gn.length) (base := [67, 82, 69, 65, 84, 69, 32, 84, 65, 66, 76, 69, 32] ++ t ++ [32, 40]) (Nat.le_trans h2 (by decide)) hcs p32 (fun n h1 h4 g => by
    have hc : n = 1 ∨ n = 2 ∨ n = 3 ∨ n = 4 := by omega
    rcases hc with rfl | rfl | rfl | rfl <;> simp [hq g, typeT]) (by simp; omega) (by simp) (by simp) (by simp) (by simp))
   intro e a S' h
   cases e <;> first | exact h.elim | skip
   obtain ⟨g, rfl, b1, b3, hbl⟩ := h
   simp [b1, b3, formS, ht2]
   simp at hbl
   omega
 | dropT t ht1 =>
   have hnl := nameB_len ht1
   simp [hg0, formS, ht]
   try omega
 | createI u i t ns hi ht1 h1 h2 hn =>
   have hlen := joinT_map_len (t := id) (c := 32) (n := 4) (l := ns) (fun x hx => nameB_len (hn x hx)) h2
   rw [List.map_id] at hlen
   have hnl := nameB_len ht1
   have hil := nameB_len hi
   cases u with
   | false =>
     simp [-mwp_seq, -mwp_block, hg0]
     iterate 12 (first | (rw [mwp_seq]; try simp [-mwp_seq, -mwp_block, hg0]) | skip)
     refine ⟨by omega, by omega, by omega, by omega, by omega, ?_⟩
     refine mwp_mono _ _ (fun _ _ _ _ _ hr h => h.mono hr) ?_ (lt_n (fl := fN) (base := [67, 82, 69, 65, 84, 69, 32] ++ ([73, 78, 68, 69, 88, 32] ++ i ++ [32, 79, 78, 32] ++ t ++ [32, 40])) (Nat.le_trans h2 (by decide)) (fun x hx => nameB_len (hn x hx)) p4 (by simp; omega) (by simp) (by simp) (by simp))
     intro e a S' h
     cases e <;> first | exact h.elim | skip
     obtain ⟨g, rfl, b1, b3, hbl⟩ := h
     simp [b1, b3, hg, formS, ht]
     simp at hbl
     omega
   | true =>
     simp [-mwp_seq, -mwp_block, hg0]
     iterate 12 (first | (rw [mwp_seq]; try simp [-mwp_seq, -mwp_block, hg0]) | skip)
     refine ⟨by omega, by omega, by omega, by omega, by omega, ?_⟩
     refine mwp_mono _ _ (fun _ _ _ _ _ hr h => h.mono hr) ?_ (lt_n (fl := fN) (base := [67, 82, 69, 65, 84, 69, 32] ++ [85, 78, 73, 81, 85, 69, 32] ++ ([73, 78, 68, 69, 88, 32] ++ i ++ [32, 79, 78, 32] ++ t ++ [32, 40])) (Nat.le_trans h2 (by decide)) (fun x hx => nameB_len (hn x hx)) p4 (by simp; omega) (by simp) (by simp) (by simp))
     intro e a S' h
     cases e <;> first | exact h.elim | skip
     obtain ⟨g, rfl, b1, b3, hbl⟩ := h
     simp [b1, b3, hg, formS, ht]
     simp at hbl
     omega
 | dropI i hi =>
   have hnl := nameB_len hi
   simp [hg0, formS, ht]
   try omega
 | insert t rs ht1 h1 h2 hr =>
   have hwr : ∀ r ∈ rs, ∀ x ∈ r, x.w ≤ 4000000 := fun r hr x hx => hwd x (mem_rows (st := { kind := 5, table := t, rows := rs }) hr hx)
   have hlen := joinT_map_len (t := rowT) (c := 250000000200) (n := 50) (l := rs) (fun r hx => rowT_len (hr r hx).2.2 (hr r hx).2.1 (hwr r hx)) h2
   have hnl := nameB_len ht1
   simp [-mwp_seq, -mwp_block, hg0]
   iterate 8 (first | (rw [mwp_seq]; simp [-mwp_seq, -mwp_block, hg0]) | skip)
   refine ⟨by omega, by omega, ?_⟩
   rw [mwp_seq, mwp_seq]
   simp [-mwp_seq, -mwp_block, hg0]
   refine mwp_mono _ _ (fun _ _ _ _ _ hr h => h.mono hr) ?_ (lt_r (fl := fR) (base := [73, 78, 83, 69, 82, 84, 32, 73, 78, 84, 79, 32] ++ t ++ [32, 86, 65, 76, 85, 69, 83, 32]) hR h2 hr hwr p6 (by simp; omega) (by simp) (by simp) (by simp))
   intro e a S' h
   cases e <;> first | exact h.elim | skip
   obtain ⟨g, rfl, b1, b3, hbl⟩ := h
   simp [b1, b3, hg, formS, ht]
 | query is s fs w os hi his hf hs hfs hwp ho hos =>
   simp [hg0]
   refine (h44 rfl _).use ?_
   rintro e S1 ⟨rfl, rfl⟩
   simp [formS, ht]
 | update t zs w ht1 h1 h2 hz hwp =>
   have hwz : ∀ x ∈ zs, x.e.w ≤ 4000000 := fun x hx => hwd _ (mem_sets (st := { kind := 7, table := t, sets := zs, wher := w }) hx)
   have hlen := joinT_map_len (t := setT) (c := 5000000040) (n := 50) (l := zs) (fun x hx => setT_le (hz x hx).1 (hz x hx).2 (hwz x hx)) h2
   have hnl := nameB_len ht1
   have hwl := whereT_le hwp (hwd w (mem_wher (st := { kind := 7, table := t, sets := zs, wher := w })))
   iterate 8 (first | (rw [mwp_seq]; simp [-mwp_seq, -mwp_block, hg0]) | skip)
   refine ⟨by omega, by omega, ?_⟩
   rw [mwp_seq, mwp_seq]
   simp [-mwp_seq, -mwp_block, hg0]
   refine mwp_mono _ _ (fun _ _ _ _ _ hr h => h.mono hr) ?_ (lt_z (fl := fS) (base := [85, 80, 68, 65, 84, 69, 32] ++ t ++ [32, 83, 69, 84, 32]) hS h2 hz hwz p17 (by simp; omega) (by simp) (by simp) (by simp))
   intro e a S' h
   cases e <;> first | exact h.elim | skip
   obtain ⟨g, rfl, b1, b3, hbl⟩ := h
   simp [b1, b3, hg]
   refine (h45 hwp _).use ?_
   rintro e S1 ⟨rfl, rfl⟩
   simp [formS, ht]
   simp at hbl
   omega
 | delete t w ht1 hwp =>
   have hnl := nameB_len ht1
   have hwl := whereT_le hwp (hwd w (mem_wher (st := { kind := 8, table := t, wher := w })))
   simp [hg0]
   refine ⟨by omega, ?_⟩
   refine (h45 hwp _).use ?_
   rintro e S1 ⟨rfl, rfl⟩
   simp [hg0, formS, ht]
   omega
 | trans k h1 h2 =>
   have hk : k = 9 ∨ k = 10 ∨ k = 11 := by omega
   rcases hk with rfl | rfl | rfl <;> simp [hg, formS, ht, show IntKind.i64.wrap 0 = 0 from by decide, show IntKind.i64.wrap 1 = 1 from by decide, show IntKind.i64.wrap 2 = 2 from by decide]
end Go.Abs
namespace Go.Abs
open Go Go.RowKit Go.Proofs Go.Lx
def tlQ (G : Nat → AVal) : List (FuncId × AFn) := [(8, f8 G), (10, f10 G), (14, f14 G), (16, f16 G), (17, f17 G), (18, f18 G), (19, f19 G), (20, f20 G), (24, f24 G), (26, f26 G), (27, f27 G), (31, f31 G), (32, f32 G), (34, f34 G), (35, f35 G), (36, f36 G), (37, f37 G), (38, f38 G), (39, f39 G), (40, f40 G), (41, f41 G), (46, f46 G), (47, f47 G), (49, f49 G), (50, f50 G), (51, f51 G), (52, f52 G), (53, f53 G), (54, f54 G), (55, f55 G), (56, f56 G), (57, f57 G), (58, f58 G), (59, f59 G), (60, f60 G), (61, f61 G), (62, f62 G), (63, f63 G), (64, f64 G), (65, f65 G), (71, f71 G), (72, f72 G), (73, f73 G), (74, f74 G), (75, f75 G), (76, f76 G), (77, f77 G), (78, f78 G), (79, f79 G), (80, f80 G), (81, f81 G), (82, f82 G), (83, f83 G), (84, f84 G), (85, f85 G), (86, f86 G), (90, f90 G), (91, f91 G), (92, f92 G), (93, f93 G), (94, f94 G), (95, f95 G), (96, f96 G), (100, f100 G), (101, f101 G), (102, f102 G), (103, f103 G), (105, f105 G), (106, f106 G), (112, f112 G), (113, f113 G), (114, f114 G), (116, f116 G), (118, f118 G), (119, f119 G), (120, f120 G), (121, f121 G), (122, f122 G), (123, f123 G), (124, f124 G), (125, f125 G), (126, f126 G), (127, f127 G), (128, f128 G), (129, f129 G), (130, f130 G), (131, f131 G), (132, f132 G), (133, f133 G), (140, f140 G), (143, f143 G), (144, f144 G), (152, f152 G), (155, f155 G), (157, f157 G), (158, f158 G), (175, f175 G), (176, f176 G), (177, f177 G), (187, f187 G), (188, f188 G), (199, f199 G), (200, f200 G), (201, f201 G), (204, f204 G), (205, f205 G), (206, f206 G), (207, f207 G), (208, f208 G), (209, f209 G), (210, f210 G), (211, f211 G), (212, f212 G), (213, f213 G)]
theorem tlQ_c (G : Nat → AVal) : ∀ p ∈ tlQ G, ∃ rows, cmpFn Tryz.prog G rows p.1 = some p.2 := by
 unfold tlQ
 refine List.forall_mem_cons.2 ⟨⟨_, f8_c G⟩, ?_⟩
 refine List.forall_mem_cons.2 ⟨⟨_, f10_c G⟩, ?_⟩
 refine List.forall_mem_cons.2 ⟨⟨_, f14_c G⟩, ?_⟩
 refine List.forall_mem_cons.2 ⟨⟨_, f16_c G⟩, ?_⟩
 refine List.forall_mem_cons.2 ⟨⟨_, f17_c G⟩, ?_⟩
 refine List.forall_mem_cons.2 ⟨⟨_, f18_c G⟩, ?_⟩
 refine List.forall_mem_cons.2 ⟨⟨_, f19_c G⟩, ?_⟩
 refine List.forall_mem_cons.2 ⟨⟨_, f20_c G⟩, ?_⟩
 refine List.forall_mem_cons.2 ⟨⟨_, f24_c G⟩, ?_⟩
 refine List.forall_mem_cons.2 ⟨⟨_, f26_c G⟩, ?_⟩
 refine List.forall_mem_cons.2 ⟨⟨_, f27_c G⟩, ?_⟩
 refine List.forall_mem_cons.2 ⟨⟨_, f31_c G⟩, ?_⟩
 refine List.forall_mem_cons.2 ⟨⟨_, f32_c G⟩, ?_⟩
 refine List.forall_mem_cons.2 ⟨⟨_, f34_c G⟩, ?_⟩
 refine List.forall_mem_cons.2 ⟨⟨_, f35_c G⟩, ?_⟩
 refine List.forall_mem_cons.2 ⟨⟨_, f36_c G⟩, ?_⟩
 refine List.forall_mem_cons.2 ⟨⟨_, f37_c G⟩, ?_⟩
 refine List.forall_mem_cons.2 ⟨⟨_, f38_c G⟩, ?_⟩
 refine List.forall_mem_cons.2 ⟨⟨_, f39_c G⟩, ?_⟩
 refine List.forall_mem_cons.2 ⟨⟨_, f40_c G⟩, ?_⟩
 refine List.forall_mem_cons.2 ⟨⟨_, f41_c G⟩, ?_⟩
 refine List.forall_mem_cons.2 ⟨⟨_, f46_c G⟩, ?_⟩
 refine List.forall_mem_cons.2 ⟨⟨_, f47_c G⟩, ?_⟩
 refine List.forall_mem_cons.2 ⟨⟨_, f49_c G⟩, ?_⟩
 refine List.forall_mem_cons.2 ⟨⟨_, f50_c G⟩, ?_⟩
 refine List.forall_mem_cons.2 ⟨⟨_, f51_c G⟩, ?_⟩
 refine List.forall_mem_cons.2 ⟨⟨_, f52_c G⟩, ?_⟩
 refine List.forall_mem_cons.2 ⟨⟨_, f53_c G⟩, ?_⟩
 refine List.forall_mem_cons.2 ⟨⟨_, f54_c G⟩, ?_⟩
 refine List.forall_mem_cons.2 ⟨⟨_, f55_c G⟩, ?_⟩
 refine List.forall_mem_cons.2 ⟨⟨_, f56_c G⟩, ?_⟩
 refine List.forall_mem_cons.2 ⟨⟨_, f57_c G⟩, ?_⟩
 refine List.forall_mem_cons.2 ⟨⟨_, f58_c G⟩, ?_⟩
 refine List.forall_mem_cons.2 ⟨⟨_, f59_c G⟩, ?_⟩
 refine List.forall_mem_cons.2 ⟨⟨_, f60_c G⟩, ?_⟩
 refine List.forall_mem_cons.2 ⟨⟨_, f61_c G⟩, ?_⟩
 refine List.forall_mem_cons.2 ⟨⟨_, f62_c G⟩, ?_⟩
 refine List.forall_mem_cons.2 ⟨⟨_, f63_c G⟩, ?_⟩
 refine List.forall_mem_cons.2 ⟨⟨_, f64_c G⟩, ?_⟩
 refine List.forall_mem_cons.2 ⟨⟨_, f65_c G⟩, ?_⟩
 refine List.forall_mem_cons.2 ⟨⟨_, f71_c G⟩, ?_⟩
 refine List.forall_mem_cons.2 ⟨⟨_, f72_c G⟩, ?_⟩
 refine List.forall_mem_cons.2 ⟨⟨_, f73_c G⟩, ?_⟩
 refine List.forall_mem_cons.2 ⟨⟨_, f74_c G⟩, ?_⟩
 refine List.forall_mem_cons.2 ⟨⟨_, f75_c G⟩, ?_⟩
 refine List.forall_mem_cons.2 ⟨⟨_, f76_c G⟩, ?_⟩
 refine List.forall_mem_cons.2 ⟨⟨_, f77_c G⟩, ?_⟩
 refine List.forall_mem_cons.2 ⟨⟨_, f78_c G⟩, ?_⟩
 refine List.forall_mem_cons.2 ⟨⟨_, f79_c G⟩, ?_⟩
 refine List.forall_mem_cons.2 ⟨⟨_, f80_c G⟩, ?_⟩
 refine List.forall_mem_cons.2 ⟨⟨_, f81_c G⟩, ?_⟩
 refine List.forall_mem_cons.2 ⟨⟨_, f82_c G⟩, ?_⟩
 refine List.forall_mem_cons.2 ⟨⟨_, f83_c G⟩, ?_⟩
 refine List.forall_mem_cons.2 ⟨⟨_, f84_c G⟩, ?_⟩
 refine List.forall_mem_cons.2 ⟨⟨_, f85_c G⟩, ?_⟩
 refine List.forall_mem_cons.2 ⟨⟨_, f86_c G⟩, ?_⟩
 refine List.forall_mem_cons.2 ⟨⟨_, f90_c G⟩, ?_⟩
 refine List.forall_mem_cons.2 ⟨⟨_, f91_c G⟩, ?_⟩
 refine List.forall_mem_cons.2 ⟨⟨_, f92_c G⟩, ?_⟩
 refine List.forall_mem_cons.2 ⟨⟨_, f93_c G⟩, ?_⟩
 refine List.forall_mem_cons.2 ⟨⟨_, f94_c G⟩, ?_⟩
 refine List.forall_mem_cons.2 ⟨⟨_, f95_c G⟩, ?_⟩
 refine List.forall_mem_cons.2 ⟨⟨_, f96_c G⟩, ?_⟩
 refine List.forall_mem_cons.2 ⟨⟨_, f100_c G⟩, ?_⟩
 refine List.forall_mem_cons.2 ⟨⟨_, f101_c G⟩, ?_⟩
 refine List.forall_mem_cons.2 ⟨⟨_, f102_c G⟩, ?_⟩
 refine List.forall_mem_cons.2 ⟨⟨_, f103_c G⟩, ?_⟩
 refine List.forall_mem_cons.2 ⟨⟨_, f105_c G⟩, ?_⟩
 refine List.forall_mem_cons.2 ⟨⟨_, f106_c G⟩, ?_⟩
 refine List.forall_mem_cons.2 ⟨⟨_, f112_c G⟩, ?_⟩
 refine List.forall_mem_cons.2 ⟨⟨_, f113_c G⟩, ?_⟩
 refine List.forall_mem_cons.2 ⟨⟨_, f114_c G⟩, ?_⟩
 refine List.forall_mem_cons.2 ⟨⟨_, f116_c G⟩, ?_⟩
 refine List.forall_mem_cons.2 ⟨⟨_, f118_c G⟩, ?_⟩
 refine List.forall_mem_cons.2 ⟨⟨_, f119_c G⟩, ?_⟩
 refine List.forall_mem_cons.2 ⟨⟨_, f120_c G⟩, ?_⟩
 refine List.forall_mem_cons.2 ⟨⟨_, f121_c G⟩, ?_⟩
 refine List.forall_mem_cons.2 ⟨⟨_, f122_c G⟩, ?_⟩
 refine List.forall_mem_cons.2 ⟨⟨_, f123_c G⟩, ?_⟩
 refine List.forall_mem_cons.2 ⟨⟨_, f124_c G⟩, ?_⟩
 refine List.forall_mem_cons.2 ⟨⟨_, f125_c G⟩, ?_⟩
 refine List.forall_mem_cons.2 ⟨⟨_, f126_c G⟩, ?_⟩
 refine List.forall_mem_cons.2 ⟨⟨_, f127_c G⟩, ?_⟩
 refine List.forall_mem_cons.2 ⟨⟨_, f128_c G⟩, ?_⟩
 refine List.forall_mem_cons.2 ⟨⟨_, f129_c G⟩, ?_⟩
 refine List.forall_mem_cons.2 ⟨⟨_, f130_c G⟩, ?_⟩
 refine List.forall_mem_cons.2 ⟨⟨_, f131_c G⟩, ?_⟩
 refine List.forall_mem_cons.2 ⟨⟨_, f132_c G⟩, ?_⟩
 refine List.forall_mem_cons.2 ⟨⟨_, f133_c G⟩, ?_⟩
 refine List.forall_mem_cons.2 ⟨⟨_, f140_c G⟩, ?_⟩
 refine List.forall_mem_cons.2 ⟨⟨_, f143_c G⟩, ?_⟩
 refine List.forall_mem_cons.2 ⟨⟨_, f144_c G⟩, ?_⟩
 refine List.forall_mem_cons.2 ⟨⟨_, f152_c G⟩, ?_⟩
 refine List.forall_mem_cons.2 ⟨⟨_, f155_c G⟩, ?_⟩
 refine List.forall_mem_cons.2 ⟨⟨_, f157_c G⟩, ?_⟩
 refine List.forall_mem_cons.2 ⟨⟨_, f158_c G⟩, ?_⟩
 refine List.forall_mem_cons.2 ⟨⟨_, f175_c G⟩, ?_⟩
 refine List.forall_mem_cons.2 ⟨⟨_, f176_c G⟩, ?_⟩
 refine List.forall_mem_cons.2 ⟨⟨_, f177_c G⟩, ?_⟩
 refine List.forall_mem_cons.2 ⟨⟨_, f187_c G⟩, ?_⟩
 refine List.forall_mem_cons.2 ⟨⟨_, f188_c G⟩, ?_⟩
 refine List.forall_mem_cons.2 ⟨⟨_, f199_c G⟩, ?_⟩
 refine List.forall_mem_cons.2 ⟨⟨_, f200_c G⟩, ?_⟩
 refine List.forall_mem_cons.2 ⟨⟨_, f201_c G⟩, ?_⟩
 refine List.forall_mem_cons.2 ⟨⟨_, f204_c G⟩, ?_⟩
 refine List.forall_mem_cons.2 ⟨⟨_, f205_c G⟩, ?_⟩
 refine List.forall_mem_cons.2 ⟨⟨_, f206_c G⟩, ?_⟩
 refine List.forall_mem_cons.2 ⟨⟨_, f207_c G⟩, ?_⟩
 refine List.forall_mem_cons.2 ⟨⟨_, f208_c G⟩, ?_⟩
 refine List.forall_mem_cons.2 ⟨⟨_, f209_c G⟩, ?_⟩
 refine List.forall_mem_cons.2 ⟨⟨_, f210_c G⟩, ?_⟩
 refine List.forall_mem_cons.2 ⟨⟨_, f211_c G⟩, ?_⟩
 refine List.forall_mem_cons.2 ⟨⟨_, f212_c G⟩, ?_⟩
 refine List.forall_mem_cons.2 ⟨⟨_, f213_c G⟩, ?_⟩
 exact fun p h => nomatch h
def tbQ (f : FuncId) : Option AFn := ((tlQ fun _ => .top).find? (·.1 == f)).map (·.2)
theorem tbQ_c : ∀ f fn, tbQ f = some fn → ∃ rows, cmpFn Tryz.prog (fun _ => .top) rows f = some fn := by
 intro f fn h
 simp only [tbQ, Option.map_eq_some_iff] at h
 obtain ⟨p, hp, rfl⟩ := h
 have h1 := List.mem_of_find?_eq_some hp
 have h2 : (p.1 == f) = true := by simpa using List.find?_some hp
 obtain ⟨rows, hr⟩ := tlQ_c _ p h1
 rw [eq_of_beq h2] at hr
 exact ⟨rows, hr⟩
def bsZ : List (List AVal) → Option (List Bs)
 | [] => some []
 | [.str s] :: r => (bsZ r).map (s :: ·)
 | _ => none
theorem bsZ_eq : ∀ {l : List (List AVal)} {xs : List Bs}, bsZ l = some xs → l = strs xs
 | [], xs, h => by simp only [bsZ, Option.some.injEq] at h; subst h; rfl
 | x :: r, xs, h => by
   unfold bsZ at h
   split at h
   ·rename_i h1; cases h1
   ·rename_i s r' h1
    cases h1
    simp only [Option.map_eq_some_iff] at h
    obtain ⟨a, ha, rfl⟩ := h
    rw [bsZ_eq ha]; rfl
   ·cases h
def rowZ (v : AVal) (S : Heap) : Option (List Bs) := match v with
 | .list _ es => bsZ es
 | .row id off len => match S[id]? with
   | some (.cells k es _) => if k = 1 ∧ off + len ≤ es.length then bsZ ((es.drop off).take len) else none
   | _ => none
 | _ => none
theorem rowZ_rk {v : AVal} {S : Heap} {xs : List Bs} (h : rowZ v S = some xs) : Rk 1 S v (strs xs) := by
 unfold rowZ at h
 split at h
 ·rw [← bsZ_eq h]; exact .list _ _
 ·split at h
  ·rename_i hS
   split at h
   ·rename_i hc
    obtain ⟨rfl, hl⟩ := hc
    rw [← bsZ_eq h]; exact .row _ _ _ _ _ hS hl
   ·cases h
  ·cases h
 ·cases h
def extQ (f : FuncId) (args : List AVal) (S : Heap) : Option AVal := match f, args with
 | 33, [v, .str sep] => match rowZ v S with
   | some xs => if xs.length ≤ 100 ∧ (Lib.join xs sep).length ≤ 10000 then some (.str (Lib.join xs sep)) else none
   | none => none
 | 48, [.str l, .str [c]] => some (.bool (decide (0 ≤ Lib.indexByte l c)))
 | 138, [.atom (.int .i64 n), .atom (.int .i64 b)] => if b = 10 ∧ -9223372036854775808 ≤ n ∧ n ≤ 9223372036854775807 then some (.str (Lib.itoa n)) else none
 | f, args => ext f args
theorem extQ_ok {w0 : World} (hT : Tb w0) : ∀ f args S v, extQ f args S = some v → ACalls Tryz.prog (B0 w0) f args S fun e S' => e = .ret v ∧ S' = S := by
 intro f args S v h
 unfold extQ at h
 split at h
 ·split at h
  ·rename_i xs hx
   split at h
   ·rename_i hc
    simp only [Option.some.injEq] at h
    subst h
    exact w33 (rowZ_rk hx) (by omega) (by omega)
   ·cases h
  ·cases h
 ·simp only [Option.some.injEq] at h
  subst h
  exact w48 _ _ _
 ·split at h
  ·rename_i hc
   obtain ⟨rfl, h0, h1⟩ := hc
   simp only [Option.some.injEq] at h
   subst h
   exact w138 hT h0 h1 _
  ·cases h
 ·exact ext_ok f args v h S
def frzs : List Nat → AEnd → Heap → AEnd × Heap
 | [], e, H => (e, H)
 | id :: r, e, H => match H[id]? with
   | some (.cells _ es _) => frzs r (e.fz id es) (H.set id .dead)
   | _ => frzs r e H
theorem Closes.frzs {S : Heap} {R : AEnd → Heap → Prop} : ∀ {ids : List Nat} {e : AEnd} {H : Heap}, Closes S (frzs ids e H).1 (frzs ids e H).2 R → Closes S e H R
 | [], e, H, h => h
 | id :: r, e, H, h => by
   unfold Go.Abs.frzs at h
   split at h
   ·rename_i k es cap hS
    exact .frz id k es cap hS (Closes.frzs h)
   ·exact Closes.frzs h
end Go.Abs
set_option maxRecDepth 100000
namespace Go.Abs
open Go Go.RowKit Go.Proofs Go.Lx
def txz : Bs := [115, 101, 108, 101, 99, 116, 32, 97, 46, 120, 32, 44, 32, 45, 49, 43, 98, 42, 50, 32, 97, 115, 32, 99, 32, 102, 114, 111, 109, 32, 116, 32, 97, 115, 32, 97, 32, 106, 111, 105, 110, 32, 117, 32, 111, 110, 32, 110, 111, 116, 32, 120, 32, 105, 115, 32, 110, 117, 108, 108, 32, 111, 114, 100, 101, 114, 32, 98, 121, 32, 55, 46, 53, 48, 32, 100, 101, 115, 99]
def fmz : Bs := [83, 69, 76, 69, 67, 84, 32, 97, 46, 120, 44, 32, 40, 40, 45, 32, 49, 41, 32, 43, 32, 40, 98, 32, 42, 32, 50, 41, 41, 32, 65, 83, 32, 99, 32, 70, 82, 79, 77, 32, 116, 32, 65, 83, 32, 97, 32, 73, 78, 78, 69, 82, 32, 74, 79, 73, 78, 32, 117, 32, 79, 78, 32, 40, 78, 79, 84, 32, 40, 120, 32, 73, 83, 32, 78, 85, 76, 76, 41, 41, 32, 79, 82, 68, 69, 82, 32, 66, 89, 32, 55, 46, 53, 48, 32, 68, 69, 83, 67]
def zS : List AVal := [.int 0, .str [], .str [], .nilS, .nilS, .bool false, .nilS, .nilS, .nilS, .int 0, .nilS, .int 0, .int 0, .int 0, .str [], .str [], .nilS, .nilS]
def h0Q : Heap := [.cells 18 [zS] (some 1), .cells 1 [[.int 0]] (some 1)]
def tkQ : AVal := .list .unk [[.int 1, .str [115, 101, 108, 101, 99, 116], .int 0, .int 0], [.int 1, .str [97], .int 0, .int 0], [.int 5, .str [46], .int 0, .int 0], [.int 1, .str [120], .int 0, .int 0], [.int 5, .str [44], .int 0, .int 0], [.int 5, .str [45], .int 0, .int 0], [.int 2, .str [], .int 1, .int 0], [.int 5, .str [43], .int 0, .int 0], [.int 1, .str [98], .int 0, .int 0], [.int 5, .str [42], .int 0, .int 0], [.int 2, .str [], .int 2, .int 0], [.int 1, .str [97, 115], .int 0, .int 0], [.int 1, .str [99], .int 0, .int 0], [.int 1, .str [102, 114, 111, 109], .int 0, .int 0], [.int 1, .str [116], .int 0, .int 0], [.int 1, .str [97, 115], .int 0, .int 0], [.int 1, .str [97], .int 0, .int 0], [.int 1, .str [106, 111, 105, 110], .int 0, .int 0], [.int 1, .str [117], .int 0, .int 0], [.int 1, .str [111, 110], .int 0, .int 0], [.int 1, .str [110, 111, 116], .int 0, .int 0], [.int 1, .str [120], .int 0, .int 0], [.int 1, .str [105, 115], .int 0, .int 0], [.int 1, .str [110, 117, 108, 108], .int 0, .int 0], [.int 1, .str [111, 114, 100, 101, 114], .int 0, .int 0], [.int 1, .str [98, 121], .int 0, .int 0], [.int 3, .str [], .int 750, .int 2], [.int 1, .str [100, 101, 115, 99], .int 0, .int 0]]
def h1Q : Heap := h0Q ++ [.cells 3 [[tkQ, .int 0, .int 0]] (some 1)]
def cF : List AVal := [.int 6, .str [], .str [], .list .nil [], .list .nil [], .bool false, .list .nil [], .list .unk [[.int 22, .list .nil [], .int 0, .int 0, .int 0, .str [120], .str [97], .str []], [.int 7, .list .full [[.int 13, .list .full [[.int 21, .list .nil [], .int 2, .int 1, .int 0, .str [], .str []]], .int 0, .int 0, .int 0, .str [], .str []], [.int 9, .list .full [[.int 22, .list .nil [], .int 0, .int 0, .int 0, .str [98], .str []], [.int 21, .list .nil [], .int 2, .int 2, .int 0, .str [], .str []]], .int 0, .int 0, .int 0, .str [], .str []]], .int 0, .int 0, .int 0, .str [], .str [], .str [99]]], .list .unk [[.str [116], .str [97], .int 0, .list .nil [], .int 0, .int 0, .int 0, .str [], .str []], [.str [117], .str [], .int 16, .list .full [[.int 19, .list .full [[.int 22, .list .nil [], .int 0, .int 0, .int 0, .str [120], .str []]], .int 0, .int 0, .int 0, .str [], .str []]], .int 0, .int 0, .int 0, .str [], .str []]], .int 0, .list .nil [], .int 0, .int 0, .int 0, .str [], .str [], .list .unk [[.int 21, .list .nil [], .int 3, .int 750, .int 2, .str [], .str [], .bool true]], .list .nil []]
def hF : Heap := [.cells 18 [cF] (some 1)]
def runQ (f : FuncId) (args : List AVal) (H : Heap) (ids : List Nat) : Option (AEnd × Heap) := match callZ extQ tbQ 300 f args H with
 | some [o] => some ((frzs ids o.1 o.2).1, (frzs ids o.1 o.2).2.take H.length)
 | _ => none
theorem g24_eq : runQ 24 [.str txz] h0Q [57] = some (.ret (.tuple [tkQ, .int 0]), h0Q) := by kernel_rfl
theorem g26_eq : runQ 26 [.ptr 2 0 0] h1Q [106, 157, 193] = some (.ret (.agg cF), h0Q ++ [.cells 3 [[.list .unk [], .int 0, .int 2]] (some 1)]) := by kernel_rfl
theorem g8_eq : runQ 8 [.agg cF] hF [] = some (.ret (.tuple [.str fmz, .int 0]), hF) := by kernel_rfl
theorem g10_eq : runQ 10 [.agg cF] hF [] = some (.ret (.int 0), hF) := by kernel_rfl
theorem runQ_ok {w0 : World} (hT : Tb w0) {f : FuncId} {args : List AVal} {H : Heap} {ids : List Nat} {r : AEnd × Heap} (h : runQ f args H ids = some r) :
  ACalls Tryz.prog (B0 w0) f args H fun e S' => e = r.1 ∧ S'.take H.length = r.2 := by
 unfold runQ at h
 split at h
 ·rename_i o ho
  simp only [Option.some.injEq] at h
  subst h
  refine ACalls.close (R := fun e S' => (e, S') = o) (callZ_sound tryOrd (extQ_ok hT) tbQ_c 300 f args H _ ho _ (by simp)) ?_
  rintro e S' rfl
  exact Closes.frzs (.keep ⟨rfl, rfl⟩)
 ·cases h
theorem runQ_flat {w0 : World} (hT : Tb w0) {f : FuncId} {args : List AVal} {H : Heap} {ids : List Nat} {e : AEnd} (h : runQ f args H ids = some (e, H)) (hs : e.sc H.length = true) :
  ACalls Tryz.prog (B0 w0) f args H fun e' S' => e' = e ∧ S' = H :=
 (runQ_ok hT h).close fun e' S' ⟨he, ht⟩ => by subst he; exact .flat ht hs ⟨rfl, rfl⟩
end Go.Abs
namespace Go.Abs
open Go Go.RowKit Go.Proofs Go.Lx
variable {w0 : World}
theorem cal25 : callable Tryz.prog 25 = true := by kernel_rfl
theorem p24 (hT : Tb w0) : ACalls Tryz.prog (B0 w0) 24 [.str txz] h0Q fun e S' => e = .ret (.tuple [tkQ, .int 0]) ∧ S' = h0Q := runQ_flat hT g24_eq rfl
theorem p26 (hT : Tb w0) : ACalls Tryz.prog (B0 w0) 26 [.ptr 2 0 0] h1Q fun e S' => e = .ret (.agg cF) ∧ S'.take 3 = h0Q ++ [.cells 3 [[.list .unk [], .int 0, .int 2]] (some 1)] := runQ_ok hT g26_eq
theorem p8 (hT : Tb w0) : ACalls Tryz.prog (B0 w0) 8 [.agg cF] hF fun e S' => e = .ret (.tuple [.str fmz, .int 0]) ∧ S' = hF := runQ_flat hT g8_eq rfl
theorem p10 (hT : Tb w0) : ACalls Tryz.prog (B0 w0) 10 [.agg cF] hF fun e S' => e = .ret (.int 0) ∧ S' = hF := runQ_flat hT g10_eq rfl
set_option maxHeartbeats 2000000 in
theorem p12 (hT : Tb w0) : ACalls Tryz.prog (B0 w0) 12 [.str txz] [] fun e S' => e = .ret (.tuple [.agg cF, .int 0]) ∧ S' = [] := by
 refine ACalls.close (R := fun e S' => e = .ret (.tuple [.agg cF, .int 0])) ?_ (fun e S' h => by subst h; exact .flat rfl rfl ⟨rfl, rfl⟩)
 have h24 := p24 hT
 have h26 := p26 hT
 have t1 : tkQ.one = true := rfl
 have t2 : cellsOf false tkQ = some [tkQ] := rfl
 have c1 : cF.length = 18 := rfl
 have c2 : cF.all AVal.one = true := rfl
 unfold h1Q at h26
 unfold h0Q zS at h24 h26
 generalize cF = c at h26 c1 c2 ⊢
 generalize tkQ = tk at h24 h26 t1 t2
 generalize txz = tx at h24 ⊢
 refine fnD_sound tryOrd (f12_c _) (by simp [f12]) ?_
 simp [-appendR, f12, mwpL, f12p0, f12p1]
 refine h24.use ?_
 rintro e S1 ⟨rfl, rfl⟩
 simp [-appendR, f12p2, mwpL, t1, t2]
 refine ⟨25, [], _, ⟨rfl, rfl, rfl⟩, f25 _, f25_c _, by simp [f25], cal25, ?_⟩
 simp [-appendR, f12m, t1, t2]
 refine h26.use ?_
 rintro e S2 ⟨rfl, ht⟩
 obtain ⟨g, rfl⟩ : ∃ g, S2 = [AObj.cells 18 [[AVal.int 0, AVal.str [], AVal.str [], AVal.nilS, AVal.nilS, AVal.bool false, AVal.nilS, AVal.nilS, AVal.nilS, AVal.int 0, AVal.nilS, AVal.int 0, AVal.int 0, AVal.int 0, AVal.str [], AVal.str [], AVal.nilS, AVal.nilS]] (some 1), AObj.cells 1 [[AVal.int 0]] (some 1)] ++ [AObj.cells 3 [[AVal.list Fl.unk [], AVal.int 0, AVal.int 2]] (some 1)] ++ g := ⟨S2.drop 3, by rw [← ht, List.take_append_drop]⟩
 clear ht h24 h26
 simp [-appendR, c1, c2, dPost, defWp, f25, f25m]
theorem Tb.below {w0 w : World} (h : Tb w0) (hb : Below w0.heap.size w0 w) : Tb w := by
 obtain ⟨hp, mx, hm⟩ := h
 refine ⟨?_, mx, (hb.cell (World.block_lt_of_cell? w0 _ hm)).trans hm⟩
 unfold Lib.TabIs World.var? at hp ⊢
 have hg : Tryz.prog.globalNamed "internal/strconv.uint64pow10" = some 4 := by kernel_rfl
 rw [hg] at hp ⊢
 simp only [Option.bind_some] at hp ⊢
 have hlt : 4 < w0.heap.size := by
  rcases Nat.lt_or_ge 4 w0.heap.size with h' | h'
  ·exact h'
  ·rw [Array.getElem?_eq_none h'] at hp; cases hp
 rw [hb.block 4 hlt]
 exact hp
theorem ACalls.frameT {P : Program} {β : Base} {f args S} {v : Value} {Q : World → Prop} (hQ : ∀ w, Below β.w0.heap.size β.w0 w → Q w) (hG : ∀ g, (β.G g).sc 0 = true) (ha : scL 0 args = true)
  (h : ∀ w0, Q w0 → ACalls P ⟨w0, β.G⟩ f args [] fun e S' => e = .ret (.atom v) ∧ S' = []) :
  ACalls P β f args S fun e S' => e = .ret (.atom v) ∧ S' = S := by
 refine ⟨(h β.w0 (hQ _ (Below.refl _ _))).1, fun F m w vs hs hv => ?_⟩
 have hs0 : Sim ⟨w, β.G⟩ F (fun _ => none) [] w :=
  ⟨Below.refl _ _, fun g => (hs.glob g).cut (n := 0) (fun id p h => absurd h (by omega)) (hG g), hs.agree, fun id o h => by simp at h, fun id id' o o' p p' h => by simp at h, fun _ _ => rfl⟩
 have hv0 : RelL F (fun _ => none) args vs := ⟨hv.1, fun i hi => (hv.2 i hi).cut (n := 0) (fun id p h => absurd h (by omega)) (scL_get.1 ha i hi)⟩
 refine ((h w (hQ w hs.below)).2 F _ w vs hs0 hv0).mono fun e w' ⟨ae, F', m', S', he, hs', hrel, hR⟩ => ?_
 obtain ⟨rfl, rfl⟩ := hR
 have hb : Below w.heap.size w w' := hs'.below
 refine ⟨.ret (.atom v), F, m, S, Ext.refl F m, hs.more hb, ?_, rfl, rfl⟩
 cases e with
 | returned u => have := (show Rel F' m' (.atom v) u from hrel).atom_eq; subst this; exact .atom _
 | _ => exact hrel.elim
set_option maxHeartbeats 2000000 in
theorem w7z (hT : Tb w0) (S : Heap) : ACalls Tryz.prog (B0 w0) 7 [] S fun e S' => e = .ret (.bool true) ∧ S' = S := by
 refine ACalls.frameT (Q := Tb) (fun w hb => hT.below hb) (fun _ => rfl) rfl fun w0 hT => ?_
 refine ACalls.close (R := fun e S' => e = .ret (.bool true)) ?_ (fun e S' h => by subst h; exact .flat rfl rfl ⟨rfl, rfl⟩)
 have h12 := p12 hT
 have h8 := p8 hT
 have h10 := p10 hT
 have c1 : cF.length = 18 := rfl
 have c2 : cF.all AVal.one = true := rfl
 have x1 := show txz = [115, 101, 108, 101, 99, 116, 32, 97, 46, 120, 32, 44, 32, 45, 49, 43, 98, 42, 50, 32, 97, 115, 32, 99, 32, 102, 114, 111, 109, 32, 116, 32, 97, 115, 32, 97, 32, 106, 111, 105, 110, 32, 117, 32, 111, 110, 32, 110, 111, 116, 32, 120, 32, 105, 115, 32, 110, 117, 108, 108, 32, 111, 114, 100, 101, 114, 32, 98, 121, 32, 55, 46, 53, 48, 32, 100, 101, 115, 99] from rfl
 unfold hF at h8 h10
 rw [x1] at h12
 clear x1
 generalize cF = c at h12 h8 h10 c1 c2
 refine fn_sound tryOrd (f7_c _) (by simp [f7]) ?_
 simp [-appendR, f7, f7m]
 refine h12.use ?_
 rintro e S1 ⟨rfl, rfl⟩
 simp [-appendR, c1, c2]
 refine h8.use ?_
 rintro e S2 ⟨rfl, rfl⟩
 simp [-appendR, fmz, c1]
 refine h10.use ?_
 rintro e S3 ⟨rfl, rfl⟩
 simp
end Go.Abs
namespace Go.Abs
open Go Go.RowKit Go.Proofs Go.Lx Go.Pz
variable {w0 : World}
set_option maxHeartbeats 2000000 in
theorem w9 {st : Stm} (hm : Sm st) {c : List AVal} (hc : StV st c) (S : Heap) : ACalls Tryz.prog (B0 w0) 9 [.agg c] S fun e S' => e = .ret (.tuple [.str (showT st), .int (showC st)]) ∧ S' = S := by
 have h11 := fun S => w11 (w0 := w0) hm hc S
 have h15 := fun ho S => w15 (w0 := w0) ho (fun x hx => (hm.w x hx).1) hc S
 obtain ⟨fC, fN, fR, fI, fF, fO, fS, eR, eI, eF, ew, eO, eS, rfl, hw, hR, hI, hF, hO, hS⟩ := hc
 obtain ⟨fl', es', k', n', s', t', q', rfl⟩ := ExV_cells hw
 refine ACalls.close (R := fun e S' => e = .ret (.tuple [.str (showT st), .int (showC st)]) ∧ S'.take S.length = S) ?_ ?_
 rotate_left 1
 ·rintro e S' ⟨rfl, ht⟩
  exact .flat ht rfl ⟨rfl, rfl⟩
 refine fn_sound tryOrd (f9_c _) (by simp [f9]) ?_
 rw [f9, f9m, mwp_seq]
 simp [-mwp_seq]
 obtain ⟨H, hH⟩ : ∃ H, H = S ++ [AObj.cells 18 [[AVal.int st.kind, .str st.table, .str st.index, .list fC (pcolsC st.cols), .list fN (namesC st.names), .bool st.uniq, .list fR eR, .list fI eI, .list fF eF, .int (opOf st.wher), .list fl' es', .int k', .int n', .int s', .str t', .str q', .list fO eO, .list fS eS]] (some 1)] := ⟨_, rfl⟩
 have hg : H[S.length]? = some (.cells 18 [[AVal.int st.kind, .str st.table, .str st.index, .list fC (pcolsC st.cols), .list fN (namesC st.names), .bool st.uniq, .list fR eR, .list fI eI, .list fF eF, .int (opOf st.wher), .list fl' es', .int k', .int n', .int s', .str t', .str q', .list fO eO, .list fS eS]] (some 1)) := by rw [hH]; simp
 have ht : H.take S.length = S := by rw [hH]; simp
 rw [← hH]
 clear hH
 simp [hg]
 refine (h11 _).use ?_
 rintro e S1 ⟨rfl, rfl⟩
 by_cases h0 : checkS st = 0
 ·simp [h0, hg]
  refine (h15 (check_ok h0) _).use ?_
  rintro e S1 ⟨rfl, rfl⟩
  by_cases hl : (formS st).length ≤ 4000
  ·have hl' : ¬ (4000 : Int) < ((formS st).length : Int) := by omega
   simp [showT, showC, h0, hl, hl', ht]
  ·have hl' : (4000 : Int) < ((formS st).length : Int) := by omega
   simp [showT, showC, h0, hl, hl', ht]
 ·have b0 : (checkS st != 0) = true := by simpa using h0
  simp [h0, b0, showT, showC, ht]
set_option maxHeartbeats 8000000 in
theorem w3 (hT : Tb w0) {st : Stm} (hm : Sm st) {c : List AVal} (hc : StV st c) : ACalls Tryz.prog (B0 w0) 3 [.agg c] [] fun e S' => e = .ret (.bool true) := by
 have h8 := fun S => w8 hT hm hc S
 have h9 := fun S => w9 (w0 := w0) hm hc S
 have h10 := fun S => w10 hT hm hc S
 have h11 := fun S => w11 (w0 := w0) hm hc S
 obtain ⟨fC, fN, fR, fI, fF, fO, fS, eR, eI, eF, ew, eO, eS, rfl, hw, hR, hI, hF, hO, hS⟩ := hc
 obtain ⟨fl', es', k', n', s', t', q', rfl⟩ := ExV_cells hw
 refine fn_sound tryOrd (f3_c _) (by simp [f3]) ?_
 simp [-appendR, f3, f3m]
 refine (w7z hT _).use ?_
 rintro e S1 ⟨rfl, rfl⟩
 simp [-appendR]
 refine (h8 _).use ?_
 rintro e S1 ⟨rfl, rfl⟩
 simp [-appendR]
 refine (h9 _).use ?_
 rintro e S1 ⟨rfl, rfl⟩
 simp [-appendR]
 refine (h10 _).use ?_
 rintro e S1 ⟨rfl, rfl⟩
 simp [-appendR]
 refine (h11 _).use ?_
 rintro e S1 ⟨rfl, rfl⟩
 simp [-appendR]
end Go.Abs
namespace Go.Abs
open Go Go.RowKit Go.Proofs Go.Lx Go.Pz
variable {w0 : World} {B : Nat}
theorem wf64 {n : Int} (h : (Lit.int .i64 n).wf = true) : n ≤ 9223372036854775807 := by
 have := h
 simp only [Lit.wf, Bool.and_eq_true, decide_eq_true_eq] at this
 exact this.2
theorem okv_exi : ∀ (n : Nat) {av : List AVal}, szL av ≤ n → Okv Tryz.prog B 29 av → ∃ x : Ex, ExV x av ∧ x.w ≤ szL av ∧ inrE x = true := by
 intro n
 induction n using Nat.strongRecOn with
 | _ n ih =>
   intro av hn h
   obtain ⟨parts, rfl, hl, hp⟩ := h.at_struct Tryz.underlying29
   obtain ⟨p0, p1, p2, p3, p4, p5, p6, rfl⟩ : ∃ p0 p1 p2 p3 p4 p5 p6, parts = [p0, p1, p2, p3, p4, p5, p6] := by
    match parts, hl with
    | [a, b, c, d, e, f, g], _ => exact ⟨a, b, c, d, e, f, g, rfl⟩
   obtain ⟨op, rfl, _⟩ := (show Okv Tryz.prog B 3 p0 from hp 0 (by decide)).at_int Tryz.underlying3
   obtain ⟨v, es, rfl, hv, hes, _, _⟩ := (show Okv Tryz.prog B 27 p1 from hp 1 (by decide)).at_slice Tryz.underlying27
   obtain ⟨kind, rfl, _⟩ := (show Okv Tryz.prog B 3 p2 from hp 2 (by decide)).at_int Tryz.underlying3
   obtain ⟨num, rfl, hnum⟩ := (show Okv Tryz.prog B 2 p3 from hp 3 (by decide)).at_int Tryz.underlying2
   obtain ⟨scale, rfl, _⟩ := (show Okv Tryz.prog B 3 p4 from hp 4 (by decide)).at_int Tryz.underlying3
   obtain ⟨text, rfl, _⟩ := (show Okv Tryz.prog B 9 p5 from hp 5 (by decide)).at_str Tryz.underlying9
   obtain ⟨qual, rfl, _⟩ := (show Okv Tryz.prog B 9 p6 from hp 6 (by decide)).at_str Tryz.underlying9
   obtain ⟨fl, hv2⟩ : ∃ fl, v = .list fl es := by
    rcases hv with ⟨rfl, rfl⟩ | rfl
    ·exact ⟨.nil, rfl⟩
    ·exact ⟨.any, rfl⟩
   subst hv2
   have hsz : szL ([[AVal.int op], [.list fl es], [.int kind], [.int num], [.int scale], [.str text], [.str qual]] : List (List AVal)).flatten = 1 + szLL es := by simp [szL, szV]
   rw [show ([[.atom (.int .i64 op)], [.list fl es], [.atom (.int .i64 kind)], [.atom (.int .i64 num)], [.atom (.int .i64 scale)], [.str text], [.str qual]] : List (List AVal)).flatten = ([[AVal.int op], [.list fl es], [.int kind], [.int num], [.int scale], [.str text], [.str qual]] : List (List AVal)).flatten from rfl, hsz] at hn
   obtain ⟨xs, h1, h2⟩ := choose_list (p := fun i (x : Ex) => ExV x (es.getD i []) ∧ x.w ≤ szL (es.getD i []) ∧ inrE x = true) es.length fun i hi => by
    have := szLL_mem hi
    exact ih (szL (es.getD i [])) (by omega) (Nat.le_refl _) (hes i hi)
   refine ⟨.mk op xs kind num scale text qual, ?_, ?_, ?_⟩
   ·rw [ExV_mk]
    exact ⟨fl, es, rfl, ExsV_of h1.symm fun i hi => (h2 i hi).1⟩
   ·rw [w_mk]
    have := wL_sz h1.symm fun i hi => (h2 i hi).2.1
    show _ ≤ szL ([[AVal.int op], [.list fl es], [.int kind], [.int num], [.int scale], [.str text], [.str qual]] : List (List AVal)).flatten
    rw [hsz]; omega
   ·rw [inrE_mk, Bool.and_eq_true, decide_eq_true_eq]
    refine ⟨wf64 hnum, inrL_iff.2 fun y hy => ?_⟩
    obtain ⟨i, hi, rfl⟩ := List.getElem_of_mem hy
    exact (h2 i hi).2.2
theorem szLL_len : ∀ (es : List (List AVal)), es.length ≤ szLL es
 | [] => Nat.zero_le _
 | e :: r => by have := szLL_len r; simp only [szLL, List.length_cons]; omega
theorem okv_list {t e : TypeId} (hu : Tryz.prog.underlying t = some (.slice e)) {α : Type} {R : α → List AVal → Prop} (hR : ∀ av, Okv Tryz.prog B e av → ∃ x, R x av) {v : List AVal} (h : Okv Tryz.prog B t v) :
  ∃ fl es l, v = [.list fl es] ∧ Al R l es := by
 obtain ⟨u, es, rfl, hv, hes, _, _⟩ := h.at_slice hu
 obtain ⟨fl, hv2⟩ : ∃ fl, u = .list fl es := by
  rcases hv with ⟨rfl, rfl⟩ | rfl
  ·exact ⟨.nil, rfl⟩
  ·exact ⟨.any, rfl⟩
 obtain ⟨xs, h1, h2⟩ := choose_list (p := fun i (x : α) => R x (es.getD i [])) es.length fun i hi => hR _ (hes i hi)
 exact ⟨fl, es, xs, by rw [hv2], h1.symm, h2⟩
def ExS (x : Ex) (e : List AVal) : Prop := ExV x e ∧ x.w ≤ szL e ∧ inrE x = true
theorem okv_exs {av : List AVal} (h : Okv Tryz.prog B 29 av) : ∃ x, ExS x av := okv_exi (szL av) (Nat.le_refl _) h
def ItmS (x : Itm) (e : List AVal) : Prop := ∃ ev, ExS x.e ev ∧ e = ev ++ [.str x.name]
def SrcS (x : Src) (e : List AVal) : Prop := ∃ ev, ExS x.on ev ∧ e = .str x.table :: .str x.alias :: ev
def SrtS (x : Srt) (e : List AVal) : Prop := ∃ ev, ExS x.e ev ∧ e = ev ++ [.bool x.desc]
def AsnS (x : Asn) (e : List AVal) : Prop := ∃ ev, ExS x.e ev ∧ e = .str x.col :: ev
def RowS (r : List Ex) (e : List AVal) : Prop := ∃ fl es, e = [.list fl es] ∧ Al ExS r es
theorem okv_itm {av : List AVal} (h : Okv Tryz.prog B 48 av) : ∃ x, ItmS x av := by
 obtain ⟨parts, rfl, hl, hp⟩ := h.at_struct Tryz.underlying48
 obtain ⟨p0, p1, rfl⟩ : ∃ p0 p1, parts = [p0, p1] := by
  match parts, hl with
  | [a, b], _ => exact ⟨a, b, rfl⟩
 obtain ⟨x, hx⟩ := okv_exs (show Okv Tryz.prog B 29 p0 from hp 0 (by decide))
 obtain ⟨s, rfl, _⟩ := (show Okv Tryz.prog B 9 p1 from hp 1 (by decide)).at_str Tryz.underlying9
 exact ⟨⟨x, s⟩, p0, hx, by simp⟩
theorem okv_src {av : List AVal} (h : Okv Tryz.prog B 50 av) : ∃ x, SrcS x av := by
 obtain ⟨parts, rfl, hl, hp⟩ := h.at_struct Tryz.underlying50
 obtain ⟨p0, p1, p2, rfl⟩ : ∃ p0 p1 p2, parts = [p0, p1, p2] := by
  match parts, hl with
  | [a, b, c], _ => exact ⟨a, b, c, rfl⟩
 obtain ⟨s, rfl, _⟩ := (show Okv Tryz.prog B 9 p0 from hp 0 (by decide)).at_str Tryz.underlying9
 obtain ⟨s2, rfl, _⟩ := (show Okv Tryz.prog B 9 p1 from hp 1 (by decide)).at_str Tryz.underlying9
 obtain ⟨x, hx⟩ := okv_exs (show Okv Tryz.prog B 29 p2 from hp 2 (by decide))
 exact ⟨⟨s, s2, x⟩, p2, hx, by simp⟩
theorem okv_srt {av : List AVal} (h : Okv Tryz.prog B 93 av) : ∃ x, SrtS x av := by
 obtain ⟨parts, rfl, hl, hp⟩ := h.at_struct Tryz.underlying93
 obtain ⟨p0, p1, rfl⟩ : ∃ p0 p1, parts = [p0, p1] := by
  match parts, hl with
  | [a, b], _ => exact ⟨a, b, rfl⟩
 obtain ⟨x, hx⟩ := okv_exs (show Okv Tryz.prog B 29 p0 from hp 0 (by decide))
 obtain ⟨s, rfl⟩ := (show Okv Tryz.prog B 4 p1 from hp 1 (by decide)).at_bool Tryz.underlying4
 exact ⟨⟨x, s⟩, p0, hx, by simp⟩
theorem okv_asn {av : List AVal} (h : Okv Tryz.prog B 80 av) : ∃ x, AsnS x av := by
 obtain ⟨parts, rfl, hl, hp⟩ := h.at_struct Tryz.underlying80
 obtain ⟨p0, p1, rfl⟩ : ∃ p0 p1, parts = [p0, p1] := by
  match parts, hl with
  | [a, b], _ => exact ⟨a, b, rfl⟩
 obtain ⟨s, rfl, _⟩ := (show Okv Tryz.prog B 9 p0 from hp 0 (by decide)).at_str Tryz.underlying9
 obtain ⟨x, hx⟩ := okv_exs (show Okv Tryz.prog B 29 p1 from hp 1 (by decide))
 exact ⟨⟨s, x⟩, p1, hx, by simp⟩
theorem okv_row {av : List AVal} (h : Okv Tryz.prog B 27 av) : ∃ x, RowS x av := by
 obtain ⟨fl, es, l, rfl, hl⟩ := okv_list Tryz.underlying27 (fun av h => okv_exs h) h
 exact ⟨l, fl, es, rfl, hl⟩
theorem okv_col {av : List AVal} (h : Okv Tryz.prog B 69 av) : ∃ c : Pz.Col, av = pcolC c := by
 obtain ⟨parts, rfl, hl, hp⟩ := h.at_struct Tryz.underlying69
 obtain ⟨p0, p1, p2, rfl⟩ : ∃ p0 p1 p2, parts = [p0, p1, p2] := by
  match parts, hl with
  | [a, b, c], _ => exact ⟨a, b, c, rfl⟩
 obtain ⟨s, rfl, _⟩ := (show Okv Tryz.prog B 9 p0 from hp 0 (by decide)).at_str Tryz.underlying9
 obtain ⟨n, rfl, _⟩ := (show Okv Tryz.prog B 3 p1 from hp 1 (by decide)).at_int Tryz.underlying3
 obtain ⟨b, rfl⟩ := (show Okv Tryz.prog B 4 p2 from hp 2 (by decide)).at_bool Tryz.underlying4
 exact ⟨⟨s, n, b⟩, by simp [pcolC]⟩
theorem okv_name {av : List AVal} (h : Okv Tryz.prog B 9 av) : ∃ n : Bs, av = [.str n] := by
 obtain ⟨s, rfl, _⟩ := h.at_str Tryz.underlying9
 exact ⟨s, rfl⟩
theorem Al.imp {α : Type} {R R' : α → List AVal → Prop} (h : ∀ x e, R x e → R' x e) {l : List α} {es : List (List AVal)} (ha : Al R l es) : Al R' l es := ⟨ha.1, fun i hi => h _ _ (ha.2 i hi)⟩
theorem Al.eqMap {α : Type} {f : α → List AVal} : ∀ {l : List α} {es : List (List AVal)}, Al (fun x e => e = f x) l es → es = l.map f
 | [], es, h => by rw [h.empty]; rfl
 | x :: l, es, h => by
   obtain ⟨e, es2, rfl, h1, h2⟩ := h.uncons
   rw [h1, Al.eqMap h2]; rfl
theorem Al.memE {α : Type} {R : α → List AVal → Prop} {P : α → Nat → Prop} (hm : ∀ x e, R x e → P x (szL e)) (hle : ∀ x a b, a ≤ b → P x a → P x b) : ∀ {l : List α} {es : List (List AVal)}, Al R l es → ∀ x ∈ l, P x (szLL es)
 | [], es, h, x, hx => by cases hx
 | y :: l, es, h, x, hx => by
   obtain ⟨e, es2, rfl, h1, h2⟩ := h.uncons
   simp only [szLL]
   rcases List.mem_cons.1 hx with rfl | hx
   ·exact hle _ _ _ (by omega) (hm _ _ h1)
   ·exact hle _ _ _ (by omega) (Al.memE hm hle h2 x hx)
def Pw (x : Ex) (n : Nat) : Prop := x.w ≤ n ∧ inrE x = true
theorem pw_le (x : Ex) (a b : Nat) (h : a ≤ b) (hp : Pw x a) : Pw x b := ⟨Nat.le_trans hp.1 h, hp.2⟩
theorem itm_pw {l : List Itm} {es} (h : Al ItmS l es) : ∀ x ∈ l, Pw x.e (szLL es) := h.memE (P := fun (x : Itm) n => Pw x.e n) (fun x e ⟨ev, h1, h2⟩ => ⟨by subst h2; rw [szL_app]; have := h1.2.1; omega, h1.2.2⟩) (fun x => pw_le x.e)
theorem src_pw {l : List Src} {es} (h : Al SrcS l es) : ∀ x ∈ l, Pw x.on (szLL es) := h.memE (P := fun (x : Src) n => Pw x.on n) (fun x e ⟨ev, h1, h2⟩ => ⟨by subst h2; simp only [szL, szV]; have := h1.2.1; omega, h1.2.2⟩) (fun x => pw_le x.on)
theorem srt_pw {l : List Srt} {es} (h : Al SrtS l es) : ∀ x ∈ l, Pw x.e (szLL es) := h.memE (P := fun (x : Srt) n => Pw x.e n) (fun x e ⟨ev, h1, h2⟩ => ⟨by subst h2; rw [szL_app]; have := h1.2.1; omega, h1.2.2⟩) (fun x => pw_le x.e)
theorem asn_pw {l : List Asn} {es} (h : Al AsnS l es) : ∀ x ∈ l, Pw x.e (szLL es) := h.memE (P := fun (x : Asn) n => Pw x.e n) (fun x e ⟨ev, h1, h2⟩ => ⟨by subst h2; simp only [szL, szV]; have := h1.2.1; omega, h1.2.2⟩) (fun x => pw_le x.e)
theorem exs_pw {l : List Ex} {es} (h : Al ExS l es) : ∀ x ∈ l, Pw x (szLL es) := h.memE (fun x e h1 => ⟨h1.2.1, h1.2.2⟩) pw_le
theorem row_pw {l : List (List Ex)} {es} (h : Al RowS l es) : ∀ r ∈ l, ∀ x ∈ r, Pw x (szLL es) := h.memE (P := fun (r : List Ex) n => ∀ x ∈ r, Pw x n) (fun r e ⟨fl, es2, h1, h2⟩ x hx => by
 subst h1
 simp only [szL, szV]
 exact pw_le _ _ _ (by omega) (exs_pw h2 x hx)) (fun r a b hab hp x hx => pw_le _ _ _ hab (hp x hx))
theorem row_flat : ∀ {l : List (List Ex)} {es : List (List AVal)}, Al RowS l es → l.flatten.length ≤ szLL es
 | [], es, h => by simp
 | r :: l, es, h => by
   obtain ⟨e, es2, rfl, ⟨fl, es3, rfl, h1⟩, h2⟩ := h.uncons
   have := row_flat h2
   have h3 := h1.1
   have h4 := szLL_len es3
   rw [List.flatten_cons, List.length_append]
   simp only [szLL, szL, szV]; omega
theorem ExsV_al {l : List Ex} {es : List (List AVal)} (h : Al ExV l es) : ExsV l es := ExsV_of h.1 h.2
set_option maxHeartbeats 1000000 in
theorem okv_stm {c : List AVal} (h : Okv Tryz.prog B 33 c) (hz : szL c ≤ 2100000) : ∃ st, StV st c ∧ Sm st := by
 obtain ⟨parts, rfl, hl, hp⟩ := h.at_struct Tryz.underlying33
 obtain ⟨p0, p1, p2, p3, p4, p5, p6, p7, p8, p9, p10, p11, rfl⟩ : ∃ p0 p1 p2 p3 p4 p5 p6 p7 p8 p9 p10 p11, parts = [p0, p1, p2, p3, p4, p5, p6, p7, p8, p9, p10, p11] := by
  match parts, hl with
  | [a, b, c, d, e, f, g, h, i, j, k, l], _ => exact ⟨a, b, c, d, e, f, g, h, i, j, k, l, rfl⟩
 obtain ⟨kind, rfl, _⟩ := (show Okv Tryz.prog B 3 p0 from hp 0 (by decide)).at_int Tryz.underlying3
 obtain ⟨table, rfl, _⟩ := (show Okv Tryz.prog B 9 p1 from hp 1 (by decide)).at_str Tryz.underlying9
 obtain ⟨index, rfl, _⟩ := (show Okv Tryz.prog B 9 p2 from hp 2 (by decide)).at_str Tryz.underlying9
 obtain ⟨fC, eC, cols, rfl, hC⟩ := okv_list Tryz.underlying22 (R := fun (c : Pz.Col) e => e = pcolC c) (fun av h => okv_col h) (show Okv Tryz.prog B 22 p3 from hp 3 (by decide))
 obtain ⟨fN, eN, names, rfl, hN⟩ := okv_list Tryz.underlying23 (R := fun (n : Bs) e => e = [.str n]) (fun av h => okv_name h) (show Okv Tryz.prog B 23 p4 from hp 4 (by decide))
 obtain ⟨uniq, rfl⟩ := (show Okv Tryz.prog B 4 p5 from hp 5 (by decide)).at_bool Tryz.underlying4
 obtain ⟨fR, eR, rows, rfl, hR⟩ := okv_list Tryz.underlying24 (fun av h => okv_row h) (show Okv Tryz.prog B 24 p6 from hp 6 (by decide))
 obtain ⟨fI, eI, items, rfl, hI⟩ := okv_list Tryz.underlying25 (fun av h => okv_itm h) (show Okv Tryz.prog B 25 p7 from hp 7 (by decide))
 obtain ⟨fF, eF, src, rfl, hF⟩ := okv_list Tryz.underlying26 (fun av h => okv_src h) (show Okv Tryz.prog B 26 p8 from hp 8 (by decide))
 obtain ⟨wher, hW⟩ := okv_exs (show Okv Tryz.prog B 29 p9 from hp 9 (by decide))
 obtain ⟨fO, eO, order, rfl, hO⟩ := okv_list Tryz.underlying30 (fun av h => okv_srt h) (show Okv Tryz.prog B 30 p10 from hp 10 (by decide))
 obtain ⟨fS, eS, sets, rfl, hS⟩ := okv_list Tryz.underlying31 (fun av h => okv_asn h) (show Okv Tryz.prog B 31 p11 from hp 11 (by decide))
 have eCe : eC = pcolsC cols := hC.eqMap
 have eNe : eN = namesC names := hN.eqMap
 subst eCe eNe
 have e1 : ([[.atom (.int .i64 kind)], [.str table], [.str index], [.list fC (pcolsC cols)], [.list fN (namesC names)], [.bool uniq], [.list fR eR], [.list fI eI], [.list fF eF], p9, [.list fO eO], [.list fS eS]] : List (List AVal)).flatten = [.int kind, .str table, .str index, .list fC (pcolsC cols), .list fN (namesC names), .bool uniq, .list fR eR, .list fI eI, .list fF eF] ++ p9 ++ [.list fO eO, .list fS eS] := by simp
 have hz' : 1 + szLL (pcolsC cols) + (1 + szLL (namesC names)) + (1 + szLL eR) + (1 + szLL eI) + (1 + szLL eF) + szL p9 + (1 + szLL eO) + (1 + szLL eS) ≤ 2100000 := by
  have := hz
  rw [e1] at this
  simp only [szL_app, szL, szV] at this
  omega
 rw [e1]
 have z1 := szLL_len (pcolsC cols); have z2 := szLL_len (namesC names); have z3 := szLL_len eR; have z4 := szLL_len eI; have z5 := szLL_len eF; have z6 := szLL_len eO; have z7 := szLL_len eS
 have y3 := hR.1; have y4 := hI.1; have y5 := hF.1; have y6 := hO.1; have y7 := hS.1
 have y1 : (pcolsC cols).length = cols.length := by simp [pcolsC]
 have y2 : (namesC names).length = names.length := by simp [namesC]
 have fl := row_flat hR
 refine ⟨{ kind := kind, table := table, index := index, cols := cols, names := names, uniq := uniq, rows := rows, items := items, src := src, wher := wher, order := order, sets := sets },
  ⟨fC, fN, fR, fI, fF, fO, fS, eR, eI, eF, p9, eO, eS, rfl, hW.1, hR.imp (fun r e ⟨fl, es, h1, h2⟩ => ⟨fl, es, h1, ExsV_al (h2.imp fun x e h => h.1)⟩), hI.imp (fun x e ⟨ev, h1, h2⟩ => ⟨ev, h1.1, h2⟩), hF.imp (fun x e ⟨ev, h1, h2⟩ => ⟨ev, h1.1, h2⟩), hO.imp (fun x e ⟨ev, h1, h2⟩ => ⟨ev, h1.1, h2⟩), hS.imp (fun x e ⟨ev, h1, h2⟩ => ⟨ev, h1.1, h2⟩)⟩, ?_⟩
 refine ⟨by simp only; omega, by simp only; omega, by simp only; omega, by simp only; omega, by simp only; omega, by simp only; omega, by simp only; omega, ?_, fun x hx => ?_⟩
 ·simp only [exsS, List.length_cons, List.length_append, List.length_map]; omega
 ·have hp : ∀ {n : Nat}, n ≤ 2100000 → Pw x n → x.w ≤ 4000000 ∧ inrE x = true := fun hn h => ⟨by have := h.1; omega, h.2⟩
  simp only [exsS, List.mem_cons, List.mem_append, List.mem_map] at hx
  rcases hx with rfl | hx | ⟨y, hy, rfl⟩ | ⟨y, hy, rfl⟩ | ⟨y, hy, rfl⟩ | ⟨y, hy, rfl⟩
  ·exact hp (n := szL p9) (by omega) ⟨hW.2.1, hW.2.2⟩
  ·obtain ⟨r, hr, hx⟩ := List.mem_flatten.1 hx
   exact hp (by omega) (row_pw hR r hr x hx)
  ·exact hp (by omega) (itm_pw hI y hy)
  ·exact hp (by omega) (src_pw hF y hy)
  ·exact hp (by omega) (srt_pw hO y hy)
  ·exact hp (by omega) (asn_pw hS y hy)
def stTypes : List TypeId := [2, 3, 4, 9, 22, 23, 24, 25, 26, 27, 29, 30, 31, 33, 48, 50, 93, 80, 69]
set_option maxRecDepth 100000 in
theorem stTypes_closed : closedB Tryz.prog stTypes = true := by kernel_rfl
set_option maxRecDepth 100000 in
theorem arg_stm {H : Type} {enc : TypeId × Value → H} {W : World} {sp : Nat → Bool} {held : Bool} {r : Reach} {base : Nat} {v : Value} {d : DataW H} {p : List MemPlace} {Q : TypeId → DataW H → Prop} {μ : DataW H → Nat} (hB : Bulk μ) (hok : Value.okWide Tryz.prog W r base 33 v)
  (h : DataW.Trod enc Tryz.prog W 0 sp held 33 v d p) (hQ : Meas Tryz.prog B Q) (hw : Q 33 d) (hd : μ d ≤ 1048576) : ∃ (st : Stm) (av : List AVal), StV st av ∧ Sm st ∧ Rel (WF W) (fun _ => none) (.agg av) v := by
 obtain ⟨cs, rfl⟩ := agg_of_okWide Tryz.underlying33 hok
 obtain ⟨fuel, hf⟩ := h
 obtain ⟨av, hav, hrd, hz⟩ := read_all2 hB stTypes_closed hQ fuel (by simp [stTypes]) hf hw
 obtain ⟨st, h1, h2⟩ := okv_stm hav (by omega)
 exact ⟨st, av, h1, h2, hrd.agg⟩
end Go.Abs
