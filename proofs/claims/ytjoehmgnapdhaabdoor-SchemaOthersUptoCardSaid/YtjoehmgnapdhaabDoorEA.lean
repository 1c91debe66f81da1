/- Descriptions, run and read. Conditions: none; definitions and lemmas. -/
import Derived.Test.YtjoehmgnapdhaabDoorSA
import Derived.Test.YtjoehmgnapdhaabDoorF4
import Derived.Test.YtjoehmgnapdhaabDoorA35
import Derived.Test.YtjoehmgnapdhaabDoorA34
set_option linter.unusedSimpArgs false
set_option linter.unusedVariables false
namespace Go.Abs
open Go Go.RowKit Go.Proofs Go.Lx

def strs (L : List Bs) : List (List AVal) := L.map fun s => [.str s]
@[simp] theorem strs_len (L : List Bs) : (strs L).length = L.length := by simp [strs]
theorem strs_get (L : List Bs) (i : Nat) (h : i < L.length) : (strs L).getD i [] = [.str L[i]] := by
  rw [getD_eq _ _ _ (by simpa using h)]; simp [strs]
/-- The texts that a slice holds. -/
def textOf : List AVal → Option Bs
  | [.str s] => some s
  | _ => none
def textsOf : List (List AVal) → Option (List Bs)
  | [] => some []
  | e :: r => match textOf e, textsOf r with
    | some s, some l => some (s :: l)
    | _, _ => none
theorem textOf_eq {e : List AVal} {s : Bs} (h : textOf e = some s) : e = [.str s] := by
  unfold textOf at h
  split at h
  · simp only [Option.some.injEq] at h; rw [h]
  · cases h
theorem textsOf_eq : ∀ {es : List (List AVal)} {xs : List Bs}, textsOf es = some xs → es = strs xs
  | [], xs, h => by simp [textsOf] at h; subst h; rfl
  | e :: r, xs, h => by
    unfold textsOf at h
    split at h
    · rename_i s l h1 h2
      simp only [Option.some.injEq] at h
      subst h
      rw [textOf_eq h1, textsOf_eq h2]; rfl
    · cases h

/-- strings.Join. -/
theorem wJoin {β : Base} {S : Heap} {v : AVal} {xs : List Bs} {sep : Bs} (hv : elemsOf S v = some (true, strs xs)) (hN : xs.length ≤ 140737488355328) (hl : (Lib.join xs sep).length ≤ 140737488355328) :
    ACalls Tryd.prog β 21 [v, .str sep] S fun e S' => e = .ret (.str (Lib.join xs sep)) ∧ S' = S := by
  refine ACalls.liftS (by kernel_rfl) fun F m vs w hs hrel => ?_
  obtain ⟨u1, u2, rfl, h1, h2⟩ := vs_two hrel
  obtain rfl := h2.str_inv
  have hk : ∀ e ∈ strs xs, e.length = 1 := by simp [strs]
  obtain ⟨A, cap, rfl, hne⟩ := elems_at hs h1 hv hk
  have hle : (strs xs).length ≤ cap := by
    generalize (strs xs).length = n at h1
    cases h1 with
    | nil cap hc => simp
    | list _ _ _ _ _ _ _ _ _ _ _ hcap => exact hcap
    | row _ _ _ _ _ _ _ hl => exact hl
    | _ => exact absurd hv (by simp [elemsOf])
  by_cases h0 : xs = []
  · subst h0
    refine (Tryd.strings_Join_none A cap ⟨sep.toArray⟩ w).mono fun e w' ⟨he, hw⟩ => ?_
    subst hw
    exact ⟨_, he, Rel.str (F := F) (m := m) [], Below.refl _ _⟩
  · have hne' : strs xs ≠ [] := by intro h; exact h0 (List.map_eq_nil_iff.1 h)
    obtain ⟨b, x, rfl, hin⟩ := hne hne'
    have hcell : ∀ (j : Nat) (s : Bs), xs[j]? = some s → w.cell? ⟨b, x + j, none⟩ = some (.string ⟨s.toArray⟩) := fun j s hj => by
      have hjl : j < xs.length := by
        rcases Nat.lt_or_ge j xs.length with h | h
        · exact h
        · rw [List.getElem?_eq_none h] at hj; cases hj
      have hg : (strs xs).getD j [] = [.str s] := by
        rw [strs_get _ _ hjl]
        rw [List.getElem?_eq_getElem hjl] at hj
        simp only [Option.some.injEq] at hj
        rw [hj]
      have := hin j (by simpa using hjl)
      rw [hg] at this
      obtain ⟨u, hu, _, hr⟩ := this 0 (by simp)
      have hr' : Rel F m (.str s) u := hr
      obtain rfl := hr'.str_inv
      simpa using hu
    have hb : b < w.heap.size := by
      cases xs with
      | nil => exact absurd rfl h0
      | cons s r =>
        have := hcell 0 s rfl
        exact World.block_lt_of_cell? _ _ this
    have hmap : (xs.map fun s => (⟨s.toArray⟩ : ByteArray)).map (fun z => z.data.toList) = xs := by
      rw [List.map_map]
      exact (List.map_congr_left fun s _ => rfl).trans (List.map_id _)
    have hlen : (strs xs).length = (xs.map fun s => (⟨s.toArray⟩ : ByteArray)).length := by simp
    have := Tryd.strings_Join b x cap (xs.map fun s => (⟨s.toArray⟩ : ByteArray)) ⟨sep.toArray⟩ w (fun j z hj => by
      simp only [List.getElem?_map, Option.map_eq_some_iff] at hj
      obtain ⟨s, hs, rfl⟩ := hj
      exact hcell j s hs) hb (by simpa using hN) (by rw [← hlen]; exact hle) (by rw [hmap]; exact hl)
    rw [← hlen, hmap] at this
    refine this.mono fun e w' ⟨he, hw⟩ => ⟨_, he, Rel.str (F := F) (m := m) _, hw⟩

/-- The calls whose contracts are known. -/
def ext2 (f : FuncId) (args : List AVal) (S : Heap) : Option AVal :=
  match f, args with
  | 63, [.str l, .str [c]] => some (.int (Lib.countByte l c))
  | 85, [.str l, .atom (.int .u8 c)] => some (.int (Lib.indexByte l c.toNat.toUInt8))
  | 21, [v, .str sep] => match elemsOf S v with
    | some (true, es) => match textsOf es with
      | some xs => if xs.length ≤ 140737488355328 ∧ (Lib.join xs sep).length ≤ 140737488355328 then some (.str (Lib.join xs sep)) else none
      | none => none
    | _ => none
  | f, args => ext f args
theorem ext2_ok {β : Base} : ∀ f args S v, ext2 f args S = some v → ACalls Tryd.prog β f args S fun e S' => e = .ret v ∧ S' = S := by
  intro f args S v h
  unfold ext2 at h
  split at h
  · rename_i l c
    simp only [Option.some.injEq] at h
    subst h
    refine ACalls.lift (by kernel_rfl) fun F m vs w hv => ?_
    obtain ⟨u1, u2, rfl, h1, h2⟩ := vs_two hv
    obtain rfl := h1.str_inv
    obtain rfl := h2.str_inv
    refine (Tryd.strings_Count_one ⟨l.toArray⟩ c w).mono fun e w' ⟨he, hw⟩ => ?_
    subst hw
    exact ⟨_, he, .atom _, Below.refl _ _⟩
  · rename_i l c
    simp only [Option.some.injEq] at h
    subst h
    refine ACalls.lift (by kernel_rfl) fun F m vs w hv => ?_
    obtain ⟨u1, u2, rfl, h1, h2⟩ := vs_two hv
    obtain rfl := h1.str_inv
    obtain rfl := h2.int_inv
    refine (Tryd.stringslite_IndexByte ⟨l.toArray⟩ c w).mono fun e w' ⟨he, hw⟩ => ?_
    subst hw
    exact ⟨_, he, .atom _, Below.refl _ _⟩
  · rename_i v' sep
    split at h
    · rename_i es he
      split at h
      · rename_i xs hx
        split at h
        · rename_i hc
          simp only [Option.some.injEq] at h
          subst h
          have := textsOf_eq hx
          subst this
          exact wJoin he hc.1 hc.2
        · cases h
      · cases h
    · cases h
  · exact ext_ok f args v h S
def tb3 (G : Nat → AVal) : FuncId → Option AFn
  | 54 => some (f54 G)
  | 32 => some (f32 G)
  | 50 => some (f50 G)
  | 67 => some (f67 G)
  | 51 => some (f51 G)
  | 52 => some (f52 G)
  | 65 => some (f65 G)
  | 66 => some (f66 G)
  | 28 => some (f28 G)
  | 55 => some (f55 G)
  | 56 => some (f56 G)
  | 58 => some (f58 G)
  | 5 => some (f5 G)
  | 11 => some (f11 G)
  | 10 => some (f10 G)
  | 7 => some (f7 G)
  | 8 => some (f8 G)
  | 9 => some (f9 G)
  | 12 => some (f12 G)
  | 13 => some (f13 G)
  | 14 => some (f14 G)
  | 33 => some (f33 G)
  | 34 => some (f34 G)
  | 35 => some (f35 G)
  | 36 => some (f36 G)
  | 30 => some (f30 G)
  | 31 => some (f31 G)
  | 18 => some (f18 G)
  | 19 => some (f19 G)
  | 20 => some (f20 G)
  | 22 => some (f22 G)
  | 23 => some (f23 G)
  | 24 => some (f24 G)
  | 25 => some (f25 G)
  | 26 => some (f26 G)
  | 27 => some (f27 G)
  | 29 => some (f29 G)
  | 37 => some (f37 G)
  | 57 => some (f57 G)
  | 45 => some (f45 G)
  | 46 => some (f46 G)
  | 47 => some (f47 G)
  | 48 => some (f48 G)
  | 49 => some (f49 G)
  | 61 => some (f61 G)
  | 64 => some (f64 G)
  | 77 => some (f77 G)
  | _ => none
theorem tb3_c (G : Nat → AVal) : ∀ f fn, tb3 G f = some fn → ∃ rows, cmpFn Tryd.prog G rows f = some fn := by
  intro f fn h
  unfold tb3 at h
  split at h
  · simp only [Option.some.injEq] at h; rw [← h]; exact ⟨_, f54_c G⟩
  · simp only [Option.some.injEq] at h; rw [← h]; exact ⟨_, f32_c G⟩
  · simp only [Option.some.injEq] at h; rw [← h]; exact ⟨_, f50_c G⟩
  · simp only [Option.some.injEq] at h; rw [← h]; exact ⟨_, f67_c G⟩
  · simp only [Option.some.injEq] at h; rw [← h]; exact ⟨_, f51_c G⟩
  · simp only [Option.some.injEq] at h; rw [← h]; exact ⟨_, f52_c G⟩
  · simp only [Option.some.injEq] at h; rw [← h]; exact ⟨_, f65_c G⟩
  · simp only [Option.some.injEq] at h; rw [← h]; exact ⟨_, f66_c G⟩
  · simp only [Option.some.injEq] at h; rw [← h]; exact ⟨_, f28_c G⟩
  · simp only [Option.some.injEq] at h; rw [← h]; exact ⟨_, f55_c G⟩
  · simp only [Option.some.injEq] at h; rw [← h]; exact ⟨_, f56_c G⟩
  · simp only [Option.some.injEq] at h; rw [← h]; exact ⟨_, f58_c G⟩
  · simp only [Option.some.injEq] at h; rw [← h]; exact ⟨_, f5_c G⟩
  · simp only [Option.some.injEq] at h; rw [← h]; exact ⟨_, f11_c G⟩
  · simp only [Option.some.injEq] at h; rw [← h]; exact ⟨_, f10_c G⟩
  · simp only [Option.some.injEq] at h; rw [← h]; exact ⟨_, f7_c G⟩
  · simp only [Option.some.injEq] at h; rw [← h]; exact ⟨_, f8_c G⟩
  · simp only [Option.some.injEq] at h; rw [← h]; exact ⟨_, f9_c G⟩
  · simp only [Option.some.injEq] at h; rw [← h]; exact ⟨_, f12_c G⟩
  · simp only [Option.some.injEq] at h; rw [← h]; exact ⟨_, f13_c G⟩
  · simp only [Option.some.injEq] at h; rw [← h]; exact ⟨_, f14_c G⟩
  · simp only [Option.some.injEq] at h; rw [← h]; exact ⟨_, f33_c G⟩
  · simp only [Option.some.injEq] at h; rw [← h]; exact ⟨_, f34_c G⟩
  · simp only [Option.some.injEq] at h; rw [← h]; exact ⟨_, f35_c G⟩
  · simp only [Option.some.injEq] at h; rw [← h]; exact ⟨_, f36_c G⟩
  · simp only [Option.some.injEq] at h; rw [← h]; exact ⟨_, f30_c G⟩
  · simp only [Option.some.injEq] at h; rw [← h]; exact ⟨_, f31_c G⟩
  · simp only [Option.some.injEq] at h; rw [← h]; exact ⟨_, f18_c G⟩
  · simp only [Option.some.injEq] at h; rw [← h]; exact ⟨_, f19_c G⟩
  · simp only [Option.some.injEq] at h; rw [← h]; exact ⟨_, f20_c G⟩
  · simp only [Option.some.injEq] at h; rw [← h]; exact ⟨_, f22_c G⟩
  · simp only [Option.some.injEq] at h; rw [← h]; exact ⟨_, f23_c G⟩
  · simp only [Option.some.injEq] at h; rw [← h]; exact ⟨_, f24_c G⟩
  · simp only [Option.some.injEq] at h; rw [← h]; exact ⟨_, f25_c G⟩
  · simp only [Option.some.injEq] at h; rw [← h]; exact ⟨_, f26_c G⟩
  · simp only [Option.some.injEq] at h; rw [← h]; exact ⟨_, f27_c G⟩
  · simp only [Option.some.injEq] at h; rw [← h]; exact ⟨_, f29_c G⟩
  · simp only [Option.some.injEq] at h; rw [← h]; exact ⟨_, f37_c G⟩
  · simp only [Option.some.injEq] at h; rw [← h]; exact ⟨_, f57_c G⟩
  · simp only [Option.some.injEq] at h; rw [← h]; exact ⟨_, f45_c G⟩
  · simp only [Option.some.injEq] at h; rw [← h]; exact ⟨_, f46_c G⟩
  · simp only [Option.some.injEq] at h; rw [← h]; exact ⟨_, f47_c G⟩
  · simp only [Option.some.injEq] at h; rw [← h]; exact ⟨_, f48_c G⟩
  · simp only [Option.some.injEq] at h; rw [← h]; exact ⟨_, f49_c G⟩
  · simp only [Option.some.injEq] at h; rw [← h]; exact ⟨_, f61_c G⟩
  · simp only [Option.some.injEq] at h; rw [← h]; exact ⟨_, f64_c G⟩
  · simp only [Option.some.injEq] at h; rw [← h]; exact ⟨_, f77_c G⟩
  · cases h

set_option maxRecDepth 100000 in
theorem speaks5 (w0 : World) (S : Heap) : ACalls Tryd.prog (B0 w0) 5 [] S fun e S' => e = .ret (.bool true) ∧ S' = S :=
  ACalls.frameV (fun _ => rfl) rfl rfl fun w1 => callZ_sound tryOrd ext2_ok (tb3_c _) 60 5 [] [] _ (gives_eq (by kernel_rfl : gives (callZ ext2 (tb3 fun _ => .top) 60 5 [] []) (.bool true) = true)) _ (fun o ho => by
    rw [List.mem_singleton.1 ho]; exact ⟨rfl, rfl⟩)
end Go.Abs
set_option linter.unusedSimpArgs false
set_option linter.unusedVariables false
namespace Go.Abs
open Go Go.RowKit Go.Proofs Go.Lx

theorem reach_val : reachBytes = 140737488351232 := rfl
variable {B : Nat}
theorem okv_col {av : List AVal} (h : Okv Tryd.prog B 39 av) : ∃ c : Col, av = colC c ∧ c.name.length ≤ B := by
  obtain ⟨parts, rfl, hl, hp⟩ := h.at_struct Tryd.underlying39
  obtain ⟨p0, p1, p2, rfl⟩ : ∃ p0 p1 p2, parts = [p0, p1, p2] := by
    match parts, hl with
    | [a, b, c], _ => exact ⟨a, b, c, rfl⟩
  obtain ⟨s, rfl, hs⟩ := (show Okv Tryd.prog B 9 p0 from hp 0 (by decide)).at_str Tryd.underlying9
  obtain ⟨n, rfl, _⟩ := (show Okv Tryd.prog B 3 p1 from hp 1 (by decide)).at_int Tryd.underlying3
  obtain ⟨b, rfl⟩ := (show Okv Tryd.prog B 4 p2 from hp 2 (by decide)).at_bool Tryd.underlying4
  exact ⟨⟨s, n, b⟩, rfl, hs⟩

theorem bytes3 : Tryd.prog.bytesOf 3 = 8 := by kernel_rfl
theorem bytes58 : Tryd.prog.bytesOf 39 = 32 := by kernel_rfl
theorem bytes61 : Tryd.prog.bytesOf 42 = 48 := by kernel_rfl

theorem okv_int {av : List AVal} (h : Okv Tryd.prog B 3 av) : ∃ n : Int, av = [.int n] := by
  obtain ⟨n, h, _⟩ := h.at_int Tryd.underlying3
  exact ⟨n, h⟩

theorem rs_any {k : Nat} {S : Heap} {v : AVal} {es : List (List AVal)} (h : v = .nilS ∧ es = [] ∨ v = .list .any es) : Rs k S v es := by
  rcases h with ⟨rfl, rfl⟩ | rfl
  · exact ⟨.nils, fun h => absurd rfl h⟩
  · exact ⟨.list _ _, fun _ => rfl⟩

theorem okv_idx {av : List AVal} (h : Okv Tryd.prog B 42 av) : ∃ x : Idx, IdxV [] x av ∧ x.cols.length * 8 ≤ 140737488351232 ∧ x.name.length ≤ B ∧ x.cols.length ≤ B := by
  obtain ⟨parts, rfl, hl, hp⟩ := h.at_struct Tryd.underlying42
  obtain ⟨p0, p1, p2, rfl⟩ : ∃ p0 p1 p2, parts = [p0, p1, p2] := by
    match parts, hl with
    | [a, b, c], _ => exact ⟨a, b, c, rfl⟩
  obtain ⟨s, rfl, hs⟩ := (show Okv Tryd.prog B 9 p0 from hp 0 (by decide)).at_str Tryd.underlying9
  obtain ⟨v, es, rfl, hv, hes, hb, hB⟩ := (show Okv Tryd.prog B 40 p1 from hp 1 (by decide)).at_slice Tryd.underlying40
  obtain ⟨b, rfl⟩ := (show Okv Tryd.prog B 4 p2 from hp 2 (by decide)).at_bool Tryd.underlying4
  obtain ⟨ns, rfl⟩ := choose_map (f := fun n : Int => [.int n]) fun i hi => okv_int (hes i hi)
  rw [bytes3, reach_val] at hb
  exact ⟨⟨s, ns, b⟩, ⟨v, rfl, rs_any hv⟩, by simpa using hb, hs, by simpa using hB⟩

/-- Bounds of a description. -/
structure BdT (B : Nat) (T : Tbl) : Prop where
  name : T.name.length ≤ B
  cols : T.cols.length ≤ B
  idxs : T.idxs.length ≤ B
  cname : ∀ c ∈ T.cols, c.name.length ≤ B
  iname : ∀ x ∈ T.idxs, x.name.length ≤ B
  icols : ∀ x ∈ T.idxs, x.cols.length ≤ B

theorem okv_tbl {av : List AVal} (h : Okv Tryd.prog B 25 av) : ∃ T : Tbl, TblV [] T av ∧ SzT T ∧ BdT B T := by
  obtain ⟨parts, rfl, hl, hp⟩ := h.at_struct Tryd.underlying25
  obtain ⟨p0, p1, p2, rfl⟩ : ∃ p0 p1 p2, parts = [p0, p1, p2] := by
    match parts, hl with
    | [a, b, c], _ => exact ⟨a, b, c, rfl⟩
  obtain ⟨s, rfl, hs⟩ := (show Okv Tryd.prog B 9 p0 from hp 0 (by decide)).at_str Tryd.underlying9
  obtain ⟨v, es, rfl, hv, hes, hb, hB⟩ := (show Okv Tryd.prog B 22 p1 from hp 1 (by decide)).at_slice Tryd.underlying22
  obtain ⟨v', es', rfl, hv', hes', hb', hB'⟩ := (show Okv Tryd.prog B 23 p2 from hp 2 (by decide)).at_slice Tryd.underlying23
  obtain ⟨cs, hcl, hcs⟩ := choose_list (p := fun i (c : Col) => es.getD i [] = colC c ∧ c.name.length ≤ B) es.length fun i hi => okv_col (hes i hi)
  have hes2 : es = colsC cs := List.ext_getElem (by simp [hcl]) fun i hi hi' => by
    have := (hcs i (by omega)).1
    rw [getD_eq _ _ _ hi] at this
    rw [this]; simp [colsC]
  subst hes2
  obtain ⟨xs, hxl, hxs⟩ := choose_list (p := fun i (x : Idx) => IdxV [] x (es'.getD i []) ∧ x.cols.length * 8 ≤ 140737488351232 ∧ x.name.length ≤ B ∧ x.cols.length ≤ B) es'.length fun i hi => okv_idx (hes' i hi)
  rw [bytes58, reach_val] at hb
  rw [bytes61, reach_val] at hb'
  have hX : ∀ x ∈ xs, x.cols.length * 8 ≤ 140737488351232 ∧ x.name.length ≤ B ∧ x.cols.length ≤ B := fun x hx => by
    obtain ⟨i, hi, rfl⟩ := List.getElem_of_mem hx
    exact (hxs i hi).2
  refine ⟨⟨s, cs, xs⟩, ⟨v, v', es', rfl, rs_any hv, rs_any hv', hxl.symm, fun i hi => (hxs i hi).1⟩, ⟨by simpa using hb, by rw [hxl]; exact hb', fun x hx => (hX x hx).1⟩, ⟨hs, by simpa using hB, by rw [hxl]; exact hB', fun c hc => ?_, fun x hx => (hX x hx).2.1, fun x hx => (hX x hx).2.2⟩⟩
  obtain ⟨i, hi, rfl⟩ := List.getElem_of_mem hc
  exact (hcs i hi).2

def tblTypes : List TypeId := [3, 4, 9, 22, 23, 25, 39, 40, 42]
theorem tblTypes_closed : closedB Tryd.prog tblTypes = true := by kernel_rfl

set_option maxRecDepth 100000 in
/-- An argument that is a description. -/
theorem arg_tbl {H : Type} {enc : TypeId × Value → H} {W : World} {sp : Nat → Bool} {held : Bool} {r : Reach} {base : Nat} {v : Value} {d : DataW H} {p : List MemPlace} {Q : TypeId → DataW H → Prop} (hok : Value.okWide Tryd.prog W r base 25 v)
    (h : DataW.Trod enc Tryd.prog W 0 sp held 25 v d p) (hQ : Meas Tryd.prog B Q) (hw : Q 25 d) : ∃ (T : Tbl) (av : List AVal), TblV [] T av ∧ SzT T ∧ BdT B T ∧ Rel (WF W) (fun _ => none) (.agg av) v := by
  obtain ⟨cs, rfl⟩ := agg_of_okWide Tryd.underlying25 hok
  obtain ⟨fuel, hf⟩ := h
  obtain ⟨av, hav, hrd⟩ := read_all tblTypes_closed hQ fuel (by simp [tblTypes]) hf hw
  obtain ⟨T, h1, h2, h3⟩ := okv_tbl hav
  exact ⟨T, av, h1, h2, h3, hrd.agg⟩
end Go.Abs
