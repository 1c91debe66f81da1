/- Descriptions: the document's example runs; the walk of SchemaChecks; a reading of a description. Conditions: none but the lengths; definitions and lemmas. -/
import Derived.Test.YtjoehmgnapdhaaaDoorSA
import Derived.Test.YtjoehmgnapdhaaaDoorF4
import Derived.Test.YtjoehmgnapdhaaaDoorV2
import Derived.Test.YtjoehmgnapdhaaaDoorA35
import Derived.Test.YtjoehmgnapdhaaaDoorA34
set_option linter.unusedSimpArgs false
set_option linter.unusedVariables false
namespace Go.Abs
open Go Go.RowKit Go.Proofs Go.Lx

/-- The texts that a slice holds. -/
def textOf : List AVal → Option Bs
  | [.str s] => some s
  | _ => none
def textsOf : List (List AVal) → Option (List Bs)
  | [] => some []
  | e :: r => match textOf e, textsOf r with
    | some s, some l => some (s :: l)
    | _, _ => none
theorem textOf_eq {e : List AVal} {s : Bs} (h : textOf e = some s) : e = [.str s] := by
  unfold textOf at h
  split at h
  · simp only [Option.some.injEq] at h; rw [h]
  · cases h
theorem textsOf_eq : ∀ {es : List (List AVal)} {xs : List Bs}, textsOf es = some xs → es = strs xs
  | [], xs, h => by simp [textsOf] at h; subst h; rfl
  | e :: r, xs, h => by
    unfold textsOf at h
    split at h
    · rename_i s l h1 h2
      simp only [Option.some.injEq] at h
      subst h
      rw [textOf_eq h1, textsOf_eq h2]; rfl
    · cases h

/-- strings.Join. -/
theorem wJoin {β : Base} {S : Heap} {v : AVal} {xs : List Bs} {sep : Bs} (hv : elemsOf S v = some (true, strs xs)) (hN : xs.length ≤ 140737488355328) (hl : (Lib.join xs sep).length ≤ 140737488355328) :
    ACalls Tryd.prog β 75 [v, .str sep] S fun e S' => e = .ret (.str (Lib.join xs sep)) ∧ S' = S := by
  refine ACalls.liftS (by kernel_rfl) fun F m vs w hs hrel => ?_
  obtain ⟨u1, u2, rfl, h1, h2⟩ := vs_two hrel
  obtain rfl := h2.str_inv
  have hk : ∀ e ∈ strs xs, e.length = 1 := by simp [strs]
  obtain ⟨A, cap, rfl, hne⟩ := elems_at hs h1 hv hk
  have hle : (strs xs).length ≤ cap := by
    generalize (strs xs).length = n at h1
    cases h1 with
    | nil cap hc => simp
    | list _ _ _ _ _ _ _ _ _ _ _ hcap => exact hcap
    | row _ _ _ _ _ _ _ hl => exact hl
    | _ => exact absurd hv (by simp [elemsOf])
  by_cases h0 : xs = []
  · subst h0
    refine (Tryd.strings_Join_none A cap ⟨sep.toArray⟩ w).mono fun e w' ⟨he, hw⟩ => ?_
    subst hw
    exact ⟨_, he, Rel.str (F := F) (m := m) [], Below.refl _ _⟩
  · have hne' : strs xs ≠ [] := by intro h; exact h0 (List.map_eq_nil_iff.1 h)
    obtain ⟨b, x, rfl, hin⟩ := hne hne'
    have hcell : ∀ (j : Nat) (s : Bs), xs[j]? = some s → w.cell? ⟨b, x + j, none⟩ = some (.string ⟨s.toArray⟩) := fun j s hj => by
      have hjl : j < xs.length := by
        rcases Nat.lt_or_ge j xs.length with h | h
        · exact h
        · rw [List.getElem?_eq_none h] at hj; cases hj
      have hg : (strs xs).getD j [] = [.str s] := by
        rw [strs_get _ _ hjl]
        rw [List.getElem?_eq_getElem hjl] at hj
        simp only [Option.some.injEq] at hj
        rw [hj]
      have := hin j (by simpa using hjl)
      rw [hg] at this
      obtain ⟨u, hu, _, hr⟩ := this 0 (by simp)
      have hr' : Rel F m (.str s) u := hr
      obtain rfl := hr'.str_inv
      simpa using hu
    have hb : b < w.heap.size := by
      cases xs with
      | nil => exact absurd rfl h0
      | cons s r =>
        have := hcell 0 s rfl
        exact World.block_lt_of_cell? _ _ this
    have hmap : (xs.map fun s => (⟨s.toArray⟩ : ByteArray)).map (fun z => z.data.toList) = xs := by
      rw [List.map_map]
      exact (List.map_congr_left fun s _ => rfl).trans (List.map_id _)
    have hlen : (strs xs).length = (xs.map fun s => (⟨s.toArray⟩ : ByteArray)).length := by simp
    have := Tryd.strings_Join b x cap (xs.map fun s => (⟨s.toArray⟩ : ByteArray)) ⟨sep.toArray⟩ w (fun j z hj => by
      simp only [List.getElem?_map, Option.map_eq_some_iff] at hj
      obtain ⟨s, hs, rfl⟩ := hj
      exact hcell j s hs) hb (by simpa using hN) (by rw [← hlen]; exact hle) (by rw [hmap]; exact hl)
    rw [← hlen, hmap] at this
    refine this.mono fun e w' ⟨he, hw⟩ => ⟨_, he, Rel.str (F := F) (m := m) _, hw⟩

/-- The calls whose contracts are known. -/
def ext2 (f : FuncId) (args : List AVal) (S : Heap) : Option AVal :=
  match f, args with
  | 114, [.str l, .str [c]] => some (.int (Lib.countByte l c))
  | 92, [.str l, .atom (.int .u8 c)] => some (.int (Lib.indexByte l c.toNat.toUInt8))
  | 75, [v, .str sep] => match elemsOf S v with
    | some (true, es) => match textsOf es with
      | some xs => if xs.length ≤ 140737488355328 ∧ (Lib.join xs sep).length ≤ 140737488355328 then some (.str (Lib.join xs sep)) else none
      | none => none
    | _ => none
  | f, args => ext f args
theorem ext2_ok {β : Base} : ∀ f args S v, ext2 f args S = some v → ACalls Tryd.prog β f args S fun e S' => e = .ret v ∧ S' = S := by
  intro f args S v h
  unfold ext2 at h
  split at h
  · rename_i l c
    simp only [Option.some.injEq] at h
    subst h
    refine ACalls.lift (by kernel_rfl) fun F m vs w hv => ?_
    obtain ⟨u1, u2, rfl, h1, h2⟩ := vs_two hv
    obtain rfl := h1.str_inv
    obtain rfl := h2.str_inv
    refine (Tryd.strings_Count_one ⟨l.toArray⟩ c w).mono fun e w' ⟨he, hw⟩ => ?_
    subst hw
    exact ⟨_, he, .atom _, Below.refl _ _⟩
  · rename_i l c
    simp only [Option.some.injEq] at h
    subst h
    refine ACalls.lift (by kernel_rfl) fun F m vs w hv => ?_
    obtain ⟨u1, u2, rfl, h1, h2⟩ := vs_two hv
    obtain rfl := h1.str_inv
    obtain rfl := h2.int_inv
    refine (Tryd.stringslite_IndexByte ⟨l.toArray⟩ c w).mono fun e w' ⟨he, hw⟩ => ?_
    subst hw
    exact ⟨_, he, .atom _, Below.refl _ _⟩
  · rename_i v' sep
    split at h
    · rename_i es he
      split at h
      · rename_i xs hx
        split at h
        · rename_i hc
          simp only [Option.some.injEq] at h
          subst h
          have := textsOf_eq hx
          subst this
          exact wJoin he hc.1 hc.2
        · cases h
      · cases h
    · cases h
  · exact ext_ok f args v h S
def tb3 (G : Nat → AVal) : FuncId → Option AFn
  | 13 => some (f13 G)
  | 15 => some (f15 G)
  | 25 => some (f25 G)
  | 27 => some (f27 G)
  | 31 => some (f31 G)
  | 32 => some (f32 G)
  | 64 => some (f64 G)
  | 65 => some (f65 G)
  | 82 => some (f82 G)
  | 85 => some (f85 G)
  | 86 => some (f86 G)
  | 88 => some (f88 G)
  | 18 => some (f18 G)
  | 20 => some (f20 G)
  | 22 => some (f22 G)
  | 38 => some (f38 G)
  | 39 => some (f39 G)
  | 40 => some (f40 G)
  | 41 => some (f41 G)
  | 42 => some (f42 G)
  | 43 => some (f43 G)
  | 45 => some (f45 G)
  | 46 => some (f46 G)
  | 47 => some (f47 G)
  | 48 => some (f48 G)
  | 51 => some (f51 G)
  | 52 => some (f52 G)
  | 72 => some (f72 G)
  | 73 => some (f73 G)
  | 74 => some (f74 G)
  | 76 => some (f76 G)
  | 77 => some (f77 G)
  | 78 => some (f78 G)
  | 79 => some (f79 G)
  | 80 => some (f80 G)
  | 81 => some (f81 G)
  | 83 => some (f83 G)
  | 84 => some (f84 G)
  | 87 => some (f87 G)
  | 100 => some (f100 G)
  | 101 => some (f101 G)
  | 102 => some (f102 G)
  | 103 => some (f103 G)
  | 104 => some (f104 G)
  | 112 => some (f112 G)
  | 115 => some (f115 G)
  | 125 => some (f125 G)
  | _ => none
theorem tb3_c (G : Nat → AVal) : ∀ f fn, tb3 G f = some fn → ∃ rows, cmpFn Tryd.prog G rows f = some fn := by
  intro f fn h
  unfold tb3 at h
  split at h
  · simp only [Option.some.injEq] at h; rw [← h]; exact ⟨_, f13_c G⟩
  · simp only [Option.some.injEq] at h; rw [← h]; exact ⟨_, f15_c G⟩
  · simp only [Option.some.injEq] at h; rw [← h]; exact ⟨_, f25_c G⟩
  · simp only [Option.some.injEq] at h; rw [← h]; exact ⟨_, f27_c G⟩
  · simp only [Option.some.injEq] at h; rw [← h]; exact ⟨_, f31_c G⟩
  · simp only [Option.some.injEq] at h; rw [← h]; exact ⟨_, f32_c G⟩
  · simp only [Option.some.injEq] at h; rw [← h]; exact ⟨_, f64_c G⟩
  · simp only [Option.some.injEq] at h; rw [← h]; exact ⟨_, f65_c G⟩
  · simp only [Option.some.injEq] at h; rw [← h]; exact ⟨_, f82_c G⟩
  · simp only [Option.some.injEq] at h; rw [← h]; exact ⟨_, f85_c G⟩
  · simp only [Option.some.injEq] at h; rw [← h]; exact ⟨_, f86_c G⟩
  · simp only [Option.some.injEq] at h; rw [← h]; exact ⟨_, f88_c G⟩
  · simp only [Option.some.injEq] at h; rw [← h]; exact ⟨_, f18_c G⟩
  · simp only [Option.some.injEq] at h; rw [← h]; exact ⟨_, f20_c G⟩
  · simp only [Option.some.injEq] at h; rw [← h]; exact ⟨_, f22_c G⟩
  · simp only [Option.some.injEq] at h; rw [← h]; exact ⟨_, f38_c G⟩
  · simp only [Option.some.injEq] at h; rw [← h]; exact ⟨_, f39_c G⟩
  · simp only [Option.some.injEq] at h; rw [← h]; exact ⟨_, f40_c G⟩
  · simp only [Option.some.injEq] at h; rw [← h]; exact ⟨_, f41_c G⟩
  · simp only [Option.some.injEq] at h; rw [← h]; exact ⟨_, f42_c G⟩
  · simp only [Option.some.injEq] at h; rw [← h]; exact ⟨_, f43_c G⟩
  · simp only [Option.some.injEq] at h; rw [← h]; exact ⟨_, f45_c G⟩
  · simp only [Option.some.injEq] at h; rw [← h]; exact ⟨_, f46_c G⟩
  · simp only [Option.some.injEq] at h; rw [← h]; exact ⟨_, f47_c G⟩
  · simp only [Option.some.injEq] at h; rw [← h]; exact ⟨_, f48_c G⟩
  · simp only [Option.some.injEq] at h; rw [← h]; exact ⟨_, f51_c G⟩
  · simp only [Option.some.injEq] at h; rw [← h]; exact ⟨_, f52_c G⟩
  · simp only [Option.some.injEq] at h; rw [← h]; exact ⟨_, f72_c G⟩
  · simp only [Option.some.injEq] at h; rw [← h]; exact ⟨_, f73_c G⟩
  · simp only [Option.some.injEq] at h; rw [← h]; exact ⟨_, f74_c G⟩
  · simp only [Option.some.injEq] at h; rw [← h]; exact ⟨_, f76_c G⟩
  · simp only [Option.some.injEq] at h; rw [← h]; exact ⟨_, f77_c G⟩
  · simp only [Option.some.injEq] at h; rw [← h]; exact ⟨_, f78_c G⟩
  · simp only [Option.some.injEq] at h; rw [← h]; exact ⟨_, f79_c G⟩
  · simp only [Option.some.injEq] at h; rw [← h]; exact ⟨_, f80_c G⟩
  · simp only [Option.some.injEq] at h; rw [← h]; exact ⟨_, f81_c G⟩
  · simp only [Option.some.injEq] at h; rw [← h]; exact ⟨_, f83_c G⟩
  · simp only [Option.some.injEq] at h; rw [← h]; exact ⟨_, f84_c G⟩
  · simp only [Option.some.injEq] at h; rw [← h]; exact ⟨_, f87_c G⟩
  · simp only [Option.some.injEq] at h; rw [← h]; exact ⟨_, f100_c G⟩
  · simp only [Option.some.injEq] at h; rw [← h]; exact ⟨_, f101_c G⟩
  · simp only [Option.some.injEq] at h; rw [← h]; exact ⟨_, f102_c G⟩
  · simp only [Option.some.injEq] at h; rw [← h]; exact ⟨_, f103_c G⟩
  · simp only [Option.some.injEq] at h; rw [← h]; exact ⟨_, f104_c G⟩
  · simp only [Option.some.injEq] at h; rw [← h]; exact ⟨_, f112_c G⟩
  · simp only [Option.some.injEq] at h; rw [← h]; exact ⟨_, f115_c G⟩
  · simp only [Option.some.injEq] at h; rw [← h]; exact ⟨_, f125_c G⟩
  · cases h

set_option maxRecDepth 100000 in
theorem speaks18 (w0 : World) (S : Heap) : ACalls Tryd.prog (B0 w0) 18 [] S fun e S' => e = .ret (.bool true) ∧ S' = S :=
  ACalls.frameV (fun _ => rfl) rfl rfl fun w1 => callZ_sound tryOrd ext2_ok (tb3_c _) 60 18 [] [] _ (gives_eq (by kernel_rfl : gives (callZ ext2 (tb3 fun _ => .top) 60 18 [] []) (.bool true) = true)) _ (fun o ho => by
    rw [List.mem_singleton.1 ho]; exact ⟨rfl, rfl⟩)
end Go.Abs
set_option linter.unusedSimpArgs false
set_option linter.unusedVariables false
namespace Go.Abs
open Go Go.RowKit Go.Proofs Go.Lx
variable {w0 : World}

theorem TblV.ones {S T av} (h : TblV S T av) : ∃ a b c, av = [a, b, c] ∧ a.one = true ∧ b.one = true ∧ c.one = true := by
  obtain ⟨vc, vi, es, rfl, h1, h2, _⟩ := h
  exact ⟨_, _, _, rfl, rfl, h1.rk.isOne, h2.rk.isOne⟩

/-- SchemaChecks. -/
theorem w8 {T : Tbl} {av : List AVal} (ht : TblV [] T av) (hz : SzT T) : ACalls Tryd.prog (B0 w0) 8 [.agg av] [] fun e _ => e = .ret (.bool true) := by
  obtain ⟨a, b, c, rfl, o1, o2, o3⟩ := ht.ones
  have ht1 : TblV [AObj.cells 3 [[a, b, c]] (some 1)] T [a, b, c] := (Ab.start [] [AObj.cells 3 [[a, b, c]] (some 1)]).tbl ht
  have w19' := w19 (w0 := w0) ht1 hz
  refine fn_sound tryOrd (f8_c _) (by simp [f8]) ?_
  simp [f8, f8m, o1, o2, o3]
  refine (speaks18 w0 _).use ?_
  rintro e S1 ⟨rfl, rfl⟩
  simp
  refine w19'.use ?_
  rintro e S2 ⟨av', rfl, hab, ht2⟩
  obtain ⟨a', b', c', rfl, p1, p2, p3⟩ := ht2.ones
  have hab3 : Ab S2 (S2 ++ [AObj.cells 3 [[a', b', c']] (some 1)]) := Ab.start _ _
  have hbox : ∀ g, (S2 ++ g)[0]? = some (AObj.cells 3 [[a, b, c]] (some 1)) := fun g => by rw [(hab.trans (Ab.start S2 g)).get (by simp)]; rfl
  have hbox0 : S2[0]? = some (AObj.cells 3 [[a, b, c]] (some 1)) := by rw [hab.get (by simp)]; rfl
  have hboxg : ∀ g h, (S2 ++ g)[0]'h = AObj.cells 3 [[a, b, c]] (some 1) := fun g h => by
    have := hbox g
    rw [List.getElem?_eq_getElem h, Option.some.injEq] at this; exact this
  have w20' := w20 (w0 := w0) (hab3.tbl ht2)
  have w21' := w21 (w0 := w0) ((hab.trans hab3).tbl ht1)
  have w22' := w22 (w0 := w0) (hab3.tbl ht2) ((hab.trans hab3).tbl ht1) hz
  simp [p1, p2, p3, hbox, hbox0, hboxg]
  refine w20'.use ?_
  rintro e S3 ⟨rfl, rfl⟩
  simp [hbox, hboxg]
  refine w21'.use ?_
  rintro e S3 ⟨rfl, rfl⟩
  simp [hbox, hboxg]
  refine w22'.use ?_
  rintro e S3 ⟨rfl, rfl⟩
  simp
end Go.Abs
set_option linter.unusedSimpArgs false
set_option linter.unusedVariables false
namespace Go.Abs
open Go Go.RowKit Go.Proofs Go.Lx

theorem reach_val : reachBytes = 140737488351232 := rfl
theorem okv_col {av : List AVal} (h : Okv Tryd.prog 58 av) : ∃ c : Col, av = colC c := by
  obtain ⟨parts, rfl, hl, hp⟩ := h.at_struct Tryd.underlying58
  obtain ⟨p0, p1, p2, rfl⟩ : ∃ p0 p1 p2, parts = [p0, p1, p2] := by
    match parts, hl with
    | [a, b, c], _ => exact ⟨a, b, c, rfl⟩
  obtain ⟨s, rfl, _⟩ := (show Okv Tryd.prog 9 p0 from hp 0 (by decide)).at_str Tryd.underlying9
  obtain ⟨n, rfl, _⟩ := (show Okv Tryd.prog 3 p1 from hp 1 (by decide)).at_int Tryd.underlying3
  obtain ⟨b, rfl⟩ := (show Okv Tryd.prog 4 p2 from hp 2 (by decide)).at_bool Tryd.underlying4
  exact ⟨⟨s, n, b⟩, rfl⟩

theorem bytes3 : Tryd.prog.bytesOf 3 = 8 := by kernel_rfl
theorem bytes58 : Tryd.prog.bytesOf 58 = 32 := by kernel_rfl
theorem bytes61 : Tryd.prog.bytesOf 61 = 48 := by kernel_rfl

theorem okv_int {av : List AVal} (h : Okv Tryd.prog 3 av) : ∃ n : Int, av = [.int n] := by
  obtain ⟨n, h, _⟩ := h.at_int Tryd.underlying3
  exact ⟨n, h⟩

theorem rs_any {k : Nat} {S : Heap} {v : AVal} {es : List (List AVal)} (h : v = .nilS ∧ es = [] ∨ v = .list .any es) : Rs k S v es := by
  rcases h with ⟨rfl, rfl⟩ | rfl
  · exact ⟨.nils, fun h => absurd rfl h⟩
  · exact ⟨.list _ _, fun _ => rfl⟩

theorem okv_idx {av : List AVal} (h : Okv Tryd.prog 61 av) : ∃ x : Idx, IdxV [] x av ∧ x.cols.length * 8 ≤ 140737488351232 := by
  obtain ⟨parts, rfl, hl, hp⟩ := h.at_struct Tryd.underlying61
  obtain ⟨p0, p1, p2, rfl⟩ : ∃ p0 p1 p2, parts = [p0, p1, p2] := by
    match parts, hl with
    | [a, b, c], _ => exact ⟨a, b, c, rfl⟩
  obtain ⟨s, rfl, _⟩ := (show Okv Tryd.prog 9 p0 from hp 0 (by decide)).at_str Tryd.underlying9
  obtain ⟨v, es, rfl, hv, hes, hb⟩ := (show Okv Tryd.prog 59 p1 from hp 1 (by decide)).at_slice Tryd.underlying59
  obtain ⟨b, rfl⟩ := (show Okv Tryd.prog 4 p2 from hp 2 (by decide)).at_bool Tryd.underlying4
  obtain ⟨ns, rfl⟩ := choose_map (f := fun n : Int => [.int n]) fun i hi => okv_int (hes i hi)
  rw [bytes3, reach_val] at hb
  exact ⟨⟨s, ns, b⟩, ⟨v, rfl, rs_any hv⟩, by simpa using hb⟩

theorem okv_tbl {av : List AVal} (h : Okv Tryd.prog 40 av) : ∃ T : Tbl, TblV [] T av ∧ SzT T := by
  obtain ⟨parts, rfl, hl, hp⟩ := h.at_struct Tryd.underlying40
  obtain ⟨p0, p1, p2, rfl⟩ : ∃ p0 p1 p2, parts = [p0, p1, p2] := by
    match parts, hl with
    | [a, b, c], _ => exact ⟨a, b, c, rfl⟩
  obtain ⟨s, rfl, _⟩ := (show Okv Tryd.prog 9 p0 from hp 0 (by decide)).at_str Tryd.underlying9
  obtain ⟨v, es, rfl, hv, hes, hb⟩ := (show Okv Tryd.prog 37 p1 from hp 1 (by decide)).at_slice Tryd.underlying37
  obtain ⟨v', es', rfl, hv', hes', hb'⟩ := (show Okv Tryd.prog 38 p2 from hp 2 (by decide)).at_slice Tryd.underlying38
  obtain ⟨cs, rfl⟩ := choose_map (f := colC) fun i hi => okv_col (hes i hi)
  obtain ⟨xs, hxl, hxs⟩ := choose_list (p := fun i (x : Idx) => IdxV [] x (es'.getD i []) ∧ x.cols.length * 8 ≤ 140737488351232) es'.length fun i hi => okv_idx (hes' i hi)
  rw [bytes58, reach_val] at hb
  rw [bytes61, reach_val] at hb'
  refine ⟨⟨s, cs, xs⟩, ⟨v, v', es', rfl, rs_any hv, rs_any hv', hxl.symm, fun i hi => (hxs i hi).1⟩, ⟨by simpa using hb, by rw [hxl]; exact hb', fun x hx => ?_⟩⟩
  obtain ⟨i, hi, rfl⟩ := List.getElem_of_mem hx
  exact (hxs i hi).2

def tblTypes : List TypeId := [3, 4, 9, 37, 38, 40, 58, 59, 61]
theorem tblTypes_closed : closedB Tryd.prog tblTypes = true := by kernel_rfl

set_option maxRecDepth 100000 in
/-- An argument that is a description. -/
theorem arg_tbl {H : Type} {enc : TypeId × Value → H} {W : World} {sp : Nat → Bool} {held : Bool} {r : Reach} {base : Nat} {v : Value} {d : DataW H} {p : List MemPlace} (hok : Value.okWide Tryd.prog W r base 40 v)
    (h : DataW.Trod enc Tryd.prog W 0 sp held 40 v d p) (hw : Small (d.weights Tryd.prog 40)) : ∃ (T : Tbl) (av : List AVal), TblV [] T av ∧ SzT T ∧ Rel (WF W) (fun _ => none) (.agg av) v := by
  obtain ⟨cs, rfl⟩ := agg_of_okWide Tryd.underlying40 hok
  obtain ⟨fuel, hf⟩ := h
  obtain ⟨av, hav, hrd⟩ := read_all tblTypes_closed fuel (by simp [tblTypes]) hf hw
  obtain ⟨T, h1, h2⟩ := okv_tbl hav
  exact ⟨T, av, h1, h2, hrd.agg⟩
end Go.Abs
