/- Walks of the lexer. Conditions: none but the lengths; definitions and lemmas. -/
import Derived.Test.YtjoehmgnapdhaabDoorF2
import Derived.Test.YtjoehmgnapdhaabDoorC1
import Derived.Test.YtjoehmgnapdhaabDoorA33
import Derived.Test.YtjoehmgnapdhaabDoorA31
import Derived.Test.YtjoehmgnapdhaabDoorPA
set_option linter.unusedSimpArgs false
set_option linter.unusedVariables false
namespace Go.Abs
open Go Go.RowKit Go.Proofs Go.Lx

abbrev B0 (w : World) : Base := ⟨w, fun _ => .top⟩
abbrev bv (c : UInt8) : AVal := .atom (.int .u8 (c.toNat : Int))
variable {w0 : World}

def tb2 (G : Nat → AVal) : FuncId → Option AFn
  | 39 => some (f39 G)
  | 40 => some (f40 G)
  | 41 => some (f41 G)
  | n => tbl G n
theorem tb2_c (G : Nat → AVal) : ∀ f fn, tb2 G f = some fn → ∃ rows, cmpFn Tryd.prog G rows f = some fn := by
  intro f fn h
  unfold tb2 at h
  split at h
  · simp only [Option.some.injEq] at h; rw [← h]; exact ⟨_, f39_c G⟩
  · simp only [Option.some.injEq] at h; rw [← h]; exact ⟨_, f40_c G⟩
  · simp only [Option.some.injEq] at h; rw [← h]; exact ⟨_, f41_c G⟩
  · exact tbl_c G _ _ h

/-- A run that gives one value and leaves nothing. -/
def gives (o : Option (List (AEnd × Heap))) (v : AVal) : Bool :=
  match o with
  | some [(.ret u, [])] => u.same v
  | _ => false
theorem gives_eq {o : Option (List (AEnd × Heap))} {v : AVal} (h : gives o v = true) : o = some [(.ret v, [])] := by
  unfold gives at h
  split at h
  · rw [AVal.same_eq h]
  · cases h

theorem runY {f : FuncId} {args : List AVal} {v : AVal} {n : Nat} (ha : scL 0 args = true) (hv : v.solid = true) (h : gives (callY ext (tb2 fun _ => .top) n f args []) v = true) (S : Heap) :
    ACalls Tryd.prog (B0 w0) f args S fun e S' => e = .ret v ∧ S' = S :=
  ACalls.frameV (fun _ => rfl) ha hv fun w1 => callY_sound tryOrd ext_ok (tb2_c _) n f args [] _ (gives_eq h) _ (fun o ho => by
    rw [List.mem_singleton.1 ho]; exact ⟨rfl, rfl⟩)

/-- A function of one byte, tried at each. -/
def tryAll (f : FuncId) (p : UInt8 → AVal) : Bool := (List.range 256).all fun n => gives (callY ext (tb2 fun _ => .top) 20 f [.atom (.int .u8 n)] []) (p (UInt8.ofNat n))
theorem bytewise {f : FuncId} {p : UInt8 → AVal} (hp : ∀ c, (p c).solid = true) (h : tryAll f p = true) (c : UInt8) (S : Heap) : ACalls Tryd.prog (B0 w0) f [bv c] S fun e S' => e = .ret (p c) ∧ S' = S := by
  have := List.all_eq_true.1 h c.toNat (List.mem_range.2 c.toNat_lt)
  simp only [UInt8.ofNat_toNat] at this
  exact runY rfl (hp c) this S

theorem w50 (c : UInt8) (S : Heap) : ACalls Tryd.prog (B0 w0) 50 [bv c] S fun e S' => e = .ret (.bool (Lx.isL c)) ∧ S' = S := bytewise (p := fun c => .bool (Lx.isL c)) (fun _ => rfl) (by kernel_rfl) c S
theorem w67 (c : UInt8) (S : Heap) : ACalls Tryd.prog (B0 w0) 67 [bv c] S fun e S' => e = .ret (.bool (isD c)) ∧ S' = S := bytewise (p := fun c => .bool (isD c)) (fun _ => rfl) (by kernel_rfl) c S
theorem w52 (c : UInt8) (S : Heap) : ACalls Tryd.prog (B0 w0) 52 [bv c] S fun e S' => e = .ret (.bool (isW c)) ∧ S' = S := bytewise (p := fun c => .bool (isW c)) (fun _ => rfl) (by kernel_rfl) c S
theorem w39 (c : UInt8) (S : Heap) : ACalls Tryd.prog (B0 w0) 39 [bv c] S fun e S' => e = .ret (.bool (Lx.isL c)) ∧ S' = S := bytewise (p := fun c => .bool (Lx.isL c)) (fun _ => rfl) (by kernel_rfl) c S
theorem w40 (c : UInt8) (S : Heap) : ACalls Tryd.prog (B0 w0) 40 [bv c] S fun e S' => e = .ret (bv (Lib.lowerB c)) ∧ S' = S := bytewise (p := fun c => bv (Lib.lowerB c)) (fun _ => rfl) (by kernel_rfl) c S
theorem w41 (c : UInt8) (S : Heap) : ACalls Tryd.prog (B0 w0) 41 [bv c] S fun e S' => e = .ret (.bool (isD c)) ∧ S' = S := bytewise (p := fun c => .bool (isD c)) (fun _ => rfl) (by kernel_rfl) c S

/-! ### The blanks ahead -/
def blankBits : List AVal := (List.range 256).map fun n => .bool (isB (UInt8.ofNat n))
theorem blankBits_len : blankBits.length = 256 := by simp [blankBits]
theorem blankBits_get (c : UInt8) : blankBits.getD c.toNat .top = .bool (isB c) := by
  have := c.toNat_lt
  rw [getD_eq _ _ _ (by rw [blankBits_len]; exact this)]
  simp [blankBits]
theorem blankBits_one : blankBits.all AVal.one = true := by kernel_rfl

end Go.Abs
set_option linter.unusedSimpArgs false
set_option linter.unusedVariables false
namespace Go.Abs
open Go Go.RowKit Go.Proofs Go.Lx
variable {w0 : World}

/-- A function of one byte that tells. -/
def Tells (w0 : World) (q : FuncId) (p : UInt8 → Bool) : Prop := ∀ (c : UInt8) (S : Heap), ACalls Tryd.prog (B0 w0) q [bv c] S fun e S' => e = .ret (.bool (p c)) ∧ S' = S

theorem w66 {q : FuncId} {p : UInt8 → Bool} (hq : Tells w0 q p) {S : Heap} {id : Nat} {cap : Option Nat} (hS : S[id]? = some (.cells 1 [[.clo (.func q) [] []]] cap)) (c : UInt8) :
    ACalls Tryd.prog (B0 w0) 66 [bv c, .ptr id 0 0] S fun e S' => e = .ret (.bool (!p c)) ∧ S' = S := by
  refine fn_sound tryOrd (f66_c _) (by simp [f66]) ?_
  simp [f66, f66m, hS]
  refine (hq c S).use ?_
  rintro e S1 ⟨rfl, rfl⟩
  simp

theorem run_le_iff {p : UInt8 → Bool} : ∀ {l : Bs} {i : Nat} (h : i < l.length), i ≤ run p l → (p l[i] = true ↔ i < run p l)
  | c :: r, 0, h, _ => by
    rw [run_cons]
    by_cases hc : p c = true
    · simp [hc]
    · simp [hc]
  | c :: r, i + 1, h, hi => by
    rw [run_cons] at hi ⊢
    by_cases hc : p c = true
    · rw [if_pos hc] at hi ⊢
      have := run_le_iff (p := p) (l := r) (i := i) (by simpa using h) (by omega)
      simp only [List.getElem_cons_succ]
      rw [this]; omega
    · rw [if_neg hc] at hi; omega

theorem w65 {q : FuncId} {p : UInt8 → Bool} (hq : Tells w0 q p) {S : Heap} {id : Nat} {cap : Option Nat} (hS : S[id]? = some (.cells 1 [[.clo (.func q) [] []]] cap)) {v : AVal} {l : Bs} (hv : Rk 1 S v (l.map u8)) (hl : l.length ≤ 4194304) :
    ACalls Tryd.prog (B0 w0) 65 [v, .clo (.func 66) [] [.ptr id 0 0]] S fun e S' => e = .ret (.int (if run p l < l.length then run p l else -1)) ∧ S' = S := by
  refine fn_sound tryOrd (f65_c _) (by simp [f65]) ?_
  simp [f65, f65m, hv.lenR]
  refine mwp_loop (I := fun n a S' => ∃ i : Nat, n = l.length - i ∧ i ≤ l.length ∧ get a 0 = v ∧ get a 1 = .clo (.func 66) [] [.ptr id 0 0] ∧ get a 7 = .int l.length ∧ get a 8 = .int i ∧ S' = S ∧ i ≤ run p l) (n := l.length) ?_ ?_
  · exact ⟨0, rfl, Nat.zero_le _, rfl, rfl, rfl, rfl, rfl, Nat.zero_le _⟩
  rintro n a S' ⟨i, rfl, hi, a0, a1, a7, a8, rfl, hr⟩
  by_cases hlt : i < l.length
  · obtain ⟨pp, q1, q2⟩ := hv.byte hlt
    have hiff := run_le_iff (p := p) hlt hr
    simp [f65b0, a0, a1, a7, a8, hlt, q1, q2]
    refine (w66 hq hS l[i]).use ?_
    rintro e S1 ⟨rfl, rfl⟩
    by_cases hp : p l[i] = true
    · have := hiff.1 hp
      simp [hp, a0, a1, a7, a8, wrapS i (by omega)]
      exact ⟨l.length - (i + 1), by omega, i + 1, rfl, by omega, by simp, by omega⟩
    · have h1 : ¬ i < run p l := fun h => hp (hiff.2 h)
      have h2 : run p l = i := by omega
      simp [hp, a0, a1, a7, a8, h2, hlt]
  · have := run_le p l
    have h1 : ¬ run p l < l.length := by omega
    simp [f65b0, a0, a1, a7, a8, hlt, h1]

/-- run. -/
theorem w51 {q : FuncId} {p : UInt8 → Bool} (hq : Tells w0 q p) (l : Bs) (hl : l.length ≤ 4194304) (S : Heap) :
    ACalls Tryd.prog (B0 w0) 51 [.str l, .clo (.func q) [] []] S fun e S' => e = .ret (.int (run p l)) ∧ S' = S := by
  refine ACalls.close (R := fun e S' => e = .ret (.int (run p l)) ∧ S'.take S.length = S) ?_ ?_
  rotate_left 1
  · rintro e S' ⟨rfl, ht⟩
    exact .flat ht rfl ⟨rfl, rfl⟩
  refine fn_sound tryOrd (f51_c _) (by simp [f51]) ?_
  simp [f51, f51m]
  refine (w65 hq (id := S.length) (cap := some 1) (by simp) (v := .row (S.length + 1) 0 l.length) (l := l) ?_ hl).use ?_
  · have := Rk.row (k := 1) (S := S ++ [.cells 1 [[.clo (.func q) [] []]] (some 1), .cells 1 (l.map u8) none]) (S.length + 1) 0 l.length (l.map u8) none (by simp) (by simp)
    rw [List.drop_zero, List.take_of_length_le (by simp)] at this
    exact this
  rintro e S1 ⟨rfl, rfl⟩
  have hle := run_le p l
  by_cases hlt : run p l < l.length
  · have h0 : (0 : Int) ≤ (run p l : Int) := by omega
    simp [hlt, h0]
  · have : run p l = l.length := by omega
    simp [hlt, this]

end Go.Abs
set_option linter.unusedSimpArgs false
set_option linter.unusedVariables false
namespace Go.Abs
open Go Go.RowKit Go.Proofs Go.Lx
variable {w0 : World}

def resv : List Bs := [[97, 110, 100], [97, 115], [98, 101, 103, 105, 110], [98, 111, 111, 108], [98, 121], [99, 111, 109, 109, 105, 116], [99, 114, 101, 97, 116, 101], [100, 101, 108, 101, 116, 101], [100, 101, 115, 99], [100, 114, 111, 112],
  [102, 97, 108, 115, 101], [102, 114, 111, 109], [105, 110, 100, 101, 120], [105, 110, 102, 105, 110, 105, 116, 121], [105, 110, 110, 101, 114], [105, 110, 115, 101, 114, 116], [105, 110, 116], [105, 110, 116, 111], [105, 115], [106, 111, 105, 110],
  [110, 97, 110], [110, 111, 116], [110, 117, 108, 108], [111, 110], [111, 114], [111, 114, 100, 101, 114], [114, 101, 97, 108], [114, 111, 108, 108, 98, 97, 99, 107], [115, 101, 108, 101, 99, 116], [115, 101, 116], [116, 97, 98, 108, 101], [116, 101, 120, 116],
  [116, 114, 117, 101], [117, 110, 105, 113, 117, 101], [117, 112, 100, 97, 116, 101], [118, 97, 108, 117, 101, 115], [119, 104, 101, 114, 101]]

set_option maxRecDepth 100000 in
set_option maxHeartbeats 4000000 in
/-- lex.Reserved. -/
theorem w54 (x : Bs) (S : Heap) : ACalls Tryd.prog (B0 w0) 54 [.str x] S fun e S' => e = .ret (.bool (decide (x ∈ resv))) ∧ S' = S := by
  by_cases h : x ∈ resv
  · rw [decide_eq_true h]
    simp only [resv, List.mem_cons, List.mem_nil_iff, or_false] at h
    refine fn_sound tryOrd (f54_c _) (by simp [f54]) ?_
    rcases h with rfl | rfl | rfl | rfl | rfl | rfl | rfl | rfl | rfl | rfl | rfl | rfl | rfl | rfl | rfl | rfl | rfl | rfl | rfl | rfl | rfl | rfl | rfl | rfl | rfl | rfl | rfl | rfl | rfl | rfl | rfl | rfl | rfl | rfl | rfl | rfl | rfl
    all_goals simp [f54, f54m]
  · rw [decide_eq_false h]
    simp only [resv, List.mem_cons, List.mem_nil_iff, or_false, not_or] at h
    refine fn_sound tryOrd (f54_c _) (by simp [f54]) ?_
    simp [f54, f54m, h]

theorem resv_len : resv.length = 37 := rfl
set_option maxHeartbeats 4000000 in
/-- The document's Reserved. -/
theorem w38 (x : Bs) (S : Heap) : ACalls Tryd.prog (B0 w0) 38 [.str x] S fun e S' => e = .ret (.bool (decide (x ∈ resv))) ∧ S' = S := by
  refine ACalls.close (R := fun e S' => e = .ret (.bool (decide (x ∈ resv))) ∧ S'.take S.length = S) ?_ ?_
  rotate_left 1
  · rintro e S' ⟨rfl, ht⟩
    exact .flat ht rfl ⟨rfl, rfl⟩
  refine fn_sound tryOrd (f38_c _) (by simp [f38]) ?_
  simp [f38, f38m]
  refine mwp_loop (I := fun q a S' => ∃ i : Nat, q = 37 - i ∧ i ≤ 37 ∧ get a 0 = .str x ∧ get a 3 = .ptr S.length 0 0 ∧ get a 4 = .int i ∧ S' = S ++ [.cells 37 [resv.map .str] (some 1)] ∧ x ∉ resv.take i) (n := 37) ?_ ?_
  · exact ⟨0, rfl, by omega, rfl, rfl, rfl, rfl, by simp⟩
  rintro q a S1 ⟨i, rfl, hi, a0, a3, a4, rfl, hnot⟩
  by_cases hlt : i < 37
  · have hlt' : i < resv.length := by rw [resv_len]; exact hlt
    have hi37 : (i : Int) < 37 := by omega
    have hwi := wrapS i (by omega)
    by_cases hx : resv[i] = x
    · have hm : x ∈ resv := hx ▸ List.getElem_mem hlt'
      simp [f38b0, a0, a3, a4, hlt, hlt', hi37, resv_len, hx, hm]
      omega
    · simp [f38b0, a0, a3, a4, hlt, hlt', hi37, resv_len, hx, hwi]
      exact ⟨by omega, 37 - (i + 1), by omega, i + 1, rfl, by omega, by simp, not_mem_take_succ hnot hlt' hx⟩
  · obtain rfl : i = 37 := by omega
    have hm : x ∉ resv := hnot
    simp [f38b0, a0, a3, a4, hm]

def nameB (x : Bs) : Bool := decide (1 ≤ x.length) && decide (x.length ≤ 32) && Lx.isL (x[0]?.getD 0) && x.all (fun c => isW c && decide (Lib.lowerB c = c)) && !decide (x ∈ resv)

theorem run_eq_len {p : UInt8 → Bool} : ∀ {l : Bs}, run p l = l.length ↔ l.all p = true
  | [] => by simp [run]
  | c :: r => by
    rw [run_cons]
    have ih := run_eq_len (p := p) (l := r)
    by_cases h : p c = true
    · simp only [h, if_true, List.length_cons, List.all_cons, Bool.true_and]; rw [← ih]; omega
    · have h' : p c = false := by simpa using h
      simp [h']
theorem map_lower_eq : ∀ {l : Bs}, l.map Lib.lowerB = l ↔ l.all (fun c => decide (Lib.lowerB c = c)) = true
  | [] => by simp
  | c :: r => by
    have ih := map_lower_eq (l := r)
    simp only [List.map_cons, List.cons.injEq, List.all_cons, Bool.and_eq_true, decide_eq_true_eq]
    rw [ih]
theorem all_and {l : Bs} {p q : UInt8 → Bool} : l.all (fun c => p c && q c) = (l.all p && l.all q) := by
  induction l with
  | nil => rfl
  | cons c r ih => simp only [List.all_cons, ih]; cases p c <;> cases q c <;> cases r.all p <;> cases r.all q <;> rfl

set_option maxHeartbeats 1000000 in
/-- lex.Name. -/
theorem w32 (x : Bs) (S : Heap) : ACalls Tryd.prog (B0 w0) 32 [.str x] S fun e S' => e = .ret (.bool (nameB x)) ∧ S' = S := by
  have hnm : nameB x = (decide (1 ≤ x.length) && decide (x.length ≤ 32) && Lx.isL (x[0]?.getD 0) && (decide (run isW x = x.length) && decide (x.map Lib.lowerB = x)) && !decide (x ∈ resv)) := by
    rw [nameB, all_and]
    have e1 : x.all isW = decide (run isW x = x.length) := by rw [Bool.eq_iff_iff, decide_eq_true_eq]; exact run_eq_len.symm
    have e2 : (x.all fun c => decide (Lib.lowerB c = c)) = decide (x.map Lib.lowerB = x) := by rw [Bool.eq_iff_iff, decide_eq_true_eq]; exact map_lower_eq.symm
    rw [e1, e2]
  refine fn_sound tryOrd (f32_c _) (by simp [f32]) ?_
  cases x with
  | nil => simp [f32, f32m, hnm]
  | cons c r =>
    by_cases hlen : (c :: r).length ≤ 32
    rotate_left 1
    · have h' : ¬ ((r.length : Int) + 1 ≤ 32) := by simp at hlen; omega
      have h'' : ¬ (r.length + 1 ≤ 32) := by simp at hlen; omega
      simp [f32, f32m, hnm, h', h'']
    have h' : ((r.length : Int) + 1 ≤ 32) := by simp at hlen; omega
    have h'' : (r.length + 1 ≤ 32) := by simp at hlen; omega
    simp [f32, f32m, h']
    refine (w50 c _).use ?_
    rintro e S1 ⟨rfl, rfl⟩
    by_cases hL : Lx.isL c = true
    rotate_left 1
    · simp [hL, hnm]
    have w51' := fun S => w51 (q := 52) (p := isW) w52 (c :: r) (w0 := w0) (by simp; omega) S
    simp [hL]
    refine (w51' _).use ?_
    rintro e S1 ⟨rfl, rfl⟩
    by_cases hr : run isW (c :: r) = (c :: r).length
    rotate_left 1
    · have hr' : ((run isW (c :: r) : Int) == (r.length : Int) + 1) = false := by
        rw [beq_eq_false_iff_ne]; simp at hr; omega
      have hr'' : ¬ run isW (c :: r) = r.length + 1 := by simpa using hr
      simp [hr', hr'', hnm]
    have hr' : ((run isW (c :: r) : Int) == (r.length : Int) + 1) = true := by simp at hr ⊢; omega
    have hall := run_eq_len.1 hr
    have hext := ext_ok (β := B0 w0) 53 [.str (c :: r)] (.str ((c :: r).map Lib.lowerB)) (by
      have : ((c :: r).all (fun b => decide (b.toNat < 128)) && decide ((c :: r).length ≤ 140737488355328)) = true := by
        simp only [Bool.and_eq_true, decide_eq_true_eq, List.all_eq_true]
        refine ⟨fun d hd => ?_, by omega⟩
        have := List.all_eq_true.1 hall d hd
        simp [isW, Lx.isL, isD] at this
        omega
      simp only [ext, this, if_true]; rfl)
    simp [hr']
    refine (hext _).use ?_
    rintro e S1 ⟨rfl, rfl⟩
    by_cases hlow : (c :: r).map Lib.lowerB = c :: r
    rotate_left 1
    · have hl2 : ¬ (c :: r) = (c :: r).map Lib.lowerB := fun e => hlow e.symm
      rw [hnm, decide_eq_false hlow]
      simp only [List.map_cons] at hl2
      simp [hl2]
    · have w54' := fun S => w54 (w0 := w0) (c :: r) S
      rw [hnm, decide_eq_true hlow, decide_eq_true hr, decide_eq_true hlen]
      rw [List.map_cons] at hlow
      simp [hlow]
      refine (w54' _).use ?_
      rintro e S1 ⟨rfl, rfl⟩
      simp [hL]

set_option maxHeartbeats 2000000 in
/-- The document's Name. -/
theorem w15 (x : Bs) (S : Heap) : ACalls Tryd.prog (B0 w0) 15 [.str x] S fun e S' => e = .ret (.bool (nameB x)) ∧ S' = S := by
  have w38' := fun S => w38 (w0 := w0) x S
  refine fn_sound tryOrd (f15_c _) (by simp [f15]) ?_
  by_cases h1 : 1 ≤ x.length
  rotate_left 1
  · have h1' : (x.length : Int) < 1 := by omega
    simp [f15, f15m, h1', nameB, h1]
  have h1' : ¬ (x.length : Int) < 1 := by omega
  by_cases h2 : x.length ≤ 32
  rotate_left 1
  · have h2' : (32 : Int) < (x.length : Int) := by omega
    simp [f15, f15m, h1', h2', nameB, h2]
  have h2' : ¬ (32 : Int) < (x.length : Int) := by omega
  have h0 : 0 < x.length := by omega
  simp [f15, f15m, h1', h2']
  refine (w38' _).use ?_
  rintro e S1 ⟨rfl, rfl⟩
  by_cases hm : x ∈ resv
  · simp [hm, nameB]
  have w39' := fun S => w39 (w0 := w0) x[0] S
  simp [hm, h0]
  refine (w39' _).use ?_
  rintro e S1 ⟨rfl, rfl⟩
  by_cases hL : Lx.isL x[0] = true
  rotate_left 1
  · simp [hL, nameB, h0]
  have hnm : nameB x = x.all fun c => isW c && decide (Lib.lowerB c = c) := by
    simp [nameB, hm, h1, h2, h0, hL]
  rw [hnm]
  simp [hL]
  refine mwp_loop (I := fun q a S' => ∃ i : Nat, q = x.length - i ∧ i ≤ x.length ∧ get a 0 = .str x ∧ get a 3 = .int i ∧ S' = S1 ∧ (x.take i).all (fun c => isW c && decide (Lib.lowerB c = c)) = true) (n := x.length) ?_ ?_
  · exact ⟨0, rfl, Nat.zero_le _, rfl, rfl, rfl, by simp⟩
  rintro q a S2 ⟨i, rfl, hi, a0, a3, rfl, hall⟩
  by_cases hlt : i < x.length
  · have w40' := fun S => w40 (w0 := w0) x[i] S
    have w39' := fun S => w39 (w0 := w0) x[i] S
    have w41' := fun S => w41 (w0 := w0) x[i] S
    have hwi := wrapS i (by omega)
    have hmem : x[i] ∈ x := List.getElem_mem hlt
    simp [f15b0, a0, a3, hlt]
    refine (w40' _).use ?_
    rintro e S1 ⟨rfl, rfl⟩
    by_cases hlow : Lib.lowerB x[i] = x[i]
    rotate_left 1
    · have hlow' : (((Lib.lowerB x[i]).toNat : Int) != (x[i].toNat : Int)) = true := by
        rw [bne_iff_ne]; intro e; exact hlow (UInt8.toNat_inj.1 (by omega))
      have hf : (x.all fun c => isW c && decide (Lib.lowerB c = c)) = false := by
        rw [List.all_eq_false]
        exact ⟨x[i], hmem, by simp [hlow]⟩
      simp [a0, a3, hlt, hlow', hf]
    · have hstep : isW x[i] = true → (x.take (i + 1)).all (fun c => isW c && decide (Lib.lowerB c = c)) = true := fun h => by
        rw [List.take_add_one, List.getElem?_eq_getElem hlt, Option.toList_some, List.all_append, hall]
        simp [h, hlow]
      simp [a0, a3, hlt, hlow]
      refine (w39' _).use ?_
      rintro e S1 ⟨rfl, rfl⟩
      by_cases hL2 : Lx.isL x[i] = true
      · simp [a0, a3, hlt, hL2, hwi]
        have := hstep (by simp [isW, hL2])
        refine ⟨x.length - (i + 1), by omega, i + 1, rfl, by omega, by simp, by simpa using this⟩
      · simp [a0, a3, hlt, hL2]
        refine (w41' _).use ?_
        rintro e S1 ⟨rfl, rfl⟩
        by_cases hD : isD x[i] = true
        · simp [a0, a3, hD, hwi]
          have := hstep (by simp [isW, hD])
          refine ⟨x.length - (i + 1), by omega, i + 1, rfl, by omega, by simp, by simpa using this⟩
        · have hf : (x.all fun c => isW c && decide (Lib.lowerB c = c)) = false := by
            rw [List.all_eq_false]
            exact ⟨x[i], hmem, by simp [isW, hL2, hD]⟩
          simp [a0, a3, hD, hf]
  · obtain rfl : i = x.length := by omega
    rw [List.take_length] at hall
    simp [f15b0, a0, a3, hall]

end Go.Abs
