/- Walks of the lexer's small functions: bytes, runs, what is trimmed, beginnings. Conditions: none but the lengths; definitions and lemmas. -/
import Derived.Test.YtjoehmgnapdhaaaDoorF2
import Derived.Test.YtjoehmgnapdhaaaDoorC1
import Derived.Test.YtjoehmgnapdhaaaDoorA33
import Derived.Test.YtjoehmgnapdhaaaDoorA31
import Derived.Test.YtjoehmgnapdhaaaDoorP3
set_option linter.unusedSimpArgs false
set_option linter.unusedVariables false
namespace Go.Abs
open Go Go.RowKit Go.Proofs Go.Lx

abbrev B0 (w : World) : Base := ⟨w, fun _ => .top⟩
abbrev bv (c : UInt8) : AVal := .atom (.int .u8 (c.toNat : Int))
variable {w0 : World}

def tb2 (G : Nat → AVal) : FuncId → Option AFn
  | 34 => some (f34 G)
  | 35 => some (f35 G)
  | 36 => some (f36 G)
  | n => tbl G n
theorem tb2_c (G : Nat → AVal) : ∀ f fn, tb2 G f = some fn → ∃ rows, cmpFn Tryd.prog G rows f = some fn := by
  intro f fn h
  unfold tb2 at h
  split at h
  · simp only [Option.some.injEq] at h; rw [← h]; exact ⟨_, f34_c G⟩
  · simp only [Option.some.injEq] at h; rw [← h]; exact ⟨_, f35_c G⟩
  · simp only [Option.some.injEq] at h; rw [← h]; exact ⟨_, f36_c G⟩
  · exact tbl_c G _ _ h

/-- A run that gives one value and leaves nothing. -/
def gives (o : Option (List (AEnd × Heap))) (v : AVal) : Bool :=
  match o with
  | some [(.ret u, [])] => u.same v
  | _ => false
theorem gives_eq {o : Option (List (AEnd × Heap))} {v : AVal} (h : gives o v = true) : o = some [(.ret v, [])] := by
  unfold gives at h
  split at h
  · rw [AVal.same_eq h]
  · cases h

theorem runY {f : FuncId} {args : List AVal} {v : AVal} {n : Nat} (ha : scL 0 args = true) (hv : v.solid = true) (h : gives (callY ext (tb2 fun _ => .top) n f args []) v = true) (S : Heap) :
    ACalls Tryd.prog (B0 w0) f args S fun e S' => e = .ret v ∧ S' = S :=
  ACalls.frameV (fun _ => rfl) ha hv fun w1 => callY_sound tryOrd ext_ok (tb2_c _) n f args [] _ (gives_eq h) _ (fun o ho => by
    rw [List.mem_singleton.1 ho]; exact ⟨rfl, rfl⟩)

/-- A function of one byte, tried at each. -/
def tryAll (f : FuncId) (p : UInt8 → AVal) : Bool := (List.range 256).all fun n => gives (callY ext (tb2 fun _ => .top) 20 f [.atom (.int .u8 n)] []) (p (UInt8.ofNat n))
theorem bytewise {f : FuncId} {p : UInt8 → AVal} (hp : ∀ c, (p c).solid = true) (h : tryAll f p = true) (c : UInt8) (S : Heap) : ACalls Tryd.prog (B0 w0) f [bv c] S fun e S' => e = .ret (p c) ∧ S' = S := by
  have := List.all_eq_true.1 h c.toNat (List.mem_range.2 c.toNat_lt)
  simp only [UInt8.ofNat_toNat] at this
  exact runY rfl (hp c) this S

theorem w25 (c : UInt8) (S : Heap) : ACalls Tryd.prog (B0 w0) 25 [bv c] S fun e S' => e = .ret (.bool (Lx.isL c)) ∧ S' = S := bytewise (p := fun c => .bool (Lx.isL c)) (fun _ => rfl) (by kernel_rfl) c S
theorem w27 (c : UInt8) (S : Heap) : ACalls Tryd.prog (B0 w0) 27 [bv c] S fun e S' => e = .ret (.bool (isD c)) ∧ S' = S := bytewise (p := fun c => .bool (isD c)) (fun _ => rfl) (by kernel_rfl) c S
theorem w32 (c : UInt8) (S : Heap) : ACalls Tryd.prog (B0 w0) 32 [bv c] S fun e S' => e = .ret (.bool (isW c)) ∧ S' = S := bytewise (p := fun c => .bool (isW c)) (fun _ => rfl) (by kernel_rfl) c S
theorem w34 (c : UInt8) (S : Heap) : ACalls Tryd.prog (B0 w0) 34 [bv c] S fun e S' => e = .ret (.bool (Lx.isL c)) ∧ S' = S := bytewise (p := fun c => .bool (Lx.isL c)) (fun _ => rfl) (by kernel_rfl) c S
theorem w35 (c : UInt8) (S : Heap) : ACalls Tryd.prog (B0 w0) 35 [bv c] S fun e S' => e = .ret (bv (Lib.lowerB c)) ∧ S' = S := bytewise (p := fun c => bv (Lib.lowerB c)) (fun _ => rfl) (by kernel_rfl) c S
theorem w36 (c : UInt8) (S : Heap) : ACalls Tryd.prog (B0 w0) 36 [bv c] S fun e S' => e = .ret (.bool (isD c)) ∧ S' = S := bytewise (p := fun c => .bool (isD c)) (fun _ => rfl) (by kernel_rfl) c S

/-! ### The blanks ahead -/
def blankBits : List AVal := (List.range 256).map fun n => .bool (isB (UInt8.ofNat n))
theorem blankBits_len : blankBits.length = 256 := by simp [blankBits]
theorem blankBits_get (c : UInt8) : blankBits.getD c.toNat .top = .bool (isB c) := by
  have := c.toNat_lt
  rw [getD_eq _ _ _ (by rw [blankBits_len]; exact this)]
  simp [blankBits]
theorem w54 (S : Heap) : ACalls Tryd.prog (B0 w0) 54 [.str [32, 9, 10, 13]] S fun e S' => e = .ret (.tuple [.agg blankBits, .bool true]) ∧ S' = S :=
  runY (n := 30) rfl (by kernel_rfl) (by kernel_rfl) S
theorem blankBits_one : blankBits.all AVal.one = true := by kernel_rfl

theorem w89 {S : Heap} {id : Nat} {cap : Option Nat} (hS : S[id]? = some (.cells 256 [blankBits] cap)) (c : UInt8) : ACalls Tryd.prog (B0 w0) 89 [.ptr id 0 0, bv c] S fun e S' => e = .ret (.bool (isB c)) ∧ S' = S := by
  refine fn_sound tryOrd (f89_c _) (by simp [f89]) ?_
  have hlt : c.toNat < 256 := c.toNat_lt
  have hg : ∀ h, blankBits[c.toNat]'h = .bool (isB c) := fun h => by
    have := blankBits_get c
    rwa [getD_eq _ _ _ h] at this
  simp [f89, f89m, hS, hg, hlt, blankBits_len]
  omega

/-- strings.trimLeftASCII, its set the blanks. -/
theorem w55 {S : Heap} {id : Nat} {cap : Option Nat} (hS : S[id]? = some (.cells 256 [blankBits] cap)) (l : Bs) : ACalls Tryd.prog (B0 w0) 55 [.str l, .ptr id 0 0] S fun e S' => e = .ret (.str (l.dropWhile isB)) ∧ S' = S := by
  refine fn_sound tryOrd (f55_c _) (by simp [f55]) ?_
  simp [f55, f55m]
  refine mwp_loop (I := fun n a S' => ∃ r : Bs, n = r.length ∧ get a 0 = .str r ∧ get a 1 = .ptr id 0 0 ∧ S' = S ∧ r.dropWhile isB = l.dropWhile isB) (n := l.length) ?_ ?_
  · exact ⟨l, rfl, rfl, rfl, rfl, rfl⟩
  rintro n a S' ⟨r, rfl, a0, a1, rfl, hr⟩
  cases r with
  | nil => simp [f55b0, a0, a1]; exact hr.symm
  | cons c r =>
    simp [f55b0, a0, a1]
    refine (w89 hS c).use ?_
    rintro e S1 ⟨rfl, rfl⟩
    by_cases hb : isB c = true
    · simp [hb, a0, a1, sslcR, bound]
      rw [List.dropWhile_cons, if_pos hb] at hr
      exact ⟨r.length, by omega, r, rfl, rfl, hr⟩
    · simp [hb, a0, a1]
      rw [List.dropWhile_cons, if_neg hb] at hr
      exact hr

set_option maxRecDepth 20000 in
/-- strings.TrimLeft of the blanks. -/
theorem w23 (l : Bs) (S : Heap) : ACalls Tryd.prog (B0 w0) 23 [.str l, .str [32, 9, 10, 13]] S fun e S' => e = .ret (.str (l.dropWhile isB)) ∧ S' = S := by
  refine ACalls.close (R := fun e S' => e = .ret (.str (l.dropWhile isB)) ∧ S'.take S.length = S) ?_ ?_
  rotate_left 1
  · rintro e S' ⟨rfl, ht⟩
    exact .flat ht rfl ⟨rfl, rfl⟩
  refine fn_sound tryOrd (f23_c _) (by simp [f23]) ?_
  cases l with
  | nil => simp [f23, f23m]
  | cons c r =>
    simp [f23, f23m]
    refine (w54 S).use ?_
    rintro e S1 ⟨rfl, rfl⟩
    simp [blankBits_len, blankBits_one]
    refine (w55 (id := S1.length) (cap := some 1) (by simp) (c :: r)).use ?_
    rintro e S2 ⟨rfl, rfl⟩
    simp

/-- strings.HasPrefix of one byte. -/
theorem w59 (l : Bs) (c : UInt8) (S : Heap) : ACalls Tryd.prog (B0 w0) 59 [.str l, .str [c]] S fun e S' => e = .ret (.bool (l.head? == some c)) ∧ S' = S := by
  refine fn_sound tryOrd (f59_c _) (by simp [f59]) ?_
  simp [f59, f59m]
  have h93 : ACalls Tryd.prog (B0 w0) 93 [.str l, .str [c]] S fun e S' => e = .ret (.bool (l.head? == some c)) ∧ S' = S := by
    refine fn_sound tryOrd (f93_c _) (by simp [f93]) ?_
    cases l with
    | nil => simp [f93, f93m]
    | cons d r =>
      have hle : (1 : Int) ≤ (r.length : Int) + 1 := by omega
      simp [f93, f93m, hle, sslcR, bound]; rfl
  refine h93.use ?_
  rintro e S1 ⟨rfl, rfl⟩
  simp

end Go.Abs
