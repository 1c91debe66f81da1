/- Walks of the parser: expressions, lists. Conditions: none but the lengths; definitions and lemmas. -/
import Derived.Test.YtcogkenmdbaiiaaGreatDoorMF
import Derived.Test.YtcogkenmdbaiiaaGreatDoorML
import Derived.Test.YtcogkenmdbaiiaaGreatDoorA37
import Derived.Test.YtcogkenmdbaiiaaGreatDoorMZ
import Derived.Test.YtcogkenmdbaiiaaGreatDoorA38
set_option linter.unusedSimpArgs false
set_option linter.unusedVariables false
namespace Go.Abs
open Go Go.RowKit Go.Proofs Go.Lx Go.Pz
variable {w0 : World}

mutual
def exC : Ex → List AVal
  | .mk op args kind num scale text qual => [.int op, exsV args, .int kind, .int num, .int scale, .str text, .str qual]
def exsV : List Ex → AVal
  | [] => .nilS
  | x :: r => .list .full (exC x :: exsL r)
def exsL : List Ex → List (List AVal)
  | [] => []
  | x :: r => exC x :: exsL r
end
theorem exsL_map : ∀ (l : List Ex), exsL l = l.map exC
  | [] => rfl
  | x :: r => by rw [exsL, exsL_map r]; rfl
theorem exC_eq (op : Int) (args : List Ex) (kind num scale : Int) (text qual : Bs) : exC (.mk op args kind num scale text qual) = [.int op, exsV args, .int kind, .int num, .int scale, .str text, .str qual] := by rw [exC]
theorem exsV_nil : exsV [] = .nilS := by rw [exsV]
theorem exsV_one (x : Ex) : exsV [x] = .list .full [exC x] := by rw [exsV, exsL]
theorem exsV_two (x y : Ex) : exsV [x, y] = .list .full [exC x, exC y] := by rw [exsV, exsL, exsL]
theorem exC_shape (x : Ex) : ∃ (op : Int) (v : AVal) (kind num scale : Int) (text qual : Bs), exC x = [.int op, v, .int kind, .int num, .int scale, .str text, .str qual] ∧ v.one = true ∧ cellsOf false v = some [v] := by
  cases x with
  | mk op args kind num scale text qual =>
    refine ⟨op, exsV args, kind, num, scale, text, qual, by rw [exC], ?_⟩
    cases args with
    | nil => rw [exsV]; exact ⟨rfl, rfl⟩
    | cons y r => rw [exsV]; exact ⟨rfl, rfl⟩
@[simp] theorem exC_len (x : Ex) : (exC x).length = 7 := by obtain ⟨_, _, _, _, _, _, _, h, _⟩ := exC_shape x; rw [h]; rfl
@[simp] theorem exC_one (x : Ex) : (exC x).all AVal.one = true := by obtain ⟨_, _, _, _, _, _, _, h, h1, _⟩ := exC_shape x; rw [h]; simp [h1]
mutual
theorem exC_sc (n : Nat) : ∀ (x : Ex), scL n (exC x) = true
  | .mk op args kind num scale text qual => by rw [exC]; simp [scL, AVal.sc]; exact exsV_sc n args
theorem exsV_sc (n : Nat) : ∀ (l : List Ex), (exsV l).sc n = true
  | [] => by rw [exsV]; rfl
  | x :: r => by rw [exsV]; simp only [AVal.sc, scLL, Bool.and_eq_true]; exact ⟨exC_sc n x, exsL_sc n r⟩
theorem exsL_sc (n : Nat) : ∀ (l : List Ex), scLL n (exsL l) = true
  | [] => by rw [exsL]; rfl
  | x :: r => by rw [exsL]; simp only [scLL, Bool.and_eq_true]; exact ⟨exC_sc n x, exsL_sc n r⟩
end
@[simp] theorem exC_scs (n : Nat) (x : Ex) : scL n (exC x) = true := exC_sc n x
@[simp] theorem exsV_scs (n : Nat) (l : List Ex) : AVal.sc n (exsV l) = true := exsV_sc n l
@[simp] theorem exA_sc (n : Nat) (x : Ex) : AVal.sc n (.agg (exC x)) = true := by simp only [AVal.sc]; exact exC_sc n x
@[simp] theorem exA_cells (x : Ex) : cellsOf true (.agg (exC x)) = some (exC x) := rfl

/-! ### Tokens in a slice -/
def TkV (v : AVal) (l : List Tok) : Prop := ∃ fl, v = .list fl (toksV l) ∧ (l ≠ [] → fl ≠ .nil)
theorem TkV.one {v l} (h : TkV v l) : v.one = true ∧ cellsOf false v = some [v] ∧ ∀ n, v.sc n = true := by
  obtain ⟨fl, rfl, _⟩ := h
  exact ⟨rfl, rfl, fun n => by simpa [AVal.sc] using toksV_sc l n⟩
theorem TkV.lenR {v l} (h : TkV v l) (S : Heap) : lenR S v = .ok true (.int l.length) S := by
  obtain ⟨fl, rfl, _⟩ := h
  simp
theorem TkV.head {v t r} (h : TkV v (t :: r)) : ∃ p, ∀ S, iaddrR 4 S v (.int 0) = .ok true p S ∧ loadR true 4 S p = .ok true (.agg (tokC t)) S := by
  obtain ⟨fl, rfl, _⟩ := h
  have h0 : (0 : Int) < (r.length : Int) + 1 := by omega
  exact ⟨.fptr (toksV (t :: r)) 0 0, fun S => ⟨by simp [toksV, tokC, h0], by simp [toksV, tokC]⟩⟩
theorem TkV.tail {v t r} (h : TkV v (t :: r)) : ∃ v', TkV v' r ∧ ∀ a S, slcR 4 a S v (some (.val (.int 1))) none none = .ok true v' S := by
  obtain ⟨fl, rfl, hfl⟩ := h
  have hne := hfl (by simp)
  have hk : r.length = 0 ∨ ((toksV (t :: r)).getD 1 []).length = 4 := by
    cases r with
    | nil => exact .inl rfl
    | cons u r => exact .inr (by simp [toksV, tokC])
  have hlen : (toksV (t :: r)).length = r.length + 1 := by simp
  refine ⟨.list (fl.with (true && fl.isFull)) (toksV r), ⟨_, rfl, fun _ => ?_⟩, fun a S => ?_⟩
  · cases fl <;> simp [Fl.with, Fl.non, Fl.isFull] at hne ⊢
  · have e : ((toksV (t :: r)).take (toksV (t :: r)).length).drop 1 = toksV r := by rw [List.take_length]; rfl
    have h1 : (decide (1 ≤ r.length + 1) && decide (r.length + 1 ≤ r.length + 1) && (decide (1 = r.length + 1) || decide (((toksV (t :: r)).getD 1 []).length = 4))) = true := by
      rcases hk with h | h
      · simp [h]
      · rw [h]; simp
    cases fl with
    | nil => exact absurd rfl hne
    | _ =>
      rw [hlen] at e
      simp only [slcR, bound, ev_val, AVal.int, show (0 : Int) ≤ 1 from by decide, if_true, show (1 : Int).toNat = 1 from rfl, hlen, h1, decide_true, e]

/-! ### The parser -/
def PO (l : List Tok) (k d : Nat) (o : AObj) : Prop := ∃ v, TkV v l ∧ o = .cells 3 [[v, .int k, .int d]] (some 1)
def At (S : Heap) (pid : Nat) (l : List Tok) (k d : Nat) : Prop := ∃ o, S[pid]? = some o ∧ PO l k d o
theorem PO.sc {l k d o} (h : PO l k d o) (n : Nat) : o.sc n = true := by
  obtain ⟨v, hv, rfl⟩ := h
  simp [AObj.sc, scLL, scL, hv.one.2.2 n, AVal.sc]
theorem At.get {S pid l k d} (h : At S pid l k d) : ∃ v, TkV v l ∧ S[pid]? = some (.cells 3 [[v, .int k, .int d]] (some 1)) := by
  obtain ⟨o, h1, v, h2, rfl⟩ := h
  exact ⟨v, h2, h1⟩
theorem At.lt {S pid l k d} (h : At S pid l k d) : pid < S.length := by obtain ⟨o, h1, _⟩ := h; exact lt_of_some h1
theorem At.more {S pid l k d} (h : At S pid l k d) (g : Heap) : At (S ++ g) pid l k d := by
  have hl := h.lt
  obtain ⟨o, h1, h2⟩ := h
  exact ⟨o, by rw [List.getElem?_append_left hl]; exact h1, h2⟩
theorem At.less {S g : Heap} {pid l k d} (h : At (S ++ g) pid l k d) (hl : pid < S.length) : At S pid l k d := by
  obtain ⟨o, h1, h2⟩ := h
  exact ⟨o, by rwa [List.getElem?_append_left hl] at h1, h2⟩
theorem hmoreG {S : Heap} {i : Nat} (h : i < S.length) (g : Heap) : (S ++ g)[i]? = S[i]? := List.getElem?_append_left h

/-- Nothing but that object has changed. -/
def Step (pid : Nat) (S T : Heap) : Prop := S.length = T.length ∧ ∀ j, j ≠ pid → T[j]? = S[j]?
theorem Step.refl (pid : Nat) (S : Heap) : Step pid S S := ⟨rfl, fun _ _ => rfl⟩
theorem Step.trans {pid S T U} (h : Step pid S T) (h' : Step pid T U) : Step pid S U := ⟨h.1.trans h'.1, fun j hj => (h'.2 j hj).trans (h.2 j hj)⟩
theorem Step.more {pid S T} (h : Step pid S T) (g : Heap) : Step pid (S ++ g) (T ++ g) := by
  refine ⟨by simp [h.1], fun j hj => ?_⟩
  rcases Nat.lt_or_ge j S.length with hlt | hge
  · rw [List.getElem?_append_left (h.1 ▸ hlt), List.getElem?_append_left hlt]; exact h.2 j hj
  · rw [List.getElem?_append_right (h.1 ▸ hge), List.getElem?_append_right hge, h.1]
theorem Step.split {pid : Nat} {T g S' : Heap} (h : Step pid (T ++ g) S') (hp : pid < T.length) : ∃ T', S' = T' ++ g ∧ Step pid T T' := by
  have hlen : S'.length = T.length + g.length := by rw [← h.1]; simp
  refine ⟨S'.take T.length, ?_, by simp [hlen], fun j hj => ?_⟩
  · conv => lhs; rw [← List.take_append_drop T.length S']
    congr 1
    refine List.ext_getElem? fun j => ?_
    rw [List.getElem?_drop, h.2 _ (by omega), List.getElem?_append_right (by omega)]
    congr 1; omega
  · rcases Nat.lt_or_ge j T.length with hlt | hge
    · rw [List.getElem?_take_of_lt hlt, h.2 j hj, List.getElem?_append_left hlt]
    · rw [List.getElem?_eq_none (by simp; omega), List.getElem?_eq_none hge]
theorem Step.set {S : Heap} {pid : Nat} (o : AObj) : Step pid S (S.set pid o) := ⟨by simp, fun j hj => by rw [List.getElem?_set_ne (Ne.symm hj)]⟩

/-- As it was, but for that object; perhaps more. -/
def Kpt (pid : Nat) (S T : Heap) : Prop := S.length ≤ T.length ∧ ∀ j, j < S.length → j ≠ pid → T[j]? = S[j]?
theorem Step.kpt {pid S T} (h : Step pid S T) : Kpt pid S T := ⟨Nat.le_of_eq h.1, fun j _ hj => h.2 j hj⟩
theorem Kpt.more {pid S T} (h : Kpt pid S T) (g : Heap) : Kpt pid S (T ++ g) := ⟨by simp; have := h.1; omega, fun j hl hj => by rw [List.getElem?_append_left (by have := h.1; omega)]; exact h.2 j hl hj⟩
theorem Kpt.trans {pid S T U} (h : Kpt pid S T) (h' : Kpt pid T U) : Kpt pid S U := ⟨Nat.le_trans h.1 h'.1, fun j hl hj => (h'.2 j (Nat.lt_of_lt_of_le hl h.1) hj).trans (h.2 j hl hj)⟩
theorem Kpt.refl (pid : Nat) (S : Heap) : Kpt pid S S := ⟨Nat.le_refl _, fun _ _ _ => rfl⟩

/-- What is new is forgotten. -/
theorem ACalls.cut {P : Program} {β : Base} {f args S} {R R' : AEnd → Heap → Prop} (h : ACalls P β f args S R)
    (hr : ∀ e S', R e S' → ∃ T g, S' = T ++ g ∧ T.length = S.length ∧ (∀ o ∈ T, o ∈ S ∨ o.sc S.length = true) ∧ e.sc S.length = true ∧ R' e T) : ACalls P β f args S R' := by
  refine ⟨h.1, fun F m w vs hs hv => (h.2 F m w vs hs hv).mono fun e w' ⟨ae, F', m', S', he, hs', hrel, hR⟩ => ?_⟩
  obtain ⟨T, g, rfl, hTl, hTo, hsc, hR'⟩ := hr _ _ hR
  have hdom : ∀ id p, m id = some p → id < S.length := fun id p hp => by
    rcases Nat.lt_or_ge id S.length with h' | h'
    · exact h'
    · rw [hs.dom id h'] at hp; cases hp
  have hm0 : ∀ g, Rel F' m (β.G g) (.pointer (some ⟨g, 0, none⟩)) := fun g => (hs.glob g).mono ⟨he.f, fun _ _ h => h⟩
  have htk : (T ++ g).take S.length = T := by rw [← hTl]; simp
  obtain ⟨m1, k1, k2, _, hs1⟩ := hs'.keep (m0 := m) (n := S.length) hm0 (fun id p hp => ⟨hdom id p hp, he.m id p hp⟩) [] (by simp) (by simp) (by simp [hTl]) (by
    rw [htk]; intro o ho
    rcases hTo o ho with h1 | h1
    · exact hs.scs o h1
    · exact h1) (by simp)
  rw [htk] at hs1
  simp only [List.map_nil, List.append_nil] at hs1
  refine ⟨ae, F', m1, T, ⟨he.f, k1⟩, hs1, ?_, hR'⟩
  cases ae with
  | ret v => cases e <;> first | exact hrel.elim | exact Rel.cut k2 hrel hsc
  | panic v =>
    cases e <;> first | exact hrel.elim | skip
    obtain ⟨u, rfl, hu⟩ := hrel
    exact ⟨u, rfl, Rel.cut k2 hu hsc⟩

/-- How a call of the parser ends. -/
def Fin (S : Heap) (pid : Nat) (R : AEnd → Heap → Prop) (e : AEnd) (S' : Heap) : Prop := ∃ T g, S' = T ++ g ∧ Step pid S T ∧ (∃ l k d, At T pid l k d) ∧ e.sc S.length = true ∧ R e T
theorem ACalls.fin {P : Program} {β : Base} {f args S pid} {R : AEnd → Heap → Prop} (h : ACalls P β f args S (Fin S pid R)) : ACalls P β f args S R :=
  h.cut fun e S' ⟨T, g, e1, hst, ⟨l, k, d, o, ho, hpo⟩, hsc, hR⟩ => ⟨T, g, e1, hst.1.symm, fun o' ho' => by
    obtain ⟨j, hj, rfl⟩ := List.getElem_of_mem ho'
    by_cases hjp : j = pid
    · subst hjp
      rw [List.getElem?_eq_getElem hj] at ho
      cases ho
      exact .inr (hpo.sc _)
    · have := hst.2 j hjp
      rw [List.getElem?_eq_getElem hj] at this
      exact .inl (List.mem_of_getElem? this.symm), hsc, hR⟩

def trb (c : Int) : AVal := .iface 58 (.agg [.int c])
@[simp] theorem trb_sc (c : Int) (n : Nat) : (trb c).sc n = true := rfl
/-- What a call of the parser answers: a value and what is left of the tokens; or it panics. -/
def PrR {α : Type} (V : α → AVal) (S : Heap) (pid k d : Nat) (r : Except Int (α × List Tok)) (e : AEnd) (S' : Heap) : Prop :=
  Step pid S S' ∧ match r with
    | .ok (x, l) => e = .ret (V x) ∧ At S' pid l k d
    | .error c => e = .panic (trb c) ∧ ∃ l k d, At S' pid l k d
abbrev ExR := PrR fun x => AVal.agg (exC x)
theorem PrR.ok {α : Type} {V : α → AVal} {S T g : Heap} {pid k d : Nat} {x : α} {l : List Tok} (hst : Step pid S T) (ha : At T pid l k d) (hv : (V x).sc S.length = true) : Fin S pid (PrR V S pid k d (.ok (x, l))) (.ret (V x)) (T ++ g) :=
  ⟨T, g, rfl, hst, ⟨_, _, _, ha⟩, hv, hst, rfl, ha⟩
theorem PrR.err {α : Type} {V : α → AVal} {S T g : Heap} {pid k d : Nat} {c : Int} {l k' d'} (hst : Step pid S T) (ha : At T pid l k' d') : Fin S pid (PrR V S pid k d (.error c)) (.panic (trb c)) (T ++ g) :=
  ⟨T, g, rfl, hst, ⟨_, _, _, ha⟩, rfl, hst, rfl, _, _, _, ha⟩
end Go.Abs
set_option linter.unusedSimpArgs false
set_option linter.unusedVariables false
namespace Go.Abs
open Go Go.RowKit Go.Proofs Go.Lx Go.Pz
variable {w0 : World}

@[simp] theorem run_panic {x : MOpd} {S : Heap} {a : Tmps} : (MOp.panic x).run S a = (match ev a x with
    | .iface t v => .panic (.iface t v) S
    | _ => .fail) := (rfl)
@[simp] theorem afterR_panic {v S kp k} : @afterR (.panic v S) ⟨kp⟩ k = kp v S := (rfl)
theorem hsetG {S : Heap} {i : Nat} (h : i < S.length) (g : Heap) (o : AObj) : (S ++ g).set i o = S.set i o ++ g := List.set_append_left _ _ h

theorem w22 (c : Int) (S : Heap) : ACalls Tryz.prog (B0 w0) 22 [.int c] S fun e S' => e = .panic (trb c) ∧ S' = S := by
  refine fn_sound tryOrd (f22_c _) (by simp [f22]) ?_
  simp [f22, f22m, trb]

theorem w39 {S : Heap} {pid : Nat} {l : List Tok} {k d : Nat} (ha : At S pid l k d) : ACalls Tryz.prog (B0 w0) 39 [.ptr pid 0 0] S fun e S' => e = .ret (.agg (tokC (l.headD zTok))) ∧ S' = S := by
  refine ACalls.close (R := fun e S' => e = .ret (.agg (tokC (l.headD zTok))) ∧ S'.take S.length = S) ?_ ?_
  rotate_left 1
  · rintro e S' ⟨rfl, ht⟩
    exact .flat ht (by simp [tokC]) ⟨rfl, rfl⟩
  obtain ⟨v, hv, hp⟩ := ha.get
  have hg := hmoreG ha.lt
  have hl := hv.lenR
  refine fn_sound tryOrd (f39_c _) (by simp [f39]) ?_
  cases l with
  | nil => simp [f39, f39m, hg, hp, hl, tokC, zTok]
  | cons t r =>
    obtain ⟨p, hh⟩ := hv.head
    have h0 : ((r.length : Int) + 1 == 0) = false := beq_eq_false_iff_ne.2 (by omega)
    simp [f39, f39m, hg, hp, hl, h0, hh]
    simp [tokC]

theorem w80 {S : Heap} {pid : Nat} {l : List Tok} {k d : Nat} (ha : At S pid l k d) {kd : Int} (hk : kd ≠ 0) (s : Bs) :
    ACalls Tryz.prog (B0 w0) 80 [.ptr pid 0 0, .int kd, .str s] S fun e S' => Step pid S S' ∧ e = .ret (.bool (isT kd s l)) ∧ At S' pid (if isT kd s l then l.tail else l) k d := by
  refine ACalls.fin (pid := pid) ?_
  obtain ⟨v, hv, hp⟩ := ha.get
  have hg := hmoreG ha.lt
  have hs := hsetG ha.lt
  refine fn_sound tryOrd (f80_c _) (by simp [f80]) ?_
  simp [f80, f80m]
  refine (w39 ha).use ?_
  rintro e S1 ⟨rfl, rfl⟩
  have no : isT kd s l = false → ∀ g, Fin S1 pid (fun e S' => Step pid S1 S' ∧ e = .ret (.bool (isT kd s l)) ∧ At S' pid (if isT kd s l then l.tail else l) k d) (.ret (.bool false)) (S1 ++ g) := fun h g =>
    ⟨S1, g, rfl, Step.refl _ _, ⟨_, _, _, ha⟩, rfl, Step.refl _ _, by rw [h], by rw [h]; exact ha⟩
  cases l with
  | nil =>
    have h0 : ((0 : Int) == kd) = false := beq_eq_false_iff_ne.2 (Ne.symm hk)
    simp [zTok, tokC, bne, h0]
    exact no rfl _
  | cons t r =>
    by_cases hkd : t.kind = kd
    · by_cases hst : t.text = s
      · obtain ⟨v', h1, h2⟩ := hv.tail
        simp [-slcR, tokC, hkd, hst, hg, hp, h2, hs, h1.one]
        have hT : isT kd s (t :: r) = true := by simp [isT, hkd, hst]
        refine ⟨S1.set pid (.cells 3 [[v', .int k, .int d]] (some 1)), _, rfl, Step.set _, ⟨r, k, d, ?_⟩, rfl, Step.set _, by rw [hT], ?_⟩
        · exact ⟨_, List.getElem?_set_self ha.lt, v', h1, rfl⟩
        · rw [hT]; exact ⟨_, List.getElem?_set_self ha.lt, v', h1, rfl⟩
      · simp [tokC, hkd, hst]
        exact no (by simp [isT, hst]) _
    · have h0 : (t.kind == kd) = false := beq_eq_false_iff_ne.2 hkd
      simp [tokC, bne, h0]
      exact no (by simp [isT, hkd]) _

theorem w42 {S : Heap} {pid : Nat} {l : List Tok} {k d : Nat} (ha : At S pid l k d) (s : Bs) :
    ACalls Tryz.prog (B0 w0) 42 [.ptr pid 0 0, .str s] S fun e S' => Step pid S S' ∧ e = .ret (.bool (isT 1 s l)) ∧ At S' pid (if isT 1 s l then l.tail else l) k d := by
  refine fn_sound tryOrd (f42_c _) (by simp [f42]) ?_
  simp [f42, f42m]
  refine (w80 ha (by decide) s).use ?_
  rintro e S1 ⟨h1, rfl, h2⟩
  simp [h1, h2]
theorem w85 {S : Heap} {pid : Nat} {l : List Tok} {k d : Nat} (ha : At S pid l k d) (s : Bs) :
    ACalls Tryz.prog (B0 w0) 85 [.ptr pid 0 0, .str s] S fun e S' => Step pid S S' ∧ e = .ret (.bool (isT 5 s l)) ∧ At S' pid (if isT 5 s l then l.tail else l) k d := by
  refine fn_sound tryOrd (f85_c _) (by simp [f85]) ?_
  simp [f85, f85m]
  refine (w80 ha (by decide) s).use ?_
  rintro e S1 ⟨h1, rfl, h2⟩
  simp [h1, h2]

/-- What must stand there. -/
def NeR (S : Heap) (pid k d : Nat) (r : Except Int (List Tok)) (e : AEnd) (S' : Heap) : Prop :=
  Step pid S S' ∧ match r with
    | .ok l => e = .ret .undef ∧ At S' pid l k d
    | .error c => e = .panic (trb c) ∧ ∃ l k d, At S' pid l k d
theorem w75 {S : Heap} {pid : Nat} {l : List Tok} {k d : Nat} (ha : At S pid l k d) (s : Bs) : ACalls Tryz.prog (B0 w0) 75 [.ptr pid 0 0, .str s] S (NeR S pid k d (need 5 s l)) := by
  refine fn_sound tryOrd (f75_c _) (by simp [f75]) ?_
  simp [f75, f75m]
  refine (w85 ha s).use ?_
  rintro e S1 ⟨h1, rfl, h2⟩
  by_cases hT : isT 5 s l = true
  · rw [hT] at h2
    simp [hT, NeR, need, h1]
    exact h2
  · have hT : isT 5 s l = false := by simpa using hT
    rw [hT] at h2
    simp [hT]
    refine (w22 130 _).use ?_
    rintro e S2 ⟨rfl, rfl⟩
    simp [NeR, need, hT, h1]
    exact ⟨_, _, _, h2⟩
theorem w40 {S : Heap} {pid : Nat} {l : List Tok} {k d : Nat} (ha : At S pid l k d) (s : Bs) : ACalls Tryz.prog (B0 w0) 40 [.ptr pid 0 0, .list .full [[.str s]]] S (NeR S pid k d (need 1 s l)) := by
  refine fn_sound tryOrd (f40_c _) (by simp [f40]) ?_
  simp [f40, f40m]
  refine mwp_loop (I := fun n a S' => (n = 1 ∧ get a 0 = .ptr pid 0 0 ∧ get a 6 = .list .full [[.str s]] ∧ get a 7 = .int 1 ∧ get a 8 = .int 0 ∧ S' = S) ∨ (n = 0 ∧ get a 7 = .int 1 ∧ get a 8 = .int 1 ∧ NeR S pid k d (need 1 s l) (.ret .undef) S')) (n := 1)
    (.inl ⟨rfl, rfl, rfl, rfl, rfl, rfl⟩) ?_
  rintro n a S' (⟨rfl, a0, a6, a7, a8, rfl⟩ | ⟨rfl, a7, a8, h⟩)
  · simp [f40b0, a0, a6, a7, a8]
    refine (w42 ha s).use ?_
    rintro e S1 ⟨h1, rfl, h2⟩
    by_cases hT : isT 1 s l = true
    · rw [hT] at h2
      simp [hT, a0, a6, a7, a8]
      refine ⟨by decide, ?_⟩
      simp [NeR, need, hT, h1]
      exact h2
    · have hT : isT 1 s l = false := by simpa using hT
      rw [hT] at h2
      simp [hT]
      refine (w22 130 _).use ?_
      rintro e S2 ⟨rfl, rfl⟩
      simp [NeR, need, hT, h1]
      exact ⟨_, _, _, h2⟩
  · simp [f40b0, a7, a8]
    exact h

abbrev NmR := PrR fun x : Bs => AVal.str x
theorem w43 {S : Heap} {pid : Nat} {l : List Tok} {k d : Nat} (ha : At S pid l k d) : ACalls Tryz.prog (B0 w0) 43 [.ptr pid 0 0] S (NmR S pid k d (nameR resv l)) := by
  refine ACalls.fin (pid := pid) ?_
  obtain ⟨v, hv, hp⟩ := ha.get
  have hg := hmoreG ha.lt
  have hs := hsetG ha.lt
  refine fn_sound tryOrd (f43_c _) (by simp [f43]) ?_
  simp [f43, f43m]
  refine (w39 ha).use ?_
  rintro e S1 ⟨rfl, rfl⟩
  cases l with
  | nil =>
    simp [zTok, tokC]
    refine (w22 130 _).use ?_
    rintro e S2 ⟨rfl, rfl⟩
    simp
    exact PrR.err (Step.refl _ _) ha
  | cons t r =>
    by_cases hk : t.kind = 1
    · simp [tokC, hk]
      refine (w81 t.text _).use ?_
      rintro e S2 ⟨rfl, rfl⟩
      by_cases hr : t.text ∈ resv
      · simp [hr]
        refine (w22 130 _).use ?_
        rintro e S3 ⟨rfl, rfl⟩
        simp
        rw [nameR, if_neg (by simp [hr])]
        exact PrR.err (Step.refl _ _) ha
      · obtain ⟨v', h1, h2⟩ := hv.tail
        simp [-slcR, hr, hg, hp, h2, hs, h1.one]
        rw [nameR, if_pos ⟨hk, hr⟩]
        exact PrR.ok (V := fun x : Bs => AVal.str x) (Step.set _) ⟨_, List.getElem?_set_self ha.lt, v', h1, rfl⟩ rfl
    · have h0 : (t.kind == 1) = false := beq_eq_false_iff_ne.2 hk
      simp [tokC, bne, h0]
      refine (w22 130 _).use ?_
      rintro e S2 ⟨rfl, rfl⟩
      simp
      rw [nameR, if_neg (by simp [hk])]
      exact PrR.err (Step.refl _ _) ha
end Go.Abs
set_option linter.unusedSimpArgs false
set_option linter.unusedVariables false
namespace Go.Abs
open Go Go.RowKit Go.Proofs Go.Lx Go.Pz
variable {w0 : World}

theorem exsV_rk (S : Heap) (l : List Ex) : Rk 7 S (exsV l) (l.map exC) := by
  cases l with
  | nil => rw [exsV]; exact .nils
  | cons x r => rw [exsV, exsL_map]; exact .list _ _
theorem depthL_append (a b : List Ex) : depthL (a ++ b) = max (depthL a) (depthL b) := by
  induction a with
  | nil => rw [List.nil_append, depthL_nil]; omega
  | cons x r ih => rw [List.cons_append, depthL_cons, depthL_cons, ih]; omega
theorem w_mem {x : Ex} {l : List Ex} (h : x ∈ l) : x.w + 1 ≤ wL l := by
  induction l with
  | nil => cases h
  | cons y r ih =>
    rw [wL_cons]
    rcases List.mem_cons.1 h with rfl | h
    · omega
    · have := ih h; omega
theorem w18 : ∀ (n : Nat), n < 4000000000000000000 → ∀ (x : Ex), x.w ≤ n → ∀ (S : Heap), ACalls Tryz.prog (B0 w0) 18 [.agg (exC x)] S fun e S' => e = .ret (.int x.depth) ∧ S' = S := by
  intro n
  induction n using Nat.strongRecOn with
  | _ n ih =>
    intro hn x hx S
    obtain ⟨op, args, kind, num, scale, text, qual⟩ := x
    rw [depth_mk]
    rw [w_mk] at hx
    have hal := wL_len args
    have hdl := depthL_le args
    refine ACalls.close (R := fun e S' => e = .ret (.int (depthL args)) ∧ S'.take S.length = S) ?_ ?_
    rotate_left 1
    · rintro e S' ⟨rfl, ht⟩
      exact .flat ht rfl ⟨rfl, rfl⟩
    have h1 : (exsV args).one = true ∧ cellsOf false (exsV args) = some [exsV args] := by
      cases args with
      | nil => rw [exsV]; exact ⟨rfl, rfl⟩
      | cons y r => rw [exsV]; exact ⟨rfl, rfl⟩
    have hlen : ∀ S, lenR S (exsV args) = .ok true (.int args.length) S := fun S => by have := (exsV_rk S args).lenR; simpa using this
    rw [exC_eq]
    refine fn_sound tryOrd (f18_c _) (by simp [f18]) ?_
    simp [f18, f18m, h1, hlen]
    refine mwp_loop (I := fun m a S' => ∃ (i : Nat) (g : Heap), m = args.length - i ∧ i ≤ args.length ∧ S' = S ++ g ∧ get a 7 = exsV args ∧ get a 8 = .int args.length ∧ get a 9 = .int i ∧ get a 3 = .int (depthL (args.take i))) (n := args.length)
      ⟨0, _, rfl, Nat.zero_le _, rfl, rfl, rfl, rfl, by simp [depthL_nil]⟩ ?_
    rintro m a S' ⟨i, g, rfl, hi, rfl, a7, a8, a9, a3⟩
    by_cases hlt : i < args.length
    · have hltI : (i : Int) < (args.length : Int) := by omega
      obtain ⟨p, q1, q2, _⟩ := (exsV_rk (S ++ g) args).elem (i := i) (by simpa using hlt) (by rw [getD_eq _ _ _ (by simpa using hlt)]; simp)
      have q3 := q2 true 7 (Nat.le_refl _)
      rw [getD_eq _ _ _ (by simpa using hlt)] at q3
      simp at q3
      have hmem := w_mem (List.getElem_mem hlt)
      have hd := ih (args[i].w) (by omega) (by omega) args[i] (Nat.le_refl _)
      have hdw := depth_le args[i]
      have htk : depthL (args.take (i + 1)) = max (depthL (args.take i)) (args[i].depth + 1) := by
        rw [List.take_add_one, List.getElem?_eq_getElem hlt, depthL_append, Option.toList_some, depthL_cons, depthL_nil]; omega
      have hw : IntKind.i64.wrap ((args[i].depth : Int) + 1) = ((args[i].depth + 1 : Nat) : Int) := wrapS _ (by omega)
      have hw2 := wrapS i (by omega)
      generalize args[i] = y at *
      simp [f18b0, a7, a8, a9, a3, hltI, q1, q3]
      refine (hd _).use ?_
      rintro e S1 ⟨rfl, rfl⟩
      simp [a7, a8, a9, a3, hw, hw2]
      refine ⟨args.length - (i + 1), by omega, i + 1, rfl, by omega, by simp, ?_⟩
      rw [htk]
      split <;> omega
    · have hie : i = args.length := by omega
      subst hie
      rw [List.take_length] at a3
      simp [f18b0, a7, a8, a9, a3]

/-- What an operator's reading answers. -/
def OpR (S : Heap) (pid k d : Nat) (l : List Tok) (r : Option (Int × List Tok)) (e : AEnd) (S' : Heap) : Prop :=
  Step pid S S' ∧ match r with
    | some (op, l') => e = .ret (.int op) ∧ At S' pid l' k d
    | none => e = .ret (.int 0) ∧ At S' pid l k d

/-- chain's loop. -/
def ChI (S : Heap) (pid k d n : Nat) (F : List Tok → Res Ex) (G : List Tok → Option (Int × List Tok)) (A O : AVal) (r : Res Ex) (m : Nat) (a : Tmps) (S' : Heap) : Prop :=
  ∃ (T : Heap) (x : Ex) (l' : List Tok), Step pid S T ∧ S' = T ++ [.cells 7 [[.int 0, .nilS, .int 0, .int 0, .int 0, .str [], .str []]] (some 1), .cells 7 [exC x] (some 1)] ∧ get a 1 = A ∧ get a 2 = O ∧ get a 6 = .ptr T.length 0 0 ∧ get a 7 = .ptr (T.length + 1) 0 0 ∧
    ((get a 8 = .int 0 ∧ r = .ok (x, l') ∧ At T pid l' k d) ∨ (∃ (op : Int) (l3 : List Tok), op ≠ 0 ∧ get a 8 = .int op ∧ G l' = some (op, l3) ∧ At T pid l3 k d ∧ l'.length ≤ n ∧ l'.length < m ∧ r = chainF F G m x l'))

set_option maxHeartbeats 1000000 in
theorem w120 {S : Heap} {pid k d n : Nat} {F : List Tok → Res Ex} {G : List Tok → Option (Int × List Tok)} (hF : Eats n F) (hG : EatsO G) (hG0 : ∀ l op l', G l = some (op, l') → op ≠ 0) {fa fo : FuncId} {a1 a2 o1 o2 : List AVal}
    (hA : ∀ T l, Kpt pid S T → At T pid l k d → l.length ≤ n → ACalls Tryz.prog (B0 w0) fa (a1 ++ a2) T (ExR T pid k d (F l)))
    (hO : ∀ T l, Kpt pid S T → At T pid l k d → ACalls Tryz.prog (B0 w0) fo (o1 ++ o2) T (OpR T pid k d l (G l)))
    {l : List Tok} (ha : At S pid l k d) (hl : l.length ≤ n) : ACalls Tryz.prog (B0 w0) 120 [.ptr pid 0 0, .clo (.func fa) a1 a2, .clo (.func fo) o1 o2] S (ExR S pid k d (chain F G l)) := by
  refine ACalls.fin (pid := pid) ?_
  refine fn_sound tryOrd (f120_c _) (by simp [f120]) ?_
  simp [f120, f120m]
  refine (hA _ _ ((Kpt.refl pid S).more _) (ha.more _) hl).use ?_
  rintro e S1 ⟨hst, h1⟩
  obtain ⟨T1, rfl, hst1⟩ := hst.split ha.lt
  cases hFl : F l with
  | error c =>
    rw [hFl] at h1
    obtain ⟨rfl, l', k', d', h2⟩ := h1
    simp
    rw [chain, hFl]
    exact PrR.err hst1 (h2.less (hst1.1 ▸ ha.lt))
  | ok y =>
    obtain ⟨x, l1⟩ := y
    rw [hFl] at h1
    obtain ⟨rfl, h2⟩ := h1
    have h2 := h2.less (hst1.1 ▸ ha.lt)
    have hg1 := hF _ _ _ hl hFl
    have hr : chain F G l = chainF F G (l1.length + 1) x l1 := by rw [chain, hFl]
    have e0 := hst1.1
    simp
    refine (hO _ _ (hst1.kpt.more _) (h2.more _)).use ?_
    rintro e S2 ⟨hst, h3⟩
    obtain ⟨T2, rfl, hst2⟩ := hst.split h2.lt
    have hst02 := hst1.trans hst2
    have e1 := hst2.1
    have inv0 : ∃ o : Int, e = .ret (.int o) ∧ ((o = 0 ∧ chain F G l = .ok (x, l1) ∧ At T2 pid l1 k d) ∨ (o ≠ 0 ∧ ∃ l3, G l1 = some (o, l3) ∧ At T2 pid l3 k d)) := by
      cases hGl : G l1 with
      | none =>
        rw [hGl] at h3
        exact ⟨0, h3.1, .inl ⟨rfl, by rw [hr, chainF, hGl], h3.2.less (hst2.1 ▸ h2.lt)⟩⟩
      | some q =>
        obtain ⟨op, l3⟩ := q
        rw [hGl] at h3
        exact ⟨op, h3.1, .inr ⟨hG0 _ _ _ hGl, l3, rfl, h3.2.less (hst2.1 ▸ h2.lt)⟩⟩
    obtain ⟨o, rfl, hinv⟩ := inv0
    simp
    refine mwp_loop (I := ChI S pid k d n F G (.clo (.func fa) a1 a2) (.clo (.func fo) o1 o2) (chain F G l)) (n := l1.length + 1) ?_ ?_
    · refine ⟨T2, x, l1, hst02, by simp, rfl, rfl, by simp [e0, e1], by simp [e1], ?_⟩
      rcases hinv with ⟨rfl, h4, h5⟩ | ⟨h4, l3, h5, h6⟩
      · exact .inl ⟨rfl, h4, h5⟩
      · exact .inr ⟨o, l3, h4, rfl, h5, h6, by omega, by omega, hr⟩
    clear hst1 hst2 hst02 h2 h3 hinv hr hg1 hFl e0 e1
    rintro m a S' ⟨T, x, l', hst, rfl, b1, b2, b6, b7, hc⟩
    rcases hc with ⟨b8, h4, h5⟩ | ⟨op, l3, h4, b8, h5, h6, h7, h8, h9⟩
    · simp [f120b0, b1, b2, b6, b7, b8]
      rw [h4]
      have e0 := hst.1
      exact PrR.ok hst h5 (by simp)
    · obtain ⟨q, rfl⟩ : ∃ q, m = q + 1 := ⟨m - 1, by omega⟩
      have h4' : (op != 0) = true := by simpa using h4
      have hl3 := hG _ _ _ h5
      simp [f120b0, b1, b2, b6, b7, b8, h4']
      refine (hA _ _ (hst.kpt.more _) (h6.more _) (by omega)).use ?_
      rintro e S3 ⟨hsq3, h10⟩
      obtain ⟨T3, rfl, hst3⟩ := hsq3.split h6.lt
      have hst03 := hst.trans hst3
      have e3 := hst3.1
      rw [chainF, h5] at h9
      simp only at h9
      cases hF3 : F l3 with
      | error c =>
        rw [hF3] at h10 h9
        obtain ⟨rfl, l', k', d', h11⟩ := h10
        simp
        rw [h9]
        exact PrR.err hst03 (h11.less (hst3.1 ▸ h6.lt))
      | ok y =>
        obtain ⟨y, l4⟩ := y
        rw [hF3] at h10 h9
        obtain ⟨rfl, h11⟩ := h10
        have h11 := h11.less (hst3.1 ▸ h6.lt)
        have hg3 := hF _ _ _ (by omega) hF3
        have hb : exC (.bin op x y) = [.int op, .list .full [exC x, exC y], .int 0, .int 0, .int 0, .str [], .str []] := by rw [exC_eq, exsV_two]
        simp only at h9
        simp [b1, b2, b6, b7, b8, e3]
        refine (hO _ _ (hst03.kpt.more _) (h11.more _)).use ?_
        rintro e S4 ⟨hsq4, h12⟩
        obtain ⟨T4, rfl, hst4⟩ := hsq4.split h11.lt
        have hst04 := hst03.trans hst4
        have e4 := hst4.1
        cases hG4 : G l4 with
        | none =>
          rw [hG4] at h12
          obtain ⟨rfl, h12⟩ := h12
          obtain ⟨q', rfl⟩ : ∃ q', q = q' + 1 := ⟨q - 1, by omega⟩
          rw [chainF, hG4] at h9
          simp [b1, b2, b6, b7, e3, e4]
          exact ⟨0, by omega, T4, .bin op x y, l4, hst04, by rw [hb], by simp [b1], by simp [b2], by simp [b6, e3, e4], by simp [b7, e3, e4], .inl ⟨by simp, h9, h12.less (hst4.1 ▸ h11.lt)⟩⟩
        | some z =>
          obtain ⟨op', l5⟩ := z
          rw [hG4] at h12
          obtain ⟨rfl, h12⟩ := h12
          simp [b1, b2, b6, b7, e3, e4]
          exact ⟨q, by omega, T4, .bin op x y, l4, hst04, by rw [hb], by simp [b1], by simp [b2], by simp [b6, e3, e4], by simp [b7, e3, e4], .inr ⟨op', l5, hG0 _ _ _ hG4, by simp, hG4, h12.less (hst4.1 ▸ h11.lt), by omega, by omega, h9⟩⟩
end Go.Abs
set_option linter.unusedSimpArgs false
set_option linter.unusedVariables false
namespace Go.Abs
open Go Go.RowKit Go.Proofs Go.Lx Go.Pz
variable {w0 : World}

/-- What a reading of a word or sign answers. -/
def SkR (S : Heap) (pid k d : Nat) (kd : Int) (s : Bs) (l : List Tok) (e : AEnd) (S' : Heap) : Prop :=
  Step pid S S' ∧ e = .ret (.bool (isT kd s l)) ∧ At S' pid (if isT kd s l then l.tail else l) k d

theorem stripN_cons {kd : Int} {s : Bs} {l : List Tok} (h : isT kd s l = true) : stripN kd s l = stripN kd s l.tail + 1 := by
  cases l with
  | nil => cases h
  | cons t r =>
    have : t.kind = kd ∧ t.text = s := by simpa [isT] using h
    rw [stripN, if_pos this]; rfl
theorem stripN_no {kd : Int} {s : Bs} {l : List Tok} (h : isT kd s l = false) : stripN kd s l = 0 := by
  cases l with
  | nil => rfl
  | cons t r =>
    have : ¬ (t.kind = kd ∧ t.text = s) := by simpa [isT] using h
    rw [stripN, if_neg this]
theorem wrap_succ (op : Int) (n : Nat) (x : Ex) : wrap op (n + 1) x = wrap op n (.un op x) := rfl

abbrev zEx : AObj := .cells 7 [[.int 0, .nilS, .int 0, .int 0, .int 0, .str [], .str []]] (some 1)
/-- aheadP's loops. -/
def AhI1 (S : Heap) (pid k d : Nat) (op kd : Int) (s : Bs) (A O : AVal) (l : List Tok) (m : Nat) (a : Tmps) (S' : Heap) : Prop :=
  ∃ (T : Heap) (l' : List Tok) (c : Nat), Step pid S T ∧ S' = T ++ [zEx] ∧ get a 0 = .int op ∧ get a 1 = A ∧ get a 2 = O ∧ get a 6 = .ptr T.length 0 0 ∧ get a 7 = .int c ∧
    At T pid l' k d ∧ m = l'.length ∧ l' = l.drop c ∧ c + l'.length = l.length ∧ stripN kd s l = c + stripN kd s l'
def AhI2 (T2 : Heap) (op : Int) (c : Nat) (r : Ex) (m : Nat) (a : Tmps) (S' : Heap) : Prop :=
  ∃ (x : Ex) (i : Nat), m = c - i ∧ i ≤ c ∧ S' = T2 ++ [zEx, .cells 7 [exC x] (some 1)] ∧ get a 0 = .int op ∧ get a 6 = .ptr T2.length 0 0 ∧ get a 8 = .ptr (T2.length + 1) 0 0 ∧ get a 15 = .int c ∧ get a 16 = .int i ∧ wrap op (c - i) x = r

set_option maxHeartbeats 1000000 in
theorem w136 {S : Heap} {pid k d n : Nat} {op kd : Int} {s : Bs} {F : List Tok → Res Ex} {fa fo : FuncId} {a1 a2 o1 o2 : List AVal}
    (hA : ∀ T l, Kpt pid S T → At T pid l k d → ACalls Tryz.prog (B0 w0) fa (a1 ++ a2) T (SkR T pid k d kd s l))
    (hO : ∀ T l, Kpt pid S T → At T pid l k d → l.length ≤ n → ACalls Tryz.prog (B0 w0) fo (o1 ++ o2) T (ExR T pid k d (F l)))
    {l : List Tok} (ha : At S pid l k d) (hl : l.length ≤ n) (hn : n ≤ 1000000) : ACalls Tryz.prog (B0 w0) 136 [.int op, .clo (.func fa) a1 a2, .clo (.func fo) o1 o2] S (ExR S pid k d (aheadP op kd s F l)) := by
  refine ACalls.fin (pid := pid) ?_
  refine fn_sound tryOrd (f136_c _) (by simp [f136]) ?_
  simp [f136, f136m]
  refine mwp_loop (I := AhI1 S pid k d op kd s (.clo (.func fa) a1 a2) (.clo (.func fo) o1 o2) l) (n := l.length) ⟨S, l, 0, Step.refl _ _, rfl, rfl, rfl, rfl, rfl, rfl, ha, rfl, rfl, by simp, by simp⟩ ?_
  rintro m a S' ⟨T, l', c, hst, rfl, b0, b1, b2, b6, b7, h1, rfl, h2, h3, h4⟩
  have e0 := hst.1
  simp [f136b0, b0, b1, b2, b6, b7]
  refine (hA _ _ (hst.kpt.more _) (h1.more _)).use ?_
  rintro e S1 ⟨hsq1, rfl, h5⟩
  obtain ⟨T1, rfl, hst1⟩ := hsq1.split h1.lt
  have hst01 := hst.trans hst1
  have e1 := hst1.1
  have h5 := h5.less (hst1.1 ▸ h1.lt)
  by_cases hT : isT kd s l' = true
  · have hlen := isT_len hT
    have hw := wrapS c (by omega)
    rw [hT] at h5
    rw [stripN_cons hT] at h4
    simp [hT, b0, b1, b2, b6, b7, hw, e1]
    exact ⟨l'.length - 1, by omega, T1, l'.tail, c + 1, hst01, rfl, by simp [b0], by simp [b1], by simp [b2], by simp [b6, e1], by simp, h5, by simp, by rw [h2, List.tail_drop], by omega, by omega⟩
  · have hT : isT kd s l' = false := by simpa using hT
    rw [hT] at h5
    simp only [Bool.false_eq_true, if_false] at h5
    rw [stripN_no hT] at h4
    have hc : stripN kd s l = c := by omega
    have hr : aheadP op kd s F l = match F l' with
      | .error c => .error c
      | .ok (e, l'') => .ok (wrap op c e, l'') := by
      rw [aheadP, hc, ← h2]
      rcases F l' with _ | ⟨_, _⟩ <;> rfl
    simp [hT, b0, b1, b2, b6, b7, e1]
    refine (hO _ _ (hst01.kpt.more _) (h5.more _) (by omega)).use ?_
    rintro e S2 ⟨hsq2, h6⟩
    obtain ⟨T2, rfl, hst2⟩ := hsq2.split h5.lt
    have hst02 := hst01.trans hst2
    have e2 := hst2.1
    cases hF : F l' with
    | error cc =>
      rw [hF] at h6 hr
      obtain ⟨rfl, l2, k', d', h7⟩ := h6
      simp
      rw [hr]
      exact PrR.err hst02 (h7.less (hst2.1 ▸ h5.lt))
    | ok y =>
      obtain ⟨x0, l2⟩ := y
      rw [hF] at h6 hr
      obtain ⟨rfl, h7⟩ := h6
      have h7 := h7.less (hst2.1 ▸ h5.lt)
      simp [b0, b1, b2, b6, b7, e1, e2]
      refine mwp_loop (I := AhI2 T2 op c (wrap op c x0)) (n := c) ⟨x0, 0, rfl, Nat.zero_le _, rfl, by simp [b0], by simp [b6, e1, e2], by simp [e1, e2], by simp, by simp, by simp⟩ ?_
      clear b0 b1 b2 b6 b7
      rintro m a S' ⟨x, i, rfl, hi, rfl, b0, b6, b8, b15, b16, hx⟩
      by_cases hlt : i < c
      · have hltI : (i : Int) < (c : Int) := by omega
        have hw := wrapS i (by omega)
        have hb : exC (.un op x) = [.int op, .list .full [exC x], .int 0, .int 0, .int 0, .str [], .str []] := by rw [exC_eq, exsV_one]
        have hci : c - i = (c - (i + 1)) + 1 := by omega
        rw [hci, wrap_succ] at hx
        simp [f136b1, b0, b6, b8, b15, b16, hltI, hw]
        exact ⟨c - (i + 1), by omega, .un op x, i + 1, rfl, by omega, by rw [hb], by simp [b0], by simp [b6], by simp [b8], by simp [b15], by simp, hx⟩
      · have hie : i = c := by omega
        subst hie
        rw [Nat.sub_self] at hx
        simp [f136b1, b0, b6, b8, b15, b16]
        have hx : x = wrap op i x0 := hx
        rw [hr]
        show Fin S pid (ExR S pid k d (.ok (wrap op i x0, l2))) _ _
        rw [← hx]
        exact PrR.ok hst02 h7 (by simp)

/-- Signs, one of which may stand there. -/
theorem w140 {S : Heap} {pid k d : Nat} {l : List Tok} (ha : At S pid l k d) (ss : List Bs) (first : Int) (h0 : 0 ≤ first) (h1 : first ≤ 100) (hss : ss.length ≤ 100) :
    ACalls Tryz.prog (B0 w0) 140 [.ptr pid 0 0, .list .full (ss.map fun s => [.str s]), .int first] S (OpR S pid k d l (operS ss first l)) := by
  refine fn_sound tryOrd (f140_c _) (by simp [f140]) ?_
  simp [f140, f140m]
  refine mwp_loop (I := fun m a S' => ∃ (i : Nat), m = ss.length - i ∧ i ≤ ss.length ∧ Step pid S S' ∧ At S' pid l k d ∧ get a 0 = .ptr pid 0 0 ∧ get a 2 = .int first ∧ get a 9 = .list .full (ss.map fun s => [.str s]) ∧ get a 10 = .int ss.length ∧ get a 11 = .int i ∧
    operS ss first l = operS (ss.drop i) (first + i) l) (n := ss.length) ⟨0, rfl, Nat.zero_le _, Step.refl _ _, ha, rfl, rfl, rfl, rfl, rfl, by simp⟩ ?_
  rintro m a S' ⟨i, rfl, hi, hst, h2, b0, b2, b9, b10, b11, h3⟩
  by_cases hlt : i < ss.length
  · have hltI : (i : Int) < (ss.length : Int) := by omega
    have hw := wrapS i (by omega)
    have hw2 : IntKind.i64.wrap (first + (i : Int)) = first + i := by rw [wrap64_in (by omega) (by omega)]
    rw [List.drop_eq_getElem_cons hlt, operS] at h3
    simp [f140b0, b0, b2, b9, b10, b11, hltI, hlt]
    refine (w85 h2 _).use ?_
    rintro e S1 ⟨hst1, rfl, h4⟩
    by_cases hT : isT 5 ss[i] l = true
    · rw [if_pos hT] at h3
      rw [hT] at h4
      simp [hT, b0, b2, b9, b10, b11, hw2]
      rw [h3]
      exact ⟨hst.trans hst1, rfl, h4⟩
    · have hT : isT 5 ss[i] l = false := by simpa using hT
      rw [hT] at h3 h4
      simp [hT, b0, b2, b9, b10, b11, hw]
      refine ⟨ss.length - (i + 1), by omega, i + 1, rfl, by omega, hst.trans hst1, h4, by simp, ?_⟩
      rw [h3]
      simp only [Bool.false_eq_true, if_false]
      congr 1
      omega
  · have hie : i = ss.length := by omega
    subst hie
    rw [List.drop_length, operS] at h3
    simp [f140b0, b0, b2, b9, b10, b11]
    rw [h3]
    exact ⟨hst, rfl, h2⟩

section
variable {S : Heap} {pid k d b : Nat} {l : List Tok} (hb : S[b]? = some (.cells 1 [[.ptr pid 0 0]] (some 1))) (ha : At S pid l k d)
include hb ha
theorem w122 : ACalls Tryz.prog (B0 w0) 122 [.ptr b 0 0] S (OpR S pid k d l (opOr l)) := by
  refine fn_sound tryOrd (f122_c _) (by simp [f122]) ?_
  simp [f122, f122m, hb]
  refine (w42 ha _).use ?_
  rintro e S1 ⟨h1, rfl, h2⟩
  rw [opOr]
  by_cases hT : isT 1 [111, 114] l = true
  · rw [hT] at h2
    simp [hT]
    exact ⟨h1, rfl, h2⟩
  · have hT : isT 1 [111, 114] l = false := by simpa using hT
    rw [hT] at h2
    simp [hT]
    exact ⟨h1, rfl, h2⟩
theorem w132 : ACalls Tryz.prog (B0 w0) 132 [.ptr b 0 0] S (OpR S pid k d l (opAnd l)) := by
  refine fn_sound tryOrd (f132_c _) (by simp [f132]) ?_
  simp [f132, f132m, hb]
  refine (w42 ha _).use ?_
  rintro e S1 ⟨h1, rfl, h2⟩
  rw [opAnd]
  by_cases hT : isT 1 [97, 110, 100] l = true
  · rw [hT] at h2
    simp [hT]
    exact ⟨h1, rfl, h2⟩
  · have hT : isT 1 [97, 110, 100] l = false := by simpa using hT
    rw [hT] at h2
    simp [hT]
    exact ⟨h1, rfl, h2⟩
theorem w142 : ACalls Tryz.prog (B0 w0) 142 [.ptr b 0 0] S (OpR S pid k d l (opSum l)) := by
  refine fn_sound tryOrd (f142_c _) (by simp [f142]) ?_
  have hbp : b ≠ pid := fun e => by
    subst e
    obtain ⟨v, _, h⟩ := ha.get
    rw [hb] at h; cases h
  simp [f142, f142m, hb]
  refine (w85 ha _).use ?_
  rintro e S1 ⟨h1, rfl, h2⟩
  by_cases hT : isT 5 [124, 124] l = true
  · rw [show opSum l = some (12, l.tail) by rw [opSum, if_pos hT]]
    rw [hT] at h2
    simp [hT]
    exact ⟨h1, rfl, h2⟩
  · have hT : isT 5 [124, 124] l = false := by simpa using hT
    rw [show opSum l = operS [[43], [45]] 7 l by rw [opSum, if_neg (by simp [hT])]]
    rw [hT] at h2
    simp only [Bool.false_eq_true, if_false] at h2
    have hb1 := (h1.2 b hbp).trans hb
    simp [hT, hb1]
    refine (w140 (ss := [[43], [45]]) h2 7 (by decide) (by decide) (by decide)).use ?_
    rintro e S2 ⟨h3, h4⟩
    cases hr : operS [[43], [45]] 7 l with
    | none => rw [hr] at h4; obtain ⟨rfl, h4⟩ := h4; simp; exact ⟨h1.trans h3, rfl, h4⟩
    | some y => obtain ⟨op, l'⟩ := y; rw [hr] at h4; obtain ⟨rfl, h4⟩ := h4; simp; exact ⟨h1.trans h3, rfl, h4⟩
theorem w144 : ACalls Tryz.prog (B0 w0) 144 [.ptr b 0 0] S (OpR S pid k d l (opMul l)) := by
  refine fn_sound tryOrd (f144_c _) (by simp [f144]) ?_
  simp [f144, f144m, hb]
  refine (w140 (ss := [[42], [47], [37]]) ha 9 (by decide) (by decide) (by decide)).use ?_
  rintro e S2 ⟨h3, h4⟩
  rw [opMul]
  cases hr : operS [[42], [47], [37]] 9 l with
  | none => rw [hr] at h4; obtain ⟨rfl, h4⟩ := h4; simp; exact ⟨h3, rfl, h4⟩
  | some y => obtain ⟨op, l'⟩ := y; rw [hr] at h4; obtain ⟨rfl, h4⟩ := h4; simp; exact ⟨h3, rfl, h4⟩
theorem w137 : ACalls Tryz.prog (B0 w0) 137 [.ptr b 0 0] S (SkR S pid k d 1 [110, 111, 116] l) := by
  refine fn_sound tryOrd (f137_c _) (by simp [f137]) ?_
  simp [f137, f137m, hb]
  refine (w42 ha _).use ?_
  rintro e S1 ⟨h1, rfl, h2⟩
  simp
  exact ⟨h1, rfl, h2⟩
theorem w145 : ACalls Tryz.prog (B0 w0) 145 [.ptr b 0 0] S (SkR S pid k d 5 [45] l) := by
  refine fn_sound tryOrd (f145_c _) (by simp [f145]) ?_
  simp [f145, f145m, hb]
  refine (w85 ha _).use ?_
  rintro e S1 ⟨h1, rfl, h2⟩
  simp
  exact ⟨h1, rfl, h2⟩
end
end Go.Abs
set_option linter.unusedSimpArgs false
set_option linter.unusedVariables false
namespace Go.Abs
open Go Go.RowKit Go.Proofs Go.Lx Go.Pz
variable {w0 : World}

/-- An expression's reading, of n tokens at most. -/
def ESpec (w0 : World) (f : FuncId) (pid k d n : Nat) (F : List Tok → Res Ex) : Prop := ∀ (S : Heap) (l : List Tok), At S pid l k d → l.length ≤ n → ACalls Tryz.prog (B0 w0) f [.ptr pid 0 0] S (ExR S pid k d (F l))

theorem Kpt.box {pid : Nat} {S T : Heap} {o : AObj} {g : Heap} (h : Kpt pid (S ++ o :: g) T) (hp : pid < S.length) : T[S.length]? = some o := by
  rw [h.2 S.length (by simp) (by omega)]; simp

theorem operS_ne (ss : List Bs) : ∀ (q : Int), 0 < q → ∀ l op l', operS ss q l = some (op, l') → op ≠ 0 := by
  induction ss with
  | nil => intro q hq l op l' h; cases h
  | cons s r ih =>
    intro q hq l op l' h
    rw [operS] at h
    split at h
    · simp only [Option.some.injEq, Prod.mk.injEq] at h; omega
    · exact ih _ (by omega) l op l' h
theorem opOr_ne : ∀ l op l', opOr l = some (op, l') → op ≠ 0 := fun l op l' h => by
  rw [opOr] at h; split at h
  · simp only [Option.some.injEq, Prod.mk.injEq] at h; omega
  · cases h
theorem opAnd_ne : ∀ l op l', opAnd l = some (op, l') → op ≠ 0 := fun l op l' h => by
  rw [opAnd] at h; split at h
  · simp only [Option.some.injEq, Prod.mk.injEq] at h; omega
  · cases h
theorem opSum_ne : ∀ l op l', opSum l = some (op, l') → op ≠ 0 := fun l op l' h => by
  rw [opSum] at h; split at h
  · simp only [Option.some.injEq, Prod.mk.injEq] at h; omega
  · exact operS_ne _ 7 (by decide) _ _ _ h
theorem opMul_ne : ∀ l op l', opMul l = some (op, l') → op ≠ 0 := operS_ne _ 9 (by decide)
section
variable {pid k d n : Nat} {E : Nat → List Tok → Res Ex}

theorem minus_s (hn : n ≤ 1000000) (h : ESpec w0 146 pid k d n (oneP resv E k)) : ESpec w0 143 pid k d n (minusP resv E k) := fun S l ha hl => by
  refine ACalls.fin (pid := pid) ?_
  refine fn_sound tryOrd (f143_c _) (by simp [f143]) ?_
  simp [f143, f143m]
  refine (w136 (k := k) (d := d) (n := n) (kd := 5) (s := [45]) (F := oneP resv E k) (a1 := []) (o2 := []) (fun T l hk ha => w145 (hk.box ‹At S pid _ _ _›.lt) ha) (fun T l _ ha hl => h T l ha hl) (ha.more _) hl hn).use ?_
  rintro e S1 ⟨hst, h1⟩
  obtain ⟨T1, rfl, hst1⟩ := hst.split ha.lt
  have e0 := hst1.1
  have hm : minusP resv E k l = aheadP 13 5 [45] (oneP resv E k) l := rfl
  rw [hm]
  cases hF : aheadP 13 5 [45] (oneP resv E k) l with
  | error c =>
    rw [hF] at h1
    obtain ⟨rfl, l', k', d', h2⟩ := h1
    simp
    exact PrR.err hst1 (h2.less (hst1.1 ▸ ha.lt))
  | ok y =>
    obtain ⟨x, l'⟩ := y
    rw [hF] at h1
    obtain ⟨rfl, h2⟩ := h1
    simp [e0]
    exact PrR.ok hst1 (h2.less (hst1.1 ▸ ha.lt)) (by simp)

theorem not_s (hn : n ≤ 1000000) (h : ESpec w0 138 pid k d n (testP resv E k)) : ESpec w0 131 pid k d n (notP resv E k) := fun S l ha hl => by
  refine ACalls.fin (pid := pid) ?_
  refine fn_sound tryOrd (f131_c _) (by simp [f131]) ?_
  simp [f131, f131m]
  refine (w136 (k := k) (d := d) (n := n) (kd := 1) (s := [110, 111, 116]) (F := testP resv E k) (a1 := []) (o2 := []) (fun T l hk ha => w137 (hk.box ‹At S pid _ _ _›.lt) ha) (fun T l _ ha hl => h T l ha hl) (ha.more _) hl hn).use ?_
  rintro e S1 ⟨hst, h1⟩
  obtain ⟨T1, rfl, hst1⟩ := hst.split ha.lt
  have e0 := hst1.1
  have hm : notP resv E k l = aheadP 16 1 [110, 111, 116] (testP resv E k) l := rfl
  rw [hm]
  cases hF : aheadP 16 1 [110, 111, 116] (testP resv E k) l with
  | error c =>
    rw [hF] at h1
    obtain ⟨rfl, l', k', d', h2⟩ := h1
    simp
    exact PrR.err hst1 (h2.less (hst1.1 ▸ ha.lt))
  | ok y =>
    obtain ⟨x, l'⟩ := y
    rw [hF] at h1
    obtain ⟨rfl, h2⟩ := h1
    simp [e0]
    exact PrR.ok hst1 (h2.less (hst1.1 ▸ ha.lt)) (by simp)

theorem term_s (hG : Eats n (minusP resv E k)) (h : ESpec w0 143 pid k d n (minusP resv E k)) : ESpec w0 141 pid k d n (termP resv E k) := fun S l ha hl => by
  refine ACalls.fin (pid := pid) ?_
  refine fn_sound tryOrd (f141_c _) (by simp [f141]) ?_
  simp [f141, f141m]
  refine (w120 (k := k) (d := d) hG opMul_good opMul_ne (a2 := []) (o1 := []) (fun T l _ ha hl => h T l ha hl) (fun T l hk ha => w144 (hk.box ‹At S pid _ _ _›.lt) ha) (ha.more _) hl).use ?_
  rintro e S1 ⟨hst, h1⟩
  obtain ⟨T1, rfl, hst1⟩ := hst.split ha.lt
  have e0 := hst1.1
  rw [show termP resv E k l = chain (minusP resv E k) opMul l from rfl]
  cases hF : chain (minusP resv E k) opMul l with
  | error c =>
    rw [hF] at h1
    obtain ⟨rfl, l', k', d', h2⟩ := h1
    simp
    exact PrR.err hst1 (h2.less (hst1.1 ▸ ha.lt))
  | ok y =>
    obtain ⟨x, l'⟩ := y
    rw [hF] at h1
    obtain ⟨rfl, h2⟩ := h1
    simp [e0]
    exact PrR.ok hst1 (h2.less (hst1.1 ▸ ha.lt)) (by simp)
theorem sum_s (hG : Eats n (termP resv E k)) (h : ESpec w0 141 pid k d n (termP resv E k)) : ESpec w0 139 pid k d n (sumP resv E k) := fun S l ha hl => by
  refine ACalls.fin (pid := pid) ?_
  refine fn_sound tryOrd (f139_c _) (by simp [f139]) ?_
  simp [f139, f139m]
  refine (w120 (k := k) (d := d) hG opSum_good opSum_ne (a2 := []) (o1 := []) (fun T l _ ha hl => h T l ha hl) (fun T l hk ha => w142 (hk.box ‹At S pid _ _ _›.lt) ha) (ha.more _) hl).use ?_
  rintro e S1 ⟨hst, h1⟩
  obtain ⟨T1, rfl, hst1⟩ := hst.split ha.lt
  have e0 := hst1.1
  rw [show sumP resv E k l = chain (termP resv E k) opSum l from rfl]
  cases hF : chain (termP resv E k) opSum l with
  | error c =>
    rw [hF] at h1
    obtain ⟨rfl, l', k', d', h2⟩ := h1
    simp
    exact PrR.err hst1 (h2.less (hst1.1 ▸ ha.lt))
  | ok y =>
    obtain ⟨x, l'⟩ := y
    rw [hF] at h1
    obtain ⟨rfl, h2⟩ := h1
    simp [e0]
    exact PrR.ok hst1 (h2.less (hst1.1 ▸ ha.lt)) (by simp)
theorem both_s (hG : Eats n (notP resv E k)) (h : ESpec w0 131 pid k d n (notP resv E k)) : ESpec w0 121 pid k d n (bothP resv E k) := fun S l ha hl => by
  refine ACalls.fin (pid := pid) ?_
  refine fn_sound tryOrd (f121_c _) (by simp [f121]) ?_
  simp [f121, f121m]
  refine (w120 (k := k) (d := d) hG opAnd_good opAnd_ne (a2 := []) (o1 := []) (fun T l _ ha hl => h T l ha hl) (fun T l hk ha => w132 (hk.box ‹At S pid _ _ _›.lt) ha) (ha.more _) hl).use ?_
  rintro e S1 ⟨hst, h1⟩
  obtain ⟨T1, rfl, hst1⟩ := hst.split ha.lt
  have e0 := hst1.1
  rw [show bothP resv E k l = chain (notP resv E k) opAnd l from rfl]
  cases hF : chain (notP resv E k) opAnd l with
  | error c =>
    rw [hF] at h1
    obtain ⟨rfl, l', k', d', h2⟩ := h1
    simp
    exact PrR.err hst1 (h2.less (hst1.1 ▸ ha.lt))
  | ok y =>
    obtain ⟨x, l'⟩ := y
    rw [hF] at h1
    obtain ⟨rfl, h2⟩ := h1
    simp [e0]
    exact PrR.ok hst1 (h2.less (hst1.1 ▸ ha.lt)) (by simp)
theorem either_s (hG : Eats n (bothP resv E k)) (h : ESpec w0 121 pid k d n (bothP resv E k)) : ESpec w0 107 pid k d n (eitherP resv E k) := fun S l ha hl => by
  refine ACalls.fin (pid := pid) ?_
  refine fn_sound tryOrd (f107_c _) (by simp [f107]) ?_
  simp [f107, f107m]
  refine (w120 (k := k) (d := d) hG opOr_good opOr_ne (a2 := []) (o1 := []) (fun T l _ ha hl => h T l ha hl) (fun T l hk ha => w122 (hk.box ‹At S pid _ _ _›.lt) ha) (ha.more _) hl).use ?_
  rintro e S1 ⟨hst, h1⟩
  obtain ⟨T1, rfl, hst1⟩ := hst.split ha.lt
  have e0 := hst1.1
  rw [show eitherP resv E k l = chain (bothP resv E k) opOr l from rfl]
  cases hF : chain (bothP resv E k) opOr l with
  | error c =>
    rw [hF] at h1
    obtain ⟨rfl, l', k', d', h2⟩ := h1
    simp
    exact PrR.err hst1 (h2.less (hst1.1 ▸ ha.lt))
  | ok y =>
    obtain ⟨x, l'⟩ := y
    rw [hF] at h1
    obtain ⟨rfl, h2⟩ := h1
    simp [e0]
    exact PrR.ok hst1 (h2.less (hst1.1 ▸ ha.lt)) (by simp)

set_option maxHeartbeats 1000000 in
theorem test_s (hG : Eats n (sumP resv E k)) (h : ESpec w0 139 pid k d n (sumP resv E k)) : ESpec w0 138 pid k d n (testP resv E k) := fun S l ha hl => by
  obtain ⟨r, hr⟩ : ∃ r, testP resv E k l = r := ⟨_, rfl⟩
  rw [hr]
  rw [testP] at hr
  refine ACalls.fin (pid := pid) ?_
  refine fn_sound tryOrd (f138_c _) (by simp [f138]) ?_
  simp [f138, f138m]
  refine (h _ _ (ha.more _) hl).use ?_
  rintro e S1 ⟨hst, h1⟩
  obtain ⟨T1, rfl, hst1⟩ := hst.split ha.lt
  have e1 := hst1.1
  cases hF : sumP resv E k l with
  | error c =>
    rw [hF] at h1 hr
    simp only at hr
    obtain ⟨rfl, l', k', d', h2⟩ := h1
    simp
    subst hr
    exact PrR.err hst1 (h2.less (hst1.1 ▸ ha.lt))
  | ok y =>
    obtain ⟨x, l1⟩ := y
    rw [hF] at h1 hr
    simp only at hr
    obtain ⟨rfl, h2⟩ := h1
    have h2 := h2.less (hst1.1 ▸ ha.lt)
    have hl1 := hG _ _ _ hl hF
    simp [e1]
    refine (w140 (ss := [[61], [60, 62], [60], [60, 61], [62], [62, 61]]) (h2.more _) 1 (by decide) (by decide) (by decide)).use ?_
    rintro e S2 ⟨hsq2, h3⟩
    obtain ⟨T2, rfl, hst2⟩ := hsq2.split h2.lt
    have e2 := hst2.1
    have hst02 := hst1.trans hst2
    rw [show opTest l1 = operS [[61], [60, 62], [60], [60, 61], [62], [62, 61]] 1 l1 from rfl] at hr
    cases hO : operS [[61], [60, 62], [60], [60, 61], [62], [62, 61]] 1 l1 with
    | some z =>
      obtain ⟨op, l2⟩ := z
      rw [hO] at h3 hr
      simp only at hr
      obtain ⟨rfl, h3⟩ := h3
      have h3 := h3.less (hst2.1 ▸ h2.lt)
      have hne : (op != 0) = true := by simpa using operS_ne _ 1 (by decide) _ _ _ hO
      have hl2 := operS_good _ _ _ _ _ hO
      simp [hne, e2]
      refine (h _ _ (h3.more _) (by omega)).use ?_
      rintro e S3 ⟨hsq3, h4⟩
      obtain ⟨T3, rfl, hst3⟩ := hsq3.split h3.lt
      have e3 := hst3.1
      have hst03 := hst02.trans hst3
      cases hF2 : sumP resv E k l2 with
      | error c =>
        rw [hF2] at h4 hr
        simp only at hr
        obtain ⟨rfl, l', k', d', h5⟩ := h4
        simp
        subst hr
        exact PrR.err hst03 (h5.less (hst3.1 ▸ h3.lt))
      | ok y2 =>
        obtain ⟨x2, l3⟩ := y2
        rw [hF2] at h4 hr
        simp only at hr
        obtain ⟨rfl, h5⟩ := h4
        have hb : exC (.bin op x x2) = [.int op, .list .full [exC x, exC x2], .int 0, .int 0, .int 0, .str [], .str []] := by rw [exC_eq, exsV_two]
        simp [e3]
        rw [← hb]
        subst hr
        exact PrR.ok hst03 (h5.less (hst3.1 ▸ h3.lt)) (by simp)
    | none =>
      rw [hO] at h3 hr
      simp only at hr
      obtain ⟨rfl, h3⟩ := h3
      have h3 := h3.less (hst2.1 ▸ h2.lt)
      simp [e2]
      refine (w42 (h3.more _) _).use ?_
      rintro e S3 ⟨hsq3, rfl, h4⟩
      obtain ⟨T3, rfl, hst3⟩ := hsq3.split h3.lt
      have e3 := hst3.1
      have hst03 := hst02.trans hst3
      have h4 := h4.less (hst3.1 ▸ h3.lt)
      by_cases hI : isT 1 [105, 115] l1 = true
      · rw [hI] at h4
        simp only [if_true] at h4
        rw [if_pos hI] at hr
        simp [hI, e3]
        refine (w42 (h4.more _) _).use ?_
        rintro e S4 ⟨hsq4, rfl, h5⟩
        obtain ⟨T4, rfl, hst4⟩ := hsq4.split h4.lt
        have e4 := hst4.1
        have hst04 := hst03.trans hst4
        have h5 := h5.less (hst4.1 ▸ h4.lt)
        by_cases hN : isT 1 [110, 111, 116] l1.tail = true
        · rw [hN] at h5
          simp only [if_true] at h5
          rw [if_pos hN] at hr
          simp [hN, e4]
          refine (w40 (h5.more _) _).use ?_
          rintro e S5 ⟨hsq5, h6⟩
          obtain ⟨T5, rfl, hst5⟩ := hsq5.split h5.lt
          have e5 := hst5.1
          have hst05 := hst04.trans hst5
          rw [need] at h6
          by_cases hU : isT 1 [110, 117, 108, 108] l1.tail.tail = true
          · rw [if_pos hU] at h6 hr
            obtain ⟨rfl, h6⟩ := h6
            have hb : exC (.un 20 x) = [.int 20, .list .full [exC x], .int 0, .int 0, .int 0, .str [], .str []] := by rw [exC_eq, exsV_one]
            simp [e5]
            rw [← hb]
            subst hr
            exact PrR.ok hst05 (h6.less (hst5.1 ▸ h5.lt)) (by simp)
          · rw [if_neg hU] at h6 hr
            obtain ⟨rfl, l', k', d', h6⟩ := h6
            simp
            subst hr
            exact PrR.err hst05 (h6.less (hst5.1 ▸ h5.lt))
        · have hN : isT 1 [110, 111, 116] l1.tail = false := by simpa using hN
          rw [hN] at h5
          simp only [Bool.false_eq_true, if_false] at h5
          rw [if_neg (by simp [hN])] at hr
          simp [hN, e4]
          refine (w40 (h5.more _) _).use ?_
          rintro e S5 ⟨hsq5, h6⟩
          obtain ⟨T5, rfl, hst5⟩ := hsq5.split h5.lt
          have e5 := hst5.1
          have hst05 := hst04.trans hst5
          rw [need] at h6
          by_cases hU : isT 1 [110, 117, 108, 108] l1.tail = true
          · rw [if_pos hU] at h6 hr
            obtain ⟨rfl, h6⟩ := h6
            have hb : exC (.un 19 x) = [.int 19, .list .full [exC x], .int 0, .int 0, .int 0, .str [], .str []] := by rw [exC_eq, exsV_one]
            simp [e5]
            rw [← hb]
            subst hr
            exact PrR.ok hst05 (h6.less (hst5.1 ▸ h5.lt)) (by simp)
          · rw [if_neg hU] at h6 hr
            obtain ⟨rfl, l', k', d', h6⟩ := h6
            simp
            subst hr
            exact PrR.err hst05 (h6.less (hst5.1 ▸ h5.lt))
      · have hI : isT 1 [105, 115] l1 = false := by simpa using hI
        rw [hI] at h4
        simp only [Bool.false_eq_true, if_false] at h4
        rw [if_neg (by simp [hI])] at hr
        simp [hI, e3]
        subst hr
        exact PrR.ok hst03 h4 (by simp)
end
end Go.Abs
set_option linter.unusedSimpArgs false
set_option linter.unusedVariables false
namespace Go.Abs
open Go Go.RowKit Go.Proofs Go.Lx Go.Pz
variable {w0 : World}

theorem At.set {S : Heap} {pid : Nat} {l : List Tok} {k d : Nat} (h : pid < S.length) {v : AVal} (hv : TkV v l) : At (S.set pid (.cells 3 [[v, .int k, .int d]] (some 1))) pid l k d := ⟨_, List.getElem?_set_self h, v, hv, rfl⟩
theorem isT_cons (k : Int) (s : Bs) (t : Tok) (r : List Tok) : isT k s (t :: r) = (decide (t.kind = k) && decide (t.text = s)) := by simp [isT]
theorem need_ok {k : Int} {s : Bs} {l : List Tok} (h : isT k s l = true) : need k s l = .ok l.tail := by rw [need, if_pos h]
theorem need_er {k : Int} {s : Bs} {l : List Tok} (h : isT k s l = false) : need k s l = .error 130 := by rw [need, if_neg (by simp [h])]

section
variable {pid d m : Nat} {E : Nat → List Tok → Res Ex}

set_option maxHeartbeats 1000000 in
theorem inner_s (hE : ∀ k, k ≤ 40 → ∀ S l, At S pid l k d → l.length < m → ACalls Tryz.prog (B0 w0) 107 [.ptr pid 0 0] S (ExR S pid k d (E k l))) {k : Nat} (hk : k ≤ 40) : ESpec w0 148 pid k d m (inner E k) := fun S l ha hl => by
  obtain ⟨r, hr⟩ : ∃ r, inner E k l = r := ⟨_, rfl⟩
  rw [hr]
  rw [inner] at hr
  refine ACalls.fin (pid := pid) ?_
  obtain ⟨v, hv, hp⟩ := ha.get
  have hg := hmoreG ha.lt
  refine fn_sound tryOrd (f148_c _) (by simp [f148]) ?_
  simp [f148, f148m]
  refine (w39 (ha.more _)).use ?_
  rintro e S1 ⟨rfl, rfl⟩
  by_cases hT : isT 5 [40] l = true
  · cases l with
    | nil => cases hT
    | cons t r0 =>
      have hT2 : t.kind = 5 ∧ t.text = [40] := by simpa [isT] using hT
      by_cases hk40 : k = 40
      · subst hk40
        rw [if_pos ⟨hT, rfl⟩] at hr
        subst hr
        simp [tokC, hT2.1, hT2.2, hg, hp]
        refine (w22 5 _).use ?_
        rintro e S2 ⟨rfl, rfl⟩
        simp
        exact PrR.err (Step.refl _ _) ha
      · have hk0 : ((k : Int) == 40) = false := beq_eq_false_iff_ne.2 (by omega)
        rw [if_neg (by simp [hk40]), if_pos hT] at hr
        simp [tokC, hT2.1, hT2.2, hg, hp, hk0]
        refine (w75 (ha.more _) _).use ?_
        rintro e S2 ⟨hsq1, h1⟩
        obtain ⟨T1, rfl, hst1⟩ := hsq1.split ha.lt
        have e1 := hst1.1
        rw [need_ok hT] at h1
        obtain ⟨rfl, h1⟩ := h1
        have h1 := h1.less (hst1.1 ▸ ha.lt)
        obtain ⟨v1, hv1, hp1⟩ := h1.get
        have hg1 := hmoreG h1.lt
        have hs1 := hsetG h1.lt
        have hw := wrapS k (by omega)
        simp [hg1, hp1, hs1, hw, e1]
        obtain ⟨T2, hT2e⟩ : ∃ T2, T2 = T1.set pid (AObj.cells 3 [[v1, AVal.int ((k : Int) + 1), AVal.int d]] (some 1)) := ⟨_, rfl⟩
        have hst2 : Step pid T1 T2 := hT2e ▸ Step.set _
        have h2 : At T2 pid (t :: r0).tail (k + 1) d := by
          have := At.set (k := k + 1) (d := d) h1.lt hv1
          rw [hT2e]
          simpa using this
        have e2 := hst2.1
        have hst02 := hst1.trans hst2
        rw [← hT2e, e2]
        refine (hE (k + 1) (by omega) _ _ (h2.more _) (by simp at hl ⊢; omega)).use ?_
        rintro e S3 ⟨hsq3, h3⟩
        obtain ⟨T3, rfl, hst3⟩ := hsq3.split h2.lt
        have e3 := hst3.1
        have hst03 := hst02.trans hst3
        cases hF : E (k + 1) (t :: r0).tail with
        | error c =>
          rw [hF] at h3 hr
          simp only at hr
          obtain ⟨rfl, l', k', d', h4⟩ := h3
          simp
          subst hr
          exact PrR.err hst03 (h4.less (hst3.1 ▸ h2.lt))
        | ok y =>
          obtain ⟨x, l3⟩ := y
          rw [hF] at h3 hr
          simp only at hr
          obtain ⟨rfl, h4⟩ := h3
          have h4 := h4.less (hst3.1 ▸ h2.lt)
          obtain ⟨v3, hv3, hp3⟩ := h4.get
          have hg3 := hmoreG h4.lt
          have hs3 := hsetG h4.lt
          have hw3 : IntKind.i64.wrap (((k + 1 : Nat) : Int) - 1) = (k : Int) := by have := wrapP (k + 1) (by omega) (by omega); rw [this]; omega
          have hp3' : T3[pid]? = some (AObj.cells 3 [[v3, AVal.int ((k : Int) + 1), AVal.int d]] (some 1)) := by rw [hp3]; simp
          have hw4 : IntKind.i64.wrap (k : Int) = (k : Int) := by rw [wrap64_in (by omega) (by omega)]
          simp [hg3, hp3', hs3, hw4, e3]
          obtain ⟨T4, hT4e⟩ : ∃ T4, T4 = T3.set pid (AObj.cells 3 [[v3, AVal.int (k : Int), AVal.int d]] (some 1)) := ⟨_, rfl⟩
          have hst4 : Step pid T3 T4 := hT4e ▸ Step.set _
          have h5 : At T4 pid l3 k d := hT4e ▸ At.set h4.lt hv3
          have e4 := hst4.1
          have hst04 := hst03.trans hst4
          rw [← hT4e, e4]
          refine (w75 (h5.more _) _).use ?_
          rintro e S5 ⟨hsq5, h6⟩
          obtain ⟨T5, rfl, hst5⟩ := hsq5.split h5.lt
          have e5 := hst5.1
          have hst05 := hst04.trans hst5
          by_cases hC : isT 5 [41] l3 = true
          · rw [need_ok hC] at h6
            rw [if_pos hC] at hr
            obtain ⟨rfl, h6⟩ := h6
            simp [e5]
            subst hr
            exact PrR.ok hst05 (h6.less (hst5.1 ▸ h5.lt)) (by simp)
          · have hC : isT 5 [41] l3 = false := by simpa using hC
            rw [need_er hC] at h6
            rw [if_neg (by simp [hC])] at hr
            obtain ⟨rfl, l', k', d', h6⟩ := h6
            simp
            subst hr
            exact PrR.err hst05 (h6.less (hst5.1 ▸ h5.lt))
  · have hT : isT 5 [40] l = false := by simpa using hT
    rw [if_neg (by simp [hT]), if_neg (by simp [hT])] at hr
    subst hr
    have fin : ∀ g, ACalls Tryz.prog (B0 w0) 75 [.ptr pid 0 0, .str [40]] (S ++ g) (NeR (S ++ g) pid k d (.error 130)) := fun g => by
      have := w75 (w0 := w0) (ha.more g) [40]
      rwa [need_er hT] at this
    cases l with
    | nil =>
      simp [zTok, tokC]
      refine (fin _).use ?_
      rintro e S2 ⟨hsq1, rfl, l', k', d', h1⟩
      obtain ⟨T1, rfl, hst1⟩ := hsq1.split ha.lt
      simp
      exact PrR.err hst1 (h1.less (hst1.1 ▸ ha.lt))
    | cons t r0 =>
      rw [isT_cons] at hT
      by_cases h5 : t.kind = 5
      · have h6 : ¬ t.text = [40] := by simpa [h5] using hT
        simp [tokC, h5, h6]
        refine (fin _).use ?_
        rintro e S2 ⟨hsq1, rfl, l', k', d', h1⟩
        obtain ⟨T1, rfl, hst1⟩ := hsq1.split ha.lt
        simp
        exact PrR.err hst1 (h1.less (hst1.1 ▸ ha.lt))
      · have h6 : (t.kind == 5) = false := beq_eq_false_iff_ne.2 h5
        simp [tokC, h6]
        refine (fin _).use ?_
        rintro e S2 ⟨hsq1, rfl, l', k', d', h1⟩
        obtain ⟨T1, rfl, hst1⟩ := hsq1.split ha.lt
        simp
        exact PrR.err hst1 (h1.less (hst1.1 ▸ ha.lt))

theorem exC_const (a b c : Int) (s : Bs) : exC (.const a b c s) = [.int 21, .nilS, .int a, .int b, .int c, .str s, .str []] := by rw [exC_eq, exsV_nil]
theorem exC_col (s q : Bs) : exC (.col s q) = [.int 22, .nilS, .int 0, .int 0, .int 0, .str s, .str q] := by rw [exC_eq, exsV_nil]

/-- A word that is a constant. -/
theorem const_fin {S T g : Heap} {k : Nat} {l : List Tok} {w : Bs} (ha : At S pid l k d) (hw : isT 1 w l = true) {x : Ex} {R : AEnd → Heap → Prop} (hR : ∀ T2, Step pid S T2 → At T2 pid l.tail k d → R (.ret .undef) (T2 ++ g)) :
    ACalls Tryz.prog (B0 w0) 40 [.ptr pid 0 0, .list .full [[.str w]]] (S ++ g) R := by
  refine (w40 (ha.more g) w).use ?_
  rintro e S2 ⟨hsq1, h1⟩
  obtain ⟨T1, rfl, hst1⟩ := hsq1.split ha.lt
  rw [need_ok hw] at h1
  obtain ⟨rfl, h1⟩ := h1
  exact hR T1 hst1 (h1.less (hst1.1 ▸ ha.lt))

set_option maxHeartbeats 2000000 in
theorem named_s {k : Nat} (hin : ESpec w0 148 pid k d m (inner E k)) {S : Heap} {t : Tok} {r0 : List Tok} (hk1 : t.kind = 1) (ha : At S pid (t :: r0) k d) (hl : (t :: r0).length ≤ m) :
    ACalls Tryz.prog (B0 w0) 147 [.ptr pid 0 0, .str t.text] S (ExR S pid k d (named resv E k t.text (t :: r0))) := by
  obtain ⟨r, hr⟩ : ∃ r, named resv E k t.text (t :: r0) = r := ⟨_, rfl⟩
  rw [hr]
  have hT : isT 1 t.text (t :: r0) = true := by simp [isT, hk1]
  obtain ⟨w, hw⟩ : ∃ w, t.text = w := ⟨_, rfl⟩
  rw [hw] at hr hT ⊢
  rw [named] at hr
  refine ACalls.fin (pid := pid) ?_
  refine fn_sound tryOrd (f147_c _) (by simp [f147]) ?_
  by_cases h1 : w = [110, 117, 108, 108]
  · rw [if_pos h1] at hr
    subst h1; subst hr
    simp [f147, f147m]
    refine const_fin (x := .zero) (T := S) ha hT ?_
    intro T1 hst1 h1
    have e1 := hst1.1
    simp [e1]
    rw [← exC_const]
    exact PrR.ok hst1 h1 (by simp)
  rw [if_neg h1] at hr
  by_cases h2 : w = [116, 114, 117, 101]
  · rw [if_pos h2] at hr
    subst h2; subst hr
    simp [f147, f147m]
    refine const_fin (x := .zero) (T := S) ha hT ?_
    intro T1 hst1 h1
    have e1 := hst1.1
    simp [e1]
    rw [← exC_const]
    exact PrR.ok hst1 h1 (by simp)
  rw [if_neg h2] at hr
  by_cases h3 : w = [102, 97, 108, 115, 101]
  · rw [if_pos h3] at hr
    subst h3; subst hr
    simp [f147, f147m]
    refine const_fin (x := .zero) (T := S) ha hT ?_
    intro T1 hst1 h1
    have e1 := hst1.1
    simp [e1]
    rw [← exC_const]
    exact PrR.ok hst1 h1 (by simp)
  rw [if_neg h3] at hr
  by_cases h4 : w = [110, 97, 110]
  · rw [if_pos h4] at hr
    subst h4; subst hr
    simp [f147, f147m]
    refine const_fin (x := .zero) (T := S) ha hT ?_
    intro T1 hst1 h1
    have e1 := hst1.1
    simp [e1]
    rw [← exC_const]
    exact PrR.ok hst1 h1 (by simp)
  rw [if_neg h4] at hr
  by_cases h5 : w = [105, 110, 102, 105, 110, 105, 116, 121]
  · rw [if_pos h5] at hr
    subst h5; subst hr
    simp [f147, f147m]
    refine const_fin (x := .zero) (T := S) ha hT ?_
    intro T1 hst1 h1
    have e1 := hst1.1
    simp [e1]
    rw [← exC_const]
    exact PrR.ok hst1 h1 (by simp)
  rw [if_neg h5] at hr
  have conv : ∀ (op : Int) (T1 g : Heap), Step pid S T1 → At T1 pid r0 k d → (∀ T2 x l', Step pid S T2 → At T2 pid l' k d → r = .ok (.un op x, l') → ∀ R : AEnd → Heap → Prop, R (.ret (.agg (exC x))) (T2 ++ g) → R (.ret (.agg (exC x))) (T2 ++ g)) → True := fun _ _ _ _ _ _ => trivial
  by_cases h6 : w = [105, 110, 116]
  · subst h6
    rw [if_pos (.inl rfl)] at hr
    simp [f147, f147m]
    refine const_fin (x := .zero) (T := S) ha hT ?_
    intro T1 hst1 h1
    have e1 := hst1.1
    simp [e1]
    refine (hin _ _ (h1.more _) (by simp at hl ⊢; omega)).use ?_
    rintro e S2 ⟨hsq2, h7⟩
    obtain ⟨T2, rfl, hst2⟩ := hsq2.split h1.lt
    have e2 := hst2.1
    have hst02 := hst1.trans hst2
    cases hF : inner E k (t :: r0).tail with
    | error c =>
      rw [hF] at h7 hr
      simp only at hr
      obtain ⟨rfl, l', k', d', h7⟩ := h7
      simp
      subst hr
      exact PrR.err hst02 (h7.less (hst2.1 ▸ h1.lt))
    | ok y =>
      obtain ⟨x, l'⟩ := y
      rw [hF] at h7 hr
      simp at hr
      obtain ⟨rfl, h7⟩ := h7
      have hb : exC (.un 14 x) = [.int 14, .list .full [exC x], .int 0, .int 0, .int 0, .str [], .str []] := by rw [exC_eq, exsV_one]
      simp [e2]
      rw [← hb]
      subst hr
      exact PrR.ok hst02 (h7.less (hst2.1 ▸ h1.lt)) (by simp)
  by_cases h7 : w = [114, 101, 97, 108]
  · subst h7
    rw [if_pos (.inr rfl)] at hr
    simp [f147, f147m]
    refine const_fin (x := .zero) (T := S) ha hT ?_
    intro T1 hst1 h1
    have e1 := hst1.1
    simp [e1]
    refine (hin _ _ (h1.more _) (by simp at hl ⊢; omega)).use ?_
    rintro e S2 ⟨hsq2, h7⟩
    obtain ⟨T2, rfl, hst2⟩ := hsq2.split h1.lt
    have e2 := hst2.1
    have hst02 := hst1.trans hst2
    cases hF : inner E k (t :: r0).tail with
    | error c =>
      rw [hF] at h7 hr
      simp only at hr
      obtain ⟨rfl, l', k', d', h7⟩ := h7
      simp
      subst hr
      exact PrR.err hst02 (h7.less (hst2.1 ▸ h1.lt))
    | ok y =>
      obtain ⟨x, l'⟩ := y
      rw [hF] at h7 hr
      simp at hr
      obtain ⟨rfl, h7⟩ := h7
      have hb : exC (.un 15 x) = [.int 15, .list .full [exC x], .int 0, .int 0, .int 0, .str [], .str []] := by rw [exC_eq, exsV_one]
      simp [e2]
      rw [← hb]
      subst hr
      exact PrR.ok hst02 (h7.less (hst2.1 ▸ h1.lt)) (by simp)
  rw [if_neg (by simp [h6, h7])] at hr
  simp [f147, f147m, h1, h2, h3, h4, h5, h6, h7]
  refine (w43 (ha.more _)).use ?_
  rintro e S2 ⟨hsq1, h8⟩
  obtain ⟨T1, rfl, hst1⟩ := hsq1.split ha.lt
  have e1 := hst1.1
  cases hN : nameR resv (t :: r0) with
  | error c =>
    rw [hN] at h8 hr
    simp only at hr
    obtain ⟨rfl, l', k', d', h8⟩ := h8
    simp
    subst hr
    exact PrR.err hst1 (h8.less (hst1.1 ▸ ha.lt))
  | ok y =>
    obtain ⟨n1, l1⟩ := y
    rw [hN] at h8 hr
    simp only at hr
    obtain ⟨rfl, h8⟩ := h8
    have h8 := h8.less (hst1.1 ▸ ha.lt)
    simp [e1]
    refine (w85 (h8.more _) _).use ?_
    rintro e S3 ⟨hsq2, rfl, h9⟩
    obtain ⟨T2, rfl, hst2⟩ := hsq2.split h8.lt
    have e2 := hst2.1
    have hst02 := hst1.trans hst2
    have h9 := h9.less (hst2.1 ▸ h8.lt)
    by_cases hD : isT 5 [46] l1 = true
    · rw [if_pos hD] at hr
      rw [hD] at h9
      simp only [if_true] at h9
      simp [hD, e2]
      refine (w43 (h9.more _)).use ?_
      rintro e S4 ⟨hsq3, h10⟩
      obtain ⟨T3, rfl, hst3⟩ := hsq3.split h9.lt
      have e3 := hst3.1
      have hst03 := hst02.trans hst3
      cases hN2 : nameR resv l1.tail with
      | error c =>
        rw [hN2] at h10 hr
        simp only at hr
        obtain ⟨rfl, l', k', d', h10⟩ := h10
        simp
        subst hr
        exact PrR.err hst03 (h10.less (hst3.1 ▸ h9.lt))
      | ok y2 =>
        obtain ⟨n2, l2⟩ := y2
        rw [hN2] at h10 hr
        simp only at hr
        obtain ⟨rfl, h10⟩ := h10
        simp [e3]
        rw [← exC_col]
        subst hr
        exact PrR.ok hst03 (h10.less (hst3.1 ▸ h9.lt)) (by simp)
    · have hD : isT 5 [46] l1 = false := by simpa using hD
      rw [if_neg (by simp [hD])] at hr
      rw [hD] at h9
      simp only [Bool.false_eq_true, if_false] at h9
      simp [hD, e2]
      rw [← exC_col]
      subst hr
      exact PrR.ok hst02 h9 (by simp)
end
end Go.Abs
set_option linter.unusedSimpArgs false
set_option linter.unusedVariables false
namespace Go.Abs
open Go Go.RowKit Go.Proofs Go.Lx Go.Pz
variable {w0 : World}

section
variable {pid d m : Nat} {E : Nat → List Tok → Res Ex}

set_option maxHeartbeats 1000000 in
theorem one_s {k : Nat} (hin : ESpec w0 148 pid k d m (inner E k)) : ESpec w0 146 pid k d m (oneP resv E k) := fun S l ha hl => by
  obtain ⟨r, hr⟩ : ∃ r, oneP resv E k l = r := ⟨_, rfl⟩
  rw [hr]
  refine ACalls.fin (pid := pid) ?_
  obtain ⟨v, hv, hp⟩ := ha.get
  have hg := hmoreG ha.lt
  have hs := hsetG ha.lt
  refine fn_sound tryOrd (f146_c _) (by simp [f146]) ?_
  simp [f146, f146m]
  refine (w39 (ha.more _)).use ?_
  rintro e S1 ⟨rfl, rfl⟩
  have viaInner : ∀ g, inner E k l = r → ACalls Tryz.prog (B0 w0) 148 [.ptr pid 0 0] (S ++ g) (ExR (S ++ g) pid k d r) := fun g h => by
    have := hin _ _ (ha.more g) hl
    rwa [h] at this
  cases l with
  | nil =>
    have hr' : inner E k [] = r := by
      rw [← hr]
      simp [oneP, inner, isT]
    simp [zTok, tokC]
    refine (viaInner _ hr').use ?_
    rintro e S2 ⟨hsq1, h1⟩
    obtain ⟨T1, rfl, hst1⟩ := hsq1.split ha.lt
    have e1 := hst1.1
    cases r with
    | error c =>
      obtain ⟨rfl, l', k', d', h1⟩ := h1
      simp
      exact PrR.err hst1 (h1.less (hst1.1 ▸ ha.lt))
    | ok y =>
      obtain ⟨x, l'⟩ := y
      obtain ⟨rfl, h1⟩ := h1
      simp [e1]
      exact PrR.ok hst1 (h1.less (hst1.1 ▸ ha.lt)) (by simp)
  | cons t r0 =>
    unfold oneP at hr
    simp only at hr
    obtain ⟨v', h1, h2⟩ := hv.tail
    by_cases k2 : t.kind = 2
    · rw [if_pos (.inl k2)] at hr
      simp [-slcR, tokC, k2, hg, hp, h2, hs, h1.one]
      rw [← exC_const]
      subst hr
      rw [k2]
      exact PrR.ok (Step.set _) (At.set ha.lt h1) (by simp)
    by_cases k3 : t.kind = 3
    · rw [if_pos (.inr k3)] at hr
      simp [-slcR, tokC, k3, hg, hp, h2, hs, h1.one]
      rw [← exC_const]
      subst hr
      rw [k3]
      exact PrR.ok (Step.set _) (At.set ha.lt h1) (by simp)
    rw [if_neg (by simp [k2, k3])] at hr
    have b2 : (t.kind == 2) = false := beq_eq_false_iff_ne.2 k2
    have b3 : (t.kind == 3) = false := beq_eq_false_iff_ne.2 k3
    by_cases k4 : t.kind = 4
    · rw [if_pos k4] at hr
      simp [-slcR, tokC, k4, hg, hp, h2, hs, h1.one]
      rw [← exC_const]
      subst hr
      exact PrR.ok (Step.set _) (At.set ha.lt h1) (by simp)
    rw [if_neg k4] at hr
    have b4 : (t.kind == 4) = false := beq_eq_false_iff_ne.2 k4
    by_cases k1 : t.kind = 1
    · rw [if_pos k1] at hr
      simp [tokC, k1]
      refine (named_s hin k1 (ha.more _) hl).use ?_
      rintro e S2 ⟨hsq1, h3⟩
      obtain ⟨T1, rfl, hst1⟩ := hsq1.split ha.lt
      have e1 := hst1.1
      rw [hr] at h3
      cases r with
      | error c =>
        obtain ⟨rfl, l', k', d', h3⟩ := h3
        simp
        exact PrR.err hst1 (h3.less (hst1.1 ▸ ha.lt))
      | ok y =>
        obtain ⟨x, l'⟩ := y
        obtain ⟨rfl, h3⟩ := h3
        simp [e1]
        exact PrR.ok hst1 (h3.less (hst1.1 ▸ ha.lt)) (by simp)
    · rw [if_neg k1] at hr
      have b1 : (t.kind == 1) = false := beq_eq_false_iff_ne.2 k1
      simp [tokC, b1, b2, b3, b4]
      refine (viaInner _ hr).use ?_
      rintro e S2 ⟨hsq1, h3⟩
      obtain ⟨T1, rfl, hst1⟩ := hsq1.split ha.lt
      have e1 := hst1.1
      cases r with
      | error c =>
        obtain ⟨rfl, l', k', d', h3⟩ := h3
        simp
        exact PrR.err hst1 (h3.less (hst1.1 ▸ ha.lt))
      | ok y =>
        obtain ⟨x, l'⟩ := y
        obtain ⟨rfl, h3⟩ := h3
        simp [e1]
        exact PrR.ok hst1 (h3.less (hst1.1 ▸ ha.lt)) (by simp)
end

/-- All levels. -/
theorem either_all (w0 : World) (pid d : Nat) : ∀ (n : Nat), n ≤ 1000000 → ∀ k, k ≤ 40 → ∀ (S : Heap) (l : List Tok), At S pid l k d → l.length < n → ACalls Tryz.prog (B0 w0) 107 [.ptr pid 0 0] S (ExR S pid k d (Pz.either resv n k l))
  | 0, _, _, _, S, l, _, hl => by omega
  | n + 1, hn, k, hk, S, l, ha, hl => by
    have hg : ∀ k, Eats n (Pz.either resv n k) := fun k => either_good resv n k
    have hin := inner_s (w0 := w0) (pid := pid) (d := d) (m := n) (E := Pz.either resv n) (fun k hk S l ha hl => either_all w0 pid d n (by omega) k hk S l ha hl) hk
    have h1 := one_s hin
    have h2 := minus_s (by omega) h1
    have h3 := term_s ((minusP_good hg k).le (by omega)) h2
    have h4 := sum_s ((termP_good hg k).le (by omega)) h3
    have h5 := test_s ((sumP_good hg k).le (by omega)) h4
    have h6 := not_s (by omega) h5
    have h7 := both_s ((notP_good hg k).le (by omega)) h6
    have h8 := either_s ((bothP_good hg k).le (by omega)) h7
    exact h8 S l ha (by omega)

/-- What a statement's part answers. -/
def StR {α : Type} (V : α → AVal) (S : Heap) (pid : Nat) (r : ResS α) (e : AEnd) (S' : Heap) : Prop :=
  Step pid S S' ∧ match r with
    | .ok (x, s) => e = .ret (V x) ∧ At S' pid s.l 0 s.d
    | .error c => e = .panic (trb c) ∧ ∃ l k d, At S' pid l k d
theorem StR.ok {α : Type} {V : α → AVal} {S T g : Heap} {pid : Nat} {x : α} {s : Sta} (hst : Step pid S T) (ha : At T pid s.l 0 s.d) (hv : (V x).sc S.length = true) : Fin S pid (StR V S pid (.ok (x, s))) (.ret (V x)) (T ++ g) :=
  ⟨T, g, rfl, hst, ⟨_, _, _, ha⟩, hv, hst, rfl, ha⟩
theorem StR.err {α : Type} {V : α → AVal} {S T g : Heap} {pid : Nat} {c : Int} {l k' d'} (hst : Step pid S T) (ha : At T pid l k' d') : Fin S pid (StR V S pid (.error c)) (.panic (trb c)) (T ++ g) :=
  ⟨T, g, rfl, hst, ⟨_, _, _, ha⟩, rfl, hst, rfl, _, _, _, ha⟩

set_option maxHeartbeats 1000000 in
/-- A whole expression. -/
theorem w84 {S : Heap} {pid N : Nat} {s : Sta} (ha : At S pid s.l 0 s.d) (hl : s.l.length < N) (hN : N ≤ 1000000) : ACalls Tryz.prog (B0 w0) 84 [.ptr pid 0 0] S (StR (fun x => .agg (exC x)) S pid (whole resv N s)) := by
  obtain ⟨r, hr⟩ : ∃ r, whole resv N s = r := ⟨_, rfl⟩
  rw [hr]
  rw [whole] at hr
  refine ACalls.fin (pid := pid) ?_
  refine fn_sound tryOrd (f84_c _) (by simp [f84]) ?_
  simp [f84, f84m]
  refine (either_all w0 pid s.d N hN 0 (by decide) _ _ (ha.more _) hl).use ?_
  rintro e S1 ⟨hsq1, h1⟩
  obtain ⟨T1, rfl, hst1⟩ := hsq1.split ha.lt
  have e1 := hst1.1
  cases hF : Pz.either resv N 0 s.l with
  | error c =>
    rw [hF] at h1 hr
    simp only at hr
    obtain ⟨rfl, l', k', d', h1⟩ := h1
    simp
    subst hr
    exact StR.err hst1 (h1.less (hst1.1 ▸ ha.lt))
  | ok y =>
    obtain ⟨x, l'⟩ := y
    have hw := either_good resv N 0 _ _ _ (by omega) hF
    rw [hF] at h1 hr
    simp only at hr
    obtain ⟨rfl, h1⟩ := h1
    have h1 := h1.less (hst1.1 ▸ ha.lt)
    obtain ⟨v1, hv1, hp1⟩ := h1.get
    have hg1 := hmoreG h1.lt
    have hs1 := hsetG h1.lt
    have hd := w18 (w0 := w0) 1000000 (by decide) x (by omega)
    simp [e1, hg1, hp1]
    refine (hd _).use ?_
    rintro e S2 ⟨rfl, rfl⟩
    simp [e1, hg1, hp1, hs1]
    subst hr
    have hmax : (if s.d < x.depth then (x.depth : Int) else (s.d : Int)) = ((max s.d x.depth : Nat) : Int) := by split <;> omega
    rw [hmax]
    exact StR.ok (V := fun x => AVal.agg (exC x)) (s := ⟨l', max s.d x.depth⟩) (hst1.trans (Step.set _)) (At.set h1.lt hv1) (by simp)
end Go.Abs
set_option linter.unusedSimpArgs false
set_option linter.unusedVariables false
namespace Go.Abs
open Go Go.RowKit Go.Proofs Go.Lx Go.Pz
variable {w0 : World}

/-- As it was, but for the parser and the statement; perhaps more. -/
def Kst (pid sid : Nat) (S T : Heap) : Prop := S.length ≤ T.length ∧ ∀ j, j < S.length → j ≠ pid → j ≠ sid → T[j]? = S[j]?
theorem Kst.refl (pid sid : Nat) (S : Heap) : Kst pid sid S S := ⟨Nat.le_refl _, fun _ _ _ _ => rfl⟩
theorem Kst.trans {pid sid S T U} (h : Kst pid sid S T) (h' : Kst pid sid T U) : Kst pid sid S U := ⟨Nat.le_trans h.1 h'.1, fun j hl h1 h2 => (h'.2 j (Nat.lt_of_lt_of_le hl h.1) h1 h2).trans (h.2 j hl h1 h2)⟩
theorem Kst.more {pid sid S T} (h : Kst pid sid S T) (g : Heap) : Kst pid sid S (T ++ g) := ⟨by simp; have := h.1; omega, fun j hl h1 h2 => by rw [List.getElem?_append_left (by have := h.1; omega)]; exact h.2 j hl h1 h2⟩
/-- Where a list of a list's own is read. -/
theorem Kst.inner {pid sid q : Nat} {S0 T U : Heap} (h : Kst pid sid S0 T) (h' : Kst pid q T U) (hq : S0.length ≤ q) : Kst pid sid S0 U := ⟨Nat.le_trans h.1 h'.1, fun j hl h1 h2 => (h'.2 j (Nat.lt_of_lt_of_le hl h.1) h1 (by omega)).trans (h.2 j hl h1 h2)⟩
theorem Kpt.k2 {pid sid S T} (h : Kpt pid S T) : Kst pid sid S T := ⟨h.1, fun j hl h1 _ => h.2 j hl h1⟩
theorem Step.k2 {pid sid S T} (h : Step pid S T) : Kst pid sid S T := h.kpt.k2

theorem Own.rebase {N : Nat} {S0 S : Heap} {L} (h : Own N S0 S L) : Own N S S L := ⟨h.le, fun _ _ => rfl, h.ap, h.sep⟩
/-- Rows of one's own stay where only what lies below them changes, and more comes. -/
theorem Own.keep {N : Nat} {S0 S S' : Heap} {L} (h : Own N S0 S L) (hl : S.length ≤ S'.length) (hk : ∀ j, N ≤ j → j < S.length → S'[j]? = S[j]?) : Own N S' S' L :=
  ⟨Nat.le_trans h.le hl, fun _ _ => rfl, fun i v k es hi => by
    have := h.ap i v k es hi
    cases this with
    | none fl hf => exact .none fl hf
    | row id off len es0 cap hN hS hl' => exact .row id off len es0 cap hN (by rw [hk id hN (lt_of_some hS)]; exact hS) hl', h.sep⟩
theorem Own.step {N pid : Nat} {S0 S S' : Heap} {L} (h : Own N S0 S L) (hst : Step pid S S') (hp : pid < N) : Own N S' S' L :=
  h.keep (Nat.le_of_eq hst.1) fun j hj _ => hst.2 j (by omega)
theorem Own.more' {N : Nat} {S0 S : Heap} {L} (h : Own N S0 S L) (g : Heap) : Own N (S ++ g) (S ++ g) L :=
  h.keep (by simp) fun j _ hj => List.getElem?_append_left hj

/-- A statement's list under way. -/
structure LI (S0 : Heap) (pid sid : Nat) (c0 : List AVal) (f k : Nat) (es : List (List AVal)) (s : Sta) (S : Heap) : Prop where
  at_ : At S pid s.l 0 s.d
  st : ∃ v, S[sid]? = some (.cells c0.length [c0.set f v] (some 1)) ∧ Own S0.length S S [(v, k, es)]
  k2 : Kst pid sid S0 S

section
variable {S0 : Heap} {pid sid : Nat} {c0 : List AVal} {f k : Nat} {es : List (List AVal)} {s : Sta} {S : Heap}
theorem LI.more (h : LI S0 pid sid c0 f k es s S) (g : Heap) : LI S0 pid sid c0 f k es s (S ++ g) := by
  obtain ⟨h1, ⟨v, h2, h3⟩, h4⟩ := h
  exact ⟨h1.more g, ⟨v, by rw [List.getElem?_append_left (lt_of_some h2)]; exact h2, h3.more' g⟩, h4.more g⟩
theorem LI.step (h : LI S0 pid sid c0 f k es s S) {S' : Heap} (hst : Step pid S S') (hp : pid < S0.length) (hps : pid ≠ sid) {s' : Sta} (ha : At S' pid s'.l 0 s'.d) : LI S0 pid sid c0 f k es s' S' := by
  obtain ⟨h1, ⟨v, h2, h3⟩, h4⟩ := h
  exact ⟨ha, ⟨v, by rw [hst.2 sid (Ne.symm hps)]; exact h2, h3.step hst hp⟩, h4.trans hst.k2⟩
end

/-- What a statement's list comes to. -/
def LR {α : Type} (S0 : Heap) (pid sid : Nat) (c0 : List AVal) (f k : Nat) (V : α → List (List AVal)) (r : ResS α) (e : AEnd) (S' : Heap) : Prop :=
  match r with
  | .ok (a, s) => e = .ret .undef ∧ LI S0 pid sid c0 f k (V a) s S'
  | .error c => e = .panic (trb c) ∧ Kst pid sid S0 S'

/-- each's loop. -/
def EaI {α : Type} (S0 : Heap) (pid sid : Nat) (c0 : List AVal) (f k : Nat) (V : α → List (List AVal)) (step : α → Sta → ResS α) (n most : Nat) (A : AVal) (r : ResS α) (m : Nat) (a : Tmps) (S' : Heap) : Prop :=
  ∃ (x : α) (s : Sta) (q : Nat), LI S0 pid sid c0 f k (V x) s S' ∧ get a 0 = .ptr pid 0 0 ∧ get a 1 = .int most ∧ get a 2 = A ∧ get a 6 = .int q ∧ q + m = most + 1 ∧ 1 ≤ q ∧ 1 ≤ m ∧ s.l.length ≤ n ∧ (V x).length + 1 = q ∧ r = listF step m x s

set_option maxHeartbeats 1000000 in
theorem w76 {α : Type} {S0 : Heap} {pid sid : Nat} {c0 : List AVal} {f k n most : Nat} {V : α → List (List AVal)} {step : α → Sta → ResS α} {fo : FuncId} {o1 o2 : List AVal} (hp : pid < S0.length) (hps : pid ≠ sid) (hmost : most ≤ 60)
    (hone : ∀ x s S, LI S0 pid sid c0 f k (V x) s S → (V x).length ≤ most → s.l.length ≤ n → ACalls Tryz.prog (B0 w0) fo (o1 ++ o2) S (LR S0 pid sid c0 f k V (step x s)))
    (hstep : ∀ x s x' s', s.l.length ≤ n → step x s = .ok (x', s') → (V x').length = (V x).length + 1 ∧ s'.l.length ≤ s.l.length)
    {x : α} {s : Sta} {S : Heap} (hli : LI S0 pid sid c0 f k (V x) s S) (hx : V x = []) (hl : s.l.length ≤ n) (hm1 : 1 ≤ most) :
    ACalls Tryz.prog (B0 w0) 76 [.ptr pid 0 0, .int most, .clo (.func fo) o1 o2] S (LR S0 pid sid c0 f k V (listF step most x s)) := by
  obtain ⟨r, hr⟩ : ∃ r, listF step most x s = r := ⟨_, rfl⟩
  rw [hr]
  refine fn_sound tryOrd (f76_c _) (by simp [f76]) ?_
  simp [f76, f76m]
  refine mwp_loop (I := EaI S0 pid sid c0 f k V step n most (.clo (.func fo) o1 o2) r) (n := most) ⟨x, s, 1, hli, rfl, rfl, rfl, rfl, by omega, by omega, hm1, hl, by rw [hx]; rfl, hr.symm⟩ ?_
  clear hli hx hl hr
  rintro m a S' ⟨x, s, q, hli, b0, b1, b2, b6, hqm, hq1, hm, hl, hV, hr⟩
  obtain ⟨m, rfl⟩ : ∃ m', m = m' + 1 := ⟨m - 1, by omega⟩
  rw [listF] at hr
  simp [f76b0, b0, b1, b2, b6]
  refine (hone x s _ hli (by omega) hl).use ?_
  rintro e S1 h1
  cases hF : step x s with
  | error c =>
    rw [hF] at h1 hr
    obtain ⟨rfl, h1⟩ := h1
    simp
    rw [hr]
    exact ⟨rfl, h1⟩
  | ok y =>
    obtain ⟨x', s'⟩ := y
    obtain ⟨hs1, hs2⟩ := hstep _ _ _ _ hl hF
    rw [hF] at h1 hr
    simp only at hr
    obtain ⟨rfl, h1⟩ := h1
    simp [b0, b1, b2, b6]
    refine (w39 h1.at_).use ?_
    rintro e S2 ⟨rfl, rfl⟩
    by_cases hT : isT 5 [44] s'.l = true
    · obtain ⟨t, r0, hc⟩ : ∃ t r0, s'.l = t :: r0 := by
        cases hc : s'.l with
        | nil => rw [hc] at hT; cases hT
        | cons t r0 => exact ⟨t, r0, rfl⟩
      have hT2 : t.kind = 5 ∧ t.text = [44] := by
        rw [hc] at hT; simpa [isT] using hT
      rw [if_pos hT] at hr
      by_cases hm0 : m = 0
      · subst hm0
        have hqe : (q : Int) = (most : Int) := by omega
        rw [if_pos rfl] at hr
        simp [hc, tokC, hT2.1, hT2.2, b0, b1, b2, b6, hqe]
        refine (w22 151 _).use ?_
        rintro e S3 ⟨rfl, rfl⟩
        simp
        rw [hr]
        exact ⟨rfl, h1.k2.more _⟩
      · have hqe : ((q : Int) == (most : Int)) = false := beq_eq_false_iff_ne.2 (by omega)
        rw [if_neg hm0] at hr
        simp [hc, tokC, hT2.1, hT2.2, b0, b1, b2, b6, hqe]
        refine (w85 ((h1.at_).more _) _).use ?_
        rintro e S3 ⟨hst, rfl, h2⟩
        rw [hT] at h2
        simp only [if_true] at h2
        have h3 := (h1.more _).step hst hp hps (s' := ⟨s'.l.tail, s'.d⟩) h2
        have hw := wrapS q (by omega)
        simp [b0, b1, b2, b6, hw]
        exact ⟨m, by omega, x', ⟨s'.l.tail, s'.d⟩, q + 1, h3, by simp [b0], by simp [b1], by simp [b2], by simp, by omega, by omega, by omega, by simp; omega, by omega, hr⟩
    · have hT : isT 5 [44] s'.l = false := by simpa using hT
      rw [if_neg (by simp [hT])] at hr
      have fin : ∀ g, LR S0 pid sid c0 f k V r (.ret .undef) (S2 ++ g) := fun g => by
        rw [hr]; exact ⟨rfl, h1.more g⟩
      cases hc : s'.l with
      | nil =>
        simp [zTok, tokC, b0, b1, b2, b6]
        exact fin _
      | cons t r0 =>
        rw [hc, isT_cons] at hT
        by_cases h5 : t.kind = 5
        · have h6 : ¬ t.text = [44] := by simpa [h5] using hT
          simp [tokC, h5, h6, b0, b1, b2, b6]
          exact fin _
        · have h6 : (t.kind == 5) = false := beq_eq_false_iff_ne.2 h5
          simp [tokC, bne, h6, b0, b1, b2, b6]
          exact fin _
end Go.Abs
set_option linter.unusedSimpArgs false
set_option linter.unusedVariables false
namespace Go.Abs
open Go Go.RowKit Go.Proofs Go.Lx Go.Pz
variable {w0 : World}

/-- The boxes that a list's closure has caught. -/
structure Bx (S0 : Heap) (pid sid bp bs : Nat) : Prop where
  hp : pid < S0.length
  hs : sid < S0.length
  ps : pid ≠ sid
  xp : S0[bp]? = some (.cells 1 [[.ptr pid 0 0]] (some 1))
  xs : S0[bs]? = some (.cells 1 [[.ptr sid 0 0]] (some 1))
  b1 : bp ≠ pid
  b2 : bp ≠ sid
  b3 : bs ≠ pid
  b4 : bs ≠ sid
section
variable {S0 : Heap} {pid sid bp bs : Nat} (hB : Bx S0 pid sid bp bs)
include hB
theorem Bx.gp {S : Heap} (h : Kst pid sid S0 S) : S[bp]? = some (.cells 1 [[.ptr pid 0 0]] (some 1)) := by rw [h.2 bp (lt_of_some hB.xp) hB.b1 hB.b2]; exact hB.xp
theorem Bx.gs {S : Heap} (h : Kst pid sid S0 S) : S[bs]? = some (.cells 1 [[.ptr sid 0 0]] (some 1)) := by rw [h.2 bs (lt_of_some hB.xs) hB.b3 hB.b4]; exact hB.xs
end

theorem LI.app2 {S0 : Heap} {pid sid : Nat} {c0 : List AVal} {f k bytes : Nat} {es : List (List AVal)} {s : Sta} {S : Heap} (hp : pid < S0.length) (hs : sid < S0.length) (hps : pid ≠ sid) (h1 : At S pid s.l 0 s.d) {v : AVal} (h2 : S[sid]? = some (.cells c0.length [c0.set f v] (some 1))) (h3 : Own S0.length S S [(v, k, es)]) (h4 : Kst pid sid S0 S)
    {x : List AVal} (hx : x.length = k) (hk : 0 < k) (hb : bytes ≤ 1000) (hes : es.length ≤ 100) {y : AVal} (hy : srcOf S y = some (true, [x])) :
    ∃ S3, appendR k bytes S v y = .ok true (.row S.length 0 (es.length + 1)) S3 ∧ (∀ j, j < S0.length → S3[j]? = S[j]?) ∧ S3[sid]? = some (.cells c0.length [c0.set f v] (some 1)) ∧ S.length < S3.length ∧
      LI S0 pid sid c0 f k (es ++ [x]) s (S3.set sid (.cells c0.length [c0.set f (.row S.length 0 (es.length + 1))] (some 1))) ∧ (∀ j, j < S.length → (∀ o l, v ≠ .row j o l) → S3[j]? = S[j]?) := by
  have hbb : (es.length + 1) * bytes ≤ 101 * 1000 := Nat.mul_le_mul (by omega) hb
  obtain ⟨S3, a1, a2, a3, a4⟩ := h3.app2 0 rfl (y := y) (ys := [x]) (bytes := bytes) hy (by simpa using hx) hk (by simp; omega) (by simp; omega)
  have hlow : ∀ j, j < S0.length → S3[j]? = S[j]? := fun j hj => a4 j (by have := h4.1; omega) fun o l e => by
    subst e
    have := (h3.idlt (i := 0) rfl).1
    omega
  have hsid := (hlow sid hs).trans h2
  have hS3 : S3.length = (S3.set sid (.cells c0.length [c0.set f (.row S.length 0 (es.length + 1))] (some 1))).length := by simp
  refine ⟨S3, by simpa using a1, hlow, hsid, a3, ⟨?_, ⟨.row S.length 0 (es.length + 1), List.getElem?_set_self (lt_of_some hsid), ?_⟩, ?_⟩, a4⟩
  · obtain ⟨o, ho, hpo⟩ := h1
    exact ⟨o, by rw [List.getElem?_set_ne (Ne.symm hps), hlow pid hp]; exact ho, hpo⟩
  · have := a2.keep (S' := S3.set sid (.cells c0.length [c0.set f (.row S.length 0 (es.length + 1))] (some 1))) (Nat.le_of_eq hS3) fun j hj _ => List.getElem?_set_ne (by omega)
    simpa using this
  · refine ⟨by have := h4.1; rw [← hS3]; omega, fun j hj j1 j2 => ?_⟩
    rw [List.getElem?_set_ne (Ne.symm j2), hlow j hj, h4.2 j hj j1 j2]

theorem LI.app {S0 : Heap} {pid sid : Nat} {c0 : List AVal} {f k bytes : Nat} {es : List (List AVal)} {s : Sta} {S : Heap} (hp : pid < S0.length) (hs : sid < S0.length) (hps : pid ≠ sid) (h1 : At S pid s.l 0 s.d) {v : AVal} (h2 : S[sid]? = some (.cells c0.length [c0.set f v] (some 1))) (h3 : Own S0.length S S [(v, k, es)]) (h4 : Kst pid sid S0 S)
    {x : List AVal} (hx : x.length = k) (hk : 0 < k) (hb : bytes ≤ 1000) (hes : es.length ≤ 100) {y : AVal} (hy : srcOf S y = some (true, [x])) :
    ∃ S3, appendR k bytes S v y = .ok true (.row S.length 0 (es.length + 1)) S3 ∧ (∀ j, j < S0.length → S3[j]? = S[j]?) ∧ S3[sid]? = some (.cells c0.length [c0.set f v] (some 1)) ∧ S.length < S3.length ∧
      LI S0 pid sid c0 f k (es ++ [x]) s (S3.set sid (.cells c0.length [c0.set f (.row S.length 0 (es.length + 1))] (some 1))) := by
  obtain ⟨S3, a1, a2, a3, a4, a5, _⟩ := LI.app2 (bytes := bytes) hp hs hps h1 h2 h3 h4 hx hk hb hes hy
  exact ⟨S3, a1, a2, a3, a4, a5⟩

def namesC (ns : List Bs) : List (List AVal) := ns.map fun n => [.str n]
@[simp] theorem namesC_len (ns : List Bs) : (namesC ns).length = ns.length := by simp [namesC]
theorem namesC_snoc (ns : List Bs) (n : Bs) : namesC (ns ++ [n]) = namesC ns ++ [[.str n]] := by simp [namesC]
def pcolC (c : Pz.Col) : List AVal := [.str c.name, .int c.type, .bool c.req]
def pcolsC (cs : List Pz.Col) : List (List AVal) := cs.map pcolC
@[simp] theorem pcolsC_len (ns : List Pz.Col) : (pcolsC ns).length = ns.length := by simp [pcolsC]
theorem pcolsC_snoc (ns : List Pz.Col) (n : Pz.Col) : pcolsC (ns ++ [n]) = pcolsC ns ++ [pcolC n] := by simp [pcolsC]
def itmC (x : Itm) : List AVal := exC x.e ++ [.str x.name]
def itmsC (xs : List Itm) : List (List AVal) := xs.map itmC
@[simp] theorem itmsC_len (ns : List Itm) : (itmsC ns).length = ns.length := by simp [itmsC]
theorem itmsC_snoc (ns : List Itm) (n : Itm) : itmsC (ns ++ [n]) = itmsC ns ++ [itmC n] := by simp [itmsC]
def srcC (x : Src) : List AVal := .str x.table :: .str x.alias :: exC x.on
def srcsC (xs : List Src) : List (List AVal) := xs.map srcC
@[simp] theorem srcsC_len (ns : List Src) : (srcsC ns).length = ns.length := by simp [srcsC]
theorem srcsC_snoc (ns : List Src) (n : Src) : srcsC (ns ++ [n]) = srcsC ns ++ [srcC n] := by simp [srcsC]
def srtC (x : Srt) : List AVal := exC x.e ++ [.bool x.desc]
def srtsC (xs : List Srt) : List (List AVal) := xs.map srtC
@[simp] theorem srtsC_len (ns : List Srt) : (srtsC ns).length = ns.length := by simp [srtsC]
theorem srtsC_snoc (ns : List Srt) (n : Srt) : srtsC (ns ++ [n]) = srtsC ns ++ [srtC n] := by simp [srtsC]
def asnC (x : Asn) : List AVal := .str x.col :: exC x.e
def asnsC (xs : List Asn) : List (List AVal) := xs.map asnC
@[simp] theorem asnsC_len (ns : List Asn) : (asnsC ns).length = ns.length := by simp [asnsC]
theorem asnsC_snoc (ns : List Asn) (n : Asn) : asnsC (ns ++ [n]) = asnsC ns ++ [asnC n] := by simp [asnsC]

section
variable {S0 : Heap} {pid sid bp bs : Nat} (hB : Bx S0 pid sid bp bs) {c0 : List AVal} (hc0 : c0.length = 18) {s : Sta} {S : Heap}
include hB hc0

set_option maxHeartbeats 1000000 in
/-- A name of an index's column. -/
theorem w79 {ns : List Bs} (hli : LI S0 pid sid c0 4 1 (namesC ns) s S) (hlen : ns.length ≤ 60) :
    ACalls Tryz.prog (B0 w0) 79 [.ptr bs 0 0, .ptr bp 0 0] S (LR S0 pid sid c0 4 1 namesC (bindS (nameS resv s) fun c s => .ok (ns ++ [c], s))) := by
  obtain ⟨h1, ⟨v, h2, h3⟩, h4⟩ := hli
  have g1 := hB.gp h4
  have g2 := hB.gs h4
  refine fn_sound tryOrd (f79_c _) (by simp [f79]) ?_
  simp [f79, f79m, g1, g2, h2, hc0]
  refine (w43 h1).use ?_
  rintro e S1 ⟨hst, h5⟩
  have k1 := h4.trans (hst.k2 (sid := sid))
  have g3 := hB.gp k1
  have g4 := hB.gs k1
  have h6 := (hst.2 sid (Ne.symm hB.ps)).trans h2
  rw [nameS]
  cases hN : nameR resv s.l with
  | error c =>
    rw [hN] at h5
    obtain ⟨rfl, _⟩ := h5
    simp
    exact ⟨rfl, k1⟩
  | ok y =>
    obtain ⟨n, l'⟩ := y
    rw [hN] at h5
    obtain ⟨rfl, h7⟩ := h5
    obtain ⟨S3, a1, a2, a3, a4, a5⟩ := LI.app (bytes := 16) (s := ⟨l', s.d⟩) hB.hp hB.hs hB.ps h7 h6 (h3.step hst hB.hp) k1 (x := [.str n]) rfl (by decide) (by decide) (by simp; omega) (y := .list .full [[.str n]]) rfl
    rw [hc0] at a3 a5
    have g5 := (a2 bs (lt_of_some hB.xs)).trans g4
    rw [namesC_len] at a1 a5
    simp [-appendR, g4, h6, hc0, a1, g5, a3]
    exact ⟨rfl, by rw [namesC_snoc]; exact a5⟩

set_option maxHeartbeats 1000000 in
/-- What a query answers in a column. -/
theorem w86 {N : Nat} {xs : List Itm} (hli : LI S0 pid sid c0 7 8 (itmsC xs) s S) (hlen : xs.length ≤ 60) (hl : s.l.length < N) (hN : N ≤ 1000000) :
    ACalls Tryz.prog (B0 w0) 86 [.ptr bp 0 0, .ptr bs 0 0] S (LR S0 pid sid c0 7 8 itmsC (itemS resv N xs s)) := by
  obtain ⟨r, hr⟩ : ∃ r, itemS resv N xs s = r := ⟨_, rfl⟩
  rw [hr]
  rw [itemS] at hr
  obtain ⟨h1, ⟨v, h2, h3⟩, h4⟩ := hli
  have g1 := hB.gp h4
  refine fn_sound tryOrd (f86_c _) (by simp [f86]) ?_
  simp [f86, f86m, g1]
  refine (w84 h1 hl hN).use ?_
  rintro e S1 ⟨hst, h5⟩
  have k1 := h4.trans (hst.k2 (sid := sid))
  have g3 := hB.gp k1
  have g4 := hB.gs k1
  have h6 := (hst.2 sid (Ne.symm hB.ps)).trans h2
  cases hF : whole resv N s with
  | error c =>
    rw [hF] at h5 hr
    obtain ⟨rfl, _⟩ := h5
    simp
    subst hr
    exact ⟨rfl, k1⟩
  | ok y =>
    obtain ⟨x, s1⟩ := y
    rw [hF, bindS_ok] at hr
    rw [hF] at h5
    obtain ⟨rfl, h7⟩ := h5
    have ho1 := h3.step hst hB.hp
    obtain ⟨op, vv, kind, num, scale, text, qual, hx, o1, o2⟩ := exC_shape x
    have hgp := hmoreG (lt_of_some g3)
    simp [hx, o1, hgp, g3, putAt, splice]
    refine (w42 (h7.more _) _).use ?_
    rintro e S2 ⟨hsq, rfl, h8⟩
    obtain ⟨T2, rfl, hst2⟩ := hsq.split h7.lt
    have k2 := k1.trans (hst2.k2 (sid := sid))
    have g5 := hB.gp k2
    have g6 := hB.gs k2
    have h9 := (hst2.2 sid (Ne.symm hB.ps)).trans h6
    have h8 := h8.less (hst2.1 ▸ h7.lt)
    have e2 := hst2.1
    have ho2 := ho1.step hst2 hB.hp
    have hgp2 := hmoreG (lt_of_some g5)
    have hgs2 := hmoreG (lt_of_some g6)
    have hgi2 := hmoreG (lt_of_some h9)
    rw [aliasS] at hr
    by_cases hT : isT 1 [97, 115] s1.l = true
    · rw [if_pos hT, nameS] at hr
      rw [hT] at h8
      simp only [if_true] at h8
      simp only at hr
      simp [hT, hgp2, g5, e2]
      refine (w43 (h8.more _)).use ?_
      rintro e S3 ⟨hsq3, h10⟩
      obtain ⟨T3, rfl, hst3⟩ := hsq3.split h8.lt
      have k3 := k2.trans (hst3.k2 (sid := sid))
      have g7 := hB.gs k3
      have h11 := (hst3.2 sid (Ne.symm hB.ps)).trans h9
      have e3 := hst3.1
      have ho3 := ho2.step hst3 hB.hp
      have hgs3 := hmoreG (lt_of_some g7)
      have hgi3 := hmoreG (lt_of_some h11)
      cases hN : nameR resv s1.l.tail with
      | error c =>
        rw [hN] at h10 hr
        obtain ⟨rfl, _⟩ := h10
        simp
        subst hr
        exact ⟨rfl, k3.more _⟩
      | ok y2 =>
        obtain ⟨n, l2⟩ := y2
        rw [hN] at h10 hr
        simp only [bindS_ok] at hr
        obtain ⟨rfl, h12⟩ := h10
        have h12 := h12.less (hst3.1 ▸ h8.lt)
        obtain ⟨g, hg⟩ : ∃ g, g = [AObj.cells 8 [[.int op, vv, .int kind, .int num, .int scale, .str text, .str qual, .str n]] (some 1)] := ⟨_, rfl⟩
        obtain ⟨S4, a1, a2, a3, a4, a5⟩ := LI.app (S := T3 ++ g) (bytes := 104) (s := ⟨l2, s1.d⟩) hB.hp hB.hs hB.ps (h12.more _) (by rw [hgi3]; exact h11) (ho3.more' _) (k3.more _) (x := itmC ⟨x, n⟩) (by simp [itmC]) (by decide) (by decide) (by simp; omega) (y := .list .full [itmC ⟨x, n⟩]) rfl
        rw [hc0] at a3 a5
        have g8 := (a2 bs (lt_of_some hB.xs)).trans ((hgs3 g).trans g7)
        rw [itmsC_len] at a1 a5
        simp only [itmC, hx, List.cons_append, List.nil_append] at a1
        subst hg
        simp [-appendR, o1, e3, hgs3, g7, hgi3, h11, hc0, a1, g8, a3]
        subst hr
        exact ⟨rfl, by rw [itmsC_snoc]; simpa using a5⟩
    · have hT : isT 1 [97, 115] s1.l = false := by simpa using hT
      rw [if_neg (by simp [hT]), bindS_ok] at hr
      rw [hT] at h8
      simp only [Bool.false_eq_true, if_false] at h8
      obtain ⟨g, hg⟩ : ∃ g, g = [AObj.cells 8 [[.int op, vv, .int kind, .int num, .int scale, .str text, .str qual, .str []]] (some 1)] := ⟨_, rfl⟩
      obtain ⟨S4, a1, a2, a3, a4, a5⟩ := LI.app (S := T2 ++ g) (bytes := 104) (s := s1) hB.hp hB.hs hB.ps (h8.more _) (by rw [hgi2]; exact h9) (ho2.more' _) (k2.more _) (x := itmC ⟨x, []⟩) (by simp [itmC]) (by decide) (by decide) (by simp; omega) (y := .list .full [itmC ⟨x, []⟩]) rfl
      rw [hc0] at a3 a5
      have g8 := (a2 bs (lt_of_some hB.xs)).trans ((hgs2 g).trans g6)
      rw [itmsC_len] at a1 a5
      simp only [itmC, hx, List.cons_append, List.nil_append] at a1
      subst hg
      simp [-appendR, o1, hT, e2, hgs2, g6, hgi2, h9, hc0, a1, g8, a3]
      subst hr
      exact ⟨rfl, by rw [itmsC_snoc]; simpa using a5⟩
end
end Go.Abs
set_option linter.unusedSimpArgs false
set_option linter.unusedVariables false
namespace Go.Abs
open Go Go.RowKit Go.Proofs Go.Lx Go.Pz
variable {w0 : World}

section
variable {S0 : Heap} {pid sid bp bs : Nat} (hB : Bx S0 pid sid bp bs) {c0 : List AVal} (hc0 : c0.length = 18) {s : Sta} {S : Heap}
include hB hc0

set_option maxHeartbeats 1000000 in
/-- A column's new value. -/
theorem w89 {N : Nat} {xs : List Asn} (hli : LI S0 pid sid c0 17 8 (asnsC xs) s S) (hlen : xs.length ≤ 60) (hl : s.l.length < N) (hN : N ≤ 1000000) :
    ACalls Tryz.prog (B0 w0) 89 [.ptr bp 0 0, .ptr bs 0 0] S (LR S0 pid sid c0 17 8 asnsC (setS resv N xs s)) := by
  obtain ⟨r, hr⟩ : ∃ r, setS resv N xs s = r := ⟨_, rfl⟩
  rw [hr]
  rw [setS, nameS] at hr
  obtain ⟨h1, ⟨v, h2, h3⟩, h4⟩ := hli
  have g1 := hB.gp h4
  refine fn_sound tryOrd (f89_c _) (by simp [f89]) ?_
  simp [f89, f89m, g1]
  refine (w43 h1).use ?_
  rintro e S1 ⟨hst, h5⟩
  have k1 := h4.trans (hst.k2 (sid := sid))
  have g3 := hB.gp k1
  have h6 := (hst.2 sid (Ne.symm hB.ps)).trans h2
  have ho1 := h3.step hst hB.hp
  cases hN1 : nameR resv s.l with
  | error c =>
    rw [hN1] at h5 hr
    obtain ⟨rfl, _⟩ := h5
    simp
    subst hr
    exact ⟨rfl, k1⟩
  | ok y =>
    obtain ⟨n, l1⟩ := y
    have hl1 := nameR_len hN1
    rw [hN1] at h5 hr
    simp only [bindS_ok] at hr
    obtain ⟨rfl, h7⟩ := h5
    simp [g3]
    refine (w75 h7 _).use ?_
    rintro e S2 ⟨hst2, h8⟩
    have k2 := k1.trans (hst2.k2 (sid := sid))
    have g5 := hB.gp k2
    have g6 := hB.gs k2
    have h9 := (hst2.2 sid (Ne.symm hB.ps)).trans h6
    have ho2 := ho1.step hst2 hB.hp
    rw [needS] at hr
    by_cases hT : isT 5 [61] l1 = true
    · rw [need_ok hT] at h8
      rw [if_pos hT, thenS_ok] at hr
      have hlt := isT_len hT
      obtain ⟨rfl, h8⟩ := h8
      simp [g5, g6, h9, hc0]
      refine (w84 (s := ⟨l1.tail, s.d⟩) h8 (by simp only; omega) hN).use ?_
      rintro e S3 ⟨hst3, h10⟩
      have k3 := k2.trans (hst3.k2 (sid := sid))
      have g7 := hB.gs k3
      have h11 := (hst3.2 sid (Ne.symm hB.ps)).trans h9
      have ho3 := ho2.step hst3 hB.hp
      cases hF : whole resv N ⟨l1.tail, s.d⟩ with
      | error c =>
        rw [hF] at h10 hr
        obtain ⟨rfl, _⟩ := h10
        simp
        subst hr
        exact ⟨rfl, k3⟩
      | ok y2 =>
        obtain ⟨x, s2⟩ := y2
        rw [hF] at h10 hr
        rw [bindS_ok] at hr
        obtain ⟨rfl, h12⟩ := h10
        obtain ⟨op, vv, kind, num, scale, text, qual, hx, o1, o2⟩ := exC_shape x
        obtain ⟨S4, a1, a2, a3, a4, a5⟩ := LI.app (bytes := 104) (s := s2) hB.hp hB.hs hB.ps h12 h11 ho3 k3 (x := asnC ⟨n, x⟩) (by simp [asnC]) (by decide) (by decide) (by simp; omega) (y := .list .full [asnC ⟨n, x⟩]) rfl
        rw [hc0] at a3 a5
        have g8 := (a2 bs (lt_of_some hB.xs)).trans g7
        rw [asnsC_len] at a1 a5
        simp only [asnC, hx] at a1
        simp [-appendR, hx, o1, putAt, splice, g7, h11, hc0, a1, g8, a3]
        subst hr
        exact ⟨rfl, by rw [asnsC_snoc]; exact a5⟩
    · have hT : isT 5 [61] l1 = false := by simpa using hT
      rw [need_er hT] at h8
      rw [if_neg (by simp [hT]), thenS_error] at hr
      obtain ⟨rfl, _⟩ := h8
      simp
      subst hr
      exact ⟨rfl, k2⟩

set_option maxHeartbeats 1000000 in
/-- What is sorted by. -/
theorem w88 {N : Nat} {xs : List Srt} (hli : LI S0 pid sid c0 16 8 (srtsC xs) s S) (hlen : xs.length ≤ 60) (hl : s.l.length < N) (hN : N ≤ 1000000) :
    ACalls Tryz.prog (B0 w0) 88 [.ptr bs 0 0, .ptr bp 0 0] S (LR S0 pid sid c0 16 8 srtsC (sortS resv N xs s)) := by
  obtain ⟨r, hr⟩ : ∃ r, sortS resv N xs s = r := ⟨_, rfl⟩
  rw [hr]
  rw [sortS] at hr
  obtain ⟨h1, ⟨v, h2, h3⟩, h4⟩ := hli
  have g1 := hB.gp h4
  have g2 := hB.gs h4
  refine fn_sound tryOrd (f88_c _) (by simp [f88]) ?_
  simp [f88, f88m, g1, g2, h2, hc0]
  refine (w84 h1 hl hN).use ?_
  rintro e S1 ⟨hst, h5⟩
  have k1 := h4.trans (hst.k2 (sid := sid))
  have g3 := hB.gp k1
  have g4 := hB.gs k1
  have h6 := (hst.2 sid (Ne.symm hB.ps)).trans h2
  have ho1 := h3.step hst hB.hp
  cases hF : whole resv N s with
  | error c =>
    rw [hF] at h5 hr
    obtain ⟨rfl, _⟩ := h5
    simp
    subst hr
    exact ⟨rfl, k1⟩
  | ok y =>
    obtain ⟨x, s1⟩ := y
    rw [hF] at h5 hr
    rw [bindS_ok] at hr
    obtain ⟨rfl, h7⟩ := h5
    obtain ⟨op, vv, kind, num, scale, text, qual, hx, o1, o2⟩ := exC_shape x
    simp [g3, g4, h6, hc0]
    refine (w42 h7 _).use ?_
    rintro e S2 ⟨hst2, rfl, h8⟩
    have k2 := k1.trans (hst2.k2 (sid := sid))
    have g5 := hB.gp k2
    have g6 := hB.gs k2
    have h9 := (hst2.2 sid (Ne.symm hB.ps)).trans h6
    have ho2 := ho1.step hst2 hB.hp
    obtain ⟨S4, a1, a2, a3, a4, a5⟩ := LI.app (bytes := 96) (s := if isT 1 [100, 101, 115, 99] s1.l then ⟨s1.l.tail, s1.d⟩ else s1) hB.hp hB.hs hB.ps (by split at h8 <;> simp_all) h9 ho2 k2 (x := srtC ⟨x, isT 1 [100, 101, 115, 99] s1.l⟩) (by simp [srtC]) (by decide) (by decide) (by simp; omega) (y := .list .full [srtC ⟨x, isT 1 [100, 101, 115, 99] s1.l⟩]) rfl
    rw [hc0] at a3 a5
    have g8 := (a2 bs (lt_of_some hB.xs)).trans g6
    rw [srtsC_len] at a1 a5
    simp only [srtC, hx, List.cons_append, List.nil_append] at a1
    simp [-appendR, hx, o1, putAt, splice, g6, h9, hc0, a1, g8, a3]
    subst hr
    exact ⟨rfl, by rw [srtsC_snoc]; exact a5⟩
end

set_option maxHeartbeats 1000000 in
/-- A source. -/
theorem w87 {S : Heap} {pid : Nat} {s : Sta} (ha : At S pid s.l 0 s.d) : ACalls Tryz.prog (B0 w0) 87 [.ptr pid 0 0] S (StR (fun x => .agg (srcC x)) S pid (sourceS resv s)) := by
  obtain ⟨r, hr⟩ : ∃ r, sourceS resv s = r := ⟨_, rfl⟩
  rw [hr]
  rw [sourceS, nameS] at hr
  refine ACalls.fin (pid := pid) ?_
  refine fn_sound tryOrd (f87_c _) (by simp [f87]) ?_
  simp [f87, f87m]
  refine (w43 (ha.more _)).use ?_
  rintro e S1 ⟨hsq1, h1⟩
  obtain ⟨T1, rfl, hst1⟩ := hsq1.split ha.lt
  have e1 := hst1.1
  cases hN : nameR resv s.l with
  | error c =>
    rw [hN] at h1 hr
    obtain ⟨rfl, l', k', d', h1⟩ := h1
    simp
    subst hr
    exact StR.err hst1 (h1.less (hst1.1 ▸ ha.lt))
  | ok y =>
    obtain ⟨n, l1⟩ := y
    rw [hN] at h1 hr
    simp only [bindS_ok] at hr
    obtain ⟨rfl, h1⟩ := h1
    have h1 := h1.less (hst1.1 ▸ ha.lt)
    simp [e1]
    refine (w42 (h1.more _) _).use ?_
    rintro e S2 ⟨hsq2, rfl, h2⟩
    obtain ⟨T2, rfl, hst2⟩ := hsq2.split h1.lt
    have e2 := hst2.1
    have hst02 := hst1.trans hst2
    have h2 := h2.less (hst2.1 ▸ h1.lt)
    rw [aliasS] at hr
    by_cases hT : isT 1 [97, 115] l1 = true
    · rw [if_pos hT, nameS] at hr
      rw [hT] at h2
      simp only [if_true] at h2
      simp [hT, e2]
      refine (w43 (h2.more _)).use ?_
      rintro e S3 ⟨hsq3, h3⟩
      obtain ⟨T3, rfl, hst3⟩ := hsq3.split h2.lt
      have e3 := hst3.1
      have hst03 := hst02.trans hst3
      simp only at hr
      cases hN2 : nameR resv l1.tail with
      | error c =>
        rw [hN2] at h3 hr
        obtain ⟨rfl, l', k', d', h3⟩ := h3
        simp
        subst hr
        exact StR.err hst03 (h3.less (hst3.1 ▸ h2.lt))
      | ok y2 =>
        obtain ⟨n2, l2⟩ := y2
        rw [hN2] at h3 hr
        simp only [bindS_ok] at hr
        obtain ⟨rfl, h3⟩ := h3
        have h3 := h3.less (hst3.1 ▸ h2.lt)
        have hb : srcC ⟨n, n2, .zero⟩ = [.str n, .str n2, .int 0, .nilS, .int 0, .int 0, .int 0, .str [], .str []] := by rw [srcC, Ex.zero, exC_eq, exsV_nil]
        simp [e3]
        rw [← hb]
        subst hr
        exact StR.ok (V := fun x => AVal.agg (srcC x)) (s := ⟨l2, s.d⟩) hst03 h3 (by simp [srcC, scL, AVal.sc])
    · have hT : isT 1 [97, 115] l1 = false := by simpa using hT
      rw [if_neg (by simp [hT]), bindS_ok] at hr
      rw [hT] at h2
      simp only [Bool.false_eq_true, if_false] at h2
      have hb : srcC ⟨n, [], .zero⟩ = [.str n, .str [], .int 0, .nilS, .int 0, .int 0, .int 0, .str [], .str []] := by rw [srcC, Ex.zero, exC_eq, exsV_nil]
      simp [hT, e2]
      rw [← hb]
      subst hr
      exact StR.ok (V := fun x => AVal.agg (srcC x)) (s := ⟨l1, s.d⟩) hst02 h2 (by simp [srcC, scL, AVal.sc])
end Go.Abs
set_option linter.unusedSimpArgs false
set_option linter.unusedVariables false
namespace Go.Abs
open Go Go.RowKit Go.Proofs Go.Lx Go.Pz
variable {w0 : World}

abbrev ColR := StR fun c : Pz.Col => AVal.agg (pcolC c)
set_option maxHeartbeats 2000000 in
/-- A column. -/
theorem w78 {S : Heap} {pid : Nat} {s : Sta} (ha : At S pid s.l 0 s.d) : ACalls Tryz.prog (B0 w0) 78 [.ptr pid 0 0] S (ColR S pid (columnS resv s)) := by
  obtain ⟨r, hr⟩ : ∃ r, columnS resv s = r := ⟨_, rfl⟩
  rw [hr]
  rw [columnS, nameS] at hr
  refine ACalls.fin (pid := pid) ?_
  refine fn_sound tryOrd (f78_c _) (by simp [f78]) ?_
  simp [f78, f78m]
  refine (w43 (ha.more _)).use ?_
  rintro e S1 ⟨hsq1, h1⟩
  obtain ⟨T1, rfl, hst1⟩ := hsq1.split ha.lt
  have e1 := hst1.1
  cases hN : nameR resv s.l with
  | error c =>
    rw [hN] at h1 hr
    obtain ⟨rfl, l', k', d', h1⟩ := h1
    simp
    subst hr
    exact StR.err hst1 (h1.less (hst1.1 ▸ ha.lt))
  | ok y =>
    obtain ⟨n, l1⟩ := y
    rw [hN] at h1 hr
    simp only [bindS_ok] at hr
    obtain ⟨rfl, h1⟩ := h1
    have h1 := h1.less (hst1.1 ▸ ha.lt)
    -- what comes behind the type
    have tail : ∀ (T : Heap) (a : Tmps) (ty : Int) (l2 : List Tok), Step pid S T → At T pid l2 0 s.d → get a 0 = .ptr pid 0 0 → get a 2 = .ptr T.length 0 0 →
        bindS (.ok (ty, (⟨l2, s.d⟩ : Sta))) (fun t s => if isT 1 [110, 111, 116] s.l then thenS (needS 1 [110, 117, 108, 108] ⟨s.l.tail, s.d⟩) fun s => .ok ((⟨n, t, true⟩ : Pz.Col), s) else .ok (⟨n, t, false⟩, s)) = r →
        mwp (ACalls Tryz.prog (B0 w0)) (.seq (.seq (.ops [⟨some 22, none, .op (.mv 0)⟩, ⟨some 23, none, .call 42 [22, (.val (.str [110, 111, 116]))]⟩])
          (.cond 23 (.seq (.ops [⟨some 24, none, .op (.mv 0)⟩, ⟨some 25, none, .op (.bslice false 1 1 [.str []] [(0, (.val (.str [110, 117, 108, 108])))])⟩, ⟨some 26, none, .call 40 [24, 25]⟩]) (.ops [⟨some 27, none, .op (.faddr 2 2)⟩, ⟨none, none, .op (.store false 1 27 (.val (.bool true)))⟩])) (.skip)))
          (.seq (.ops [⟨some 28, none, .op (.load true 3 2)⟩, ⟨none, none, .op (.store true 3 2 28)⟩]) (.ret))) (resPost [.cell 2 true 3] (Fin S pid (ColR S pid r))) a (T ++ [.cells 3 [[.str n, .int ty, .bool false]] (some 1)]) := fun T a ty l2 hst h2 b0 b2 hr => by
      rw [bindS_ok] at hr
      simp [b0, b2]
      refine (w42 (h2.more _) _).use ?_
      rintro e S2 ⟨hsq2, rfl, h3⟩
      obtain ⟨T2, rfl, hst2⟩ := hsq2.split h2.lt
      have e2 := hst2.1
      have hst02 := hst.trans hst2
      have h3 := h3.less (hst2.1 ▸ h2.lt)
      by_cases hT : isT 1 [110, 111, 116] l2 = true
      · rw [if_pos hT, needS] at hr
        rw [hT] at h3
        simp only [if_true] at h3
        simp [hT, b0, b2, e2]
        refine (w40 (h3.more _) _).use ?_
        rintro e S3 ⟨hsq3, h4⟩
        obtain ⟨T3, rfl, hst3⟩ := hsq3.split h3.lt
        have e3 := hst3.1
        have hst03 := hst02.trans hst3
        by_cases hU : isT 1 [110, 117, 108, 108] l2.tail = true
        · rw [need_ok hU] at h4
          rw [if_pos hU, thenS_ok] at hr
          obtain ⟨rfl, h4⟩ := h4
          simp [b0, b2, e2, e3]
          subst hr
          exact StR.ok (V := fun x => AVal.agg (pcolC x)) (x := ⟨n, ty, true⟩) (s := ⟨l2.tail.tail, s.d⟩) hst03 (h4.less (hst3.1 ▸ h3.lt)) (by simp [pcolC, scL, AVal.sc])
        · have hU : isT 1 [110, 117, 108, 108] l2.tail = false := by simpa using hU
          rw [need_er hU] at h4
          rw [if_neg (by simp [hU]), thenS_error] at hr
          obtain ⟨rfl, l', k', d', h4⟩ := h4
          simp
          subst hr
          exact StR.err hst03 (h4.less (hst3.1 ▸ h3.lt))
      · have hT : isT 1 [110, 111, 116] l2 = false := by simpa using hT
        rw [if_neg (by simp [hT])] at hr
        rw [hT] at h3
        simp only [Bool.false_eq_true, if_false] at h3
        simp [hT, b0, b2, e2]
        subst hr
        exact StR.ok (V := fun x => AVal.agg (pcolC x)) (x := ⟨n, ty, false⟩) (s := ⟨l2, s.d⟩) hst02 h3 (by simp [pcolC, scL, AVal.sc])
    rw [typeS] at hr
    simp only at hr
    simp [e1]
    refine (w42 (h1.more _) _).use ?_
    rintro e S2 ⟨hsq2, rfl, h2⟩
    obtain ⟨T2, rfl, hst2⟩ := hsq2.split h1.lt
    have e2 := hst2.1
    have hst02 := hst1.trans hst2
    have h2 := h2.less (hst2.1 ▸ h1.lt)
    by_cases hT1 : isT 1 [105, 110, 116] l1 = true
    · rw [if_pos hT1] at hr
      rw [hT1] at h2
      simp only [if_true] at h2
      simp [hT1, e2, -mwp_seq]
      exact tail T2 _ 2 l1.tail hst02 h2 (by simp) (by simp [e2]) hr
    have hT1 : isT 1 [105, 110, 116] l1 = false := by simpa using hT1
    rw [if_neg (by simp [hT1])] at hr
    rw [hT1] at h2
    simp only [Bool.false_eq_true, if_false] at h2
    simp [hT1, e2]
    refine (w42 (h2.more _) _).use ?_
    rintro e S3 ⟨hsq3, rfl, h3⟩
    obtain ⟨T3, rfl, hst3⟩ := hsq3.split h2.lt
    have e3 := hst3.1
    have hst03 := hst02.trans hst3
    have h3 := h3.less (hst3.1 ▸ h2.lt)
    by_cases hT2 : isT 1 [114, 101, 97, 108] l1 = true
    · rw [if_pos hT2] at hr
      rw [hT2] at h3
      simp only [if_true] at h3
      simp [hT2, e3, -mwp_seq]
      exact tail T3 _ 3 l1.tail hst03 h3 (by simp) (by simp [e3]) hr
    have hT2 : isT 1 [114, 101, 97, 108] l1 = false := by simpa using hT2
    rw [if_neg (by simp [hT2])] at hr
    rw [hT2] at h3
    simp only [Bool.false_eq_true, if_false] at h3
    simp [hT2, e3]
    refine (w42 (h3.more _) _).use ?_
    rintro e S4 ⟨hsq4, rfl, h4⟩
    obtain ⟨T4, rfl, hst4⟩ := hsq4.split h3.lt
    have e4 := hst4.1
    have hst04 := hst03.trans hst4
    have h4 := h4.less (hst4.1 ▸ h3.lt)
    by_cases hT3 : isT 1 [98, 111, 111, 108] l1 = true
    · rw [if_pos hT3] at hr
      rw [hT3] at h4
      simp only [if_true] at h4
      simp [hT3, e4, -mwp_seq]
      exact tail T4 _ 1 l1.tail hst04 h4 (by simp) (by simp [e4]) hr
    have hT3 : isT 1 [98, 111, 111, 108] l1 = false := by simpa using hT3
    rw [if_neg (by simp [hT3])] at hr
    rw [hT3] at h4
    simp only [Bool.false_eq_true, if_false] at h4
    simp [hT3, e4]
    refine (w40 (h4.more _) _).use ?_
    rintro e S5 ⟨hsq5, h5⟩
    obtain ⟨T5, rfl, hst5⟩ := hsq5.split h4.lt
    have e5 := hst5.1
    have hst05 := hst04.trans hst5
    by_cases hT4 : isT 1 [116, 101, 120, 116] l1 = true
    · rw [if_pos hT4] at hr
      rw [need_ok hT4] at h5
      obtain ⟨rfl, h5⟩ := h5
      simp [e5, -mwp_seq]
      exact tail T5 _ 4 l1.tail hst05 (h5.less (hst5.1 ▸ h4.lt)) (by simp) (by simp [e5]) hr
    · have hT4 : isT 1 [116, 101, 120, 116] l1 = false := by simpa using hT4
      rw [if_neg (by simp [hT4])] at hr
      rw [need_er hT4] at h5
      obtain ⟨rfl, l', k', d', h5⟩ := h5
      simp
      subst hr
      exact StR.err hst05 (h5.less (hst5.1 ▸ h4.lt))

/-- WHERE. -/
def WhR (S : Heap) (pid sid : Nat) (c0 : List AVal) (r : ResS Ex) (e : AEnd) (S' : Heap) : Prop :=
  S.length = S'.length ∧ (∀ j, j ≠ pid → j ≠ sid → S'[j]? = S[j]?) ∧ match r with
    | .ok (x, s) => e = .ret .undef ∧ At S' pid s.l 0 s.d ∧ S'[sid]? = some (.cells 18 [c0.take 9 ++ exC x ++ c0.drop 16] (some 1))
    | .error c => e = .panic (trb c)
set_option maxHeartbeats 1000000 in
theorem w47 {S : Heap} {pid sid N : Nat} {s : Sta} {c0 : List AVal} (hc0 : c0.length = 18) (hz : c0.take 9 ++ exC .zero ++ c0.drop 16 = c0) (hps : pid ≠ sid) (ha : At S pid s.l 0 s.d) (hs : S[sid]? = some (.cells 18 [c0] (some 1))) (hl : s.l.length ≤ N) (hN : N ≤ 1000000) :
    ACalls Tryz.prog (B0 w0) 47 [.ptr pid 0 0, .ptr sid 0 0] S (WhR S pid sid c0 (whereS resv N s)) := by
  obtain ⟨r, hr⟩ : ∃ r, whereS resv N s = r := ⟨_, rfl⟩
  rw [hr]
  rw [whereS] at hr
  refine fn_sound tryOrd (f47_c _) (by simp [f47]) ?_
  simp [f47, f47m]
  refine (w42 ha _).use ?_
  rintro e S1 ⟨hst1, rfl, h1⟩
  have g1 := (hst1.2 sid (Ne.symm hps)).trans hs
  by_cases hT : isT 1 [119, 104, 101, 114, 101] s.l = true
  · rw [if_pos hT] at hr
    rw [hT] at h1
    simp only [if_true] at h1
    have hlt := isT_len hT
    simp [hT]
    refine (w84 (N := N) (s := ⟨s.l.tail, s.d⟩) h1 (by simp only; omega) hN).use ?_
    rintro e S2 ⟨hst2, h2⟩
    have g2 := (hst2.2 sid (Ne.symm hps)).trans g1
    have hst02 := hst1.trans hst2
    cases hF : whole resv N ⟨s.l.tail, s.d⟩ with
    | error c =>
      rw [hF] at h2 hr
      obtain ⟨rfl, _⟩ := h2
      simp
      subst hr
      exact ⟨hst02.1, fun j h _ => hst02.2 j h, rfl⟩
    | ok y =>
      obtain ⟨x, s2⟩ := y
      rw [hF] at h2 hr
      obtain ⟨rfl, h2⟩ := h2
      obtain ⟨op, vv, kind, num, scale, text, qual, hx, o1, o2⟩ := exC_shape x
      simp [hx, o1, putAt, splice, g2]
      subst hr
      refine ⟨by simp [hst02.1], fun j h h' => by rw [List.getElem?_set_ne (Ne.symm h')]; exact hst02.2 j h, rfl, ?_, ?_⟩
      · obtain ⟨o, ho, hpo⟩ := h2
        exact ⟨o, by rw [List.getElem?_set_ne (Ne.symm hps)]; exact ho, hpo⟩
      · rw [List.getElem?_set_self (lt_of_some g2), hx]; simp
  · have hT : isT 1 [119, 104, 101, 114, 101] s.l = false := by simpa using hT
    rw [if_neg (by simp [hT])] at hr
    rw [hT] at h1
    simp only [Bool.false_eq_true, if_false] at h1
    simp [hT]
    subst hr
    exact ⟨hst1.1, fun j h _ => hst1.2 j h, rfl, h1, by rw [hz]; exact g1⟩

section
variable {S0 : Heap} {pid sid bp bs : Nat} (hB : Bx S0 pid sid bp bs) {c0 : List AVal} (hc0 : c0.length = 18) {s : Sta} {S : Heap}
include hB hc0
set_option maxHeartbeats 1000000 in
/-- A column of a table. -/
theorem w77 {ns : List Pz.Col} (hli : LI S0 pid sid c0 3 3 (pcolsC ns) s S) (hlen : ns.length ≤ 60) :
    ACalls Tryz.prog (B0 w0) 77 [.ptr bs 0 0, .ptr bp 0 0] S (LR S0 pid sid c0 3 3 pcolsC (bindS (columnS resv s) fun c s => .ok (ns ++ [c], s))) := by
  obtain ⟨h1, ⟨v, h2, h3⟩, h4⟩ := hli
  have g1 := hB.gp h4
  have g2 := hB.gs h4
  refine fn_sound tryOrd (f77_c _) (by simp [f77]) ?_
  simp [f77, f77m, g1, g2, h2, hc0]
  refine (w78 h1).use ?_
  rintro e S1 ⟨hst, h5⟩
  have k1 := h4.trans (hst.k2 (sid := sid))
  have g3 := hB.gp k1
  have g4 := hB.gs k1
  have h6 := (hst.2 sid (Ne.symm hB.ps)).trans h2
  cases hN : columnS resv s with
  | error c =>
    rw [hN] at h5
    obtain ⟨rfl, _⟩ := h5
    simp
    exact ⟨rfl, k1⟩
  | ok y =>
    obtain ⟨n, s'⟩ := y
    rw [hN] at h5
    obtain ⟨rfl, h7⟩ := h5
    obtain ⟨S3, a1, a2, a3, a4, a5⟩ := LI.app (bytes := 32) (s := s') hB.hp hB.hs hB.ps h7 h6 (h3.step hst hB.hp) k1 (x := pcolC n) rfl (by decide) (by decide) (by simp; omega) (y := .list .full [pcolC n]) rfl
    rw [hc0] at a3 a5
    have g5 := (a2 bs (lt_of_some hB.xs)).trans g4
    rw [pcolsC_len] at a1 a5
    simp only [pcolC] at a1
    simp [-appendR, pcolC, g4, h6, hc0, a1, g5, a3]
    exact ⟨rfl, by rw [pcolsC_snoc]; exact a5⟩
end
end Go.Abs
set_option linter.unusedSimpArgs false
set_option linter.unusedVariables false
namespace Go.Abs
open Go Go.RowKit Go.Proofs Go.Lx Go.Pz
variable {w0 : World}

def exlC (xs : List Ex) : List (List AVal) := xs.map exC
@[simp] theorem exlC_len (xs : List Ex) : (exlC xs).length = xs.length := by simp [exlC]
theorem exlC_snoc (xs : List Ex) (x : Ex) : exlC (xs ++ [x]) = exlC xs ++ [exC x] := by simp [exlC]
theorem whole_len {N : Nat} {s s' : Sta} {x : Ex} (h : whole resv N s = .ok (x, s')) (hl : s.l.length ≤ N) : s'.l.length < s.l.length := by
  rw [whole] at h
  cases hF : Pz.either resv N 0 s.l with
  | error c => rw [hF] at h; cases h
  | ok y =>
    obtain ⟨y, l'⟩ := y
    have := either_good resv N 0 _ _ _ hl hF
    rw [hF] at h
    simp only [Except.ok.injEq, Prod.mk.injEq] at h
    obtain ⟨rfl, rfl⟩ := h
    simp only
    omega

set_option maxHeartbeats 1000000 in
/-- An expression of a row. -/
theorem w83 {T : Heap} {pid b2 bp N : Nat} (hp : pid < T.length) (hb2 : b2 < T.length) (hpb : pid ≠ b2) (hbp : T[bp]? = some (.cells 1 [[.ptr pid 0 0]] (some 1))) (hbp1 : bp ≠ pid) (hbp2 : bp ≠ b2) {s : Sta} {S : Heap} {xs : List Ex}
    (hli : LI T pid b2 [.nilS] 0 7 (exlC xs) s S) (hlen : xs.length ≤ 60) (hl : s.l.length < N) (hN : N ≤ 1000000) :
    ACalls Tryz.prog (B0 w0) 83 [.ptr b2 0 0, .ptr bp 0 0] S (LR T pid b2 [.nilS] 0 7 exlC (exprsS resv N xs s)) := by
  obtain ⟨r, hr⟩ : ∃ r, exprsS resv N xs s = r := ⟨_, rfl⟩
  rw [hr]
  rw [exprsS] at hr
  obtain ⟨h1, ⟨v, h2, h3⟩, h4⟩ := hli
  have h2 : S[b2]? = some (.cells 1 [[v]] (some 1)) := h2
  have g1 : S[bp]? = some (.cells 1 [[.ptr pid 0 0]] (some 1)) := (h4.2 bp (lt_of_some hbp) hbp1 hbp2).trans hbp
  have hv := (h3.rk 0 rfl).lenR
  rw [exlC_len] at hv
  refine fn_sound tryOrd (f83_c _) (by simp [f83]) ?_
  simp [-appendR, f83, f83m, g1, h2, hv]
  refine (w84 h1 hl hN).use ?_
  rintro e S1 ⟨hst, h5⟩
  have k1 := h4.trans (hst.k2 (sid := b2))
  have h6 := (hst.2 b2 (Ne.symm hpb)).trans h2
  have ho1 := h3.step hst hp
  have hv1 := (ho1.rk 0 rfl).lenR
  rw [exlC_len] at hv1
  cases hF : whole resv N s with
  | error c =>
    rw [hF] at h5 hr
    obtain ⟨rfl, _⟩ := h5
    simp
    subst hr
    exact ⟨rfl, k1⟩
  | ok y =>
    obtain ⟨x, s1⟩ := y
    rw [hF] at h5 hr
    rw [bindS_ok] at hr
    obtain ⟨rfl, h7⟩ := h5
    obtain ⟨S3, a1, a2, a3, a4⟩ := ho1.app2 0 rfl (y := .list .full [[.int 0, .nilS, .int 0, .int 0, .int 0, .str [], .str []]]) (ys := [[.int 0, .nilS, .int 0, .int 0, .int 0, .str [], .str []]]) (bytes := 88) rfl (by simp) (by decide) (by simp; omega) (by simp; omega)
    simp only [exlC_len, List.length_singleton, List.set_cons_zero] at a1 a2
    have hlow : ∀ j, j < T.length → S3[j]? = S1[j]? := fun j hj => a4 j (by have := k1.1; omega) fun o l e => by
      subst e
      have := (ho1.idlt (i := 0) rfl).1
      omega
    have g3 := (hlow b2 hb2).trans h6
    have hap := a2.ap 0 _ _ _ rfl
    obtain ⟨es3, cap3, hc3, hle3, hes3⟩ : ∃ es3 cap3, S3[S1.length]? = some (.cells 7 es3 cap3) ∧ 0 + (xs.length + 1) ≤ es3.length ∧ (es3.drop 0).take (xs.length + 1) = exlC xs ++ [[.int 0, .nilS, .int 0, .int 0, .int 0, .str [], .str []]] := by
      generalize hZ : exlC xs ++ [[AVal.int 0, .nilS, .int 0, .int 0, .int 0, .str [], .str []]] = Z at hap
      cases hap with
      | row _ _ _ es3 cap3 hN hS hle => exact ⟨es3, cap3, hS, hle, rfl⟩
    have hq : S1.length ≠ b2 := by have := k1.1; omega
    have hqp : S1.length ≠ pid := by have := k1.1; omega
    have hlt3 : xs.length < es3.length := by omega
    have fin : ∀ H : Heap, H.length = S3.length → H[S1.length]? = some (.cells 7 (es3.set xs.length (exC x)) cap3) → H[b2]? = some (.cells 1 [[.row S1.length 0 (xs.length + 1)]] (some 1)) → (∀ j, j ≠ S1.length → j ≠ b2 → H[j]? = S3[j]?) →
        LI T pid b2 [.nilS] 0 7 (exlC (xs ++ [x])) s1 H := fun H e1 e2 e3 e4 => by
      refine ⟨?_, ⟨.row S1.length 0 (xs.length + 1), e3, ⟨?_, fun _ _ => rfl, fun i v k es hi => ?_, fun i j id o l o' l' k es k' es' hi hj => ?_⟩⟩, ?_⟩
      · obtain ⟨o, ho, hpo⟩ := h7
        exact ⟨o, by rw [e4 pid (Ne.symm hqp) hpb, hlow pid hp]; exact ho, hpo⟩
      · have := k1.1; omega
      · cases i with
        | zero =>
          simp only [List.getElem?_cons_zero, Option.some.injEq, Prod.mk.injEq] at hi
          obtain ⟨rfl, rfl, rfl⟩ := hi
          have := Ap.row (N := T.length) (k := 7) (S := H) S1.length 0 (xs.length + 1) (es3.set xs.length (exC x)) cap3 k1.1 e2 (by simpa using hle3)
          rw [List.drop_zero] at this hes3
          have hx : (es3.set xs.length (exC x)).take (xs.length + 1) = exlC (xs ++ [x]) := by
            rw [List.take_set, hes3, exlC_snoc, List.set_append_right _ _ (by simp)]
            simp
          rwa [hx] at this
        | succ i => simp at hi
      · cases i <;> cases j <;> first | rfl | (simp at hi; done) | (simp at hj; done)
      · refine ⟨by have := k1.1; omega, fun j hj j1 j2 => ?_⟩
        rw [e4 j (by have := k1.1; omega) j2, hlow j hj, k1.2 j hj j1 j2]
    simp [-appendR, h6, hv1, a1, hc3, hlt3, g3, hq]
    have hql := lt_of_some hc3
    have hbl := lt_of_some g3
    refine ⟨by omega, ?_, ?_⟩
    · subst hr
      refine And.intro rfl (fin _ (by simp) ?_ ?_ ?_)
      · rw [List.getElem?_set_ne (Ne.symm hq), List.getElem?_set_self hql]
      · rw [List.getElem?_set_self (by simpa using hbl)]
      · intro j j1 j2
        rw [List.getElem?_set_ne (Ne.symm j2), List.getElem?_set_ne (Ne.symm j1)]
    · have g4 : (S3.set b2 (.cells 1 [[.row S1.length 0 (xs.length + 1)]] (some 1)))[S1.length]? = some (.cells 7 es3 cap3) := by rw [List.getElem?_set_ne (Ne.symm hq)]; exact hc3
      simp [g4, hlt3]
      subst hr
      refine ⟨by omega, ?_⟩
      refine And.intro rfl (fin _ (by simp) ?_ ?_ ?_)
      · rw [List.getElem?_set_self (by simpa using hql)]
      · rw [List.getElem?_set_ne hq, List.getElem?_set_self hbl]
      · intro j j1 j2
        rw [List.getElem?_set_ne (Ne.symm j1), List.getElem?_set_ne (Ne.symm j2)]
end Go.Abs
