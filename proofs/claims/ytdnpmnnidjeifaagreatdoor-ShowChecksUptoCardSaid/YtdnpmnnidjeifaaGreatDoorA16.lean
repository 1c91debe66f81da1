/- The abstract machine, part 16: the translation of code, and that it is right where the order is given. Conditions: none; definitions and lemmas. -/
import Derived.Test.YtdnpmnnidjeifaaGreatDoorA15
namespace Go.Abs
open Go Go.RowKit
def served : MOp → Bool
 | .mv _ | .pick .. | .alloc .. | .box .. | .build .. | .bslice .. | .load .. | .store .. | .nilck _ | .bin .. | .un .. | .mkif .. | .mkfn .. | .mkslice .. | .slc .. | .sslc .. | .faddr .. | .field .. | .iaddr ..
 | .iaddrA .. | .idxS .. | .extract .. | .lenS _ | .lenStr _ | .lenM _ | .append .. | .clearS .. | .mm .. | .capS _ => true
 | .mkmap | .lookup .. | .mapUp .. | .mapEnt .. | .entSt .. | .delete .. | .rangeM _ | .entry _ | .copy .. | .idxA .. | .tassert .. | .rangeS _ | .nextS _ => true
 | .conv (.toInt _) _ | .conv .strStr _ | .conv .intStr _ | .conv .strBytes _ | .conv .bytesStr _ => true
 | _ => false
def cmpK (P : Program) (G : Nat → AVal) (op : Op) : Option MK :=
 match op with
 | .call { callee := .value (.func f), args, .. } => if callable P f then (ods G args.toList).map (.call f) else none
 | .call { callee := .value x, args, .. } => match od G x, ods G args.toList with
   | some x, some l => some (.callV x l)
   | _, _ => none
 | .next x false => (od G x).map .next
 | .panic x => (od G x).map fun y => .op (.panic y)
 | op => match cmp P G op with
   | some m => if served m then some (.op m) else none
   | none => none
def cmpG (nt : Nat) (ops : Array Oper) : Option (Nat × Bool) → Option (Option (Nat × Bool))
 | none => some none
 | some (j, b) => match (ops[j]?).bind (·.dst) with
   | some d => if d < nt then some (some (d, b)) else none
   | none => none
def stuckOp : MOp := .extract (.val .top) 0
def cmpKr0 (P : Program) (G : Nat → AVal) (rows : List Nat) (o : Oper) : Option MK :=
 match o.op, o.dst with
 | .buildSlice t n parts, some d => if rows.contains d then match P.underlying t with
   | some (.slice e) => match tyI P e, cmpElems G parts.toList with
     | some i, some l => some (.op (.brow i.agg i.size n i.z l))
     | _, _ => none
   | _ => none
  else cmpK P G o.op
 | _, _ => cmpK P G o.op
def cmpKr (P : Program) (G : Nat → AVal) (rows : List Nat) (o : Oper) : Option MK :=
 match cmpKr0 P G rows o with
 | some k => some k
 | none => some (.op stuckOp)
def cmpI (P : Program) (G : Nat → AVal) (rows : List Nat) (nt : Nat) (ops : Array Oper) (o : Oper) : Option MI :=
 match cmpKr P G rows o, cmpG nt ops o.guard, (match o.dst with | some d => decide (d < nt) | none => true) with
 | some k, some g, true => some ⟨o.dst, g, k⟩
 | _, _, _ => none
section
variable {P : Program} {β : Base}
theorem cmpB_sound {o : Oper} {b : Builtin} {args : Array Operand} {ts : Array TypeId} {mo : MOp} (he : o.op = .call { callee := .builtin b, args, argTypes := ts }) (h : cmpB P β.G b ts args.toList = some mo) (hserv : served mo = true) : Sound P β o mo := by
 obtain ⟨args⟩ := args
 unfold cmpB at h
 split at h
 case h_1 x t hl h0 =>
  obtain rfl : args = [x] := hl
  split at h
  ·rename_i hd; simp only [Option.map_eq_some_iff] at h; obtain ⟨y, hy, rfl⟩ := h; exact sound_lenStr he h0 hd hy
  ·rename_i e hd; simp only [Option.map_eq_some_iff] at h; obtain ⟨y, hy, rfl⟩ := h; exact sound_lenS he h0 hd hy
  ·rename_i k e hd; simp only [Option.map_eq_some_iff] at h; obtain ⟨y, hy, rfl⟩ := h; exact sound_lenM he h0 hd hy
  ·cases h
 case h_3 x y t hl h0 =>
  obtain rfl : args = [x, y] := hl
  split at h
  ·rename_i e hd
   split at h
   ·rename_i i x' y' e' hi hx hy hxt
    simp only [Option.some.injEq] at h
    subst h
    simp only [Option.bind_eq_some_iff] at hxt
    obtain ⟨xt, h1, h2⟩ := hxt
    exact sound_append he h0 h1 hd (.inr ⟨e', h2⟩) hi hx hy
   ·rename_i i x' y' hi hx hy hxt
    simp only [Option.some.injEq] at h
    subst h
    simp only [Option.bind_eq_some_iff] at hxt
    obtain ⟨xt, h1, h2⟩ := hxt
    exact sound_append he h0 h1 hd (.inl h2) hi hx hy
   ·cases h
  ·cases h
 case h_4 x y t hl h0 =>
  obtain rfl : args = [x, y] := hl
  split at h
  ·rename_i e hd
   split at h
   ·rename_i i x' y' hi hx hy; simp only [Option.some.injEq] at h; subst h; exact sound_copy he h0 hd hi hx hy
   ·cases h
  ·cases h
 case h_5 x y t hl h0 =>
  obtain rfl : args = [x, y] := hl
  split at h
  ·rename_i k e hd
   split at h
   ·rename_i kd x' y' hk hx hy; simp only [Option.some.injEq] at h; subst h; exact sound_delete he h0 hd hk hx hy
   ·cases h
  ·cases h
 case h_2 x t hl h0 =>
  obtain rfl : args = [x] := hl
  split at h
  ·rename_i e hd; simp only [Option.map_eq_some_iff] at h; obtain ⟨y, hy, rfl⟩ := h; exact sound_capS he h0 hd hy
  ·cases h
 case h_6 x t hl h0 =>
  obtain rfl : args = [x] := hl
  split at h
  ·rename_i e hd
   split at h
   ·rename_i i x' hi hx; simp only [Option.some.injEq] at h; subst h; exact sound_clearS he h0 hd hi hx
   ·cases h
  ·cases h
 case h_7 x y hl =>
  obtain rfl : args = [x, y] := hl
  split at h
  ·rename_i x' y' hx hy; simp only [Option.some.injEq] at h; subst h; exact sound_mm (b := true) he hx hy
  ·cases h
 case h_8 x y hl =>
  obtain rfl : args = [x, y] := hl
  split at h
  ·rename_i x' y' hx hy; simp only [Option.some.injEq] at h; subst h; exact sound_mm (b := false) he hx hy
  ·cases h
 all_goals first
  | (exfalso
     revert h
     repeat' split
     all_goals first
      | (intro h; cases h; done)
      | (intro h; simp only [Option.map_eq_some_iff, Option.some.injEq] at h; first | (obtain ⟨_, _, rfl⟩ := h; cases hserv; done) | (subst h; cases hserv; done)))
  | skip
theorem cmp_sound {o : Oper} {mo : MOp} (h : cmp P β.G o.op = some mo) (hserv : served mo = true) : Sound P β o mo := by
 cases he : o.op
 case move x => simp only [cmp, he, Option.map_eq_some_iff] at h; obtain ⟨y, hy, rfl⟩ := h; exact sound_mv (.inl he) hy
 case assign x => simp only [cmp, he, Option.map_eq_some_iff] at h; obtain ⟨y, hy, rfl⟩ := h; exact sound_mv (.inr he) hy
 case pick c x y =>
  simp only [cmp, he] at h
  split at h
  ·rename_i c' x' y' h1 h2 h3; simp only [Option.some.injEq] at h; subst h; exact sound_pick he h1 h2 h3
  ·cases h
 case alloc t => simp only [cmp, he, Option.map_eq_some_iff] at h; obtain ⟨i, hi, rfl⟩ := h; exact sound_alloc he hi
 case box t x =>
  simp only [cmp, he] at h
  split at h
  ·rename_i i x' h1 h2; simp only [Option.some.injEq] at h; subst h; exact sound_box he h1 h2
  ·cases h
 case build t parts =>
  simp only [cmp, he] at h
  split at h
  ·rename_i fs i hd hi
   split at h
   ·rename_i hall
    simp only [Option.map_eq_some_iff] at h; obtain ⟨ps, hp, rfl⟩ := h; exact sound_build he hd hi hall hp
   ·cases h
  ·rename_i n e i hd hi
   split at h
   ·rename_i j hj
    simp only [Option.map_eq_some_iff] at h; obtain ⟨ps, hp, rfl⟩ := h; exact sound_buildA he hd hi hj hp
   ·cases h
  ·cases h
 case buildSlice t n parts =>
  simp only [cmp, he] at h
  split at h
  ·rename_i e hd
   split at h
   ·rename_i i l hi hc; simp only [Option.some.injEq] at h; subst h; exact sound_bslice he hd hi hc
   ·cases h
  ·cases h
 case load t x =>
  simp only [cmp, he] at h
  split at h
  ·rename_i i x' h1 h2; simp only [Option.some.injEq] at h; subst h; exact sound_load he h1 h2
  ·cases h
 case store t x y =>
  simp only [cmp, he] at h
  split at h
  ·rename_i i x' y' h1 h2 h3; simp only [Option.some.injEq] at h; subst h; exact sound_store he h1 h2 h3
  ·cases h
 case nilCheck x => simp only [cmp, he, Option.map_eq_some_iff] at h; obtain ⟨y, hy, rfl⟩ := h; exact sound_nilck he hy
 case binOp op t x y yt =>
  simp only [cmp, he] at h
  split at h
  ·rename_i x' y' e h1 h2 h3
   simp only [Option.some.injEq] at h; subst h
   refine sound_bin he h1 h2 fun hop => ?_
   rcases hop with rfl | rfl <;> exact h3
  ·cases h
 case unOp op t x => simp only [cmp, he, Option.map_eq_some_iff] at h; obtain ⟨y, hy, rfl⟩ := h; exact sound_un he hy
 case convert s d x =>
  simp only [cmp, he] at h
  split at h
  ·rename_i h1 h2 h3; simp only [Option.some.injEq] at h; subst h; exact sound_toInt he h1 h2 h3
  ·rename_i h1 h2 h3; simp only [Option.some.injEq] at h; subst h; exact sound_strStr he h1 h2 h3
  ·rename_i h1 h2 h3; simp only [Option.some.injEq] at h; subst h; exact sound_intStr he h1 h2 h3
  ·rename_i e h1 h2 h3
   split at h
   ·rename_i h4; simp only [Option.some.injEq] at h; subst h; exact sound_bytesStr he h1 h4 h2 h3
   ·cases h
  ·rename_i e h1 h2 h3
   split at h
   ·rename_i i h4 h5
    split at h
    ·simp only [Option.some.injEq] at h; subst h; exact sound_strBytes he h1 h2 h4 h3
    ·cases h
   ·cases h
  ·cases h
 case lookup t x i ok =>
  simp only [cmp, he] at h
  split at h
  ·rename_i k e hd
   split at h
   ·rename_i kd j x' i' h1 h2 h3 h4; simp only [Option.some.injEq] at h; subst h; exact sound_lookup he hd h1 h2 h3 h4
   ·cases h
  ·cases h
 case mapUpdate t x i y =>
  simp only [cmp, he] at h
  split at h
  ·rename_i k e hd
   split at h
   ·rename_i kd x' i' y' h1 h2 h3 h4; simp only [Option.some.injEq] at h; subst h; exact sound_mapUp (.inl he) hd h1 h2 h3 h4
   ·cases h
  ·cases h
 case insert t x i y =>
  simp only [cmp, he] at h
  split at h
  ·rename_i k e hd
   split at h
   ·rename_i kd x' i' y' h1 h2 h3 h4; simp only [Option.some.injEq] at h; subst h; exact sound_mapUp (.inr he) hd h1 h2 h3 h4
   ·cases h
  ·cases h
 case mapEntry t x i =>
  simp only [cmp, he] at h
  split at h
  ·rename_i k e hd
   split at h
   ·rename_i kd j x' i' h1 h2 h3 h4; simp only [Option.some.injEq] at h; subst h; exact sound_mapEnt he hd h1 h2 h3 h4
   ·cases h
  ·cases h
 case entryStore t x s y =>
  simp only [cmp, he] at h
  split at h
  ·rename_i x' s' y' h1 h2 h3; simp only [Option.some.injEq] at h; subst h; exact sound_entSt he h1 h2 h3
  ·cases h
 case typeAssert x xt t ok =>
  simp only [cmp, he] at h
  split at h
  ·cases h
  ·rename_i d i hni hd hi
   simp only [Option.map_eq_some_iff] at h; obtain ⟨y, hy, rfl⟩ := h; exact sound_tassert he hd (fun ms hms => hni ms (by rw [hms])) hi hy
  ·cases h
 case range t x =>
  simp only [cmp, he] at h
  split at h
  ·rename_i hd; simp only [Option.map_eq_some_iff] at h; obtain ⟨y, hy, rfl⟩ := h; exact sound_rangeS he hd hy
  ·rename_i k e hd; simp only [Option.map_eq_some_iff] at h; obtain ⟨y, hy, rfl⟩ := h; exact sound_rangeM he hd hy
  ·cases h
 case entry x => simp only [cmp, he, Option.map_eq_some_iff] at h; obtain ⟨y, hy, rfl⟩ := h; exact sound_entry he hy
 case makeInterface t x =>
  simp only [cmp, he] at h
  split at h
  ·cases h
  ·rename_i d hni hd
   simp only [Option.map_eq_some_iff] at h; obtain ⟨y, hy, rfl⟩ := h; exact sound_mkif he hd (fun ms hms => hni ms (by rw [hms])) hy
  ·cases h
 case makeFunc fn f c =>
  simp only [cmp, he] at h
  split at h
  ·rename_i f' c' h1 h2; simp only [Option.some.injEq] at h; subst h; exact sound_mkfn he h1 h2
  ·cases h
 case makeSlice t l c =>
  simp only [cmp, he] at h
  split at h
  ·rename_i e hd
   split at h
   ·rename_i i l' c' hi h1 h2; simp only [Option.some.injEq] at h; subst h; exact sound_mkslice he hd hi h1 h2
   ·cases h
  ·cases h
 case slice t x lo hi mx =>
  simp only [cmp, he] at h
  split at h
  ·rename_i hd
   split at h
   ·rename_i x' lo' hi' h1 h2 h3; simp only [Option.some.injEq] at h; subst h; exact sound_sslc he hd h1 h2 h3
   ·cases h
  ·rename_i e hd
   split at h
   ·rename_i i x' lo' hi' mx' hi h1 h2 h3 h4
    split at h
    ·rename_i hmh
     simp only [Option.some.injEq] at h; subst h
     exact sound_slc he hd hi h1 h2 h3 h4 (by
      intro hm hn
      subst hn
      cases mx with
      | none => exact hm rfl
      | some _ =>
        simp only [oda, Option.some.injEq] at h3
        subst h3
        simp at hmh)
    ·cases h
   ·cases h
  ·cases h
 case fieldAddr t x f =>
  simp only [cmp, he] at h
  split at h
  ·rename_i fs hd
   split at h
   ·rename_i off x' h1 h2
    simp only [Option.some.injEq] at h; subst h
    simp only [Option.bind_eq_some_iff, Option.map_eq_some_iff] at h1
    obtain ⟨fd, hf, i, hi, rfl⟩ := h1
    exact sound_faddr he hd hf hi h2
   ·cases h
  ·cases h
 case field t x f =>
  simp only [cmp, he] at h
  split at h
  ·rename_i fs hd
   split at h
   ·rename_i ag off s x' h1 h2
    simp only [Option.some.injEq] at h; subst h
    simp only [Option.bind_eq_some_iff, Option.map_eq_some_iff, Prod.mk.injEq] at h1
    obtain ⟨fd, hf, i, hi, rfl, rfl, rfl⟩ := h1
    exact sound_field he hd hf hi h2
   ·cases h
  ·cases h
 case indexAddr t x i =>
  simp only [cmp, he] at h
  split at h
  ·rename_i e hd
   split at h
   ·rename_i j x' i' hj h1 h2; simp only [Option.some.injEq] at h; subst h; exact sound_iaddr he hd hj h1 h2
   ·cases h
  ·rename_i n e hd
   split at h
   ·rename_i j x' i' hj h1 h2; simp only [Option.some.injEq] at h; subst h; exact sound_iaddrA he hd hj h1 h2
   ·cases h
  ·cases h
 case index t x i =>
  simp only [cmp, he] at h
  split at h
  ·rename_i hd
   split at h
   ·rename_i x' i' h1 h2; simp only [Option.some.injEq] at h; subst h; exact sound_idxS he hd h1 h2
   ·cases h
  ·rename_i n e hd
   split at h
   ·rename_i j x' i' hj h1 h2; simp only [Option.some.injEq] at h; subst h; exact sound_idxA he hd hj h1 h2
   ·cases h
  ·cases h
 case extract x i => simp only [cmp, he, Option.map_eq_some_iff] at h; obtain ⟨y, hy, rfl⟩ := h; exact sound_extract he hy
 case call c =>
  obtain ⟨callee, args, ts⟩ := c
  cases callee
  case builtin b => simp only [cmp, he] at h; exact cmpB_sound he h hserv
  all_goals simp [cmp, he] at h
 case makeMap t r =>
  cases r
  ·simp only [cmp, he, Option.some.injEq] at h; subst h; exact sound_mkmap he
  ·simp [cmp, he] at h
 case next x b =>
  cases b
  ·simp [cmp, he] at h
  ·simp only [cmp, he, Option.map_eq_some_iff] at h; obtain ⟨y, hy, rfl⟩ := h; exact sound_nextS he hy
 all_goals
  simp only [cmp, he] at h
  revert h
  repeat' split
  all_goals first
   | (intro h; cases h; done)
   | (intro h; simp only [Option.map_eq_some_iff] at h; obtain ⟨_, _, rfl⟩ := h; cases hserv; done)
   | skip
end
end Go.Abs
