/- Walks of the seat's functions, and their plain laws. Conditions: none but the lengths and the tables; definitions and lemmas. -/
import Derived.Test.YtdnpmnnidjeifaaGreatDoorMD
import Derived.Test.YtdnpmnnidjeifaaGreatDoorMA
set_option linter.unusedSimpArgs false
set_option linter.unusedVariables false
namespace Go.Abs
open Go Go.RowKit Go.Proofs Go.Lx Go.Pz
variable {w0 : World}
section
variable {H : Heap} {p2 p3 : Nat} {fl fl' : Fl} {a : Tmps}
set_option maxHeartbeats 1000000 in
theorem lv26a {os : List Srt} (hn : wL (os.map (·.e)) ≤ 4000) (l2 : loadR false 1 H (.ptr p2 0 16) = .ok true (.list fl (srtsC os)) H) {es' : List (List AVal)} (hr : Al SrtV os es') (l3 : loadR false 1 H (.ptr p3 0 16) = .ok true (.list fl' es') H) {G : Nat → AVal} (b2 : get a 2 = .ptr p2 0 0) (b3 : get a 3 = .ptr p3 0 0) (b5 : get a 5 = .int 0) :
  mwp (ACalls Tryz.prog (B0 w0)) (.block 0 (.loop (f30b0 G))) (LpQ H p2 p3) a H := by
 have hol : os.length ≤ 4000 := by have := wL_len (os.map (·.e)); simp at this; omega
 simp only [mwp_block]
 refine mwp_loop (I := LpI H os.length 5 p2 p3) ⟨0,rfl,Nat.zero_le _,rfl,b2,b3,b5⟩ ?_
 clear b2 b3 b5
 rintro m a S' ⟨i,rfl,hi,rfl,b2,b3,b5⟩
 by_cases hlt : i < os.length
 ·have hltI : (i : Int) < (os.length : Int) := by omega
  have hg : (srtsC os).getD i [] = srtC os[i] := by rw [getD_eq _ _ _ (by simpa using hlt)]; simp [srtsC]
  have hm : os[i].e.w ≤ 4000 := by have := w_mem (x := os[i].e) (l := os.map (·.e)) (List.mem_map.2 ⟨_,List.getElem_mem hlt,rfl⟩); omega
  obtain ⟨p,q1,q2,q3⟩ := two_elem (H := S') (by simpa using hlt) hg (k := 8) (by simp [srtC]) fl
  obtain ⟨ev,hev,he⟩ := hr.2 i hlt
  have hle : i < es'.length := by have := hr.1; omega
  obtain ⟨p',r1,r2,r3⟩ := two_elem (H := S') hle he (k := 8) (by simp [ExV_len hev]) fl'
  obtain ⟨pa,q4,q5⟩ := q3 7
  obtain ⟨pa',r4,r5⟩ := r3 7
  obtain ⟨pb,q6,q7⟩ := q3 0
  obtain ⟨pb',r6,r7⟩ := r3 0
  have hw := wrapS i (by omega)
  generalize os[i] = y at *
  obtain ⟨op,vv,kind,num,scale,text,qual,hx,o1,o2⟩ := exC_shape y.e
  have h28 := fun S => w28v (w0 := w0) 4000 (by decide) y.e hm ev hev S
  obtain ⟨fl3,es3,k3,n3,s3,t3',q3',rfl⟩ := ExV_cells hev
  have t1 : takeAt true 7 (srtC y) 0 = .agg (exC y.e) := by simp [srtC,hx,takeAt]
  have u1 : takeAt true 7 ([.int (opOf y.e),.list fl3 es3,.int k3,.int n3,.int s3,.str t3',.str q3'] ++ [.bool y.desc] : List AVal) 0 = .agg [.int (opOf y.e),.list fl3 es3,.int k3,.int n3,.int s3,.str t3',.str q3'] := by simp [takeAt]
  have t2 : takeAt false 1 (srtC y) 7 = .bool y.desc := by simp [srtC,hx,takeAt]
  have u2 : takeAt false 1 ([.int (opOf y.e),.list fl3 es3,.int k3,.int n3,.int s3,.str t3',.str q3'] ++ [.bool y.desc] : List AVal) 7 = .bool y.desc := by simp [takeAt]
  have q8 := q7 true 7 (by omega)
  have r8 := r7 true 7 (by omega)
  have q9 := q5 false 1 (by omega)
  have r9 := r5 false 1 (by omega)
  rw [t1] at q8
  rw [u1] at r8
  rw [t2] at q9
  rw [u2] at r9
  simp [f30b0,b2,b3,b5,l2,l3,hltI,q1,r1,q4,r4,q6,r6,q8,r8,q9,r9]
  refine (h28 _).use ?_
  rintro e S1 ⟨rfl,rfl⟩
  simp [b2,b3,b5,hw]
  exact ⟨os.length - (i + 1),by omega,i + 1,rfl,by omega,rfl,by simp [b2],by simp [b3],by simp⟩
 ·have hie : i = os.length := by omega
  subst hie
  simp [f30b0,b2,b3,b5,l2]
  exact ⟨rfl,by simp [b2],by simp [b3]⟩
set_option maxHeartbeats 1000000 in
theorem lv26b {os : List Asn} (hn : wL (os.map (·.e)) ≤ 4000) (l2 : loadR false 1 H (.ptr p2 0 17) = .ok true (.list fl (asnsC os)) H) {es' : List (List AVal)} (hr : Al AsnV os es') (l3 : loadR false 1 H (.ptr p3 0 17) = .ok true (.list fl' es') H) {G : Nat → AVal} (b2 : get a 2 = .ptr p2 0 0) (b3 : get a 3 = .ptr p3 0 0) (b5 : get a 6 = .int 0) :
  mwp (ACalls Tryz.prog (B0 w0)) (.block 2 (.loop (f30b1 G))) (LpQ H p2 p3) a H := by
 have hol : os.length ≤ 4000 := by have := wL_len (os.map (·.e)); simp at this; omega
 simp only [mwp_block]
 refine mwp_loop (I := LpI H os.length 6 p2 p3) ⟨0,rfl,Nat.zero_le _,rfl,b2,b3,b5⟩ ?_
 clear b2 b3 b5
 rintro m a S' ⟨i,rfl,hi,rfl,b2,b3,b5⟩
 by_cases hlt : i < os.length
 ·have hltI : (i : Int) < (os.length : Int) := by omega
  have hg : (asnsC os).getD i [] = asnC os[i] := by rw [getD_eq _ _ _ (by simpa using hlt)]; simp [asnsC]
  have hm : os[i].e.w ≤ 4000 := by have := w_mem (x := os[i].e) (l := os.map (·.e)) (List.mem_map.2 ⟨_,List.getElem_mem hlt,rfl⟩); omega
  obtain ⟨p,q1,q2,q3⟩ := two_elem (H := S') (by simpa using hlt) hg (k := 8) (by simp [asnC]) fl
  obtain ⟨ev,hev,he⟩ := hr.2 i hlt
  have hle : i < es'.length := by have := hr.1; omega
  obtain ⟨p',r1,r2,r3⟩ := two_elem (H := S') hle he (k := 8) (by simp [ExV_len hev]) fl'
  obtain ⟨pa,q4,q5⟩ := q3 0
  obtain ⟨pa',r4,r5⟩ := r3 0
  obtain ⟨pb,q6,q7⟩ := q3 1
  obtain ⟨pb',r6,r7⟩ := r3 1
  have hw := wrapS i (by omega)
  generalize os[i] = y at *
  obtain ⟨op,vv,kind,num,scale,text,qual,hx,o1,o2⟩ := exC_shape y.e
  have h28 := fun S => w28v (w0 := w0) 4000 (by decide) y.e hm ev hev S
  obtain ⟨fl3,es3,k3,n3,s3,t3',q3',rfl⟩ := ExV_cells hev
  have t1 : takeAt true 7 (asnC y) 1 = .agg (exC y.e) := by simp [asnC,hx,takeAt]
  have u1 : takeAt true 7 (.str y.col :: [.int (opOf y.e),.list fl3 es3,.int k3,.int n3,.int s3,.str t3',.str q3'] : List AVal) 1 = .agg [.int (opOf y.e),.list fl3 es3,.int k3,.int n3,.int s3,.str t3',.str q3'] := by simp [takeAt]
  have t2 : takeAt false 1 (asnC y) 0 = .str y.col := by simp [asnC,hx,takeAt]
  have u2 : takeAt false 1 (.str y.col :: [.int (opOf y.e),.list fl3 es3,.int k3,.int n3,.int s3,.str t3',.str q3'] : List AVal) 0 = .str y.col := by simp [takeAt]
  have q8 := q7 true 7 (by omega)
  have r8 := r7 true 7 (by omega)
  have q9 := q5 false 1 (by omega)
  have r9 := r5 false 1 (by omega)
  rw [t1] at q8
  rw [u1] at r8
  rw [t2] at q9
  rw [u2] at r9
  simp [f30b1,b2,b3,b5,l2,l3,hltI,q1,r1,q4,r4,q6,r6,q8,r8,q9,r9]
  refine (h28 _).use ?_
  rintro e S1 ⟨rfl,rfl⟩
  simp [b2,b3,b5,hw]
  exact ⟨os.length - (i + 1),by omega,i + 1,rfl,by omega,rfl,by simp [b2],by simp [b3],by simp⟩
 ·have hie : i = os.length := by omega
  subst hie
  simp [f30b1,b2,b3,b5,l2]
  exact ⟨rfl,by simp [b2],by simp [b3]⟩
set_option maxHeartbeats 1000000 in
theorem lv11c {os : List (List Ex)} (hn : wR os ≤ 4000) (l2 : loadR false 1 H (.ptr p2 0 6) = .ok true (.list fl (rwsC os)) H) {es' : List (List AVal)} (hr : Al RowV os es') (l3 : loadR false 1 H (.ptr p3 0 6) = .ok true (.list fl' es') H) {G : Nat → AVal} (b2 : get a 2 = .ptr p2 0 0) (b3 : get a 3 = .ptr p3 0 0) (b5 : get a 7 = .int 0) :
  mwp (ACalls Tryz.prog (B0 w0)) (.block 4 (.loop (f13b2 G))) (LpQ H p2 p3) a H := by
 have hol : os.length ≤ 4000 := by have := wR_len os; omega
 simp only [mwp_block]
 refine mwp_loop (I := LpI H os.length 7 p2 p3) ⟨0,rfl,Nat.zero_le _,rfl,b2,b3,b5⟩ ?_
 clear b2 b3 b5
 rintro m a S' ⟨i,rfl,hi,rfl,b2,b3,b5⟩
 by_cases hlt : i < os.length
 ·have hltI : (i : Int) < (os.length : Int) := by omega
  have hg : (rwsC os).getD i [] = [.list .unk (exlC os[i])] := by rw [getD_eq _ _ _ (by simpa using hlt)]; simp [rwsC]
  have hm := wR_mem (List.getElem_mem hlt)
  obtain ⟨p,q1,q2,q3⟩ := two_elem (H := S') (by simpa using hlt) hg (k := 1) (by simp) fl
  obtain ⟨fl3,es3,he,hev⟩ := hr.2 i hlt
  have hle : i < es'.length := by have := hr.1; omega
  obtain ⟨p',r1,r2,r3⟩ := two_elem (H := S') hle he (k := 1) (by simp) fl'
  have hw := wrapS i (by omega)
  generalize os[i] = y at *
  have t1 : takeAt false 1 [.list .unk (exlC y)] 0 = .list .unk (exlC y) := by simp [takeAt]
  have q8 := q2 false 1 (by omega)
  have r8 := r2 false 1 (by omega)
  have u1 : takeAt false 1 [.list fl3 es3] 0 = .list fl3 es3 := by simp [takeAt]
  rw [t1] at q8
  rw [u1] at r8
  have hyl := wL_len y
  simp [f13b2,b2,b3,b5,l2,l3,hltI,q1,r1,q8,r8]
  refine (w29v (by omega) hev (fun x hx av hav S => w28v 4000 (by decide) x (by have := w_mem hx; omega) av hav S) _ _ _).use ?_
  rintro e S1 ⟨rfl,rfl⟩
  simp [b2,b3,b5,hw]
  exact ⟨os.length - (i + 1),by omega,i + 1,rfl,by omega,rfl,by simp [b2],by simp [b3],by simp⟩
 ·have hie : i = os.length := by omega
  subst hie
  simp [f13b2,b2,b3,b5,l2]
  exact ⟨rfl,by simp [b2],by simp [b3]⟩
set_option maxHeartbeats 1000000 in
theorem lv11d {os : List Itm} (hn : wL (os.map (·.e)) ≤ 4000) (l2 : loadR false 1 H (.ptr p2 0 7) = .ok true (.list fl (itmsC os)) H) {es' : List (List AVal)} (hr : Al ItmV os es') (l3 : loadR false 1 H (.ptr p3 0 7) = .ok true (.list fl' es') H) {G : Nat → AVal} (b2 : get a 2 = .ptr p2 0 0) (b3 : get a 3 = .ptr p3 0 0) (b5 : get a 8 = .int 0) :
  mwp (ACalls Tryz.prog (B0 w0)) (.block 6 (.loop (f13b3 G))) (LpQ H p2 p3) a H := by
 have hol : os.length ≤ 4000 := by have := wL_len (os.map (·.e)); simp at this; omega
 simp only [mwp_block]
 refine mwp_loop (I := LpI H os.length 8 p2 p3) ⟨0,rfl,Nat.zero_le _,rfl,b2,b3,b5⟩ ?_
 clear b2 b3 b5
 rintro m a S' ⟨i,rfl,hi,rfl,b2,b3,b5⟩
 by_cases hlt : i < os.length
 ·have hltI : (i : Int) < (os.length : Int) := by omega
  have hg : (itmsC os).getD i [] = itmC os[i] := by rw [getD_eq _ _ _ (by simpa using hlt)]; simp [itmsC]
  have hm : os[i].e.w ≤ 4000 := by have := w_mem (x := os[i].e) (l := os.map (·.e)) (List.mem_map.2 ⟨_,List.getElem_mem hlt,rfl⟩); omega
  obtain ⟨p,q1,q2,q3⟩ := two_elem (H := S') (by simpa using hlt) hg (k := 8) (by simp [itmC]) fl
  obtain ⟨ev,hev,he⟩ := hr.2 i hlt
  have hle : i < es'.length := by have := hr.1; omega
  obtain ⟨p',r1,r2,r3⟩ := two_elem (H := S') hle he (k := 8) (by simp [ExV_len hev]) fl'
  obtain ⟨pa,q4,q5⟩ := q3 7
  obtain ⟨pa',r4,r5⟩ := r3 7
  obtain ⟨pb,q6,q7⟩ := q3 0
  obtain ⟨pb',r6,r7⟩ := r3 0
  have hw := wrapS i (by omega)
  generalize os[i] = y at *
  obtain ⟨op,vv,kind,num,scale,text,qual,hx,o1,o2⟩ := exC_shape y.e
  have h28 := fun S => w28v (w0 := w0) 4000 (by decide) y.e hm ev hev S
  obtain ⟨fl3,es3,k3,n3,s3,t3',q3',rfl⟩ := ExV_cells hev
  have t1 : takeAt true 7 (itmC y) 0 = .agg (exC y.e) := by simp [itmC,hx,takeAt]
  have u1 : takeAt true 7 ([.int (opOf y.e),.list fl3 es3,.int k3,.int n3,.int s3,.str t3',.str q3'] ++ [.str y.name] : List AVal) 0 = .agg [.int (opOf y.e),.list fl3 es3,.int k3,.int n3,.int s3,.str t3',.str q3'] := by simp [takeAt]
  have t2 : takeAt false 1 (itmC y) 7 = .str y.name := by simp [itmC,hx,takeAt]
  have u2 : takeAt false 1 ([.int (opOf y.e),.list fl3 es3,.int k3,.int n3,.int s3,.str t3',.str q3'] ++ [.str y.name] : List AVal) 7 = .str y.name := by simp [takeAt]
  have q8 := q7 true 7 (by omega)
  have r8 := r7 true 7 (by omega)
  have q9 := q5 false 1 (by omega)
  have r9 := r5 false 1 (by omega)
  rw [t1] at q8
  rw [u1] at r8
  rw [t2] at q9
  rw [u2] at r9
  simp [f13b3,b2,b3,b5,l2,l3,hltI,q1,r1,q4,r4,q6,r6,q8,r8,q9,r9]
  refine (h28 _).use ?_
  rintro e S1 ⟨rfl,rfl⟩
  simp [b2,b3,b5,hw]
  exact ⟨os.length - (i + 1),by omega,i + 1,rfl,by omega,rfl,by simp [b2],by simp [b3],by simp⟩
 ·have hie : i = os.length := by omega
  subst hie
  simp [f13b3,b2,b3,b5,l2]
  exact ⟨rfl,by simp [b2],by simp [b3]⟩
set_option maxHeartbeats 1000000 in
theorem lv11e {os : List Src} (hn : wL (os.map (·.on)) ≤ 4000) (l2 : loadR false 1 H (.ptr p2 0 8) = .ok true (.list fl (srcsC os)) H) {es' : List (List AVal)} (hr : Al SrcV os es') (l3 : loadR false 1 H (.ptr p3 0 8) = .ok true (.list fl' es') H) {G : Nat → AVal} (b2 : get a 2 = .ptr p2 0 0) (b3 : get a 3 = .ptr p3 0 0) (b5 : get a 9 = .int 0) :
  mwp (ACalls Tryz.prog (B0 w0)) (.block 8 (.loop (f13b4 G))) (LpQ H p2 p3) a H := by
 have hol : os.length ≤ 4000 := by have := wL_len (os.map (·.on)); simp at this; omega
 simp only [mwp_block]
 refine mwp_loop (I := LpI H os.length 9 p2 p3) ⟨0,rfl,Nat.zero_le _,rfl,b2,b3,b5⟩ ?_
 clear b2 b3 b5
 rintro m a S' ⟨i,rfl,hi,rfl,b2,b3,b5⟩
 by_cases hlt : i < os.length
 ·have hltI : (i : Int) < (os.length : Int) := by omega
  have hg : (srcsC os).getD i [] = srcC os[i] := by rw [getD_eq _ _ _ (by simpa using hlt)]; simp [srcsC]
  have hm : os[i].on.w ≤ 4000 := by have := w_mem (x := os[i].on) (l := os.map (·.on)) (List.mem_map.2 ⟨_,List.getElem_mem hlt,rfl⟩); omega
  obtain ⟨p,q1,q2,q3⟩ := two_elem (H := S') (by simpa using hlt) hg (k := 9) (by simp [srcC]) fl
  obtain ⟨ev,hev,he⟩ := hr.2 i hlt
  have hle : i < es'.length := by have := hr.1; omega
  obtain ⟨p',r1,r2,r3⟩ := two_elem (H := S') hle he (k := 9) (by simp [ExV_len hev]) fl'
  obtain ⟨pa,q4,q5⟩ := q3 0
  obtain ⟨pa',r4,r5⟩ := r3 0
  obtain ⟨pb,q6,q7⟩ := q3 1
  obtain ⟨pb',r6,r7⟩ := r3 1
  obtain ⟨pc,q10,q11⟩ := q3 2
  obtain ⟨pc',r10,r13⟩ := r3 2
  have hw := wrapS i (by omega)
  generalize os[i] = y at *
  obtain ⟨op,vv,kind,num,scale,text,qual,hx,o1,o2⟩ := exC_shape y.on
  have h28 := fun S => w28v (w0 := w0) 4000 (by decide) y.on hm ev hev S
  obtain ⟨fl3,es3,k3,n3,s3,t3',q3',rfl⟩ := ExV_cells hev
  have t1 : takeAt true 7 (srcC y) 2 = .agg (exC y.on) := by simp [srcC,hx,takeAt]
  have u1 : takeAt true 7 (.str y.table :: .str y.alias :: [.int (opOf y.on),.list fl3 es3,.int k3,.int n3,.int s3,.str t3',.str q3'] : List AVal) 2 = .agg [.int (opOf y.on),.list fl3 es3,.int k3,.int n3,.int s3,.str t3',.str q3'] := by simp [takeAt]
  have t2 : takeAt false 1 (srcC y) 0 = .str y.table := by simp [srcC,hx,takeAt]
  have u2 : takeAt false 1 (.str y.table :: .str y.alias :: [.int (opOf y.on),.list fl3 es3,.int k3,.int n3,.int s3,.str t3',.str q3'] : List AVal) 0 = .str y.table := by simp [takeAt]
  have t3 : takeAt false 1 (srcC y) 1 = .str y.alias := by simp [srcC,hx,takeAt]
  have u3 : takeAt false 1 (.str y.table :: .str y.alias :: [.int (opOf y.on),.list fl3 es3,.int k3,.int n3,.int s3,.str t3',.str q3'] : List AVal) 1 = .str y.alias := by simp [takeAt]
  have q8 := q11 true 7 (by omega)
  have r8 := r13 true 7 (by omega)
  have q9 := q5 false 1 (by omega)
  have r9 := r5 false 1 (by omega)
  have q12 := q7 false 1 (by omega)
  have r12 := r7 false 1 (by omega)
  rw [t1] at q8
  rw [u1] at r8
  rw [t2] at q9
  rw [u2] at r9
  rw [t3] at q12
  rw [u3] at r12
  simp [f13b4,b2,b3,b5,l2,l3,hltI,q1,r1,q4,r4,q6,r6,q10,r10,q8,r8,q9,r9,q12,r12]
  refine (h28 _).use ?_
  rintro e S1 ⟨rfl,rfl⟩
  simp [b2,b3,b5,hw]
  exact ⟨os.length - (i + 1),by omega,i + 1,rfl,by omega,rfl,by simp [b2],by simp [b3],by simp⟩
 ·have hie : i = os.length := by omega
  subst hie
  simp [f13b4,b2,b3,b5,l2]
  exact ⟨rfl,by simp [b2],by simp [b3]⟩
end
end Go.Abs
namespace Go.Abs
open Go Go.RowKit Go.Proofs Go.Lx Go.Pz
variable {w0 : World}
def txQ : Bs := [115,101,108,101,99,116,32,97,46,120,32,44,32,45,49,43,98,42,50,32,97,115,32,99,32,102,114,111,109,32,116,32,97,115,32,97,32,106,111,105,110,32,117,32,111,110,32,110,111,116,32,120,32,105,115,32,110,117,108,108,32,111,114,100,101,114,32,98,121,32,55,46,53,48,32,100,101,115,99]
def fmQ : Bs := [83,69,76,69,67,84,32,97,46,120,44,32,40,40,45,32,49,41,32,43,32,40,98,32,42,32,50,41,41,32,65,83,32,99,32,70,82,79,77,32,116,32,65,83,32,97,32,73,78,78,69,82,32,74,79,73,78,32,117,32,79,78,32,40,78,79,84,32,40,120,32,73,83,32,78,85,76,76,41,41,32,79,82,68,69,82,32,66,89,32,55,46,53,48,32,68,69,83,67]
def stQ : Stm := { kind := 6,items := [⟨.col [120] [97],[]⟩,⟨.bin 7 (.un 13 (.const 2 1 0 [])) (.bin 9 (.col [98] []) (.const 2 2 0 [])),[99]⟩],src := [⟨[116],[97],.zero⟩,⟨[117],[],.un 16 (.un 19 (.col [120] []))⟩],order := [⟨.const 3 750 2 [],true⟩] }
theorem pzQ : parseF 200 txQ = .ok stQ := by kernel_rfl
theorem parseQ : Pz.parse resv txQ = .ok stQ := by rw [parseF_eq (n := 200) (by decide) (by decide),pzQ]
theorem formQ : formS stQ = fmQ := by kernel_rfl
theorem checkQ : checkS stQ = 0 := by kernel_rfl
theorem showQ : showT stQ = fmQ ∧ showC stQ = 0 := by
 have h := checkQ
 have hl : (formS stQ).length ≤ 4000 := by rw [formQ]; decide
 exact ⟨by rw [showT,if_pos ⟨h,hl⟩,formQ],by rw [showC,if_pos h,if_pos hl]⟩
set_option maxHeartbeats 4000000 in
theorem w7 (hT : Tb w0) (S : Heap) : ACalls Tryz.prog (B0 w0) 7 [] S fun e S' => e = .ret (.bool true) ∧ S' = S := by
 refine ACalls.close (R := fun e S' => e = .ret (.bool true) ∧ S'.take S.length = S) ?_ ?_
 rotate_left 1
 ·rintro e S' ⟨rfl,ht⟩
  exact .flat ht rfl ⟨rfl,rfl⟩
 refine fn_sound tryOrd (f7_c _) (by simp [f7]) ?_
 simp [-appendR,f7,f7m]
 refine (w12 txQ _).use ?_
 rintro e S1 h1
 obtain ⟨rfl,c,rfl,hc,hb⟩ := h1.two
 rw [parseQ] at hc hb
 rw [parseQ]
 have hm := StB.sm (show StB 4000 stQ from hb) (check_ok checkQ)
 have hv := FC.stv (show FC stQ c from hc)
 simp [-appendR,hc.len.1,hc.len.2,cdOf]
 refine (w8 hT hm hv _).use ?_
 rintro e S2 ⟨rfl,rfl⟩
 rw [showQ.1,showQ.2]
 simp [-appendR,fmQ,hc.len.1]
 refine (w10 hT hm hv _).use ?_
 rintro e S3 ⟨rfl,rfl⟩
 simp [checkQ]
theorem showT_ok {st : Stm} (h : checkS st = 0) (hl : (formS st).length ≤ 4000) : showT st = formS st ∧ showC st = 0 := ⟨by rw [showT,if_pos ⟨h,hl⟩],by rw [showC,if_pos h,if_pos hl]⟩
theorem showC_long {st : Stm} (h : checkS st = 0) (hl : ¬ (formS st).length ≤ 4000) : showC st = 1 := by rw [showC,if_pos h,if_neg hl]
end Go.Abs
namespace Go.Abs
open Go Go.RowKit Go.Proofs Go.Lx Go.Pz
variable {w0 : World}
set_option maxHeartbeats 2000000 in
theorem w30v {st : Stm} {c c' : List AVal} (hb : StB 4000 st) (hc : FC st c) (hc' : StV st c') (S : Heap) : ACalls Tryz.prog (B0 w0) 30 [.agg c,.agg c'] S (TrueR S) := by
 obtain ⟨vC,vN,vR,vI,vF,vO,vS,rfl,⟨f1,rfl⟩,⟨f2,rfl⟩,⟨f3,rfl⟩,⟨f4,rfl⟩,⟨f5,rfl⟩,⟨f6,rfl⟩,⟨f7,rfl⟩⟩ := hc
 obtain ⟨g1,g2,g3,g4,g5,g6,g7,eR',eI',eF',ew',eO',eS',rfl,hw',hR',hI',hF',hO',hS'⟩ := hc'
 have n1 := hR'.1; have n2 := hI'.1; have n3 := hF'.1; have n4 := hO'.1; have n5 := hS'.1
 obtain ⟨gl,ges,gk,gn,gs,gt,gq,rfl⟩ := ExV_cells hw'
 obtain ⟨op,vv,kind,num,scale,text,qual,hx,o1,o2⟩ := exC_shape st.wher
 refine ACalls.close (R := fun e S' => e = .ret (.bool true) ∧ S'.take S.length = S) ?_ ?_
 rotate_left 1
 ·rintro e S' ⟨rfl,ht⟩
  exact .flat ht rfl ⟨rfl,rfl⟩
 refine fn_sound tryOrd (f30_c _) (by simp [f30]) ?_
 rw [f30,f30m,mwp_seq]
 simp [-appendR,-mwp_seq,-mwp_block,hx,o1,n1,n2,n3,n4,n5]
 generalize hH : S ++ [AObj.cells 18 _ (some 1),AObj.cells 18 _ (some 1)] = H
 have p2 : H[S.length]? = some (.cells 18 [[.int st.kind,.str st.table,.str st.index,.list f1 (pcolsC st.cols),.list f2 (namesC st.names),.bool st.uniq,.list f3 (rwsC st.rows),.list f4 (itmsC st.items),.list f5 (srcsC st.src),.int op,vv,.int kind,.int num,.int scale,.str text,.str qual,.list f6 (srtsC st.order),.list f7 (asnsC st.sets)]] (some 1)) := by rw [← hH]; simp
 have p3 : H[S.length + 1]? = some (.cells 18 [[.int st.kind,.str st.table,.str st.index,.list g1 (pcolsC st.cols),.list g2 (namesC st.names),.bool st.uniq,.list g3 eR',.list g4 eI',.list g5 eF',.int (opOf st.wher),.list gl ges,.int gk,.int gn,.int gs,.str gt,.str gq,.list g6 eO',.list g7 eS']] (some 1)) := by rw [← hH]; simp
 have ht : H.take S.length = S := by rw [← hH]; simp
 clear hH
 have l16 : loadR false 1 H (.ptr S.length 0 16) = .ok true (.list f6 (srtsC st.order)) H := by simp [p2]
 have m16 : loadR false 1 H (.ptr (S.length + 1) 0 16) = .ok true (.list g6 eO') H := by simp [p3]
 have l17 : loadR false 1 H (.ptr S.length 0 17) = .ok true (.list f7 (asnsC st.sets)) H := by simp [p2]
 have m17 : loadR false 1 H (.ptr (S.length + 1) 0 17) = .ok true (.list g7 eS') H := by simp [p3]
 rw [mwp_seq,mwp_seq]
 simp [-appendR,-mwp_seq,-mwp_block]
 refine mwp_mono _ _ (fun _ _ _ _ _ hr h => h.mono hr) ?_ (lv26a (w0 := w0) (p2 := S.length) (p3 := S.length + 1) hb.order l16 hO' m16 (by simp) (by simp) (by simp))
 intro e a S' h
 cases e <;> first | exact h.elim | skip
 obtain ⟨rfl,b2,b3⟩ := setNext h
 simp only [afterX_normal]
 rw [mwp_seq,mwp_seq]
 simp [-appendR,-mwp_seq,-mwp_block]
 refine mwp_mono _ _ (fun _ _ _ _ _ hr h => h.mono hr) ?_ (lv26b (w0 := w0) (p2 := S.length) (p3 := S.length + 1) hb.sets l17 hS' m17 (by simp [b2]) (by simp [b3]) (by simp))
 intro e a S' h
 cases e <;> first | exact h.elim | skip
 obtain ⟨rfl,b2,b3⟩ := setNext h
 simp [ht]
set_option maxRecDepth 100000 in
set_option maxHeartbeats 16000000 in
theorem w13v {st : Stm} {c c' : List AVal} (hb : StB 4000 st) (hc : FC st c) (hc' : StV st c') (S : Heap) : ACalls Tryz.prog (B0 w0) 13 [.agg c,.agg c'] S (TrueR S) := by
 have h26 := fun S => w30v (w0 := w0) hb hc hc' S
 obtain ⟨vC,vN,vR,vI,vF,vO,vS,rfl,⟨f1,rfl⟩,⟨f2,rfl⟩,⟨f3,rfl⟩,⟨f4,rfl⟩,⟨f5,rfl⟩,⟨f6,rfl⟩,⟨f7,rfl⟩⟩ := hc
 obtain ⟨g1,g2,g3,g4,g5,g6,g7,eR',eI',eF',ew',eO',eS',rfl,hw',hR',hI',hF',hO',hS'⟩ := hc'
 have n1 := hR'.1; have n2 := hI'.1; have n3 := hF'.1; have n4 := hO'.1; have n5 := hS'.1
 have h17 := fun S => w28v (w0 := w0) 4000 (by decide) st.wher hb.wher _ hw' S
 obtain ⟨gl,ges,gk,gn,gs,gt,gq,rfl⟩ := ExV_cells hw'
 obtain ⟨op,vv,kind,num,scale,text,qual,hx,o1,o2⟩ := exC_shape st.wher
 rw [hx] at h17 h26
 refine ACalls.close (R := fun e S' => e = .ret (.bool true) ∧ S'.take S.length = S) ?_ ?_
 rotate_left 1
 ·rintro e S' ⟨rfl,ht⟩
  exact .flat ht rfl ⟨rfl,rfl⟩
 refine fn_sound tryOrd (f13_c _) (by simp [f13]) ?_
 rw [f13,f13m,mwp_seq]
 simp [-appendR,-mwp_seq,-mwp_block,hx,o1,n1,n2,n3,n4,n5]
 generalize hH : S ++ [AObj.cells 18 _ (some 1),AObj.cells 18 _ (some 1)] = H
 have p2 : H[S.length]? = some (.cells 18 [[.int st.kind,.str st.table,.str st.index,.list f1 (pcolsC st.cols),.list f2 (namesC st.names),.bool st.uniq,.list f3 (rwsC st.rows),.list f4 (itmsC st.items),.list f5 (srcsC st.src),.int op,vv,.int kind,.int num,.int scale,.str text,.str qual,.list f6 (srtsC st.order),.list f7 (asnsC st.sets)]] (some 1)) := by rw [← hH]; simp
 have p3 : H[S.length + 1]? = some (.cells 18 [[.int st.kind,.str st.table,.str st.index,.list g1 (pcolsC st.cols),.list g2 (namesC st.names),.bool st.uniq,.list g3 eR',.list g4 eI',.list g5 eF',.int (opOf st.wher),.list gl ges,.int gk,.int gn,.int gs,.str gt,.str gq,.list g6 eO',.list g7 eS']] (some 1)) := by rw [← hH]; simp
 have ht : H.take S.length = S := by rw [← hH]; simp
 clear hH
 have l3 : loadR false 1 H (.ptr S.length 0 3) = .ok true (.list f1 (pcolsC st.cols)) H := by simp [p2]
 have m3 : loadR false 1 H (.ptr (S.length + 1) 0 3) = .ok true (.list g1 (pcolsC st.cols)) H := by simp [p3]
 have l4 : loadR false 1 H (.ptr S.length 0 4) = .ok true (.list f2 (namesC st.names)) H := by simp [p2]
 have m4 : loadR false 1 H (.ptr (S.length + 1) 0 4) = .ok true (.list g2 (namesC st.names)) H := by simp [p3]
 have l6 : loadR false 1 H (.ptr S.length 0 6) = .ok true (.list f3 (rwsC st.rows)) H := by simp [p2]
 have m6 : loadR false 1 H (.ptr (S.length + 1) 0 6) = .ok true (.list g3 eR') H := by simp [p3]
 have l7 : loadR false 1 H (.ptr S.length 0 7) = .ok true (.list f4 (itmsC st.items)) H := by simp [p2]
 have m7 : loadR false 1 H (.ptr (S.length + 1) 0 7) = .ok true (.list g4 eI') H := by simp [p3]
 have l8 : loadR false 1 H (.ptr S.length 0 8) = .ok true (.list f5 (srcsC st.src)) H := by simp [p2]
 have m8 : loadR false 1 H (.ptr (S.length + 1) 0 8) = .ok true (.list g5 eF') H := by simp [p3]
 rw [mwp_seq,mwp_seq]
 simp [-appendR,-mwp_seq,-mwp_block,p2,p3,n1,n2,n3,n4,n5]
 refine (h17 _).use ?_
 rintro e S1 ⟨rfl,rfl⟩
 simp [-appendR,-mwp_seq,-mwp_block]
 rw [mwp_seq,mwp_seq]
 simp [-appendR,-mwp_seq,-mwp_block]
 refine mwp_mono _ _ (fun _ _ _ _ _ hr h => h.mono hr) ?_ (lp11a (w0 := w0) (p2 := S.length) (p3 := S.length + 1) hb.cols l3 m3 (by simp) (by simp) (by simp))
 intro e a S' h
 cases e <;> first | exact h.elim | skip
 obtain ⟨rfl,b2,b3⟩ := setNext h
 clear h
 simp only [afterX_normal]
 rw [mwp_seq,mwp_seq]
 simp [-appendR,-mwp_seq,-mwp_block]
 refine mwp_mono _ _ (fun _ _ _ _ _ hr h => h.mono hr) ?_ (lp11b (w0 := w0) (p2 := S.length) (p3 := S.length + 1) hb.names l4 m4 (by simp [b2]) (by simp [b3]) (by simp))
 intro e a S' h
 cases e <;> first | exact h.elim | skip
 obtain ⟨rfl,b2,b3⟩ := setNext h
 clear h
 simp only [afterX_normal]
 rw [mwp_seq,mwp_seq]
 simp [-appendR,-mwp_seq,-mwp_block]
 refine mwp_mono _ _ (fun _ _ _ _ _ hr h => h.mono hr) ?_ (lv11c (w0 := w0) (p2 := S.length) (p3 := S.length + 1) hb.rows l6 hR' m6 (by simp [b2]) (by simp [b3]) (by simp))
 intro e a S' h
 cases e <;> first | exact h.elim | skip
 obtain ⟨rfl,b2,b3⟩ := setNext h
 clear h
 simp only [afterX_normal]
 rw [mwp_seq,mwp_seq]
 simp [-appendR,-mwp_seq,-mwp_block]
 refine mwp_mono _ _ (fun _ _ _ _ _ hr h => h.mono hr) ?_ (lv11d (w0 := w0) (p2 := S.length) (p3 := S.length + 1) hb.items l7 hI' m7 (by simp [b2]) (by simp [b3]) (by simp))
 intro e a S' h
 cases e <;> first | exact h.elim | skip
 obtain ⟨rfl,b2,b3⟩ := setNext h
 clear h
 simp only [afterX_normal]
 rw [mwp_seq,mwp_seq]
 simp [-appendR,-mwp_seq,-mwp_block]
 refine mwp_mono _ _ (fun _ _ _ _ _ hr h => h.mono hr) ?_ (lv11e (w0 := w0) (p2 := S.length) (p3 := S.length + 1) hb.src l8 hF' m8 (by simp [b2]) (by simp [b3]) (by simp))
 intro e a S' h
 cases e <;> first | exact h.elim | skip
 obtain ⟨rfl,b2,b3⟩ := setNext h
 clear h
 simp only [afterX_normal]
 rw [mwp_seq]
 simp [-appendR,-mwp_seq,b2,b3,p2,p3]
 refine (h26 _).use ?_
 rintro e S2 ⟨rfl,rfl⟩
 simp [ht]
set_option maxHeartbeats 8000000 in
theorem w4 (hT : Tb w0) {st : Stm} (hm : Sm st) {c : List AVal} (hc : StV st c) : ACalls Tryz.prog (B0 w0) 4 [.agg c] [] fun e S' => e = .ret (.bool true) := by
 have h8 := fun S => w8 hT hm hc S
 have h10 := fun S => w10 hT hm hc S
 have h13 := fun {c0 : List AVal} (hb : StB 4000 st) (h0 : FC st c0) S => w13v (w0 := w0) hb h0 hc S
 obtain ⟨fC,fN,fR,fI,fF,fO,fS,eR,eI,eF,ew,eO,eS,rfl,hw,hR,hI,hF,hO,hS⟩ := hc
 obtain ⟨fl',es',k',n',s',t',q',rfl⟩ := ExV_cells hw
 refine fn_sound tryOrd (f4_c _) (by simp [f4]) ?_
 simp [-appendR,f4,f4m]
 refine (w7 hT _).use ?_
 rintro e S1 ⟨rfl,rfl⟩
 simp [-appendR]
 refine (h8 _).use ?_
 rintro e S1 ⟨rfl,rfl⟩
 by_cases h0 : checkS st = 0
 ·by_cases hl : (formS st).length ≤ 4000
  ·rw [(showT_ok h0 hl).1,(showT_ok h0 hl).2]
   simp [-appendR]
   refine (w12 (formS st) _).use ?_
   rintro e S2 h2
   obtain ⟨rfl,c2,rfl,hc2,hb2⟩ := h2.two
   rw [parse_formS h0 hl] at hc2 hb2
   rw [parse_formS h0 hl]
   have hc2 : FC st c2 := hc2
   have hb2 : StB 4000 st := hb2
   simp [-appendR,hc2.len.1,hc2.len.2,cdOf]
   refine (h13 hb2 hc2 _).use ?_
   rintro e S3 ⟨rfl,rfl⟩
   simp
  ·rw [showC_long h0 hl]
   have ht : showT st = [] := by rw [showT,if_neg (fun h => hl h.2)]
   simp [-appendR,ht]
   refine (h10 _).use ?_
   rintro e S3 ⟨rfl,rfl⟩
   simp [h0]
 ·have hc : showC st = checkS st := by rw [showC,if_neg h0]
  have ht : showT st = [] := by rw [showT,if_neg (fun h => h0 h.1)]
  have b0 : (checkS st != 0) = true := by simpa using h0
  simp [-appendR,hc,ht,b0]
  refine (h10 _).use ?_
  rintro e S3 ⟨rfl,rfl⟩
  simp [b0]
end Go.Abs
namespace Go.Abs
open Go Go.RowKit Go.Proofs Go.Lx Go.Pz
variable {w0 : World} {B : Nat}
theorem wf64 {n : Int} (h : (Lit.int .i64 n).wf = true) : n ≤ 9223372036854775807 := by
 have := h
 simp only [Lit.wf,Bool.and_eq_true,decide_eq_true_eq] at this
 exact this.2
theorem okv_exi : ∀ (n : Nat) {av : List AVal},szL av ≤ n → Okv Tryz.prog B 29 av → ∃ x : Ex,ExV x av ∧ x.w ≤ szL av ∧ inrE x = true := by
 intro n
 induction n using Nat.strongRecOn with
 | _ n ih =>
   intro av hn h
   obtain ⟨parts,rfl,hl,hp⟩ := h.at_struct Tryz.underlying29
   obtain ⟨p0,p1,p2,p3,p4,p5,p6,rfl⟩ : ∃ p0 p1 p2 p3 p4 p5 p6,parts = [p0,p1,p2,p3,p4,p5,p6] := by
    match parts,hl with
    | [a,b,c,d,e,f,g],_ => exact ⟨a,b,c,d,e,f,g,rfl⟩
   obtain ⟨op,rfl,_⟩ := (show Okv Tryz.prog B 3 p0 from hp 0 (by decide)).at_int Tryz.underlying3
   obtain ⟨v,es,rfl,hv,hes,_,_⟩ := (show Okv Tryz.prog B 27 p1 from hp 1 (by decide)).at_slice Tryz.underlying27
   obtain ⟨kind,rfl,_⟩ := (show Okv Tryz.prog B 3 p2 from hp 2 (by decide)).at_int Tryz.underlying3
   obtain ⟨num,rfl,hnum⟩ := (show Okv Tryz.prog B 2 p3 from hp 3 (by decide)).at_int Tryz.underlying2
   obtain ⟨scale,rfl,_⟩ := (show Okv Tryz.prog B 3 p4 from hp 4 (by decide)).at_int Tryz.underlying3
   obtain ⟨text,rfl,_⟩ := (show Okv Tryz.prog B 9 p5 from hp 5 (by decide)).at_str Tryz.underlying9
   obtain ⟨qual,rfl,_⟩ := (show Okv Tryz.prog B 9 p6 from hp 6 (by decide)).at_str Tryz.underlying9
   obtain ⟨fl,hv2⟩ : ∃ fl,v = .list fl es := by
    rcases hv with ⟨rfl,rfl⟩ | rfl
    ·exact ⟨.nil,rfl⟩
    ·exact ⟨.any,rfl⟩
   subst hv2
   have hsz : szL ([[AVal.int op],[.list fl es],[.int kind],[.int num],[.int scale],[.str text],[.str qual]] : List (List AVal)).flatten = 1 + szLL es := by simp [szL,szV]
   rw [show ([[.atom (.int .i64 op)],[.list fl es],[.atom (.int .i64 kind)],[.atom (.int .i64 num)],[.atom (.int .i64 scale)],[.str text],[.str qual]] : List (List AVal)).flatten = ([[AVal.int op],[.list fl es],[.int kind],[.int num],[.int scale],[.str text],[.str qual]] : List (List AVal)).flatten from rfl,hsz] at hn
   obtain ⟨xs,h1,h2⟩ := choose_list (p := fun i (x : Ex) => ExV x (es.getD i []) ∧ x.w ≤ szL (es.getD i []) ∧ inrE x = true) es.length fun i hi => by
    have := szLL_mem hi
    exact ih (szL (es.getD i [])) (by omega) (Nat.le_refl _) (hes i hi)
   refine ⟨.mk op xs kind num scale text qual,?_,?_,?_⟩
   ·rw [ExV_mk]
    exact ⟨fl,es,rfl,ExsV_of h1.symm fun i hi => (h2 i hi).1⟩
   ·rw [w_mk]
    have := wL_sz h1.symm fun i hi => (h2 i hi).2.1
    show _ ≤ szL ([[AVal.int op],[.list fl es],[.int kind],[.int num],[.int scale],[.str text],[.str qual]] : List (List AVal)).flatten
    rw [hsz]; omega
   ·rw [inrE_mk,Bool.and_eq_true,decide_eq_true_eq]
    refine ⟨wf64 hnum,inrL_iff.2 fun y hy => ?_⟩
    obtain ⟨i,hi,rfl⟩ := List.getElem_of_mem hy
    exact (h2 i hi).2.2
theorem szLL_len : ∀ (es : List (List AVal)),es.length ≤ szLL es
 | [] => Nat.zero_le _
 | e :: r => by have := szLL_len r; simp only [szLL,List.length_cons]; omega
theorem okv_list {t e : TypeId} (hu : Tryz.prog.underlying t = some (.slice e)) {α : Type} {R : α → List AVal → Prop} (hR : ∀ av,Okv Tryz.prog B e av → ∃ x,R x av) {v : List AVal} (h : Okv Tryz.prog B t v) :
  ∃ fl es l,v = [.list fl es] ∧ Al R l es := by
 obtain ⟨u,es,rfl,hv,hes,_,_⟩ := h.at_slice hu
 obtain ⟨fl,hv2⟩ : ∃ fl,u = .list fl es := by
  rcases hv with ⟨rfl,rfl⟩ | rfl
  ·exact ⟨.nil,rfl⟩
  ·exact ⟨.any,rfl⟩
 obtain ⟨xs,h1,h2⟩ := choose_list (p := fun i (x : α) => R x (es.getD i [])) es.length fun i hi => hR _ (hes i hi)
 exact ⟨fl,es,xs,by rw [hv2],h1.symm,h2⟩
def ExS (x : Ex) (e : List AVal) : Prop := ExV x e ∧ x.w ≤ szL e ∧ inrE x = true
theorem okv_exs {av : List AVal} (h : Okv Tryz.prog B 29 av) : ∃ x,ExS x av := okv_exi (szL av) (Nat.le_refl _) h
def ItmS (x : Itm) (e : List AVal) : Prop := ∃ ev,ExS x.e ev ∧ e = ev ++ [.str x.name]
def SrcS (x : Src) (e : List AVal) : Prop := ∃ ev,ExS x.on ev ∧ e = .str x.table :: .str x.alias :: ev
def SrtS (x : Srt) (e : List AVal) : Prop := ∃ ev,ExS x.e ev ∧ e = ev ++ [.bool x.desc]
def AsnS (x : Asn) (e : List AVal) : Prop := ∃ ev,ExS x.e ev ∧ e = .str x.col :: ev
def RowS (r : List Ex) (e : List AVal) : Prop := ∃ fl es,e = [.list fl es] ∧ Al ExS r es
theorem okv_itm {av : List AVal} (h : Okv Tryz.prog B 48 av) : ∃ x,ItmS x av := by
 obtain ⟨parts,rfl,hl,hp⟩ := h.at_struct Tryz.underlying48
 obtain ⟨p0,p1,rfl⟩ : ∃ p0 p1,parts = [p0,p1] := by
  match parts,hl with
  | [a,b],_ => exact ⟨a,b,rfl⟩
 obtain ⟨x,hx⟩ := okv_exs (show Okv Tryz.prog B 29 p0 from hp 0 (by decide))
 obtain ⟨s,rfl,_⟩ := (show Okv Tryz.prog B 9 p1 from hp 1 (by decide)).at_str Tryz.underlying9
 exact ⟨⟨x,s⟩,p0,hx,by simp⟩
theorem okv_src {av : List AVal} (h : Okv Tryz.prog B 50 av) : ∃ x,SrcS x av := by
 obtain ⟨parts,rfl,hl,hp⟩ := h.at_struct Tryz.underlying50
 obtain ⟨p0,p1,p2,rfl⟩ : ∃ p0 p1 p2,parts = [p0,p1,p2] := by
  match parts,hl with
  | [a,b,c],_ => exact ⟨a,b,c,rfl⟩
 obtain ⟨s,rfl,_⟩ := (show Okv Tryz.prog B 9 p0 from hp 0 (by decide)).at_str Tryz.underlying9
 obtain ⟨s2,rfl,_⟩ := (show Okv Tryz.prog B 9 p1 from hp 1 (by decide)).at_str Tryz.underlying9
 obtain ⟨x,hx⟩ := okv_exs (show Okv Tryz.prog B 29 p2 from hp 2 (by decide))
 exact ⟨⟨s,s2,x⟩,p2,hx,by simp⟩
theorem okv_srt {av : List AVal} (h : Okv Tryz.prog B 93 av) : ∃ x,SrtS x av := by
 obtain ⟨parts,rfl,hl,hp⟩ := h.at_struct Tryz.underlying93
 obtain ⟨p0,p1,rfl⟩ : ∃ p0 p1,parts = [p0,p1] := by
  match parts,hl with
  | [a,b],_ => exact ⟨a,b,rfl⟩
 obtain ⟨x,hx⟩ := okv_exs (show Okv Tryz.prog B 29 p0 from hp 0 (by decide))
 obtain ⟨s,rfl⟩ := (show Okv Tryz.prog B 4 p1 from hp 1 (by decide)).at_bool Tryz.underlying4
 exact ⟨⟨x,s⟩,p0,hx,by simp⟩
theorem okv_asn {av : List AVal} (h : Okv Tryz.prog B 80 av) : ∃ x,AsnS x av := by
 obtain ⟨parts,rfl,hl,hp⟩ := h.at_struct Tryz.underlying80
 obtain ⟨p0,p1,rfl⟩ : ∃ p0 p1,parts = [p0,p1] := by
  match parts,hl with
  | [a,b],_ => exact ⟨a,b,rfl⟩
 obtain ⟨s,rfl,_⟩ := (show Okv Tryz.prog B 9 p0 from hp 0 (by decide)).at_str Tryz.underlying9
 obtain ⟨x,hx⟩ := okv_exs (show Okv Tryz.prog B 29 p1 from hp 1 (by decide))
 exact ⟨⟨s,x⟩,p1,hx,by simp⟩
theorem okv_row {av : List AVal} (h : Okv Tryz.prog B 27 av) : ∃ x,RowS x av := by
 obtain ⟨fl,es,l,rfl,hl⟩ := okv_list Tryz.underlying27 (fun av h => okv_exs h) h
 exact ⟨l,fl,es,rfl,hl⟩
theorem okv_col {av : List AVal} (h : Okv Tryz.prog B 69 av) : ∃ c : Pz.Col,av = pcolC c := by
 obtain ⟨parts,rfl,hl,hp⟩ := h.at_struct Tryz.underlying69
 obtain ⟨p0,p1,p2,rfl⟩ : ∃ p0 p1 p2,parts = [p0,p1,p2] := by
  match parts,hl with
  | [a,b,c],_ => exact ⟨a,b,c,rfl⟩
 obtain ⟨s,rfl,_⟩ := (show Okv Tryz.prog B 9 p0 from hp 0 (by decide)).at_str Tryz.underlying9
 obtain ⟨n,rfl,_⟩ := (show Okv Tryz.prog B 3 p1 from hp 1 (by decide)).at_int Tryz.underlying3
 obtain ⟨b,rfl⟩ := (show Okv Tryz.prog B 4 p2 from hp 2 (by decide)).at_bool Tryz.underlying4
 exact ⟨⟨s,n,b⟩,by simp [pcolC]⟩
theorem okv_name {av : List AVal} (h : Okv Tryz.prog B 9 av) : ∃ n : Bs,av = [.str n] := by
 obtain ⟨s,rfl,_⟩ := h.at_str Tryz.underlying9
 exact ⟨s,rfl⟩
theorem Al.imp {α : Type} {R R' : α → List AVal → Prop} (h : ∀ x e,R x e → R' x e) {l : List α} {es : List (List AVal)} (ha : Al R l es) : Al R' l es := ⟨ha.1,fun i hi => h _ _ (ha.2 i hi)⟩
theorem Al.eqMap {α : Type} {f : α → List AVal} : ∀ {l : List α} {es : List (List AVal)},Al (fun x e => e = f x) l es → es = l.map f
 | [],es,h => by rw [h.empty]; rfl
 | x :: l,es,h => by
   obtain ⟨e,es2,rfl,h1,h2⟩ := h.uncons
   rw [h1,Al.eqMap h2]; rfl
theorem Al.memE {α : Type} {R : α → List AVal → Prop} {P : α → Nat → Prop} (hm : ∀ x e,R x e → P x (szL e)) (hle : ∀ x a b,a ≤ b → P x a → P x b) : ∀ {l : List α} {es : List (List AVal)},Al R l es → ∀ x ∈ l,P x (szLL es)
 | [],es,h,x,hx => by cases hx
 | y :: l,es,h,x,hx => by
   obtain ⟨e,es2,rfl,h1,h2⟩ := h.uncons
   simp only [szLL]
   rcases List.mem_cons.1 hx with rfl | hx
   ·exact hle _ _ _ (by omega) (hm _ _ h1)
   ·exact hle _ _ _ (by omega) (Al.memE hm hle h2 x hx)
def Pw (x : Ex) (n : Nat) : Prop := x.w ≤ n ∧ inrE x = true
theorem pw_le (x : Ex) (a b : Nat) (h : a ≤ b) (hp : Pw x a) : Pw x b := ⟨Nat.le_trans hp.1 h,hp.2⟩
theorem itm_pw {l : List Itm} {es} (h : Al ItmS l es) : ∀ x ∈ l,Pw x.e (szLL es) := h.memE (P := fun (x : Itm) n => Pw x.e n) (fun x e ⟨ev,h1,h2⟩ => ⟨by subst h2; rw [szL_app]; have := h1.2.1; omega,h1.2.2⟩) (fun x => pw_le x.e)
theorem src_pw {l : List Src} {es} (h : Al SrcS l es) : ∀ x ∈ l,Pw x.on (szLL es) := h.memE (P := fun (x : Src) n => Pw x.on n) (fun x e ⟨ev,h1,h2⟩ => ⟨by subst h2; simp only [szL,szV]; have := h1.2.1; omega,h1.2.2⟩) (fun x => pw_le x.on)
theorem srt_pw {l : List Srt} {es} (h : Al SrtS l es) : ∀ x ∈ l,Pw x.e (szLL es) := h.memE (P := fun (x : Srt) n => Pw x.e n) (fun x e ⟨ev,h1,h2⟩ => ⟨by subst h2; rw [szL_app]; have := h1.2.1; omega,h1.2.2⟩) (fun x => pw_le x.e)
theorem asn_pw {l : List Asn} {es} (h : Al AsnS l es) : ∀ x ∈ l,Pw x.e (szLL es) := h.memE (P := fun (x : Asn) n => Pw x.e n) (fun x e ⟨ev,h1,h2⟩ => ⟨by subst h2; simp only [szL,szV]; have := h1.2.1; omega,h1.2.2⟩) (fun x => pw_le x.e)
theorem exs_pw {l : List Ex} {es} (h : Al ExS l es) : ∀ x ∈ l,Pw x (szLL es) := h.memE (fun x e h1 => ⟨h1.2.1,h1.2.2⟩) pw_le
theorem row_pw {l : List (List Ex)} {es} (h : Al RowS l es) : ∀ r ∈ l,∀ x ∈ r,Pw x (szLL es) := h.memE (P := fun (r : List Ex) n => ∀ x ∈ r,Pw x n) (fun r e ⟨fl,es2,h1,h2⟩ x hx => by
 subst h1
 simp only [szL,szV]
 exact pw_le _ _ _ (by omega) (exs_pw h2 x hx)) (fun r a b hab hp x hx => pw_le _ _ _ hab (hp x hx))
theorem row_flat : ∀ {l : List (List Ex)} {es : List (List AVal)},Al RowS l es → l.flatten.length ≤ szLL es
 | [],es,h => by simp
 | r :: l,es,h => by
   obtain ⟨e,es2,rfl,⟨fl,es3,rfl,h1⟩,h2⟩ := h.uncons
   have := row_flat h2
   have h3 := h1.1
   have h4 := szLL_len es3
   rw [List.flatten_cons,List.length_append]
   simp only [szLL,szL,szV]; omega
theorem ExsV_al {l : List Ex} {es : List (List AVal)} (h : Al ExV l es) : ExsV l es := ExsV_of h.1 h.2
set_option maxHeartbeats 1000000 in
theorem okv_stm {c : List AVal} (h : Okv Tryz.prog B 33 c) (hz : szL c ≤ 2100000) : ∃ st,StV st c ∧ Sm st := by
 obtain ⟨parts,rfl,hl,hp⟩ := h.at_struct Tryz.underlying33
 obtain ⟨p0,p1,p2,p3,p4,p5,p6,p7,p8,p9,p10,p11,rfl⟩ : ∃ p0 p1 p2 p3 p4 p5 p6 p7 p8 p9 p10 p11,parts = [p0,p1,p2,p3,p4,p5,p6,p7,p8,p9,p10,p11] := by
  match parts,hl with
  | [a,b,c,d,e,f,g,h,i,j,k,l],_ => exact ⟨a,b,c,d,e,f,g,h,i,j,k,l,rfl⟩
 obtain ⟨kind,rfl,_⟩ := (show Okv Tryz.prog B 3 p0 from hp 0 (by decide)).at_int Tryz.underlying3
 obtain ⟨table,rfl,_⟩ := (show Okv Tryz.prog B 9 p1 from hp 1 (by decide)).at_str Tryz.underlying9
 obtain ⟨index,rfl,_⟩ := (show Okv Tryz.prog B 9 p2 from hp 2 (by decide)).at_str Tryz.underlying9
 obtain ⟨fC,eC,cols,rfl,hC⟩ := okv_list Tryz.underlying22 (R := fun (c : Pz.Col) e => e = pcolC c) (fun av h => okv_col h) (show Okv Tryz.prog B 22 p3 from hp 3 (by decide))
 obtain ⟨fN,eN,names,rfl,hN⟩ := okv_list Tryz.underlying23 (R := fun (n : Bs) e => e = [.str n]) (fun av h => okv_name h) (show Okv Tryz.prog B 23 p4 from hp 4 (by decide))
 obtain ⟨uniq,rfl⟩ := (show Okv Tryz.prog B 4 p5 from hp 5 (by decide)).at_bool Tryz.underlying4
 obtain ⟨fR,eR,rows,rfl,hR⟩ := okv_list Tryz.underlying24 (fun av h => okv_row h) (show Okv Tryz.prog B 24 p6 from hp 6 (by decide))
 obtain ⟨fI,eI,items,rfl,hI⟩ := okv_list Tryz.underlying25 (fun av h => okv_itm h) (show Okv Tryz.prog B 25 p7 from hp 7 (by decide))
 obtain ⟨fF,eF,src,rfl,hF⟩ := okv_list Tryz.underlying26 (fun av h => okv_src h) (show Okv Tryz.prog B 26 p8 from hp 8 (by decide))
 obtain ⟨wher,hW⟩ := okv_exs (show Okv Tryz.prog B 29 p9 from hp 9 (by decide))
 obtain ⟨fO,eO,order,rfl,hO⟩ := okv_list Tryz.underlying30 (fun av h => okv_srt h) (show Okv Tryz.prog B 30 p10 from hp 10 (by decide))
 obtain ⟨fS,eS,sets,rfl,hS⟩ := okv_list Tryz.underlying31 (fun av h => okv_asn h) (show Okv Tryz.prog B 31 p11 from hp 11 (by decide))
 have eCe : eC = pcolsC cols := hC.eqMap
 have eNe : eN = namesC names := hN.eqMap
 subst eCe eNe
 have e1 : ([[.atom (.int .i64 kind)],[.str table],[.str index],[.list fC (pcolsC cols)],[.list fN (namesC names)],[.bool uniq],[.list fR eR],[.list fI eI],[.list fF eF],p9,[.list fO eO],[.list fS eS]] : List (List AVal)).flatten = [.int kind,.str table,.str index,.list fC (pcolsC cols),.list fN (namesC names),.bool uniq,.list fR eR,.list fI eI,.list fF eF] ++ p9 ++ [.list fO eO,.list fS eS] := by simp
 have hz' : 1 + szLL (pcolsC cols) + (1 + szLL (namesC names)) + (1 + szLL eR) + (1 + szLL eI) + (1 + szLL eF) + szL p9 + (1 + szLL eO) + (1 + szLL eS) ≤ 2100000 := by
  have := hz
  rw [e1] at this
  simp only [szL_app,szL,szV] at this
  omega
 rw [e1]
 have z1 := szLL_len (pcolsC cols); have z2 := szLL_len (namesC names); have z3 := szLL_len eR; have z4 := szLL_len eI; have z5 := szLL_len eF; have z6 := szLL_len eO; have z7 := szLL_len eS
 have y3 := hR.1; have y4 := hI.1; have y5 := hF.1; have y6 := hO.1; have y7 := hS.1
 have y1 : (pcolsC cols).length = cols.length := by simp [pcolsC]
 have y2 : (namesC names).length = names.length := by simp [namesC]
 have fl := row_flat hR
 refine ⟨{ kind := kind,table := table,index := index,cols := cols,names := names,uniq := uniq,rows := rows,items := items,src := src,wher := wher,order := order,sets := sets },
  ⟨fC,fN,fR,fI,fF,fO,fS,eR,eI,eF,p9,eO,eS,rfl,hW.1,hR.imp (fun r e ⟨fl,es,h1,h2⟩ => ⟨fl,es,h1,ExsV_al (h2.imp fun x e h => h.1)⟩),hI.imp (fun x e ⟨ev,h1,h2⟩ => ⟨ev,h1.1,h2⟩),hF.imp (fun x e ⟨ev,h1,h2⟩ => ⟨ev,h1.1,h2⟩),hO.imp (fun x e ⟨ev,h1,h2⟩ => ⟨ev,h1.1,h2⟩),hS.imp (fun x e ⟨ev,h1,h2⟩ => ⟨ev,h1.1,h2⟩)⟩,?_⟩
 refine ⟨by simp only; omega,by simp only; omega,by simp only; omega,by simp only; omega,by simp only; omega,by simp only; omega,by simp only; omega,?_,fun x hx => ?_⟩
 ·simp only [exsS,List.length_cons,List.length_append,List.length_map]; omega
 ·have hp : ∀ {n : Nat},n ≤ 2100000 → Pw x n → x.w ≤ 4000000 ∧ inrE x = true := fun hn h => ⟨by have := h.1; omega,h.2⟩
  simp only [exsS,List.mem_cons,List.mem_append,List.mem_map] at hx
  rcases hx with rfl | hx | ⟨y,hy,rfl⟩ | ⟨y,hy,rfl⟩ | ⟨y,hy,rfl⟩ | ⟨y,hy,rfl⟩
  ·exact hp (n := szL p9) (by omega) ⟨hW.2.1,hW.2.2⟩
  ·obtain ⟨r,hr,hx⟩ := List.mem_flatten.1 hx
   exact hp (by omega) (row_pw hR r hr x hx)
  ·exact hp (by omega) (itm_pw hI y hy)
  ·exact hp (by omega) (src_pw hF y hy)
  ·exact hp (by omega) (srt_pw hO y hy)
  ·exact hp (by omega) (asn_pw hS y hy)
def stTypes : List TypeId := [2,3,4,9,22,23,24,25,26,27,29,30,31,33,48,50,93,80,69]
set_option maxRecDepth 100000 in
theorem stTypes_closed : closedB Tryz.prog stTypes = true := by kernel_rfl
set_option maxRecDepth 100000 in
theorem arg_stm {H : Type} {enc : TypeId × Value → H} {W : World} {sp : Nat → Bool} {held : Bool} {r : Reach} {base : Nat} {v : Value} {d : DataW H} {p : List MemPlace} {Q : TypeId → DataW H → Prop} {μ : DataW H → Nat} (hB : Bulk μ) (hok : Value.okWide Tryz.prog W r base 33 v)
  (h : DataW.Trod enc Tryz.prog W 0 sp held 33 v d p) (hQ : Meas Tryz.prog B Q) (hw : Q 33 d) (hd : μ d ≤ 1048576) : ∃ (st : Stm) (av : List AVal),StV st av ∧ Sm st ∧ Rel (WF W) (fun _ => none) (.agg av) v := by
 obtain ⟨cs,rfl⟩ := agg_of_okWide Tryz.underlying33 hok
 obtain ⟨fuel,hf⟩ := h
 obtain ⟨av,hav,hrd,hz⟩ := read_all2 hB stTypes_closed hQ fuel (by simp [stTypes]) hf hw
 obtain ⟨st,h1,h2⟩ := okv_stm hav (by omega)
 exact ⟨st,av,h1,h2,hrd.agg⟩
end Go.Abs
