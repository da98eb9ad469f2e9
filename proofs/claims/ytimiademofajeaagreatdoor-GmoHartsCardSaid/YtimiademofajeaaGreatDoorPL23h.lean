/- Whether there is a global memory order, or why not, doesn't hang on which hart is which: the law GmoHarts returns true whatever it is handed. No condition. -/
import Derived.Test.YtimiademofajeaaGreatDoorP25
import Derived.Test.YtimiademofajeaaGreatDoorRows
set_option linter.unusedSimpArgs false
set_option linter.unusedVariables false
set_option maxRecDepth 20000
namespace Go.Proofs.YtimiademofajeaaGreatDoor
open Go Go.Vm
def sw (i k h:Nat):Nat:=if h=k then i else if h=i then k else h
theorem sw_lt {i k h:Nat} (hi:i<3) (hk:k<3) (hh:h<3):sw i k h<3:=by unfold sw; split<;>(try split)<;>omega
theorem sw_inv (i k h:Nat):sw i k (sw i k h)=h:=by unfold sw; split<;>(try split)<;>(try split)<;>omega
theorem sw_perm (R:Nat→List Rt) {i k:Nat} (hi:i<3) (hk:k<3):(allR fun h=>R (sw i k h)).Perm (allR R)∧prB (fun h=>R (sw i k h))=prB R:=by
 have p01:(R 1 ++ (R 0 ++ R 2)).Perm (R 0 ++ (R 1 ++ R 2)):=List.perm_append_comm_assoc _ _ _
 have p12:(R 0 ++ (R 2 ++ R 1)).Perm (R 0 ++ (R 1 ++ R 2)):=List.Perm.append_left _ List.perm_append_comm
 have p02:(R 2 ++ (R 1 ++ R 0)).Perm (R 0 ++ (R 1 ++ R 2)):=by
  have h1:(R 2 ++ (R 1 ++ R 0)).Perm ((R 1 ++ R 0) ++ R 2):=List.perm_append_comm
  rw [List.append_assoc] at h1
  exact h1.trans p01
 have b01:(prR (R 1) || (prR (R 0) || prR (R 2)))=(prR (R 0) || (prR (R 1) || prR (R 2))):=by cases prR (R 0)<;>cases prR (R 1)<;>rfl
 have b12:(prR (R 0) || (prR (R 2) || prR (R 1)))=(prR (R 0) || (prR (R 1) || prR (R 2))):=by cases prR (R 1)<;>cases prR (R 2)<;>rfl
 have b02:(prR (R 2) || (prR (R 1) || prR (R 0)))=(prR (R 0) || (prR (R 1) || prR (R 2))):=by cases prR (R 0)<;>cases prR (R 1)<;>cases prR (R 2)<;>rfl
 rcases lt3 hi with rfl | rfl | rfl<;>rcases lt3 hk with rfl | rfl | rfl
 ·exact ⟨.refl _,rfl⟩
 ·exact ⟨p01,b01⟩
 ·exact ⟨p02,b02⟩
 ·exact ⟨p01,b01⟩
 ·exact ⟨.refl _,rfl⟩
 ·exact ⟨p12,b12⟩
 ·exact ⟨p02,b02⟩
 ·exact ⟨p12,b12⟩
 ·exact ⟨.refl _,rfl⟩
theorem codes {x0:V} {lv:Nat→V} {x4:V} {R:Nat→List Rt} {img:List Nat} {cv:List V} {co:List (List Int)} (w:Lk x0 lv x4 (ils (evR (evs R))) R img cv co) (h60:∀ h,h<3→(R h).length≤60) {i k:Nat} (hi:i<3) (hk:k<3):
  ∃ (c:Nat) (o1 o2:V),evI pg .val n_gmo_Search [.agg [x0,lv 0,lv 1,lv 2,x4]] []=some (.tup [o1,.int .i64 (c:Int)],[])∧evI pg .val n_gmo_Search [.agg [x0,lv (sw i k 0),lv (sw i k 1),lv (sw i k 2),x4]] []=some (.tup [o2,.int .i64 (c:Int)],[])∧(isS o1=true∧clean 7 o1=true)∧isS o2=true∧clean 7 o2=true:=by
 obtain ⟨hp,hpr⟩:=sw_perm R hi hk
 obtain ⟨hch,hel⟩:=chk_perm hp hpr img cv.length co
 have w':Lk x0 (fun h=>lv (sw i k h)) x4 (ils (evR (evs fun h=>R (sw i k h)))) (fun h=>R (sw i k h)) img cv co:=
  ⟨w.im,w.ib,fun h hh=>w.li _ (sw_lt hi hk hh),w.co4,w.cs,w.cl,w.ol,.ils _⟩
 have h60':∀ h,h<3→((fun h=>R (sw i k h)) h).length≤60:=fun h hh=>h60 _ (sw_lt hi hk hh)
 by_cases h0:chk R img cv.length co=0
 ·have h0':chk (fun h=>R (sw i k h)) img cv.length co=0:=by rw [hch]; exact h0
  obtain ⟨wf,U,o1,s1,s2,s3,s4,_⟩:=search_facts w h60 h0
  obtain ⟨wf',U',o2,t1,t2,t3,t4,_⟩:=search_facts w' h60' h0'
  have hs:Sw R (fun h=>R (sw i k h)) (sw i k):=⟨fun h hh=>sw_lt hi hk hh,sw_inv i k,fun h=>by simp only [sw_inv]⟩
  have hm:=hs.sim wf wf' hel
  rw [hel] at t2
  have he:=hm.srch wf.gm (fun a b ha hb=>hs.rls wf' ha hb) s2 t2
  rw [he] at t1
  exact ⟨_,o1,o2,s1,t1,⟨s3,s4⟩,t3,t4⟩
 ·have h0':chk (fun h=>R (sw i k h)) img cv.length co≠0:=by rw [hch]; exact h0
  have n1:=Search_no w h0
  have n2:=Search_no w' h0'
  rw [hch] at n2
  exact ⟨_,.nils,.nils,n1,n2,⟨rfl,rfl⟩,rfl,rfl⟩
set_option maxHeartbeats 4000000 in
theorem GmoHarts_true {v x0:V} {lv:Nat→V} {x4:V} {R:Nat→List Rt} {img:List Nat} {cv:List V} {co:List (List Int)} (c:Cn v x0 lv x4 R img cv co) (a b:Nat) (ha:a<256) (hb:b<256):
  evI pg .val n_undertowlaw23_GmoHarts [v,.int .u8 (a:Int),.int .u8 (b:Int)] []=some (.bool true,[]):=by
 obtain ⟨g,hg,hg2⟩:=Great_ok c
 have i0:=c.im.is
 have i4:=c.co4.is
 have j0:=(c.li 0 (by omega)).1.is
 have j1:=(c.li 1 (by omega)).1.is
 have j2:=(c.li 2 (by omega)).1.is
 rw [c.eq] at hg ⊢
 have na:(a:Int).tmod 3=((a % 3:Nat):Int):=by
  rw [Int.tmod_eq_emod_of_nonneg (by omega)]
  omega
 have nb:(b:Int).tmod 3=((b % 3:Nat):Int):=by
  rw [Int.tmod_eq_emod_of_nonneg (by omega)]
  omega
 have w0:IntKind.i64.wrap 0=0:=rfl
 have w1:IntKind.i64.wrap 1=1:=rfl
 have w2:IntKind.i64.wrap 2=2:=rfl
 have hi:a % 3<3:=Nat.mod_lt _ (by omega)
 have hk:b % 3<3:=Nat.mod_lt _ (by omega)
 generalize a % 3=i at *
 generalize b % 3=k at *
 cases g with
 | true=>
  rw [s_fn fn_undertowlaw23_GmoHarts]
  simp [ir_undertowlaw23_GmoHarts,go_sem,alive23,hg,i0,i4,j0,j1,j2,V.cells,V.exp]
 | false=>
  have h60:=hg2 rfl
  have w:=c.lk h60
  obtain ⟨cd,o1,o2,hS,hS',⟨p1,p2⟩,p3,p4⟩:=codes w h60.1 hi hk
  clear w h60 hg2 c
  rcases lt3 hi with rfl | rfl | rfl<;>rcases lt3 hk with rfl | rfl | rfl
  ·have hT:evI pg .val n_gmo_Search [.agg [x0,lv 0,lv 1,lv 2,x4]] []=some (.tup [o2,.int .i64 (cd:Int)],[]):=hS'
   clear hS'
   rw [s_fn fn_undertowlaw23_GmoHarts]
   simp [ir_undertowlaw23_GmoHarts,go_sem,alive23,hg,na,nb,w0,w1,w2,i0,i4,j0,j1,j2,hS,hT,p1,p2,p3,p4,evStore,splice,loadAt]
  ·have hT:evI pg .val n_gmo_Search [.agg [x0,lv 1,lv 0,lv 2,x4]] []=some (.tup [o2,.int .i64 (cd:Int)],[]):=hS'
   clear hS'
   rw [s_fn fn_undertowlaw23_GmoHarts]
   simp [ir_undertowlaw23_GmoHarts,go_sem,alive23,hg,na,nb,w0,w1,w2,i0,i4,j0,j1,j2,hS,hT,p1,p2,p3,p4,evStore,splice,loadAt]
  ·have hT:evI pg .val n_gmo_Search [.agg [x0,lv 2,lv 1,lv 0,x4]] []=some (.tup [o2,.int .i64 (cd:Int)],[]):=hS'
   clear hS'
   rw [s_fn fn_undertowlaw23_GmoHarts]
   simp [ir_undertowlaw23_GmoHarts,go_sem,alive23,hg,na,nb,w0,w1,w2,i0,i4,j0,j1,j2,hS,hT,p1,p2,p3,p4,evStore,splice,loadAt]
  ·have hT:evI pg .val n_gmo_Search [.agg [x0,lv 1,lv 0,lv 2,x4]] []=some (.tup [o2,.int .i64 (cd:Int)],[]):=hS'
   clear hS'
   rw [s_fn fn_undertowlaw23_GmoHarts]
   simp [ir_undertowlaw23_GmoHarts,go_sem,alive23,hg,na,nb,w0,w1,w2,i0,i4,j0,j1,j2,hS,hT,p1,p2,p3,p4,evStore,splice,loadAt]
  ·have hT:evI pg .val n_gmo_Search [.agg [x0,lv 0,lv 1,lv 2,x4]] []=some (.tup [o2,.int .i64 (cd:Int)],[]):=hS'
   clear hS'
   rw [s_fn fn_undertowlaw23_GmoHarts]
   simp [ir_undertowlaw23_GmoHarts,go_sem,alive23,hg,na,nb,w0,w1,w2,i0,i4,j0,j1,j2,hS,hT,p1,p2,p3,p4,evStore,splice,loadAt]
  ·have hT:evI pg .val n_gmo_Search [.agg [x0,lv 0,lv 2,lv 1,x4]] []=some (.tup [o2,.int .i64 (cd:Int)],[]):=hS'
   clear hS'
   rw [s_fn fn_undertowlaw23_GmoHarts]
   simp [ir_undertowlaw23_GmoHarts,go_sem,alive23,hg,na,nb,w0,w1,w2,i0,i4,j0,j1,j2,hS,hT,p1,p2,p3,p4,evStore,splice,loadAt]
  ·have hT:evI pg .val n_gmo_Search [.agg [x0,lv 2,lv 1,lv 0,x4]] []=some (.tup [o2,.int .i64 (cd:Int)],[]):=hS'
   clear hS'
   rw [s_fn fn_undertowlaw23_GmoHarts]
   simp [ir_undertowlaw23_GmoHarts,go_sem,alive23,hg,na,nb,w0,w1,w2,i0,i4,j0,j1,j2,hS,hT,p1,p2,p3,p4,evStore,splice,loadAt]
  ·have hT:evI pg .val n_gmo_Search [.agg [x0,lv 0,lv 2,lv 1,x4]] []=some (.tup [o2,.int .i64 (cd:Int)],[]):=hS'
   clear hS'
   rw [s_fn fn_undertowlaw23_GmoHarts]
   simp [ir_undertowlaw23_GmoHarts,go_sem,alive23,hg,na,nb,w0,w1,w2,i0,i4,j0,j1,j2,hS,hT,p1,p2,p3,p4,evStore,splice,loadAt]
  ·have hT:evI pg .val n_gmo_Search [.agg [x0,lv 0,lv 1,lv 2,x4]] []=some (.tup [o2,.int .i64 (cd:Int)],[]):=hS'
   clear hS'
   rw [s_fn fn_undertowlaw23_GmoHarts]
   simp [ir_undertowlaw23_GmoHarts,go_sem,alive23,hg,na,nb,w0,w1,w2,i0,i4,j0,j1,j2,hS,hT,p1,p2,p3,p4,evStore,splice,loadAt]
theorem law_harts:∀ vs,PArgs Tryz.prog 8 Tryz.f6.params.toList vs→∃ k,evF pg k .val 6 vs []=some (.bool true,[]):=by
 intro vs h
 obtain ⟨v1,_,rfl,h1,v2,_,rfl,h2,v3,_,rfl,h3,rfl⟩:=h
 obtain ⟨x0,lv,x4,R,img,cv,co,c⟩:=arg_cd h1
 obtain ⟨q2,rfl,k2⟩:=arg_u8 Tryz.underlying5 h2
 obtain ⟨q3,rfl,k3⟩:=arg_u8 Tryz.underlying5 h3
 exact (evI_iff (hx _ _ _)).1 (GmoHarts_true c q2 q3 k2 k3)
end Go.Proofs.YtimiademofajeaaGreatDoor
