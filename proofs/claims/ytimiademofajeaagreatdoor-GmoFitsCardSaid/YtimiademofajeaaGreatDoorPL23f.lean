/- An order that fits what must be is a global memory order, where one is found, and each global memory order fits it: the law GmoFits returns true whatever it is handed. No condition. -/
import Derived.Test.YtimiademofajeaaGreatDoorP28
import Derived.Test.YtimiademofajeaaGreatDoorRows
set_option linter.unusedSimpArgs false
set_option linter.unusedVariables false
set_option maxRecDepth 20000
namespace Go.Proofs.YtimiademofajeaaGreatDoor
open Go Go.Vm
set_option maxHeartbeats 4000000 in
theorem GmoFits_true {v x0:V} {lv:Nat→V} {x4:V} {R:Nat→List Rt} {img:List Nat} {cv:List V} {co:List (List Int)} (c:Cn v x0 lv x4 R img cv co) (lv2:V) (L:List Int) (hl:Sl lv2 (iI L)):
  evI pg .val n_undertowlaw23_GmoFits [v,lv2] []=some (.bool true,[]):=by
 obtain ⟨g,hg,hg2⟩:=Great_ok c
 have i0:=c.im.is
 have i4:=c.co4.is
 have j0:=(c.li 0 (by omega)).1.is
 have j1:=(c.li 1 (by omega)).1.is
 have j2:=(c.li 2 (by omega)).1.is
 have li:=hl.is
 have lr:(rows lv2).length=L.length:=by rw [hl.rows,iI_len]
 rw [c.eq] at hg ⊢
 cases g with
 | true=>
  rw [s_fn fn_undertowlaw23_GmoFits]
  simp [ir_undertowlaw23_GmoFits,go_sem,alive23,hg,i0,i4,j0,j1,j2,li,lr]
 | false=>
  by_cases q:200<L.length
  ·have q':(200:Int)<(L.length:Int):=by omega
   rw [s_fn fn_undertowlaw23_GmoFits]
   simp [ir_undertowlaw23_GmoFits,go_sem,alive23,hg,i0,i4,j0,j1,j2,li,lr,q,q']
  ·have q':¬ (200:Int)<(L.length:Int):=by omega
   have q2:(L.length:Int)≤200:=by omega
   have h60:=hg2 rfl
   have w:=c.lk h60
   have hC:=Check_ok w
   by_cases h0:chk R img cv.length co=0
   ·obtain ⟨wf,⟨rv,W2,m1,m2,m3,m4,mJ⟩,U2,ov,s1,s2,s3,s4,s5⟩:=all_facts w h60.1 h0
    obtain ⟨j,k1,k2⟩:=mJ lv2 L hl (by omega)
    have hF:=Fits_ok false rv _ W2 m3 lv2 L hl (by unfold maxLen; omega)
    have hs0:=srch_0 (g:=gmOf (evs R) co) (W2:=U2)
    clear m3 m4 mJ s2 s5 wf w hC
    generalize srch (gmOf (evs R) co) U2=sc at *
    generalize fitP (evs R).length W2 L=ft at *
    by_cases hj:j=0
    ·obtain ⟨k3,k4⟩:=k2.1 hj
     subst hj
     rw [k3] at hF
     rw [s_fn fn_undertowlaw23_GmoFits]
     by_cases hsc:sc=0
     ·simp [ir_undertowlaw23_GmoFits,go_sem,alive23,hg,i0,i4,j0,j1,j2,li,lr,q,q',q2,m1,m2,s1,s3,s4,k1,hF,hsc]
     ·have hsc':¬ (sc:Int)=0:=by omega
      simp [ir_undertowlaw23_GmoFits,go_sem,alive23,hg,i0,i4,j0,j1,j2,li,lr,q,q',q2,m1,m2,s1,s3,s4,k1,hF,hsc,hsc']
    ·have hj':¬ (j:Int)=0:=by omega
     cases hft:ft with
     | false=>
      rw [hft] at hF
      rw [s_fn fn_undertowlaw23_GmoFits]
      simp [ir_undertowlaw23_GmoFits,go_sem,alive23,hg,i0,i4,j0,j1,j2,li,lr,q,q',q2,m1,m2,s1,s3,s4,k1,hF,hj,hj']
     | true=>
      rw [hft] at hF
      have hsc:¬ sc=0:=fun e=>hj (k2.2 ⟨hft,hs0 e⟩)
      have hsc':¬ (sc:Int)=0:=by omega
      rw [s_fn fn_undertowlaw23_GmoFits]
      simp [ir_undertowlaw23_GmoFits,go_sem,alive23,hg,i0,i4,j0,j1,j2,li,lr,q,q',q2,m1,m2,s1,s3,s4,k1,hF,hj,hj',hsc,hsc']
   ·have hM:=Must_no w h0
    have hJ:=Judge_no w h0 lv2 li
    generalize chk R img cv.length co=ch at *
    have h0':¬ (ch:Int)=0:=by omega
    rw [s_fn fn_undertowlaw23_GmoFits]
    simp [ir_undertowlaw23_GmoFits,go_sem,alive23,hg,i0,i4,j0,j1,j2,li,lr,q,q',q2,hM,hJ,hC,h0,h0']
theorem law_fits:∀ vs,PArgs Tryz.prog 8 Tryz.f5.params.toList vs→∃ k,evF pg k .val 5 vs []=some (.bool true,[]):=by
 intro vs h
 obtain ⟨v1,_,rfl,h1,v2,_,rfl,h2,rfl⟩:=h
 obtain ⟨x0,lv,x4,R,img,cv,co,c⟩:=arg_cd h1
 obtain ⟨L,hl,_⟩:=arg_ord (n:=6) h2
 exact (evI_iff (hx _ _ _)).1 (GmoFits_true c v2 L hl)
end Go.Proofs.YtimiademofajeaaGreatDoor
