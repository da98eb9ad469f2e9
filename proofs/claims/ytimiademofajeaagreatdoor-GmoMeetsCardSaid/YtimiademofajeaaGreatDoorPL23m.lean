/- What is found is a global memory order, and where any order is one, one is found: the law GmoMeets returns true whatever it is handed. No condition. -/
import Derived.Test.YtimiademofajeaaGreatDoorP28
import Derived.Test.YtimiademofajeaaGreatDoorRows
set_option linter.unusedSimpArgs false
set_option linter.unusedVariables false
set_option maxRecDepth 20000
namespace Go.Proofs.YtimiademofajeaaGreatDoor
open Go Go.Vm
set_option maxHeartbeats 4000000 in
theorem GmoMeets_true {v x0:V} {lv:Nat→V} {x4:V} {R:Nat→List Rt} {img:List Nat} {cv:List V} {co:List (List Int)} (c:Cn v x0 lv x4 R img cv co) (lv2:V) (L:List Int) (hl:Sl lv2 (iI L)):
  evI pg .val n_undertowlaw23_GmoMeets [v,lv2] []=some (.bool true,[]):=by
 obtain ⟨g,hg,hg2⟩:=Great_ok c
 have i0:=c.im.is
 have i4:=c.co4.is
 have j0:=(c.li 0 (by omega)).1.is
 have j1:=(c.li 1 (by omega)).1.is
 have j2:=(c.li 2 (by omega)).1.is
 have li:=hl.is
 have lr:(rows lv2).length=L.length:=by rw [hl.rows,iI_len]
 rw [c.eq] at hg ⊢
 cases g with
 | true=>
  rw [s_fn fn_undertowlaw23_GmoMeets]
  simp [ir_undertowlaw23_GmoMeets,go_sem,alive23,hg,i0,i4,j0,j1,j2,li,lr]
 | false=>
  by_cases q:200<L.length
  ·have q':(200:Int)<(L.length:Int):=by omega
   rw [s_fn fn_undertowlaw23_GmoMeets]
   simp [ir_undertowlaw23_GmoMeets,go_sem,alive23,hg,i0,i4,j0,j1,j2,li,lr,q,q']
  ·have q':¬ (200:Int)<(L.length:Int):=by omega
   have q2:(L.length:Int)≤200:=by omega
   have h60:=hg2 rfl
   have w:=c.lk h60
   by_cases h0:chk R img cv.length co=0
   ·have hE:=len512 h60.1
    obtain ⟨wf,⟨rv,W2,m1,m2,m3,m4,mJ⟩,U2,ov,s1,s2,s3,s4,s5⟩:=all_facts w h60.1 h0
    obtain ⟨j,k1,k2⟩:=mJ lv2 L hl (by omega)
    have hs0:=srch_0 (g:=gmOf (evs R) co) (W2:=U2)
    have hcg:=fitP_congr (n:=(evs R).length) (W:=U2) (U:=W2) fun a b ha hb=>by rw [s2 a b ha hb,m4 a b ha hb]
    have hfound:j=0→srch (gmOf (evs R) co) U2=0:=fun e=>by
     obtain ⟨f1,f2⟩:=k2.1 e
     rw [← hcg] at f1
     obtain ⟨o,ho⟩:=fit_kah f1
     unfold srch
     rw [if_neg (by rw [f2]; simp)]
     have hgn:(gmOf (evs R) co).n=(evs R).length:=rfl
     rw [hgn,ho]
    by_cases hsc:srch (gmOf (evs R) co) U2=0
    ·obtain ⟨o,ho,hso⟩:=s5 hsc
     have hol:=kah_len _ _ _ _ _ _ ho
     rw [List.length_nil,Nat.zero_add] at hol
     have hfo:=kah_fitP ho hol
     rw [hcg] at hfo
     obtain ⟨j2',g1,g2⟩:=mJ ov o hso (by omega)
     have hj2:j2'=0:=g2.2 ⟨hfo,hs0 hsc⟩
     subst hj2
     rw [hsc] at s1
     clear m3 m4 mJ s2 s5 wf w hs0 hcg hfound k2 g2
     rw [s_fn fn_undertowlaw23_GmoMeets]
     by_cases hj:j=0
     ·simp [ir_undertowlaw23_GmoMeets,go_sem,alive23,hg,i0,i4,j0,j1,j2,li,lr,q,q',q2,s1,s3,s4,k1,g1,hj]
     ·have hj':¬ (j:Int)=0:=by omega
      simp [ir_undertowlaw23_GmoMeets,go_sem,alive23,hg,i0,i4,j0,j1,j2,li,lr,q,q',q2,s1,s3,s4,k1,g1,hj,hj']
    ·have hj:¬ j=0:=fun e=>hsc (hfound e)
     have hj':¬ (j:Int)=0:=by omega
     clear m3 m4 mJ s2 s5 wf w hs0 hcg hfound k2
     generalize srch (gmOf (evs R) co) U2=sc at *
     have hsc':¬ (sc:Int)=0:=by omega
     rw [s_fn fn_undertowlaw23_GmoMeets]
     simp [ir_undertowlaw23_GmoMeets,go_sem,alive23,hg,i0,i4,j0,j1,j2,li,lr,q,q',q2,s1,s3,s4,k1,hj,hj',hsc,hsc']
   ·have hS:=Search_no w h0
    have hJ:=Judge_no w h0 lv2 li
    generalize chk R img cv.length co=ch at *
    have h0':¬ (ch:Int)=0:=by omega
    rw [s_fn fn_undertowlaw23_GmoMeets]
    simp [ir_undertowlaw23_GmoMeets,go_sem,alive23,hg,i0,i4,j0,j1,j2,li,lr,q,q',q2,hS,hJ,h0,h0']
theorem law_meets:∀ vs,PArgs Tryz.prog 8 Tryz.f4.params.toList vs→∃ k,evF pg k .val 4 vs []=some (.bool true,[]):=by
 intro vs h
 obtain ⟨v1,_,rfl,h1,v2,_,rfl,h2,rfl⟩:=h
 obtain ⟨x0,lv,x4,R,img,cv,co,c⟩:=arg_cd h1
 obtain ⟨L,hl,_⟩:=arg_ord (n:=6) h2
 exact (evI_iff (hx _ _ _)).1 (GmoMeets_true c v2 L hl)
end Go.Proofs.YtimiademofajeaaGreatDoor
