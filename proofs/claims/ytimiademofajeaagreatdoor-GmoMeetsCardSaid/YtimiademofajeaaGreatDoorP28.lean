/- Layer 23: what laws need (no claim; lemmas). -/
import Derived.Test.YtimiademofajeaaGreatDoorP27
import Derived.Test.YtimiademofajeaaGreatDoorP11
set_option linter.unusedSimpArgs false
set_option linter.unusedVariables false
set_option maxRecDepth 20000
namespace Go.Proofs.YtimiademofajeaaGreatDoor
open Go Go.Vm
theorem arg_ord {n:Nat} {v:V} (h:ArgPV Tryz.prog (n+2) 28 v):∃ l:List Int,Sl v (iI l)∧l.length≤maxLen:=by
 rcases arg_slice Tryz.underlying28 h with rfl | ⟨es,rfl,hl,hes⟩
 ·exact ⟨[],.nils,by simp [maxLen]⟩
 ·obtain ⟨l,rfl,_⟩:=pv_ints es hes
  exact ⟨l,.isl _ _,by rwa [iI_len] at hl⟩
theorem Cn.lk {v x0:V} {lv:Nat→V} {x4:V} {R:Nat→List Rt} {img:List Nat} {cv:List V} {co:List (List Int)} (c:Cn v x0 lv x4 R img cv co) (h:(∀ h,h<3→(R h).length≤60)∧img.length≤200∧cv.length≤300∧∀ l∈co,l.length≤100):
  Lk x0 lv x4 (ils (evR (evs R))) R img cv co:=by
 obtain ⟨h1,h2,h3,h4⟩:=h
 refine ⟨c.im,⟨c.ib.1,by omega⟩,fun h hh=>⟨(c.li h hh).1,(c.li h hh).2.1,?_⟩,c.co4,c.cs,by omega,fun l hl=>?_,.ils _⟩
 ·have:=h1 h hh; omega
 ·have:=h4 l hl; omega
def rls (R:Nat→List Rt):Nat→Nat→Bool:=pr (evs R) (anyR R (fA R) (fD R) (fC R) (evs R) 13)
section
variable {x0:V} {lv:Nat→V} {x4:V} {R:Nat→List Rt} {img:List Nat} {cv:List V} {co:List (List Int)} (w:Lk x0 lv x4 (ils (evR (evs R))) R img cv co) (h60:∀ h,h<3→(R h).length≤60)
include w h60
omit w in
theorem len512:(evs R).length≤512:=by
 have:=evs_len R
 have:=h60 0 (by omega)
 have:=h60 1 (by omega)
 have:=h60 2 (by omega)
 omega
theorem all_at:(∃ rv W,evI pg .val n_ppo_All [.agg [x0,lv 0,lv 1,lv 2,x4]] []=some (.ip false [rv] 0,[])∧clean 7 rv=true∧RelV rv (evs R).length W∧∀ i j,i<(evs R).length→j<(evs R).length→(W i).testBit j=rls R i j) ∧
  ∀ H:List Vm.Obj,∃ H' v T I U,evI pg .heap n_ppo_All [.agg [x0,lv 0,lv 1,lv 2,x4]] H=some (.ptr H.length 0 0,H')∧RelAt H' H.length v (evs R).length T I U∧(∀ i j,i<(evs R).length→j<(evs R).length→(U i).testBit j=rls R i j)∧(∀ q,q<H.length→H'[q]?=H[q]?)∧∀ q,mft (evs R).length T I q→H.length<q:=by
 have i0:=w.im.is
 have i4:=w.co4.is
 have j0:=(w.li 0 (by omega)).1.is
 have j1:=(w.li 1 (by omega)).1.is
 have j2:=(w.li 2 (by omega)).1.is
 have hc:Cd lv R:=⟨fun h hh=>⟨(w.li h hh).1,(w.li h hh).2.2,(w.li h hh).2.1.ok⟩⟩
 obtain ⟨av,dv,cv',hl,vw⟩:=view_ok hc i0 i4 (by have:=h60 0 (by omega); have:=h60 1 (by omega); have:=h60 2 (by omega); omega)
 exact ⟨All_ok2 vw (evs_sorted R) hl ⟨i0,j0,j1,j2,i4⟩,fun H=>All_heap vw (evs_sorted R) hl ⟨i0,j0,j1,j2,i4⟩ H⟩
theorem all_facts (h0:chk R img cv.length co=0):Wf R co ∧
  (∃ rv W2,evI pg .val n_gmo_Must [.agg [x0,lv 0,lv 1,lv 2,x4]] []=some (.ip false [rv] 0,[])∧clean 7 rv=true∧RelV rv (evs R).length W2∧(∀ c d,c<(evs R).length→d<(evs R).length→((W2 c).testBit d=true↔rls R c d=true∨(gmOf (evs R) co).edg c d)) ∧
   ∀ (ov:V) (L:List Int),Sl ov (iI L)→L.length≤1000→∃ j,evI pg .val n_gmo_Judge [.agg [x0,lv 0,lv 1,lv 2,x4],ov] []=some (.int .i64 ((j:Nat):Int),[])∧(j=0↔fitP (evs R).length W2 L=true∧mayc (gmOf (evs R) co)=0)) ∧
  ∃ W2 ov,evI pg .val n_gmo_Search [.agg [x0,lv 0,lv 1,lv 2,x4]] []=some (.tup [ov,.int .i64 ((srch (gmOf (evs R) co) W2:Nat):Int)],[]) ∧
   (∀ c d,c<(evs R).length→d<(evs R).length→((W2 c).testBit d=true↔rls R c d=true∨(gmOf (evs R) co).edg c d))∧isS ov=true∧clean 7 ov=true ∧
   (srch (gmOf (evs R) co) W2=0→∃ o,kah (bitW W2) (evs R).length (evs R).length (fun _=>false) []=some o∧Sl ov (iI o)):=by
 have hE:=len512 h60
 obtain ⟨⟨rv,W,a1,a2,a3,a4⟩,hAll⟩:=all_at w h60
 have wf:=chk_wf (evs_bd fun h hh=>(w.li h hh).2.1) w.cs.1 h0
 refine ⟨wf,?_,?_⟩
 ·obtain ⟨rv2,W2,m1,m2,m3,m4⟩:=Must_ok w h0 wf hE hAll
  refine ⟨rv2,W2,m1,m2,m3,m4,fun ov L ho hL=>⟨_,Judge_ok w h0 hE (fun x hx=>wf.nd hx) (fun l hl id hid=>wf.ids hl hid) wf.ad (fun i hi r hr=>wf.prs hi hr) a1 a2 a3 ov L ho hL,?_⟩⟩
  exact judge_fits wf (fun a b ha hb=>by rw [m4 a b ha hb,a4 a b ha hb]) L
 ·obtain ⟨W2,ov,s1,s2,s3,s4,s5,_⟩:=Search_ok w h0 wf hE hAll
  exact ⟨W2,ov,s1,s2,s3,s4,s5⟩
end
theorem srch_0 {g:Gm} {W2:Nat→Nat} (h:srch g W2=0):mayc g=0:=by
 unfold srch at h
 by_cases c:mayc g=0
 ·exact c
 ·rw [if_pos c] at h; exact h
theorem fitP_congr {n:Nat} {W U:Nat→Nat} (h:∀ c d,c<n→d<n→((W c).testBit d=true↔(U c).testBit d=true)) (L:List Int):fitP n W L=fitP n U L:=by
 rw [Bool.eq_iff_iff]
 by_cases hl:L.length=n
 ·cases hf:fitA n (fun _=>0) 0 L with
  | none=>unfold fitP; rw [hf]
  | some p=>
   rw [fitP_iff2 hf hl,fitP_iff2 hf hl]
   exact ⟨fun q a b ha hb hab=>q a b ha hb ((h a b ha hb).2 hab),fun q a b ha hb hab=>q a b ha hb ((h a b ha hb).1 hab)⟩
 ·unfold fitP
  simp [hl]
end Go.Proofs.YtimiademofajeaaGreatDoor
