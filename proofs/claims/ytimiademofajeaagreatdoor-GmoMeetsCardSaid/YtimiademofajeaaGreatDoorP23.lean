/- Lemmas (no claim): K23i, K23j. -/
import Derived.Test.YtimiademofajeaaGreatDoorP22
set_option linter.unusedSimpArgs false
set_option linter.unusedVariables false
set_option maxRecDepth 20000
namespace Go.Proofs.YtimiademofajeaaGreatDoor
open Go Go.Vm
theorem judge1_ok {H:List Vm.Obj} {q bq n:Nat} {h:Nat→Int} (hq:H[q]?=some (.arr (nR n h))) (hbx:H[bq]?=some (.arr [[.rsl q 0 n]])) (x s:Nat) (hs:s<n):
  evI pg .heap n_gmo_Judge_1 [.int .i64 (x:Int),.int .i64 (s:Int),.ptr bq 0 0] H=some (.int .i64 (h s),H):=by
 have hql:=get_lt hq
 have hqe:=get_el hq
 have hbl:=get_lt hbx
 have hbe:=get_el hbx
 have hgl:=nR_len n h
 have g1:=nR_get h hs
 have gl1:s<(nR n h).length:=by omega
 have ge1:=nR_el n h _ gl1
 rw [s_fn fn_gmo_Judge_1]
 generalize nR n h=ar at *
 generalize h s=v at *
 simp [ir_gmo_Judge_1,go_sem,hq,hql,hqe,hbx,hbl,hbe,hgl,g1,gl1,ge1,hs,asIx_nat]
section
variable {x0:V} {lv:Nat→V} {x4 u:V} {R:Nat→List Rt} {img:List Nat} {cv:List V} {co:List (List Int)} (w:Lk x0 lv x4 u R img cv co)
 {H:List Vm.Obj} {p mid:Nat} {l:List (Int × V)} {cs:V} {cm:Nat→Nat} {cl:Nat→List (Int × V)} (gv:GV H p mid l cs cm cl x0 lv x4 u (evs R) co) (hE:(evs R).length≤512)
 {q bq:Nat} {h:Nat→Int} (hq:H[q]?=some (.arr (nR (evs R).length h))) (hbx:H[bq]?=some (.arr [[.rsl q 0 (evs R).length]])) (had:∀ e∈evs R,0≤adE e.r)
include w gv hE hq hbx had
theorem Judge_l0 (i:Nat) (hi:i<(evs R).length) (k:Nat) (hk:k≤szO ((evs R)[i]).r.ins.op):
  evCI pg (.loop ir_gmo_Judgel0) ⟨[.undef,.undef,.undef,.undef,.ptr p 0 0,.undef,.ptr bq 0 0,.undef,.int .i64 (i:Int),.lp 1 0,.undef,.undef,.undef,.undef,.undef,.undef,.undef,.undef,u,.int .i64 ((evs R).length:Int),.int .i64 (i:Int),.undef,.int .i64 (szO ((evs R)[i]).r.ins.op:Nat),.int .i64 (k:Int),.undef,.undef,.undef,.undef,.undef,.undef,.undef,.undef,.undef,.undef],⟨[[],evC (evs R)[i],[]],[],H⟩⟩ =
   some (if (List.range' k (szO ((evs R)[i]).r.ins.op - k)).any (fun k=>lod ((evs R)[i]).r.ins.op && !(gmOf (evs R) co).lat h i k)=true then (.ret,⟨[.undef,.undef,.undef,.int .i64 12,.undef,.undef,.undef,.undef,.undef,.undef,.undef,.undef,.undef,.undef,.undef,.undef,.undef,.undef,.undef,.undef,.undef,.undef,.undef,.undef,.undef,.undef,.undef,.undef,.undef,.undef,.undef,.undef,.undef,.undef],⟨[[],[],[]],[],H⟩⟩)
    else (.exit 3,⟨[.undef,.undef,.undef,.undef,.ptr p 0 0,.undef,.ptr bq 0 0,.undef,.int .i64 (i:Int),.lp 1 0,.undef,.undef,.undef,.undef,.undef,.undef,.undef,.undef,u,.int .i64 ((evs R).length:Int),.int .i64 (i:Int),.undef,.int .i64 (szO ((evs R)[i]).r.ins.op:Nat),.int .i64 (szO ((evs R)[i]).r.ins.op:Nat),.bool false,.undef,.undef,.undef,.undef,.undef,.undef,.undef,.undef,.undef],⟨[[],evC (evs R)[i],[]],[],H⟩⟩)):=by
 obtain ⟨B,hB⟩:∃ B,B=Vm.C.loop ir_gmo_Judgel0:=⟨_,rfl⟩
 have h8:=szO_le ((evs R)[i]).r.ins.op
 have hbl:=get_lt hbx
 have hbe:=get_el hbx
 by_cases c:k<szO ((evs R)[i]).r.ins.op
 ·have e3:=succ_i64 c (by omega)
  have cI:(k:Int)<((szO ((evs R)[i]).r.ins.op:Nat):Int):=by omega
  have hd:List.range' k (szO ((evs R)[i]).r.ins.op - k)=k :: List.range' (k+1) (szO ((evs R)[i]).r.ins.op - (k+1)):=by
   have:szO ((evs R)[i]).r.ins.op - k=(szO ((evs R)[i]).r.ins.op - (k+1))+1:=by omega
   rw [this,List.range'_succ]
  have hla:=latest_ok w gv hE hq hi (had _ (List.getElem_mem hi)) (k:=k) (by omega)
  have ih:=Judge_l0 i hi (k+1) (by omega)
  rw [hd,List.any_cons]
  rw [← hB] at ih
  rw [← hB,s_loop_at hB]
  clear hd hq gv w had
  generalize (gmOf (evs R) co).lat h i k=la at *
  generalize (evs R)[i]=e at *
  generalize (evs R).length=n at *
  cases ql:lod e.r.ins.op with
  | false=>
   rw [Bool.false_and,Bool.false_or]
   simp only [ql] at ih
   rw [← ih]
   clear ih
   simp [ir_gmo_Judgel0,go_sem,c,cI,e3,ql,-Int.natCast_add]
  | true=>
   simp only [ql] at ih
   cases la with
   | false=>
    rw [Bool.true_and,Bool.not_false,Bool.true_or,if_pos rfl]
    clear ih
    simp [ir_gmo_Judgel0,go_sem,c,cI,ql,hbx,hbl,hbe,hla,-Int.natCast_add]
   | true=>
    rw [Bool.true_and,Bool.not_true,Bool.false_or,← ih]
    clear ih
    simp [ir_gmo_Judgel0,go_sem,c,cI,e3,ql,hbx,hbl,hbe,hla,-Int.natCast_add]
 ·obtain rfl:k=szO ((evs R)[i]).r.ins.op:=by omega
  rw [← hB,s_loop_at hB,Nat.sub_self]
  generalize (evs R)[i]=e at *
  simp [ir_gmo_Judgel0,go_sem]
termination_by szO ((evs R)[i]).r.ins.op - k
def latE (g:Gm) (h:Nat→Int) (i:Nat):Bool:=(List.range' 0 (g.sz i)).any fun k=>g.ld i && !g.lat h i k
theorem Judge_l1 (i:Nat) (hi:i≤(evs R).length):
  evCI pg (.loop ir_gmo_Judgel1) ⟨[.undef,.undef,.undef,.undef,.ptr p 0 0,.undef,.ptr bq 0 0,.undef,.undef,.undef,.undef,.undef,.undef,.undef,.undef,.undef,.undef,.undef,u,.int .i64 ((evs R).length:Int),.int .i64 (i:Int),.undef,.undef,.undef,.undef,.undef,.undef,.undef,.undef,.undef,.undef,.undef,.undef,.undef],⟨[[],[],[]],[],H⟩⟩ =
   some (if (List.range' i ((evs R).length - i)).any (latE (gmOf (evs R) co) h)=true then (.ret,⟨[.undef,.undef,.undef,.int .i64 12,.undef,.undef,.undef,.undef,.undef,.undef,.undef,.undef,.undef,.undef,.undef,.undef,.undef,.undef,.undef,.undef,.undef,.undef,.undef,.undef,.undef,.undef,.undef,.undef,.undef,.undef,.undef,.undef,.undef,.undef],⟨[[],[],[]],[],H⟩⟩)
    else (.exit 1,⟨[.undef,.undef,.undef,.undef,.ptr p 0 0,.undef,.ptr bq 0 0,.undef,.undef,.undef,.undef,.undef,.undef,.undef,.undef,.undef,.undef,.undef,u,.int .i64 ((evs R).length:Int),.int .i64 ((evs R).length:Int),.bool false,.undef,.undef,.undef,.undef,.undef,.undef,.undef,.undef,.undef,.undef,.undef,.undef],⟨[[],[],[]],[],H⟩⟩)):=by
 obtain ⟨B,hB⟩:∃ B,B=Vm.C.loop ir_gmo_Judgel1:=⟨_,rfl⟩
 have iu:=w.ev.is
 have huf:=w.ev.fpR
 by_cases c:i<(evs R).length
 ·have e3:=succ_i64 c (by omega)
  have cI:(i:Int)<((evs R).length:Int):=by omega
  have e1:=fun m=>w.ev.ia (sz:=33) m .i64 (i:=i) (by rw [evR_len]; exact c) (evR_sz _ _ (List.getElem_mem _))
  simp only [evR_el] at e1
  have hfl:=eq_true (evC_flat (evs R)[i])
  have hl0:=Judge_l0 w gv hE hq hbx had i c 0 (Nat.zero_le _)
  rw [Nat.sub_zero,Int.natCast_zero] at hl0
  have hdef:latE (gmOf (evs R) co) h i=(List.range' 0 (szO ((evs R)[i]).r.ins.op)).any (fun k=>lod ((evs R)[i]).r.ins.op && !(gmOf (evs R) co).lat h i k):=by
   have h1:(gmOf (evs R) co).sz i=szO ((evs R)[i]).r.ins.op:=by
    show ofE _ _ _ i=_
    rw [ofE_el c]
   have h2:(gmOf (evs R) co).ld i=lod ((evs R)[i]).r.ins.op:=by
    show ofE _ _ _ i=_
    rw [ofE_el c]
   unfold latE
   rw [h1,h2]
  rw [← hdef] at hl0
  have hd:List.range' i ((evs R).length - i)=i :: List.range' (i+1) ((evs R).length - (i+1)):=by
   have:(evs R).length - i=((evs R).length - (i+1))+1:=by omega
   rw [this,List.range'_succ]
  have ih:=Judge_l1 (i+1) (by omega)
  rw [hd,List.any_cons]
  rw [← hB] at ih
  rw [← hB,s_loop_at hB]
  clear hd hq hbx gv w had hdef
  generalize (evs R)[i]=e at *
  cases ql:latE (gmOf (evs R) co) h i with
  | true=>
   rw [ql,if_pos rfl] at hl0
   rw [Bool.true_or,if_pos rfl]
   clear ih
   generalize (evs R).length=n at *
   simp [ir_gmo_Judgel1,go_sem,c,cI,iu,huf,e1,hfl,hl0,evStore,splice,-Int.natCast_add]
  | false=>
   rw [ql,if_neg (by simp)] at hl0
   rw [Bool.false_or,← ih]
   clear ih
   generalize (evs R).length=n at *
   simp [ir_gmo_Judgel1,go_sem,c,cI,iu,huf,e1,e3,hfl,hl0,evStore,splice,-Int.natCast_add]
 ·obtain rfl:i=(evs R).length:=by omega
  rw [← hB,s_loop_at hB,Nat.sub_self]
  simp [ir_gmo_Judgel1,go_sem]
termination_by (evs R).length - i
variable (hpr:∀ (i:Nat) (hi:i<(evs R).length),∀ r,(gmOf (evs R) co).pr i=some r→r<(evs R).length∧∀ k,k<szO ((evs R)[i]).r.ins.op→∀ x,(gmOf (evs R) co).tgt r k=some x→x<(evs R).length)
include hpr
theorem Judge_l2 (i:Nat) (hi:i<(evs R).length) (k:Nat) (hk:k≤szO ((evs R)[i]).r.ins.op):
  evCI pg (.loop ir_gmo_Judgel2) ⟨[.undef,.undef,.undef,.undef,.ptr p 0 0,.undef,.ptr bq 0 0,.undef,.undef,.undef,.undef,.int .i64 (i:Int),.undef,.undef,.undef,.undef,.undef,.undef,.undef,.undef,.undef,.undef,.undef,.undef,.undef,.undef,u,.int .i64 ((evs R).length:Int),.int .i64 (i:Int),.undef,.int .i64 (szO ((evs R)[i]).r.ins.op:Nat),.int .i64 (k:Int),.undef,.undef],⟨[[],[],[]],[],H⟩⟩ =
   some (if (List.range' k (szO ((evs R)[i]).r.ins.op - k)).any (fun k=>!(gmOf (evs R) co).atm (fun _ s=>h s) i k)=true then (.ret,⟨[.undef,.undef,.undef,.int .i64 13,.undef,.undef,.undef,.undef,.undef,.undef,.undef,.undef,.undef,.undef,.undef,.undef,.undef,.undef,.undef,.undef,.undef,.undef,.undef,.undef,.undef,.undef,.undef,.undef,.undef,.undef,.undef,.undef,.undef,.undef],⟨[[],[],[]],[],H⟩⟩)
    else (.exit 7,⟨[.undef,.undef,.undef,.undef,.ptr p 0 0,.undef,.ptr bq 0 0,.undef,.undef,.undef,.undef,.int .i64 (i:Int),.undef,.undef,.undef,.undef,.undef,.undef,.undef,.undef,.undef,.undef,.undef,.undef,.undef,.undef,u,.int .i64 ((evs R).length:Int),.int .i64 (i:Int),.undef,.int .i64 (szO ((evs R)[i]).r.ins.op:Nat),.int .i64 (szO ((evs R)[i]).r.ins.op:Nat),.bool false,.undef],⟨[[],[],[]],[],H⟩⟩)):=by
 obtain ⟨B,hB⟩:∃ B,B=Vm.C.loop ir_gmo_Judgel2:=⟨_,rfl⟩
 have h8:=szO_le ((evs R)[i]).r.ins.op
 by_cases c:k<szO ((evs R)[i]).r.ins.op
 ·have e3:=succ_i64 c (by omega)
  have cI:(k:Int)<((szO ((evs R)[i]).r.ins.op:Nat):Int):=by omega
  have hd:List.range' k (szO ((evs R)[i]).r.ins.op - k)=k :: List.range' (k+1) (szO ((evs R)[i]).r.ins.op - (k+1)):=by
   have:szO ((evs R)[i]).r.ins.op - k=(szO ((evs R)[i]).r.ins.op - (k+1))+1:=by omega
   rw [this,List.range'_succ]
  have hat:=atomic_ok w gv hE (F:=n_gmo_Judge_1) (cc:=.ptr bq 0 0) rfl hi (had _ (List.getElem_mem hi)) (k:=k) (by omega) (pl:=fun _ s=>h s) (fun s hs=>judge1_ok hq hbx _ s hs) (fun r hr=>⟨(hpr i hi r hr).1,fun x hx=>(hpr i hi r hr).2 k c x hx⟩)
  simp only [n_gmo_Judge_1] at hat
  have ih:=Judge_l2 i hi (k+1) (by omega)
  rw [hd,List.any_cons]
  rw [← hB] at ih
  rw [← hB,s_loop_at hB]
  clear hd hq hbx gv w had hpr
  generalize (gmOf (evs R) co).atm (fun _ s=>h s) i k=la at *
  generalize (evs R)[i]=e at *
  generalize (evs R).length=n at *
  cases la with
  | false=>
   rw [Bool.not_false,Bool.true_or,if_pos rfl]
   clear ih
   simp [ir_gmo_Judgel2,go_sem,c,cI,hat,-Int.natCast_add]
  | true=>
   rw [Bool.not_true,Bool.false_or,← ih]
   clear ih
   simp [ir_gmo_Judgel2,go_sem,c,cI,e3,hat,-Int.natCast_add]
 ·obtain rfl:k=szO ((evs R)[i]).r.ins.op:=by omega
  rw [← hB,s_loop_at hB,Nat.sub_self]
  generalize (evs R)[i]=e at *
  simp [ir_gmo_Judgel2,go_sem]
termination_by szO ((evs R)[i]).r.ins.op - k
omit w gv hE hq hbx had hpr in
def atmE (g:Gm) (pl:Nat→Nat→Int) (i:Nat):Bool:=(List.range' 0 (g.sz i)).any fun k=>!g.atm pl i k
theorem Judge_l3 (i:Nat) (hi:i≤(evs R).length):
  evCI pg (.loop ir_gmo_Judgel3) ⟨[.undef,.undef,.undef,.undef,.ptr p 0 0,.undef,.ptr bq 0 0,.undef,.undef,.undef,.undef,.undef,.undef,.undef,.undef,.undef,.undef,.undef,.undef,.undef,.undef,.undef,.undef,.undef,.undef,.undef,u,.int .i64 ((evs R).length:Int),.int .i64 (i:Int),.undef,.undef,.undef,.undef,.undef],⟨[[],[],[]],[],H⟩⟩ =
   some (if (List.range' i ((evs R).length - i)).any (atmE (gmOf (evs R) co) (fun _ s=>h s))=true then (.ret,⟨[.undef,.undef,.undef,.int .i64 13,.undef,.undef,.undef,.undef,.undef,.undef,.undef,.undef,.undef,.undef,.undef,.undef,.undef,.undef,.undef,.undef,.undef,.undef,.undef,.undef,.undef,.undef,.undef,.undef,.undef,.undef,.undef,.undef,.undef,.undef],⟨[[],[],[]],[],H⟩⟩)
    else (.exit 5,⟨[.undef,.undef,.undef,.undef,.ptr p 0 0,.undef,.ptr bq 0 0,.undef,.undef,.undef,.undef,.undef,.undef,.undef,.undef,.undef,.undef,.undef,.undef,.undef,.undef,.undef,.undef,.undef,.undef,.undef,u,.int .i64 ((evs R).length:Int),.int .i64 ((evs R).length:Int),.bool false,.undef,.undef,.undef,.undef],⟨[[],[],[]],[],H⟩⟩)):=by
 obtain ⟨B,hB⟩:∃ B,B=Vm.C.loop ir_gmo_Judgel3:=⟨_,rfl⟩
 have iu:=w.ev.is
 have huf:=w.ev.fpR
 by_cases c:i<(evs R).length
 ·have e3:=succ_i64 c (by omega)
  have cI:(i:Int)<((evs R).length:Int):=by omega
  have e1:=fun m=>w.ev.ia (sz:=33) m .i64 (i:=i) (by rw [evR_len]; exact c) (evR_sz _ _ (List.getElem_mem _))
  simp only [evR_el] at e1
  have hfl:=eq_true (evC_flat (evs R)[i])
  have hl0:=Judge_l2 w gv hE hq hbx had hpr i c 0 (Nat.zero_le _)
  rw [Nat.sub_zero,Int.natCast_zero] at hl0
  have hdef:atmE (gmOf (evs R) co) (fun _ s=>h s) i=(List.range' 0 (szO ((evs R)[i]).r.ins.op)).any (fun k=>!(gmOf (evs R) co).atm (fun _ s=>h s) i k):=by
   have h1:(gmOf (evs R) co).sz i=szO ((evs R)[i]).r.ins.op:=by
    show ofE _ _ _ i=_
    rw [ofE_el c]
   unfold atmE
   rw [h1]
  rw [← hdef] at hl0
  have hd:List.range' i ((evs R).length - i)=i :: List.range' (i+1) ((evs R).length - (i+1)):=by
   have:(evs R).length - i=((evs R).length - (i+1))+1:=by omega
   rw [this,List.range'_succ]
  have ih:=Judge_l3 (i+1) (by omega)
  rw [hd,List.any_cons]
  rw [← hB] at ih
  rw [← hB,s_loop_at hB]
  clear hd hq hbx gv w had hdef hpr
  generalize (evs R)[i]=e at *
  cases ql:atmE (gmOf (evs R) co) (fun _ s=>h s) i with
  | true=>
   rw [ql,if_pos rfl] at hl0
   rw [Bool.true_or,if_pos rfl]
   clear ih
   generalize (evs R).length=n at *
   simp [ir_gmo_Judgel3,go_sem,c,cI,iu,huf,e1,hfl,hl0,evStore,splice,-Int.natCast_add]
  | false=>
   rw [ql,if_neg (by simp)] at hl0
   rw [Bool.false_or,← ih]
   clear ih
   generalize (evs R).length=n at *
   simp [ir_gmo_Judgel3,go_sem,c,cI,iu,huf,e1,e3,hfl,hl0,evStore,splice,-Int.natCast_add]
 ·obtain rfl:i=(evs R).length:=by omega
  rw [← hB,s_loop_at hB,Nat.sub_self]
  simp [ir_gmo_Judgel3,go_sem]
termination_by (evs R).length - i
end
end Go.Proofs.YtimiademofajeaaGreatDoor
namespace Go.Proofs.YtimiademofajeaaGreatDoor
open Go Go.Vm
def jdg (E:List Ev) (co:List (List Int)) (W:Nat→Nat) (L:List Int):Nat:=match fitA E.length (fun _=>0) 0 L with
 | none=>9
 | some h=>if L.length=E.length then (if fitP E.length W L then (if co.any (bad2 E h) then 11 else if (List.range' 0 E.length).any (latE (gmOf E co) h) then 12 else if (List.range' 0 E.length).any (atmE (gmOf E co) (fun _ s=>h s)) then 13 else 0) else 10) else 9
section
variable {x0:V} {lv:Nat→V} {x4:V} {R:Nat→List Rt} {img:List Nat} {cv:List V} {co:List (List Int)} (w:Lk x0 lv x4 (ils (evR (evs R))) R img cv co)
include w
theorem Judge_no (hne:chk R img cv.length co≠0) (ov:V) (ho:isS ov=true):evI pg .val n_gmo_Judge [.agg [x0,lv 0,lv 1,lv 2,x4],ov] []=some (.int .i64 ((chk R img cv.length co:Nat):Int),[]):=by
 have i0:=w.im.is
 have i4:=w.co4.is
 have j0:=(w.li 0 (by omega)).1.is
 have j1:=(w.li 1 (by omega)).1.is
 have j2:=(w.li 2 (by omega)).1.is
 have hl:=glook_no w rfl hne
 generalize chk R img cv.length co=ch at *
 have hne':¬ (ch:Int)=0:=by omega
 rw [s_fn fn_gmo_Judge]
 simp [ir_gmo_Judge,go_sem,hl,ho,i0,i4,j0,j1,j2,hne,hne']
variable (h0:chk R img cv.length co=0) (hE:(evs R).length≤512) (hnd:∀ x,x<co.length→((gmOf (evs R) co).C x).Nodup) (hin:∀ l∈co,∀ id∈l,at1 (evs R) id<(evs R).length) (had:∀ e∈evs R,0≤adE e.r)
 (hpr:∀ (i:Nat) (hi:i<(evs R).length),∀ r,(gmOf (evs R) co).pr i=some r→r<(evs R).length∧∀ k,k<szO ((evs R)[i]).r.ins.op→∀ x,(gmOf (evs R) co).tgt r k=some x→x<(evs R).length)
include h0 hE hnd hin had hpr
set_option maxHeartbeats 8000000 in
theorem Judge_ok {rv:V} {W:Nat→Nat} (hAll:evI pg .val n_ppo_All [.agg [x0,lv 0,lv 1,lv 2,x4]] []=some (.ip false [rv] 0,[])) (hcl:clean 7 rv=true) (hR:RelV rv (evs R).length W) (ov:V) (L:List Int) (ho:Sl ov (iI L)) (hL:L.length≤1000):
  evI pg .val n_gmo_Judge [.agg [x0,lv 0,lv 1,lv 2,x4],ov] []=some (.int .i64 ((jdg (evs R) co W L:Nat):Int),[]):=by
 have i0:=w.im.is
 have i4:=w.co4.is
 have j0:=(w.li 0 (by omega)).1.is
 have j1:=(w.li 1 (by omega)).1.is
 have j2:=(w.li 2 (by omega)).1.is
 obtain ⟨Hv,l,cs,cm,cl,hlook,gv⟩:=glook_ok w rfl h0 hnd
 have hoi:=ho.is
 have hFits:=Fits_ok false rv (evs R).length W hR ov L ho (by unfold maxLen; omega)
 obtain ⟨h2,hpl⟩:=places2_ok w gv hE ov L ho (by omega)
 unfold jdg
 rw [s_fn fn_gmo_Judge]
 cases hf:fitA (evs R).length (fun _=>0) 0 L with
 | none=>
  rw [hf] at hpl
  simp only at hpl
  clear gv w hFits hAll
  generalize arH Hv (nR (evs R).length h2)=H1 at *
  simp [ir_gmo_Judge,go_sem,hlook,hpl,hoi,i0,i4,j0,j1,j2,arH_mk,arH_at,arH_len,arH_el,arH_set,evStore,splice]
 | some h=>
  rw [hf] at hpl
  simp only at hpl ⊢
  by_cases q1:L.length=(evs R).length
  ·rw [decide_eq_true q1] at hpl
   rw [if_pos q1]
   have hq1:=arH_at Hv (nR (evs R).length h)
   have gv1:GV (arH Hv (nR (evs R).length h)) 1 0 l cs cm cl x0 lv x4 (ils (evR (evs R))) (evs R) co:=gv.frame fun q hq=>arH_old _ hq
   have hv1:Hv.length<(arH Hv (nR (evs R).length h)).length:=by rw [arH_len]; omega
   generalize arH Hv (nR (evs R).length h)=H1 at *
   have hq2:(arH H1 [[.rsl Hv.length 0 (evs R).length]])[Hv.length]?=some (.arr (nR (evs R).length h)):=by rw [arH_old _ hv1]; exact hq1
   have hb2:=arH_at H1 [[.rsl Hv.length 0 (evs R).length]]
   have gv2:GV (arH H1 [[.rsl Hv.length 0 (evs R).length]]) 1 0 l cs cm cl x0 lv x4 (ils (evR (evs R))) (evs R) co:=gv1.frame fun q hq=>arH_old _ hq
   have hord:=ordered_ok w gv2 hin hq2
   have hl1:=Judge_l1 w gv2 hE hq2 hb2 had 0 (Nat.zero_le _)
   have hl3:=Judge_l3 w gv2 hE hq2 hb2 had hpr 0 (Nat.zero_le _)
   rw [Nat.sub_zero,Int.natCast_zero] at hl1 hl3
   have hob:=gv2.ob
   simp only [gC] at hob
   have hpl2:=get_lt hob
   have hoe:=get_el hob
   have iu:=w.ev.is
   have hur:(rows (ils (evR (evs R)))).length=(evs R).length:=by rw [w.ev.rows,evR_len]
   clear gv gv1 gv2 hq1 hq2 w hin had hpr hnd hv1
   generalize ils (evR (evs R))=u at *
   generalize Hv.length=q at *
   cases q2:fitP (evs R).length W L with
   | false=>
    rw [q2] at hFits
    rw [if_neg (by simp)]
    clear hord hl1 hl3 hur
    generalize (evs R).length=n at *
    simp [ir_gmo_Judge,go_sem,hlook,hpl,hoi,i0,i4,j0,j1,j2,hAll,hcl,hFits,arH_mk,arH_at,arH_len,arH_el,arH_set,evStore,splice]
   | true=>
    rw [q2] at hFits
    rw [if_pos rfl]
    cases q3:co.any (bad2 (evs R) h) with
    | true=>
     rw [q3,Bool.not_true] at hord
     rw [if_pos rfl]
     clear hl1 hl3 hur
     generalize (evs R).length=n at *
     simp [ir_gmo_Judge,go_sem,hlook,hpl,hoi,i0,i4,j0,j1,j2,hAll,hcl,hFits,hord,arH_mk,arH_at,arH_len,arH_el,arH_set,evStore,splice]
    | false=>
     rw [q3,Bool.not_false] at hord
     rw [if_neg (by simp)]
     cases q4:(List.range' 0 (evs R).length).any (latE (gmOf (evs R) co) h) with
     | true=>
      rw [q4,if_pos rfl] at hl1
      rw [if_pos rfl]
      clear hl3 q4
      generalize (evs R).length=n at *
      simp [ir_gmo_Judge,go_sem,hlook,hpl,hoi,i0,i4,j0,j1,j2,hAll,hcl,hFits,hord,hl1,iu,hur,hob,hpl2,hoe,arH_mk,arH_at,arH_len,arH_el,arH_set,evStore,splice]
     | false=>
      rw [q4,if_neg (by simp)] at hl1
      rw [if_neg (by simp)]
      cases q5:(List.range' 0 (evs R).length).any (atmE (gmOf (evs R) co) (fun _ s=>h s)) with
      | true=>
       rw [q5,if_pos rfl] at hl3
       rw [if_pos rfl]
       clear q4 q5
       generalize (evs R).length=n at *
       simp [ir_gmo_Judge,go_sem,hlook,hpl,hoi,i0,i4,j0,j1,j2,hAll,hcl,hFits,hord,hl1,hl3,iu,hur,hob,hpl2,hoe,arH_mk,arH_at,arH_len,arH_el,arH_set,evStore,splice]
      | false=>
       rw [q5,if_neg (by simp)] at hl3
       rw [if_neg (by simp)]
       clear q4 q5
       generalize (evs R).length=n at *
       simp [ir_gmo_Judge,go_sem,hlook,hpl,hoi,i0,i4,j0,j1,j2,hAll,hcl,hFits,hord,hl1,hl3,iu,hur,hob,hpl2,hoe,arH_mk,arH_at,arH_len,arH_el,arH_set,evStore,splice]
  ·rw [decide_eq_false q1] at hpl
   rw [if_neg q1]
   clear gv w hFits hAll
   generalize arH Hv (nR (evs R).length h)=H1 at *
   generalize Hv.length=q at *
   simp [ir_gmo_Judge,go_sem,hlook,hpl,hoi,i0,i4,j0,j1,j2,arH_mk,arH_at,arH_len,arH_el,arH_set,evStore,splice]
end
end Go.Proofs.YtimiademofajeaaGreatDoor
