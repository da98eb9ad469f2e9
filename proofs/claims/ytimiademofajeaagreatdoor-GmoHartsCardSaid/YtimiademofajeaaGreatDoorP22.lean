/- Lemmas (no claim): K23l, K23s. -/
import Derived.Test.YtimiademofajeaaGreatDoorP21
set_option linter.unusedSimpArgs false
set_option linter.unusedVariables false
set_option maxRecDepth 20000
namespace Go.Proofs.YtimiademofajeaaGreatDoor
open Go Go.Vm
theorem r_succ {k n:Nat} (h:k<n):List.range' k (n - k)=k :: List.range' (k+1) (n - (k+1)):=by
 rw [show n - k=(n - (k+1))+1 by omega,List.range'_succ]
section
variable {x0:V} {lv:Nat→V} {x4 u:V} {R:Nat→List Rt} {img:List Nat} {cv:List V} {co:List (List Int)} (w:Lk x0 lv x4 u R img cv co)
 {H:List Vm.Obj} {p mid:Nat} {l:List (Int × V)} {cs:V} {cm:Nat→Nat} {cl:Nat→List (Int × V)} (gv:GV H p mid l cs cm cl x0 lv x4 u (evs R) co) (wf:Wf R co) (hE:(evs R).length≤512)
 {bq:Nat} (hbx:H[bq]?=some (.arr [[.ptr p 0 0]]))
include gv hbx
theorem may1_ok {x:Nat} (hx:x<co.length) (s:Nat):evI pg .heap n_gmo_view_may_1 [.int .i64 (x:Int),.int .i64 (s:Int),.ptr bq 0 0] H=some (.int .i64 ((gmOf (evs R) co).cop x s),H):=by
 obtain ⟨cid,hcs,hcr⟩:=gv.css hx
 have hplc:=gv.plc hx s
 have hob:=gv.ob
 simp only [gC,hcs] at hob
 have hpl:=get_lt hob
 have hoe:=get_el hob
 have hql:=get_lt hcr
 have hqe:=get_el hcr
 have hbl:=get_lt hbx
 have hbe:=get_el hbx
 have hgl:=mrw_len cm co.length
 have g1:=mrw_get cm hx
 have gl1:x<(mrw cm co.length).length:=by omega
 have ge1:=mrw_el cm gl1
 have hd:(gmOf (evs R) co).cop x s=((cpl ((gmOf (evs R) co).C x) s:Nat):Int):=rfl
 rw [hd,s_fn fn_gmo_view_may_1]
 clear gv hd
 generalize cpl ((gmOf (evs R) co).C x) s=r at *
 generalize mrw cm co.length=ar at *
 simp [ir_gmo_view_may_1,go_sem,hob,hpl,hoe,hcr,hql,hqe,hbx,hbl,hbe,hgl,hx,g1,gl1,ge1,asIx_nat,hplc]
include w wf hE
set_option maxHeartbeats 4000000 in
theorem may_l0 (i:Nat) (hi:i<(evs R).length) (k:Nat) (hk:k≤szO ((evs R)[i]).r.ins.op) (c0:Nat):
  evCI pg (.loop ir_gmo_view_mayl0) ⟨[.undef,.ptr bq 0 0,.undef,.int .i64 (c0:Int),.int .i64 (i:Int),.lp 0 0,.undef,u,.int .i64 ((evs R).length:Int),.int .i64 (i:Int),.undef,.int .i64 (szO ((evs R)[i]).r.ins.op:Nat),.int .i64 (k:Int),.undef,.undef,.undef],⟨[evC (evs R)[i]],[],H⟩⟩ =
   some (if (List.range' k (szO ((evs R)[i]).r.ins.op - k)).any (fun k=>lod ((evs R)[i]).r.ins.op && (gmOf (evs R) co).stl i k)=true then (.exit 0,⟨[.undef,.undef,.undef,.int .i64 12,.undef,.undef,.undef,.undef,.undef,.undef,.undef,.undef,.undef,.undef,.undef,.undef],⟨[[]],[],H⟩⟩)
    else (.exit 2,⟨[.undef,.ptr bq 0 0,.undef,.int .i64 (((if (List.range' k (szO ((evs R)[i]).r.ins.op - k)).any (fun k=>!(gmOf (evs R) co).atm (gmOf (evs R) co).cop i k)=true then 13 else c0:Nat):Nat):Int),.int .i64 (i:Int),.lp 0 0,.undef,u,.int .i64 ((evs R).length:Int),.int .i64 (i:Int),.undef,.int .i64 (szO ((evs R)[i]).r.ins.op:Nat),.int .i64 (szO ((evs R)[i]).r.ins.op:Nat),.bool false,.undef,.undef],⟨[evC (evs R)[i]],[],H⟩⟩)):=by
 obtain ⟨B,hB⟩:∃ B,B=Vm.C.loop ir_gmo_view_mayl0:=⟨_,rfl⟩
 have h8:=szO_le ((evs R)[i]).r.ins.op
 have hbl:=get_lt hbx
 have hbe:=get_el hbx
 by_cases c:k<szO ((evs R)[i]).r.ins.op
 ·have e3:=succ_i64 c (by omega)
  have cI:(k:Int)<((szO ((evs R)[i]).r.ins.op:Nat):Int):=by omega
  have hd:=r_succ c
  have hst:=stale_ok w gv wf hi c
  have hx:(gmOf (evs R) co).ad i+k<co.length:=wf.gm.inb i hi k (by rw [gm_sz hi]; exact c)
  have hat:=atomic_ok w gv hE (F:=n_gmo_view_may_1) (cc:=.ptr bq 0 0) rfl hi (wf.ad _ (List.getElem_mem hi)) (k:=k) (by omega) (pl:=(gmOf (evs R) co).cop) (fun s hs=>may1_ok gv hbx hx s) (fun r hr=>⟨(wf.prs hi hr).1,fun x hx=>(wf.prs hi hr).2 k c x hx⟩)
  simp only [n_gmo_view_may_1] at hat
  have ih:=fun c0=>may_l0 i hi (k+1) (by omega) c0
  rw [hd,List.any_cons,List.any_cons]
  rw [← hB] at ih
  rw [← hB,s_loop_at hB]
  clear hd gv w wf hx
  generalize (gmOf (evs R) co).atm (gmOf (evs R) co).cop i k=la at *
  generalize (gmOf (evs R) co).stl i k=st at *
  generalize (evs R)[i]=e at *
  generalize (evs R).length=n at *
  cases ql:lod e.r.ins.op with
  | false=>
   rw [Bool.false_and,Bool.false_or]
   simp only [ql] at ih
   cases la with
   | false=>
    have ih2:=ih 13
    rw [ite_self] at ih2
    rw [Bool.not_false,Bool.true_or,if_pos rfl,← ih2]
    clear ih ih2
    simp [ir_gmo_view_mayl0,go_sem,c,cI,e3,ql,hbx,hbl,hbe,hat,-Int.natCast_add]
   | true=>
    have ih2:=ih c0
    rw [Bool.not_true,Bool.false_or,← ih2]
    clear ih ih2
    simp [ir_gmo_view_mayl0,go_sem,c,cI,e3,ql,hbx,hbl,hbe,hat,-Int.natCast_add]
  | true=>
   simp only [ql] at ih
   cases st with
   | true=>
    rw [Bool.true_and,Bool.true_or,if_pos rfl]
    clear ih
    simp [ir_gmo_view_mayl0,go_sem,c,cI,ql,hbx,hbl,hbe,hst,-Int.natCast_add]
   | false=>
    rw [Bool.true_and,Bool.false_or]
    cases la with
    | false=>
     have ih2:=ih 13
     rw [ite_self] at ih2
     rw [Bool.not_false,Bool.true_or,if_pos rfl,← ih2]
     clear ih ih2
     simp [ir_gmo_view_mayl0,go_sem,c,cI,e3,ql,hbx,hbl,hbe,hst,hat,-Int.natCast_add]
    | true=>
     have ih2:=ih c0
     rw [Bool.not_true,Bool.false_or,← ih2]
     clear ih ih2
     simp [ir_gmo_view_mayl0,go_sem,c,cI,e3,ql,hbx,hbl,hbe,hst,hat,-Int.natCast_add]
 ·obtain rfl:k=szO ((evs R)[i]).r.ins.op:=by omega
  rw [← hB,s_loop_at hB,Nat.sub_self]
  generalize (evs R)[i]=e at *
  simp [ir_gmo_view_mayl0,go_sem]
termination_by szO ((evs R)[i]).r.ins.op - k
theorem may_l1 (i:Nat) (hi:i≤(evs R).length) (c0:Nat):
  evCI pg (.loop ir_gmo_view_mayl1) ⟨[.undef,.ptr bq 0 0,.undef,.int .i64 (c0:Int),.undef,.undef,.undef,u,.int .i64 ((evs R).length:Int),.int .i64 (i:Int),.undef,.undef,.undef,.undef,.undef,.undef],⟨[[]],[],H⟩⟩ =
   some (if (List.range' i ((evs R).length - i)).any (stlE (gmOf (evs R) co))=true then (.exit 0,⟨[.undef,.undef,.undef,.int .i64 12,.undef,.undef,.undef,.undef,.undef,.undef,.undef,.undef,.undef,.undef,.undef,.undef],⟨[[]],[],H⟩⟩)
    else (.exit 0,⟨[.undef,.ptr bq 0 0,.undef,.int .i64 (((if (List.range' i ((evs R).length - i)).any (atmE (gmOf (evs R) co) (gmOf (evs R) co).cop)=true then 13 else c0:Nat):Nat):Int),.undef,.undef,.undef,u,.int .i64 ((evs R).length:Int),.int .i64 ((evs R).length:Int),.bool false,.undef,.undef,.undef,.undef,.undef],⟨[[]],[],H⟩⟩)):=by
 obtain ⟨B,hB⟩:∃ B,B=Vm.C.loop ir_gmo_view_mayl1:=⟨_,rfl⟩
 have iu:=w.ev.is
 have huf:=w.ev.fpR
 by_cases c:i<(evs R).length
 ·have e3:=succ_i64 c (by omega)
  have cI:(i:Int)<((evs R).length:Int):=by omega
  have e1:=fun m=>w.ev.ia (sz:=33) m .i64 (i:=i) (by rw [evR_len]; exact c) (evR_sz _ _ (List.getElem_mem _))
  simp only [evR_el] at e1
  have hfl:=eq_true (evC_flat (evs R)[i])
  have hl0:=may_l0 w gv wf hE hbx i c 0 (Nat.zero_le _) c0
  rw [Nat.sub_zero,Int.natCast_zero] at hl0
  have hdef:stlE (gmOf (evs R) co) i=(List.range' 0 (szO ((evs R)[i]).r.ins.op)).any (fun k=>lod ((evs R)[i]).r.ins.op && (gmOf (evs R) co).stl i k):=by
   unfold stlE
   rw [gm_sz c,gm_ld c]
  have hdef2:atmE (gmOf (evs R) co) (gmOf (evs R) co).cop i=(List.range' 0 (szO ((evs R)[i]).r.ins.op)).any (fun k=>!(gmOf (evs R) co).atm (gmOf (evs R) co).cop i k):=by
   unfold atmE
   rw [gm_sz c]
  rw [← hdef,← hdef2] at hl0
  have ih:=fun c0=>may_l1 (i+1) (by omega) c0
  rw [r_succ c,List.any_cons,List.any_cons]
  rw [← hB] at ih
  rw [← hB,s_loop_at hB]
  clear gv w wf hdef hdef2
  generalize (evs R)[i]=e at *
  cases ql:stlE (gmOf (evs R) co) i with
  | true=>
   rw [ql,if_pos rfl] at hl0
   rw [Bool.true_or,if_pos rfl]
   clear ih
   generalize (evs R).length=n at *
   simp [ir_gmo_view_mayl1,go_sem,c,cI,iu,huf,e1,hfl,hl0,evStore,splice,-Int.natCast_add]
  | false=>
   rw [ql,if_neg (by simp)] at hl0
   rw [Bool.false_or]
   cases qa:atmE (gmOf (evs R) co) (gmOf (evs R) co).cop i with
   | true=>
    rw [qa,if_pos rfl] at hl0
    have ih2:=ih 13
    rw [ite_self] at ih2
    rw [Bool.true_or,if_pos rfl,← ih2]
    clear ih ih2
    generalize (evs R).length=n at *
    simp [ir_gmo_view_mayl1,go_sem,c,cI,iu,huf,e1,e3,hfl,hl0,evStore,splice,-Int.natCast_add]
   | false=>
    rw [qa,if_neg (by simp)] at hl0
    have ih2:=ih c0
    rw [Bool.false_or,← ih2]
    clear ih ih2
    generalize (evs R).length=n at *
    simp [ir_gmo_view_mayl1,go_sem,c,cI,iu,huf,e1,e3,hfl,hl0,evStore,splice,-Int.natCast_add]
 ·obtain rfl:i=(evs R).length:=by omega
  rw [← hB,s_loop_at hB,Nat.sub_self]
  simp [ir_gmo_view_mayl1,go_sem]
termination_by (evs R).length - i
omit hbx in
theorem may_ok:evI pg .heap n_gmo_view_may [.ptr p 0 0] H=some (.int .i64 ((mayc (gmOf (evs R) co):Nat):Int),arH H [[.ptr p 0 0]]):=by
 have hb2:=arH_at H [[.ptr p 0 0]]
 have gv2:GV (arH H [[.ptr p 0 0]]) p mid l cs cm cl x0 lv x4 u (evs R) co:=gv.frame fun q hq=>arH_old _ hq
 have hl1:=may_l1 w gv2 wf hE hb2 0 (Nat.zero_le _) 0
 rw [Nat.sub_zero,Int.natCast_zero] at hl1
 have hob:=gv2.ob
 simp only [gC] at hob
 have hpl2:=get_lt hob
 have hoe:=get_el hob
 have iu:=w.ev.is
 have hur:(rows u).length=(evs R).length:=by rw [w.ev.rows,evR_len]
 have hgn:(gmOf (evs R) co).n=(evs R).length:=rfl
 unfold mayc
 rw [hgn,s_fn fn_gmo_view_may]
 clear gv gv2 w wf hgn
 generalize (evs R).length=n at *
 cases q4:(List.range' 0 n).any (stlE (gmOf (evs R) co)) with
 | true=>
  rw [q4,if_pos rfl] at hl1
  rw [if_pos rfl]
  clear q4
  simp [ir_gmo_view_may,go_sem,hl1,iu,hur,hob,hpl2,hoe,arH_mk,arH_at,arH_len,arH_el,arH_set,evStore,splice]
 | false=>
  rw [q4,if_neg (by simp)] at hl1
  rw [if_neg (by simp)]
  clear q4
  cases q5:(List.range' 0 n).any (atmE (gmOf (evs R) co) (gmOf (evs R) co).cop) with
  | true=>
   rw [q5,if_pos rfl] at hl1
   rw [if_pos rfl]
   simp [ir_gmo_view_may,go_sem,hl1,iu,hur,hob,hpl2,hoe,arH_mk,arH_at,arH_len,arH_el,arH_set,evStore,splice]
  | false=>
   rw [q5,if_neg (by simp)] at hl1
   rw [if_neg (by simp)]
   simp [ir_gmo_view_may,go_sem,hl1,iu,hur,hob,hpl2,hoe,arH_mk,arH_at,arH_len,arH_el,arH_set,evStore,splice]
end
structure Mst (Hv H:List Vm.Obj) (pr:Nat) (v:V) (n T:Nat) (I:Nat→Nat) (P:Nat→Nat→Prop):Prop where
 rel:∃ U,RelAt H pr v n T I U∧∀ c d,c<n→d<n→((U c).testBit d=true↔P c d)
 fr:∀ q,q<Hv.length→H[q]?=Hv[q]?
 ge:∀ q,rft pr n T I q→Hv.length≤q
theorem Mst.congr {Hv H:List Vm.Obj} {pr:Nat} {v:V} {n T:Nat} {I:Nat→Nat} {P Q:Nat→Nat→Prop} (m:Mst Hv H pr v n T I P) (h:∀ c d,c<n→d<n→(P c d↔Q c d)):Mst Hv H pr v n T I Q:=by
 obtain ⟨⟨U,r,hp⟩,fr,ge⟩:=m
 exact ⟨⟨U,r,fun c d hc hd=>(hp c d hc hd).trans (h c d hc hd)⟩,fr,ge⟩
theorem Mst.add {Hv H:List Vm.Obj} {pr:Nat} {v:V} {n T:Nat} {I:Nat→Nat} {P:Nat→Nat→Prop} (m:Mst Hv H pr v n T I P) {a b:Nat} (ha:a<n) (hb:b<n):
  ∃ H',evI pg .heap n_rel_Rel_Add [.ptr pr 0 0,.int .i64 (a:Int),.int .i64 (b:Int)] H=some (.bool true,H')∧Mst Hv H' pr v n T I (fun c d=>P c d∨(c=a∧d=b)):=by
 obtain ⟨⟨U,r,hp⟩,fr,ge⟩:=m
 refine ⟨_,Add_ok r a b ha hb,⟨_,r.set ha _ (bit_lt (r.lt a ha) hb),fun c d hc hd=>?_⟩,fun q hq=>?_,ge⟩
 ·have h:=hp c d hc hd
  by_cases e:c=a
  ·subst e
   rw [if_pos rfl,Nat.testBit_or,Nat.testBit_two_pow,Bool.or_eq_true,h,decide_eq_true_eq]
   simp only [true_and]
   rw [eq_comm (a:=b)]
  ·rw [if_neg e,h]
   simp only [e,false_and,or_false]
 ·have:=ge (I a) (.inr (.inr ⟨a,ha,rfl⟩))
  rw [List.getElem?_set_ne (by omega)]
  exact fr q hq
def Rd (g:Gm) (i k c d:Nat):Prop:=(g.tgt i k=some c∧g.ah c i=false∧d=i)∨(c=i∧d≠i∧d∈(g.C (g.ad i+k)).drop (g.frm i k))
section
variable {x0:V} {lv:Nat→V} {x4 u:V} {R:Nat→List Rt} {img:List Nat} {cv:List V} {co:List (List Int)} (w:Lk x0 lv x4 u R img cv co)
 {Hv:List Vm.Obj} {p mid:Nat} {l:List (Int × V)} {cs:V} {cm:Nat→Nat} {cl:Nat→List (Int × V)} (gv:GV Hv p mid l cs cm cl x0 lv x4 u (evs R) co) (wf:Wf R co)
 {pr:Nat} {v:V} {T:Nat} {I:Nat→Nat}
include w gv wf
omit w wf in
theorem read_l0 {i:Nat} (hi:i<(evs R).length) (uv:V) (y:List Int) (hu:Sl uv (iI y)) (hy:y.length≤100000) (hin:∀ id∈y,at1 (evs R) id<(evs R).length) (j:Nat) (hj:j≤y.length) (H:List Vm.Obj) (P:Nat→Nat→Prop) (ms:Mst Hv H pr v (evs R).length T I P):
  ∃ H',evCI pg (.loop ir_gmo_view_readl0) ⟨[.ptr p 0 0,.ptr pr 0 0,.int .i64 (i:Int),.undef,.undef,.undef,.undef,.undef,.undef,.undef,.undef,.undef,uv,.int .i64 (y.length:Int),.int .i64 (j:Int),.undef,.undef],⟨[],[],H⟩⟩ =
   some (.exit 0,⟨[.ptr p 0 0,.ptr pr 0 0,.int .i64 (i:Int),.undef,.undef,.undef,.undef,.undef,.undef,.undef,.undef,.undef,uv,.int .i64 (y.length:Int),.int .i64 (y.length:Int),.bool false,.undef],⟨[],[],H'⟩⟩) ∧
   Mst Hv H' pr v (evs R).length T I (fun c d=>P c d∨(c=i∧d≠i∧d∈(y.drop j).map (at1 (evs R)))):=by
 obtain ⟨B,hB⟩:∃ B,B=Vm.C.loop ir_gmo_view_readl0:=⟨_,rfl⟩
 have hui:=hu.is
 have huf:=hu.fpR
 by_cases c:j<y.length
 ·have e3:=succ_i64 c (by omega)
  have cI:(j:Int)<(y.length:Int):=by omega
  have gv':=gv.frame ms.fr
  have hob:=gv'.ob
  simp only [gC] at hob
  have hpl:=get_lt hob
  have hoe:=get_el hob
  have e1:=fun m=>hu.ia (sz:=1) m .i64 (i:=j) (by rw [iI_len]; exact c) (by simp [iI])
  simp only [iI_el] at e1
  have hlk:=fun vs tk=>gv'.look vs tk y[j]
  have hd:y.drop j=y[j] :: y.drop (j+1):=List.drop_eq_getElem_cons c
  have hs:=hin y[j] (List.getElem_mem _)
  by_cases d:at1 (evs R) y[j]=i
  ·have dI:(at1 (evs R) y[j]:Int)=(i:Int):=by omega
   obtain ⟨H',g1,g2⟩:=read_l0 hi uv y hu hy hin (j+1) (by omega) H P ms
   refine ⟨H',?_,g2.congr fun a b ha hb=>?_⟩
   ·rw [← g1,← hB]
    conv=>lhs; rw [s_loop_at hB]
    clear hd hin gv gv' g1 g2 ms
    generalize y[j]=id at *
    generalize at1 (evs R) id=s at *
    simp [ir_gmo_view_readl0,go_sem,c,cI,hui,huf,e1,e3,hob,hpl,hoe,hlk,d,dI,-Int.natCast_add]
   ·rw [hd,List.map_cons,List.mem_cons,d]
    constructor
    ·rintro (q | ⟨q1,q2,q3⟩)
     ·exact .inl q
     ·exact .inr ⟨q1,q2,.inr q3⟩
    ·rintro (q | ⟨q1,q2,q3 | q3⟩)
     ·exact .inl q
     ·exact absurd q3 q2
     ·exact .inr ⟨q1,q2,q3⟩
  ·have dI:¬ (at1 (evs R) y[j]:Int)=(i:Int):=by omega
   obtain ⟨H1,ha1,ms1⟩:=ms.add hi hs
   obtain ⟨H',g1,g2⟩:=read_l0 hi uv y hu hy hin (j+1) (by omega) H1 _ ms1
   refine ⟨H',?_,g2.congr fun a b ha hb=>?_⟩
   ·rw [← g1,← hB]
    conv=>lhs; rw [s_loop_at hB]
    clear hd hin gv gv' g1 g2 ms ms1
    generalize y[j]=id at *
    generalize at1 (evs R) id=s at *
    simp [ir_gmo_view_readl0,go_sem,c,cI,hui,huf,e1,e3,hob,hpl,hoe,hlk,d,dI,ha1,-Int.natCast_add]
   ·rw [hd,List.map_cons,List.mem_cons]
    constructor
    ·rintro ((q | ⟨q1,q2⟩) | ⟨q1,q2,q3⟩)
     ·exact .inl q
     ·exact .inr ⟨q1,by rw [q2]; exact d,.inl q2⟩
     ·exact .inr ⟨q1,q2,.inr q3⟩
    ·rintro (q | ⟨q1,q2,q3 | q3⟩)
     ·exact .inl (.inl q)
     ·exact .inl (.inr ⟨q1,q3⟩)
     ·exact .inr ⟨q1,q2,q3⟩
 ·obtain rfl:j=y.length:=by omega
  refine ⟨H,?_,ms.congr fun a b _ _=>by simp⟩
  rw [← hB,s_loop_at hB]
  simp [ir_gmo_view_readl0,go_sem]
termination_by y.length - j
set_option maxHeartbeats 8000000 in
theorem read_ok {i:Nat} (hi:i<(evs R).length) {k:Nat} (hk:k<szO ((evs R)[i]).r.ins.op) (hld:lod ((evs R)[i]).r.ins.op=true) (H:List Vm.Obj) (P:Nat→Nat→Prop) (ms:Mst Hv H pr v (evs R).length T I P):
  ∃ H',evI pg .heap n_gmo_view_read [.ptr p 0 0,.ptr pr 0 0,.int .i64 (i:Int),.int .i64 (k:Int)] H=some (.tup [],H')∧Mst Hv H' pr v (evs R).length T I (fun c d=>P c d∨Rd (gmOf (evs R) co) i k c d):=by
 have h8:=szO_le ((evs R)[i]).r.ins.op
 have hk8:k<8:=by omega
 obtain ⟨a,ha⟩:∃ a:Nat,adE ((evs R)[i]).r=(a:Int):=⟨_,(Int.toNat_of_nonneg (wf.ad _ (List.getElem_mem hi))).symm⟩
 have hga:=gm_ad (co:=co) hi ha
 have hxc:a+k<co.length:=by
  have:=wf.inb _ (List.getElem_mem hi)
  omega
 have hcl:=w.cl
 have hco:=w.cs.1
 have cv0:a+k<cv.length:=by omega
 have hy:=List.getElem?_eq_getElem hxc
 have hgc:=gm_C (R:=R) hy
 have hsl:=w.cs.2 (a+k) cv[a+k] co[a+k] (List.getElem?_eq_getElem cv0) hy
 have hol:=w.ol _ (List.getElem_mem hxc)
 have hin:=fun id hid=>wf.ids (List.getElem_mem hxc) (id:=id) hid
 have hcl2:(gmOf (evs R) co).frm i k≤(co[a+k]).length:=by
  unfold Gm.frm
  rw [hga,hgc]
  split
  ·omega
  ·have:=cpl_le (s:=‹Nat›) ((co[a+k]).map (at1 (evs R)))
   rw [List.length_map] at this
   exact this
 have gv1:=gv.frame ms.fr
 obtain ⟨cid,hcs,hcr⟩:=gv1.css hxc
 have hplc:=fun s vs tk=>gv1.plc hxc s vs tk
 have hob:=gv1.ob
 simp only [gC,hcs] at hob
 have hpl:=get_lt hob
 have hoe:=get_el hob
 have hql:=get_lt hcr
 have hqe:=get_el hcr
 have hgl:=mrw_len cm co.length
 have g1:=mrw_get cm hxc
 have gl1:a+k<(mrw cm co.length).length:=by omega
 have ge1:=mrw_el cm gl1
 have iu:=w.ev.is
 have huf:=w.ev.fpR
 have hur:(rows u).length=(evs R).length:=by rw [w.ev.rows,evR_len]
 have e1:=fun m=>w.ev.ia (sz:=33) m .i64 (i:=i) (by rw [evR_len]; exact hi) (evR_sz _ _ (List.getElem_mem _))
 simp only [evR_el] at e1
 have e4:=fun m=>w.co4.ia (sz:=1) m .i64 (i:=a+k) (by rw [slR_len]; exact cv0) (slR_sz _ _ (List.getElem_mem _))
 simp only [slR_el] at e4
 have i4:=w.co4.is
 have h4f:=w.co4.fpR
 have hsi:=hsl.is
 have hsr:(rows cv[a+k]).length=(co[a+k]).length:=by rw [hsl.rows,iI_len]
 have ew:IntKind.i64.wrap ((a:Int)+(k:Int))=((a+k:Nat):Int):=by rw [wrap_i64 (by omega) (by omega)]; rfl
 have hslc:=fun H0=>hsl.slc (sz:=1) ⟨[],[],H0⟩ (some (.int .i64 (((gmOf (evs R) co).frm i k:Nat):Int))) none (l:=(gmOf (evs R) co).frm i k) (k:=(co[a+k]).length) (by decide) (fun e he=>by obtain ⟨_,_,rfl⟩:=List.mem_map.1 he; rfl) (by rw [iI_len]; exact bnd_lo hcl2)
 have hdr:((iI co[a+k]).take (co[a+k]).length).drop ((gmOf (evs R) co).frm i k)=iI ((co[a+k]).drop ((gmOf (evs R) co).frm i k)):=by
  rw [List.take_of_length_le (by rw [iI_len]; exact Nat.le_refl _)]
  unfold iI
  rw [List.map_drop]
 simp only [hdr] at hslc
 have hnm:=named_ok gv1 (((evs R)[i]).r.tg k)
 have ht:=evC_tgq (evs R)[i] hk8
 have ht':=get_all ht
 have k8:(k:Int)<8:=by omega
 have k7:k≤7:=by omega
 have k28:20+k<33:=by omega
 have htg:=gm_tg (co:=co) hi k
 have hfr:(gmOf (evs R) co).frm i k=match (gmOf (evs R) co).tgt i k with
  | none=>0
  | some v=>cpl ((gmOf (evs R) co).C (a+k)) v:=by
  unfold Gm.frm
  rw [hga]
  cases (gmOf (evs R) co).tgt i k<;>rfl
 have hC:((gmOf (evs R) co).C ((gmOf (evs R) co).ad i+k)).drop ((gmOf (evs R) co).frm i k)=((co[a+k]).drop ((gmOf (evs R) co).frm i k)).map (at1 (evs R)):=by
  rw [hga,hgc,List.map_drop]
 rw [s_fn fn_gmo_view_read]
 by_cases ct:((evs R)[i]).r.tg k=-1
 ·rw [if_pos ct] at htg
  have hrd:∀ c d,Rd (gmOf (evs R) co) i k c d↔(c=i∧d≠i∧d∈((co[a+k]).drop ((gmOf (evs R) co).frm i k)).map (at1 (evs R))):=fun c d=>by
   unfold Rd
   rw [htg,hC]
   simp
  rw [htg] at hfr
  simp only at hfr
  obtain ⟨uv,s1,s2⟩:=hslc H
  obtain ⟨H',r1,r2⟩:=read_l0 gv hi uv _ s2 (by rw [List.length_drop]; omega) (fun id hid=>hin id (List.mem_of_mem_drop hid)) 0 (Nat.zero_le _) H P ms
  rw [Int.natCast_zero] at r1
  rw [List.drop_zero] at r2
  refine ⟨H',?_,r2.congr fun c d _ _=>by rw [hrd]⟩
  have hur2:(rows uv).length=((co[a+k]).drop ((gmOf (evs R) co).frm i k)).length:=by rw [s2.rows,iI_len]
  have hui:=s2.is
  rw [ct] at hnm ht ht'
  simp only [if_true] at hnm
  clear hrd hC hga hgc s2 hsl hin hcl2 hcr hcs gv gv1 wf w hy r2 ms hslc hdr hplc
  rw [hfr] at r1 s1 hur2
  rw [Int.natCast_zero] at s1
  generalize (co[a+k]).drop 0=yd at *
  generalize cv[a+k]=v at *
  generalize mrw cm co.length=ar at *
  generalize (evs R)[i]=e at *
  generalize (evs R).length=n at *
  simp [ir_gmo_view_read,go_sem,hob,hpl,hoe,iu,huf,hur,e1,ha,ew,hnm,ht,ht',k8,k7,k28,hk8,e4,i4,h4f,hsi,hsr,s1,hur2,hui,r1,-Int.natCast_add]
 ·rw [if_neg ct] at htg
  have hw:=(wf.gm.tg i hi (by rw [gm_ld hi]; exact hld) k (by rw [gm_sz hi]; exact hk) _ htg).1
  have hw':at1 (evs R) (((evs R)[i]).r.tg k)<(evs R).length:=hw
  have hah:=ahead_ok w gv1 hw' hi
  have hrd:∀ c d,Rd (gmOf (evs R) co) i k c d↔((c=at1 (evs R) (((evs R)[i]).r.tg k)∧(gmOf (evs R) co).ah (at1 (evs R) (((evs R)[i]).r.tg k)) i=false∧d=i)∨(c=i∧d≠i∧d∈((co[a+k]).drop ((gmOf (evs R) co).frm i k)).map (at1 (evs R)))):=fun c d=>by
   unfold Rd
   rw [htg,hC]
   constructor
   ·rintro (⟨q1,q2,q3⟩ | q)
    ·obtain rfl:=Option.some.inj q1
     exact .inl ⟨rfl,q2,q3⟩
    ·exact .inr q
   ·rintro (⟨rfl,q2,q3⟩ | q)
    ·exact .inl ⟨rfl,q2,q3⟩
    ·exact .inr q
  rw [htg] at hfr
  simp only at hfr
  rw [if_neg ct,decide_eq_true ct] at hnm
  cases qa:(gmOf (evs R) co).ah (at1 (evs R) (((evs R)[i]).r.tg k)) i with
  | true=>
   rw [qa] at hah
   obtain ⟨uv,s1,s2⟩:=hslc H
   obtain ⟨H',r1,r2⟩:=read_l0 gv hi uv _ s2 (by rw [List.length_drop]; omega) (fun id hid=>hin id (List.mem_of_mem_drop hid)) 0 (Nat.zero_le _) H P ms
   rw [Int.natCast_zero] at r1
   rw [List.drop_zero] at r2
   refine ⟨H',?_,r2.congr fun c d _ _=>by rw [hrd,qa]; simp⟩
   have hur2:(rows uv).length=((co[a+k]).drop ((gmOf (evs R) co).frm i k)).length:=by rw [s2.rows,iI_len]
   have hui:=s2.is
   have hp1:=hplc (at1 (evs R) (((evs R)[i]).r.tg k))
   rw [← hfr] at hp1
   clear hrd hC hga hgc s2 hsl hin hcl2 hcr hcs gv gv1 wf w hy r2 ms hslc hdr hplc hfr htg hw hw' qa
   generalize (gmOf (evs R) co).frm i k=fr at *
   generalize (co[a+k]).drop fr=yd at *
   generalize cv[a+k]=v at *
   generalize mrw cm co.length=ar at *
   generalize (evs R)[i]=e at *
   generalize at1 (evs R) (e.r.tg k)=wt at *
   generalize (evs R).length=n at *
   simp [ir_gmo_view_read,go_sem,hob,hpl,hoe,iu,huf,hur,e1,ha,ew,hnm,ht,ht',k8,k7,k28,hk8,e4,i4,h4f,hsi,hsr,s1,hur2,hui,hp1,asIx_nat,hgl,hxc,hql,hqe,g1,gl1,ge1,hah,r1,-Int.natCast_add]
  | false=>
   rw [qa] at hah
   obtain ⟨H1,ha1,ms1⟩:=ms.add hw' hi
   have gv2:=gv.frame ms1.fr
   have hob2:=gv2.ob
   simp only [gC,hcs] at hob2
   have hpl2:=get_lt hob2
   have hoe2:=get_el hob2
   obtain ⟨uv,s1,s2⟩:=hslc H1
   obtain ⟨H',r1,r2⟩:=read_l0 gv hi uv _ s2 (by rw [List.length_drop]; omega) (fun id hid=>hin id (List.mem_of_mem_drop hid)) 0 (Nat.zero_le _) H1 _ ms1
   rw [Int.natCast_zero] at r1
   rw [List.drop_zero] at r2
   refine ⟨H',?_,r2.congr fun c d _ _=>?_⟩
   ·have hur2:(rows uv).length=((co[a+k]).drop ((gmOf (evs R) co).frm i k)).length:=by rw [s2.rows,iI_len]
    have hui:=s2.is
    have hp1:=hplc (at1 (evs R) (((evs R)[i]).r.tg k))
    rw [← hfr] at hp1
    clear hrd hC hga hgc s2 hsl hin hcl2 hcr hcs gv gv1 gv2 wf w hy r2 ms ms1 hslc hdr hplc hfr htg hw hw' qa
    generalize (gmOf (evs R) co).frm i k=fr at *
    generalize (co[a+k]).drop fr=yd at *
    generalize cv[a+k]=v at *
    generalize mrw cm co.length=ar at *
    generalize (evs R)[i]=e at *
    generalize at1 (evs R) (e.r.tg k)=wt at *
    generalize (evs R).length=n at *
    simp [ir_gmo_view_read,go_sem,hob,hpl,hoe,hob2,hpl2,hoe2,iu,huf,hur,e1,ha,ew,hnm,ht,ht',k8,k7,k28,hk8,e4,i4,h4f,hsi,hsr,s1,hur2,hui,hp1,asIx_nat,hgl,hxc,hql,hqe,g1,gl1,ge1,hah,ha1,r1,-Int.natCast_add]
   ·rw [hrd,qa]
    constructor
    ·rintro ((q | ⟨q1,q2⟩) | q)
     ·exact .inl q
     ·exact .inr (.inl ⟨q1,rfl,q2⟩)
     ·exact .inr (.inr q)
    ·rintro (q | ⟨q1,_,q2⟩ | q)
     ·exact .inl (.inl q)
     ·exact .inl (.inr ⟨q1,q2⟩)
     ·exact .inr q
end
end Go.Proofs.YtimiademofajeaaGreatDoor
