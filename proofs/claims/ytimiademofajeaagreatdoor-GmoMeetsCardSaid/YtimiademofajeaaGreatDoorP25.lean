/- Lemmas (no claim): K23k, K23l. -/
import Derived.Test.YtimiademofajeaaGreatDoorP24
set_option linter.unusedSimpArgs false
set_option linter.unusedVariables false
set_option maxRecDepth 20000
namespace Go.Proofs.YtimiademofajeaaGreatDoor
open Go Go.Vm
theorem cpl_le (s:Nat):∀ l:List Nat,cpl l s≤l.length
 | []=>Nat.le_refl _
 | a :: l=>by
  have ih:=cpl_le s l
  unfold cpl
  rw [List.length_cons]
  split
  ·omega
  ·split<;>omega
theorem mrw_el (cm:Nat→Nat) {n x:Nat} (h:x<(mrw cm n).length):(mrw cm n)[x]=[V.map (cm x)]:=by simp [mrw]
theorem GV.plc {H:List Vm.Obj} {p mid:Nat} {l:List (Int × V)} {cs:V} {cm:Nat→Nat} {cl:Nat→List (Int × V)} {x0:V} {lv:Nat→V} {x4 u:V} {E:List Ev} {co:List (List Int)} (g:GV H p mid l cs cm cl x0 lv x4 u E co) {x:Nat} (hx:x<co.length) (s:Nat) (vs:List (List V)) (tk:List Nat):
  lookM ⟨vs,tk,H⟩ false false [.int .i64 0] (.map (cm x)) (.int .i64 (s:Int))=some (.int .i64 ((cpl ((gmOf E co).C x) s:Nat):Int),⟨vs,tk,H⟩):=by
 have hlk:=look_kv (g.cmp x hx) vs tk false (.int .i64 0) (s:Int)
 simp only [Bool.false_eq_true,if_false] at hlk
 rw [hlk,g.cat x hx s]
theorem GV.css {H:List Vm.Obj} {p mid:Nat} {l:List (Int × V)} {cs:V} {cm:Nat→Nat} {cl:Nat→List (Int × V)} {x0:V} {lv:Nat→V} {x4 u:V} {E:List Ev} {co:List (List Int)} (g:GV H p mid l cs cm cl x0 lv x4 u E co) {x:Nat} (hx:x<co.length):∃ cid,cs=.rsl cid 0 co.length∧H[cid]?=some (.arr (mrw cm co.length)):=by
 rcases g.cr with h | h
 ·omega
 ·exact h
section
variable {x0:V} {lv:Nat→V} {x4 u:V} {R:Nat→List Rt} {img:List Nat} {cv:List V} {co:List (List Int)} (w:Lk x0 lv x4 u R img cv co)
 {H:List Vm.Obj} {p mid:Nat} {l:List (Int × V)} {cs:V} {cm:Nat→Nat} {cl:Nat→List (Int × V)} (gv:GV H p mid l cs cm cl x0 lv x4 u (evs R) co) (wf:Wf R co) (hE:(evs R).length≤512)
include w gv
theorem stale_l0 {i:Nat} (hi:i<(evs R).length) (uv:V) (y:List Int) (hu:Sl uv (iI y)) (hy:y.length≤100000) (hin:∀ id∈y,at1 (evs R) id<(evs R).length) (j:Nat) (hj:j≤y.length):
  evCI pg (.loop ir_gmo_view_stalel0) ⟨[.ptr p 0 0,.int .i64 (i:Int),.undef,.undef,.undef,.undef,.undef,.undef,.undef,.undef,uv,.int .i64 (y.length:Int),.int .i64 (j:Int),.undef,.undef],⟨[],[],H⟩⟩ =
   some (if (y.drop j).any (fun id=>(gmOf (evs R) co).ah (at1 (evs R) id) i)=true then (.ret,⟨[.undef,.undef,.undef,.bool true,.undef,.undef,.undef,.undef,.undef,.undef,.undef,.undef,.undef,.undef,.undef],⟨[],[],H⟩⟩)
    else (.exit 0,⟨[.ptr p 0 0,.int .i64 (i:Int),.undef,.undef,.undef,.undef,.undef,.undef,.undef,.undef,uv,.int .i64 (y.length:Int),.int .i64 (y.length:Int),.bool false,.undef],⟨[],[],H⟩⟩)):=by
 obtain ⟨B,hB⟩:∃ B,B=Vm.C.loop ir_gmo_view_stalel0:=⟨_,rfl⟩
 have hui:=hu.is
 have huf:=hu.fpR
 by_cases c:j<y.length
 ·have e3:=succ_i64 c (by omega)
  have cI:(j:Int)<(y.length:Int):=by omega
  have hob:=gv.ob
  simp only [gC] at hob
  have hpl:=get_lt hob
  have hoe:=get_el hob
  have e1:=fun m=>hu.ia (sz:=1) m .i64 (i:=j) (by rw [iI_len]; exact c) (by simp [iI])
  simp only [iI_el] at e1
  have hlk:=fun vs tk=>gv.look vs tk y[j]
  have hah:=ahead_ok w gv (hin y[j] (List.getElem_mem _)) hi
  have hd:y.drop j=y[j] :: y.drop (j+1):=List.drop_eq_getElem_cons c
  rw [hd,List.any_cons]
  have ih:=stale_l0 hi uv y hu hy hin (j+1) (by omega)
  rw [← hB] at ih
  rw [← hB,s_loop_at hB]
  clear hd hin gv w
  generalize y[j]=id at *
  cases q:(gmOf (evs R) co).ah (at1 (evs R) id) i with
  | true=>
   rw [q] at hah
   rw [Bool.true_or,if_pos rfl]
   clear ih
   generalize at1 (evs R) id=s at *
   simp [ir_gmo_view_stalel0,go_sem,c,cI,hui,huf,e1,hob,hpl,hoe,hlk,hah,-Int.natCast_add]
  | false=>
   rw [q] at hah
   rw [Bool.false_or,← ih]
   clear ih
   generalize at1 (evs R) id=s at *
   simp [ir_gmo_view_stalel0,go_sem,c,cI,hui,huf,e1,e3,hob,hpl,hoe,hlk,hah,-Int.natCast_add]
 ·obtain rfl:j=y.length:=by omega
  rw [List.drop_length,← hB,s_loop_at hB]
  simp [ir_gmo_view_stalel0,go_sem]
termination_by y.length - j
omit w gv in
theorem gm_ad {i:Nat} (hi:i<(evs R).length) {a:Nat} (ha:adE ((evs R)[i]).r=(a:Int)):(gmOf (evs R) co).ad i=a:=by
 show ofE _ _ _ i=_
 rw [ofE_el hi,ha,Int.toNat_natCast]
omit w gv in
theorem gm_C {x:Nat} {y:List Int} (hy:co[x]?=some y):(gmOf (evs R) co).C x=y.map (at1 (evs R)):=by
 show ((co[x]?).getD []).map (at1 (evs R))=_
 rw [hy]; rfl
omit w gv in
theorem gm_sz {i:Nat} (hi:i<(evs R).length):(gmOf (evs R) co).sz i=szO ((evs R)[i]).r.ins.op:=by
 show ofE _ _ _ i=_
 rw [ofE_el hi]
omit w gv in
theorem gm_ld {i:Nat} (hi:i<(evs R).length):(gmOf (evs R) co).ld i=lod ((evs R)[i]).r.ins.op:=by
 show ofE _ _ _ i=_
 rw [ofE_el hi]
omit w gv in
theorem gm_tg {i:Nat} (hi:i<(evs R).length) (k:Nat):(gmOf (evs R) co).tgt i k=if ((evs R)[i]).r.tg k=-1 then none else some (at1 (evs R) (((evs R)[i]).r.tg k)):=by
 show ofE _ _ _ i=_
 rw [ofE_el hi]
include wf
set_option maxHeartbeats 4000000 in
theorem stale_ok {i:Nat} (hi:i<(evs R).length) {k:Nat} (hk:k<szO ((evs R)[i]).r.ins.op):
  evI pg .heap n_gmo_view_stale [.ptr p 0 0,.int .i64 (i:Int),.int .i64 (k:Int)] H=some (.bool ((gmOf (evs R) co).stl i k),H):=by
 have h8:=szO_le ((evs R)[i]).r.ins.op
 have hk8:k<8:=by omega
 obtain ⟨a,ha⟩:∃ a:Nat,adE ((evs R)[i]).r=(a:Int):=⟨_,(Int.toNat_of_nonneg (wf.ad _ (List.getElem_mem hi))).symm⟩
 have hga:=gm_ad (co:=co) hi ha
 have hxc:a+k<co.length:=by
  have:=wf.inb _ (List.getElem_mem hi)
  omega
 have hcl:=w.cl
 have hco:=w.cs.1
 have cv0:a+k<cv.length:=by omega
 have hy:=List.getElem?_eq_getElem hxc
 have hgc:=gm_C (R:=R) hy
 have hsl:=w.cs.2 (a+k) cv[a+k] co[a+k] (List.getElem?_eq_getElem cv0) hy
 have hol:=w.ol _ (List.getElem_mem hxc)
 have hin:=fun id hid=>wf.ids (List.getElem_mem hxc) (id:=id) hid
 obtain ⟨cid,hcs,hcr⟩:=gv.css hxc
 have hplc:=fun s vs tk=>gv.plc hxc s vs tk
 have hcl2:(gmOf (evs R) co).frm i k≤(co[a+k]).length:=by
  unfold Gm.frm
  rw [hga,hgc]
  split
  ·omega
  ·have:=cpl_le (s:=‹Nat›) ((co[a+k]).map (at1 (evs R)))
   rw [List.length_map] at this
   exact this
 have hob:=gv.ob
 simp only [gC,hcs] at hob
 have hpl:=get_lt hob
 have hoe:=get_el hob
 have hql:=get_lt hcr
 have hqe:=get_el hcr
 have hgl:=mrw_len cm co.length
 have g1:=mrw_get cm hxc
 have gl1:a+k<(mrw cm co.length).length:=by omega
 have ge1:=mrw_el cm gl1
 have iu:=w.ev.is
 have huf:=w.ev.fpR
 have hur:(rows u).length=(evs R).length:=by rw [w.ev.rows,evR_len]
 have e1:=fun m=>w.ev.ia (sz:=33) m .i64 (i:=i) (by rw [evR_len]; exact hi) (evR_sz _ _ (List.getElem_mem _))
 simp only [evR_el] at e1
 have e4:=fun m=>w.co4.ia (sz:=1) m .i64 (i:=a+k) (by rw [slR_len]; exact cv0) (slR_sz _ _ (List.getElem_mem _))
 simp only [slR_el] at e4
 have i4:=w.co4.is
 have h4f:=w.co4.fpR
 have hsi:=hsl.is
 have hsr:(rows cv[a+k]).length=(co[a+k]).length:=by rw [hsl.rows,iI_len]
 have ew:IntKind.i64.wrap ((a:Int)+(k:Int))=((a+k:Nat):Int):=by rw [wrap_i64 (by omega) (by omega)]; rfl
 obtain ⟨uv,s1,s2⟩:=hsl.slc (sz:=1) ⟨[],[],H⟩ (some (.int .i64 (((gmOf (evs R) co).frm i k:Nat):Int))) none (l:=(gmOf (evs R) co).frm i k) (k:=(co[a+k]).length) (by decide) (fun e he=>by obtain ⟨_,_,rfl⟩:=List.mem_map.1 he; rfl) (by rw [iI_len]; exact bnd_lo hcl2)
 rw [List.take_of_length_le (by rw [iI_len]; exact Nat.le_refl _),show (iI co[a+k]).drop ((gmOf (evs R) co).frm i k)=iI ((co[a+k]).drop ((gmOf (evs R) co).frm i k)) by unfold iI; rw [List.map_drop]] at s2
 have hl0:=stale_l0 w gv hi uv _ s2 (by rw [List.length_drop]; omega) (fun id hid=>hin id (List.mem_of_mem_drop hid)) 0 (Nat.zero_le _)
 rw [List.drop_zero,Int.natCast_zero] at hl0
 have hur2:(rows uv).length=((co[a+k]).drop ((gmOf (evs R) co).frm i k)).length:=by rw [s2.rows,iI_len]
 have hui:=s2.is
 have hnm:=named_ok gv (((evs R)[i]).r.tg k)
 have ht:=evC_tgq (evs R)[i] hk8
 have ht':=get_all ht
 have k8:(k:Int)<8:=by omega
 have k7:k≤7:=by omega
 have k28:20+k<33:=by omega
 have htg:=gm_tg (co:=co) hi k
 have hfr:(gmOf (evs R) co).frm i k=match (gmOf (evs R) co).tgt i k with
  | none=>0
  | some v=>cpl ((gmOf (evs R) co).C (a+k)) v:=by
  unfold Gm.frm
  rw [hga]
  cases (gmOf (evs R) co).tgt i k<;>rfl
 have hst:(gmOf (evs R) co).stl i k=((co[a+k]).drop ((gmOf (evs R) co).frm i k)).any fun id=>(gmOf (evs R) co).ah (at1 (evs R) id) i:=by
  unfold Gm.stl
  rw [hga,hgc,← List.map_drop,List.any_map]
  rfl
 rw [hst,s_fn fn_gmo_view_stale]
 clear hst hga hgc s2 hsl hin hcl2 hcr hcs gv wf w hy
 generalize hFR:(gmOf (evs R) co).frm i k=fr at *
 generalize (co[a+k]).drop fr=yd at *
 generalize cv[a+k]=v at *
 generalize mrw cm co.length=ar at *
 cases q:yd.any (fun id=>(gmOf (evs R) co).ah (at1 (evs R) id) i) with
 | true=>
  rw [q,if_pos rfl] at hl0
  clear q
  generalize (evs R)[i]=e at *
  by_cases ct:e.r.tg k=-1
  ·rw [if_pos ct] at htg
   rw [htg] at hfr
   simp only at hfr
   subst hfr
   rw [Int.natCast_zero] at s1
   rw [ct] at hnm ht ht'
   simp only [if_true] at hnm
   generalize (evs R).length=n at *
   simp [ir_gmo_view_stale,go_sem,hob,hpl,hoe,iu,huf,hur,e1,ha,ew,hnm,ht,ht',k8,k7,k28,hk8,e4,i4,h4f,hsi,hsr,s1,hur2,hui,hl0,-Int.natCast_add]
  ·rw [if_neg ct] at htg hnm
   rw [htg] at hfr
   simp only at hfr
   rw [decide_eq_true ct] at hnm
   have hp1:=hplc (at1 (evs R) (e.r.tg k))
   rw [← hfr] at hp1
   clear hplc hfr htg
   generalize at1 (evs R) (e.r.tg k)=wt at *
   generalize (evs R).length=n at *
   simp [ir_gmo_view_stale,go_sem,hob,hpl,hoe,iu,huf,hur,e1,ha,ew,hnm,ht,ht',k8,k7,k28,hk8,e4,i4,h4f,hsi,hsr,s1,hur2,hui,hl0,hp1,asIx_nat,hgl,hxc,hql,hqe,g1,gl1,ge1,-Int.natCast_add]
 | false=>
  rw [q,if_neg (by simp)] at hl0
  clear q
  generalize (evs R)[i]=e at *
  by_cases ct:e.r.tg k=-1
  ·rw [if_pos ct] at htg
   rw [htg] at hfr
   simp only at hfr
   subst hfr
   rw [Int.natCast_zero] at s1
   rw [ct] at hnm ht ht'
   simp only [if_true] at hnm
   generalize (evs R).length=n at *
   simp [ir_gmo_view_stale,go_sem,hob,hpl,hoe,iu,huf,hur,e1,ha,ew,hnm,ht,ht',k8,k7,k28,hk8,e4,i4,h4f,hsi,hsr,s1,hur2,hui,hl0,-Int.natCast_add]
  ·rw [if_neg ct] at htg hnm
   rw [htg] at hfr
   simp only at hfr
   rw [decide_eq_true ct] at hnm
   have hp1:=hplc (at1 (evs R) (e.r.tg k))
   rw [← hfr] at hp1
   clear hplc hfr htg
   generalize at1 (evs R) (e.r.tg k)=wt at *
   generalize (evs R).length=n at *
   simp [ir_gmo_view_stale,go_sem,hob,hpl,hoe,iu,huf,hur,e1,ha,ew,hnm,ht,ht',k8,k7,k28,hk8,e4,i4,h4f,hsi,hsr,s1,hur2,hui,hl0,hp1,asIx_nat,hgl,hxc,hql,hqe,g1,gl1,ge1,-Int.natCast_add]
end
end Go.Proofs.YtimiademofajeaaGreatDoor
namespace Go.Proofs.YtimiademofajeaaGreatDoor
open Go Go.Vm
theorem r_succ {k n:Nat} (h:k<n):List.range' k (n - k)=k :: List.range' (k+1) (n - (k+1)):=by
 rw [show n - k=(n - (k+1))+1 by omega,List.range'_succ]
section
variable {x0:V} {lv:Nat→V} {x4 u:V} {R:Nat→List Rt} {img:List Nat} {cv:List V} {co:List (List Int)} (w:Lk x0 lv x4 u R img cv co)
 {H:List Vm.Obj} {p mid:Nat} {l:List (Int × V)} {cs:V} {cm:Nat→Nat} {cl:Nat→List (Int × V)} (gv:GV H p mid l cs cm cl x0 lv x4 u (evs R) co) (wf:Wf R co) (hE:(evs R).length≤512)
 {bq:Nat} (hbx:H[bq]?=some (.arr [[.ptr p 0 0]]))
include gv hbx
theorem may1_ok {x:Nat} (hx:x<co.length) (s:Nat):evI pg .heap n_gmo_view_may_1 [.int .i64 (x:Int),.int .i64 (s:Int),.ptr bq 0 0] H=some (.int .i64 ((gmOf (evs R) co).cop x s),H):=by
 obtain ⟨cid,hcs,hcr⟩:=gv.css hx
 have hplc:=gv.plc hx s
 have hob:=gv.ob
 simp only [gC,hcs] at hob
 have hpl:=get_lt hob
 have hoe:=get_el hob
 have hql:=get_lt hcr
 have hqe:=get_el hcr
 have hbl:=get_lt hbx
 have hbe:=get_el hbx
 have hgl:=mrw_len cm co.length
 have g1:=mrw_get cm hx
 have gl1:x<(mrw cm co.length).length:=by omega
 have ge1:=mrw_el cm gl1
 have hd:(gmOf (evs R) co).cop x s=((cpl ((gmOf (evs R) co).C x) s:Nat):Int):=rfl
 rw [hd,s_fn fn_gmo_view_may_1]
 clear gv hd
 generalize cpl ((gmOf (evs R) co).C x) s=r at *
 generalize mrw cm co.length=ar at *
 simp [ir_gmo_view_may_1,go_sem,hob,hpl,hoe,hcr,hql,hqe,hbx,hbl,hbe,hgl,hx,g1,gl1,ge1,asIx_nat,hplc]
include w wf hE
set_option maxHeartbeats 4000000 in
theorem may_l0 (i:Nat) (hi:i<(evs R).length) (k:Nat) (hk:k≤szO ((evs R)[i]).r.ins.op) (c0:Nat):
  evCI pg (.loop ir_gmo_view_mayl0) ⟨[.undef,.ptr bq 0 0,.undef,.int .i64 (c0:Int),.int .i64 (i:Int),.lp 0 0,.undef,u,.int .i64 ((evs R).length:Int),.int .i64 (i:Int),.undef,.int .i64 (szO ((evs R)[i]).r.ins.op:Nat),.int .i64 (k:Int),.undef,.undef,.undef],⟨[evC (evs R)[i]],[],H⟩⟩ =
   some (if (List.range' k (szO ((evs R)[i]).r.ins.op - k)).any (fun k=>lod ((evs R)[i]).r.ins.op && (gmOf (evs R) co).stl i k)=true then (.exit 0,⟨[.undef,.undef,.undef,.int .i64 12,.undef,.undef,.undef,.undef,.undef,.undef,.undef,.undef,.undef,.undef,.undef,.undef],⟨[[]],[],H⟩⟩)
    else (.exit 2,⟨[.undef,.ptr bq 0 0,.undef,.int .i64 (((if (List.range' k (szO ((evs R)[i]).r.ins.op - k)).any (fun k=>!(gmOf (evs R) co).atm (gmOf (evs R) co).cop i k)=true then 13 else c0:Nat):Nat):Int),.int .i64 (i:Int),.lp 0 0,.undef,u,.int .i64 ((evs R).length:Int),.int .i64 (i:Int),.undef,.int .i64 (szO ((evs R)[i]).r.ins.op:Nat),.int .i64 (szO ((evs R)[i]).r.ins.op:Nat),.bool false,.undef,.undef],⟨[evC (evs R)[i]],[],H⟩⟩)):=by
 obtain ⟨B,hB⟩:∃ B,B=Vm.C.loop ir_gmo_view_mayl0:=⟨_,rfl⟩
 have h8:=szO_le ((evs R)[i]).r.ins.op
 have hbl:=get_lt hbx
 have hbe:=get_el hbx
 by_cases c:k<szO ((evs R)[i]).r.ins.op
 ·have e3:=succ_i64 c (by omega)
  have cI:(k:Int)<((szO ((evs R)[i]).r.ins.op:Nat):Int):=by omega
  have hd:=r_succ c
  have hst:=stale_ok w gv wf hi c
  have hx:(gmOf (evs R) co).ad i+k<co.length:=wf.gm.inb i hi k (by rw [gm_sz hi]; exact c)
  have hat:=atomic_ok w gv hE (F:=n_gmo_view_may_1) (cc:=.ptr bq 0 0) rfl hi (wf.ad _ (List.getElem_mem hi)) (k:=k) (by omega) (pl:=(gmOf (evs R) co).cop) (fun s hs=>may1_ok gv hbx hx s) (fun r hr=>⟨(wf.prs hi hr).1,fun x hx=>(wf.prs hi hr).2 k c x hx⟩)
  simp only [n_gmo_view_may_1] at hat
  have ih:=fun c0=>may_l0 i hi (k+1) (by omega) c0
  rw [hd,List.any_cons,List.any_cons]
  rw [← hB] at ih
  rw [← hB,s_loop_at hB]
  clear hd gv w wf hx
  generalize (gmOf (evs R) co).atm (gmOf (evs R) co).cop i k=la at *
  generalize (gmOf (evs R) co).stl i k=st at *
  generalize (evs R)[i]=e at *
  generalize (evs R).length=n at *
  cases ql:lod e.r.ins.op with
  | false=>
   rw [Bool.false_and,Bool.false_or]
   simp only [ql] at ih
   cases la with
   | false=>
    have ih2:=ih 13
    rw [ite_self] at ih2
    rw [Bool.not_false,Bool.true_or,if_pos rfl,← ih2]
    clear ih ih2
    simp [ir_gmo_view_mayl0,go_sem,c,cI,e3,ql,hbx,hbl,hbe,hat,-Int.natCast_add]
   | true=>
    have ih2:=ih c0
    rw [Bool.not_true,Bool.false_or,← ih2]
    clear ih ih2
    simp [ir_gmo_view_mayl0,go_sem,c,cI,e3,ql,hbx,hbl,hbe,hat,-Int.natCast_add]
  | true=>
   simp only [ql] at ih
   cases st with
   | true=>
    rw [Bool.true_and,Bool.true_or,if_pos rfl]
    clear ih
    simp [ir_gmo_view_mayl0,go_sem,c,cI,ql,hbx,hbl,hbe,hst,-Int.natCast_add]
   | false=>
    rw [Bool.true_and,Bool.false_or]
    cases la with
    | false=>
     have ih2:=ih 13
     rw [ite_self] at ih2
     rw [Bool.not_false,Bool.true_or,if_pos rfl,← ih2]
     clear ih ih2
     simp [ir_gmo_view_mayl0,go_sem,c,cI,e3,ql,hbx,hbl,hbe,hst,hat,-Int.natCast_add]
    | true=>
     have ih2:=ih c0
     rw [Bool.not_true,Bool.false_or,← ih2]
     clear ih ih2
     simp [ir_gmo_view_mayl0,go_sem,c,cI,e3,ql,hbx,hbl,hbe,hst,hat,-Int.natCast_add]
 ·obtain rfl:k=szO ((evs R)[i]).r.ins.op:=by omega
  rw [← hB,s_loop_at hB,Nat.sub_self]
  generalize (evs R)[i]=e at *
  simp [ir_gmo_view_mayl0,go_sem]
termination_by szO ((evs R)[i]).r.ins.op - k
theorem may_l1 (i:Nat) (hi:i≤(evs R).length) (c0:Nat):
  evCI pg (.loop ir_gmo_view_mayl1) ⟨[.undef,.ptr bq 0 0,.undef,.int .i64 (c0:Int),.undef,.undef,.undef,u,.int .i64 ((evs R).length:Int),.int .i64 (i:Int),.undef,.undef,.undef,.undef,.undef,.undef],⟨[[]],[],H⟩⟩ =
   some (if (List.range' i ((evs R).length - i)).any (stlE (gmOf (evs R) co))=true then (.exit 0,⟨[.undef,.undef,.undef,.int .i64 12,.undef,.undef,.undef,.undef,.undef,.undef,.undef,.undef,.undef,.undef,.undef,.undef],⟨[[]],[],H⟩⟩)
    else (.exit 0,⟨[.undef,.ptr bq 0 0,.undef,.int .i64 (((if (List.range' i ((evs R).length - i)).any (atmE (gmOf (evs R) co) (gmOf (evs R) co).cop)=true then 13 else c0:Nat):Nat):Int),.undef,.undef,.undef,u,.int .i64 ((evs R).length:Int),.int .i64 ((evs R).length:Int),.bool false,.undef,.undef,.undef,.undef,.undef],⟨[[]],[],H⟩⟩)):=by
 obtain ⟨B,hB⟩:∃ B,B=Vm.C.loop ir_gmo_view_mayl1:=⟨_,rfl⟩
 have iu:=w.ev.is
 have huf:=w.ev.fpR
 by_cases c:i<(evs R).length
 ·have e3:=succ_i64 c (by omega)
  have cI:(i:Int)<((evs R).length:Int):=by omega
  have e1:=fun m=>w.ev.ia (sz:=33) m .i64 (i:=i) (by rw [evR_len]; exact c) (evR_sz _ _ (List.getElem_mem _))
  simp only [evR_el] at e1
  have hfl:=eq_true (evC_flat (evs R)[i])
  have hl0:=may_l0 w gv wf hE hbx i c 0 (Nat.zero_le _) c0
  rw [Nat.sub_zero,Int.natCast_zero] at hl0
  have hdef:stlE (gmOf (evs R) co) i=(List.range' 0 (szO ((evs R)[i]).r.ins.op)).any (fun k=>lod ((evs R)[i]).r.ins.op && (gmOf (evs R) co).stl i k):=by
   unfold stlE
   rw [gm_sz c,gm_ld c]
  have hdef2:atmE (gmOf (evs R) co) (gmOf (evs R) co).cop i=(List.range' 0 (szO ((evs R)[i]).r.ins.op)).any (fun k=>!(gmOf (evs R) co).atm (gmOf (evs R) co).cop i k):=by
   unfold atmE
   rw [gm_sz c]
  rw [← hdef,← hdef2] at hl0
  have ih:=fun c0=>may_l1 (i+1) (by omega) c0
  rw [r_succ c,List.any_cons,List.any_cons]
  rw [← hB] at ih
  rw [← hB,s_loop_at hB]
  clear gv w wf hdef hdef2
  generalize (evs R)[i]=e at *
  cases ql:stlE (gmOf (evs R) co) i with
  | true=>
   rw [ql,if_pos rfl] at hl0
   rw [Bool.true_or,if_pos rfl]
   clear ih
   generalize (evs R).length=n at *
   simp [ir_gmo_view_mayl1,go_sem,c,cI,iu,huf,e1,hfl,hl0,evStore,splice,-Int.natCast_add]
  | false=>
   rw [ql,if_neg (by simp)] at hl0
   rw [Bool.false_or]
   cases qa:atmE (gmOf (evs R) co) (gmOf (evs R) co).cop i with
   | true=>
    rw [qa,if_pos rfl] at hl0
    have ih2:=ih 13
    rw [ite_self] at ih2
    rw [Bool.true_or,if_pos rfl,← ih2]
    clear ih ih2
    generalize (evs R).length=n at *
    simp [ir_gmo_view_mayl1,go_sem,c,cI,iu,huf,e1,e3,hfl,hl0,evStore,splice,-Int.natCast_add]
   | false=>
    rw [qa,if_neg (by simp)] at hl0
    have ih2:=ih c0
    rw [Bool.false_or,← ih2]
    clear ih ih2
    generalize (evs R).length=n at *
    simp [ir_gmo_view_mayl1,go_sem,c,cI,iu,huf,e1,e3,hfl,hl0,evStore,splice,-Int.natCast_add]
 ·obtain rfl:i=(evs R).length:=by omega
  rw [← hB,s_loop_at hB,Nat.sub_self]
  simp [ir_gmo_view_mayl1,go_sem]
termination_by (evs R).length - i
omit hbx in
theorem may_ok:evI pg .heap n_gmo_view_may [.ptr p 0 0] H=some (.int .i64 ((mayc (gmOf (evs R) co):Nat):Int),arH H [[.ptr p 0 0]]):=by
 have hb2:=arH_at H [[.ptr p 0 0]]
 have gv2:GV (arH H [[.ptr p 0 0]]) p mid l cs cm cl x0 lv x4 u (evs R) co:=gv.frame fun q hq=>arH_old _ hq
 have hl1:=may_l1 w gv2 wf hE hb2 0 (Nat.zero_le _) 0
 rw [Nat.sub_zero,Int.natCast_zero] at hl1
 have hob:=gv2.ob
 simp only [gC] at hob
 have hpl2:=get_lt hob
 have hoe:=get_el hob
 have iu:=w.ev.is
 have hur:(rows u).length=(evs R).length:=by rw [w.ev.rows,evR_len]
 have hgn:(gmOf (evs R) co).n=(evs R).length:=rfl
 unfold mayc
 rw [hgn,s_fn fn_gmo_view_may]
 clear gv gv2 w wf hgn
 generalize (evs R).length=n at *
 cases q4:(List.range' 0 n).any (stlE (gmOf (evs R) co)) with
 | true=>
  rw [q4,if_pos rfl] at hl1
  rw [if_pos rfl]
  clear q4
  simp [ir_gmo_view_may,go_sem,hl1,iu,hur,hob,hpl2,hoe,arH_mk,arH_at,arH_len,arH_el,arH_set,evStore,splice]
 | false=>
  rw [q4,if_neg (by simp)] at hl1
  rw [if_neg (by simp)]
  clear q4
  cases q5:(List.range' 0 n).any (atmE (gmOf (evs R) co) (gmOf (evs R) co).cop) with
  | true=>
   rw [q5,if_pos rfl] at hl1
   rw [if_pos rfl]
   simp [ir_gmo_view_may,go_sem,hl1,iu,hur,hob,hpl2,hoe,arH_mk,arH_at,arH_len,arH_el,arH_set,evStore,splice]
  | false=>
   rw [q5,if_neg (by simp)] at hl1
   rw [if_neg (by simp)]
   simp [ir_gmo_view_may,go_sem,hl1,iu,hur,hob,hpl2,hoe,arH_mk,arH_at,arH_len,arH_el,arH_set,evStore,splice]
end
end Go.Proofs.YtimiademofajeaaGreatDoor
