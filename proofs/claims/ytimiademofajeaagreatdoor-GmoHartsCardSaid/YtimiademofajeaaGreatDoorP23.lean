/- Lemmas (no claim): K23t, K23u, K23a, K23c, K23d, K23v. -/
import Derived.Test.YtimiademofajeaaGreatDoorP22
import Derived.Test.YtimiademofajeaaGreatDoorPIr
import Derived.KernelRfl
set_option linter.unusedSimpArgs false
set_option linter.unusedVariables false
set_option maxRecDepth 20000
namespace Go.Proofs.YtimiademofajeaaGreatDoor
open Go Go.Vm
section
variable {x0:V} {lv:Nat→V} {x4 u:V} {R:Nat→List Rt} {img:List Nat} {cv:List V} {co:List (List Int)} (w:Lk x0 lv x4 u R img cv co)
 {Hv:List Vm.Obj} {p mid:Nat} {l:List (Int × V)} {cs:V} {cm:Nat→Nat} {cl:Nat→List (Int × V)} (gv:GV Hv p mid l cs cm cl x0 lv x4 u (evs R) co) (wf:Wf R co)
 {pr:Nat} {v:V} {T:Nat} {I:Nat→Nat}
include w gv wf
theorem must_l0 (x:Nat) (hx:x<cv.length) (y:List Int) (hy:co[x]?=some y) (k:Nat) (hk1:1≤k) (hk:k≤y.length+1) (H:List Vm.Obj) (P:Nat→Nat→Prop) (ms:Mst Hv H pr v (evs R).length T I P):
  ∃ H',∃ k1:Nat,evCI pg (.loop ir_gmo_view_mustl0) ⟨[.ptr p 0 0,.undef,.ptr pr 0 0,cv[x],.int .i64 (k:Int),.undef,.undef,.undef,x4,.int .i64 (cv.length:Int),.int .i64 (x:Int),.undef,.undef,.undef,.undef,.undef,.undef,.undef,.undef,.undef,.undef],⟨[[]],[],H⟩⟩ =
   some (.exit 2,⟨[.ptr p 0 0,.undef,.ptr pr 0 0,cv[x],.int .i64 (k1:Int),.undef,.undef,.undef,x4,.int .i64 (cv.length:Int),.int .i64 (x:Int),.undef,.bool false,.undef,.undef,.undef,.undef,.undef,.undef,.undef,.undef],⟨[[]],[],H'⟩⟩) ∧
   Mst Hv H' pr v (evs R).length T I (fun c d=>P c d∨∃ j,k≤j+1∧((gmOf (evs R) co).C x)[j]?=some c∧((gmOf (evs R) co).C x)[j+1]?=some d):=by
 obtain ⟨B,hB⟩:∃ B,B=Vm.C.loop ir_gmo_view_mustl0:=⟨_,rfl⟩
 have hyc:y∈co:=List.mem_of_getElem? hy
 have hsl:=w.cs.2 x cv[x] y (List.getElem?_eq_getElem hx) hy
 have hol:=w.ol y hyc
 have hsi:=hsl.is
 have hsf:=hsl.fpR
 have hsr:(rows cv[x]).length=y.length:=by rw [hsl.rows,iI_len]
 have i4:=w.co4.is
 have hgc:=gm_C (R:=R) hy
 by_cases c:k<y.length
 ·have gv1:=gv.frame ms.fr
  have hob:=gv1.ob
  simp only [gC] at hob
  have hpl:=get_lt hob
  have hoe:=get_el hob
  have e3:=succ_i64 c (by omega)
  have cI:(k:Int)<(y.length:Int):=by omega
  have ew:IntKind.i64.wrap ((k:Int) - 1)=((k - 1:Nat):Int):=by rw [wrap_i64 (by omega) (by omega)]; omega
  have c1:k - 1<y.length:=by omega
  have e1:=fun m=>hsl.ia (sz:=1) m .i64 (i:=k) (by rw [iI_len]; exact c) (by simp [iI])
  have e2:=fun m=>hsl.ia (sz:=1) m .i64 (i:=k - 1) (by rw [iI_len]; exact c1) (by simp [iI])
  simp only [iI_el] at e1 e2
  have a1:=wf.ids hyc (List.getElem_mem c)
  have a2:=wf.ids hyc (List.getElem_mem c1)
  have hlk1:=fun vs tk=>gv1.look vs tk y[k]
  have hlk2:=fun vs tk=>gv1.look vs tk y[k - 1]
  obtain ⟨H1,ha1,ms1⟩:=ms.add a2 a1
  obtain ⟨H',k1,g1,g2⟩:=must_l0 x hx y hy (k+1) (by omega) (by omega) H1 _ ms1
  refine ⟨H',k1,?_,g2.congr fun a b ha hb=>?_⟩
  ·rw [← g1,← hB]
   conv=>lhs; rw [s_loop_at hB]
   clear gv gv1 w wf g1 g2 ms ms1 hgc
   generalize y[k]=i1 at *
   generalize y[k - 1]=i2 at *
   generalize at1 (evs R) i1=s1 at *
   generalize at1 (evs R) i2=s2 at *
   generalize cv[x]=v at *
   simp [ir_gmo_view_mustl0,go_sem,c,cI,hob,hpl,hoe,hlk1,hlk2,hsi,hsf,hsr,i4,e1,e2,e3,ew,ha1,-Int.natCast_add]
  ·have hk0:(y.map (at1 (evs R)))[k - 1]?=some (at1 (evs R) y[k - 1]):=by rw [List.getElem?_map,List.getElem?_eq_getElem c1]; rfl
   have hk2:(y.map (at1 (evs R)))[k - 1+1]?=some (at1 (evs R) y[k]):=by rw [show k - 1+1=k by omega,List.getElem?_map,List.getElem?_eq_getElem c]; rfl
   rw [hgc]
   constructor
   ·rintro ((q | ⟨q1,q2⟩) | ⟨j,q1,q2,q3⟩)
    ·exact .inl q
    ·exact .inr ⟨k - 1,by omega,by rw [q1]; exact hk0,by rw [q2]; exact hk2⟩
    ·exact .inr ⟨j,by omega,q2,q3⟩
   ·rintro (q | ⟨j,q1,q2,q3⟩)
    ·exact .inl (.inl q)
    ·by_cases e:j=k - 1
     ·subst e
      rw [hk0] at q2
      rw [hk2] at q3
      exact .inl (.inr ⟨(Option.some.inj q2).symm,(Option.some.inj q3).symm⟩)
     ·exact .inr ⟨j,by omega,q2,q3⟩
 ·have cI:¬ (k:Int)<(y.length:Int):=by omega
  have cI2:(y.length:Int)≤(k:Int):=by omega
  have cn:y.length≤k:=by omega
  refine ⟨H,k,?_,ms.congr fun a b _ _=>?_⟩
  ·rw [← hB,s_loop_at hB]
   generalize cv[x]=v at *
   simp [ir_gmo_view_mustl0,go_sem,c,cI,cI2,cn,hsi,hsf,hsr,i4]
  ·rw [hgc]
   constructor
   ·exact .inl
   ·rintro (q | ⟨j,q1,q2,q3⟩)
    ·exact q
    ·have:=(List.getElem?_eq_some_iff.1 q3).1
     rw [List.length_map] at this
     omega
termination_by y.length+1 - k
theorem must_l1 (x:Nat) (hx:x≤cv.length) (H:List Vm.Obj) (P:Nat→Nat→Prop) (ms:Mst Hv H pr v (evs R).length T I P):
  ∃ H',evCI pg (.loop ir_gmo_view_mustl1) ⟨[.ptr p 0 0,.undef,.ptr pr 0 0,.undef,.undef,.undef,.undef,.undef,x4,.int .i64 (cv.length:Int),.int .i64 (x:Int),.undef,.undef,.undef,.undef,.undef,.undef,.undef,.undef,.undef,.undef],⟨[[]],[],H⟩⟩ =
   some (.exit 0,⟨[.ptr p 0 0,.undef,.ptr pr 0 0,.undef,.undef,.undef,.undef,.undef,x4,.int .i64 (cv.length:Int),.int .i64 (cv.length:Int),.bool false,.undef,.undef,.undef,.undef,.undef,.undef,.undef,.undef,.undef],⟨[[]],[],H'⟩⟩) ∧
   Mst Hv H' pr v (evs R).length T I (fun c d=>P c d∨∃ x',x≤x'∧x'<co.length∧∃ j,((gmOf (evs R) co).C x')[j]?=some c∧((gmOf (evs R) co).C x')[j+1]?=some d):=by
 obtain ⟨B,hB⟩:∃ B,B=Vm.C.loop ir_gmo_view_mustl1:=⟨_,rfl⟩
 have i4:=w.co4.is
 have h4f:=w.co4.fpR
 have hcl:=w.cl
 have hco:=w.cs.1
 by_cases c:x<cv.length
 ·have e3:=succ_i64 c (by omega)
  have cI:(x:Int)<(cv.length:Int):=by omega
  have ca:x<co.length:=by omega
  have e1:=fun m=>w.co4.ia (sz:=1) m .i64 (i:=x) (by rw [slR_len]; exact c) (slR_sz _ _ (List.getElem_mem _))
  simp only [slR_el] at e1
  have hsl:=w.cs.2 x cv[x] co[x] (List.getElem?_eq_getElem c) (List.getElem?_eq_getElem ca)
  have hsi:=hsl.is
  obtain ⟨H1,k1,r1,ms1⟩:=must_l0 w gv wf x c co[x] (List.getElem?_eq_getElem ca) 1 (by omega) (by omega) H P ms
  rw [Int.natCast_one] at r1
  obtain ⟨H',g1,g2⟩:=must_l1 (x+1) (by omega) H1 _ ms1
  refine ⟨H',?_,g2.congr fun a b ha hb=>?_⟩
  ·rw [← g1,← hB]
   conv=>lhs; rw [s_loop_at hB]
   clear gv w wf g1 g2 ms ms1
   generalize cv[x]=v at *
   simp [ir_gmo_view_mustl1,go_sem,c,cI,i4,h4f,e1,e3,hsi,r1,-Int.natCast_add]
  ·constructor
   ·rintro ((q | ⟨j,_,q2,q3⟩) | ⟨x',q1,q2,q3⟩)
    ·exact .inl q
    ·exact .inr ⟨x,Nat.le_refl _,ca,j,q2,q3⟩
    ·exact .inr ⟨x',by omega,q2,q3⟩
   ·rintro (q | ⟨x',q1,q2,j,q3,q4⟩)
    ·exact .inl (.inl q)
    ·by_cases e:x'=x
     ·subst e
      exact .inl (.inr ⟨j,by omega,q3,q4⟩)
     ·exact .inr ⟨x',by omega,q2,j,q3,q4⟩
 ·obtain rfl:x=cv.length:=by omega
  refine ⟨H,?_,ms.congr fun a b _ _=>?_⟩
  ·rw [← hB,s_loop_at hB]
   simp [ir_gmo_view_mustl1,go_sem]
  ·constructor
   ·exact .inl
   ·rintro (q | ⟨x',q1,q2,_⟩)
    ·exact q
    ·omega
termination_by cv.length - x
theorem must_l2 (i:Nat) (hi:i<(evs R).length) (k:Nat) (hk:k≤szO ((evs R)[i]).r.ins.op) (H:List Vm.Obj) (P:Nat→Nat→Prop) (ms:Mst Hv H pr v (evs R).length T I P):
  ∃ H',evCI pg (.loop ir_gmo_view_mustl2) ⟨[.ptr p 0 0,.undef,.ptr pr 0 0,.undef,.undef,.int .i64 (i:Int),.lp 0 0,.undef,.undef,.undef,.undef,.undef,.undef,u,.int .i64 ((evs R).length:Int),.int .i64 (i:Int),.undef,.int .i64 (szO ((evs R)[i]).r.ins.op:Nat),.int .i64 (k:Int),.undef,.undef],⟨[evC (evs R)[i]],[],H⟩⟩ =
   some (.exit 6,⟨[.ptr p 0 0,.undef,.ptr pr 0 0,.undef,.undef,.int .i64 (i:Int),.lp 0 0,.undef,.undef,.undef,.undef,.undef,.undef,u,.int .i64 ((evs R).length:Int),.int .i64 (i:Int),.undef,.int .i64 (szO ((evs R)[i]).r.ins.op:Nat),.int .i64 (szO ((evs R)[i]).r.ins.op:Nat),.bool false,.undef],⟨[evC (evs R)[i]],[],H'⟩⟩) ∧
   Mst Hv H' pr v (evs R).length T I (fun c d=>P c d∨∃ k',k≤k'∧k'<szO ((evs R)[i]).r.ins.op∧lod ((evs R)[i]).r.ins.op=true∧Rd (gmOf (evs R) co) i k' c d):=by
 obtain ⟨B,hB⟩:∃ B,B=Vm.C.loop ir_gmo_view_mustl2:=⟨_,rfl⟩
 have h8:=szO_le ((evs R)[i]).r.ins.op
 by_cases c:k<szO ((evs R)[i]).r.ins.op
 ·have e3:=succ_i64 c (by omega)
  have cI:(k:Int)<((szO ((evs R)[i]).r.ins.op:Nat):Int):=by omega
  cases ql:lod ((evs R)[i]).r.ins.op with
  | false=>
   obtain ⟨H',g1,g2⟩:=must_l2 i hi (k+1) (by omega) H P ms
   refine ⟨H',?_,g2.congr fun a b ha hb=>by rw [ql]; simp⟩
   rw [← g1,← hB]
   conv=>lhs; rw [s_loop_at hB]
   clear gv w wf g1 g2 ms
   generalize (evs R)[i]=e at *
   simp [ir_gmo_view_mustl2,go_sem,c,cI,e3,ql,-Int.natCast_add]
  | true=>
   obtain ⟨H1,r1,ms1⟩:=read_ok w gv wf hi c ql H P ms
   obtain ⟨H',g1,g2⟩:=must_l2 i hi (k+1) (by omega) H1 _ ms1
   refine ⟨H',?_,g2.congr fun a b ha hb=>?_⟩
   ·rw [← g1,← hB]
    conv=>lhs; rw [s_loop_at hB]
    clear gv w wf g1 g2 ms ms1
    generalize (evs R)[i]=e at *
    simp [ir_gmo_view_mustl2,go_sem,c,cI,e3,ql,r1,-Int.natCast_add]
   ·constructor
    ·rintro ((q | q) | ⟨k',q1,q2,q3,q4⟩)
     ·exact .inl q
     ·exact .inr ⟨k,Nat.le_refl _,c,rfl,q⟩
     ·exact .inr ⟨k',by omega,q2,rfl,q4⟩
    ·rintro (q | ⟨k',q1,q2,_,q4⟩)
     ·exact .inl (.inl q)
     ·by_cases e:k'=k
      ·subst e
       exact .inl (.inr q4)
      ·exact .inr ⟨k',by omega,q2,ql,q4⟩
 ·obtain rfl:k=szO ((evs R)[i]).r.ins.op:=by omega
  refine ⟨H,?_,ms.congr fun a b _ _=>?_⟩
  ·rw [← hB,s_loop_at hB]
   generalize (evs R)[i]=e at *
   simp [ir_gmo_view_mustl2,go_sem]
  ·constructor
   ·exact .inl
   ·rintro (q | ⟨k',q1,q2,_⟩)
    ·exact q
    ·omega
termination_by szO ((evs R)[i]).r.ins.op - k
theorem must_l3 (hE:(evs R).length≤512) (i:Nat) (hi:i≤(evs R).length) (H:List Vm.Obj) (P:Nat→Nat→Prop) (ms:Mst Hv H pr v (evs R).length T I P):
  ∃ H',evCI pg (.loop ir_gmo_view_mustl3) ⟨[.ptr p 0 0,.undef,.ptr pr 0 0,.undef,.undef,.undef,.undef,.undef,.undef,.undef,.undef,.undef,.undef,u,.int .i64 ((evs R).length:Int),.int .i64 (i:Int),.undef,.undef,.undef,.undef,.undef],⟨[[]],[],H⟩⟩ =
   some (.exit 4,⟨[.ptr p 0 0,.undef,.ptr pr 0 0,.undef,.undef,.undef,.undef,.undef,.undef,.undef,.undef,.undef,.undef,u,.int .i64 ((evs R).length:Int),.int .i64 ((evs R).length:Int),.bool false,.undef,.undef,.undef,.undef],⟨[[]],[],H'⟩⟩) ∧
   Mst Hv H' pr v (evs R).length T I (fun c d=>P c d∨∃ i' k',i≤i'∧i'<(evs R).length∧(gmOf (evs R) co).ld i'=true∧k'<(gmOf (evs R) co).sz i'∧Rd (gmOf (evs R) co) i' k' c d):=by
 obtain ⟨B,hB⟩:∃ B,B=Vm.C.loop ir_gmo_view_mustl3:=⟨_,rfl⟩
 have iu:=w.ev.is
 have huf:=w.ev.fpR
 by_cases c:i<(evs R).length
 ·have e3:=succ_i64 c (by omega)
  have cI:(i:Int)<((evs R).length:Int):=by omega
  have e1:=fun m=>w.ev.ia (sz:=33) m .i64 (i:=i) (by rw [evR_len]; exact c) (evR_sz _ _ (List.getElem_mem _))
  simp only [evR_el] at e1
  have hfl:=eq_true (evC_flat (evs R)[i])
  obtain ⟨H1,r1,ms1⟩:=must_l2 w gv wf i c 0 (Nat.zero_le _) H P ms
  rw [Int.natCast_zero] at r1
  obtain ⟨H',g1,g2⟩:=must_l3 hE (i+1) (by omega) H1 _ ms1
  refine ⟨H',?_,g2.congr fun a b ha hb=>?_⟩
  ·rw [← g1,← hB]
   conv=>lhs; rw [s_loop_at hB]
   clear gv w wf g1 g2 ms ms1
   generalize (evs R)[i]=e at *
   generalize (evs R).length=n at *
   simp [ir_gmo_view_mustl3,go_sem,c,cI,iu,huf,e1,e3,hfl,r1,evStore,splice,-Int.natCast_add]
  ·have hs:=gm_sz (co:=co) c
   have hl:=gm_ld (co:=co) c
   constructor
   ·rintro ((q | ⟨k',_,q2,q3,q4⟩) | ⟨i',k',q1,q2,q3⟩)
    ·exact .inl q
    ·exact .inr ⟨i,k',Nat.le_refl _,c,by rw [hl]; exact q3,by rw [hs]; exact q2,q4⟩
    ·exact .inr ⟨i',k',by omega,q2,q3⟩
   ·rintro (q | ⟨i',k',q1,q2,q3,q4,q5⟩)
    ·exact .inl (.inl q)
    ·by_cases e:i'=i
     ·subst e
      exact .inl (.inr ⟨k',Nat.zero_le _,by rw [← hs]; exact q4,by rw [← hl]; exact q3,q5⟩)
     ·exact .inr ⟨i',k',by omega,q2,q3,q4,q5⟩
 ·obtain rfl:i=(evs R).length:=by omega
  refine ⟨H,?_,ms.congr fun a b _ _=>?_⟩
  ·rw [← hB,s_loop_at hB]
   simp [ir_gmo_view_mustl3,go_sem]
  ·constructor
   ·exact .inl
   ·rintro (q | ⟨i',k',q1,q2,_⟩)
    ·exact q
    ·omega
termination_by (evs R).length - i
theorem must_ok (hE:(evs R).length≤512) {Pp:Nat→Nat→Bool} (hAll:∀ H:List Vm.Obj,∃ H' v T I U,evI pg .heap n_ppo_All [.agg [x0,lv 0,lv 1,lv 2,x4]] H=some (.ptr H.length 0 0,H')∧RelAt H' H.length v (evs R).length T I U∧(∀ i j,i<(evs R).length→j<(evs R).length→(U i).testBit j=Pp i j)∧(∀ q,q<H.length→H'[q]?=H[q]?)∧∀ q,mft (evs R).length T I q→H.length<q):
  ∃ H' pr v T I,evI pg .heap n_gmo_view_must [.ptr p 0 0] Hv=some (.ptr pr 0 0,H')∧Mst Hv H' pr v (evs R).length T I (fun c d=>Pp c d=true∨(gmOf (evs R) co).edg c d):=by
 obtain ⟨H1,v,T,I,U,a1,a2,a3,a4,a5⟩:=hAll Hv
 have ms1:Mst Hv H1 Hv.length v (evs R).length T I (fun c d=>Pp c d=true):=⟨⟨U,a2,fun c d hc hd=>by rw [a3 c d hc hd]⟩,a4,fun q hq=>by
  rcases hq with rfl | hq
  ·exact Nat.le_refl _
  ·exact Nat.le_of_lt (a5 q hq)⟩
 obtain ⟨H2,r2,ms2⟩:=must_l1 w gv wf 0 (Nat.zero_le _) H1 _ ms1
 obtain ⟨H3,r3,ms3⟩:=must_l3 w gv wf hE 0 (Nat.zero_le _) H2 _ ms2
 rw [Int.natCast_zero] at r2 r3
 refine ⟨H3,Hv.length,v,T,I,?_,ms3.congr fun c d hc hd=>?_⟩
 ·have hob:=gv.ob
  simp only [gC] at hob
  have hpl:=get_lt hob
  have hoe:=get_el hob
  have hob1:=(gv.frame a4).ob
  simp only [gC] at hob1
  have hpl1:=get_lt hob1
  have hoe1:=get_el hob1
  have hob2:=(gv.frame ms2.fr).ob
  simp only [gC] at hob2
  have hpl2:=get_lt hob2
  have hoe2:=get_el hob2
  have i4:=w.co4.is
  have h4r:(rows x4).length=cv.length:=by rw [w.co4.rows,slR_len]
  have iu:=w.ev.is
  have hur:(rows u).length=(evs R).length:=by rw [w.ev.rows,evR_len]
  have i0:=w.im.is
  have j0:=(w.li 0 (by omega)).1.is
  have j1:=(w.li 1 (by omega)).1.is
  have j2:=(w.li 2 (by omega)).1.is
  rw [s_fn fn_gmo_view_must]
  clear gv w wf ms1 ms2 ms3 a2 a3 a4 a5 hAll
  generalize (evs R).length=n at *
  simp [ir_gmo_view_must,go_sem,hob,hpl,hoe,hob1,hpl1,hoe1,hob2,hpl2,hoe2,a1,r2,r3,i4,h4r,iu,hur,i0,j0,j1,j2]
 ·unfold Gm.edg
  constructor
  ·rintro ((q | ⟨x,_,q1,j,q2,q3⟩) | ⟨i,k,_,q1,q2,q3,q4⟩)
   ·exact .inl q
   ·exact .inr (.inl ⟨x,q1,j,q2,q3⟩)
   ·exact .inr (.inr ⟨i,k,q1,q2,q3,q4⟩)
  ·rintro (q | ⟨x,q1,j,q2,q3⟩ | ⟨i,k,q1,q2,q3,q4⟩)
   ·exact .inl (.inl q)
   ·exact .inl (.inr ⟨x,Nat.zero_le _,q1,j,q2,q3⟩)
   ·exact .inr ⟨i,k,Nat.zero_le _,q1,q2,q3,q4⟩
end
theorem iI_clean7 (o:List Int):clean 7 (ils (iI o))=true:=e_clean_ils 6 _ (by
 simp only [List.all_eq_true]
 intro e he x hx
 obtain ⟨y,_,rfl⟩:=List.mem_map.1 he
 simp at hx; subst hx; rfl)
section
variable {x0:V} {lv:Nat→V} {x4:V} {R:Nat→List Rt} {img:List Nat} {cv:List V} {co:List (List Int)} (w:Lk x0 lv x4 (ils (evR (evs R))) R img cv co)
include w
theorem Search_no (hne:chk R img cv.length co≠0):evI pg .val n_gmo_Search [.agg [x0,lv 0,lv 1,lv 2,x4]] []=some (.tup [.nils,.int .i64 ((chk R img cv.length co:Nat):Int)],[]):=by
 have i0:=w.im.is
 have i4:=w.co4.is
 have j0:=(w.li 0 (by omega)).1.is
 have j1:=(w.li 1 (by omega)).1.is
 have j2:=(w.li 2 (by omega)).1.is
 have hl:=glook_no w rfl hne
 generalize chk R img cv.length co=ch at *
 have hne':¬ (ch:Int)=0:=by omega
 rw [s_fn fn_gmo_Search]
 simp [ir_gmo_Search,go_sem,hl,i0,i4,j0,j1,j2,hne,hne']
variable (h0:chk R img cv.length co=0) (wf:Wf R co) (hE:(evs R).length≤512) {Pp:Nat→Nat→Bool} (hAll:∀ H:List Vm.Obj,∃ H' v T I U,evI pg .heap n_ppo_All [.agg [x0,lv 0,lv 1,lv 2,x4]] H=some (.ptr H.length 0 0,H')∧RelAt H' H.length v (evs R).length T I U∧(∀ i j,i<(evs R).length→j<(evs R).length→(U i).testBit j=Pp i j)∧(∀ q,q<H.length→H'[q]?=H[q]?)∧∀ q,mft (evs R).length T I q→H.length<q)
include h0 wf hE hAll
theorem Search_ok:∃ W2 ov,evI pg .val n_gmo_Search [.agg [x0,lv 0,lv 1,lv 2,x4]] []=some (.tup [ov,.int .i64 ((srch (gmOf (evs R) co) W2:Nat):Int)],[]) ∧
  (∀ c d,c<(evs R).length→d<(evs R).length→((W2 c).testBit d=true↔Pp c d=true∨(gmOf (evs R) co).edg c d))∧isS ov=true∧clean 7 ov=true ∧
  (srch (gmOf (evs R) co) W2=0→∃ o,kah (bitW W2) (evs R).length (evs R).length (fun _=>false) []=some o∧Sl ov (iI o))∧(srch (gmOf (evs R) co) W2≠0→ov=.nils):=by
 have i0:=w.im.is
 have i4:=w.co4.is
 have j0:=(w.li 0 (by omega)).1.is
 have j1:=(w.li 1 (by omega)).1.is
 have j2:=(w.li 2 (by omega)).1.is
 obtain ⟨Hv,l,cs,cm,cl,hlook,gv⟩:=glook_ok w rfl h0 (fun x hx=>wf.nd hx)
 have hmay:=may_ok w gv wf hE
 have gv1:=gv.frame (H':=arH Hv [[.ptr 1 0 0]]) fun q hq=>arH_old _ hq
 obtain ⟨H1,pr,v,T,I,m1,ms⟩:=must_ok w gv1 wf hE hAll
 obtain ⟨⟨U,r,hp⟩,_,_⟩:=ms
 obtain ⟨rv,q1,q2,_⟩:=r.imm true
 have q2:=fun vs tk=>q2 vs tk 4
 simp only [Nat.reduceAdd] at q2
 have ho:=r.obj
 have hol:=get_lt ho
 have hog:=get_el ho hol
 have hO:=Order_ok true _ _ _ q1
 have hgn:(gmOf (evs R) co).n=(evs R).length:=rfl
 generalize hH2:arH Hv [[.ptr 1 0 0]]=H2 at *
 by_cases hm:mayc (gmOf (evs R) co)=0
 ·cases hk:kah (bitW U) (evs R).length (evs R).length (fun _=>false) [] with
  | none=>
   rw [hk] at hO
   simp only [ordV] at hO
   have hs:srch (gmOf (evs R) co) U=14:=by
    unfold srch
    rw [hgn,hk,hm]
    rfl
   refine ⟨U,.nils,?_,hp,rfl,rfl,fun h=>?_,fun _=>rfl⟩
   ·rw [hs,s_fn fn_gmo_Search]
    clear gv gv1 r hp q1 hAll wf w
    rw [hm] at hmay
    simp [ir_gmo_Search,go_sem,hlook,hmay,m1,i0,i4,j0,j1,j2,ho,hol,hog,q2,hO]
   ·rw [hs] at h; cases h
  | some o=>
   rw [hk] at hO
   simp only [ordV] at hO
   have hs:srch (gmOf (evs R) co) U=0:=by
    unfold srch
    rw [hgn,hk,hm]
    rfl
   have hcl:=iI_clean7 o
   have hsl:=Sl.ils (iI o)
   refine ⟨U,ils (iI o),?_,hp,hsl.is,hcl,fun _=>⟨o,hk,hsl⟩,fun h=>absurd hs h⟩
   rw [hs,s_fn fn_gmo_Search]
   clear gv gv1 r hp q1 hAll wf w
   rw [hm] at hmay
   have hsi:=hsl.is
   generalize ils (iI o)=ov at *
   simp [ir_gmo_Search,go_sem,hlook,hmay,m1,i0,i4,j0,j1,j2,ho,hol,hog,q2,hO,hcl,hsi]
 ·have hs:srch (gmOf (evs R) co) U=mayc (gmOf (evs R) co):=by
   unfold srch
   rw [if_pos hm]
  refine ⟨U,.nils,?_,hp,rfl,rfl,fun h=>?_,fun _=>rfl⟩
  ·rw [hs,s_fn fn_gmo_Search]
   clear gv gv1 r hp q1 hAll wf w
   generalize mayc (gmOf (evs R) co)=mc at *
   have hm':¬ (mc:Int)=0:=by omega
   simp [ir_gmo_Search,go_sem,hlook,hmay,i0,i4,j0,j1,j2,hm,hm']
  ·rw [hs] at h
   exact absurd h hm
end
def one23 (op id:Int) (addr:Int) (p s:Int):List V:=[.int .u64 0,.int .i64 op,.int .i64 0,.int .i64 0,.int .i64 0,.int .i64 0,.bool false,.bool false,.int .i64 p,.int .i64 s,.int .i64 0,.int .u64 0,.int .u64 addr,.int .u64 0,.int .u64 0,.bool false,.int .i64 id,.flt 0,.int .i64 (-1),.int .i64 (-1),.int .i64 (-1),.int .i64 (-1),.int .i64 (-1),.int .i64 (-1),.int .i64 (-1),.int .i64 (-1),.int .i64 (-1)]
theorem one_a:evI pg .val n_undertowlaw23_one [.int .i64 18,.int .i64 0,.int .u64 0] []=some (.agg (one23 18 0 0 0 0),[]):=closed irL_ok 100 (by kernel_rfl)
theorem one_b:evI pg .val n_undertowlaw23_one [.int .i64 11,.int .i64 3,.int .u64 1] []=some (.agg (one23 11 3 1 0 0),[]):=closed irL_ok 100 (by kernel_rfl)
theorem one_c:evI pg .val n_undertowlaw23_one [.int .i64 18,.int .i64 1,.int .u64 1] []=some (.agg (one23 18 1 1 0 0),[]):=closed irL_ok 100 (by kernel_rfl)
theorem one_d:evI pg .val n_undertowlaw23_one [.int .i64 11,.int .i64 4,.int .u64 0] []=some (.agg (one23 11 4 0 0 0),[]):=closed irL_ok 100 (by kernel_rfl)
theorem one_e:evI pg .val n_undertowlaw23_one [.int .i64 50,.int .i64 6,.int .u64 0] []=some (.agg (one23 50 6 0 0 0),[]):=closed irL_ok 100 (by kernel_rfl)
def im23:V:=.isl false [[.int .u8 0],[.int .u8 0]]
def co23:V:=.isl false [[.isl false [[.int .i64 0]]],[.isl false [[.int .i64 1]]]]
def c23:List V:=[im23,.isl false [one23 18 0 0 0 0,one23 11 3 1 0 0],.isl false [one23 18 1 1 0 0,one23 11 4 0 0 0],.nils,co23]
def d23:List V:=[im23,.isl false [one23 18 0 0 0 0,one23 50 6 0 3 3,one23 11 3 1 0 0],.isl false [one23 18 1 1 0 0,one23 50 7 0 3 3,one23 11 4 0 0 0],.nils,co23]
def o23:V:=.isl false [[.int .i64 1],[.int .i64 2],[.int .i64 3],[.int .i64 0]]
theorem search_c:evI pg .val n_gmo_Search [.agg c23] []=some (.tup [o23,.int .i64 0],[]):=closed irL_ok 600 (by kernel_rfl)
theorem judge_o:evI pg .val n_gmo_Judge [.agg c23,o23] []=some (.int .i64 0,[]):=closed irL_ok 600 (by kernel_rfl)
theorem judge_b:evI pg .val n_gmo_Judge [.agg c23,.isl false [[.int .i64 0],[.int .i64 1],[.int .i64 2]]] []=some (.int .i64 9,[]):=closed irL_ok 600 (by kernel_rfl)
theorem search_d:evI pg .val n_gmo_Search [.agg d23] []=some (.tup [.nils,.int .i64 14],[]):=closed irL_ok 600 (by kernel_rfl)
def m23:V:=.ip false [.isl false [[.isl false [[.int .u64 2]]],[.isl false [[.int .u64 4]]],[.isl false [[.int .u64 8]]],[.isl false [[.int .u64 1]]]]] 0
theorem must_d:evI pg .val n_gmo_Must [.agg d23] []=some (m23,[]):=closed irL_ok 600 (by kernel_rfl)
theorem must_l:evI pg .val n_rel_Rel_Len [m23] []=some (.int .i64 4,[]):=closed irL_ok 600 (by kernel_rfl)
set_option maxHeartbeats 4000000 in
theorem alive23:evI pg .val n_undertowlaw23_alive [] []=some (.bool true,[]):=by
 have fa:=one_a
 have fb:=one_b
 have fc:=one_c
 have fd:=one_d
 have fe:=one_e
 have s1:=search_c
 have s2:=search_d
 have j1:=judge_o
 have j2:=judge_b
 have m1:=must_d
 have m2:=must_l
 have hm:clean 8 m23=true:=rfl
 have ho:isS o23=true:=rfl
 have hor:(rows o23).length=4:=rfl
 have him:∀ m,toImm m false 8 m23=some m23:=fun m=>rfl
 have hB:2≤maxB:=by unfold maxB; omega
 simp only [c23,d23,im23,co23,one23] at fa fb fc fd fe s1 s2 j1 j2 m1
 rw [s_fn fn_undertowlaw23_alive]
 generalize m23=mv at *
 generalize o23=ov at *
 simp [ir_undertowlaw23_alive,go_sem,fa,fb,fc,fd,fe,s1,s2,j1,j2,m1,m2,hm,him,ho,hor,hB,evStore,splice,litParts,immAll,V.imm,V.cells,V.exp]
end Go.Proofs.YtimiademofajeaaGreatDoor
