/- Lemmas (no claim): K23e, K23f. -/
import Derived.Test.YtimiademofajeaaGreatDoorP19
set_option linter.unusedSimpArgs false
set_option linter.unusedVariables false
set_option maxRecDepth 20000
namespace Go.Proofs.YtimiademofajeaaGreatDoor
open Go Go.Vm
theorem places_l0 (H:List Vm.Obj) (n:Nat) (hn:n≤100000) (ov:V) (L:List Int) (hu:Sl ov (iI L)) (hL:L.length≤100000) (j:Nat) (hj:j≤L.length) (h:Nat→Int):
  ∃ h2,evCI pg (.loop ir_gmo_view_placesl0) ⟨[.undef,ov,.undef,.undef,.rsl H.length 0 n,.undef,.undef,ov,.int .i64 (L.length:Int),.int .i64 (j:Int),.undef,.undef],⟨[],[],arH H (nR n h)⟩⟩ =
   some (match fitA n h j (L.drop j) with
   | some h'=>(.exit 0,⟨[.undef,ov,.undef,.undef,.rsl H.length 0 n,.undef,.undef,ov,.int .i64 (L.length:Int),.int .i64 (L.length:Int),.bool false,.undef],⟨[],[],arH H (nR n h')⟩⟩)
   | none=>(.ret,⟨[.undef,.undef,.nils,.bool false,.undef,.undef,.undef,.undef,.undef,.undef,.undef,.undef],⟨[],[],arH H (nR n h2)⟩⟩)):=by
 obtain ⟨B,hB⟩:∃ B,B=Vm.C.loop ir_gmo_view_placesl0:=⟨_,rfl⟩
 by_cases c:j<L.length
 ·have e3:=succ_i64 c (by omega)
  have cI:(j:Int)<(L.length:Int):=by omega
  have e1:=fun m=>hu.ia (sz:=1) m .i64 (i:=j) (by rw [iI_len]; exact c) (by simp [iI])
  simp only [iI_el] at e1
  rw [List.drop_eq_getElem_cons c]
  generalize L[j]=a at *
  have hgl:=nR_len n h
  unfold fitA
  by_cases h0:a<0
  ·have hc:¬ (0≤a∧a<n∧h a.toNat≤0):=fun q=>by omega
   refine ⟨h,?_⟩
   rw [if_neg hc,← hB,s_loop_at hB]
   generalize nR n h=ar at *
   simp [ir_gmo_view_placesl0,go_sem,hu.is,c,cI,e1,e3,arH_at,arH_len,arH_el,arH_set,hgl,asIx_nat,h0,-Int.natCast_add]
  ·obtain ⟨a,rfl⟩:∃ k:Nat,a=k:=⟨a.toNat,by omega⟩
   by_cases h1:a<n
   ·have h1':¬ (n:Int)≤(a:Int):=by omega
    have h1n:¬ n≤a:=by omega
    have hgg:=nR_get h h1
    have hal:a<(nR n h).length:=by omega
    have hae:=nR_el n h a hal
    by_cases h2:h a≤0
    ·have hc:(0≤(a:Int)∧(a:Int)<n∧h (a:Int).toNat≤0):=⟨by omega,by omega,h2⟩
     obtain ⟨h',ih⟩:=places_l0 H n hn ov L hu hL (j+1) (by omega) (fun b=>if b=(a:Int).toNat then (j:Int)+1 else h b)
     refine ⟨h',?_⟩
     rw [if_pos hc,← ih,← hB]
     conv=>lhs; rw [s_loop_at hB]
     have h3:¬ 0<h a:=by omega
     have hjj:(j:Int)+1=((j+1:Nat):Int):=by omega
     rw [Int.toNat_natCast,hjj,← nR_set n h a ((j+1:Nat):Int)]
     generalize nR n h=ar at *
     generalize h a=v at *
     simp [ir_gmo_view_placesl0,go_sem,hu.is,c,cI,e1,e3,arH_at,arH_len,arH_el,arH_set,hgl,asIx_nat,h0,h1,h1',h1n,hgg,hal,hae,h3,-Int.natCast_add]
    ·have hc:¬ (0≤(a:Int)∧(a:Int)<n∧h (a:Int).toNat≤0):=fun q=>h2 q.2.2
     refine ⟨h,?_⟩
     rw [if_neg hc,← hB,s_loop_at hB]
     have h3:0<h a:=by omega
     generalize nR n h=ar at *
     generalize h a=v at *
     simp [ir_gmo_view_placesl0,go_sem,hu.is,c,cI,e1,e3,arH_at,arH_len,arH_el,arH_set,hgl,asIx_nat,h0,h1,h1',h1n,hgg,hal,hae,h3,-Int.natCast_add]
   ·have hc:¬ (0≤(a:Int)∧(a:Int)<n∧h (a:Int).toNat≤0):=fun q=>by omega
    have h1':(n:Int)≤(a:Int):=by omega
    have h1n:n≤a:=by omega
    refine ⟨h,?_⟩
    rw [if_neg hc,← hB,s_loop_at hB]
    generalize nR n h=ar at *
    simp [ir_gmo_view_placesl0,go_sem,hu.is,c,cI,e1,e3,arH_at,arH_len,arH_el,arH_set,hgl,asIx_nat,h0,h1,h1',h1n,-Int.natCast_add]
 ·obtain rfl:j=L.length:=by omega
  refine ⟨h,?_⟩
  rw [← hB,s_loop_at hB,List.drop_length]
  simp [ir_gmo_view_placesl0,go_sem,fitA]
termination_by L.length - j
section
variable {x0:V} {lv:Nat→V} {x4 u:V} {R:Nat→List Rt} {img:List Nat} {cv:List V} {co:List (List Int)} (w:Lk x0 lv x4 u R img cv co)
 {H:List Vm.Obj} {p mid:Nat} {l:List (Int × V)} {cs:V} {cm:Nat→Nat} {cl:Nat→List (Int × V)} (gv:GV H p mid l cs cm cl x0 lv x4 u (evs R) co) (hE:(evs R).length≤512)
include w gv hE
theorem places2_ok (ov:V) (L:List Int) (hu:Sl ov (iI L)) (hL:L.length≤100000):
  ∃ h2,evI pg .heap n_gmo_view_places [.ptr p 0 0,ov] H=some (match fitA (evs R).length (fun _=>0) 0 L with
   | some h=>(.tup [.rsl H.length 0 (evs R).length,.bool (decide (L.length=(evs R).length))],arH H (nR (evs R).length h))
   | none=>(.tup [.nils,.bool false],arH H (nR (evs R).length h2))):=by
 have hob:=gv.ob
 simp only [gC] at hob
 have hpl:=get_lt hob
 have hoe:=get_el hob
 have iu:=w.ev.is
 have hur:(rows u).length=(evs R).length:=by rw [w.ev.rows,evR_len]
 generalize (evs R).length=n at *
 obtain ⟨h2,h0⟩:=places_l0 H n (by omega) ov L hu hL 0 (by omega) (fun _=>0)
 refine ⟨h2,?_⟩
 rw [List.drop_zero,nR_rep,Int.natCast_zero] at h0
 have hk1:n * 8≤maxB:=by unfold maxB; omega
 have hk5:(n:Int)≤9223372036854775807:=by omega
 have hui:=hu.is
 have hulr:(rows ov).length=L.length:=by rw [hu.rows,iI_len]
 rw [s_fn fn_gmo_view_places]
 cases hf:fitA n (fun _=>0) 0 L with
 | none=>
  rw [hf] at h0
  simp [ir_gmo_view_places,go_sem,hob,hpl,hoe,iu,hur,hui,hulr,hk1,hk5,arH_mk,h0]
 | some h=>
  rw [hf] at h0
  by_cases q:L.length=n
  ·rw [q] at h0 hulr ⊢
   simp [ir_gmo_view_places,go_sem,hob,hpl,hoe,iu,hur,hui,hulr,hk1,hk5,arH_mk,h0]
  ·have q':¬ (L.length:Int)=(n:Int):=by omega
   simp [ir_gmo_view_places,go_sem,hob,hpl,hoe,iu,hur,hui,hulr,hk1,hk5,arH_mk,h0,q,q']
def bad1 (E:List Ev) (h:Nat→Int) (l:List Int) (k:Nat):Bool:=decide (h (at1 E (l.getD k 0))<h (at1 E (l.getD (k - 1) 0)))
omit hE in
theorem ordered_l0 (hin:∀ l∈co,∀ id∈l,at1 (evs R) id<(evs R).length) {q:Nat} {h:Nat→Int} (hq:H[q]?=some (.arr (nR (evs R).length h))) (x:Nat) (hx:x<cv.length) (y:List Int) (hy:co[x]?=some y) (k:Nat) (hk1:1≤k) (hk:k≤y.length+1):
  ∃ k1:Nat,evCI pg (.loop ir_gmo_view_orderedl0) ⟨[.ptr p 0 0,.rsl q 0 (evs R).length,.undef,cv[x],.int .i64 (k:Int),x4,.int .i64 (cv.length:Int),.int .i64 (x:Int),.undef,.undef,.undef],⟨[],[],H⟩⟩ =
   some (if (List.range' k (y.length - k)).any (bad1 (evs R) h y)=true then (.ret,⟨[.undef,.undef,.bool false,.undef,.undef,.undef,.undef,.undef,.undef,.undef,.undef],⟨[],[],H⟩⟩)
    else (.exit 2,⟨[.ptr p 0 0,.rsl q 0 (evs R).length,.undef,cv[x],.int .i64 (k1:Int),x4,.int .i64 (cv.length:Int),.int .i64 (x:Int),.undef,.bool false,.undef],⟨[],[],H⟩⟩)):=by
 obtain ⟨B,hB⟩:∃ B,B=Vm.C.loop ir_gmo_view_orderedl0:=⟨_,rfl⟩
 have hob:=gv.ob
 simp only [gC] at hob
 have hpl:=get_lt hob
 have hoe:=get_el hob
 have hql:=get_lt hq
 have hml:=get_lt gv.mp
 have hmo:=gv.mp
 have hme:=get_el gv.mp
 have hqe:=get_el hq
 have hyc:y∈co:=List.mem_of_getElem? hy
 have hsl:=w.cs.2 x cv[x] y (List.getElem?_eq_getElem hx) hy
 have hol:=w.ol y hyc
 have hsi:=hsl.is
 have hsf:=hsl.fpR
 have hsr:(rows cv[x]).length=y.length:=by rw [hsl.rows,iI_len]
 have i4:=w.co4.is
 by_cases c:k<y.length
 ·have e3:=succ_i64 c (by omega)
  have cI:(k:Int)<(y.length:Int):=by omega
  have ew:IntKind.i64.wrap ((k:Int) - 1)=((k - 1:Nat):Int):=by rw [wrap_i64 (by omega) (by omega)]; omega
  have c1:k - 1<y.length:=by omega
  have e1:=fun m=>hsl.ia (sz:=1) m .i64 (i:=k) (by rw [iI_len]; exact c) (by simp [iI])
  have e2:=fun m=>hsl.ia (sz:=1) m .i64 (i:=k - 1) (by rw [iI_len]; exact c1) (by simp [iI])
  simp only [iI_el] at e1 e2
  have hd:List.range' k (y.length - k)=k :: List.range' (k+1) (y.length - (k+1)):=by
   have:y.length - k=(y.length - (k+1))+1:=by omega
   rw [this,List.range'_succ]
  have hdef:bad1 (evs R) h y k=decide (h (at1 (evs R) y[k])<h (at1 (evs R) y[k - 1])):=by
   unfold bad1
   rw [List.getD_eq_getElem?_getD,List.getD_eq_getElem?_getD,List.getElem?_eq_getElem c,List.getElem?_eq_getElem c1]
   rfl
  have a1:=hin y hyc y[k] (List.getElem_mem _)
  have a2:=hin y hyc y[k - 1] (List.getElem_mem _)
  have hlk1:=fun vs tk=>gv.look vs tk y[k]
  have hlk2:=fun vs tk=>gv.look vs tk y[k - 1]
  have hgl:=nR_len (evs R).length h
  have g1:=nR_get h a1
  have g2:=nR_get h a2
  have gl1:at1 (evs R) y[k]<(nR (evs R).length h).length:=by omega
  have gl2:at1 (evs R) y[k - 1]<(nR (evs R).length h).length:=by omega
  have ge1:=nR_el (evs R).length h _ gl1
  have ge2:=nR_el (evs R).length h _ gl2
  rw [hd,List.any_cons,hdef]
  obtain ⟨k1,ih⟩:=ordered_l0 hin hq x hx y hy (k+1) (by omega) (by omega)
  refine ⟨k1,?_⟩
  rw [← hB] at ih
  rw [← hB,s_loop_at hB]
  clear hd hdef hin
  generalize y[k]=i1 at *
  generalize y[k - 1]=i2 at *
  generalize at1 (evs R) i1=s1 at *
  generalize at1 (evs R) i2=s2 at *
  generalize cv[x]=v at *
  generalize nR (evs R).length h=ar at *
  generalize (evs R).length=n at *
  generalize h s1=v1 at *
  generalize h s2=v2 at *
  by_cases d:v1<v2
  ·rw [decide_eq_true d,Bool.true_or,if_pos rfl]
   clear ih
   simp [ir_gmo_view_orderedl0,go_sem,c,cI,hob,hpl,hoe,hq,hql,hqe,hml,hlk1,hlk2,hsi,hsf,hsr,i4,e1,e2,ew,asIx_nat,a1,a2,hgl,g1,g2,gl1,gl2,ge1,ge2,d,-Int.natCast_add]
  ·rw [decide_eq_false d,Bool.false_or,← ih]
   clear ih
   simp [ir_gmo_view_orderedl0,go_sem,c,cI,hob,hpl,hoe,hq,hql,hqe,hml,hlk1,hlk2,hsi,hsf,hsr,i4,e1,e2,e3,ew,asIx_nat,a1,a2,hgl,g1,g2,gl1,gl2,ge1,ge2,d,-Int.natCast_add]
 ·have h0:y.length - k=0:=by omega
  have cI:¬ (k:Int)<(y.length:Int):=by omega
  have cI2:(y.length:Int)≤(k:Int):=by omega
  have cn:y.length≤k:=by omega
  refine ⟨k,?_⟩
  rw [h0,← hB,s_loop_at hB]
  simp [ir_gmo_view_orderedl0,go_sem,c,cI,cI2,cn,hsi,hsf,hsr,i4]
termination_by y.length+1 - k
def bad2 (E:List Ev) (h:Nat→Int) (y:List Int):Bool:=(List.range' 1 (y.length - 1)).any (bad1 E h y)
omit hE in
theorem ordered_l1 (hin:∀ l∈co,∀ id∈l,at1 (evs R) id<(evs R).length) {q:Nat} {h:Nat→Int} (hq:H[q]?=some (.arr (nR (evs R).length h))) (x:Nat) (hx:x≤cv.length):
  evCI pg (.loop ir_gmo_view_orderedl1) ⟨[.ptr p 0 0,.rsl q 0 (evs R).length,.undef,.undef,.undef,x4,.int .i64 (cv.length:Int),.int .i64 (x:Int),.undef,.undef,.undef],⟨[],[],H⟩⟩ =
   some (if (co.drop x).any (bad2 (evs R) h)=true then (.ret,⟨[.undef,.undef,.bool false,.undef,.undef,.undef,.undef,.undef,.undef,.undef,.undef],⟨[],[],H⟩⟩)
    else (.exit 0,⟨[.ptr p 0 0,.rsl q 0 (evs R).length,.undef,.undef,.undef,x4,.int .i64 (cv.length:Int),.int .i64 (cv.length:Int),.bool false,.undef,.undef],⟨[],[],H⟩⟩)):=by
 obtain ⟨B,hB⟩:∃ B,B=Vm.C.loop ir_gmo_view_orderedl1:=⟨_,rfl⟩
 have i4:=w.co4.is
 have h4f:=w.co4.fpR
 have hcl:=w.cl
 have hco:=w.cs.1
 by_cases c:x<cv.length
 ·have e3:=succ_i64 c (by omega)
  have cI:(x:Int)<(cv.length:Int):=by omega
  have ca:x<co.length:=by omega
  have e1:=fun m=>w.co4.ia (sz:=1) m .i64 (i:=x) (by rw [slR_len]; exact c) (slR_sz _ _ (List.getElem_mem _))
  simp only [slR_el] at e1
  have hsl:=w.cs.2 x cv[x] co[x] (List.getElem?_eq_getElem c) (List.getElem?_eq_getElem ca)
  have hsi:=hsl.is
  have hsr:(rows cv[x]).length=(co[x]).length:=by rw [hsl.rows,iI_len]
  have hd:co.drop x=co[x] :: co.drop (x+1):=List.drop_eq_getElem_cons ca
  obtain ⟨k1,hl0⟩:=ordered_l0 w gv hin hq x c co[x] (List.getElem?_eq_getElem ca) 1 (by omega) (by omega)
  have hb2:(List.range' 1 ((co[x]).length - 1)).any (bad1 (evs R) h co[x])=bad2 (evs R) h co[x]:=rfl
  rw [hb2,Int.natCast_one] at hl0
  rw [hd,List.any_cons]
  have ih:=ordered_l1 hin hq (x+1) (by omega)
  rw [← hB] at ih
  rw [← hB,s_loop_at hB]
  clear hd hb2 hin
  cases d:bad2 (evs R) h co[x] with
  | true=>
   rw [d,if_pos rfl] at hl0
   rw [Bool.true_or,if_pos rfl]
   clear ih
   simp [ir_gmo_view_orderedl1,go_sem,c,cI,i4,h4f,e1,hsi,hsr,hl0,-Int.natCast_add]
  | false=>
   rw [d,if_neg (by simp)] at hl0
   rw [Bool.false_or,← ih]
   clear ih
   simp [ir_gmo_view_orderedl1,go_sem,c,cI,i4,h4f,e1,e3,hsi,hsr,hl0,-Int.natCast_add]
 ·obtain rfl:x=cv.length:=by omega
  rw [List.drop_eq_nil_of_le (by omega),← hB,s_loop_at hB]
  simp [ir_gmo_view_orderedl1,go_sem]
termination_by cv.length - x
omit hE in
theorem ordered_ok (hin:∀ l∈co,∀ id∈l,at1 (evs R) id<(evs R).length) {q:Nat} {h:Nat→Int} (hq:H[q]?=some (.arr (nR (evs R).length h))):
  evI pg .heap n_gmo_view_ordered [.ptr p 0 0,.rsl q 0 (evs R).length] H=some (.bool (!co.any (bad2 (evs R) h)),H):=by
 have hl1:=ordered_l1 w gv hin hq 0 (Nat.zero_le _)
 rw [List.drop_zero,Int.natCast_zero] at hl1
 have hob:=gv.ob
 simp only [gC] at hob
 have hpl:=get_lt hob
 have hoe:=get_el hob
 have i4:=w.co4.is
 have h4r:(rows x4).length=cv.length:=by rw [w.co4.rows,slR_len]
 rw [s_fn fn_gmo_view_ordered]
 cases d:co.any (bad2 (evs R) h) with
 | true=>
  rw [d,if_pos rfl] at hl1
  simp [ir_gmo_view_ordered,go_sem,hob,hpl,hoe,i4,h4r,hl1]
 | false=>
  rw [d,if_neg (by simp)] at hl1
  simp [ir_gmo_view_ordered,go_sem,hob,hpl,hoe,i4,h4r,hl1]
end
end Go.Proofs.YtimiademofajeaaGreatDoor
namespace Go.Proofs.YtimiademofajeaaGreatDoor
open Go Go.Vm
theorem gbst_t {c:Nat→Bool} {p:Nat→Int} {k:Nat} (h:c k=true):gbst c p (k+1)=match gbst c p k with
  | none=>some k
  | some m=>if p m<p k then some k else some m:=by
 show (if c k=true then _ else _)=_
 rw [if_pos h]
 rfl
theorem gbst_f {c:Nat→Bool} {p:Nat→Int} {k:Nat} (h:c k=false):gbst c p (k+1)=gbst c p k:=by
 show (if c k=true then _ else _)=_
 rw [if_neg (by rw [h]; simp)]
section
variable {x0:V} {lv:Nat→V} {x4 u:V} {R:Nat→List Rt} {img:List Nat} {cv:List V} {co:List (List Int)} (w:Lk x0 lv x4 u R img cv co)
 {H:List Vm.Obj} {p mid:Nat} {l:List (Int × V)} {cs:V} {cm:Nat→Nat} {cl:Nat→List (Int × V)} (gv:GV H p mid l cs cm cl x0 lv x4 u (evs R) co) (hE:(evs R).length≤512)
include w gv hE
set_option maxHeartbeats 4000000 in
theorem latest_l0 {q:Nat} {h:Nat→Int} (hq:H[q]?=some (.arr (nR (evs R).length h))) {i:Nat} (hi:i<(evs R).length) (k x:Nat) (hx:x≤100000) (s:Nat) (hs:s≤(evs R).length):
  evCI pg (.loop ir_gmo_view_latestl0) ⟨[.ptr p 0 0,.rsl q 0 (evs R).length,.int .i64 (i:Int),.int .i64 (k:Int),.undef,.int .i64 (x:Int),.int .i64 (fdn (gbst ((gmOf (evs R) co).cand h i x) h s)),.undef,.undef,.undef,.int .i64 ((evs R).length:Int),.int .i64 (s:Int),.undef,.undef,.undef,.undef],⟨[],[],H⟩⟩=some (.exit 0,⟨[.ptr p 0 0,.rsl q 0 (evs R).length,.int .i64 (i:Int),.int .i64 (k:Int),.undef,.int .i64 (x:Int),.int .i64 (fdn (gbst ((gmOf (evs R) co).cand h i x) h (evs R).length)),.undef,.undef,.undef,.int .i64 ((evs R).length:Int),.int .i64 ((evs R).length:Int),.bool false,.undef,.undef,.undef],⟨[],[],H⟩⟩):=by
 obtain ⟨B,hB⟩:∃ B,B=Vm.C.loop ir_gmo_view_latestl0:=⟨_,rfl⟩
 have hql:=get_lt hq
 have hqe:=get_el hq
 by_cases c:s<(evs R).length
 ·have e3:=succ_i64 c (by omega)
  have cI:(s:Int)<((evs R).length:Int):=by omega
  have hst:=stores_ok w gv c x hx
  have hah:=ahead_ok w gv c hi
  have hgl:=nR_len (evs R).length h
  have g1:=nR_get h c
  have gl1:s<(nR (evs R).length h).length:=by omega
  have ge1:=nR_el (evs R).length h _ gl1
  have g2:=nR_get h hi
  have gl2:i<(nR (evs R).length h).length:=by omega
  have ge2:=nR_el (evs R).length h _ gl2
  have hcd:(gmOf (evs R) co).cand h i x s=(!decide (s=i) && ((gmOf (evs R) co).st s x && (decide (h s≤h i) || (gmOf (evs R) co).ah s i))):=rfl
  have ih:=latest_l0 hq hi k x hx (s+1) (by omega)
  have hbm:∀ m,gbst ((gmOf (evs R) co).cand h i x) h s=some m→m<(evs R).length∧(nR (evs R).length h)[m]?=some [.int .i64 (h m)]∧m<(nR (evs R).length h).length∧∀ ql:m<(nR (evs R).length h).length,(nR (evs R).length h)[m]=[.int .i64 (h m)]:=by
   intro m hm
   have h1:=(gbst_some hm).1
   have h2:m<(evs R).length:=by omega
   exact ⟨h2,nR_get h h2,by omega,fun ql=>nR_el _ h _ ql⟩
  have fn0:fdn none=-1:=rfl
  have fns:∀ j,fdn (some j)=(j:Int):=fun j=>rfl
  by_cases d1:s=i
  ·have hcf:(gmOf (evs R) co).cand h i x s=false:=by rw [hcd,decide_eq_true d1]; rfl
   rw [gbst_f hcf] at ih
   rw [← ih,← hB]
   conv=>lhs; rw [s_loop_at hB]
   clear ih hbm hcd hcf gv w
   generalize fdn (gbst ((gmOf (evs R) co).cand h i x) h s)=bv at *
   generalize (evs R).length=n at *
   subst d1
   simp [ir_gmo_view_latestl0,go_sem,c,cI,hq,hql,hqe,hst,e3,asIx_nat,hgl,hi,c,g1,gl1,ge1,g2,gl2,ge2,-Int.natCast_add]
  ·have d1':¬ (s:Int)=(i:Int):=by omega
   cases d2:(gmOf (evs R) co).st s x with
   | false=>
    have hcf:(gmOf (evs R) co).cand h i x s=false:=by rw [hcd,d2,Bool.false_and,Bool.and_false]
    rw [d2] at hst
    rw [gbst_f hcf] at ih
    rw [← ih,← hB]
    conv=>lhs; rw [s_loop_at hB]
    clear ih hbm hcd hcf gv w
    generalize fdn (gbst ((gmOf (evs R) co).cand h i x) h s)=bv at *
    generalize (evs R).length=n at *
    simp [ir_gmo_view_latestl0,go_sem,c,cI,hq,hql,hqe,hst,e3,asIx_nat,hgl,hi,c,g1,gl1,ge1,g2,gl2,ge2,d1,d1',-Int.natCast_add]
   | true=>
    rw [d2] at hst hcd
    rw [decide_eq_false d1,Bool.not_false,Bool.true_and,Bool.true_and] at hcd
    cases d3:(gmOf (evs R) co).ah s i with
    | false=>
     rw [d3] at hah hcd
     by_cases d4:h i<h s
     ·rw [decide_eq_false (by omega),Bool.or_false] at hcd
      rw [gbst_f hcd] at ih
      rw [← ih,← hB]
      conv=>lhs; rw [s_loop_at hB]
      clear ih hbm hcd gv w
      generalize fdn (gbst ((gmOf (evs R) co).cand h i x) h s)=bv at *
      generalize nR (evs R).length h=ar at *
      generalize (evs R).length=n at *
      generalize h i=vi at *
      generalize h s=vs at *
      simp [ir_gmo_view_latestl0,go_sem,c,cI,hq,hql,hqe,hst,e3,asIx_nat,hgl,hi,c,g1,gl1,ge1,g2,gl2,ge2,d1,d1',d4,hah,-Int.natCast_add]
     ·rw [decide_eq_true (by omega),Bool.true_or] at hcd
      have hg:=gbst_t (p:=h) hcd
      cases hbv:gbst ((gmOf (evs R) co).cand h i x) h s with
      | none=>
       rw [hbv] at hg
       simp only at hg
       rw [hg,fns] at ih
       rw [← ih,← hB,fn0]
       conv=>lhs; rw [s_loop_at hB]
       clear ih hbm hcd gv w hg hbv
       generalize nR (evs R).length h=ar at *
       generalize (evs R).length=n at *
       generalize h i=vi at *
       generalize h s=vs at *
       simp [ir_gmo_view_latestl0,go_sem,c,cI,hq,hql,hqe,hst,e3,asIx_nat,hgl,hi,c,g1,gl1,ge1,g2,gl2,ge2,d1,d1',d4,hah,-Int.natCast_add]
      | some m=>
       obtain ⟨m1,m2,m3,m4⟩:=hbm m hbv
       have m0:¬ (m:Int)<0:=by omega
       rw [hbv] at hg
       simp only at hg
       by_cases d5:h m<h s
       ·rw [if_pos d5] at hg
        rw [hg,fns] at ih
        rw [← ih,← hB,fns]
        conv=>lhs; rw [s_loop_at hB]
        clear ih hbm hcd gv w hg hbv
        generalize nR (evs R).length h=ar at *
        generalize (evs R).length=n at *
        generalize h i=vi at *
        generalize h s=vs at *
        generalize h m=vm at *
        simp [ir_gmo_view_latestl0,go_sem,c,cI,hq,hql,hqe,hst,e3,asIx_nat,hgl,hi,c,g1,gl1,ge1,g2,gl2,ge2,d1,d1',d4,hah,m0,m1,m2,m3,m4,d5,-Int.natCast_add]
       ·rw [if_neg d5] at hg
        rw [hg,fns] at ih
        rw [← ih,← hB,fns]
        conv=>lhs; rw [s_loop_at hB]
        clear ih hbm hcd gv w hg hbv
        generalize nR (evs R).length h=ar at *
        generalize (evs R).length=n at *
        generalize h i=vi at *
        generalize h s=vs at *
        generalize h m=vm at *
        simp [ir_gmo_view_latestl0,go_sem,c,cI,hq,hql,hqe,hst,e3,asIx_nat,hgl,hi,c,g1,gl1,ge1,g2,gl2,ge2,d1,d1',d4,hah,m0,m1,m2,m3,m4,d5,-Int.natCast_add]
    | true=>
     rw [d3] at hah hcd
     rw [Bool.or_true] at hcd
     have hg:=gbst_t (p:=h) hcd
     by_cases d4:h i<h s
     all_goals
      cases hbv:gbst ((gmOf (evs R) co).cand h i x) h s with
      | none=>
       rw [hbv] at hg
       simp only at hg
       rw [hg,fns] at ih
       rw [← ih,← hB,fn0]
       conv=>lhs; rw [s_loop_at hB]
       clear ih hbm hcd gv w hg hbv
       generalize nR (evs R).length h=ar at *
       generalize (evs R).length=n at *
       generalize h i=vi at *
       generalize h s=vs at *
       simp [ir_gmo_view_latestl0,go_sem,c,cI,hq,hql,hqe,hst,e3,asIx_nat,hgl,hi,c,g1,gl1,ge1,g2,gl2,ge2,d1,d1',d4,hah,-Int.natCast_add]
      | some m=>
       obtain ⟨m1,m2,m3,m4⟩:=hbm m hbv
       have m0:¬ (m:Int)<0:=by omega
       rw [hbv] at hg
       simp only at hg
       by_cases d5:h m<h s
       ·rw [if_pos d5] at hg
        rw [hg,fns] at ih
        rw [← ih,← hB,fns]
        conv=>lhs; rw [s_loop_at hB]
        clear ih hbm hcd gv w hg hbv
        generalize nR (evs R).length h=ar at *
        generalize (evs R).length=n at *
        generalize h i=vi at *
        generalize h s=vs at *
        generalize h m=vm at *
        simp [ir_gmo_view_latestl0,go_sem,c,cI,hq,hql,hqe,hst,e3,asIx_nat,hgl,hi,c,g1,gl1,ge1,g2,gl2,ge2,d1,d1',d4,hah,m0,m1,m2,m3,m4,d5,-Int.natCast_add]
       ·rw [if_neg d5] at hg
        rw [hg,fns] at ih
        rw [← ih,← hB,fns]
        conv=>lhs; rw [s_loop_at hB]
        clear ih hbm hcd gv w hg hbv
        generalize nR (evs R).length h=ar at *
        generalize (evs R).length=n at *
        generalize h i=vi at *
        generalize h s=vs at *
        generalize h m=vm at *
        simp [ir_gmo_view_latestl0,go_sem,c,cI,hq,hql,hqe,hst,e3,asIx_nat,hgl,hi,c,g1,gl1,ge1,g2,gl2,ge2,d1,d1',d4,hah,m0,m1,m2,m3,m4,d5,-Int.natCast_add]
 ·obtain rfl:s=(evs R).length:=by omega
  rw [← hB,s_loop_at hB]
  generalize fdn (gbst ((gmOf (evs R) co).cand h i x) h (evs R).length)=bv at *
  simp [ir_gmo_view_latestl0,go_sem]
termination_by (evs R).length - s
theorem latest_ok {q:Nat} {h:Nat→Int} (hq:H[q]?=some (.arr (nR (evs R).length h))) {i:Nat} (hi:i<(evs R).length) (had:0≤adE ((evs R)[i]).r) {k:Nat} (hk:k<8):
  evI pg .heap n_gmo_view_latest [.ptr p 0 0,.rsl q 0 (evs R).length,.int .i64 (i:Int),.int .i64 (k:Int)] H=some (.bool ((gmOf (evs R) co).lat h i k),H):=by
 have hob:=gv.ob
 simp only [gC] at hob
 have hpl:=get_lt hob
 have hoe:=get_el hob
 have hb:=evs_bd (R:=R) fun h hh=>(w.li h hh).2.1
 have iu:=w.ev.is
 have huf:=w.ev.fpR
 have hur:(rows u).length=(evs R).length:=by rw [w.ev.rows,evR_len]
 have e1:=fun m=>w.ev.ia (sz:=33) m .i64 (i:=i) (by rw [evR_len]; exact hi) (evR_sz _ _ (List.getElem_mem _))
 simp only [evR_el] at e1
 have hale:=adE_le (hb _ (List.getElem_mem hi)).ad.1
 obtain ⟨a,ha⟩:∃ a:Nat,adE ((evs R)[i]).r=(a:Int):=⟨_,(Int.toNat_of_nonneg had).symm⟩
 have hga:(gmOf (evs R) co).ad i=a:=by
  show ofE _ _ _ i=_
  rw [ofE_el hi,ha,Int.toNat_natCast]
 have ew:IntKind.i64.wrap ((a:Int)+(k:Int))=((a+k:Nat):Int):=by rw [wrap_i64 (by omega) (by omega)]; rfl
 have hl0:=latest_l0 w gv hE hq hi k (a+k) (by omega) 0 (Nat.zero_le _)
 have fn0:fdn none=-1:=rfl
 have fns:∀ j,fdn (some j)=(j:Int):=fun j=>rfl
 have hg0:gbst ((gmOf (evs R) co).cand h i (a+k)) h 0=none:=rfl
 rw [hg0,fn0,Int.natCast_zero] at hl0
 have hnm:=named_ok gv (((evs R)[i]).r.tg k)
 have ht:=evC_tgq (evs R)[i] hk
 have ht':=get_all ht
 have k8:(k:Int)<8:=by omega
 have k7:k≤7:=by omega
 have k28:20+k<33:=by omega
 have htg:(gmOf (evs R) co).tgt i k=if ((evs R)[i]).r.tg k=-1 then none else some (at1 (evs R) (((evs R)[i]).r.tg k)):=by
  show ofE _ _ _ i=_
  rw [ofE_el hi]
 have hdef:(gmOf (evs R) co).lat h i k=match (gmOf (evs R) co).tgt i k with
  | none=>decide (gbst ((gmOf (evs R) co).cand h i (a+k)) h (evs R).length=none)
  | some w=>decide (gbst ((gmOf (evs R) co).cand h i (a+k)) h (evs R).length=some w):=by
  rw [← hga]; rfl
 rw [hdef,htg,s_fn fn_gmo_view_latest]
 clear hdef htg hga hg0 hb
 generalize (evs R)[i]=e at *
 generalize at1 (evs R) (e.r.tg k)=wt at *
 generalize gbst ((gmOf (evs R) co).cand h i (a+k)) h (evs R).length=bv at *
 generalize (evs R).length=n at *
 by_cases c:e.r.tg k=-1
 ·rw [c] at hnm ht ht' ⊢
  simp only [if_true] at hnm ⊢
  cases bv with
  | none=>
   rw [fn0] at hl0
   simp [ir_gmo_view_latest,go_sem,hob,hpl,hoe,iu,huf,hur,e1,ha,ew,hl0,hnm,ht,ht',k8,k7,k28,hk,-Int.natCast_add]
  | some m=>
   rw [fns] at hl0
   have m0:¬ (m:Int)<0:=by omega
   simp [ir_gmo_view_latest,go_sem,hob,hpl,hoe,iu,huf,hur,e1,ha,ew,hl0,hnm,ht,ht',k8,k7,k28,hk,m0,-Int.natCast_add]
 ·rw [if_neg c] at hnm ⊢
  rw [decide_eq_true c] at hnm
  simp only
  cases bv with
  | none=>
   rw [fn0] at hl0
   have m0:¬ (-1:Int)=(wt:Int):=by omega
   simp [ir_gmo_view_latest,go_sem,hob,hpl,hoe,iu,huf,hur,e1,ha,ew,hl0,hnm,ht,ht',k8,k7,k28,hk,m0,-Int.natCast_add]
  | some m=>
   rw [fns] at hl0
   by_cases d:m=wt
   ·simp [ir_gmo_view_latest,go_sem,hob,hpl,hoe,iu,huf,hur,e1,ha,ew,hl0,hnm,ht,ht',k8,k7,k28,hk,d,-Int.natCast_add]
   ·have d':¬ (m:Int)=(wt:Int):=by omega
    simp [ir_gmo_view_latest,go_sem,hob,hpl,hoe,iu,huf,hur,e1,ha,ew,hl0,hnm,ht,ht',k8,k7,k28,hk,d,d',-Int.natCast_add]
end
end Go.Proofs.YtimiademofajeaaGreatDoor
