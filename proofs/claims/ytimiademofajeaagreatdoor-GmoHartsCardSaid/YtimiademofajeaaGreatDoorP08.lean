/- Lemmas (no claim): K22l, K22m. -/
import Derived.Test.YtimiademofajeaaGreatDoorP07
set_option linter.unusedSimpArgs false
set_option linter.unusedVariables false
set_option maxRecDepth 20000
namespace Go.Proofs.YtimiademofajeaaGreatDoor
open Go Go.Vm
def stH (at_:Int) (m:Ev):Bool:=m.st && hasE m at_
def byt (x y:Ev) (M:List Ev) (k:Nat):Bool:=hasE y (adE x.r+k) && (decide (x.r.tg k≠y.r.tg (adE x.r+k - adE y.r).toNat) && !M.any (stH (adE x.r+k)))
def r2 (x y:Ev) (M:List Ev):Bool:=(x.ld && (y.ld && ovE x y)) && (List.range (szO x.r.ins.op)).any (byt x y M)
theorem loads_l0 {bv:V} {M:List Ev} (hv:Sl bv (evR M)) (hM:M.length≤512) (t:Bool) (cc:List V) (a b n k:Int) (x y:Ev) (at_:Int) (i:Nat) (hi:i≤M.length):
  ((M.drop i).any (stH at_)=true→∃ j:Int,evCI pg (.loop ir_ppo_view_loadsl0) ⟨[.ip t cc 0,.int .i64 a,.int .i64 b,.undef,.lp 0 0,.lp 1 0,.undef,.int .i64 at_,.undef,.undef,.int .i64 n,.int .i64 k,.undef,.undef,bv,.int .i64 (M.length:Int),.int .i64 (i:Int),.undef,.undef],⟨[evC x,evC y,[]],[],[]⟩⟩ =
   some (.exit 1,⟨[.ip t cc 0,.int .i64 a,.int .i64 b,.undef,.lp 0 0,.lp 1 0,.undef,.int .i64 at_,.undef,.undef,.int .i64 n,.int .i64 k,.undef,.undef,bv,.int .i64 (M.length:Int),.int .i64 j,.undef,.bool true],⟨[evC x,evC y,[]],[],[]⟩⟩)) ∧
  ((M.drop i).any (stH at_)=false→evCI pg (.loop ir_ppo_view_loadsl0) ⟨[.ip t cc 0,.int .i64 a,.int .i64 b,.undef,.lp 0 0,.lp 1 0,.undef,.int .i64 at_,.undef,.undef,.int .i64 n,.int .i64 k,.undef,.undef,bv,.int .i64 (M.length:Int),.int .i64 (i:Int),.undef,.undef],⟨[evC x,evC y,[]],[],[]⟩⟩ =
   some (.exit 2,⟨[.ip t cc 0,.int .i64 a,.int .i64 b,.undef,.lp 0 0,.lp 1 0,.undef,.int .i64 at_,.undef,.undef,.int .i64 n,.int .i64 k,.undef,.undef,bv,.int .i64 (M.length:Int),.int .i64 (M.length:Int),.bool false,.undef],⟨[evC x,evC y,[]],[],[]⟩⟩)):=by
 obtain ⟨B,hB⟩:∃ B,B=Vm.C.loop ir_ppo_view_loadsl0:=⟨_,rfl⟩
 by_cases c:i<M.length
 ·have e3:=succ_i64 c (by omega)
  have e1:=fun m=>hv.ia (sz:=33) m .i64 (i:=i) (by rw [evR_len]; exact c) (evR_sz _ _ (List.getElem_mem _))
  simp only [evR_el] at e1
  have hh:=has_ok M[i] at_
  obtain ⟨ih1,ih2⟩:=loads_l0 hv hM t cc a b n k x y at_ (i+1) (by omega)
  rw [List.drop_eq_getElem_cons c,List.any_cons]
  rw [← hB] at ih1 ih2
  rw [← hB,s_loop_at hB]
  generalize M[i]=m at *
  have hm:stH at_ m=(m.st && hasE m at_):=rfl
  rw [hm]
  cases q1:m.st with
  | false=>
   have q1':=q1
   simp only [Ev.st] at q1'
   rw [Bool.false_and,Bool.false_or]
   refine ⟨fun h=>?_,fun h=>?_⟩
   ·obtain ⟨j,h⟩:=ih1 h
    refine ⟨j,?_⟩
    rw [← h]
    simp [ir_ppo_view_loadsl0,go_sem,hv.is,c,e1,e3,q1',evStore,splice,V.cells,V.exp,-Int.natCast_add]
   ·rw [← ih2 h]
    simp [ir_ppo_view_loadsl0,go_sem,hv.is,c,e1,e3,q1',evStore,splice,V.cells,V.exp,-Int.natCast_add]
  | true=>
   have q1':=q1
   simp only [Ev.st] at q1'
   rw [Bool.true_and]
   cases q2:hasE m at_ with
   | false=>
    rw [q2] at hh
    rw [Bool.false_or]
    refine ⟨fun h=>?_,fun h=>?_⟩
    ·obtain ⟨j,h⟩:=ih1 h
     refine ⟨j,?_⟩
     rw [← h]
     simp [ir_ppo_view_loadsl0,go_sem,hv.is,c,e1,e3,q1',hh,evStore,splice,V.cells,V.exp,-Int.natCast_add]
    ·rw [← ih2 h]
     simp [ir_ppo_view_loadsl0,go_sem,hv.is,c,e1,e3,q1',hh,evStore,splice,V.cells,V.exp,-Int.natCast_add]
   | true=>
    rw [q2] at hh
    rw [Bool.true_or]
    refine ⟨fun _=>⟨(i:Int),?_⟩,fun h=>by cases h⟩
    simp [ir_ppo_view_loadsl0,go_sem,hv.is,c,e1,e3,q1',hh,evStore,splice,V.cells,V.exp,-Int.natCast_add]
 ·obtain rfl:i=M.length:=by omega
  rw [← hB,s_loop_at hB,List.drop_length]
  refine ⟨fun h=>by simp at h,fun _=>?_⟩
  simp [ir_ppo_view_loadsl0,go_sem,hv.is]
termination_by M.length - i
theorem evC_tgk (e:Ev) (k:Nat) (hk:k<8):(evC e)[20+k]?=some (.int .i64 (e.r.tg k)):=by
 rcases (by omega:k=0∨k=1∨k=2∨k=3∨k=4∨k=5∨k=6∨k=7) with rfl | rfl | rfl | rfl | rfl | rfl | rfl | rfl<;>rfl
section
variable {t:Bool} {u:V} {lv av dv cv:Nat→V} {E:List Ev} {R:Nat→List Rt} {A D C:Nat→Nat→Nat} (w:Vw u lv av dv cv E R A D C)
include w
variable {a b:Nat} (hab:a<b) (hb:b<E.length)
include hab hb
theorem loads_l1 (hx:0≤adE (E[a]).r∧adE (E[a]).r≤1024) (hy:0≤adE (E[b]).r∧adE (E[b]).r≤1024) (k:Nat) (hk:k≤szO (E[a]).r.ins.op):
  evCI pg (.loop ir_ppo_view_loadsl1) ⟨[.ip t (vwC u lv av dv cv) 0,.int .i64 (a:Int),.int .i64 (b:Int),.undef,.lp 0 0,.lp 1 0,.undef,.undef,.undef,.undef,.int .i64 (szO (E[a]).r.ins.op:Nat),.int .i64 (k:Int),.undef,.undef,.undef,.undef,.undef,.undef,.undef],⟨[evC E[a],evC E[b],[]],[],[]⟩⟩ =
   some (if (List.range' k (szO (E[a]).r.ins.op - k)).any (byt E[a] E[b] (btw E a b))=true then (.ret,⟨[.undef,.undef,.undef,.bool true,.undef,.undef,.undef,.undef,.undef,.undef,.undef,.undef,.undef,.undef,.undef,.undef,.undef,.undef,.undef],⟨[[],[],[]],[],[]⟩⟩)
    else (.exit 0,⟨[.ip t (vwC u lv av dv cv) 0,.int .i64 (a:Int),.int .i64 (b:Int),.undef,.lp 0 0,.lp 1 0,.undef,.undef,.undef,.undef,.int .i64 (szO (E[a]).r.ins.op:Nat),.int .i64 (szO (E[a]).r.ins.op:Nat),.bool false,.undef,.undef,.undef,.undef,.undef,.undef],⟨[evC E[a],evC E[b],[]],[],[]⟩⟩)):=by
 obtain ⟨B,hB⟩:∃ B,B=Vm.C.loop ir_ppo_view_loadsl1:=⟨_,rfl⟩
 have h8:=szO_le (E[a]).r.ins.op
 have hle:=w.le
 by_cases c:k<szO (E[a]).r.ins.op
 ·have e3:=succ_i64 c (by omega)
  have ih:=loads_l1 hx hy (k+1) (by omega)
  have hd:List.range' k (szO (E[a]).r.ins.op - k)=k :: List.range' (k+1) (szO (E[a]).r.ins.op - (k+1)):=by
   have:szO (E[a]).r.ins.op - k=(szO (E[a]).r.ins.op - (k+1))+1:=by omega
   rw [this,List.range'_succ]
  have hH:=has_ok E[b] (adE (E[a]).r+k)
  have ew:IntKind.i64.wrap (adE (E[a]).r+(k:Int))=adE (E[a]).r+k:=i64_small (by omega)
  obtain ⟨bv,g1,g2⟩:=between_ok (t:=t) w hab hb
  have hbl:(btw E a b).length≤512:=by rw [btw_len (by omega)]; omega
  obtain ⟨l1,l2⟩:=loads_l0 g2 hbl t (vwC u lv av dv cv) (a:Int) (b:Int) (szO (E[a]).r.ins.op:Nat) (k:Int) E[a] E[b] (adE (E[a]).r+k) 0 (by omega)
  rw [List.drop_zero,Int.natCast_zero] at l1 l2
  have hbr:(rows bv).length=(btw E a b).length:=by rw [g2.rows,evR_len]
  have htx:=evC_tgk E[a] k (by omega)
  have hby:byt E[a] E[b] (btw E a b) k=(hasE E[b] (adE (E[a]).r+k) && (decide ((E[a]).r.tg k≠(E[b]).r.tg (adE (E[a]).r+k - adE (E[b]).r).toNat) && !(btw E a b).any (stH (adE (E[a]).r+k)))):=rfl
  rw [hd,List.any_cons,hby]
  rw [← hB] at ih
  rw [← hB,s_loop_at hB]
  clear hd hby
  generalize vwC u lv av dv cv=cc at *
  have hkc:(k:Int)<((szO (E[a]).r.ins.op:Nat):Int):=by omega
  have hk8:(k:Int)<8:=by omega
  cases q1:hasE E[b] (adE (E[a]).r+k) with
  | false=>
   rw [q1] at hH
   rw [Bool.false_and,Bool.false_or,← ih]
   simp [ir_ppo_view_loadsl1,go_sem,c,hkc,e3,ew,hH,-Int.natCast_add]
  | true=>
   rw [q1] at hH
   have hin:=q1
   unfold hasE ovl at hin
   simp only [Bool.and_eq_true,decide_eq_true_eq] at hin
   have h8y:=szO_le (E[b]).r.ins.op
   obtain ⟨d,hd⟩:∃ d:Nat,adE (E[a]).r+k - adE (E[b]).r=d:=⟨(adE (E[a]).r+k - adE (E[b]).r).toNat,by omega⟩
   have hd8:d<8:=by omega
   have ew2:IntKind.i64.wrap (adE (E[a]).r+k - adE (E[b]).r)=(d:Int):=by rw [hd]; exact i64_small (by omega)
   have hty:=evC_tgk E[b] d hd8
   have hd8':(d:Int)<8:=by omega
   rw [hd,Int.toNat_natCast,Bool.true_and]
   have hk8':k<8:=by omega
   by_cases q2:(E[a]).r.tg k=(E[b]).r.tg d
   ·rw [decide_eq_false (fun h=>h q2),Bool.false_and,Bool.false_or,← ih]
    simp [ir_ppo_view_loadsl1,go_sem,c,hkc,e3,ew,ew2,hH,hk8,hk8',hd8,hd8',htx,hty,q2,-Int.natCast_add]
   ·rw [decide_eq_true q2,Bool.true_and]
    cases q3:(btw E a b).any (stH (adE (E[a]).r+k)) with
    | true=>
     obtain ⟨j,l1⟩:=l1 q3
     rw [Bool.not_true,Bool.false_or,← ih]
     simp [ir_ppo_view_loadsl1,go_sem,c,hkc,e3,ew,ew2,hH,hk8,hk8',hd8,hd8',htx,hty,q2,g1,g2.is,hbr,l1,-Int.natCast_add]
    | false=>
     have l2:=l2 q3
     rw [Bool.not_false,Bool.true_or,if_pos rfl]
     simp [ir_ppo_view_loadsl1,go_sem,c,hkc,e3,ew,ew2,hH,hk8,hk8',hd8,hd8',htx,hty,q2,g1,g2.is,hbr,l2,-Int.natCast_add]
 ·have e:k=szO (E[a]).r.ins.op:=by omega
  rw [e,← hB,s_loop_at hB,Nat.sub_self]
  simp [ir_ppo_view_loadsl1,go_sem]
termination_by szO (E[a]).r.ins.op - k
theorem loads_ok:evI pg .val n_ppo_view_loads [.ip t (vwC u lv av dv cv) 0,.int .i64 (a:Int),.int .i64 (b:Int)] []=some (.bool (r2 E[a] E[b] (btw E a b)),[]):=by
 have ha:a<E.length:=by omega
 have e1:=fun m=>w.ia ha m
 have e2:=fun m=>w.ia hb m
 have hfp:=w.fp
 have ho:=overlap_ok E[a] E[b]
 have hu:∀ r:Rt,adE r≤1024:=fun r=>by unfold adE; split<;>omega
 have hl:ovE E[a] E[b]=true→_:=fun h=>loads_l1 (t:=t) w hab hb (by
  unfold ovE ovl isR at h
  simp only [Bool.and_eq_true,decide_eq_true_eq] at h
  exact ⟨h.1.1.1.1,hu _⟩) (by
  unfold ovE ovl isR at h
  simp only [Bool.and_eq_true,decide_eq_true_eq] at h
  exact ⟨h.1.1.2.1,hu _⟩) 0 (Nat.zero_le _)
 have h0:(vwC u lv av dv cv)[0]?=some u:=rfl
 have h0':∀ h:0<(vwC u lv av dv cv).length,(vwC u lv av dv cv)[0]=u:=fun _=>rfl
 have hr:r2 E[a] E[b] (btw E a b)=(((E[a]).ld && ((E[b]).ld && ovE E[a] E[b])) && (List.range (szO (E[a]).r.ins.op)).any (byt E[a] E[b] (btw E a b))):=rfl
 rw [hr]
 rw [Nat.sub_zero,← List.range_eq_range',Int.natCast_zero] at hl
 generalize vwC u lv av dv cv=c at *
 generalize (List.range (szO (E[a]).r.ins.op)).any (byt E[a] E[b] (btw E a b))=z at *
 generalize E[a]=x at *
 generalize E[b]=y at *
 rw [s_fn fn_ppo_view_loads]
 cases q1:x.ld with
 | false=>
  simp only [Ev.ld] at q1
  simp [ir_ppo_view_loads,go_sem,hfp,e1,e2,h0,h0',q1,evStore,splice,V.cells,V.exp]
 | true=>
  simp only [Ev.ld] at q1
  cases q2:y.ld with
  | false=>
   simp only [Ev.ld] at q2
   simp [ir_ppo_view_loads,go_sem,hfp,e1,e2,h0,h0',q1,q2,evStore,splice,V.cells,V.exp]
  | true=>
   simp only [Ev.ld] at q2
   cases q3:ovE x y with
   | false=>
    rw [q3] at ho
    simp [ir_ppo_view_loads,go_sem,hfp,e1,e2,h0,h0',q1,q2,ho,evStore,splice,V.cells,V.exp]
   | true=>
    rw [q3] at ho
    have hl:=hl q3
    cases z with
    | true=>
     rw [if_pos rfl] at hl
     simp [ir_ppo_view_loads,go_sem,hfp,e1,e2,h0,h0',q1,q2,ho,hl,evStore,splice,V.cells,V.exp]
    | false=>
     rw [if_neg (by simp)] at hl
     simp [ir_ppo_view_loads,go_sem,hfp,e1,e2,h0,h0',q1,q2,ho,hl,evStore,splice,V.cells,V.exp]
end
def srt2 (E:List Ev):Prop:=E.Pairwise fun x y=>x.hart<y.hart∨(x.hart=y.hart∧x.at'<y.at')
def hrt (E:List Ev) (a:Nat):Nat:=match E[a]? with
 | some e=>e.hart
 | none=>0
def pr (E:List Ev) (P:Nat→Nat→Bool) (a b:Nat):Bool:=decide (a<b) && (decide (hrt E a=hrt E b) && P a b)
theorem hrt_el {E:List Ev} {a:Nat} (h:a<E.length):hrt E a=(E[a]).hart:=by simp [hrt,h]
theorem srt2_le {E:List Ev} (hs:srt2 E) {a b:Nat} (hab:a≤b) (hb:b<E.length):hrt E a≤hrt E b:=by
 rw [hrt_el (by omega),hrt_el hb]
 rcases Nat.eq_or_lt_of_le hab with rfl | h
 ·exact Nat.le_refl _
 ·have:=(List.pairwise_iff_getElem.1 hs) a b (by omega) hb h
  omega
theorem srt2_at {E:List Ev} (hs:srt2 E) {a b:Nat} (hab:a<b) (hb:b<E.length) (hh:hrt E a=hrt E b):(E[a]).at'<(E[b]).at':=by
 have:=(List.pairwise_iff_getElem.1 hs) a b (by omega) hb hab
 rw [hrt_el (by omega),hrt_el hb] at hh
 omega
section
variable {u:V} {lv av dv cv:Nat→V} {E:List Ev} {R:Nat→List Rt} {A D C:Nat→Nat→Nat} (w:Vw u lv av dv cv E R A D C) (hs:srt2 E) {f:Nat} {P:Nat→Nat→Bool}
 (hP:∀ a b,a<b→b<E.length→hrt E a=hrt E b→evI pg .val f [.ip false (vwC u lv av dv cv) 0,.int .i64 (a:Int),.int .i64 (b:Int)] []=some (.bool (P a b),[]))
 {p:Nat} {v:V} {T:Nat} {I:Nat→Nat}
include w hs hP
theorem into_l0 (a:Nat) (ha:a<E.length) (b:Nat) (hab:a<b) (hb:b≤E.length) (H:List Vm.Obj) (W:Nat→Nat) (h:RelAt H p v E.length T I W) (z:V) (hz:∃ n,z=.int .i64 n) (i:Int):
  ∃ H' W' c,evCI pg (.loop ir_ppo_view_intol0) ⟨[.ip false (vwC u lv av dv cv) 0,.ptr p 0 0,.fn f [] [],.int .i64 (a:Int),.int .i64 (b:Int),z,.int .i64 i,.undef,.undef,.undef],⟨[],[],H⟩⟩ =
    some (.exit 2,⟨[.ip false (vwC u lv av dv cv) 0,.ptr p 0 0,.fn f [] [],.int .i64 (a:Int),.int .i64 c,z,.int .i64 i,.undef,.bool false,.undef],⟨[],[],H'⟩⟩) ∧
   RelAt H' p v E.length T I W'∧(∀ c,c≠a→W' c=W c)∧(∀ j,j<E.length→(W' a).testBit j=((W a).testBit j || (decide (b≤j) && (decide (hrt E a=hrt E j) && P a j))))∧∀ q0,¬ rft p E.length T I q0→H'[q0]?=H[q0]?:=by
 obtain ⟨B,hB⟩:∃ B,B=Vm.C.loop ir_ppo_view_intol0:=⟨_,rfl⟩
 obtain ⟨zn,rfl⟩:=hz
 have hle:=w.le
 have h0:(vwC u lv av dv cv)[0]?=some u:=rfl
 have h0':∀ h:0<(vwC u lv av dv cv).length,(vwC u lv av dv cv)[0]=u:=fun _=>rfl
 have hur:(rows u).length=E.length:=by rw [w.ev.rows,evR_len]
 have hui:=w.ev.is
 have hfp:=w.fp
 by_cases c:b<E.length
 ·have e3:=succ_i64 c (by omega)
  have e1:=fun m=>w.ia ha m
  have e2:=fun m=>w.ia c m
  have k1:=hrt_el ha
  have k2:=hrt_el c
  by_cases q:hrt E a=hrt E b
  ·have hp:=hP a b hab c q
   cases q2:P a b with
   | true=>
    rw [q2] at hp
    have hadd:=Add_ok h a b ha c
    obtain ⟨H',W',cc,r1,r2,r3,r4,r5⟩:=into_l0 a ha (b+1) (by omega) (by omega) _ _ (h.set ha (W a ||| 2 ^ b) (bit_lt (h.lt a ha) c)) (.int .i64 zn) ⟨zn,rfl⟩ i
    refine ⟨H',W',cc,?_,r2,fun d hd=>?_,fun j hj=>?_,fun q0 h5=>(r5 q0 h5).trans (List.getElem?_set_ne (fun e=>h5 (.inr (.inr ⟨a,ha,e.symm⟩))))⟩
    ·rw [← r1,← hB]
     conv=>lhs; rw [s_loop_at hB]
     generalize vwC u lv av dv cv=vc at *
     have q':(E[b]).hart=(E[a]).hart:=by omega
     generalize E[a]=x at *
     generalize E[b]=y at *
     simp [ir_ppo_view_intol0,go_sem,hui,hur,c,e1,e2,e3,h0,h0',hfp,q',hp,hadd,fpCv,-Int.natCast_add]
    ·rw [r3 d hd]
     simp [hd]
    ·rw [r4 j hj]
     simp only [if_true,or_bit]
     by_cases e:j=b
     ·subst e
      have d1:¬ (j+1≤j):=by omega
      simp [q,q2,d1]
     ·have d1:decide (b+1≤j)=decide (b≤j):=by rw [decide_eq_decide]; omega
      rw [if_neg e,d1]
   | false=>
    rw [q2] at hp
    obtain ⟨H',W',cc,r1,r2,r3,r4,r5⟩:=into_l0 a ha (b+1) (by omega) (by omega) H W h (.int .i64 zn) ⟨zn,rfl⟩ i
    refine ⟨H',W',cc,?_,r2,r3,fun j hj=>?_,r5⟩
    ·rw [← r1,← hB]
     conv=>lhs; rw [s_loop_at hB]
     generalize vwC u lv av dv cv=vc at *
     have q':(E[b]).hart=(E[a]).hart:=by omega
     generalize E[a]=x at *
     generalize E[b]=y at *
     simp [ir_ppo_view_intol0,go_sem,hui,hur,c,e1,e2,e3,h0,h0',hfp,q',hp,fpCv,-Int.natCast_add]
    ·rw [r4 j hj]
     by_cases e:j=b
     ·subst e
      have d1:¬ (j+1≤j):=by omega
      simp [q2,d1]
     ·have d1:decide (b+1≤j)=decide (b≤j):=by rw [decide_eq_decide]; omega
      rw [d1]
  ·refine ⟨H,W,(b:Int),?_,h,fun _ _=>rfl,fun j hj=>?_,fun _ _=>rfl⟩
   ·rw [← hB]
    rw [s_loop_at hB]
    generalize vwC u lv av dv cv=vc at *
    have q':¬ (((E[b]).hart:Int)=((E[a]).hart:Int)):=by omega
    have q'':¬ ((E[b]).hart=(E[a]).hart):=by omega
    generalize E[a]=x at *
    generalize E[b]=y at *
    simp [ir_ppo_view_intol0,go_sem,hui,hur,c,e1,e2,e3,h0,h0',hfp,q',q'']
   ·by_cases d:b≤j
    ·have:=srt2_le hs d hj
     have:=srt2_le hs (Nat.le_of_lt hab) c
     have:¬ hrt E a=hrt E j:=by omega
     simp [this]
    ·simp [d]
 ·obtain rfl:b=E.length:=by omega
  refine ⟨H,W,(E.length:Int),?_,h,fun _ _=>rfl,fun j hj=>?_,fun _ _=>rfl⟩
  ·rw [← hB,s_loop_at hB]
   generalize vwC u lv av dv cv=vc at *
   simp [ir_ppo_view_intol0,go_sem,hui,hur,h0,h0']
  ·have:¬ E.length≤j:=by omega
   simp [this]
termination_by E.length - b
theorem into_l1 (a:Nat) (ha:a≤E.length) (H:List Vm.Obj) (W:Nat→Nat) (h:RelAt H p v E.length T I W):
  ∃ H' W',evCI pg (.loop ir_ppo_view_intol1) ⟨[.ip false (vwC u lv av dv cv) 0,.ptr p 0 0,.fn f [] [],.undef,.undef,.int .i64 (E.length:Int),.int .i64 (a:Int),.undef,.undef,.undef],⟨[],[],H⟩⟩ =
    some (.exit 0,⟨[.ip false (vwC u lv av dv cv) 0,.ptr p 0 0,.fn f [] [],.undef,.undef,.int .i64 (E.length:Int),.int .i64 (E.length:Int),.bool false,.undef,.undef],⟨[],[],H'⟩⟩) ∧
   RelAt H' p v E.length T I W'∧(∀ i j,i<E.length→j<E.length→(W' i).testBit j=((W i).testBit j || (decide (a≤i) && pr E P i j)))∧∀ q0,¬ rft p E.length T I q0→H'[q0]?=H[q0]?:=by
 obtain ⟨B,hB⟩:∃ B,B=Vm.C.loop ir_ppo_view_intol1:=⟨_,rfl⟩
 have hle:=w.le
 by_cases c:a<E.length
 ·have e3:=succ_i64 c (by omega)
  obtain ⟨H1,W1,cc,r1,r2,r3,r4,r5⟩:=into_l0 w hs hP a c (a+1) (by omega) (by omega) H W h (.int .i64 (E.length:Int)) ⟨_,rfl⟩ (a:Int)
  obtain ⟨H',W',g1,g2,g3,g4⟩:=into_l1 (a+1) (by omega) H1 W1 r2
  refine ⟨H',W',?_,g2,fun i j hi hj=>?_,fun q0 h5=>(g4 q0 h5).trans (r5 q0 h5)⟩
  ·rw [← g1,← hB]
   conv=>lhs; rw [s_loop_at hB]
   generalize vwC u lv av dv cv=vc at *
   simp [ir_ppo_view_intol1,go_sem,c,e3,r1,-Int.natCast_add]
  ·rw [g3 i j hi hj]
   by_cases e:i=a
   ·subst e
    have d1:¬ (i+1≤i):=by omega
    have d2:decide (i+1≤j)=decide (i<j):=rfl
    rw [r4 j hj,decide_eq_false d1,Bool.false_and,Bool.or_false,decide_eq_true (Nat.le_refl i),Bool.true_and,d2]
    rfl
   ·have d1:decide (a+1≤i)=decide (a≤i):=by rw [decide_eq_decide]; omega
    rw [r3 i e,d1]
 ·obtain rfl:a=E.length:=by omega
  refine ⟨H,W,?_,h,fun i j hi _=>?_,fun _ _=>rfl⟩
  ·rw [← hB,s_loop_at hB]
   generalize vwC u lv av dv cv=vc at *
   simp [ir_ppo_view_intol1,go_sem]
  ·have:¬ E.length≤i:=by omega
   simp [this]
termination_by E.length - a
theorem into_ok (H:List Vm.Obj) (W:Nat→Nat) (h:RelAt H p v E.length T I W):
  ∃ H' W',evI pg .heap n_ppo_view_into [.ip false (vwC u lv av dv cv) 0,.ptr p 0 0,.fn f [] []] H=some (.tup [],H')∧RelAt H' p v E.length T I W'∧(∀ i j,i<E.length→j<E.length→(W' i).testBit j=((W i).testBit j || pr E P i j))∧∀ q0,¬ rft p E.length T I q0→H'[q0]?=H[q0]?:=by
 obtain ⟨H',W',g1,g2,g3,g4⟩:=into_l1 w hs hP 0 (by omega) H W h
 rw [Int.natCast_zero] at g1
 refine ⟨H',W',?_,g2,fun i j hi hj=>?_,g4⟩
 ·have hur:(rows u).length=E.length:=by rw [w.ev.rows,evR_len]
  have hui:=w.ev.is
  have h0:(vwC u lv av dv cv)[0]?=some u:=rfl
  have h0':∀ h:0<(vwC u lv av dv cv).length,(vwC u lv av dv cv)[0]=u:=fun _=>rfl
  generalize vwC u lv av dv cv=vc at *
  rw [s_fn fn_ppo_view_into]
  simp [ir_ppo_view_into,go_sem,h0,h0',hui,hur,g1]
 ·rw [g3 i j hi hj]
  simp
end
end Go.Proofs.YtimiademofajeaaGreatDoor
