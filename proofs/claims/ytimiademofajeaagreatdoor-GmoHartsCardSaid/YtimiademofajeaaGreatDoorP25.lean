/- Layer 23: a candidate whose harts are named otherwise (no claim; plain lemmas). -/
import Derived.Test.YtimiademofajeaaGreatDoorP24
set_option linter.unusedSimpArgs false
set_option linter.unusedVariables false
set_option maxRecDepth 20000
namespace Go.Proofs.YtimiademofajeaaGreatDoor
open Go Go.Vm
structure Sw (R R':Nat→List Rt) (s:Nat→Nat):Prop where
 lt:∀ h,h<3→s h<3
 inv:∀ h,s (s h)=h
 eq:∀ h,R' (s h)=R h
theorem Sw.symm {R R':Nat→List Rt} {s:Nat→Nat} (w:Sw R R' s):Sw R' R s:=⟨w.lt,w.inv,fun h=>by rw [← w.eq (s h),w.inv]⟩
def mv (s:Nat→Nat) (e:Ev):Ev:=⟨s e.hart,e.at',e.r⟩
theorem evH_in (h:Nat):∀ (l:List Rt) (i a:Nat) (r:Rt),l[a]?=some r→isE r=true→(⟨h,i+a,r⟩:Ev)∈evH h l i
 | [],_,a,r,q,_=>by simp at q
 | x :: l,i,0,r,q,hE=>by
  simp only [List.getElem?_cons_zero,Option.some.injEq] at q
  subst q
  unfold evH
  rw [if_pos hE]
  simp
 | x :: l,i,a+1,r,q,hE=>by
  rw [List.getElem?_cons_succ] at q
  have ih:=evH_in h l (i+1) a r q hE
  rw [show i+(a+1)=i+1+a by omega]
  unfold evH
  split
  ·exact List.mem_cons_of_mem _ ih
  ·exact ih
theorem evs_in {R:Nat→List Rt} {h a:Nat} {r:Rt} (hh:h<3) (q:(R h)[a]?=some r) (hE:isE r=true):(⟨h,a,r⟩:Ev)∈evs R:=by
 unfold evs
 have key:=evH_in h (R h) 0 a r q hE
 rw [Nat.zero_add] at key
 simp only [List.mem_append]
 rcases lt3 hh with rfl | rfl | rfl
 ·exact .inl key
 ·exact .inr (.inl key)
 ·exact .inr (.inr key)
theorem Sw.mem {R R':Nat→List Rt} {s:Nat→Nat} (w:Sw R R' s) {e:Ev} (he:e∈evs R):mv s e∈evs R':=by
 obtain ⟨h1,h2,h3⟩:=evs_mem he
 exact evs_in (w.lt _ h1) (by rw [w.eq]; exact h2) h3
def sg (E E':List Ev) (i:Nat):Nat:=ofE E (fun e=>at1 E' e.r.id) 0 i
section
variable {R R':Nat→List Rt} {s:Nat→Nat} (w:Sw R R' s) (hn':(((evs R').map Ev.r).map Rt.id).Nodup)
include w hn'
theorem Sw.at {i:Nat} (hi:i<(evs R).length):∃ h:sg (evs R) (evs R') i<(evs R').length,(evs R')[sg (evs R) (evs R') i]=mv s (evs R)[i]:=by
 obtain ⟨j,hj,e⟩:=List.getElem_of_mem (w.mem (List.getElem_mem hi))
 have h1:sg (evs R) (evs R') i=j:=by
  unfold sg
  rw [ofE_el hi]
  have h2:=at1_el hn' hj
  rw [e] at h2
  exact h2
 subst h1
 exact ⟨hj,e⟩
theorem Sw.back (hn:(((evs R).map Ev.r).map Rt.id).Nodup) {i:Nat} (hi:i<(evs R).length):sg (evs R') (evs R) (sg (evs R) (evs R') i)=i:=by
 obtain ⟨h1,h2⟩:=w.at hn' hi
 have h3:sg (evs R') (evs R) (sg (evs R) (evs R') i)=at1 (evs R) ((evs R')[sg (evs R) (evs R') i]).r.id:=ofE_el h1
 rw [h3,h2]
 exact at1_el hn hi
end
theorem hgs_mv {R R':Nat→List Rt} {s:Nat→Nat} (w:Sw R R' s) {A A':Nat→Nat→Nat} (hA:∀ h,A' (s h)=A h) (x y:Ev):hgs R' A' (mv s x) (mv s y)=hgs R A x y:=by
 unfold hgs mv
 simp only
 rw [w.eq,hA]
theorem rulE_mv {R R':Nat→List Rt} {s:Nat→Nat} (w:Sw R R' s) {A D C A' D' C':Nat→Nat→Nat} (hA:∀ h,A' (s h)=A h) (hD:∀ h,D' (s h)=D h) (hC:∀ h,C' (s h)=C h) (k:Nat) (x y:Ev) {M M':List Ev}
  (hM:∀ p p':Ev→Bool,(∀ m,p' (mv s m)=p m)→M'.any p'=M.any p):rulE R' A' D' C' k (mv s x) (mv s y) M'=rulE R A D C k x y M:=by
 have e1:r1 (mv s x) (mv s y)=r1 x y:=rfl
 have e2:r2 (mv s x) (mv s y) M'=r2 x y M:=by
  have hb:byt (mv s x) (mv s y) M'=byt x y M:=by
   funext k
   unfold byt
   have:=hM (stH (adE x.r+k)) (stH (adE (mv s x).r+k)) fun m=>rfl
   rw [this]
   rfl
  unfold r2
  rw [hb]
  rfl
 have e3:r3 (mv s x) (mv s y)=r3 x y:=rfl
 have e4:r4 R' (mv s x) (mv s y)=r4 R x y:=by
  unfold r4
  have:R' (mv s x).hart=R x.hart:=w.eq x.hart
  rw [this]
  rfl
 have e5:(mv s x).r.ins.aq=x.r.ins.aq:=rfl
 have e6:(mv s y).r.ins.rl=y.r.ins.rl:=rfl
 have e7:(strE (mv s x) && strE (mv s y))=(strE x && strE y):=rfl
 have e8:r8 (mv s x) (mv s y)=r8 x y:=rfl
 have e9:=hgs_mv w hA x y
 have e10:=hgs_mv w hD x y
 have e11:((mv s y).st && hgs R' C' (mv s x) (mv s y))=(y.st && hgs R C x y):=by
  rw [hgs_mv w hC x y]
  rfl
 have e12:r12 R' A' D' (mv s x) (mv s y) M'=r12 R A D x y M:=by
  unfold r12
  refine hM _ _ fun m=>?_
  rw [hgs_mv w hA x m,hgs_mv w hD x m]
  rfl
 have e13:r13 R' A' (mv s x) (mv s y)=r13 R A x y:=by
  unfold r13
  have h1:R' (mv s x).hart=R x.hart:=w.eq x.hart
  have h2:A' (mv s x).hart=A x.hart:=hA x.hart
  rw [h1,h2]
  rfl
 unfold rulE
 rw [e1,e2,e3,e4,e5,e6,e7,e8,e9,e10,e11,e12,e13]
theorem btw_mem {E:List Ev} (hs:srt2 E) {a b:Nat} (hab:a<b) (hb:b<E.length) (hh:(E[a]).hart=(E[b]).hart) (m:Ev):m∈btw E a b↔m∈E∧m.hart=(E[a]).hart∧(E[a]).at'<m.at'∧m.at'<(E[b]).at':=by
 have ord:=List.pairwise_iff_getElem.1 hs
 unfold btw
 constructor
 ·intro h
  obtain ⟨k,hk,rfl⟩:=List.getElem_of_mem h
  rw [List.length_drop,List.length_take] at hk
  have hc:a+1+k<b:=by omega
  have hcE:a+1+k<E.length:=by omega
  rw [List.getElem_drop,List.getElem_take]
  have o1:=ord a (a+1+k) (by omega) hcE (by omega)
  have o2:=ord (a+1+k) b hcE hb hc
  exact ⟨List.getElem_mem _,by omega,by omega,by omega⟩
 ·rintro ⟨h1,h2,h3,h4⟩
  obtain ⟨c,hc,rfl⟩:=List.getElem_of_mem h1
  have c1:a<c:=by
   rcases Nat.lt_trichotomy a c with q | q | q
   ·exact q
   ·subst q; omega
   ·have:=ord c a hc (by omega) q; omega
  have c2:c<b:=by
   rcases Nat.lt_trichotomy c b with q | q | q
   ·exact q
   ·subst q; omega
   ·have:=ord b c hb hc q; omega
  refine List.mem_of_getElem? (i:=c - (a+1)) ?_
  rw [List.getElem?_drop,show a+1+(c - (a+1))=c by omega,List.getElem?_take,if_pos c2,List.getElem?_eq_getElem hc]
theorem srt2_iff {E:List Ev} (hs:srt2 E) {a b:Nat} (ha:a<E.length) (hb:b<E.length) (hh:(E[a]).hart=(E[b]).hart):a<b↔(E[a]).at'<(E[b]).at':=by
 have ord:=List.pairwise_iff_getElem.1 hs
 constructor
 ·intro q
  have:=ord a b ha hb q
  omega
 ·intro q
  rcases Nat.lt_trichotomy a b with c | c | c
  ·exact c
  ·subst c; omega
  ·have:=ord b a hb ha c
   omega
section
variable {R R':Nat→List Rt} {s:Nat→Nat} (w:Sw R R' s) {co:List (List Int)} (wf:Wf R co) (wf':Wf R' co)
include w wf wf'
omit wf in
theorem Sw.rls {i j:Nat} (hi:i<(evs R).length) (hj:j<(evs R).length):rls R' (sg (evs R) (evs R') i) (sg (evs R) (evs R') j)=rls R i j:=by
 obtain ⟨i1,i2⟩:=w.at wf'.hn hi
 obtain ⟨j1,j2⟩:=w.at wf'.hn hj
 have hA:∀ h,fA R' (s h)=fA R h:=fun h=>by unfold fA insR; rw [w.eq]
 have hD:∀ h,fD R' (s h)=fD R h:=fun h=>by unfold fD insR; rw [w.eq]
 have hC:∀ h,fC R' (s h)=fC R h:=fun h=>by unfold fC insR; rw [w.eq]
 have hh:((evs R')[sg (evs R) (evs R') i]).hart=((evs R')[sg (evs R) (evs R') j]).hart↔((evs R)[i]).hart=((evs R)[j]).hart:=by
  rw [i2,j2]
  show s _=s _↔_
  constructor
  ·intro e
   have:=congrArg s e
   rw [w.inv,w.inv] at this
   exact this
  ·intro e; rw [e]
 unfold Go.Proofs.YtimiademofajeaaGreatDoor.rls pr
 rw [hrt_el i1,hrt_el j1,hrt_el hi,hrt_el hj]
 by_cases q:((evs R)[i]).hart=((evs R)[j]).hart
 ·have q':=hh.2 q
  rw [decide_eq_true q,decide_eq_true q',Bool.true_and,Bool.true_and]
  have o1:=srt2_iff (evs_sorted R) hi hj q
  have o2:=srt2_iff (evs_sorted R') i1 j1 q'
  have t1:((evs R')[sg (evs R) (evs R') i]).at'=((evs R)[i]).at':=by rw [i2]; rfl
  have t2:((evs R')[sg (evs R) (evs R') j]).at'=((evs R)[j]).at':=by rw [j2]; rfl
  rw [t1,t2,← o1] at o2
  by_cases c:i<j
  ·have c':=o2.2 c
   rw [decide_eq_true c,decide_eq_true c',Bool.true_and,Bool.true_and]
   unfold anyR
   congr 1
   funext k
   have hM:∀ p p':Ev→Bool,(∀ m,p' (mv s m)=p m)→(btw (evs R') (sg (evs R) (evs R') i) (sg (evs R) (evs R') j)).any p'=(btw (evs R) i j).any p:=by
    intro p p' hp
    rw [Bool.eq_iff_iff,List.any_eq_true,List.any_eq_true]
    constructor
    ·rintro ⟨m,hm,hpm⟩
     rw [btw_mem (evs_sorted R') c' j1 q'] at hm
     obtain ⟨m1,m2,m3,m4⟩:=hm
     have hmm:mv s (mv s m)=m:=by unfold mv; simp only [w.inv]
     refine ⟨mv s m,(btw_mem (evs_sorted R) c hj q _).2 ⟨w.symm.mem m1,?_,?_,?_⟩,?_⟩
     ·show s m.hart=_
      rw [m2,i2]
      exact w.inv _
     ·rw [i2] at m3; exact m3
     ·rw [j2] at m4; exact m4
     ·rw [← hp,hmm]; exact hpm
    ·rintro ⟨m,hm,hpm⟩
     rw [btw_mem (evs_sorted R) c hj q] at hm
     obtain ⟨m1,m2,m3,m4⟩:=hm
     refine ⟨mv s m,(btw_mem (evs_sorted R') c' j1 q' _).2 ⟨w.mem m1,?_,?_,?_⟩,?_⟩
     ·show s m.hart=_
      rw [m2,i2]; rfl
     ·rw [i2]; exact m3
     ·rw [j2]; exact m4
     ·rw [hp]; exact hpm
   unfold rul
   rw [List.getElem?_eq_getElem i1,List.getElem?_eq_getElem j1,List.getElem?_eq_getElem hi,List.getElem?_eq_getElem hj]
   simp only
   rw [i2,j2]
   exact rulE_mv w hA hD hC k _ _ hM
  ·have c':¬ sg (evs R) (evs R') i<sg (evs R) (evs R') j:=fun e=>c (o2.1 e)
   rw [decide_eq_false c,decide_eq_false c',Bool.false_and,Bool.false_and]
 ·have q':=fun e=>q (hh.1 e)
  rw [decide_eq_false q,decide_eq_false q',Bool.false_and,Bool.false_and,Bool.and_false,Bool.and_false]
theorem Sw.sim (hlen:(evs R').length=(evs R).length):Sim (gmOf (evs R) co) (gmOf (evs R') co) (sg (evs R) (evs R')):=by
 have at_:∀ {i:Nat} (hi:i<(evs R).length),∃ h:sg (evs R) (evs R') i<(evs R').length,(evs R')[sg (evs R) (evs R') i]=mv s ((evs R)[i]'hi):=fun hi=>w.at wf'.hn hi
 have hat:∀ {n:Int} {i:Nat},(∃ hi:i<(evs R).length,((evs R)[i]).r.id=n)→at1 (evs R') n=sg (evs R) (evs R') (at1 (evs R) n):=by
  rintro n i ⟨hi,rfl⟩
  rw [at1_el wf.hn hi]
  show _=ofE _ _ _ _
  rw [ofE_el hi]
 refine ⟨hlen,rfl,fun i hi=>?_,fun i j hi hj e=>?_,fun j hj=>?_,fun x hx=>?_,fun i x hi=>?_,fun i j hi hj=>?_,fun i j hi hj=>?_,fun i hi=>?_,fun i hi=>?_,fun i hi=>?_,fun i hi k=>?_,fun i hi=>?_⟩
 ·obtain ⟨h1,_⟩:=at_ hi
  show _<(evs R).length
  rw [← hlen]
  exact h1
 ·have h1:=w.back wf'.hn wf.hn hi
  have h2:=w.back wf'.hn wf.hn hj
  rw [← h1,← h2,e]
 ·have hj':j<(evs R').length:=by rw [hlen]; exact hj
  obtain ⟨h1,_⟩:=w.symm.at wf.hn hj'
  exact ⟨_,h1,w.symm.back wf.hn wf'.hn hj'⟩
 ·have hx':x<co.length:=hx
  have hl:=List.getElem?_eq_getElem hx'
  rw [gm_C hl,gm_C hl,List.map_map]
  refine List.map_congr_left fun id hid=>?_
  obtain ⟨i,hi,h1,_,_⟩:=wf.id_mem hl hid
  exact hat ⟨hi,h1⟩
 ·obtain ⟨h1,h2⟩:=at_ hi
  show ofE _ _ _ _=ofE _ _ _ _
  rw [ofE_el h1,ofE_el (show i<(evs R).length from hi),h2]
  rfl
 ·obtain ⟨h1,h2⟩:=at_ hi
  obtain ⟨g1,g2⟩:=at_ hj
  show ofE _ _ _ _=ofE _ _ _ _
  rw [ofE_el h1,ofE_el g1,ofE_el (show i<(evs R).length from hi),ofE_el (show j<(evs R).length from hj),h2,g2]
  have:decide ((mv s (evs R)[i]).hart=(mv s (evs R)[j]).hart)=decide (((evs R)[i]).hart=((evs R)[j]).hart):=by
   rw [decide_eq_decide]
   show s _=s _↔_
   constructor
   ·intro e
    have:=congrArg s e
    rw [w.inv,w.inv] at this
    exact this
   ·intro e; exact congrArg s e
  rw [this]
  rfl
 ·obtain ⟨h1,h2⟩:=at_ hi
  obtain ⟨g1,g2⟩:=at_ hj
  show ofE _ _ _ _=ofE _ _ _ _↔ofE _ _ _ _=ofE _ _ _ _
  rw [ofE_el h1,ofE_el g1,ofE_el (show i<(evs R).length from hi),ofE_el (show j<(evs R).length from hj),h2,g2]
  show s _=s _↔_
  constructor
  ·intro e
   have:=congrArg s e
   rw [w.inv,w.inv] at this
   exact this
  ·intro e; exact congrArg s e
 ·obtain ⟨h1,h2⟩:=at_ hi
  rw [gm_ld h1,gm_ld (show i<(evs R).length from hi),h2]
  rfl
 ·obtain ⟨h1,h2⟩:=at_ hi
  rw [gm_sz h1,gm_sz (show i<(evs R).length from hi),h2]
  rfl
 ·obtain ⟨h1,h2⟩:=at_ hi
  show ofE _ _ _ _=ofE _ _ _ _
  rw [ofE_el h1,ofE_el (show i<(evs R).length from hi),h2]
  rfl
 ·have hi':i<(evs R).length:=hi
  obtain ⟨h1,h2⟩:=at_ hi'
  rw [gm_tg h1,gm_tg hi',gm_ld hi',gm_sz hi',h2]
  have ht:(mv s (evs R)[i]).r.tg k=((evs R)[i]).r.tg k:=rfl
  rw [ht]
  by_cases c:((evs R)[i]).r.tg k=-1
  ·left; rw [if_pos c,if_pos c]; rfl
  ·by_cases hk:k<szO ((evs R)[i]).r.ins.op
   ·cases hl:lod ((evs R)[i]).r.ins.op with
    | false=>right; left; rfl
    | true=>
     left
     rw [if_neg c,if_neg c,Option.map_some]
     have hw:=wf.tag _ (List.getElem_mem hi') hl k hk c
     unfold wrB at hw
     cases q:lix (evs R) (((evs R)[i]).r.tg k) with
     | none=>rw [q] at hw; cases hw
     | some v=>
      obtain ⟨v1,v2⟩:=lix_some q
      rw [hat ⟨v1,v2⟩]
   ·right; right; omega
 ·have hi':i<(evs R).length:=hi
  obtain ⟨h1,h2⟩:=at_ hi'
  show ofE _ _ _ _=Option.map _ (ofE _ _ _ _)
  rw [ofE_el h1,ofE_el hi',h2]
  have h3:(mv s (evs R)[i]).r=((evs R)[i]).r:=rfl
  rw [h3]
  by_cases c:srtO ((evs R)[i]).r.ins.op=11
  ·rw [if_pos c,if_pos c,Option.map_some]
   obtain ⟨f,hf,_,_,_,hfp⟩:=wf.pr _ (List.getElem_mem hi') c
   obtain ⟨j,hj,rfl⟩:=List.getElem_of_mem hf
   rw [hfp,hat ⟨hj,rfl⟩]
  ·rw [if_neg c,if_neg c]; rfl
end
end Go.Proofs.YtimiademofajeaaGreatDoor
