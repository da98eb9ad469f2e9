/- Lemmas (no claim): K23n, K23o. -/
import Derived.Test.YtimiademofajeaaGreatDoorP23
set_option linter.unusedSimpArgs false
set_option linter.unusedVariables false
set_option maxRecDepth 20000
namespace Go.Proofs.YtimiademofajeaaGreatDoor
open Go Go.Vm
theorem odw_perm':∀ (l s:List Int),odw l s=some []↔l.Perm s
 | [],s=>by
  unfold odw
  constructor
  ·intro h
   rw [Option.some.inj h]
  ·intro h
   rw [h.symm.eq_nil]
 | n :: l,s=>by
  unfold odw
  rw [List.cons_perm_iff_perm_erase]
  by_cases c:n∈s
  ·rw [if_pos c,odw_perm' l (s.erase n)]
   exact ⟨fun h=>⟨c,h⟩,fun h=>h.2⟩
  ·rw [if_neg c]
   constructor
   ·intro h; cases h
   ·intro h; exact absurd h.1 c
theorem srt10_lod {op:Int} (h:srtO op=10):lod op=true:=by unfold lod; rw [h]; rfl
theorem srt11_sto {op:Int} (h:srtO op=11):sto op=true:=by unfold sto; rw [h]; rfl
theorem lix_el {E:List Ev} (hn:((E.map Ev.r).map Rt.id).Nodup) {i:Nat} (hi:i<E.length):lix E (E[i]).r.id=some i:=by
 cases q:lix E (E[i]).r.id with
 | none=>
  have:=lixTo_none q i hi
  rw [List.getElem?_eq_getElem hi] at this
  exact absurd rfl this
 | some j=>
  obtain ⟨hj,hid⟩:=lix_some q
  congr 1
  have h:=hn
  unfold List.Nodup at h
  rw [List.pairwise_iff_getElem] at h
  have hi':i<((E.map Ev.r).map Rt.id).length:=by simpa using hi
  have hj':j<((E.map Ev.r).map Rt.id).length:=by simpa using hj
  rcases Nat.lt_trichotomy i j with c | c | c
  ·have:=h i j hi' hj' c
   simp only [List.getElem_map] at this
   exact absurd hid.symm this
  ·exact c.symm
  ·have:=h j i hj' hi' c
   simp only [List.getElem_map] at this
   exact absurd hid this
theorem at1_el {E:List Ev} (hn:((E.map Ev.r).map Rt.id).Nodup) {i:Nat} (hi:i<E.length):at1 E (E[i]).r.id=i:=by
 unfold at1
 rw [lix_el hn hi]
 rfl
theorem wrB_at {E:List Ev} {n:Int} {x:Int} (h:wrB E n x=true):∃ hi:at1 E n<E.length,bh E[at1 E n] x=true:=by
 unfold wrB at h
 unfold at1
 cases q:lix E n with
 | none=>rw [q] at h; cases h
 | some i=>
  rw [q] at h
  obtain ⟨hi,_⟩:=lix_some q
  simp only [List.getElem?_eq_getElem hi] at h
  exact ⟨hi,h⟩
theorem prF_pair {l:List Rt}:∀ (rs:List Rt) (i:Nat) (last:Option Nat),prF l rs i last=false→(∀ k r,rs[k]?=some r→l[i+k]?=some r)→(∀ j,last=some j→∃ q,l[j]?=some q∧srtO q.ins.op=10∧isE q=true) →
  ∀ r∈rs,srtO r.ins.op=11→isE r=true→∃ q∈l,srtO q.ins.op=10∧isE q=true∧q.addr=r.addr∧szO q.ins.op=szO r.ins.op∧r.pair=q.id
 | [],_,_,_,_,_,r,hr,_,_=>by cases hr
 | a :: rs,i,last,h,hl,hla,r,hr,h11,hE=>by
  unfold prF at h
  have hstep:prF l rs (i+1) (prL a i last)=false∧∃ n,prW l a last=some n∧a.pair=n:=by
   cases q:prW l a last with
   | none=>rw [q] at h; cases h
   | some n=>
    rw [q] at h
    simp only [Bool.or_eq_false_iff,decide_eq_false_iff_not,ne_eq,Decidable.not_not] at h
    exact ⟨h.2,n,rfl,h.1⟩
  obtain ⟨h2,n,hw,hpn⟩:=hstep
  rcases List.mem_cons.1 hr with rfl | hr
  ·unfold prW at hw
   rw [if_pos ⟨h11,hE⟩] at hw
   cases last with
   | none=>cases hw
   | some j=>
    obtain ⟨q,hq,hq10,hqE⟩:=hla j rfl
    simp only [hq] at hw
    split at hw
    ·rename_i c
     refine ⟨q,List.mem_of_getElem? hq,hq10,hqE,c.1,c.2,?_⟩
     rw [hpn]
     exact (Option.some.inj hw).symm
    ·cases hw
  ·refine prF_pair rs (i+1) (prL a i last) h2 (fun k r hk=>?_) (fun j hj=>?_) r hr h11 hE
   ·have:=hl (k+1) r (by rw [List.getElem?_cons_succ]; exact hk)
    rw [show i+1+k=i+(k+1) by omega]
    exact this
   ·unfold prL at hj
    by_cases c:srtO a.ins.op=10
    ·rw [if_pos c] at hj
     by_cases d:isE a=true
     ·rw [if_pos d] at hj
      obtain rfl:i=j:=Option.some.inj hj
      have:=hl 0 a (by simp)
      exact ⟨a,by simpa using this,c,d⟩
     ·rw [if_neg d] at hj; cases hj
    ·rw [if_neg c] at hj
     by_cases d:srtO a.ins.op=11
     ·rw [if_pos d] at hj; cases hj
     ·rw [if_neg d] at hj
      exact hla j hj
structure Wf (R:Nat→List Rt) (co:List (List Int)):Prop where
 hn:(((evs R).map Ev.r).map Rt.id).Nodup
 inb:∀ e∈evs R,0≤adE e.r∧adE e.r+(szO e.r.ins.op:Nat)≤(co.length:Int)
 tag:∀ e∈evs R,lod e.r.ins.op=true→∀ k,k<szO e.r.ins.op→e.r.tg k≠-1→wrB (evs R) (e.r.tg k) (adE e.r+k)=true
 ord:∀ (x:Nat) (l:List Int),co[x]?=some l→l.Perm (lftr (x:Int) ((evs R).map Ev.r))
 pr:∀ e∈evs R,srtO e.r.ins.op=11→∃ f∈evs R,srtO f.r.ins.op=10∧f.r.addr=e.r.addr∧szO f.r.ins.op=szO e.r.ins.op∧e.r.pair=f.r.id
theorem ordF_all {E:List Ev}:∀ (co:List (List Int)) (a:Nat),ordF E a co=false→∀ x l,co[x]?=some l→ordK E (a+x) l=false
 | [],_,_,x,l,h=>by simp at h
 | c :: co,a,h,x,l,hx=>by
  unfold ordF at h
  rw [Bool.or_eq_false_iff] at h
  cases x with
  | zero=>
   simp only [List.getElem?_cons_zero,Option.some.injEq] at hx
   rw [← hx]
   exact h.1
  | succ x=>
   rw [List.getElem?_cons_succ] at hx
   have:=ordF_all co (a+1) h.2 x l hx
   rw [show a+(x+1)=a+1+x by omega]
   exact this
theorem prB_R {R:Nat→List Rt} (h:prB R=false):∀ k,k<3→prR (R k)=false:=fun k hk=>by
 unfold prB at h
 simp only [Bool.or_eq_false_iff] at h
 obtain ⟨h1,h2,h3⟩:=h
 obtain rfl | rfl | rfl:k=0∨k=1∨k=2:=by omega
 ·exact h1
 ·exact h2
 ·exact h3
theorem chk_wf {R:Nat→List Rt} (hb:∀ e∈evs R,Bd e.r) {img:List Nat} {n:Nat} {co:List (List Int)} (hco:co.length=n) (h:chk R img n co=0):Wf R co:=by
 unfold chk at h
 have e1:imgB img n=false:=by cases q:imgB img n with | false=>rfl | true=>rw [q] at h; simp at h
 have e3:idsB R=false:=by cases q:idsB R with | false=>rfl | true=>rw [e1,q] at h; cases q2:manB R<;>rw [q2] at h<;>simp at h
 have e2:manB R=false:=by cases q:manB R with | false=>rfl | true=>rw [e1,q] at h; simp at h
 rw [e1,e2,e3] at h
 simp only [Bool.false_eq_true,if_false] at h
 have e4:plcB R img.length=false:=by cases q:plcB R img.length with | false=>rfl | true=>rw [q] at h; simp at h
 rw [e4] at h
 simp only [Bool.false_eq_true,if_false] at h
 have e5:tagB R=false:=by cases q:tagB R with | false=>rfl | true=>rw [q] at h; simp at h
 rw [e5] at h
 simp only [Bool.false_eq_true,if_false] at h
 have e6:bytB R img=false:=by cases q:bytB R img with | false=>rfl | true=>rw [q] at h; simp at h
 rw [e6] at h
 simp only [Bool.false_eq_true,if_false] at h
 have e7:ordB R co=false:=by cases q:ordB R co with | false=>rfl | true=>rw [q] at h; simp at h
 rw [e7] at h
 simp only [Bool.false_eq_true,if_false] at h
 have e8:prB R=false:=by cases q:prB R with | false=>rfl | true=>rw [q] at h; simp at h
 unfold imgB at e1
 simp only [Bool.or_eq_false_iff,decide_eq_false_iff_not,ne_eq,Decidable.not_not] at e1
 have hnd:=((idsB_iff R).1 e3).2
 have hn:(((evs R).map Ev.r).map Rt.id).Nodup:=by
  rw [evs_r]
  exact hnd.sublist ((List.filter_sublist).map _)
 have himg:img.length=co.length:=by omega
 have hin:=plc_in hb (by omega) e4
 rw [himg] at hin
 refine ⟨hn,hin,fun e he hl k hk hne=>?_,fun x l hx=>?_,fun e he h11=>?_⟩
 ·unfold tagB at e5
  rw [Bool.or_eq_false_iff] at e5
  have h1:=List.any_eq_false.1 e5.2 e he
  unfold tgE at h1
  rw [Bool.not_eq_true,List.any_eq_false] at h1
  have h2:=h1 k (by rw [List.mem_range']; exact ⟨k,hk,by omega⟩)
  unfold tgB at h2
  rw [hl,decide_eq_true hne] at h2
  simpa using h2
 ·have h1:=ordF_all co 0 e7 x l hx
  rw [Nat.zero_add,ordK_r hn] at h1
  unfold ordKr at h1
  rw [← odw_perm']
  split at h1
  ·cases h1
  ·rename_i t ht
   rw [ht]
   simp only [ne_eq,decide_eq_false_iff_not,Decidable.not_not] at h1
   rw [h1]
 ·obtain ⟨hh,hg,hE⟩:=evs_mem he
  have h1:=prB_R e8 _ hh
  obtain ⟨q,hq,h10,hqE,ha,hs,hp⟩:=prF_pair (l:=R e.hart) (R e.hart) 0 none h1 (fun k r hk=>by rw [Nat.zero_add]; exact hk) (fun j hj=>by cases hj) e.r (List.mem_of_getElem? hg) h11 hE
  have hq2:q∈(evs R).map Ev.r:=by
   rw [evs_r,List.mem_filter]
   refine ⟨?_,hqE⟩
   unfold allR
   simp only [List.mem_append]
   obtain h | h | h:e.hart=0∨e.hart=1∨e.hart=2:=by omega
   ·rw [h] at hq; exact .inl hq
   ·rw [h] at hq; exact .inr (.inl hq)
   ·rw [h] at hq; exact .inr (.inr hq)
  obtain ⟨f,hf,rfl⟩:=List.mem_map.1 hq2
  exact ⟨f,hf,h10,ha,hs,hp⟩
section
variable {R:Nat→List Rt} {co:List (List Int)} (w:Wf R co)
include w
theorem Wf.id_mem {x:Nat} {l:List Int} (hx:co[x]?=some l) {id:Int} (hid:id∈l):∃ i,∃ hi:i<(evs R).length,((evs R)[i]).r.id=id∧bh (evs R)[i] (x:Int)=true∧at1 (evs R) id=i:=by
 have h1:=(w.ord x l hx).mem_iff.1 hid
 unfold lftr at h1
 obtain ⟨r,hr,rfl⟩:=List.mem_map.1 h1
 obtain ⟨hr1,hr2⟩:=List.mem_filter.1 hr
 obtain ⟨e,he,rfl⟩:=List.mem_map.1 hr1
 obtain ⟨i,hi,rfl⟩:=List.getElem_of_mem he
 exact ⟨i,hi,rfl,hr2,at1_el w.hn hi⟩
theorem Wf.ids {l:List Int} (hl:l∈co) {id:Int} (hid:id∈l):at1 (evs R) id<(evs R).length:=by
 obtain ⟨x,hx⟩:=List.getElem?_of_mem hl
 obtain ⟨i,hi,_,_,h⟩:=w.id_mem hx hid
 rw [h]; exact hi
theorem Wf.nd {x:Nat} (hx:x<co.length):((gmOf (evs R) co).C x).Nodup:=by
 have hl:=List.getElem?_eq_getElem hx
 have hp:=w.ord x _ hl
 have hnd:(co[x]).Nodup:=by
  rw [hp.nodup_iff]
  unfold lftr
  exact w.hn.sublist ((List.filter_sublist).map _)
 show (((co[x]?).getD []).map (at1 (evs R))).Nodup
 rw [hl,Option.getD_some]
 unfold List.Nodup
 rw [List.pairwise_map]
 refine List.Pairwise.imp_of_mem ?_ hnd
 intro a b ha hb hab he
 obtain ⟨i,hi,h1,_,h2⟩:=w.id_mem hl ha
 obtain ⟨j,hj,h3,_,h4⟩:=w.id_mem hl hb
 rw [h2,h4] at he
 subst he
 exact hab (h1.symm.trans h3)
theorem Wf.ad:∀ e∈evs R,0≤adE e.r:=fun e he=>(w.inb e he).1
theorem Wf.gm:(gmOf (evs R) co).Ok:=by
 refine ⟨fun x hx=>w.nd hx,fun x hx s=>?_,fun i hi=>?_,fun i hi k hk=>?_,fun i hi hl k hk v hv=>?_,fun i hi r hr=>?_⟩
 ·have hl:=List.getElem?_eq_getElem (show x<co.length from hx)
  show s∈((co[x]?).getD []).map (at1 (evs R))↔s<(evs R).length∧ofE _ _ _ s=true
  rw [hl,Option.getD_some,List.mem_map]
  constructor
  ·rintro ⟨id,hid,rfl⟩
   obtain ⟨i,hi,h1,h2,h3⟩:=w.id_mem hl hid
   rw [h3]
   exact ⟨hi,by rw [ofE_el hi]; exact h2⟩
  ·rintro ⟨hs,hb⟩
   rw [ofE_el hs] at hb
   refine ⟨((evs R)[s]).r.id,(w.ord x _ hl).mem_iff.2 ?_,at1_el w.hn hs⟩
   unfold lftr
   exact List.mem_map_of_mem (List.mem_filter.2 ⟨List.mem_map_of_mem (List.getElem_mem hs),hb⟩)
 ·show ofE _ _ _ i=false
  rw [ofE_el (show i<(evs R).length from hi),ofE_el (show i<(evs R).length from hi)]
  simp
 ·have hi':i<(evs R).length:=hi
  have hk':k<szO ((evs R)[i]).r.ins.op:=by
   have:(gmOf (evs R) co).sz i=szO ((evs R)[i]).r.ins.op:=by
    show ofE _ _ _ i=_
    rw [ofE_el hi']
   omega
  have h1:=w.inb _ (List.getElem_mem hi')
  show ofE _ _ _ i+k<co.length
  rw [ofE_el hi']
  omega
 ·have hi':i<(evs R).length:=hi
  have e1:(gmOf (evs R) co).sz i=szO ((evs R)[i]).r.ins.op:=by
   show ofE _ _ _ i=_
   rw [ofE_el hi']
  have e2:(gmOf (evs R) co).ld i=lod ((evs R)[i]).r.ins.op:=by
   show ofE _ _ _ i=_
   rw [ofE_el hi']
  have e3:(gmOf (evs R) co).ad i=(adE ((evs R)[i]).r).toNat:=by
   show ofE _ _ _ i=_
   rw [ofE_el hi']
  have e4:(gmOf (evs R) co).tgt i k=if ((evs R)[i]).r.tg k=-1 then none else some (at1 (evs R) (((evs R)[i]).r.tg k)):=by
   show ofE _ _ _ i=_
   rw [ofE_el hi']
  rw [e4] at hv
  by_cases c:((evs R)[i]).r.tg k=-1
  ·rw [if_pos c] at hv; cases hv
  ·rw [if_neg c] at hv
   obtain rfl:=Option.some.inj hv
   have h1:=w.tag _ (List.getElem_mem hi') (by rw [← e2]; exact hl) k (by omega) c
   obtain ⟨h2,h3⟩:=wrB_at h1
   refine ⟨h2,?_⟩
   show ofE _ _ _ _=true
   rw [ofE_el h2,e3]
   have:=w.ad _ (List.getElem_mem hi')
   rw [show (((adE ((evs R)[i]).r).toNat+k:Nat):Int)=adE ((evs R)[i]).r+k by omega]
   exact h3
 ·have hi':i<(evs R).length:=hi
  have e0:(gmOf (evs R) co).pr i=if srtO ((evs R)[i]).r.ins.op=11 then some (at1 (evs R) ((evs R)[i]).r.pair) else none:=by
   show ofE _ _ _ i=_
   rw [ofE_el hi']
  rw [e0] at hr
  by_cases c:srtO ((evs R)[i]).r.ins.op=11
  ·rw [if_pos c] at hr
   obtain rfl:=Option.some.inj hr
   obtain ⟨f,hf,h10,hfa,hfs,hfp⟩:=w.pr _ (List.getElem_mem hi') c
   obtain ⟨j,hj,rfl⟩:=List.getElem_of_mem hf
   rw [hfp,at1_el w.hn hj]
   refine ⟨hj,?_,?_,?_,fun k hk=>?_⟩
   ·show ofE _ _ _ j=true
    rw [ofE_el hj]
    exact srt10_lod h10
   ·show ofE _ _ _ j=ofE _ _ _ i
    rw [ofE_el hj,ofE_el hi']
    unfold adE
    rw [hfa]
   ·show ofE _ _ _ j=ofE _ _ _ i
    rw [ofE_el hj,ofE_el hi']
    exact hfs
   ·have e1:(gmOf (evs R) co).sz i=szO ((evs R)[i]).r.ins.op:=by
     show ofE _ _ _ i=_
     rw [ofE_el hi']
    have e3:(gmOf (evs R) co).ad i=(adE ((evs R)[i]).r).toNat:=by
     show ofE _ _ _ i=_
     rw [ofE_el hi']
    show ofE _ _ _ i=true
    rw [ofE_el hi',e3]
    have h0:=w.ad _ (List.getElem_mem hi')
    unfold bh hasB
    rw [srt11_sto c,decide_eq_true h0,decide_eq_true (by omega),decide_eq_true (by omega)]
    rfl
  ·rw [if_neg c] at hr; cases hr
theorem Wf.prs {i:Nat} (hi:i<(evs R).length) {r:Nat} (hr:(gmOf (evs R) co).pr i=some r):r<(evs R).length∧∀ k,k<szO ((evs R)[i]).r.ins.op→∀ x,(gmOf (evs R) co).tgt r k=some x→x<(evs R).length:=by
 obtain ⟨h1,h2,h3,h4,_⟩:=w.gm.pr i hi r hr
 refine ⟨h1,fun k hk x hx=>(w.gm.tg r h1 h2 k ?_ x hx).1⟩
 rw [h4]
 show k<ofE _ _ _ i
 rw [ofE_el hi]
 exact hk
end
end Go.Proofs.YtimiademofajeaaGreatDoor
namespace Go.Proofs.YtimiademofajeaaGreatDoor
open Go Go.Vm
theorem any_r0 {n:Nat} {f:Nat→Bool}:(List.range' 0 n).any f=false↔∀ i,i<n→f i=false:=by
 rw [List.any_eq_false]
 constructor
 ·intro h i hi
  have:=h i (by rw [List.mem_range']; exact ⟨i,hi,by omega⟩)
  simpa using this
 ·intro h i hi
  rw [List.mem_range'] at hi
  obtain ⟨j,hj,rfl⟩:=hi
  rw [h _ (by omega)]
  simp
/-! ### places of an order -/
structure Fa (n:Nat) (h:Nat→Int) (i:Nat):Prop where
 lo:∀ b,0≤h b∧h b≤(i:Int)
 inj:∀ a b,0<h a→h a=h b→a=b
 lt:∀ b,0<h b→b<n
 sur:∀ j:Nat,0<j→j≤i→∃ b,h b=(j:Int)
theorem fa_run (n:Nat):∀ (l:List Int) (h:Nat→Int) (i:Nat) (h':Nat→Int),fitA n h i l=some h'→Fa n h i→Fa n h' (i+l.length)
 | [],h,i,h',hf,g=>by
  unfold fitA at hf
  rw [← Option.some.inj hf]
  exact g
 | a :: l,h,i,h',hf,g=>by
  unfold fitA at hf
  split at hf
  ·rename_i c
   have ih:=fa_run n l _ (i+1) h' hf ⟨fun b=>?_,fun x y hx hxy=>?_,fun b hb=>?_,fun j hj hji=>?_⟩
   ·rw [List.length_cons,show i+(l.length+1)=i+1+l.length by omega]
    exact ih
   ·have:=g.lo b
    split<;>omega
   ·have h1:=g.lo x
    have h2:=g.lo y
    by_cases p:x=a.toNat
    ·by_cases q:y=a.toNat
     ·rw [p,q]
     ·rw [if_pos p,if_neg q] at hxy; omega
    ·by_cases q:y=a.toNat
     ·rw [if_neg p,if_pos q] at hxy; omega
     ·rw [if_neg p,if_neg q] at hxy
      rw [if_neg p] at hx
      exact g.inj x y hx hxy
   ·by_cases p:b=a.toNat
    ·omega
    ·rw [if_neg p] at hb
     exact g.lt b hb
   ·by_cases p:j=i+1
    ·refine ⟨a.toNat,?_⟩
     rw [if_pos rfl,p]
     omega
    ·obtain ⟨b,hb⟩:=g.sur j hj (by omega)
     refine ⟨b,?_⟩
     have:b≠a.toNat:=fun e=>by rw [e] at hb; omega
     rw [if_neg this]
     exact hb
  ·cases hf
theorem fitA_pos {n:Nat} {l:List Int} {h:Nat→Int} (hf:fitA n (fun _=>0) 0 l=some h) (hl:l.length=n):Pos n h:=by
 have g:=fa_run n l _ 0 h hf ⟨fun b=>by simp,fun a b q=>by omega,fun b q=>by omega,fun j q1 q2=>by omega⟩
 rw [Nat.zero_add,hl] at g
 have hall:∀ b,b<n→0<h b:=by
  let T:=(List.range n).filter fun b=>decide (0<h b)
  have h1:(List.range' 1 n).length≤(T.map fun b=>(h b).toNat).length:=by
   refine List.Nodup.length_le_of_subset List.nodup_range' fun j hj=>?_
   rw [List.mem_range'] at hj
   obtain ⟨k,hk,rfl⟩:=hj
   obtain ⟨b,hb⟩:=g.sur (1+1 * k) (by omega) (by omega)
   refine List.mem_map.2 ⟨b,List.mem_filter.2 ⟨List.mem_range.2 (g.lt b (by omega)),decide_eq_true (by omega)⟩,by omega⟩
  simp only [List.length_range',List.length_map] at h1
  have h2:T.length≤(List.range n).length:=List.length_filter_le _ _
  have h3:T.length=(List.range n).length:=by rw [List.length_range] at h2 ⊢; omega
  intro b hb
  have:=List.length_filter_eq_length_iff.1 h3 b (List.mem_range.2 hb)
  simpa using this
 exact ⟨fun a b ha hb he=>g.inj a b (hall a ha) he,hall⟩
theorem fitP_iff2 {n:Nat} {W:Nat→Nat} {l:List Int} {h:Nat→Int} (hf:fitA n (fun _=>0) 0 l=some h) (hl:l.length=n):fitP n W l=true↔∀ a b,a<n→b<n→(W a).testBit b=true→h a<h b:=by
 unfold fitP
 rw [hf,decide_eq_true hl,Bool.true_and]
 simp only [List.all_eq_true,decide_eq_true_eq]
 constructor
 ·intro q a b ha hb hw
  have:=q _ (mem_prs ha hb hw)
  simpa using this
 ·intro q x hx
  obtain ⟨a,b,rfl,ha,hb,hw⟩:=prs_mem hx
  simpa using q a b ha hb hw
theorem bad2_ordd {E:List Ev} {co:List (List Int)} {h:Nat→Int}:co.any (bad2 E h)=false↔(gmOf E co).ordd h:=by
 rw [List.any_eq_false]
 constructor
 ·intro q x hx k a b ha hb
  have hx':x<co.length:=hx
  have hl:=List.getElem?_eq_getElem hx'
  have hC:(gmOf E co).C x=(co[x]).map (at1 E):=by
   show ((co[x]?).getD []).map (at1 E)=_
   rw [hl]; rfl
  rw [hC] at ha hb
  have h1:=q _ (List.getElem_mem hx')
  unfold bad2 at h1
  rw [Bool.not_eq_true,List.any_eq_false] at h1
  rw [List.getElem?_map] at ha hb
  obtain ⟨ia,hia,rfl⟩:=Option.map_eq_some_iff.1 ha
  obtain ⟨ib,hib,rfl⟩:=Option.map_eq_some_iff.1 hb
  obtain ⟨hlt,hgb⟩:=List.getElem?_eq_some_iff.1 hib
  obtain ⟨hlt2,hga⟩:=List.getElem?_eq_some_iff.1 hia
  have h2:=h1 (k+1) (by rw [List.mem_range']; exact ⟨k,by omega,by omega⟩)
  unfold bad1 at h2
  rw [List.getD_eq_getElem?_getD,List.getD_eq_getElem?_getD,hib,show k+1 - 1=k by omega,hia] at h2
  simp only [Option.getD_some,decide_eq_true_eq] at h2
  omega
 ·intro q y hy h2
  obtain ⟨x,hx,rfl⟩:=List.getElem_of_mem hy
  have hl:=List.getElem?_eq_getElem hx
  have hC:(gmOf E co).C x=(co[x]).map (at1 E):=by
   show ((co[x]?).getD []).map (at1 E)=_
   rw [hl]; rfl
  unfold bad2 at h2
  obtain ⟨k,hk,hb⟩:=List.any_eq_true.1 h2
  rw [List.mem_range'] at hk
  obtain ⟨j,hj,rfl⟩:=hk
  have j1:j<(co[x]).length:=by omega
  have j2:j+1<(co[x]).length:=by omega
  have:=q x hx j (at1 E (co[x])[j]) (at1 E (co[x])[j+1]) (by rw [hC,List.getElem?_map,List.getElem?_eq_getElem j1]; rfl) (by rw [hC,List.getElem?_map,List.getElem?_eq_getElem j2]; rfl)
  unfold bad1 at hb
  rw [List.getD_eq_getElem?_getD,List.getD_eq_getElem?_getD,show 1+1 * j - 1=j by omega,show 1+1 * j=j+1 by omega,List.getElem?_eq_getElem j1,List.getElem?_eq_getElem j2] at hb
  simp only [Option.getD_some,decide_eq_true_eq] at hb
  omega
def stlE (g:Gm) (i:Nat):Bool:=(List.range' 0 (g.sz i)).any fun k=>g.ld i && g.stl i k
def mayc (g:Gm):Nat:=if (List.range' 0 g.n).any (stlE g) then 12 else if (List.range' 0 g.n).any (atmE g g.cop) then 13 else 0
theorem mayc_iff {g:Gm}:mayc g=0↔(∀ i,i<g.n→g.ld i=true→∀ k,k<g.sz i→g.stl i k=false)∧∀ i,i<g.n→∀ k,k<g.sz i→g.atm g.cop i k=true:=by
 have a1:(List.range' 0 g.n).any (stlE g)=false↔∀ i,i<g.n→g.ld i=true→∀ k,k<g.sz i→g.stl i k=false:=by
  rw [any_r0]
  constructor
  ·intro h i hi hl k hk
   have h1:=h i hi
   unfold stlE at h1
   have:=any_r0.1 h1 k hk
   rw [hl,Bool.true_and] at this
   exact this
  ·intro h i hi
   unfold stlE
   rw [any_r0]
   intro k hk
   cases hl:g.ld i with
   | false=>rfl
   | true=>rw [h i hi hl k hk]; rfl
 have a2:(List.range' 0 g.n).any (atmE g g.cop)=false↔∀ i,i<g.n→∀ k,k<g.sz i→g.atm g.cop i k=true:=by
  rw [any_r0]
  constructor
  ·intro h i hi k hk
   have h1:=h i hi
   unfold atmE at h1
   have:=any_r0.1 h1 k hk
   simpa using this
  ·intro h i hi
   unfold atmE
   rw [any_r0]
   intro k hk
   rw [h i hi k hk]; rfl
 rw [← a1,← a2]
 unfold mayc
 cases (List.range' 0 g.n).any (stlE g)<;>cases (List.range' 0 g.n).any (atmE g g.cop)<;>simp
theorem jdg_iff {E:List Ev} {co:List (List Int)} {W:Nat→Nat} {L:List Int}:jdg E co W L=0↔∃ h,fitA E.length (fun _=>0) 0 L=some h∧L.length=E.length∧fitP E.length W L=true∧(gmOf E co).ordd h ∧
  (∀ i,i<E.length→(gmOf E co).ld i=true→∀ k,k<(gmOf E co).sz i→(gmOf E co).lat h i k=true)∧∀ i,i<E.length→∀ k,k<(gmOf E co).sz i→(gmOf E co).atm (fun _ s=>h s) i k=true:=by
 have a1:∀ h:Nat→Int,(List.range' 0 E.length).any (latE (gmOf E co) h)=false↔∀ i,i<E.length→(gmOf E co).ld i=true→∀ k,k<(gmOf E co).sz i→(gmOf E co).lat h i k=true:=by
  intro h
  rw [any_r0]
  constructor
  ·intro q i hi hl k hk
   have h1:=q i hi
   unfold latE at h1
   have:=any_r0.1 h1 k hk
   rw [hl,Bool.true_and] at this
   simpa using this
  ·intro q i hi
   unfold latE
   rw [any_r0]
   intro k hk
   cases hl:(gmOf E co).ld i with
   | false=>rfl
   | true=>rw [q i hi hl k hk]; rfl
 have a2:∀ h:Nat→Int,(List.range' 0 E.length).any (atmE (gmOf E co) (fun _ s=>h s))=false↔∀ i,i<E.length→∀ k,k<(gmOf E co).sz i→(gmOf E co).atm (fun _ s=>h s) i k=true:=by
  intro h
  rw [any_r0]
  constructor
  ·intro q i hi k hk
   have h1:=q i hi
   unfold atmE at h1
   have:=any_r0.1 h1 k hk
   simpa using this
  ·intro q i hi
   unfold atmE
   rw [any_r0]
   intro k hk
   rw [q i hi k hk]; rfl
 unfold jdg
 cases hf:fitA E.length (fun _=>0) 0 L with
 | none=>
  simp only
  constructor
  ·intro h; cases h
  ·rintro ⟨h,h1,_⟩; cases h1
 | some h=>
  simp only
  by_cases q1:L.length=E.length
  ·rw [if_pos q1]
   have b1:=a1 h
   have b2:=a2 h
   have b3:=bad2_ordd (E:=E) (co:=co) (h:=h)
   constructor
   ·intro q
    refine ⟨h,rfl,q1,?_⟩
    rw [← b1,← b2,← b3]
    cases c1:fitP E.length W L<;>rw [c1] at q
    ·simp at q
    ·cases c2:co.any (bad2 E h)<;>rw [c2] at q
     ·cases c3:(List.range' 0 E.length).any (latE (gmOf E co) h)<;>rw [c3] at q
      ·cases c4:(List.range' 0 E.length).any (atmE (gmOf E co) (fun _ s=>h s))<;>rw [c4] at q
       ·exact ⟨rfl,rfl,rfl,rfl⟩
       ·simp at q
      ·simp at q
     ·simp at q
   ·rintro ⟨h',h1,_,h2,h3,h4,h5⟩
    obtain rfl:=Option.some.inj h1
    rw [h2,b3.2 h3,b1.2 h4,b2.2 h5]
    simp
  ·rw [if_neg q1]
   constructor
   ·intro h; cases h
   ·rintro ⟨_,_,h2,_⟩; exact absurd h2 q1
section
variable {R:Nat→List Rt} {co:List (List Int)} (w:Wf R co) {W W2:Nat→Nat} (hW:∀ a b,a<(evs R).length→b<(evs R).length→((W2 a).testBit b=true↔(W a).testBit b=true∨(gmOf (evs R) co).edg a b))
include w hW
theorem judge_fits (L:List Int):jdg (evs R) co W L=0↔fitP (evs R).length W2 L=true∧mayc (gmOf (evs R) co)=0:=by
 rw [jdg_iff,mayc_iff]
 constructor
 ·rintro ⟨h,h1,h2,h3,h4,h5,h6⟩
  have hp:Pos (gmOf (evs R) co).n h:=fitA_pos h1 h2
  obtain ⟨g1,g2⟩:=lat_edg w.gm hp h4 h5
  rw [fitP_iff2 h1 h2] at h3 ⊢
  refine ⟨fun a b ha hb hab=>?_,g2,fun i hi k hk=>?_⟩
  ·rcases (hW a b ha hb).1 hab with q | q
   ·exact h3 a b ha hb q
   ·exact g1 a b ha hb q
  ·rw [← atm_same w.gm hp h4 hi hk]
   exact h6 i hi k hk
 ·rintro ⟨hf,g2,g3⟩
  have h2:L.length=(evs R).length:=by
   unfold fitP at hf
   rw [Bool.and_eq_true,decide_eq_true_eq] at hf
   exact hf.1
  cases hA:fitA (evs R).length (fun _=>0) 0 L with
  | none=>
   unfold fitP at hf
   rw [hA,Bool.and_false] at hf
   cases hf
  | some h=>
   have hp:Pos (gmOf (evs R) co).n h:=fitA_pos hA h2
   have hf2:=hf
   rw [fitP_iff2 hA h2] at hf
   have he:∀ a b,a<(gmOf (evs R) co).n→b<(gmOf (evs R) co).n→(gmOf (evs R) co).edg a b→h a<h b:=fun a b ha hb hab=>hf a b ha hb ((hW a b ha hb).2 (.inr hab))
   have h4:=edg_ord w.gm he
   refine ⟨h,rfl,h2,?_,h4,fun i hi hl k hk=>edg_lat w.gm hp he g2 i hi hl k hk,fun i hi k hk=>?_⟩
   ·rw [fitP_iff2 hA h2]
    exact fun a b ha hb q=>hf a b ha hb ((hW a b ha hb).2 (.inl q))
   ·rw [atm_same w.gm hp h4 hi hk]
    exact g3 i hi k hk
end
def srch (g:Gm) (W2:Nat→Nat):Nat:=if mayc g≠0 then mayc g else match kah (bitW W2) g.n g.n (fun _=>false) [] with
 | none=>14
 | some _=>0
theorem kah_fitP {W:Nat→Nat} {n:Nat} {o:List Int} (h:kah (bitW W) n n (fun _=>false) []=some o) (hl:o.length=n):fitP n W o=true:=by
 obtain ⟨rest,h1,h2⟩:=kah_fit (bitW W) n n _ _ o h (fun b hb=>by cases hb)
 rw [List.nil_append] at h1
 rw [fitP_iff,h1]
 exact ⟨by rw [← h1]; exact hl,h2⟩
theorem kah_len (R:Nat→Nat→Bool) (n:Nat):∀ (k:Nat) (gone:Nat→Bool) (out o:List Int),kah R n k gone out=some o→o.length=out.length+k
 | 0,gone,out,o,h=>by
  simp only [kah,Option.some.injEq] at h
  rw [← h]; rfl
 | k+1,gone,out,o,h=>by
  unfold kah at h
  split at h
  ·cases h
  ·have:=kah_len R n k _ _ o h
   rw [this,List.length_append]
   simp only [List.length_cons,List.length_nil]
   omega
theorem fit_kah {W:Nat→Nat} {n:Nat} {L:List Int} (h:fitP n W L=true):∃ o,kah (bitW W) n n (fun _=>false) []=some o:=by
 have:=acyc_kah (bitW W) n (fun a ha=>fit_acyc n W L h a ha) n (fun _=>false) [] (by simp) List.nodup_nil (fun x=>by simp) (fun x hx=>by cases hx)
 exact this
end Go.Proofs.YtimiademofajeaaGreatDoor
