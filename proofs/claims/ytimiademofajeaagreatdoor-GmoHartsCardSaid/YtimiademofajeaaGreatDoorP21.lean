/- Lemmas (no claim): K23n, K23o, K23k. -/
import Derived.Test.YtimiademofajeaaGreatDoorP20
set_option linter.unusedSimpArgs false
set_option linter.unusedVariables false
set_option maxRecDepth 20000
namespace Go.Proofs.YtimiademofajeaaGreatDoor
open Go Go.Vm
theorem odw_perm':∀ (l s:List Int),odw l s=some []↔l.Perm s
 | [],s=>by
  unfold odw
  constructor
  ·intro h
   rw [Option.some.inj h]
  ·intro h
   rw [h.symm.eq_nil]
 | n :: l,s=>by
  unfold odw
  rw [List.cons_perm_iff_perm_erase]
  by_cases c:n∈s
  ·rw [if_pos c,odw_perm' l (s.erase n)]
   exact ⟨fun h=>⟨c,h⟩,fun h=>h.2⟩
  ·rw [if_neg c]
   constructor
   ·intro h; cases h
   ·intro h; exact absurd h.1 c
theorem srt10_lod {op:Int} (h:srtO op=10):lod op=true:=by unfold lod; rw [h]; rfl
theorem srt11_sto {op:Int} (h:srtO op=11):sto op=true:=by unfold sto; rw [h]; rfl
theorem lix_el {E:List Ev} (hn:((E.map Ev.r).map Rt.id).Nodup) {i:Nat} (hi:i<E.length):lix E (E[i]).r.id=some i:=by
 cases q:lix E (E[i]).r.id with
 | none=>
  have:=lixTo_none q i hi
  rw [List.getElem?_eq_getElem hi] at this
  exact absurd rfl this
 | some j=>
  obtain ⟨hj,hid⟩:=lix_some q
  congr 1
  have h:=hn
  unfold List.Nodup at h
  rw [List.pairwise_iff_getElem] at h
  have hi':i<((E.map Ev.r).map Rt.id).length:=by simpa using hi
  have hj':j<((E.map Ev.r).map Rt.id).length:=by simpa using hj
  rcases Nat.lt_trichotomy i j with c | c | c
  ·have:=h i j hi' hj' c
   simp only [List.getElem_map] at this
   exact absurd hid.symm this
  ·exact c.symm
  ·have:=h j i hj' hi' c
   simp only [List.getElem_map] at this
   exact absurd hid this
theorem at1_el {E:List Ev} (hn:((E.map Ev.r).map Rt.id).Nodup) {i:Nat} (hi:i<E.length):at1 E (E[i]).r.id=i:=by
 unfold at1
 rw [lix_el hn hi]
 rfl
theorem wrB_at {E:List Ev} {n:Int} {x:Int} (h:wrB E n x=true):∃ hi:at1 E n<E.length,bh E[at1 E n] x=true:=by
 unfold wrB at h
 unfold at1
 cases q:lix E n with
 | none=>rw [q] at h; cases h
 | some i=>
  rw [q] at h
  obtain ⟨hi,_⟩:=lix_some q
  simp only [List.getElem?_eq_getElem hi] at h
  exact ⟨hi,h⟩
theorem prF_pair {l:List Rt}:∀ (rs:List Rt) (i:Nat) (last:Option Nat),prF l rs i last=false→(∀ k r,rs[k]?=some r→l[i+k]?=some r)→(∀ j,last=some j→∃ q,l[j]?=some q∧srtO q.ins.op=10∧isE q=true) →
  ∀ r∈rs,srtO r.ins.op=11→isE r=true→∃ q∈l,srtO q.ins.op=10∧isE q=true∧q.addr=r.addr∧szO q.ins.op=szO r.ins.op∧r.pair=q.id
 | [],_,_,_,_,_,r,hr,_,_=>by cases hr
 | a :: rs,i,last,h,hl,hla,r,hr,h11,hE=>by
  unfold prF at h
  have hstep:prF l rs (i+1) (prL a i last)=false∧∃ n,prW l a last=some n∧a.pair=n:=by
   cases q:prW l a last with
   | none=>rw [q] at h; cases h
   | some n=>
    rw [q] at h
    simp only [Bool.or_eq_false_iff,decide_eq_false_iff_not,ne_eq,Decidable.not_not] at h
    exact ⟨h.2,n,rfl,h.1⟩
  obtain ⟨h2,n,hw,hpn⟩:=hstep
  rcases List.mem_cons.1 hr with rfl | hr
  ·unfold prW at hw
   rw [if_pos ⟨h11,hE⟩] at hw
   cases last with
   | none=>cases hw
   | some j=>
    obtain ⟨q,hq,hq10,hqE⟩:=hla j rfl
    simp only [hq] at hw
    split at hw
    ·rename_i c
     refine ⟨q,List.mem_of_getElem? hq,hq10,hqE,c.1,c.2,?_⟩
     rw [hpn]
     exact (Option.some.inj hw).symm
    ·cases hw
  ·refine prF_pair rs (i+1) (prL a i last) h2 (fun k r hk=>?_) (fun j hj=>?_) r hr h11 hE
   ·have:=hl (k+1) r (by rw [List.getElem?_cons_succ]; exact hk)
    rw [show i+1+k=i+(k+1) by omega]
    exact this
   ·unfold prL at hj
    by_cases c:srtO a.ins.op=10
    ·rw [if_pos c] at hj
     by_cases d:isE a=true
     ·rw [if_pos d] at hj
      obtain rfl:i=j:=Option.some.inj hj
      have:=hl 0 a (by simp)
      exact ⟨a,by simpa using this,c,d⟩
     ·rw [if_neg d] at hj; cases hj
    ·rw [if_neg c] at hj
     by_cases d:srtO a.ins.op=11
     ·rw [if_pos d] at hj; cases hj
     ·rw [if_neg d] at hj
      exact hla j hj
structure Wf (R:Nat→List Rt) (co:List (List Int)):Prop where
 hn:(((evs R).map Ev.r).map Rt.id).Nodup
 inb:∀ e∈evs R,0≤adE e.r∧adE e.r+(szO e.r.ins.op:Nat)≤(co.length:Int)
 tag:∀ e∈evs R,lod e.r.ins.op=true→∀ k,k<szO e.r.ins.op→e.r.tg k≠-1→wrB (evs R) (e.r.tg k) (adE e.r+k)=true
 ord:∀ (x:Nat) (l:List Int),co[x]?=some l→l.Perm (lftr (x:Int) ((evs R).map Ev.r))
 pr:∀ e∈evs R,srtO e.r.ins.op=11→∃ f∈evs R,srtO f.r.ins.op=10∧f.r.addr=e.r.addr∧szO f.r.ins.op=szO e.r.ins.op∧e.r.pair=f.r.id
theorem ordF_all {E:List Ev}:∀ (co:List (List Int)) (a:Nat),ordF E a co=false→∀ x l,co[x]?=some l→ordK E (a+x) l=false
 | [],_,_,x,l,h=>by simp at h
 | c :: co,a,h,x,l,hx=>by
  unfold ordF at h
  rw [Bool.or_eq_false_iff] at h
  cases x with
  | zero=>
   simp only [List.getElem?_cons_zero,Option.some.injEq] at hx
   rw [← hx]
   exact h.1
  | succ x=>
   rw [List.getElem?_cons_succ] at hx
   have:=ordF_all co (a+1) h.2 x l hx
   rw [show a+(x+1)=a+1+x by omega]
   exact this
theorem prB_R {R:Nat→List Rt} (h:prB R=false):∀ k,k<3→prR (R k)=false:=fun k hk=>by
 unfold prB at h
 simp only [Bool.or_eq_false_iff] at h
 obtain ⟨h1,h2,h3⟩:=h
 obtain rfl | rfl | rfl:k=0∨k=1∨k=2:=by omega
 ·exact h1
 ·exact h2
 ·exact h3
theorem chk_wf {R:Nat→List Rt} (hb:∀ e∈evs R,Bd e.r) {img:List Nat} {n:Nat} {co:List (List Int)} (hco:co.length=n) (h:chk R img n co=0):Wf R co:=by
 unfold chk at h
 have e1:imgB img n=false:=by cases q:imgB img n with | false=>rfl | true=>rw [q] at h; simp at h
 have e3:idsB R=false:=by cases q:idsB R with | false=>rfl | true=>rw [e1,q] at h; cases q2:manB R<;>rw [q2] at h<;>simp at h
 have e2:manB R=false:=by cases q:manB R with | false=>rfl | true=>rw [e1,q] at h; simp at h
 rw [e1,e2,e3] at h
 simp only [Bool.false_eq_true,if_false] at h
 have e4:plcB R img.length=false:=by cases q:plcB R img.length with | false=>rfl | true=>rw [q] at h; simp at h
 rw [e4] at h
 simp only [Bool.false_eq_true,if_false] at h
 have e5:tagB R=false:=by cases q:tagB R with | false=>rfl | true=>rw [q] at h; simp at h
 rw [e5] at h
 simp only [Bool.false_eq_true,if_false] at h
 have e6:bytB R img=false:=by cases q:bytB R img with | false=>rfl | true=>rw [q] at h; simp at h
 rw [e6] at h
 simp only [Bool.false_eq_true,if_false] at h
 have e7:ordB R co=false:=by cases q:ordB R co with | false=>rfl | true=>rw [q] at h; simp at h
 rw [e7] at h
 simp only [Bool.false_eq_true,if_false] at h
 have e8:prB R=false:=by cases q:prB R with | false=>rfl | true=>rw [q] at h; simp at h
 unfold imgB at e1
 simp only [Bool.or_eq_false_iff,decide_eq_false_iff_not,ne_eq,Decidable.not_not] at e1
 have hnd:=((idsB_iff R).1 e3).2
 have hn:(((evs R).map Ev.r).map Rt.id).Nodup:=by
  rw [evs_r]
  exact hnd.sublist ((List.filter_sublist).map _)
 have himg:img.length=co.length:=by omega
 have hin:=plc_in hb (by omega) e4
 rw [himg] at hin
 refine ⟨hn,hin,fun e he hl k hk hne=>?_,fun x l hx=>?_,fun e he h11=>?_⟩
 ·unfold tagB at e5
  rw [Bool.or_eq_false_iff] at e5
  have h1:=List.any_eq_false.1 e5.2 e he
  unfold tgE at h1
  rw [Bool.not_eq_true,List.any_eq_false] at h1
  have h2:=h1 k (by rw [List.mem_range']; exact ⟨k,hk,by omega⟩)
  unfold tgB at h2
  rw [hl,decide_eq_true hne] at h2
  simpa using h2
 ·have h1:=ordF_all co 0 e7 x l hx
  rw [Nat.zero_add,ordK_r hn] at h1
  unfold ordKr at h1
  rw [← odw_perm']
  split at h1
  ·cases h1
  ·rename_i t ht
   rw [ht]
   simp only [ne_eq,decide_eq_false_iff_not,Decidable.not_not] at h1
   rw [h1]
 ·obtain ⟨hh,hg,hE⟩:=evs_mem he
  have h1:=prB_R e8 _ hh
  obtain ⟨q,hq,h10,hqE,ha,hs,hp⟩:=prF_pair (l:=R e.hart) (R e.hart) 0 none h1 (fun k r hk=>by rw [Nat.zero_add]; exact hk) (fun j hj=>by cases hj) e.r (List.mem_of_getElem? hg) h11 hE
  have hq2:q∈(evs R).map Ev.r:=by
   rw [evs_r,List.mem_filter]
   refine ⟨?_,hqE⟩
   unfold allR
   simp only [List.mem_append]
   obtain h | h | h:e.hart=0∨e.hart=1∨e.hart=2:=by omega
   ·rw [h] at hq; exact .inl hq
   ·rw [h] at hq; exact .inr (.inl hq)
   ·rw [h] at hq; exact .inr (.inr hq)
  obtain ⟨f,hf,rfl⟩:=List.mem_map.1 hq2
  exact ⟨f,hf,h10,ha,hs,hp⟩
section
variable {R:Nat→List Rt} {co:List (List Int)} (w:Wf R co)
include w
theorem Wf.id_mem {x:Nat} {l:List Int} (hx:co[x]?=some l) {id:Int} (hid:id∈l):∃ i,∃ hi:i<(evs R).length,((evs R)[i]).r.id=id∧bh (evs R)[i] (x:Int)=true∧at1 (evs R) id=i:=by
 have h1:=(w.ord x l hx).mem_iff.1 hid
 unfold lftr at h1
 obtain ⟨r,hr,rfl⟩:=List.mem_map.1 h1
 obtain ⟨hr1,hr2⟩:=List.mem_filter.1 hr
 obtain ⟨e,he,rfl⟩:=List.mem_map.1 hr1
 obtain ⟨i,hi,rfl⟩:=List.getElem_of_mem he
 exact ⟨i,hi,rfl,hr2,at1_el w.hn hi⟩
theorem Wf.ids {l:List Int} (hl:l∈co) {id:Int} (hid:id∈l):at1 (evs R) id<(evs R).length:=by
 obtain ⟨x,hx⟩:=List.getElem?_of_mem hl
 obtain ⟨i,hi,_,_,h⟩:=w.id_mem hx hid
 rw [h]; exact hi
theorem Wf.nd {x:Nat} (hx:x<co.length):((gmOf (evs R) co).C x).Nodup:=by
 have hl:=List.getElem?_eq_getElem hx
 have hp:=w.ord x _ hl
 have hnd:(co[x]).Nodup:=by
  rw [hp.nodup_iff]
  unfold lftr
  exact w.hn.sublist ((List.filter_sublist).map _)
 show (((co[x]?).getD []).map (at1 (evs R))).Nodup
 rw [hl,Option.getD_some]
 unfold List.Nodup
 rw [List.pairwise_map]
 refine List.Pairwise.imp_of_mem ?_ hnd
 intro a b ha hb hab he
 obtain ⟨i,hi,h1,_,h2⟩:=w.id_mem hl ha
 obtain ⟨j,hj,h3,_,h4⟩:=w.id_mem hl hb
 rw [h2,h4] at he
 subst he
 exact hab (h1.symm.trans h3)
theorem Wf.ad:∀ e∈evs R,0≤adE e.r:=fun e he=>(w.inb e he).1
theorem Wf.gm:(gmOf (evs R) co).Ok:=by
 refine ⟨fun x hx=>w.nd hx,fun x hx s=>?_,fun i hi=>?_,fun i hi k hk=>?_,fun i hi hl k hk v hv=>?_,fun i hi r hr=>?_⟩
 ·have hl:=List.getElem?_eq_getElem (show x<co.length from hx)
  show s∈((co[x]?).getD []).map (at1 (evs R))↔s<(evs R).length∧ofE _ _ _ s=true
  rw [hl,Option.getD_some,List.mem_map]
  constructor
  ·rintro ⟨id,hid,rfl⟩
   obtain ⟨i,hi,h1,h2,h3⟩:=w.id_mem hl hid
   rw [h3]
   exact ⟨hi,by rw [ofE_el hi]; exact h2⟩
  ·rintro ⟨hs,hb⟩
   rw [ofE_el hs] at hb
   refine ⟨((evs R)[s]).r.id,(w.ord x _ hl).mem_iff.2 ?_,at1_el w.hn hs⟩
   unfold lftr
   exact List.mem_map_of_mem (List.mem_filter.2 ⟨List.mem_map_of_mem (List.getElem_mem hs),hb⟩)
 ·show ofE _ _ _ i=false
  rw [ofE_el (show i<(evs R).length from hi),ofE_el (show i<(evs R).length from hi)]
  simp
 ·have hi':i<(evs R).length:=hi
  have hk':k<szO ((evs R)[i]).r.ins.op:=by
   have:(gmOf (evs R) co).sz i=szO ((evs R)[i]).r.ins.op:=by
    show ofE _ _ _ i=_
    rw [ofE_el hi']
   omega
  have h1:=w.inb _ (List.getElem_mem hi')
  show ofE _ _ _ i+k<co.length
  rw [ofE_el hi']
  omega
 ·have hi':i<(evs R).length:=hi
  have e1:(gmOf (evs R) co).sz i=szO ((evs R)[i]).r.ins.op:=by
   show ofE _ _ _ i=_
   rw [ofE_el hi']
  have e2:(gmOf (evs R) co).ld i=lod ((evs R)[i]).r.ins.op:=by
   show ofE _ _ _ i=_
   rw [ofE_el hi']
  have e3:(gmOf (evs R) co).ad i=(adE ((evs R)[i]).r).toNat:=by
   show ofE _ _ _ i=_
   rw [ofE_el hi']
  have e4:(gmOf (evs R) co).tgt i k=if ((evs R)[i]).r.tg k=-1 then none else some (at1 (evs R) (((evs R)[i]).r.tg k)):=by
   show ofE _ _ _ i=_
   rw [ofE_el hi']
  rw [e4] at hv
  by_cases c:((evs R)[i]).r.tg k=-1
  ·rw [if_pos c] at hv; cases hv
  ·rw [if_neg c] at hv
   obtain rfl:=Option.some.inj hv
   have h1:=w.tag _ (List.getElem_mem hi') (by rw [← e2]; exact hl) k (by omega) c
   obtain ⟨h2,h3⟩:=wrB_at h1
   refine ⟨h2,?_⟩
   show ofE _ _ _ _=true
   rw [ofE_el h2,e3]
   have:=w.ad _ (List.getElem_mem hi')
   rw [show (((adE ((evs R)[i]).r).toNat+k:Nat):Int)=adE ((evs R)[i]).r+k by omega]
   exact h3
 ·have hi':i<(evs R).length:=hi
  have e0:(gmOf (evs R) co).pr i=if srtO ((evs R)[i]).r.ins.op=11 then some (at1 (evs R) ((evs R)[i]).r.pair) else none:=by
   show ofE _ _ _ i=_
   rw [ofE_el hi']
  rw [e0] at hr
  by_cases c:srtO ((evs R)[i]).r.ins.op=11
  ·rw [if_pos c] at hr
   obtain rfl:=Option.some.inj hr
   obtain ⟨f,hf,h10,hfa,hfs,hfp⟩:=w.pr _ (List.getElem_mem hi') c
   obtain ⟨j,hj,rfl⟩:=List.getElem_of_mem hf
   rw [hfp,at1_el w.hn hj]
   refine ⟨hj,?_,?_,?_,fun k hk=>?_⟩
   ·show ofE _ _ _ j=true
    rw [ofE_el hj]
    exact srt10_lod h10
   ·show ofE _ _ _ j=ofE _ _ _ i
    rw [ofE_el hj,ofE_el hi']
    unfold adE
    rw [hfa]
   ·show ofE _ _ _ j=ofE _ _ _ i
    rw [ofE_el hj,ofE_el hi']
    exact hfs
   ·have e1:(gmOf (evs R) co).sz i=szO ((evs R)[i]).r.ins.op:=by
     show ofE _ _ _ i=_
     rw [ofE_el hi']
    have e3:(gmOf (evs R) co).ad i=(adE ((evs R)[i]).r).toNat:=by
     show ofE _ _ _ i=_
     rw [ofE_el hi']
    show ofE _ _ _ i=true
    rw [ofE_el hi',e3]
    have h0:=w.ad _ (List.getElem_mem hi')
    unfold bh hasB
    rw [srt11_sto c,decide_eq_true h0,decide_eq_true (by omega),decide_eq_true (by omega)]
    rfl
  ·rw [if_neg c] at hr; cases hr
theorem Wf.prs {i:Nat} (hi:i<(evs R).length) {r:Nat} (hr:(gmOf (evs R) co).pr i=some r):r<(evs R).length∧∀ k,k<szO ((evs R)[i]).r.ins.op→∀ x,(gmOf (evs R) co).tgt r k=some x→x<(evs R).length:=by
 obtain ⟨h1,h2,h3,h4,_⟩:=w.gm.pr i hi r hr
 refine ⟨h1,fun k hk x hx=>(w.gm.tg r h1 h2 k ?_ x hx).1⟩
 rw [h4]
 show k<ofE _ _ _ i
 rw [ofE_el hi]
 exact hk
end
theorem any_r0 {n:Nat} {f:Nat→Bool}:(List.range' 0 n).any f=false↔∀ i,i<n→f i=false:=by
 rw [List.any_eq_false]
 constructor
 ·intro h i hi
  have:=h i (by rw [List.mem_range']; exact ⟨i,hi,by omega⟩)
  simpa using this
 ·intro h i hi
  rw [List.mem_range'] at hi
  obtain ⟨j,hj,rfl⟩:=hi
  rw [h _ (by omega)]
  simp
/-! ### places of an order -/
def stlE (g:Gm) (i:Nat):Bool:=(List.range' 0 (g.sz i)).any fun k=>g.ld i && g.stl i k
def mayc (g:Gm):Nat:=if (List.range' 0 g.n).any (stlE g) then 12 else if (List.range' 0 g.n).any (atmE g g.cop) then 13 else 0
section
variable {R:Nat→List Rt} {co:List (List Int)} (w:Wf R co) {W W2:Nat→Nat} (hW:∀ a b,a<(evs R).length→b<(evs R).length→((W2 a).testBit b=true↔(W a).testBit b=true∨(gmOf (evs R) co).edg a b))
include w hW
end
def srch (g:Gm) (W2:Nat→Nat):Nat:=if mayc g≠0 then mayc g else match kah (bitW W2) g.n g.n (fun _=>false) [] with
 | none=>14
 | some _=>0
theorem kah_fitP {W:Nat→Nat} {n:Nat} {o:List Int} (h:kah (bitW W) n n (fun _=>false) []=some o) (hl:o.length=n):fitP n W o=true:=by
 obtain ⟨rest,h1,h2⟩:=kah_fit (bitW W) n n _ _ o h (fun b hb=>by cases hb)
 rw [List.nil_append] at h1
 rw [fitP_iff,h1]
 exact ⟨by rw [← h1]; exact hl,h2⟩
theorem kah_len (R:Nat→Nat→Bool) (n:Nat):∀ (k:Nat) (gone:Nat→Bool) (out o:List Int),kah R n k gone out=some o→o.length=out.length+k
 | 0,gone,out,o,h=>by
  simp only [kah,Option.some.injEq] at h
  rw [← h]; rfl
 | k+1,gone,out,o,h=>by
  unfold kah at h
  split at h
  ·cases h
  ·have:=kah_len R n k _ _ o h
   rw [this,List.length_append]
   simp only [List.length_cons,List.length_nil]
   omega
theorem cpl_le (s:Nat):∀ l:List Nat,cpl l s≤l.length
 | []=>Nat.le_refl _
 | a :: l=>by
  have ih:=cpl_le s l
  unfold cpl
  rw [List.length_cons]
  split
  ·omega
  ·split<;>omega
theorem mrw_el (cm:Nat→Nat) {n x:Nat} (h:x<(mrw cm n).length):(mrw cm n)[x]=[V.map (cm x)]:=by simp [mrw]
theorem GV.plc {H:List Vm.Obj} {p mid:Nat} {l:List (Int × V)} {cs:V} {cm:Nat→Nat} {cl:Nat→List (Int × V)} {x0:V} {lv:Nat→V} {x4 u:V} {E:List Ev} {co:List (List Int)} (g:GV H p mid l cs cm cl x0 lv x4 u E co) {x:Nat} (hx:x<co.length) (s:Nat) (vs:List (List V)) (tk:List Nat):
  lookM ⟨vs,tk,H⟩ false false [.int .i64 0] (.map (cm x)) (.int .i64 (s:Int))=some (.int .i64 ((cpl ((gmOf E co).C x) s:Nat):Int),⟨vs,tk,H⟩):=by
 have hlk:=look_kv (g.cmp x hx) vs tk false (.int .i64 0) (s:Int)
 simp only [Bool.false_eq_true,if_false] at hlk
 rw [hlk,g.cat x hx s]
theorem GV.css {H:List Vm.Obj} {p mid:Nat} {l:List (Int × V)} {cs:V} {cm:Nat→Nat} {cl:Nat→List (Int × V)} {x0:V} {lv:Nat→V} {x4 u:V} {E:List Ev} {co:List (List Int)} (g:GV H p mid l cs cm cl x0 lv x4 u E co) {x:Nat} (hx:x<co.length):∃ cid,cs=.rsl cid 0 co.length∧H[cid]?=some (.arr (mrw cm co.length)):=by
 rcases g.cr with h | h
 ·omega
 ·exact h
section
variable {x0:V} {lv:Nat→V} {x4 u:V} {R:Nat→List Rt} {img:List Nat} {cv:List V} {co:List (List Int)} (w:Lk x0 lv x4 u R img cv co)
 {H:List Vm.Obj} {p mid:Nat} {l:List (Int × V)} {cs:V} {cm:Nat→Nat} {cl:Nat→List (Int × V)} (gv:GV H p mid l cs cm cl x0 lv x4 u (evs R) co) (wf:Wf R co) (hE:(evs R).length≤512)
include w gv
theorem stale_l0 {i:Nat} (hi:i<(evs R).length) (uv:V) (y:List Int) (hu:Sl uv (iI y)) (hy:y.length≤100000) (hin:∀ id∈y,at1 (evs R) id<(evs R).length) (j:Nat) (hj:j≤y.length):
  evCI pg (.loop ir_gmo_view_stalel0) ⟨[.ptr p 0 0,.int .i64 (i:Int),.undef,.undef,.undef,.undef,.undef,.undef,.undef,.undef,uv,.int .i64 (y.length:Int),.int .i64 (j:Int),.undef,.undef],⟨[],[],H⟩⟩ =
   some (if (y.drop j).any (fun id=>(gmOf (evs R) co).ah (at1 (evs R) id) i)=true then (.ret,⟨[.undef,.undef,.undef,.bool true,.undef,.undef,.undef,.undef,.undef,.undef,.undef,.undef,.undef,.undef,.undef],⟨[],[],H⟩⟩)
    else (.exit 0,⟨[.ptr p 0 0,.int .i64 (i:Int),.undef,.undef,.undef,.undef,.undef,.undef,.undef,.undef,uv,.int .i64 (y.length:Int),.int .i64 (y.length:Int),.bool false,.undef],⟨[],[],H⟩⟩)):=by
 obtain ⟨B,hB⟩:∃ B,B=Vm.C.loop ir_gmo_view_stalel0:=⟨_,rfl⟩
 have hui:=hu.is
 have huf:=hu.fpR
 by_cases c:j<y.length
 ·have e3:=succ_i64 c (by omega)
  have cI:(j:Int)<(y.length:Int):=by omega
  have hob:=gv.ob
  simp only [gC] at hob
  have hpl:=get_lt hob
  have hoe:=get_el hob
  have e1:=fun m=>hu.ia (sz:=1) m .i64 (i:=j) (by rw [iI_len]; exact c) (by simp [iI])
  simp only [iI_el] at e1
  have hlk:=fun vs tk=>gv.look vs tk y[j]
  have hah:=ahead_ok w gv (hin y[j] (List.getElem_mem _)) hi
  have hd:y.drop j=y[j] :: y.drop (j+1):=List.drop_eq_getElem_cons c
  rw [hd,List.any_cons]
  have ih:=stale_l0 hi uv y hu hy hin (j+1) (by omega)
  rw [← hB] at ih
  rw [← hB,s_loop_at hB]
  clear hd hin gv w
  generalize y[j]=id at *
  cases q:(gmOf (evs R) co).ah (at1 (evs R) id) i with
  | true=>
   rw [q] at hah
   rw [Bool.true_or,if_pos rfl]
   clear ih
   generalize at1 (evs R) id=s at *
   simp [ir_gmo_view_stalel0,go_sem,c,cI,hui,huf,e1,hob,hpl,hoe,hlk,hah,-Int.natCast_add]
  | false=>
   rw [q] at hah
   rw [Bool.false_or,← ih]
   clear ih
   generalize at1 (evs R) id=s at *
   simp [ir_gmo_view_stalel0,go_sem,c,cI,hui,huf,e1,e3,hob,hpl,hoe,hlk,hah,-Int.natCast_add]
 ·obtain rfl:j=y.length:=by omega
  rw [List.drop_length,← hB,s_loop_at hB]
  simp [ir_gmo_view_stalel0,go_sem]
termination_by y.length - j
omit w gv in
theorem gm_ad {i:Nat} (hi:i<(evs R).length) {a:Nat} (ha:adE ((evs R)[i]).r=(a:Int)):(gmOf (evs R) co).ad i=a:=by
 show ofE _ _ _ i=_
 rw [ofE_el hi,ha,Int.toNat_natCast]
omit w gv in
theorem gm_C {x:Nat} {y:List Int} (hy:co[x]?=some y):(gmOf (evs R) co).C x=y.map (at1 (evs R)):=by
 show ((co[x]?).getD []).map (at1 (evs R))=_
 rw [hy]; rfl
omit w gv in
theorem gm_sz {i:Nat} (hi:i<(evs R).length):(gmOf (evs R) co).sz i=szO ((evs R)[i]).r.ins.op:=by
 show ofE _ _ _ i=_
 rw [ofE_el hi]
omit w gv in
theorem gm_ld {i:Nat} (hi:i<(evs R).length):(gmOf (evs R) co).ld i=lod ((evs R)[i]).r.ins.op:=by
 show ofE _ _ _ i=_
 rw [ofE_el hi]
omit w gv in
theorem gm_tg {i:Nat} (hi:i<(evs R).length) (k:Nat):(gmOf (evs R) co).tgt i k=if ((evs R)[i]).r.tg k=-1 then none else some (at1 (evs R) (((evs R)[i]).r.tg k)):=by
 show ofE _ _ _ i=_
 rw [ofE_el hi]
include wf
set_option maxHeartbeats 4000000 in
theorem stale_ok {i:Nat} (hi:i<(evs R).length) {k:Nat} (hk:k<szO ((evs R)[i]).r.ins.op):
  evI pg .heap n_gmo_view_stale [.ptr p 0 0,.int .i64 (i:Int),.int .i64 (k:Int)] H=some (.bool ((gmOf (evs R) co).stl i k),H):=by
 have h8:=szO_le ((evs R)[i]).r.ins.op
 have hk8:k<8:=by omega
 obtain ⟨a,ha⟩:∃ a:Nat,adE ((evs R)[i]).r=(a:Int):=⟨_,(Int.toNat_of_nonneg (wf.ad _ (List.getElem_mem hi))).symm⟩
 have hga:=gm_ad (co:=co) hi ha
 have hxc:a+k<co.length:=by
  have:=wf.inb _ (List.getElem_mem hi)
  omega
 have hcl:=w.cl
 have hco:=w.cs.1
 have cv0:a+k<cv.length:=by omega
 have hy:=List.getElem?_eq_getElem hxc
 have hgc:=gm_C (R:=R) hy
 have hsl:=w.cs.2 (a+k) cv[a+k] co[a+k] (List.getElem?_eq_getElem cv0) hy
 have hol:=w.ol _ (List.getElem_mem hxc)
 have hin:=fun id hid=>wf.ids (List.getElem_mem hxc) (id:=id) hid
 obtain ⟨cid,hcs,hcr⟩:=gv.css hxc
 have hplc:=fun s vs tk=>gv.plc hxc s vs tk
 have hcl2:(gmOf (evs R) co).frm i k≤(co[a+k]).length:=by
  unfold Gm.frm
  rw [hga,hgc]
  split
  ·omega
  ·have:=cpl_le (s:=‹Nat›) ((co[a+k]).map (at1 (evs R)))
   rw [List.length_map] at this
   exact this
 have hob:=gv.ob
 simp only [gC,hcs] at hob
 have hpl:=get_lt hob
 have hoe:=get_el hob
 have hql:=get_lt hcr
 have hqe:=get_el hcr
 have hgl:=mrw_len cm co.length
 have g1:=mrw_get cm hxc
 have gl1:a+k<(mrw cm co.length).length:=by omega
 have ge1:=mrw_el cm gl1
 have iu:=w.ev.is
 have huf:=w.ev.fpR
 have hur:(rows u).length=(evs R).length:=by rw [w.ev.rows,evR_len]
 have e1:=fun m=>w.ev.ia (sz:=33) m .i64 (i:=i) (by rw [evR_len]; exact hi) (evR_sz _ _ (List.getElem_mem _))
 simp only [evR_el] at e1
 have e4:=fun m=>w.co4.ia (sz:=1) m .i64 (i:=a+k) (by rw [slR_len]; exact cv0) (slR_sz _ _ (List.getElem_mem _))
 simp only [slR_el] at e4
 have i4:=w.co4.is
 have h4f:=w.co4.fpR
 have hsi:=hsl.is
 have hsr:(rows cv[a+k]).length=(co[a+k]).length:=by rw [hsl.rows,iI_len]
 have ew:IntKind.i64.wrap ((a:Int)+(k:Int))=((a+k:Nat):Int):=by rw [wrap_i64 (by omega) (by omega)]; rfl
 obtain ⟨uv,s1,s2⟩:=hsl.slc (sz:=1) ⟨[],[],H⟩ (some (.int .i64 (((gmOf (evs R) co).frm i k:Nat):Int))) none (l:=(gmOf (evs R) co).frm i k) (k:=(co[a+k]).length) (by decide) (fun e he=>by obtain ⟨_,_,rfl⟩:=List.mem_map.1 he; rfl) (by rw [iI_len]; exact bnd_lo hcl2)
 rw [List.take_of_length_le (by rw [iI_len]; exact Nat.le_refl _),show (iI co[a+k]).drop ((gmOf (evs R) co).frm i k)=iI ((co[a+k]).drop ((gmOf (evs R) co).frm i k)) by unfold iI; rw [List.map_drop]] at s2
 have hl0:=stale_l0 w gv hi uv _ s2 (by rw [List.length_drop]; omega) (fun id hid=>hin id (List.mem_of_mem_drop hid)) 0 (Nat.zero_le _)
 rw [List.drop_zero,Int.natCast_zero] at hl0
 have hur2:(rows uv).length=((co[a+k]).drop ((gmOf (evs R) co).frm i k)).length:=by rw [s2.rows,iI_len]
 have hui:=s2.is
 have hnm:=named_ok gv (((evs R)[i]).r.tg k)
 have ht:=evC_tgq (evs R)[i] hk8
 have ht':=get_all ht
 have k8:(k:Int)<8:=by omega
 have k7:k≤7:=by omega
 have k28:20+k<33:=by omega
 have htg:=gm_tg (co:=co) hi k
 have hfr:(gmOf (evs R) co).frm i k=match (gmOf (evs R) co).tgt i k with
  | none=>0
  | some v=>cpl ((gmOf (evs R) co).C (a+k)) v:=by
  unfold Gm.frm
  rw [hga]
  cases (gmOf (evs R) co).tgt i k<;>rfl
 have hst:(gmOf (evs R) co).stl i k=((co[a+k]).drop ((gmOf (evs R) co).frm i k)).any fun id=>(gmOf (evs R) co).ah (at1 (evs R) id) i:=by
  unfold Gm.stl
  rw [hga,hgc,← List.map_drop,List.any_map]
  rfl
 rw [hst,s_fn fn_gmo_view_stale]
 clear hst hga hgc s2 hsl hin hcl2 hcr hcs gv wf w hy
 generalize hFR:(gmOf (evs R) co).frm i k=fr at *
 generalize (co[a+k]).drop fr=yd at *
 generalize cv[a+k]=v at *
 generalize mrw cm co.length=ar at *
 cases q:yd.any (fun id=>(gmOf (evs R) co).ah (at1 (evs R) id) i) with
 | true=>
  rw [q,if_pos rfl] at hl0
  clear q
  generalize (evs R)[i]=e at *
  by_cases ct:e.r.tg k=-1
  ·rw [if_pos ct] at htg
   rw [htg] at hfr
   simp only at hfr
   subst hfr
   rw [Int.natCast_zero] at s1
   rw [ct] at hnm ht ht'
   simp only [if_true] at hnm
   generalize (evs R).length=n at *
   simp [ir_gmo_view_stale,go_sem,hob,hpl,hoe,iu,huf,hur,e1,ha,ew,hnm,ht,ht',k8,k7,k28,hk8,e4,i4,h4f,hsi,hsr,s1,hur2,hui,hl0,-Int.natCast_add]
  ·rw [if_neg ct] at htg hnm
   rw [htg] at hfr
   simp only at hfr
   rw [decide_eq_true ct] at hnm
   have hp1:=hplc (at1 (evs R) (e.r.tg k))
   rw [← hfr] at hp1
   clear hplc hfr htg
   generalize at1 (evs R) (e.r.tg k)=wt at *
   generalize (evs R).length=n at *
   simp [ir_gmo_view_stale,go_sem,hob,hpl,hoe,iu,huf,hur,e1,ha,ew,hnm,ht,ht',k8,k7,k28,hk8,e4,i4,h4f,hsi,hsr,s1,hur2,hui,hl0,hp1,asIx_nat,hgl,hxc,hql,hqe,g1,gl1,ge1,-Int.natCast_add]
 | false=>
  rw [q,if_neg (by simp)] at hl0
  clear q
  generalize (evs R)[i]=e at *
  by_cases ct:e.r.tg k=-1
  ·rw [if_pos ct] at htg
   rw [htg] at hfr
   simp only at hfr
   subst hfr
   rw [Int.natCast_zero] at s1
   rw [ct] at hnm ht ht'
   simp only [if_true] at hnm
   generalize (evs R).length=n at *
   simp [ir_gmo_view_stale,go_sem,hob,hpl,hoe,iu,huf,hur,e1,ha,ew,hnm,ht,ht',k8,k7,k28,hk8,e4,i4,h4f,hsi,hsr,s1,hur2,hui,hl0,-Int.natCast_add]
  ·rw [if_neg ct] at htg hnm
   rw [htg] at hfr
   simp only at hfr
   rw [decide_eq_true ct] at hnm
   have hp1:=hplc (at1 (evs R) (e.r.tg k))
   rw [← hfr] at hp1
   clear hplc hfr htg
   generalize at1 (evs R) (e.r.tg k)=wt at *
   generalize (evs R).length=n at *
   simp [ir_gmo_view_stale,go_sem,hob,hpl,hoe,iu,huf,hur,e1,ha,ew,hnm,ht,ht',k8,k7,k28,hk8,e4,i4,h4f,hsi,hsr,s1,hur2,hui,hl0,hp1,asIx_nat,hgl,hxc,hql,hqe,g1,gl1,ge1,-Int.natCast_add]
end
end Go.Proofs.YtimiademofajeaaGreatDoor
