/- Lemmas (no claim): K23b, K23e, K23f, K23g. -/
import Derived.Test.YtimiademofajeaaGreatDoorP16
import Derived.Test.YtimiademofajeaaGreatDoorP18
set_option linter.unusedSimpArgs false
set_option linter.unusedVariables false
set_option maxRecDepth 20000
namespace Go.Proofs.YtimiademofajeaaGreatDoor
open Go Go.Vm
theorem get_all {α:Type} {l:List α} {i:Nat} {x:α} (h:l[i]?=some x):∀ q:i<l.length,l[i]=x:=fun q=>by
 rw [List.getElem?_eq_getElem q] at h
 exact Option.some.inj h
def ofE {α:Type} (E:List Ev) (f:Ev→α) (d:α) (i:Nat):α:=match E[i]? with
 | some e=>f e
 | none=>d
theorem ofE_el {α:Type} {E:List Ev} {f:Ev→α} {d:α} {i:Nat} (h:i<E.length):ofE E f d i=f E[i]:=by
 unfold ofE
 rw [List.getElem?_eq_getElem h]
def at1 (E:List Ev) (n:Int):Nat:=(lix E n).getD 0
def gmOf (E:List Ev) (co:List (List Int)):Gm where
 n:=E.length
 bz:=co.length
 C:=fun x=>((co[x]?).getD []).map (at1 E)
 st:=fun s x=>ofE E (fun e=>bh e (x:Int)) false s
 ah:=fun a b=>ofE E (fun e=>ofE E (fun f=>decide (e.hart=f.hart) && decide (e.at'<f.at')) false b) false a
 hart:=ofE E Ev.hart 0
 ld:=ofE E (fun e=>lod e.r.ins.op) false
 sz:=ofE E (fun e=>szO e.r.ins.op) 0
 ad:=ofE E (fun e=>(adE e.r).toNat) 0
 tgt:=fun i k=>ofE E (fun e=>if e.r.tg k=-1 then none else some (at1 E (e.r.tg k))) none i
 pr:=fun i=>ofE E (fun e=>if srtO e.r.ins.op=11 then some (at1 E e.r.pair) else none) none i
def gC (x0:V) (lv:Nat→V) (x4 u:V) (mid:Nat) (cs:V):List V:=[x0,lv 0,lv 1,lv 2,x4,u,.map mid,cs]
def mrw (cm:Nat→Nat) (n:Nat):List (List V):=(List.range n).map fun x=>[V.map (cm x)]
theorem mrw_len (cm:Nat→Nat) (n:Nat):(mrw cm n).length=n:=by simp [mrw]
theorem mrw_get (cm:Nat→Nat) {n x:Nat} (h:x<n):(mrw cm n)[x]?=some [V.map (cm x)]:=by simp [mrw,h]
structure GV (H:List Vm.Obj) (p mid:Nat) (l:List (Int × V)) (cs:V) (cm:Nat→Nat) (cl:Nat→List (Int × V)) (x0:V) (lv:Nat→V) (x4 u:V) (E:List Ev) (co:List (List Int)):Prop where
 ob:H[p]?=some (.arr [gC x0 lv x4 u mid cs])
 mp:H[mid]?=some (.mp (kvR l))
 at_:AtL l E
 cr:co.length=0∨∃ cid,cs=.rsl cid 0 co.length∧H[cid]?=some (.arr (mrw cm co.length))
 cmp:∀ x,x<co.length→H[cm x]?=some (.mp (kvR (cl x)))
 cat:∀ x,x<co.length→∀ s:Nat,(kget (cl x) (s:Int)).getD (.int .i64 0)=.int .i64 ((cpl ((gmOf E co).C x) s:Nat):Int)
theorem GV.frame {H H':List Vm.Obj} {p mid:Nat} {l:List (Int × V)} {cs:V} {cm:Nat→Nat} {cl:Nat→List (Int × V)} {x0:V} {lv:Nat→V} {x4 u:V} {E:List Ev} {co:List (List Int)} (g:GV H p mid l cs cm cl x0 lv x4 u E co) (h:∀ q,q<H.length→H'[q]?=H[q]?):GV H' p mid l cs cm cl x0 lv x4 u E co:=by
 have f:∀ {q:Nat} {o:Vm.Obj},H[q]?=some o→H'[q]?=some o:=fun {q o} hq=>by rw [h q (get_lt hq)]; exact hq
 refine ⟨f g.ob,f g.mp,g.at_,?_,fun x hx=>f (g.cmp x hx),g.cat⟩
 rcases g.cr with h0 | ⟨cid,h1,h2⟩
 ·exact .inl h0
 ·exact .inr ⟨cid,h1,f h2⟩
theorem GV.look {H:List Vm.Obj} {p mid:Nat} {l:List (Int × V)} {cs:V} {cm:Nat→Nat} {cl:Nat→List (Int × V)} {x0:V} {lv:Nat→V} {x4 u:V} {E:List Ev} {co:List (List Int)} (g:GV H p mid l cs cm cl x0 lv x4 u E co) (vs:List (List V)) (tk:List Nat) (n:Int):
  lookM ⟨vs,tk,H⟩ false false [.int .i64 0] (.map mid) (.int .i64 n)=some (.int .i64 ((at1 E n:Nat):Int),⟨vs,tk,H⟩):=by
 have hlk:=look_kv g.mp vs tk false (.int .i64 0) n
 simp only [Bool.false_eq_true,if_false] at hlk
 rw [g.at_ n] at hlk
 rw [hlk]
 unfold at1
 cases lix E n<;>rfl
def arH (H:List Vm.Obj) (r:List (List V)):List Vm.Obj:=H ++ [.arr r]
theorem arH_mk (H:List Vm.Obj) (r:List (List V)):H ++ [Vm.Obj.arr r]=arH H r:=rfl
theorem arH_at (H:List Vm.Obj) (r:List (List V)):(arH H r)[H.length]?=some (.arr r):=by simp [arH]
theorem arH_len (H:List Vm.Obj) (r:List (List V)):(arH H r).length=H.length+1:=by simp [arH]
theorem arH_el (H:List Vm.Obj) (r:List (List V)) (h:H.length<(arH H r).length):(arH H r)[H.length]=.arr r:=by simp [arH]
theorem arH_old {H:List Vm.Obj} (r:List (List V)) {q:Nat} (h:q<H.length):(arH H r)[q]?=H[q]?:=by simp [arH,List.getElem?_append_left h]
theorem arH_set (H:List Vm.Obj) (r s:List (List V)):(arH H r).set H.length (.arr s)=arH H s:=by simp [arH]
section
variable {x0:V} {lv:Nat→V} {x4 u:V} {R:Nat→List Rt} {img:List Nat} {cv:List V} {co:List (List Int)} (w:Lk x0 lv x4 u R img cv co)
 {H:List Vm.Obj} {p mid:Nat} {l:List (Int × V)} {cs:V} {cm:Nat→Nat} {cl:Nat→List (Int × V)} (gv:GV H p mid l cs cm cl x0 lv x4 u (evs R) co)
include w gv
theorem ahead_ok {a b:Nat} (ha:a<(evs R).length) (hb:b<(evs R).length):evI pg .heap n_gmo_view_ahead [.ptr p 0 0,.int .i64 (a:Int),.int .i64 (b:Int)] H=some (.bool ((gmOf (evs R) co).ah a b),H):=by
 have hob:=gv.ob
 simp only [gC] at hob
 have hpl:=get_lt hob
 have hoe:=get_el hob
 have iu:=w.ev.is
 have huf:=w.ev.fpR
 have e1:=fun m=>w.ev.ia (sz:=33) m .i64 (i:=a) (by rw [evR_len]; exact ha) (evR_sz _ _ (List.getElem_mem _))
 simp only [evR_el] at e1
 have e2:=fun m=>w.ev.ia (sz:=33) m .i64 (i:=b) (by rw [evR_len]; exact hb) (evR_sz _ _ (List.getElem_mem _))
 simp only [evR_el] at e2
 have hd:(gmOf (evs R) co).ah a b=(decide (((evs R)[a]).hart=((evs R)[b]).hart) && decide (((evs R)[a]).at'<((evs R)[b]).at')):=by
  show ofE _ _ _ a=_
  rw [ofE_el ha,ofE_el hb]
 rw [hd,s_fn fn_gmo_view_ahead]
 generalize (evs R)[a]=x at *
 generalize (evs R)[b]=y at *
 by_cases q:x.hart=y.hart
 ·by_cases q2:x.at'<y.at'
  ·have q3:(x.at':Int)<(y.at':Int):=by omega
   simp [ir_gmo_view_ahead,go_sem,hob,hpl,hoe,iu,huf,e1,e2,q,q2,q3]
  ·have q3:¬ (x.at':Int)<(y.at':Int):=by omega
   simp [ir_gmo_view_ahead,go_sem,hob,hpl,hoe,iu,huf,e1,e2,q,q2,q3]
 ·have q3:¬ (x.hart:Int)=(y.hart:Int):=by omega
  simp [ir_gmo_view_ahead,go_sem,hob,hpl,hoe,iu,huf,e1,e2,q,q3]
omit w in
theorem named_ok (n:Int):evI pg .heap n_gmo_view_named [.ptr p 0 0,.int .i64 n] H=some (.tup [.int .i64 ((if n=-1 then 0 else at1 (evs R) n:Nat):Int),.bool (decide (n≠-1))],H):=by
 have hob:=gv.ob
 simp only [gC] at hob
 have hpl:=get_lt hob
 have hoe:=get_el hob
 have hlk:=fun vs tk=>look_kv gv.mp vs tk false (.int .i64 0) n
 simp only [Bool.false_eq_true,if_false] at hlk
 rw [gv.at_ n] at hlk
 have ha:((lix (evs R) n).map fun (i:Nat)=>V.int .i64 ((i:Nat):Int)).getD (.int .i64 0)=.int .i64 ((at1 (evs R) n:Nat):Int):=by
  unfold at1
  cases lix (evs R) n<;>rfl
 rw [ha] at hlk
 rw [s_fn fn_gmo_view_named]
 by_cases c:n=-1
 ·simp [ir_gmo_view_named,go_sem,hob,hpl,hoe,c]
 ·simp [ir_gmo_view_named,go_sem,hob,hpl,hoe,c,hlk]
theorem stores_ok {i:Nat} (hi:i<(evs R).length) (x:Nat) (hx:x≤100000):evI pg .heap n_gmo_view_stores [.ptr p 0 0,.int .i64 (i:Int),.int .i64 (x:Int)] H=some (.bool ((gmOf (evs R) co).st i x),H):=by
 have hob:=gv.ob
 simp only [gC] at hob
 have hpl:=get_lt hob
 have hoe:=get_el hob
 have hb:=evs_bd (R:=R) fun h hh=>(w.li h hh).2.1
 have iu:=w.ev.is
 have huf:=w.ev.fpR
 have e1:=fun m=>w.ev.ia (sz:=33) m .i64 (i:=i) (by rw [evR_len]; exact hi) (evR_sz _ _ (List.getElem_mem _))
 simp only [evR_el] at e1
 have hBy:=Byte_ok (evs R)[i] (hb _ (List.getElem_mem _)) (x:Int) (by omega)
 have hfl:=eq_true (evC_flat (evs R)[i])
 have hd:(gmOf (evs R) co).st i x=bh (evs R)[i] (x:Int):=by
  show ofE _ _ _ i=_
  rw [ofE_el hi]
 rw [hd,s_fn fn_gmo_view_stores]
 generalize (evs R)[i]=e at *
 simp [ir_gmo_view_stores,go_sem,hob,hpl,hoe,iu,huf,e1,hBy,hfl]
theorem pair_ok {i:Nat} (hi:i<(evs R).length):evI pg .heap n_gmo_view_pair [.ptr p 0 0,.int .i64 (i:Int)] H=some (.tup [.int .i64 ((((gmOf (evs R) co).pr i).getD 0:Nat):Int),.bool ((gmOf (evs R) co).pr i).isSome],H):=by
 have hob:=gv.ob
 simp only [gC] at hob
 have hpl:=get_lt hob
 have hoe:=get_el hob
 have iu:=w.ev.is
 have huf:=w.ev.fpR
 have e1:=fun m=>w.ev.ia (sz:=33) m .i64 (i:=i) (by rw [evR_len]; exact hi) (evR_sz _ _ (List.getElem_mem _))
 simp only [evR_el] at e1
 have hS:=SortO ((evs R)[i]).r.ins.op
 have hlk:=fun vs tk=>look_kv gv.mp vs tk false (.int .i64 0) ((evs R)[i]).r.pair
 simp only [Bool.false_eq_true,if_false] at hlk
 rw [gv.at_ _] at hlk
 have ha:((lix (evs R) ((evs R)[i]).r.pair).map fun (i:Nat)=>V.int .i64 ((i:Nat):Int)).getD (.int .i64 0)=.int .i64 ((at1 (evs R) ((evs R)[i]).r.pair:Nat):Int):=by
  unfold at1
  cases lix (evs R) ((evs R)[i]).r.pair<;>rfl
 rw [ha] at hlk
 have hd:(gmOf (evs R) co).pr i=if srtO ((evs R)[i]).r.ins.op=11 then some (at1 (evs R) ((evs R)[i]).r.pair) else none:=by
  show ofE _ _ _ i=_
  rw [ofE_el hi]
 rw [hd,s_fn fn_gmo_view_pair]
 generalize (evs R)[i]=e at *
 by_cases c:srtO e.r.ins.op=11
 ·rw [c] at hS
  simp [ir_gmo_view_pair,go_sem,hob,hpl,hoe,iu,huf,e1,hS,hlk,c]
 ·have c':¬ ((srtO e.r.ins.op:Nat):Int)=11:=by omega
  simp [ir_gmo_view_pair,go_sem,hob,hpl,hoe,iu,huf,e1,hS,c,c']
end
section
variable {x0:V} {lv:Nat→V} {x4 u:V} {R:Nat→List Rt} {img:List Nat} {cv:List V} {co:List (List Int)} (w:Lk x0 lv x4 u R img cv co)
 {H:List Vm.Obj} {p mid:Nat} {l:List (Int × V)} {cs:V} {cm:Nat→Nat} {cl:Nat→List (Int × V)} (gv:GV H p mid l cs cm cl x0 lv x4 u (evs R) co) (hE:(evs R).length≤512)
include w gv hE
end
section
variable {x0:V} {lv:Nat→V} {x4 u:V} {R:Nat→List Rt} {img:List Nat} {cv:List V} {co:List (List Int)} (w:Lk x0 lv x4 u R img cv co)
 {H:List Vm.Obj} {p mid:Nat} {l:List (Int × V)} {cs:V} {cm:Nat→Nat} {cl:Nat→List (Int × V)} (gv:GV H p mid l cs cm cl x0 lv x4 u (evs R) co) (hE:(evs R).length≤512)
include w gv hE
end
theorem all_any (n:Nat) (f:Nat→Bool):(List.range n).all (fun s=>!f s)=!(List.range' 0 (n - 0)).any f:=by
 rw [Nat.sub_zero,← List.range_eq_range']
 generalize List.range n=l
 induction l with
 | nil=>rfl
 | cons a l ih=>rw [List.all_cons,List.any_cons,ih,Bool.not_or]
def atB (g:Gm) (i x:Nat) (fr:Int) (pl:Nat→Int) (s:Nat):Bool:=g.st s x && (!decide (g.hart s=g.hart i) && (decide (fr<pl s) && decide (pl s<pl i)))
section
variable {x0:V} {lv:Nat→V} {x4 u:V} {R:Nat→List Rt} {img:List Nat} {cv:List V} {co:List (List Int)} (w:Lk x0 lv x4 u R img cv co)
 {H:List Vm.Obj} {p mid:Nat} {l:List (Int × V)} {cs:V} {cm:Nat→Nat} {cl:Nat→List (Int × V)} (gv:GV H p mid l cs cm cl x0 lv x4 u (evs R) co) (hE:(evs R).length≤512)
include w gv hE
theorem atomic_l0 {F:Nat} {cc:V} (hcc:cc.exp=some cc) {x:Nat} (hx:x≤100000) {pl:Nat→Int} (hP:∀ s,s<(evs R).length→evI pg .heap F [.int .i64 (x:Int),.int .i64 (s:Int),cc] H=some (.int .i64 (pl s),H)) {i:Nat} (hi:i<(evs R).length) (fr:Int) (s:Nat) (hs:s≤(evs R).length):
  evCI pg (.loop ir_gmo_view_atomicl0) ⟨[.ptr p 0 0,.int .i64 (i:Int),.undef,.fn F [] [cc],.undef,.undef,.undef,.int .i64 (x:Int),.int .i64 fr,.undef,.undef,.undef,.undef,.undef,.undef,.int .i64 ((evs R).length:Int),.int .i64 (s:Int),.undef,.undef],⟨[],[],H⟩⟩ =
   some (if (List.range' s ((evs R).length - s)).any (atB (gmOf (evs R) co) i x fr pl)=true then (.ret,⟨[.undef,.undef,.undef,.undef,.bool false,.undef,.undef,.undef,.undef,.undef,.undef,.undef,.undef,.undef,.undef,.undef,.undef,.undef,.undef],⟨[],[],H⟩⟩)
    else (.exit 0,⟨[.ptr p 0 0,.int .i64 (i:Int),.undef,.fn F [] [cc],.undef,.undef,.undef,.int .i64 (x:Int),.int .i64 fr,.undef,.undef,.undef,.undef,.undef,.undef,.int .i64 ((evs R).length:Int),.int .i64 ((evs R).length:Int),.bool false,.undef],⟨[],[],H⟩⟩)):=by
 obtain ⟨B,hB⟩:∃ B,B=Vm.C.loop ir_gmo_view_atomicl0:=⟨_,rfl⟩
 by_cases c:s<(evs R).length
 ·have e3:=succ_i64 c (by omega)
  have cI:(s:Int)<((evs R).length:Int):=by omega
  have hob:=gv.ob
  simp only [gC] at hob
  have hpl:=get_lt hob
  have hoe:=get_el hob
  have iu:=w.ev.is
  have huf:=w.ev.fpR
  have e1:=fun m=>w.ev.ia (sz:=33) m .i64 (i:=i) (by rw [evR_len]; exact hi) (evR_sz _ _ (List.getElem_mem _))
  have e2:=fun m=>w.ev.ia (sz:=33) m .i64 (i:=s) (by rw [evR_len]; exact c) (evR_sz _ _ (List.getElem_mem _))
  simp only [evR_el] at e1 e2
  have hst:=stores_ok w gv c x hx
  have hps:=hP s c
  have hpi:=hP i hi
  have hd:List.range' s ((evs R).length - s)=s :: List.range' (s+1) ((evs R).length - (s+1)):=by
   have:(evs R).length - s=((evs R).length - (s+1))+1:=by omega
   rw [this,List.range'_succ]
  have hdef:atB (gmOf (evs R) co) i x fr pl s=((gmOf (evs R) co).st s x && (!decide (((evs R)[s]).hart=((evs R)[i]).hart) && (decide (fr<pl s) && decide (pl s<pl i)))):=by
   have h1:(gmOf (evs R) co).hart s=((evs R)[s]).hart:=by
    show ofE _ _ _ s=_
    rw [ofE_el c]
   have h2:(gmOf (evs R) co).hart i=((evs R)[i]).hart:=by
    show ofE _ _ _ i=_
    rw [ofE_el hi]
   unfold atB
   rw [h1,h2]
  have ih:=atomic_l0 hcc hx hP hi fr (s+1) (by omega)
  rw [hd,List.any_cons,hdef]
  rw [← hB] at ih
  rw [← hB,s_loop_at hB]
  clear hd hdef hP gv w
  generalize (evs R)[s]=y at *
  generalize (evs R)[i]=z at *
  cases d1:(gmOf (evs R) co).st s x with
  | false=>
   rw [d1] at hst
   rw [Bool.false_and,Bool.false_or,← ih]
   clear ih
   generalize (evs R).length=n at *
   simp [ir_gmo_view_atomicl0,go_sem,c,cI,hob,hpl,hoe,iu,huf,hst,e1,e2,hps,hpi,e3,hcc,-Int.natCast_add]
  | true=>
   rw [d1] at hst
   by_cases d2:y.hart=z.hart
   ·rw [decide_eq_true d2,Bool.not_true,Bool.false_and,Bool.and_false,Bool.false_or,← ih]
    clear ih
    generalize (evs R).length=n at *
    simp [ir_gmo_view_atomicl0,go_sem,c,cI,hob,hpl,hoe,iu,huf,hst,e1,e2,hps,hpi,e3,hcc,d2,-Int.natCast_add]
   ·have d2':¬ (y.hart:Int)=(z.hart:Int):=by omega
    rw [decide_eq_false d2,Bool.not_false,Bool.true_and,Bool.true_and]
    generalize (evs R).length=n at *
    generalize pl s=ps at *
    generalize pl i=pi at *
    by_cases d3:fr<ps
    ·rw [decide_eq_true d3,Bool.true_and]
     by_cases d4:ps<pi
     ·rw [decide_eq_true d4,Bool.true_or,if_pos rfl]
      clear ih
      simp [ir_gmo_view_atomicl0,go_sem,c,cI,hob,hpl,hoe,iu,huf,hst,e1,e2,hps,hpi,hcc,d2,d2',d3,d4,-Int.natCast_add]
     ·rw [decide_eq_false d4,Bool.false_or,← ih]
      clear ih
      simp [ir_gmo_view_atomicl0,go_sem,c,cI,hob,hpl,hoe,iu,huf,hst,e1,e2,hps,hpi,e3,hcc,d2,d2',d3,d4,-Int.natCast_add]
    ·rw [decide_eq_false d3,Bool.false_and,Bool.false_or,← ih]
     clear ih
     simp [ir_gmo_view_atomicl0,go_sem,c,cI,hob,hpl,hoe,iu,huf,hst,e1,e2,hps,hpi,e3,hcc,d2,d2',d3,-Int.natCast_add]
 ·obtain rfl:s=(evs R).length:=by omega
  rw [← hB,s_loop_at hB,Nat.sub_self]
  simp [ir_gmo_view_atomicl0,go_sem]
termination_by (evs R).length - s
set_option maxHeartbeats 4000000 in
theorem atomic_ok {F:Nat} {cc:V} (hcc:cc.exp=some cc) {i:Nat} (hi:i<(evs R).length) (had:0≤adE ((evs R)[i]).r) {k:Nat} (hk:k<8) {pl:Nat→Nat→Int}
  (hP:∀ s,s<(evs R).length→evI pg .heap F [.int .i64 (((gmOf (evs R) co).ad i+k:Nat):Int),.int .i64 (s:Int),cc] H=some (.int .i64 (pl ((gmOf (evs R) co).ad i+k) s),H))
  (hpr:∀ r,(gmOf (evs R) co).pr i=some r→r<(evs R).length∧∀ x,(gmOf (evs R) co).tgt r k=some x→x<(evs R).length):
  evI pg .heap n_gmo_view_atomic [.ptr p 0 0,.int .i64 (i:Int),.int .i64 (k:Int),.fn F [] [cc]] H=some (.bool ((gmOf (evs R) co).atm pl i k),H):=by
 have hob:=gv.ob
 simp only [gC] at hob
 have hpl:=get_lt hob
 have hoe:=get_el hob
 have hb:=evs_bd (R:=R) fun h hh=>(w.li h hh).2.1
 have iu:=w.ev.is
 have huf:=w.ev.fpR
 have hur:(rows u).length=(evs R).length:=by rw [w.ev.rows,evR_len]
 have e1:=fun m=>w.ev.ia (sz:=33) m .i64 (i:=i) (by rw [evR_len]; exact hi) (evR_sz _ _ (List.getElem_mem _))
 simp only [evR_el] at e1
 have hpair:=pair_ok w gv hi
 have hdef:(gmOf (evs R) co).atm pl i k=match (gmOf (evs R) co).pr i with
  | none=>true
  | some r=>match (gmOf (evs R) co).tgt r k with
   | none=>!decide (pl ((gmOf (evs R) co).ad i+k) i<0) && (List.range (evs R).length).all fun s=>!atB (gmOf (evs R) co) i ((gmOf (evs R) co).ad i+k) 0 (pl ((gmOf (evs R) co).ad i+k)) s
   | some x=>!decide (pl ((gmOf (evs R) co).ad i+k) i<pl ((gmOf (evs R) co).ad i+k) x) && (List.range (evs R).length).all fun s=>!atB (gmOf (evs R) co) i ((gmOf (evs R) co).ad i+k) (pl ((gmOf (evs R) co).ad i+k) x) (pl ((gmOf (evs R) co).ad i+k)) s:=by
  unfold Gm.atm
  cases (gmOf (evs R) co).pr i with
  | none=>rfl
  | some r=>
   simp only
   cases (gmOf (evs R) co).tgt r k<;>rfl
 rw [hdef,s_fn fn_gmo_view_atomic]
 cases qp:(gmOf (evs R) co).pr i with
 | none=>
  rw [qp] at hpair
  simp only [Option.getD_none,Option.isSome_none] at hpair
  simp [ir_gmo_view_atomic,go_sem,hob,hpl,hoe,iu,huf,hur,hcc,e1,hpair,-Int.natCast_add]
 | some r=>
  rw [qp] at hpair
  simp only [Option.getD_some,Option.isSome_some] at hpair
  obtain ⟨hr,hx⟩:=hpr r qp
  have hale:=adE_le (hb _ (List.getElem_mem hi)).ad.1
  obtain ⟨a,ha⟩:∃ a:Nat,adE ((evs R)[i]).r=(a:Int):=⟨_,(Int.toNat_of_nonneg had).symm⟩
  have hga:(gmOf (evs R) co).ad i=a:=by
   show ofE _ _ _ i=_
   rw [ofE_el hi,ha,Int.toNat_natCast]
  rw [hga] at hP ⊢
  have ew:IntKind.i64.wrap ((a:Int)+(k:Int))=((a+k:Nat):Int):=by rw [wrap_i64 (by omega) (by omega)]; rfl
  have e2:=fun m=>w.ev.ia (sz:=33) m .i64 (i:=r) (by rw [evR_len]; exact hr) (evR_sz _ _ (List.getElem_mem _))
  simp only [evR_el] at e2
  have hnm:=named_ok gv (((evs R)[r]).r.tg k)
  have ht:=evC_tgq (evs R)[r] hk
  have ht':=get_all ht
  have k8:(k:Int)<8:=by omega
  have k7:k≤7:=by omega
  have k28:20+k<33:=by omega
  have htg:(gmOf (evs R) co).tgt r k=if ((evs R)[r]).r.tg k=-1 then none else some (at1 (evs R) (((evs R)[r]).r.tg k)):=by
   show ofE _ _ _ r=_
   rw [ofE_el hr]
  have hl0:=fun fr=>atomic_l0 w gv hE hcc (x:=a+k) (by omega) (pl:=pl (a+k)) hP hi fr 0 (Nat.zero_le _)
  rw [Int.natCast_zero] at hl0
  have hpi:=hP i hi
  clear hdef hga hb qp
  by_cases ct:((evs R)[r]).r.tg k=-1
  ·rw [if_pos ct] at htg
   rw [ct] at hnm ht ht'
   simp only [if_true] at hnm
   have hl:=hl0 0
   simp only [htg]
   rw [all_any]
   clear hP hl0 htg
   generalize (evs R)[i]=e at *
   generalize (evs R)[r]=f at *
   generalize pl (a+k) i=pi at *
   by_cases d:pi<0
   ·rw [decide_eq_true d,Bool.not_true,Bool.false_and]
    simp [ir_gmo_view_atomic,go_sem,hob,hpl,hoe,iu,huf,hur,hcc,e1,e2,ha,ew,hpair,hnm,ht,ht',k8,k7,k28,hk,hpi,d,-Int.natCast_add]
   ·rw [decide_eq_false d,Bool.not_false,Bool.true_and]
    cases dl:(List.range' 0 ((evs R).length - 0)).any (atB (gmOf (evs R) co) i (a+k) 0 (pl (a+k))) with
    | true=>
     rw [dl,if_pos rfl] at hl
     simp [ir_gmo_view_atomic,go_sem,hob,hpl,hoe,iu,huf,hur,hcc,e1,e2,ha,ew,hpair,hnm,ht,ht',k8,k7,k28,hk,hpi,d,hl,-Int.natCast_add]
    | false=>
     rw [dl,if_neg (by simp)] at hl
     simp [ir_gmo_view_atomic,go_sem,hob,hpl,hoe,iu,huf,hur,hcc,e1,e2,ha,ew,hpair,hnm,ht,ht',k8,k7,k28,hk,hpi,d,hl,-Int.natCast_add]
  ·rw [if_neg ct] at htg hnm
   rw [decide_eq_true ct] at hnm
   have hw:=hx _ htg
   have hpw:=hP _ hw
   have hl:=hl0 (pl (a+k) (at1 (evs R) (((evs R)[r]).r.tg k)))
   simp only [htg]
   rw [all_any]
   clear hP hl0 htg hx
   generalize at1 (evs R) (((evs R)[r]).r.tg k)=wt at *
   generalize (evs R)[i]=e at *
   generalize (evs R)[r]=f at *
   generalize pl (a+k) i=pi at *
   generalize hpwv:pl (a+k) wt=pw at *
   by_cases d:pi<pw
   ·rw [decide_eq_true d,Bool.not_true,Bool.false_and]
    simp [ir_gmo_view_atomic,go_sem,hob,hpl,hoe,iu,huf,hur,hcc,e1,e2,ha,ew,hpair,hnm,ht,ht',k8,k7,k28,hk,hpi,hpw,d,-Int.natCast_add]
   ·rw [decide_eq_false d,Bool.not_false,Bool.true_and]
    cases dl:(List.range' 0 ((evs R).length - 0)).any (atB (gmOf (evs R) co) i (a+k) pw (pl (a+k))) with
    | true=>
     rw [dl,if_pos rfl] at hl
     simp [ir_gmo_view_atomic,go_sem,hob,hpl,hoe,iu,huf,hur,hcc,e1,e2,ha,ew,hpair,hnm,ht,ht',k8,k7,k28,hk,hpi,hpw,d,hl,-Int.natCast_add]
    | false=>
     rw [dl,if_neg (by simp)] at hl
     simp [ir_gmo_view_atomic,go_sem,hob,hpl,hoe,iu,huf,hur,hcc,e1,e2,ha,ew,hpair,hnm,ht,ht',k8,k7,k28,hk,hpi,hpw,d,hl,-Int.natCast_add]
end
end Go.Proofs.YtimiademofajeaaGreatDoor
