/- Lemmas (no claim): K23b, K23e. -/
import Derived.Test.YtimiademofajeaaGreatDoorP16
import Derived.Test.YtimiademofajeaaGreatDoorP19
set_option linter.unusedSimpArgs false
set_option linter.unusedVariables false
set_option maxRecDepth 20000
namespace Go.Proofs.YtimiademofajeaaGreatDoor
open Go Go.Vm
theorem get_all {α:Type} {l:List α} {i:Nat} {x:α} (h:l[i]?=some x):∀ q:i<l.length,l[i]=x:=fun q=>by
 rw [List.getElem?_eq_getElem q] at h
 exact Option.some.inj h
def ofE {α:Type} (E:List Ev) (f:Ev→α) (d:α) (i:Nat):α:=match E[i]? with
 | some e=>f e
 | none=>d
theorem ofE_el {α:Type} {E:List Ev} {f:Ev→α} {d:α} {i:Nat} (h:i<E.length):ofE E f d i=f E[i]:=by
 unfold ofE
 rw [List.getElem?_eq_getElem h]
def at1 (E:List Ev) (n:Int):Nat:=(lix E n).getD 0
def gmOf (E:List Ev) (co:List (List Int)):Gm where
 n:=E.length
 bz:=co.length
 C:=fun x=>((co[x]?).getD []).map (at1 E)
 st:=fun s x=>ofE E (fun e=>bh e (x:Int)) false s
 ah:=fun a b=>ofE E (fun e=>ofE E (fun f=>decide (e.hart=f.hart) && decide (e.at'<f.at')) false b) false a
 hart:=ofE E Ev.hart 0
 ld:=ofE E (fun e=>lod e.r.ins.op) false
 sz:=ofE E (fun e=>szO e.r.ins.op) 0
 ad:=ofE E (fun e=>(adE e.r).toNat) 0
 tgt:=fun i k=>ofE E (fun e=>if e.r.tg k=-1 then none else some (at1 E (e.r.tg k))) none i
 pr:=fun i=>ofE E (fun e=>if srtO e.r.ins.op=11 then some (at1 E e.r.pair) else none) none i
def gC (x0:V) (lv:Nat→V) (x4 u:V) (mid:Nat) (cs:V):List V:=[x0,lv 0,lv 1,lv 2,x4,u,.map mid,cs]
def mrw (cm:Nat→Nat) (n:Nat):List (List V):=(List.range n).map fun x=>[V.map (cm x)]
theorem mrw_len (cm:Nat→Nat) (n:Nat):(mrw cm n).length=n:=by simp [mrw]
theorem mrw_get (cm:Nat→Nat) {n x:Nat} (h:x<n):(mrw cm n)[x]?=some [V.map (cm x)]:=by simp [mrw,h]
structure GV (H:List Vm.Obj) (p mid:Nat) (l:List (Int × V)) (cs:V) (cm:Nat→Nat) (cl:Nat→List (Int × V)) (x0:V) (lv:Nat→V) (x4 u:V) (E:List Ev) (co:List (List Int)):Prop where
 ob:H[p]?=some (.arr [gC x0 lv x4 u mid cs])
 mp:H[mid]?=some (.mp (kvR l))
 at_:AtL l E
 cr:co.length=0∨∃ cid,cs=.rsl cid 0 co.length∧H[cid]?=some (.arr (mrw cm co.length))
 cmp:∀ x,x<co.length→H[cm x]?=some (.mp (kvR (cl x)))
 cat:∀ x,x<co.length→∀ s:Nat,(kget (cl x) (s:Int)).getD (.int .i64 0)=.int .i64 ((cpl ((gmOf E co).C x) s:Nat):Int)
theorem GV.frame {H H':List Vm.Obj} {p mid:Nat} {l:List (Int × V)} {cs:V} {cm:Nat→Nat} {cl:Nat→List (Int × V)} {x0:V} {lv:Nat→V} {x4 u:V} {E:List Ev} {co:List (List Int)} (g:GV H p mid l cs cm cl x0 lv x4 u E co) (h:∀ q,q<H.length→H'[q]?=H[q]?):GV H' p mid l cs cm cl x0 lv x4 u E co:=by
 have f:∀ {q:Nat} {o:Vm.Obj},H[q]?=some o→H'[q]?=some o:=fun {q o} hq=>by rw [h q (get_lt hq)]; exact hq
 refine ⟨f g.ob,f g.mp,g.at_,?_,fun x hx=>f (g.cmp x hx),g.cat⟩
 rcases g.cr with h0 | ⟨cid,h1,h2⟩
 ·exact .inl h0
 ·exact .inr ⟨cid,h1,f h2⟩
theorem GV.look {H:List Vm.Obj} {p mid:Nat} {l:List (Int × V)} {cs:V} {cm:Nat→Nat} {cl:Nat→List (Int × V)} {x0:V} {lv:Nat→V} {x4 u:V} {E:List Ev} {co:List (List Int)} (g:GV H p mid l cs cm cl x0 lv x4 u E co) (vs:List (List V)) (tk:List Nat) (n:Int):
  lookM ⟨vs,tk,H⟩ false false [.int .i64 0] (.map mid) (.int .i64 n)=some (.int .i64 ((at1 E n:Nat):Int),⟨vs,tk,H⟩):=by
 have hlk:=look_kv g.mp vs tk false (.int .i64 0) n
 simp only [Bool.false_eq_true,if_false] at hlk
 rw [g.at_ n] at hlk
 rw [hlk]
 unfold at1
 cases lix E n<;>rfl
def arH (H:List Vm.Obj) (r:List (List V)):List Vm.Obj:=H ++ [.arr r]
theorem arH_mk (H:List Vm.Obj) (r:List (List V)):H ++ [Vm.Obj.arr r]=arH H r:=rfl
theorem arH_at (H:List Vm.Obj) (r:List (List V)):(arH H r)[H.length]?=some (.arr r):=by simp [arH]
theorem arH_len (H:List Vm.Obj) (r:List (List V)):(arH H r).length=H.length+1:=by simp [arH]
theorem arH_el (H:List Vm.Obj) (r:List (List V)) (h:H.length<(arH H r).length):(arH H r)[H.length]=.arr r:=by simp [arH]
theorem arH_old {H:List Vm.Obj} (r:List (List V)) {q:Nat} (h:q<H.length):(arH H r)[q]?=H[q]?:=by simp [arH,List.getElem?_append_left h]
theorem arH_set (H:List Vm.Obj) (r s:List (List V)):(arH H r).set H.length (.arr s)=arH H s:=by simp [arH]
section
variable {x0:V} {lv:Nat→V} {x4 u:V} {R:Nat→List Rt} {img:List Nat} {cv:List V} {co:List (List Int)} (w:Lk x0 lv x4 u R img cv co)
 {H:List Vm.Obj} {p mid:Nat} {l:List (Int × V)} {cs:V} {cm:Nat→Nat} {cl:Nat→List (Int × V)} (gv:GV H p mid l cs cm cl x0 lv x4 u (evs R) co)
include w gv
theorem ahead_ok {a b:Nat} (ha:a<(evs R).length) (hb:b<(evs R).length):evI pg .heap n_gmo_view_ahead [.ptr p 0 0,.int .i64 (a:Int),.int .i64 (b:Int)] H=some (.bool ((gmOf (evs R) co).ah a b),H):=by
 have hob:=gv.ob
 simp only [gC] at hob
 have hpl:=get_lt hob
 have hoe:=get_el hob
 have iu:=w.ev.is
 have huf:=w.ev.fpR
 have e1:=fun m=>w.ev.ia (sz:=33) m .i64 (i:=a) (by rw [evR_len]; exact ha) (evR_sz _ _ (List.getElem_mem _))
 simp only [evR_el] at e1
 have e2:=fun m=>w.ev.ia (sz:=33) m .i64 (i:=b) (by rw [evR_len]; exact hb) (evR_sz _ _ (List.getElem_mem _))
 simp only [evR_el] at e2
 have hd:(gmOf (evs R) co).ah a b=(decide (((evs R)[a]).hart=((evs R)[b]).hart) && decide (((evs R)[a]).at'<((evs R)[b]).at')):=by
  show ofE _ _ _ a=_
  rw [ofE_el ha,ofE_el hb]
 rw [hd,s_fn fn_gmo_view_ahead]
 generalize (evs R)[a]=x at *
 generalize (evs R)[b]=y at *
 by_cases q:x.hart=y.hart
 ·by_cases q2:x.at'<y.at'
  ·have q3:(x.at':Int)<(y.at':Int):=by omega
   simp [ir_gmo_view_ahead,go_sem,hob,hpl,hoe,iu,huf,e1,e2,q,q2,q3]
  ·have q3:¬ (x.at':Int)<(y.at':Int):=by omega
   simp [ir_gmo_view_ahead,go_sem,hob,hpl,hoe,iu,huf,e1,e2,q,q2,q3]
 ·have q3:¬ (x.hart:Int)=(y.hart:Int):=by omega
  simp [ir_gmo_view_ahead,go_sem,hob,hpl,hoe,iu,huf,e1,e2,q,q3]
omit w in
theorem named_ok (n:Int):evI pg .heap n_gmo_view_named [.ptr p 0 0,.int .i64 n] H=some (.tup [.int .i64 ((if n=-1 then 0 else at1 (evs R) n:Nat):Int),.bool (decide (n≠-1))],H):=by
 have hob:=gv.ob
 simp only [gC] at hob
 have hpl:=get_lt hob
 have hoe:=get_el hob
 have hlk:=fun vs tk=>look_kv gv.mp vs tk false (.int .i64 0) n
 simp only [Bool.false_eq_true,if_false] at hlk
 rw [gv.at_ n] at hlk
 have ha:((lix (evs R) n).map fun (i:Nat)=>V.int .i64 ((i:Nat):Int)).getD (.int .i64 0)=.int .i64 ((at1 (evs R) n:Nat):Int):=by
  unfold at1
  cases lix (evs R) n<;>rfl
 rw [ha] at hlk
 rw [s_fn fn_gmo_view_named]
 by_cases c:n=-1
 ·simp [ir_gmo_view_named,go_sem,hob,hpl,hoe,c]
 ·simp [ir_gmo_view_named,go_sem,hob,hpl,hoe,c,hlk]
theorem stores_ok {i:Nat} (hi:i<(evs R).length) (x:Nat) (hx:x≤100000):evI pg .heap n_gmo_view_stores [.ptr p 0 0,.int .i64 (i:Int),.int .i64 (x:Int)] H=some (.bool ((gmOf (evs R) co).st i x),H):=by
 have hob:=gv.ob
 simp only [gC] at hob
 have hpl:=get_lt hob
 have hoe:=get_el hob
 have hb:=evs_bd (R:=R) fun h hh=>(w.li h hh).2.1
 have iu:=w.ev.is
 have huf:=w.ev.fpR
 have e1:=fun m=>w.ev.ia (sz:=33) m .i64 (i:=i) (by rw [evR_len]; exact hi) (evR_sz _ _ (List.getElem_mem _))
 simp only [evR_el] at e1
 have hBy:=Byte_ok (evs R)[i] (hb _ (List.getElem_mem _)) (x:Int) (by omega)
 have hfl:=eq_true (evC_flat (evs R)[i])
 have hd:(gmOf (evs R) co).st i x=bh (evs R)[i] (x:Int):=by
  show ofE _ _ _ i=_
  rw [ofE_el hi]
 rw [hd,s_fn fn_gmo_view_stores]
 generalize (evs R)[i]=e at *
 simp [ir_gmo_view_stores,go_sem,hob,hpl,hoe,iu,huf,e1,hBy,hfl]
theorem pair_ok {i:Nat} (hi:i<(evs R).length):evI pg .heap n_gmo_view_pair [.ptr p 0 0,.int .i64 (i:Int)] H=some (.tup [.int .i64 ((((gmOf (evs R) co).pr i).getD 0:Nat):Int),.bool ((gmOf (evs R) co).pr i).isSome],H):=by
 have hob:=gv.ob
 simp only [gC] at hob
 have hpl:=get_lt hob
 have hoe:=get_el hob
 have iu:=w.ev.is
 have huf:=w.ev.fpR
 have e1:=fun m=>w.ev.ia (sz:=33) m .i64 (i:=i) (by rw [evR_len]; exact hi) (evR_sz _ _ (List.getElem_mem _))
 simp only [evR_el] at e1
 have hS:=SortO ((evs R)[i]).r.ins.op
 have hlk:=fun vs tk=>look_kv gv.mp vs tk false (.int .i64 0) ((evs R)[i]).r.pair
 simp only [Bool.false_eq_true,if_false] at hlk
 rw [gv.at_ _] at hlk
 have ha:((lix (evs R) ((evs R)[i]).r.pair).map fun (i:Nat)=>V.int .i64 ((i:Nat):Int)).getD (.int .i64 0)=.int .i64 ((at1 (evs R) ((evs R)[i]).r.pair:Nat):Int):=by
  unfold at1
  cases lix (evs R) ((evs R)[i]).r.pair<;>rfl
 rw [ha] at hlk
 have hd:(gmOf (evs R) co).pr i=if srtO ((evs R)[i]).r.ins.op=11 then some (at1 (evs R) ((evs R)[i]).r.pair) else none:=by
  show ofE _ _ _ i=_
  rw [ofE_el hi]
 rw [hd,s_fn fn_gmo_view_pair]
 generalize (evs R)[i]=e at *
 by_cases c:srtO e.r.ins.op=11
 ·rw [c] at hS
  simp [ir_gmo_view_pair,go_sem,hob,hpl,hoe,iu,huf,e1,hS,hlk,c]
 ·have c':¬ ((srtO e.r.ins.op:Nat):Int)=11:=by omega
  simp [ir_gmo_view_pair,go_sem,hob,hpl,hoe,iu,huf,e1,hS,c,c']
end
end Go.Proofs.YtimiademofajeaaGreatDoor
namespace Go.Proofs.YtimiademofajeaaGreatDoor
open Go Go.Vm
theorem places_l0 (H:List Vm.Obj) (n:Nat) (hn:n≤100000) (ov:V) (L:List Int) (hu:Sl ov (iI L)) (hL:L.length≤100000) (j:Nat) (hj:j≤L.length) (h:Nat→Int):
  ∃ h2,evCI pg (.loop ir_gmo_view_placesl0) ⟨[.undef,ov,.undef,.undef,.rsl H.length 0 n,.undef,.undef,ov,.int .i64 (L.length:Int),.int .i64 (j:Int),.undef,.undef],⟨[],[],arH H (nR n h)⟩⟩ =
   some (match fitA n h j (L.drop j) with
   | some h'=>(.exit 0,⟨[.undef,ov,.undef,.undef,.rsl H.length 0 n,.undef,.undef,ov,.int .i64 (L.length:Int),.int .i64 (L.length:Int),.bool false,.undef],⟨[],[],arH H (nR n h')⟩⟩)
   | none=>(.ret,⟨[.undef,.undef,.nils,.bool false,.undef,.undef,.undef,.undef,.undef,.undef,.undef,.undef],⟨[],[],arH H (nR n h2)⟩⟩)):=by
 obtain ⟨B,hB⟩:∃ B,B=Vm.C.loop ir_gmo_view_placesl0:=⟨_,rfl⟩
 by_cases c:j<L.length
 ·have e3:=succ_i64 c (by omega)
  have cI:(j:Int)<(L.length:Int):=by omega
  have e1:=fun m=>hu.ia (sz:=1) m .i64 (i:=j) (by rw [iI_len]; exact c) (by simp [iI])
  simp only [iI_el] at e1
  rw [List.drop_eq_getElem_cons c]
  generalize L[j]=a at *
  have hgl:=nR_len n h
  unfold fitA
  by_cases h0:a<0
  ·have hc:¬ (0≤a∧a<n∧h a.toNat≤0):=fun q=>by omega
   refine ⟨h,?_⟩
   rw [if_neg hc,← hB,s_loop_at hB]
   generalize nR n h=ar at *
   simp [ir_gmo_view_placesl0,go_sem,hu.is,c,cI,e1,e3,arH_at,arH_len,arH_el,arH_set,hgl,asIx_nat,h0,-Int.natCast_add]
  ·obtain ⟨a,rfl⟩:∃ k:Nat,a=k:=⟨a.toNat,by omega⟩
   by_cases h1:a<n
   ·have h1':¬ (n:Int)≤(a:Int):=by omega
    have h1n:¬ n≤a:=by omega
    have hgg:=nR_get h h1
    have hal:a<(nR n h).length:=by omega
    have hae:=nR_el n h a hal
    by_cases h2:h a≤0
    ·have hc:(0≤(a:Int)∧(a:Int)<n∧h (a:Int).toNat≤0):=⟨by omega,by omega,h2⟩
     obtain ⟨h',ih⟩:=places_l0 H n hn ov L hu hL (j+1) (by omega) (fun b=>if b=(a:Int).toNat then (j:Int)+1 else h b)
     refine ⟨h',?_⟩
     rw [if_pos hc,← ih,← hB]
     conv=>lhs; rw [s_loop_at hB]
     have h3:¬ 0<h a:=by omega
     have hjj:(j:Int)+1=((j+1:Nat):Int):=by omega
     rw [Int.toNat_natCast,hjj,← nR_set n h a ((j+1:Nat):Int)]
     generalize nR n h=ar at *
     generalize h a=v at *
     simp [ir_gmo_view_placesl0,go_sem,hu.is,c,cI,e1,e3,arH_at,arH_len,arH_el,arH_set,hgl,asIx_nat,h0,h1,h1',h1n,hgg,hal,hae,h3,-Int.natCast_add]
    ·have hc:¬ (0≤(a:Int)∧(a:Int)<n∧h (a:Int).toNat≤0):=fun q=>h2 q.2.2
     refine ⟨h,?_⟩
     rw [if_neg hc,← hB,s_loop_at hB]
     have h3:0<h a:=by omega
     generalize nR n h=ar at *
     generalize h a=v at *
     simp [ir_gmo_view_placesl0,go_sem,hu.is,c,cI,e1,e3,arH_at,arH_len,arH_el,arH_set,hgl,asIx_nat,h0,h1,h1',h1n,hgg,hal,hae,h3,-Int.natCast_add]
   ·have hc:¬ (0≤(a:Int)∧(a:Int)<n∧h (a:Int).toNat≤0):=fun q=>by omega
    have h1':(n:Int)≤(a:Int):=by omega
    have h1n:n≤a:=by omega
    refine ⟨h,?_⟩
    rw [if_neg hc,← hB,s_loop_at hB]
    generalize nR n h=ar at *
    simp [ir_gmo_view_placesl0,go_sem,hu.is,c,cI,e1,e3,arH_at,arH_len,arH_el,arH_set,hgl,asIx_nat,h0,h1,h1',h1n,-Int.natCast_add]
 ·obtain rfl:j=L.length:=by omega
  refine ⟨h,?_⟩
  rw [← hB,s_loop_at hB,List.drop_length]
  simp [ir_gmo_view_placesl0,go_sem,fitA]
termination_by L.length - j
section
variable {x0:V} {lv:Nat→V} {x4 u:V} {R:Nat→List Rt} {img:List Nat} {cv:List V} {co:List (List Int)} (w:Lk x0 lv x4 u R img cv co)
 {H:List Vm.Obj} {p mid:Nat} {l:List (Int × V)} {cs:V} {cm:Nat→Nat} {cl:Nat→List (Int × V)} (gv:GV H p mid l cs cm cl x0 lv x4 u (evs R) co) (hE:(evs R).length≤512)
include w gv hE
theorem places2_ok (ov:V) (L:List Int) (hu:Sl ov (iI L)) (hL:L.length≤100000):
  ∃ h2,evI pg .heap n_gmo_view_places [.ptr p 0 0,ov] H=some (match fitA (evs R).length (fun _=>0) 0 L with
   | some h=>(.tup [.rsl H.length 0 (evs R).length,.bool (decide (L.length=(evs R).length))],arH H (nR (evs R).length h))
   | none=>(.tup [.nils,.bool false],arH H (nR (evs R).length h2))):=by
 have hob:=gv.ob
 simp only [gC] at hob
 have hpl:=get_lt hob
 have hoe:=get_el hob
 have iu:=w.ev.is
 have hur:(rows u).length=(evs R).length:=by rw [w.ev.rows,evR_len]
 generalize (evs R).length=n at *
 obtain ⟨h2,h0⟩:=places_l0 H n (by omega) ov L hu hL 0 (by omega) (fun _=>0)
 refine ⟨h2,?_⟩
 rw [List.drop_zero,nR_rep,Int.natCast_zero] at h0
 have hk1:n * 8≤maxB:=by unfold maxB; omega
 have hk5:(n:Int)≤9223372036854775807:=by omega
 have hui:=hu.is
 have hulr:(rows ov).length=L.length:=by rw [hu.rows,iI_len]
 rw [s_fn fn_gmo_view_places]
 cases hf:fitA n (fun _=>0) 0 L with
 | none=>
  rw [hf] at h0
  simp [ir_gmo_view_places,go_sem,hob,hpl,hoe,iu,hur,hui,hulr,hk1,hk5,arH_mk,h0]
 | some h=>
  rw [hf] at h0
  by_cases q:L.length=n
  ·rw [q] at h0 hulr ⊢
   simp [ir_gmo_view_places,go_sem,hob,hpl,hoe,iu,hur,hui,hulr,hk1,hk5,arH_mk,h0]
  ·have q':¬ (L.length:Int)=(n:Int):=by omega
   simp [ir_gmo_view_places,go_sem,hob,hpl,hoe,iu,hur,hui,hulr,hk1,hk5,arH_mk,h0,q,q']
def bad1 (E:List Ev) (h:Nat→Int) (l:List Int) (k:Nat):Bool:=decide (h (at1 E (l.getD k 0))<h (at1 E (l.getD (k - 1) 0)))
omit hE in
theorem ordered_l0 (hin:∀ l∈co,∀ id∈l,at1 (evs R) id<(evs R).length) {q:Nat} {h:Nat→Int} (hq:H[q]?=some (.arr (nR (evs R).length h))) (x:Nat) (hx:x<cv.length) (y:List Int) (hy:co[x]?=some y) (k:Nat) (hk1:1≤k) (hk:k≤y.length+1):
  ∃ k1:Nat,evCI pg (.loop ir_gmo_view_orderedl0) ⟨[.ptr p 0 0,.rsl q 0 (evs R).length,.undef,cv[x],.int .i64 (k:Int),x4,.int .i64 (cv.length:Int),.int .i64 (x:Int),.undef,.undef,.undef],⟨[],[],H⟩⟩ =
   some (if (List.range' k (y.length - k)).any (bad1 (evs R) h y)=true then (.ret,⟨[.undef,.undef,.bool false,.undef,.undef,.undef,.undef,.undef,.undef,.undef,.undef],⟨[],[],H⟩⟩)
    else (.exit 2,⟨[.ptr p 0 0,.rsl q 0 (evs R).length,.undef,cv[x],.int .i64 (k1:Int),x4,.int .i64 (cv.length:Int),.int .i64 (x:Int),.undef,.bool false,.undef],⟨[],[],H⟩⟩)):=by
 obtain ⟨B,hB⟩:∃ B,B=Vm.C.loop ir_gmo_view_orderedl0:=⟨_,rfl⟩
 have hob:=gv.ob
 simp only [gC] at hob
 have hpl:=get_lt hob
 have hoe:=get_el hob
 have hql:=get_lt hq
 have hml:=get_lt gv.mp
 have hmo:=gv.mp
 have hme:=get_el gv.mp
 have hqe:=get_el hq
 have hyc:y∈co:=List.mem_of_getElem? hy
 have hsl:=w.cs.2 x cv[x] y (List.getElem?_eq_getElem hx) hy
 have hol:=w.ol y hyc
 have hsi:=hsl.is
 have hsf:=hsl.fpR
 have hsr:(rows cv[x]).length=y.length:=by rw [hsl.rows,iI_len]
 have i4:=w.co4.is
 by_cases c:k<y.length
 ·have e3:=succ_i64 c (by omega)
  have cI:(k:Int)<(y.length:Int):=by omega
  have ew:IntKind.i64.wrap ((k:Int) - 1)=((k - 1:Nat):Int):=by rw [wrap_i64 (by omega) (by omega)]; omega
  have c1:k - 1<y.length:=by omega
  have e1:=fun m=>hsl.ia (sz:=1) m .i64 (i:=k) (by rw [iI_len]; exact c) (by simp [iI])
  have e2:=fun m=>hsl.ia (sz:=1) m .i64 (i:=k - 1) (by rw [iI_len]; exact c1) (by simp [iI])
  simp only [iI_el] at e1 e2
  have hd:List.range' k (y.length - k)=k :: List.range' (k+1) (y.length - (k+1)):=by
   have:y.length - k=(y.length - (k+1))+1:=by omega
   rw [this,List.range'_succ]
  have hdef:bad1 (evs R) h y k=decide (h (at1 (evs R) y[k])<h (at1 (evs R) y[k - 1])):=by
   unfold bad1
   rw [List.getD_eq_getElem?_getD,List.getD_eq_getElem?_getD,List.getElem?_eq_getElem c,List.getElem?_eq_getElem c1]
   rfl
  have a1:=hin y hyc y[k] (List.getElem_mem _)
  have a2:=hin y hyc y[k - 1] (List.getElem_mem _)
  have hlk1:=fun vs tk=>gv.look vs tk y[k]
  have hlk2:=fun vs tk=>gv.look vs tk y[k - 1]
  have hgl:=nR_len (evs R).length h
  have g1:=nR_get h a1
  have g2:=nR_get h a2
  have gl1:at1 (evs R) y[k]<(nR (evs R).length h).length:=by omega
  have gl2:at1 (evs R) y[k - 1]<(nR (evs R).length h).length:=by omega
  have ge1:=nR_el (evs R).length h _ gl1
  have ge2:=nR_el (evs R).length h _ gl2
  rw [hd,List.any_cons,hdef]
  obtain ⟨k1,ih⟩:=ordered_l0 hin hq x hx y hy (k+1) (by omega) (by omega)
  refine ⟨k1,?_⟩
  rw [← hB] at ih
  rw [← hB,s_loop_at hB]
  clear hd hdef hin
  generalize y[k]=i1 at *
  generalize y[k - 1]=i2 at *
  generalize at1 (evs R) i1=s1 at *
  generalize at1 (evs R) i2=s2 at *
  generalize cv[x]=v at *
  generalize nR (evs R).length h=ar at *
  generalize (evs R).length=n at *
  generalize h s1=v1 at *
  generalize h s2=v2 at *
  by_cases d:v1<v2
  ·rw [decide_eq_true d,Bool.true_or,if_pos rfl]
   clear ih
   simp [ir_gmo_view_orderedl0,go_sem,c,cI,hob,hpl,hoe,hq,hql,hqe,hml,hlk1,hlk2,hsi,hsf,hsr,i4,e1,e2,ew,asIx_nat,a1,a2,hgl,g1,g2,gl1,gl2,ge1,ge2,d,-Int.natCast_add]
  ·rw [decide_eq_false d,Bool.false_or,← ih]
   clear ih
   simp [ir_gmo_view_orderedl0,go_sem,c,cI,hob,hpl,hoe,hq,hql,hqe,hml,hlk1,hlk2,hsi,hsf,hsr,i4,e1,e2,e3,ew,asIx_nat,a1,a2,hgl,g1,g2,gl1,gl2,ge1,ge2,d,-Int.natCast_add]
 ·have h0:y.length - k=0:=by omega
  have cI:¬ (k:Int)<(y.length:Int):=by omega
  have cI2:(y.length:Int)≤(k:Int):=by omega
  have cn:y.length≤k:=by omega
  refine ⟨k,?_⟩
  rw [h0,← hB,s_loop_at hB]
  simp [ir_gmo_view_orderedl0,go_sem,c,cI,cI2,cn,hsi,hsf,hsr,i4]
termination_by y.length+1 - k
def bad2 (E:List Ev) (h:Nat→Int) (y:List Int):Bool:=(List.range' 1 (y.length - 1)).any (bad1 E h y)
omit hE in
theorem ordered_l1 (hin:∀ l∈co,∀ id∈l,at1 (evs R) id<(evs R).length) {q:Nat} {h:Nat→Int} (hq:H[q]?=some (.arr (nR (evs R).length h))) (x:Nat) (hx:x≤cv.length):
  evCI pg (.loop ir_gmo_view_orderedl1) ⟨[.ptr p 0 0,.rsl q 0 (evs R).length,.undef,.undef,.undef,x4,.int .i64 (cv.length:Int),.int .i64 (x:Int),.undef,.undef,.undef],⟨[],[],H⟩⟩ =
   some (if (co.drop x).any (bad2 (evs R) h)=true then (.ret,⟨[.undef,.undef,.bool false,.undef,.undef,.undef,.undef,.undef,.undef,.undef,.undef],⟨[],[],H⟩⟩)
    else (.exit 0,⟨[.ptr p 0 0,.rsl q 0 (evs R).length,.undef,.undef,.undef,x4,.int .i64 (cv.length:Int),.int .i64 (cv.length:Int),.bool false,.undef,.undef],⟨[],[],H⟩⟩)):=by
 obtain ⟨B,hB⟩:∃ B,B=Vm.C.loop ir_gmo_view_orderedl1:=⟨_,rfl⟩
 have i4:=w.co4.is
 have h4f:=w.co4.fpR
 have hcl:=w.cl
 have hco:=w.cs.1
 by_cases c:x<cv.length
 ·have e3:=succ_i64 c (by omega)
  have cI:(x:Int)<(cv.length:Int):=by omega
  have ca:x<co.length:=by omega
  have e1:=fun m=>w.co4.ia (sz:=1) m .i64 (i:=x) (by rw [slR_len]; exact c) (slR_sz _ _ (List.getElem_mem _))
  simp only [slR_el] at e1
  have hsl:=w.cs.2 x cv[x] co[x] (List.getElem?_eq_getElem c) (List.getElem?_eq_getElem ca)
  have hsi:=hsl.is
  have hsr:(rows cv[x]).length=(co[x]).length:=by rw [hsl.rows,iI_len]
  have hd:co.drop x=co[x] :: co.drop (x+1):=List.drop_eq_getElem_cons ca
  obtain ⟨k1,hl0⟩:=ordered_l0 w gv hin hq x c co[x] (List.getElem?_eq_getElem ca) 1 (by omega) (by omega)
  have hb2:(List.range' 1 ((co[x]).length - 1)).any (bad1 (evs R) h co[x])=bad2 (evs R) h co[x]:=rfl
  rw [hb2,Int.natCast_one] at hl0
  rw [hd,List.any_cons]
  have ih:=ordered_l1 hin hq (x+1) (by omega)
  rw [← hB] at ih
  rw [← hB,s_loop_at hB]
  clear hd hb2 hin
  cases d:bad2 (evs R) h co[x] with
  | true=>
   rw [d,if_pos rfl] at hl0
   rw [Bool.true_or,if_pos rfl]
   clear ih
   simp [ir_gmo_view_orderedl1,go_sem,c,cI,i4,h4f,e1,hsi,hsr,hl0,-Int.natCast_add]
  | false=>
   rw [d,if_neg (by simp)] at hl0
   rw [Bool.false_or,← ih]
   clear ih
   simp [ir_gmo_view_orderedl1,go_sem,c,cI,i4,h4f,e1,e3,hsi,hsr,hl0,-Int.natCast_add]
 ·obtain rfl:x=cv.length:=by omega
  rw [List.drop_eq_nil_of_le (by omega),← hB,s_loop_at hB]
  simp [ir_gmo_view_orderedl1,go_sem]
termination_by cv.length - x
omit hE in
theorem ordered_ok (hin:∀ l∈co,∀ id∈l,at1 (evs R) id<(evs R).length) {q:Nat} {h:Nat→Int} (hq:H[q]?=some (.arr (nR (evs R).length h))):
  evI pg .heap n_gmo_view_ordered [.ptr p 0 0,.rsl q 0 (evs R).length] H=some (.bool (!co.any (bad2 (evs R) h)),H):=by
 have hl1:=ordered_l1 w gv hin hq 0 (Nat.zero_le _)
 rw [List.drop_zero,Int.natCast_zero] at hl1
 have hob:=gv.ob
 simp only [gC] at hob
 have hpl:=get_lt hob
 have hoe:=get_el hob
 have i4:=w.co4.is
 have h4r:(rows x4).length=cv.length:=by rw [w.co4.rows,slR_len]
 rw [s_fn fn_gmo_view_ordered]
 cases d:co.any (bad2 (evs R) h) with
 | true=>
  rw [d,if_pos rfl] at hl1
  simp [ir_gmo_view_ordered,go_sem,hob,hpl,hoe,i4,h4r,hl1]
 | false=>
  rw [d,if_neg (by simp)] at hl1
  simp [ir_gmo_view_ordered,go_sem,hob,hpl,hoe,i4,h4r,hl1]
end
end Go.Proofs.YtimiademofajeaaGreatDoor
