/- Lemmas (no claim): K20m, K20n. -/
import Derived.Test.YtimiademofajeaaGreatDoorP14
set_option linter.unusedSimpArgs false
set_option linter.unusedVariables false
set_option maxRecDepth 20000
namespace Go.Proofs.YtimiademofajeaaGreatDoor
open Go Go.Vm
def insF (s:List Int) (n:Int):List Int:=if n∈s then s else s ++ [n]
def lft (at_:Int):List Ev→List Int→List Int
 | [],s=>s
 | e :: E,s=>lft at_ E (if bh e at_ then insF s e.r.id else s)
def odw:List Int→List Int→Option (List Int)
 | [],s=>some s
 | n :: l,s=>if n∈s then odw l (s.erase n) else none
theorem iI_len' (l:List Int):(iI l).length=l.length:=by simp [iI]
theorem iI_el' (l:List Int) (i:Nat) (h:i<(iI l).length):(iI l)[i]=[.int .i64 (l[i]'(by simpa [iI] using h))]:=by simp [iI]
section
variable {x0:V} {lv:Nat→V} {x4 u:V} {R:Nat→List Rt} {img:List Nat} {cv:List V} {co:List (List Int)} (w:Lk x0 lv x4 u R img cv co) {mid:Nat} (H:List Vm.Obj)
include w
theorem orders_l0 (xc:List V) (v:V) (hv:isS v=true) (a:Nat) (ha:a≤100000) (hE:(evs R).length≤100000) (i:Nat) (hi:i≤(evs R).length) (s:List Int):
  evCI pg (.loop ir_cand_look_ordersl0) ⟨[.undef,.lp 0 0,.undef,.int .i64 (a:Int),v,.map H.length,.undef,.undef,.undef,x4,.int .i64 (cv.length:Int),.int .i64 (a:Int),.undef,u,.int .i64 ((evs R).length:Int),.int .i64 (i:Int),.undef,.undef,.undef,.undef,.undef,.undef,.undef,.undef],⟨[xc,[]],[],mpH H s⟩⟩ =
   some (.exit 2,⟨[.undef,.lp 0 0,.undef,.int .i64 (a:Int),v,.map H.length,.undef,.undef,.undef,x4,.int .i64 (cv.length:Int),.int .i64 (a:Int),.undef,u,.int .i64 ((evs R).length:Int),.int .i64 ((evs R).length:Int),.bool false,.undef,.undef,.undef,.undef,.undef,.undef,.undef],⟨[xc,[]],[],mpH H (lft (a:Int) ((evs R).drop i) s)⟩⟩):=by
 obtain ⟨B,hB⟩:∃ B,B=Vm.C.loop ir_cand_look_ordersl0:=⟨_,rfl⟩
 have hb:=evs_bd (R:=R) fun h hh=>(w.li h hh).2.1
 have iu:=w.ev.is
 have i4:=w.co4.is
 have hur:=w.ev.fpR
 by_cases c:i<(evs R).length
 ·have e3:=succ_i64 c (by omega)
  have e1:=fun m=>w.ev.ia (sz:=33) m .i64 (i:=i) (by rw [evR_len]; exact c) (evR_sz _ _ (List.getElem_mem _))
  simp only [evR_el] at e1
  have hd:(evs R).drop i=(evs R)[i] :: (evs R).drop (i+1):=List.drop_eq_getElem_cons c
  have hfl:=eq_true (evC_flat (evs R)[i])
  have hBy:=Byte_ok (evs R)[i] (hb _ (List.getElem_mem _)) (a:Int) (by omega)
  have hpt:=fun vs tk=>mpH_put H s vs tk ((evs R)[i]).r.id
  rw [hd]
  unfold lft
  have ih:=orders_l0 xc v hv a ha hE (i+1) (by omega) (if bh (evs R)[i] (a:Int) then insF s ((evs R)[i]).r.id else s)
  rw [← ih,← hB]
  conv=>lhs; rw [s_loop_at hB]
  clear ih hd
  have hins:insF s ((evs R)[i]).r.id=if ((evs R)[i]).r.id∈s then s else s ++ [((evs R)[i]).r.id]:=rfl
  rw [← hins] at hpt
  generalize (evs R)[i]=e at *
  generalize (evs R).length=N at *
  cases q:bh e (a:Int) with
  | true=>
   rw [q] at hBy
   simp [ir_cand_look_ordersl0,go_sem,c,hv,iu,i4,hur,e1,e3,hfl,hBy,hpt,evStore,splice,-Int.natCast_add]
  | false=>
   rw [q] at hBy
   simp [ir_cand_look_ordersl0,go_sem,c,hv,iu,i4,hur,e1,e3,hfl,hBy,evStore,splice,-Int.natCast_add]
 ·obtain rfl:i=(evs R).length:=by omega
  rw [← hB,s_loop_at hB,List.drop_length]
  simp [ir_cand_look_ordersl0,go_sem,iu,i4,lft]
termination_by (evs R).length - i
theorem orders_l1 (xc:List V) (v:V) (l:List Int) (hv:Sl v (iI l)) (hl:l.length≤100000) (a:Nat) (j:Nat) (hj:j≤l.length) (s:List Int):
  ∃ s',evCI pg (.loop ir_cand_look_ordersl1) ⟨[.undef,.lp 0 0,.undef,.undef,.undef,.map H.length,.undef,.undef,.undef,x4,.int .i64 (cv.length:Int),.int .i64 (a:Int),.undef,.undef,.undef,.undef,.undef,.undef,v,.int .i64 (l.length:Int),.int .i64 (j:Int),.undef,.undef,.undef],⟨[xc,[]],[],mpH H s⟩⟩ =
   some (match odw (l.drop j) s with
    | none=>(.ret,⟨[.undef,.undef,.bool true,.undef,.undef,.undef,.undef,.undef,.undef,.undef,.undef,.undef,.undef,.undef,.undef,.undef,.undef,.undef,.undef,.undef,.undef,.undef,.undef,.undef],⟨[[],[]],[],mpH H s'⟩⟩)
    | some t=>(.exit 4,⟨[.undef,.lp 0 0,.undef,.undef,.undef,.map H.length,.undef,.undef,.undef,x4,.int .i64 (cv.length:Int),.int .i64 (a:Int),.undef,.undef,.undef,.undef,.undef,.undef,v,.int .i64 (l.length:Int),.int .i64 (l.length:Int),.bool false,.undef,.undef],⟨[xc,[]],[],mpH H t⟩⟩)):=by
 obtain ⟨B,hB⟩:∃ B,B=Vm.C.loop ir_cand_look_ordersl1:=⟨_,rfl⟩
 have i4:=w.co4.is
 have hvi:=hv.is
 have hvf:=hv.fpR
 by_cases c:j<l.length
 ·have e3:=succ_i64 c (by omega)
  have e1:=fun m=>hv.ia (sz:=1) m .i64 (i:=j) (by rw [iI_len']; exact c) (by rw [iI_el']; rfl)
  simp only [iI_el'] at e1
  have hd:l.drop j=l[j] :: l.drop (j+1):=List.drop_eq_getElem_cons c
  have hlk:=fun vs tk=>mpH_look H s vs tk l[j]
  have hdl:=fun vs tk=>mpH_del H s vs tk l[j]
  rw [hd]
  unfold odw
  by_cases c2:l[j]∈s
  ·obtain ⟨s',ih⟩:=orders_l1 xc v l hv hl a (j+1) (by omega) (s.erase l[j])
   refine ⟨s',?_⟩
   rw [if_pos c2,← ih,← hB]
   conv=>lhs; rw [s_loop_at hB]
   rw [decide_eq_true c2] at hlk
   clear ih hd
   generalize l[j]=n at *
   simp [ir_cand_look_ordersl1,go_sem,c,hvi,hvf,i4,e1,e3,hlk,hdl,-Int.natCast_add]
  ·refine ⟨s,?_⟩
   rw [if_neg c2,← hB,s_loop_at hB]
   rw [decide_eq_false c2] at hlk
   clear hd
   generalize l[j]=n at *
   simp [ir_cand_look_ordersl1,go_sem,c,hvi,hvf,i4,e1,hlk,-Int.natCast_add]
 ·obtain rfl:j=l.length:=by omega
  refine ⟨s,?_⟩
  rw [← hB,s_loop_at hB,List.drop_length]
  simp [ir_cand_look_ordersl1,go_sem,i4,odw]
termination_by l.length - j
def ordK (E:List Ev) (a:Nat) (l:List Int):Bool:=match odw l (lft (a:Int) E []) with
 | none=>true
 | some t=>decide (t≠[])
def ordF (E:List Ev):Nat→List (List Int)→Bool
 | _,[]=>false
 | a,l :: co=>ordK E a l || ordF E (a+1) co
theorem orders_l2 (hE:(evs R).length≤100000) (a:Nat) (ha:a≤cv.length) (H:List Vm.Obj):
  ∃ X,evCI pg (.loop ir_cand_look_ordersl2) ⟨[.undef,.lp 0 0,.undef,.undef,.undef,.undef,.undef,.undef,.undef,x4,.int .i64 (cv.length:Int),.int .i64 (a:Int),.undef,.undef,.undef,.undef,.undef,.undef,.undef,.undef,.undef,.undef,.undef,.undef],⟨[xC x0 lv x4 u mid,[]],[],H⟩⟩ =
   some (if ordF (evs R) a (co.drop a)=true then (.ret,⟨[.undef,.undef,.bool true,.undef,.undef,.undef,.undef,.undef,.undef,.undef,.undef,.undef,.undef,.undef,.undef,.undef,.undef,.undef,.undef,.undef,.undef,.undef,.undef,.undef],⟨[[],[]],[],H ++ X⟩⟩)
    else (.exit 0,⟨[.undef,.lp 0 0,.undef,.undef,.undef,.undef,.undef,.undef,.undef,x4,.int .i64 (cv.length:Int),.int .i64 (cv.length:Int),.bool false,.undef,.undef,.undef,.undef,.undef,.undef,.undef,.undef,.undef,.undef,.undef],⟨[xC x0 lv x4 u mid,[]],[],H ++ X⟩⟩)):=by
 obtain ⟨B,hB⟩:∃ B,B=Vm.C.loop ir_cand_look_ordersl2:=⟨_,rfl⟩
 have i4:=w.co4.is
 have h4f:=w.co4.fpR
 have iu:=w.ev.is
 have hur:(rows u).length=(evs R).length:=by rw [w.ev.rows,evR_len]
 have hcl:=w.cl
 have hco:=w.cs.1
 by_cases c:a<cv.length
 ·have e3:=succ_i64 c (by omega)
  have e1:=fun m=>w.co4.ia (sz:=1) m .i64 (i:=a) (by rw [slR_len]; exact c) (slR_sz _ _ (List.getElem_mem _))
  simp only [slR_el] at e1
  have ca:a<co.length:=by omega
  have hsl:=w.cs.2 a cv[a] co[a] (List.getElem?_eq_getElem c) (List.getElem?_eq_getElem ca)
  have hsi:=hsl.is
  have hsr:(rows cv[a]).length=(co[a]).length:=by rw [hsl.rows,iI_len']
  have hol:=w.ol co[a] (List.getElem_mem _)
  have hd:co.drop a=co[a] :: co.drop (a+1):=List.drop_eq_getElem_cons ca
  have hl0:=orders_l0 w H (xC x0 lv x4 u mid) cv[a] hsi a (by omega) hE 0 (Nat.zero_le _) []
  obtain ⟨s1,hl1⟩:=orders_l1 w H (xC x0 lv x4 u mid) cv[a] co[a] hsl hol a 0 (Nat.zero_le _) (lft (a:Int) (evs R) [])
  rw [List.drop_zero,Int.natCast_zero] at hl0 hl1
  have hmp:=mpH_new H
  have hx5:(xC x0 lv x4 u mid)[5]?=some u:=rfl
  have hx5':∀ q:5<(xC x0 lv x4 u mid).length,(xC x0 lv x4 u mid)[5]=u:=fun _=>rfl
  have hxl:(xC x0 lv x4 u mid).length=7:=rfl
  rw [hd]
  unfold ordF
  have hdef:ordK (evs R) a co[a]=match odw co[a] (lft (a:Int) (evs R) []) with
   | none=>true
   | some t=>decide (t≠[]):=rfl
  cases q1:odw co[a] (lft (a:Int) (evs R) []) with
  | none=>
   rw [q1] at hl1 hdef
   refine ⟨[.mp (kvR (tl s1))],?_⟩
   have hX:H ++ [Vm.Obj.mp (kvR (tl s1))]=mpH H s1:=rfl
   rw [hdef,Bool.true_or,if_pos rfl,hX,← hB,s_loop_at hB]
   clear hd
   generalize co[a]=l at *
   generalize cv[a]=y at *
   generalize xC x0 lv x4 u mid=xc at *
   simp [ir_cand_look_ordersl2,go_sem,c,i4,h4f,iu,hur,e1,hsi,hsr,hmp,hx5,hx5',hxl,hl0,hl1,-Int.natCast_add]
  | some t=>
   rw [q1] at hl1 hdef
   have hX:∀ Y,H ++ (Vm.Obj.mp (kvR (tl t)) :: Y)=mpH H t ++ Y:=fun Y=>by simp [mpH]
   have hat:=mpH_at H t
   have hel:=mpH_el H t
   have hle:=mpH_len H t
   have hkl:(kvR (tl t)).length=t.length:=by rw [kvR_len,tl_len]
   cases t with
   | cons n t'=>
    simp only [ne_eq,reduceCtorEq,not_false_eq_true,decide_true] at hdef
    refine ⟨[.mp (kvR (tl (n :: t')))],?_⟩
    rw [hdef,Bool.true_or,if_pos rfl,hX,List.append_nil,← hB,s_loop_at hB]
    clear hd hX
    have hpos:(0:Int)<(((n :: t').length:Nat):Int):=by simp only [List.length_cons]; omega
    have hpos':0<(n :: t').length:=by simp
    generalize co[a]=l at *
    generalize cv[a]=y at *
    generalize xC x0 lv x4 u mid=xc at *
    generalize n :: t'=tt at *
    simp [ir_cand_look_ordersl2,go_sem,c,i4,h4f,iu,hur,e1,hsi,hsr,hmp,hx5,hx5',hxl,hl0,hl1,hat,hel,hle,hkl,hpos,hpos',-Int.natCast_add]
   | nil=>
    simp only [ne_eq,not_true_eq_false,decide_false] at hdef
    obtain ⟨X,ih⟩:=orders_l2 hE (a+1) (by omega) (mpH H [])
    refine ⟨.mp (kvR (tl [])) :: X,?_⟩
    rw [hdef,Bool.false_or,hX,← ih,← hB]
    conv=>lhs; rw [s_loop_at hB]
    clear hd ih hX
    generalize co[a]=l at *
    generalize cv[a]=y at *
    generalize xC x0 lv x4 u mid=xc at *
    simp [ir_cand_look_ordersl2,go_sem,c,i4,h4f,iu,hur,e1,e3,hsi,hsr,hmp,hx5,hx5',hxl,hl0,hl1,hat,hel,hle,hkl,-Int.natCast_add]
 ·obtain rfl:a=cv.length:=by omega
  refine ⟨[],?_⟩
  rw [List.drop_eq_nil_of_le (by omega),← hB,s_loop_at hB,List.append_nil]
  simp [ir_cand_look_ordersl2,go_sem,i4,ordF]
termination_by cv.length - a
def ordB (R:Nat→List Rt) (co:List (List Int)):Bool:=ordF (evs R) 0 co
theorem corders_ok:∃ X,evI pg .heap n_cand_look_orders [.agg (xC x0 lv x4 u mid)] H=some (.bool (ordB R co),H ++ X):=by
 have hE:(evs R).length≤100000:=by
  have:=evs_len R
  have h0:=(w.li 0 (by omega)).2.2
  have h1:=(w.li 1 (by omega)).2.2
  have h2:=(w.li 2 (by omega)).2.2
  omega
 obtain ⟨X,hl2⟩:=orders_l2 w (mid:=mid) hE 0 (Nat.zero_le _) H
 rw [List.drop_zero,Int.natCast_zero] at hl2
 refine ⟨X,?_⟩
 have i0:=w.im.is
 have i4:=w.co4.is
 have h4r:(rows x4).length=cv.length:=by rw [w.co4.rows,slR_len]
 have iu:=w.ev.is
 have j0:=(w.li 0 (by omega)).1.is
 have j1:=(w.li 1 (by omega)).1.is
 have j2:=(w.li 2 (by omega)).1.is
 unfold ordB
 unfold xC at *
 rw [s_fn fn_cand_look_orders]
 cases q:ordF (evs R) 0 co with
 | true=>
  rw [q,if_pos rfl] at hl2
  simp [ir_cand_look_orders,go_sem,i0,i4,h4r,iu,j0,j1,j2,hl2]
 | false=>
  rw [q,if_neg (by simp)] at hl2
  simp [ir_cand_look_orders,go_sem,i0,i4,h4r,iu,j0,j1,j2,hl2]
end
def prW (l:List Rt) (r:Rt) (last:Option Nat):Option Int:=
 if srtO r.ins.op=11∧isE r=true then match last with
  | none=>none
  | some j=>match l[j]? with
   | none=>none
   | some q=>if q.addr=r.addr∧szO q.ins.op=szO r.ins.op then some q.id else none
 else some (-1)
def prL (r:Rt) (i:Nat) (last:Option Nat):Option Nat:=if srtO r.ins.op=10 then (if isE r=true then some i else none) else if srtO r.ins.op=11 then none else last
def prF (l:List Rt):List Rt→Nat→Option Nat→Bool
 | [],_,_=>false
 | r :: rs,i,last=>match prW l r last with
  | none=>true
  | some n=>decide (r.pair≠n) || prF l rs (i+1) (prL r i last)
section
variable {x0:V} {lv:Nat→V} {x4 u:V} {R:Nat→List Rt} {img:List Nat} {cv:List V} {co:List (List Int)} (w:Lk x0 lv x4 u R img cv co) {mid:Nat} (H:List Vm.Obj)
include w
theorem pairs_l0 (ls:List V) (h:Nat) (hh:h<3) (i:Nat) (hi:i≤(R h).length) (last:Option Nat) (hla:∀ j,last=some j→j<i):
  ∃ z,evCI pg (.loop ir_cand_look_pairsl0) ⟨[.undef,.undef,.undef,lv h,.int .i64 (fdn last),.undef,.undef,.undef,.undef,.agg ls,.int .i64 (h:Int),.undef,lv h,.int .i64 ((R h).length:Int),.int .i64 (i:Int),.undef,.undef,.undef,.undef,.undef,.undef],⟨[[],[]],[],H⟩⟩ =
   some (if prF (R h) ((R h).drop i) i last=true then (.ret,⟨[.undef,.undef,.bool true,.undef,.undef,.undef,.undef,.undef,.undef,.undef,.undef,.undef,.undef,.undef,.undef,.undef,.undef,.undef,.undef,.undef,.undef],⟨[[],[]],[],H⟩⟩)
    else (.exit 2,⟨[.undef,.undef,.undef,lv h,.int .i64 z,.undef,.undef,.undef,.undef,.agg ls,.int .i64 (h:Int),.undef,lv h,.int .i64 ((R h).length:Int),.int .i64 ((R h).length:Int),.bool false,.undef,.undef,.undef,.undef,.undef],⟨[[],[]],[],H⟩⟩)):=by
 obtain ⟨B,hB⟩:∃ B,B=Vm.C.loop ir_cand_look_pairsl0:=⟨_,rfl⟩
 obtain ⟨hv,hbd,hl5⟩:=w.li h hh
 have hvi:=hv.is
 have hvf:=hv.fpR
 by_cases c:i<(R h).length
 ·have e3:=succ_i64 c (by omega)
  have e1:=fun m=>hv.ia (sz:=27) m .i64 (i:=i) (by rw [rwR_len]; exact c) (rwR_sz _ _ (List.getElem_mem _))
  simp only [rwR_el] at e1
  have hd:(R h).drop i=(R h)[i] :: (R h).drop (i+1):=List.drop_eq_getElem_cons c
  have hE:=isEvent_ok (R h)[i]
  have hS:=SortO ((R h)[i]).ins.op
  have hZ:=SizeO ((R h)[i]).ins.op
  have hfl:=eq_true (rC_all (R h)[i] (fun v=>v.flat=true) (fun _ _=>rfl) (fun _=>rfl) (fun _=>rfl))
  have hnx:∀ j,prL (R h)[i] i last=some j→j<i+1:=by
   intro j hj
   unfold prL at hj
   split at hj
   ·split at hj
    ·cases hj; omega
    ·cases hj
   ·split at hj
    ·cases hj
    ·have:=hla j hj; omega
  obtain ⟨z,ih⟩:=pairs_l0 ls h hh (i+1) (by omega) (prL (R h)[i] i last) hnx
  have hdef:prF (R h) ((R h).drop i) i last=match prW (R h) (R h)[i] last with
   | none=>true
   | some n=>decide (((R h)[i]).pair≠n) || prF (R h) ((R h).drop (i+1)) (i+1) (prL (R h)[i] i last):=by rw [hd]; rfl
  refine ⟨z,?_⟩
  rw [hdef]
  rw [← hB] at ih
  rw [← hB,s_loop_at hB]
  have hW:prW (R h) (R h)[i] last=if srtO ((R h)[i]).ins.op=11∧isE (R h)[i]=true then match last with
    | none=>none
    | some j=>match (R h)[j]? with
     | none=>none
     | some q=>if q.addr=((R h)[i]).addr∧szO q.ins.op=szO ((R h)[i]).ins.op then some q.id else none
   else some (-1):=rfl
  have hL:prL (R h)[i] i last=if srtO ((R h)[i]).ins.op=10 then (if isE (R h)[i]=true then some i else none) else if srtO ((R h)[i]).ins.op=11 then none else last:=rfl
  clear hd hdef hnx
  have hin:∀ j,last=some j→∃ hj:j<(R h).length,(R h)[j]?=some (R h)[j]∧(∀ m,iaSV 27 m (lv h) (.int .i64 (j:Int))=some (.ip (tg (lv h)) (rC (R h)[j]) 0))∧evI pg .val n_ops_Size [.int .i64 ((R h)[j]).ins.op] []=some (.int .i64 (szO ((R h)[j]).ins.op:Nat),[]):=by
   intro j hj
   have hlt:j<(R h).length:=by have:=hla j hj; omega
   refine ⟨hlt,List.getElem?_eq_getElem hlt,fun m=>?_,SizeO _⟩
   have e:=hv.ia (sz:=27) m .i64 (i:=j) (by rw [rwR_len]; exact hlt) (rwR_sz _ _ (List.getElem_mem _))
   rw [rwR_el] at e
   exact e
  generalize (R h)[i]=r at *
  have hm1:fdn none=-1:=rfl
  have hsk:toImm ⟨[],[],[]⟩ false 8 .skp=none:=rfl
  by_cases s11:srtO r.ins.op=11
  ·rw [s11] at hS hL hW
   rw [if_neg (by omega),if_pos rfl] at hL
   rw [hL] at ih ⊢
   cases qe:isE r with
   | true=>
    rw [qe] at hE hW
    rw [if_pos ⟨rfl,rfl⟩] at hW
    cases last with
    | none=>
     simp only at hW
     rw [hW]
     simp [ir_cand_look_pairsl0,go_sem,c,hvi,hvf,e1,hS,hE,hfl,hm1,hsk,evStore,splice,-Int.natCast_add]
    | some j=>
     obtain ⟨hj,j1,j2,j3⟩:=hin j rfl
     simp only [j1] at hW
     clear hin
     have hfj:fdn (some j)=(j:Int):=rfl
     have hj0:¬ (j:Int)<0:=by omega
     generalize (R h)[j]=q at *
     by_cases d1:q.addr=r.addr
     ·by_cases d2:szO q.ins.op=szO r.ins.op
      ·rw [if_pos ⟨d1,d2⟩] at hW
       rw [hW]
       rw [d2] at j3
       by_cases d3:r.pair=q.id
       ·simp only [d3,ne_eq,not_true_eq_false,decide_false,Bool.false_or]
        rw [← ih]
        simp [ir_cand_look_pairsl0,go_sem,c,hvi,hvf,e1,e3,hS,hE,hZ,hfl,hm1,hsk,hfj,hj0,j2,j3,d1,d3,evStore,splice,-Int.natCast_add]
       ·simp only [d3,ne_eq,not_false_eq_true,decide_true,Bool.true_or,if_true]
        simp [ir_cand_look_pairsl0,go_sem,c,hvi,hvf,e1,hS,hE,hZ,hfl,hm1,hsk,hfj,hj0,j2,j3,d1,d3,evStore,splice,-Int.natCast_add]
      ·rw [if_neg (fun h=>d2 h.2)] at hW
       rw [hW]
       have d2':¬ ((szO q.ins.op:Nat):Int)=((szO r.ins.op:Nat):Int):=by omega
       simp [ir_cand_look_pairsl0,go_sem,c,hvi,hvf,e1,hS,hE,hZ,hfl,hm1,hsk,hfj,hj0,j2,j3,d1,d2,d2',evStore,splice,-Int.natCast_add]
     ·rw [if_neg (fun h=>d1 h.1)] at hW
      rw [hW]
      simp [ir_cand_look_pairsl0,go_sem,c,hvi,hvf,e1,hS,hE,hZ,hfl,hm1,hsk,hfj,hj0,j2,j3,d1,evStore,splice,-Int.natCast_add]
   | false=>
    rw [qe] at hE hW
    rw [if_neg (by simp)] at hW
    rw [hW]
    by_cases d3:r.pair=-1
    ·simp only [d3,ne_eq,not_true_eq_false,decide_false,Bool.false_or]
     rw [← ih]
     simp [ir_cand_look_pairsl0,go_sem,c,hvi,hvf,e1,e3,hS,hE,hfl,hm1,hsk,d3,evStore,splice,-Int.natCast_add]
    ·simp only [d3,ne_eq,not_false_eq_true,decide_true,Bool.true_or,if_true]
     simp [ir_cand_look_pairsl0,go_sem,c,hvi,hvf,e1,hS,hE,hfl,hm1,hsk,d3,evStore,splice,-Int.natCast_add]
  ·have s11':¬ ((srtO r.ins.op:Nat):Int)=11:=by omega
   rw [if_neg (fun h=>s11 h.1)] at hW
   rw [hW]
   clear hin
   by_cases s10:srtO r.ins.op=10
   ·rw [s10] at hS hL
    rw [if_pos rfl] at hL
    by_cases d3:r.pair=-1
    ·simp only [d3,ne_eq,not_true_eq_false,decide_false,Bool.false_or]
     rw [← ih,hL]
     cases qe:isE r with
     | true=>
      rw [qe] at hE
      have hfi:fdn (some i)=(i:Int):=rfl
      simp [ir_cand_look_pairsl0,go_sem,c,hvi,hvf,e1,e3,hS,hE,hfl,hfi,d3,evStore,splice,-Int.natCast_add]
     | false=>
      rw [qe] at hE
      simp [ir_cand_look_pairsl0,go_sem,c,hvi,hvf,e1,e3,hS,hE,hfl,hm1,hsk,d3,evStore,splice,-Int.natCast_add]
    ·simp only [d3,ne_eq,not_false_eq_true,decide_true,Bool.true_or,if_true]
     simp [ir_cand_look_pairsl0,go_sem,c,hvi,hvf,e1,hS,hE,hfl,d3,evStore,splice,-Int.natCast_add]
   ·have s10':¬ ((srtO r.ins.op:Nat):Int)=10:=by omega
    rw [if_neg s10,if_neg s11] at hL
    by_cases d3:r.pair=-1
    ·simp only [d3,ne_eq,not_true_eq_false,decide_false,Bool.false_or]
     rw [← ih,hL]
     simp [ir_cand_look_pairsl0,go_sem,c,hvi,hvf,e1,e3,hS,hE,hfl,s10,s10',s11,s11',d3,evStore,splice,-Int.natCast_add]
    ·simp only [d3,ne_eq,not_false_eq_true,decide_true,Bool.true_or,if_true]
     simp [ir_cand_look_pairsl0,go_sem,c,hvi,hvf,e1,hS,hE,hfl,s10,s10',s11,s11',d3,evStore,splice,-Int.natCast_add]
 ·obtain rfl:i=(R h).length:=by omega
  refine ⟨fdn last,?_⟩
  rw [← hB,s_loop_at hB,List.drop_length]
  simp [ir_cand_look_pairsl0,go_sem,prF]
termination_by (R h).length - i
def prR (l:List Rt):Bool:=prF l l 0 none
theorem pairs_l1 (h:Nat) (hh:h≤3):
  evCI pg (.loop ir_cand_look_pairsl1) ⟨[.undef,.undef,.undef,.undef,.undef,.undef,.undef,.undef,.undef,.agg (ls3 lv),.int .i64 (h:Int),.undef,.undef,.undef,.undef,.undef,.undef,.undef,.undef,.undef,.undef],⟨[[],[]],[],H⟩⟩ =
   some (if (List.range' h (3 - h)).any (fun k=>prR (R k))=true then (.ret,⟨[.undef,.undef,.bool true,.undef,.undef,.undef,.undef,.undef,.undef,.undef,.undef,.undef,.undef,.undef,.undef,.undef,.undef,.undef,.undef,.undef,.undef],⟨[[],[]],[],H⟩⟩)
    else (.exit 0,⟨[.undef,.undef,.undef,.undef,.undef,.undef,.undef,.undef,.undef,.agg (ls3 lv),.int .i64 3,.bool false,.undef,.undef,.undef,.undef,.undef,.undef,.undef,.undef,.undef],⟨[[],[]],[],H⟩⟩)):=by
 obtain ⟨B,hB⟩:∃ B,B=Vm.C.loop ir_cand_look_pairsl1:=⟨_,rfl⟩
 by_cases c:h<3
 ·have e3:=succ_i64 c (by omega)
  have hd:List.range' h (3 - h)=h :: List.range' (h+1) (3 - (h+1)):=by
   have:3 - h=(3 - (h+1))+1:=by omega
   rw [this,List.range'_succ]
  have hv:=(w.li h c).1
  have hrl:(rows (lv h)).length=(R h).length:=by rw [hv.rows,rwR_len]
  have hi:=hv.is
  have c2:(h:Int)<3:=by omega
  obtain ⟨hg,hg2⟩:=ls3_get lv c
  have hll:=ls3_len lv
  have hg':∀ q:h<(ls3 lv).length,(ls3 lv)[h]=lv h:=fun q=>by
   rw [List.getElem?_eq_getElem q] at hg
   exact Option.some.inj hg
  have c3:h≤2:=by omega
  obtain ⟨z,hl0⟩:=pairs_l0 w H (ls3 lv) h c 0 (Nat.zero_le _) none (fun j hj=>by cases hj)
  have hm1:fdn none=-1:=rfl
  have hpr:prF (R h) (R h) 0 none=prR (R h):=rfl
  rw [List.drop_zero,Int.natCast_zero,hm1,hpr] at hl0
  rw [hd,List.any_cons]
  have ih:=pairs_l1 (h+1) (by omega)
  rw [← hB] at ih
  rw [← hB,s_loop_at hB]
  clear hd
  cases q:prR (R h) with
  | true=>
   rw [q,if_pos rfl] at hl0
   rw [Bool.true_or,if_pos rfl]
   generalize ls3 lv=ls at *
   simp [ir_cand_look_pairsl1,go_sem,c,c2,c3,hg,hg',hg2,hll,hi,hrl,hl0,-Int.natCast_add]
  | false=>
   rw [q,if_neg (by simp)] at hl0
   rw [Bool.false_or,← ih]
   clear ih
   generalize ls3 lv=ls at *
   simp [ir_cand_look_pairsl1,go_sem,c,c2,c3,e3,hg,hg',hg2,hll,hi,hrl,hl0,-Int.natCast_add]
 ·obtain rfl:h=3:=by omega
  rw [← hB,s_loop_at hB]
  simp [ir_cand_look_pairsl1,go_sem]
termination_by 3 - h
def prB (R:Nat→List Rt):Bool:=prR (R 0) || (prR (R 1) || prR (R 2))
theorem pairs_ok:evI pg .heap n_cand_look_pairs [.agg (xC x0 lv x4 u mid)] H=some (.bool (prB R),H):=by
 have hl1:=pairs_l1 w H 0 (by omega)
 have e:(List.range' 0 (3 - 0)).any (fun k=>prR (R k))=prB R:=by simp [List.range'_succ,prB]
 rw [e,Int.natCast_zero] at hl1
 have i0:=w.im.is
 have i4:=w.co4.is
 have iu:=w.ev.is
 have j0:=(w.li 0 (by omega)).1.is
 have j1:=(w.li 1 (by omega)).1.is
 have j2:=(w.li 2 (by omega)).1.is
 unfold ls3 at hl1
 unfold xC
 rw [s_fn fn_cand_look_pairs]
 cases q:prB R with
 | true=>
  rw [q,if_pos rfl] at hl1
  simp [ir_cand_look_pairs,go_sem,i0,i4,iu,j0,j1,j2,hl1]
 | false=>
  rw [q,if_neg (by simp)] at hl1
  simp [ir_cand_look_pairs,go_sem,i0,i4,iu,j0,j1,j2,hl1]
end
end Go.Proofs.YtimiademofajeaaGreatDoor
