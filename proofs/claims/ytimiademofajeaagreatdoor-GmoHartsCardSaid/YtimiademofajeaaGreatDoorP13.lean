/- Lemmas (no claim): K20h, K20i, K20j. -/
import Derived.Test.YtimiademofajeaaGreatDoorP12
set_option linter.unusedSimpArgs false
set_option linter.unusedVariables false
set_option maxRecDepth 20000
namespace Go.Proofs.YtimiademofajeaaGreatDoor
open Go Go.Vm
/-! ### a set that is made behind all else -/
def mpH (H0:List Vm.Obj) (s:List Int):List Vm.Obj:=H0 ++ [.mp (kvR (tl s))]
section
variable (H0:List Vm.Obj) (s:List Int) (vs:List (List V)) (tk:List Nat)
theorem mpH_new:H0 ++ [Vm.Obj.mp []]=mpH H0 []:=rfl
theorem mpH_at:(mpH H0 s)[H0.length]?=some (.mp (kvR (tl s))):=by simp [mpH]
theorem mpH_len:(mpH H0 s).length=H0.length+1:=by simp [mpH]
theorem mpH_el (h:H0.length<(mpH H0 s).length):(mpH H0 s)[H0.length]=.mp (kvR (tl s)):=by simp [mpH]
theorem mpH_set (l:List (Int × V)) (s':List Int) (h:l=tl s'):(mpH H0 s).set H0.length (.mp (kvR l))=mpH H0 s':=by subst h; simp [mpH]
theorem mpH_look (n:Int):lookM ⟨vs,tk,mpH H0 s⟩ false false [.bool false] (.map H0.length) (.int .i64 n)=some (.bool (decide (n∈s)),⟨vs,tk,mpH H0 s⟩):=by
 have:=look_kv (mpH_at H0 s) vs tk false (.bool false) n
 simpa [kget_tl] using this
theorem mpH_put (n:Int):mputM ⟨vs,tk,mpH H0 s⟩ (.map H0.length) (.int .i64 n) (.bool true)=some (.undef,⟨vs,tk,mpH H0 (if n∈s then s else s ++ [n])⟩):=by
 rw [mput_kv (mpH_at H0 s) vs tk n (.bool true) rfl,mpH_set H0 s _ _ (kput_tl s n)]
theorem mpH_del (n:Int):mdelM ⟨vs,tk,mpH H0 s⟩ (.map H0.length) (.int .i64 n)=some (.tup [],⟨vs,tk,mpH H0 (s.erase n)⟩):=by
 rw [mdel_kv (mpH_at H0 s) vs tk n,mpH_set H0 s _ _ (kdel_tl s n)]
end
def idw:List Int→List Int→Option (List Int)
 | [],s=>some s
 | n :: l,s=>if n<0∨n∈s then none else idw l (s ++ [n])
theorem idw_app (a b s:List Int):idw (a ++ b) s=(idw a s).bind (idw b):=by
 induction a generalizing s with
 | nil=>rfl
 | cons n a ih=>
  simp only [List.cons_append,idw]
  split
  ·rfl
  ·exact ih _
def idsR (R:Nat→List Rt) (h:Nat):List Int:=(R h).map Rt.id
section
variable {x0:V} {lv:Nat→V} {x4 u:V} {R:Nat→List Rt} {img:List Nat} {cv:List V} {co:List (List Int)} (w:Lk x0 lv x4 u R img cv co) (mid:Nat) (H:List Vm.Obj)
include w
theorem ids_l0 (h:Nat) (hh:h<3) (ls:List V) (i:Nat) (hi:i≤(R h).length) (s:List Int):
  ∃ s',evCI pg (.loop ir_cand_look_idsl0) ⟨[.undef,.undef,.undef,.map H.length,.undef,.undef,.agg ls,.int .i64 (h:Int),.undef,lv h,.int .i64 ((R h).length:Int),.int .i64 (i:Int),.undef,.undef],⟨[[],[]],[],mpH H s⟩⟩ =
   some (match idw ((idsR R h).drop i) s with
    | none=>(.ret,⟨[.undef,.undef,.bool true,.undef,.undef,.undef,.undef,.undef,.undef,.undef,.undef,.undef,.undef,.undef],⟨[[],[]],[],mpH H s'⟩⟩)
    | some t=>(.exit 2,⟨[.undef,.undef,.undef,.map H.length,.undef,.undef,.agg ls,.int .i64 (h:Int),.undef,lv h,.int .i64 ((R h).length:Int),.int .i64 ((R h).length:Int),.bool false,.undef],⟨[[],[]],[],mpH H t⟩⟩)):=by
 obtain ⟨B,hB⟩:∃ B,B=Vm.C.loop ir_cand_look_idsl0:=⟨_,rfl⟩
 obtain ⟨hv,hbd,hl5⟩:=w.li h hh
 have hvi:=hv.is
 have hlen:(idsR R h).length=(R h).length:=by simp [idsR]
 by_cases c:i<(R h).length
 ·have e3:=succ_i64 c (by omega)
  have e1:=fun m=>hv.ia (sz:=27) m .i64 (i:=i) (by rw [rwR_len]; exact c) (rwR_sz _ _ (List.getElem_mem _))
  simp only [rwR_el] at e1
  have hd:(idsR R h).drop i=((R h)[i]).id :: (idsR R h).drop (i+1):=by
   rw [List.drop_eq_getElem_cons (by rw [hlen]; exact c)]
   simp [idsR]
  have hfl:=eq_true (rC_all (R h)[i] (fun v=>v.flat=true) (fun _ _=>rfl) (fun _=>rfl) (fun _=>rfl))
  rw [hd]
  unfold idw
  have hlk:=fun vs tk=>mpH_look H s vs tk ((R h)[i]).id
  have hpt:=fun vs tk=>mpH_put H s vs tk ((R h)[i]).id
  by_cases c1:((R h)[i]).id<0
  ·refine ⟨s,?_⟩
   rw [if_pos (.inl c1),← hB,s_loop_at hB]
   generalize (R h)[i]=r at *
   simp [ir_cand_look_idsl0,go_sem,c,hvi,e1,c1,evStore,splice,V.cells,V.exp,-Int.natCast_add]
  ·by_cases c2:((R h)[i]).id∈s
   ·refine ⟨s,?_⟩
    rw [if_pos (.inr c2),← hB,s_loop_at hB]
    rw [decide_eq_true c2] at hlk
    generalize (R h)[i]=r at *
    simp [ir_cand_look_idsl0,go_sem,c,hvi,e1,c1,hlk,evStore,splice,V.cells,V.exp,-Int.natCast_add]
   ·obtain ⟨s',ih⟩:=ids_l0 h hh ls (i+1) (by omega) (s ++ [((R h)[i]).id])
    refine ⟨s',?_⟩
    rw [if_neg (by simp [c1,c2]),← ih,← hB]
    conv=>lhs; rw [s_loop_at hB]
    rw [decide_eq_false c2] at hlk
    simp only [if_neg c2] at hpt
    clear ih hd
    generalize (R h)[i]=r at *
    simp [ir_cand_look_idsl0,go_sem,c,hvi,e1,e3,c1,hlk,hpt,evStore,splice,V.cells,V.exp,-Int.natCast_add]
 ·obtain rfl:i=(R h).length:=by omega
  refine ⟨s,?_⟩
  rw [← hB,s_loop_at hB,List.drop_eq_nil_of_le (by omega)]
  simp [ir_cand_look_idsl0,go_sem,idw]
termination_by (R h).length - i
theorem ids_l1 (h:Nat) (hh:h≤3) (s:List Int):
  ∃ s',evCI pg (.loop ir_cand_look_idsl1) ⟨[.undef,.undef,.undef,.map H.length,.undef,.undef,.agg (ls3 lv),.int .i64 (h:Int),.undef,.undef,.undef,.undef,.undef,.undef],⟨[[],[]],[],mpH H s⟩⟩ =
   some (match idw ((List.range' h (3 - h)).flatMap fun k=>idsR R k) s with
    | none=>(.ret,⟨[.undef,.undef,.bool true,.undef,.undef,.undef,.undef,.undef,.undef,.undef,.undef,.undef,.undef,.undef],⟨[[],[]],[],mpH H s'⟩⟩)
    | some t=>(.exit 0,⟨[.undef,.undef,.undef,.map H.length,.undef,.undef,.agg (ls3 lv),.int .i64 (3:Int),.bool false,.undef,.undef,.undef,.undef,.undef],⟨[[],[]],[],mpH H t⟩⟩)):=by
 obtain ⟨B,hB⟩:∃ B,B=Vm.C.loop ir_cand_look_idsl1:=⟨_,rfl⟩
 by_cases c:h<3
 ·have e3:=succ_i64 c (by omega)
  have hd:List.range' h (3 - h)=h :: List.range' (h+1) (3 - (h+1)):=by
   have:3 - h=(3 - (h+1))+1:=by omega
   rw [this,List.range'_succ]
  have hv:=(w.li h c).1
  have hrl:(rows (lv h)).length=(R h).length:=by rw [hv.rows,rwR_len]
  have hi:=hv.is
  have c2:(h:Int)<3:=by omega
  obtain ⟨hg,hg2⟩:=ls3_get lv c
  have hll:=ls3_len lv
  have hg':∀ q:h<(ls3 lv).length,(ls3 lv)[h]=lv h:=fun q=>by
   rw [List.getElem?_eq_getElem q] at hg
   exact Option.some.inj hg
  have c3:h≤2:=by omega
  obtain ⟨s1,hl0⟩:=ids_l0 w H h c (ls3 lv) 0 (Nat.zero_le _) s
  rw [List.drop_zero,Int.natCast_zero] at hl0
  rw [hd,List.flatMap_cons,idw_app]
  cases q:idw (idsR R h) s with
  | none=>
   rw [q] at hl0
   refine ⟨s1,?_⟩
   rw [← hB,s_loop_at hB]
   generalize ls3 lv=ls at *
   simp [ir_cand_look_idsl1,go_sem,c,c2,c3,hg,hg',hg2,hll,hi,hrl,hl0,-Int.natCast_add]
  | some t=>
   rw [q] at hl0
   obtain ⟨s',ih⟩:=ids_l1 (h+1) (by omega) t
   refine ⟨s',?_⟩
   rw [Option.bind_some,← ih,← hB]
   conv=>lhs; rw [s_loop_at hB]
   clear ih hd
   generalize ls3 lv=ls at *
   simp [ir_cand_look_idsl1,go_sem,c,c2,c3,e3,hg,hg',hg2,hll,hi,hrl,hl0,-Int.natCast_add]
 ·obtain rfl:h=3:=by omega
  refine ⟨s,?_⟩
  rw [← hB,s_loop_at hB]
  simp [ir_cand_look_idsl1,go_sem,idw]
termination_by 3 - h
def idsB (R:Nat→List Rt):Bool:=(idw (idsR R 0 ++ (idsR R 1 ++ idsR R 2)) []).isNone
theorem ids_ok:∃ X,evI pg .heap n_cand_look_ids [.agg (xC x0 lv x4 u mid)] H=some (.bool (idsB R),H ++ X):=by
 have i0:=w.im.is
 have i4:=w.co4.is
 have iu:=w.ev.is
 have j0:=(w.li 0 (by omega)).1.is
 have j1:=(w.li 1 (by omega)).1.is
 have j2:=(w.li 2 (by omega)).1.is
 obtain ⟨s',hl⟩:=ids_l1 w H 0 (by omega) []
 have e:(List.range' 0 (3 - 0)).flatMap (fun k=>idsR R k)=idsR R 0 ++ (idsR R 1 ++ idsR R 2):=by simp [List.range'_succ]
 rw [e,Int.natCast_zero] at hl
 unfold ls3 at hl
 unfold idsB xC
 have hmp:=mpH_new H
 cases q:idw (idsR R 0 ++ (idsR R 1 ++ idsR R 2)) [] with
 | none=>
  rw [q] at hl
  refine ⟨[.mp (kvR (tl s'))],?_⟩
  show _=some (_,mpH H s')
  rw [s_fn fn_cand_look_ids]
  simp [ir_cand_look_ids,go_sem,i0,i4,iu,j0,j1,j2,hmp,hl,V.cells,V.exp]
 | some t=>
  rw [q] at hl
  refine ⟨[.mp (kvR (tl t))],?_⟩
  show _=some (_,mpH H t)
  rw [s_fn fn_cand_look_ids]
  simp [ir_cand_look_ids,go_sem,i0,i4,iu,j0,j1,j2,hmp,hl,V.cells,V.exp]
end
theorem fdx_any (p:Ev→Bool) (E:List Ev):(0≤fdn (fdx p E 0))=(E.any p=true):=by
 unfold fdx
 rw [List.drop_zero]
 cases q:E.findIdx? p with
 | none=>
  rw [List.findIdx?_eq_none_iff] at q
  have:E.any p=false:=by rw [List.any_eq_false]; intro x hx; rw [q x hx]; simp
  rw [this]
  simp [fdn]
 | some i=>
  have h:=List.findIdx?_eq_some_iff_getElem.1 q
  obtain ⟨hi,hp,_⟩:=h
  have:E.any p=true:=List.any_eq_true.2 ⟨_,List.getElem_mem hi,hp⟩
  rw [this]
  simp [fdn]
theorem Cont_ok {E:List Ev} {u:V} (hu:Sl u (evR E)) (hl:E.length≤100000) {F:Nat} {c:V} (hc:c.exp=some c) {p:Ev→Bool} (H:List Vm.Obj) (hp:∀ e∈E,evI pg .heap F [.agg (evC e),c] H=some (.bool (p e),H)):
  evI pg .heap n_slices_ContainsFunc_api_Event_api_Event [u,.fn F [] [c]] H=some (.bool (E.any p),H):=by
 have hi:=IFh_ok hu hl hc H hp
 have hui:=hu.is
 have hf:=fdx_any p E
 generalize fdn (fdx p E 0)=n at *
 rw [s_fn fn_slices_ContainsFunc_api_Event_api_Event]
 cases q:E.any p with
 | true=>
  rw [q] at hf
  have h0:0≤n:=by rw [hf]
  simp [ir_slices_ContainsFunc_api_Event_api_Event,go_sem,hui,hi,h0]
 | false=>
  rw [q] at hf
  have h0:¬ 0≤n:=by rw [hf]; simp
  have h1:n<0:=by omega
  simp [ir_slices_ContainsFunc_api_Event_api_Event,go_sem,hui,hi,h0,h1]
def bxH (H:List Vm.Obj) (c:List V):List Vm.Obj:=H ++ [.arr [c]]
theorem bxH_mk (H:List Vm.Obj) (c:List V):H ++ [Vm.Obj.arr [c]]=bxH H c:=rfl
theorem bxH_at (H:List Vm.Obj) (c:List V):(bxH H c)[H.length]?=some (.arr [c]):=by simp [bxH]
theorem bxH_len (H:List Vm.Obj) (c:List V):(bxH H c).length=H.length+1:=by simp [bxH]
theorem bxH_el (H:List Vm.Obj) (c:List V) (h:H.length<(bxH H c).length):(bxH H c)[H.length]=.arr [c]:=by simp [bxH]
section
variable {x0:V} {lv:Nat→V} {x4 u:V} {R:Nat→List Rt} {img:List Nat} {cv:List V} {co:List (List Int)} (w:Lk x0 lv x4 u R img cv co) (mid:Nat) (H:List Vm.Obj)
include w
def plcP (n:Nat) (e:Ev):Bool:=decide (whr e.r.ins.op e.r.addr n≠0)
theorem places1_ok (e:Ev) (hb:Bd e.r):evI pg .heap n_cand_look_places_1 [.agg (evC e),.ptr H.length 0 0] (bxH H (xC x0 lv x4 u mid))=some (.bool (plcP img.length e),bxH H (xC x0 lv x4 u mid)):=by
 have hW:=Where_ok e.r.ins.op e.r.addr hb.ad img.length w.ib.2
 have hat:=bxH_at H (xC x0 lv x4 u mid)
 have hel:=bxH_el H (xC x0 lv x4 u mid)
 have hle:=bxH_len H (xC x0 lv x4 u mid)
 have i0:=w.im.is
 have hr0:(rows x0).length=img.length:=by rw [w.im.rows,byV_len]
 have hx0:(xC x0 lv x4 u mid)[0]?=some x0:=rfl
 have hx0':∀ h:0<(xC x0 lv x4 u mid).length,(xC x0 lv x4 u mid)[0]=x0:=fun _=>rfl
 unfold plcP
 generalize bxH H (xC x0 lv x4 u mid)=H' at *
 generalize xC x0 lv x4 u mid=xc at *
 rw [s_fn fn_cand_look_places_1]
 generalize whr e.r.ins.op e.r.addr img.length=wn at *
 by_cases c:wn=0
 ·subst c
  simp [ir_cand_look_places_1,go_sem,hat,hel,hle,hx0,hx0',hW,i0,hr0,V.cells,V.exp]
 ·have c':¬ (wn:Int)=0:=by omega
  simp [ir_cand_look_places_1,go_sem,hat,hel,hle,hx0,hx0',hW,i0,hr0,c,c',V.cells,V.exp]
def plcB (R:Nat→List Rt) (n:Nat):Bool:=(evs R).any (plcP n)
theorem places_ok:∃ X,evI pg .heap n_cand_look_places [.agg (xC x0 lv x4 u mid)] H=some (.bool (plcB R img.length),H ++ X):=by
 have hb:=evs_bd (R:=R) fun h hh=>(w.li h hh).2.1
 have hE:(evs R).length≤100000:=by
  have:=evs_len R
  have h0:=(w.li 0 (by omega)).2.2
  have h1:=(w.li 1 (by omega)).2.2
  have h2:=(w.li 2 (by omega)).2.2
  omega
 have hC:=Cont_ok w.ev hE (F:=n_cand_look_places_1) (c:=.ptr H.length 0 0) rfl (bxH H (xC x0 lv x4 u mid)) (fun e he=>places1_ok w mid H e (hb e he))
 simp only [n_cand_look_places_1] at hC
 have i0:=w.im.is
 have i4:=w.co4.is
 have iu:=w.ev.is
 have j0:=(w.li 0 (by omega)).1.is
 have j1:=(w.li 1 (by omega)).1.is
 have j2:=(w.li 2 (by omega)).1.is
 refine ⟨[.arr [xC x0 lv x4 u mid]],?_⟩
 show _=some (_,bxH H (xC x0 lv x4 u mid))
 unfold plcB
 have hat:=bxH_at H (xC x0 lv x4 u mid)
 have hel:=bxH_el H (xC x0 lv x4 u mid)
 have hle:=bxH_len H (xC x0 lv x4 u mid)
 have hmk:=bxH_mk H (xC x0 lv x4 u mid)
 unfold xC at *
 rw [s_fn fn_cand_look_places]
 simp [ir_cand_look_places,go_sem,i0,i4,iu,j0,j1,j2,hmk,hat,hel,hle,hC]
end
def lixTo (E:List Ev) (n:Int):Nat→Option Nat
 | 0=>none
 | k+1=>if (E[k]?).map (fun e=>e.r.id)=some n then some k else lixTo E n k
def lix (E:List Ev) (n:Int):Option Nat:=lixTo E n E.length
theorem lixTo_some {E:List Ev} {n:Int} {i:Nat}:∀ {k:Nat},lixTo E n k=some i→i<k∧(E[i]?).map (fun e=>e.r.id)=some n
 | 0,h=>by cases h
 | k+1,h=>by
  unfold lixTo at h
  split at h
  ·cases h; exact ⟨by omega,by assumption⟩
  ·obtain ⟨h1,h2⟩:=lixTo_some h
   exact ⟨by omega,h2⟩
theorem lix_some {E:List Ev} {n:Int} {i:Nat} (h:lix E n=some i):∃ hi:i<E.length,(E[i]).r.id=n:=by
 obtain ⟨h1,h2⟩:=lixTo_some h
 refine ⟨h1,?_⟩
 rw [List.getElem?_eq_getElem h1] at h2
 simpa using h2
def AtL (l:List (Int × V)) (E:List Ev):Prop:=∀ n,kget l n=(lix E n).map fun (i:Nat)=>V.int .i64 ((i:Nat):Int)
def evZ:List V:=[.int .i64 0,.int .i64 0,.int .u64 0,.int .i64 0,.int .i64 0,.int .i64 0,.int .i64 0,.int .i64 0,.bool false,.bool false,.int .i64 0,.int .i64 0,.int .i64 0,.int .u64 0,.int .u64 0,.int .u64 0,.int .u64 0,.bool false,.int .i64 0,.flt 0,.int .i64 0,.int .i64 0,.int .i64 0,.int .i64 0,.int .i64 0,.int .i64 0,.int .i64 0,.int .i64 0,.int .i64 0,.bool false,.bool false,.int .i64 0,.int .i64 0]
def wrC (E:List Ev) (n:Int):List V:=match lix E n with
 | some i=>match E[i]? with
  | some e=>evC e
  | none=>evZ
 | none=>evZ
def wrB (E:List Ev) (n at_:Int):Bool:=match lix E n with
 | some i=>match E[i]? with
  | some e=>bh e at_
  | none=>false
 | none=>false
theorem wrC_len (E:List Ev) (n:Int):(wrC E n).length=33:=by
 unfold wrC
 split
 ·split<;>rfl
 ·rfl
theorem wrC_take (E:List Ev) (n:Int):(wrC E n).take 33=wrC E n:=List.take_of_length_le (by rw [wrC_len]; omega)
theorem wrC_drop (E:List Ev) (n:Int):(wrC E n).drop 33=[]:=List.drop_eq_nil_of_le (by rw [wrC_len]; omega)
theorem wrC_flat (E:List Ev) (n:Int):∀ v∈wrC E n,v.flat=true:=by
 unfold wrC
 split
 ·split
  ·exact evC_flat _
  ·intro v hv
   have:evZ.all V.flat=true:=rfl
   exact List.all_eq_true.1 this v hv
 ·intro v hv
  have:evZ.all V.flat=true:=rfl
  exact List.all_eq_true.1 this v hv
section
variable {x0:V} {lv:Nat→V} {x4 u:V} {R:Nat→List Rt} {img:List Nat} {cv:List V} {co:List (List Int)} (w:Lk x0 lv x4 u R img cv co) {mid:Nat} {H:List Vm.Obj} {l:List (Int × V)} (hm:H[mid]?=some (.mp (kvR l))) (hat:AtL l (evs R))
include w hm hat
theorem writer_ok (n at_:Int) (ha:-100000≤at_∧at_≤100000):evI pg .heap n_cand_look_writer [.agg (xC x0 lv x4 u mid),.int .i64 n,.int .i64 at_] H=some (.tup [.agg (wrC (evs R) n),.bool (wrB (evs R) n at_)],H):=by
 have hb:=evs_bd (R:=R) fun h hh=>(w.li h hh).2.1
 have i0:=w.im.is
 have i4:=w.co4.is
 have iu:=w.ev.is
 have hur:=w.ev.fpR
 have j0:=(w.li 0 (by omega)).1.is
 have j1:=(w.li 1 (by omega)).1.is
 have j2:=(w.li 2 (by omega)).1.is
 have hlk:=fun vs tk=>look_kv hm vs tk true (.int .i64 0) n
 simp only [if_true] at hlk
 rw [hat n] at hlk
 unfold wrC wrB xC
 cases q:lix (evs R) n with
 | none=>
  rw [q] at hlk
  simp only [Option.map_none,Option.getD_none,Option.isSome_none] at hlk
  rw [s_fn fn_cand_look_writer]
  simp [ir_cand_look_writer,go_sem,i0,i4,iu,j0,j1,j2,hlk,fill,evZ,evStore,splice]
 | some i=>
  rw [q] at hlk
  simp only [Option.map_some,Option.getD_some,Option.isSome_some] at hlk
  obtain ⟨hi,hid⟩:=lix_some q
  have e1:=fun m=>w.ev.ia (sz:=33) m .i64 (i:=i) (by rw [evR_len]; exact hi) (evR_sz _ _ (List.getElem_mem _))
  simp only [evR_el] at e1
  have hBy:=Byte_ok (evs R)[i] (hb _ (List.getElem_mem _)) at_ ha
  have hfl:=eq_true (evC_flat (evs R)[i])
  simp only [List.getElem?_eq_getElem hi]
  generalize (evs R)[i]=e at *
  rw [s_fn fn_cand_look_writer]
  simp [ir_cand_look_writer,go_sem,i0,i4,iu,j0,j1,j2,hlk,e1,hBy,hfl,hur,evStore,splice]
end
/-! ### tags -/
theorem rC_tgq (r:Rt) {k:Nat} (h:k<8):(rC r)[18+k]?=some (.int .i64 (r.tg k)):=by
 match k,h with
 | 0,_=>rfl
 | 1,_=>rfl
 | 2,_=>rfl
 | 3,_=>rfl
 | 4,_=>rfl
 | 5,_=>rfl
 | 6,_=>rfl
 | 7,_=>rfl
theorem evC_tgq (e:Ev) {k:Nat} (h:k<8):(evC e)[20+k]?=some (.int .i64 (e.r.tg k)):=by
 match k,h with
 | 0,_=>rfl
 | 1,_=>rfl
 | 2,_=>rfl
 | 3,_=>rfl
 | 4,_=>rfl
 | 5,_=>rfl
 | 6,_=>rfl
 | 7,_=>rfl
def ldE (r:Rt):Nat:=if isE r && lod r.ins.op then szO r.ins.op else 0
theorem ldE_le (r:Rt):ldE r≤8:=by
 unfold ldE
 have:=szO_le r.ins.op
 split<;>omega
def tgW (r:Rt) (f j:Nat):Bool:=(List.range' j (8 - f - j)).any fun k=>decide (r.tg (f+k)≠-1)
theorem bxSt {H:List Vm.Obj} (r:Rt) (vs:List (List V)) (tk:List Nat) (Z:List V) (hZ:Z.length=27):evStore 27 ⟨vs,tk,H ++ [.arr [Z]]⟩ (.agg (rC r)) (.ptr H.length 0 0)=some ⟨vs,tk,bxH H (rC r)⟩:=by
 have hd:Z.drop 27=[]:=List.drop_eq_nil_of_le (by omega)
 simp [evStore,splice,bxH,hZ,hd,rC_len,V.cells]
section
variable {x0:V} {lv:Nat→V} {x4 u:V} {R:Nat→List Rt} {img:List Nat} {cv:List V} {co:List (List Int)} (w:Lk x0 lv x4 u R img cv co) (mid:Nat)
include w
omit w in
theorem tags_l0 (xc ls:List V) (lvh:V) (hv:isS lvh=true) (h n i:Nat) (H:List Vm.Obj) (r:Rt) (f:Nat) (hf:f≤8) (j:Nat) (hj:j≤8 - f):
  evCI pg (.loop ir_cand_look_tagsl0) ⟨[.undef,.lp 0 0,.undef,.undef,.undef,.undef,.undef,.undef,.undef,.undef,.undef,.undef,.agg ls,.int .i64 (h:Int),.undef,lvh,.int .i64 (n:Int),.int .i64 (i:Int),.undef,.undef,.asl H.length 0 (18+f) (8 - f) 1,.int .i64 ((8 - f:Nat):Int),.int .i64 (j:Int),.undef,.undef,.undef,.undef,.undef,.undef,.undef,.undef,.undef,.undef,.undef],⟨[xc,[],[]],[],bxH H (rC r)⟩⟩ =
   some (if tgW r f j=true then (.ret,⟨[.undef,.undef,.bool true,.undef,.undef,.undef,.undef,.undef,.undef,.undef,.undef,.undef,.undef,.undef,.undef,.undef,.undef,.undef,.undef,.undef,.undef,.undef,.undef,.undef,.undef,.undef,.undef,.undef,.undef,.undef,.undef,.undef,.undef,.undef],⟨[[],[],[]],[],bxH H (rC r)⟩⟩)
    else (.exit 4,⟨[.undef,.lp 0 0,.undef,.undef,.undef,.undef,.undef,.undef,.undef,.undef,.undef,.undef,.agg ls,.int .i64 (h:Int),.undef,lvh,.int .i64 (n:Int),.int .i64 (i:Int),.undef,.undef,.asl H.length 0 (18+f) (8 - f) 1,.int .i64 ((8 - f:Nat):Int),.int .i64 ((8 - f:Nat):Int),.bool false,.undef,.undef,.undef,.undef,.undef,.undef,.undef,.undef,.undef,.undef],⟨[xc,[],[]],[],bxH H (rC r)⟩⟩)):=by
 obtain ⟨B,hB⟩:∃ B,B=Vm.C.loop ir_cand_look_tagsl0:=⟨_,rfl⟩
 have hat:=bxH_at H (rC r)
 have hel:=bxH_el H (rC r)
 have hle:=bxH_len H (rC r)
 by_cases c:j<8 - f
 ·have e3:=succ_i64 c (by omega)
  have hd:List.range' j (8 - f - j)=j :: List.range' (j+1) (8 - f - (j+1)):=by
   have:8 - f - j=(8 - f - (j+1))+1:=by omega
   rw [this,List.range'_succ]
  have ht:=rC_tgq r (k:=f+j) (by omega)
  rw [show 18+(f+j)=18+f+j by omega] at ht
  have ht':∀ q:18+f+j<(rC r).length,(rC r)[18+f+j]=.int .i64 (r.tg (f+j)):=fun q=>by rw [List.getElem?_eq_getElem q] at ht; exact Option.some.inj ht
  have c8:(j:Int)<((8 - f:Nat):Int):=by omega
  have hl27:18+f+j<27:=by omega
  unfold tgW
  rw [hd,List.any_cons]
  by_cases q:r.tg (f+j)=-1
  ·have ih:=tags_l0 xc ls lvh hv h n i H r f hf (j+1) (by omega)
   unfold tgW at ih
   rw [decide_eq_false (by simpa using q),Bool.false_or,← ih,← hB]
   conv=>lhs; rw [s_loop_at hB]
   clear ih hd
   generalize 8 - f=m at *
   simp [ir_cand_look_tagsl0,go_sem,c,c8,e3,hv,hat,hel,hle,ht,ht',hl27,q,-Int.natCast_add]
  ·rw [decide_eq_true (by simpa using q),Bool.true_or,if_pos rfl,← hB,s_loop_at hB]
   clear hd
   generalize 8 - f=m at *
   simp [ir_cand_look_tagsl0,go_sem,c,c8,e3,hv,hat,hel,hle,ht,ht',hl27,q,-Int.natCast_add]
 ·obtain rfl:j=8 - f:=by omega
  unfold tgW
  rw [← hB,s_loop_at hB,Nat.sub_self]
  generalize 8 - f=m at *
  simp [ir_cand_look_tagsl0,go_sem]
termination_by 8 - f - j
def tagsR (r:Rt):Bool:=tgW r (ldE r) 0
theorem tags_l1 (xc ls:List V) (h:Nat) (hh:h<3) (i:Nat) (hi:i≤(R h).length) (H:List Vm.Obj):
  ∃ X,evCI pg (.loop ir_cand_look_tagsl1) ⟨[.undef,.lp 0 0,.undef,.undef,.undef,.undef,.undef,.undef,.undef,.undef,.undef,.undef,.agg ls,.int .i64 (h:Int),.undef,lv h,.int .i64 ((R h).length:Int),.int .i64 (i:Int),.undef,.undef,.undef,.undef,.undef,.undef,.undef,.undef,.undef,.undef,.undef,.undef,.undef,.undef,.undef,.undef],⟨[xc,[],[]],[],H⟩⟩ =
   some (if ((R h).drop i).any tagsR=true then (.ret,⟨[.undef,.undef,.bool true,.undef,.undef,.undef,.undef,.undef,.undef,.undef,.undef,.undef,.undef,.undef,.undef,.undef,.undef,.undef,.undef,.undef,.undef,.undef,.undef,.undef,.undef,.undef,.undef,.undef,.undef,.undef,.undef,.undef,.undef,.undef],⟨[[],[],[]],[],H ++ X⟩⟩)
    else (.exit 2,⟨[.undef,.lp 0 0,.undef,.undef,.undef,.undef,.undef,.undef,.undef,.undef,.undef,.undef,.agg ls,.int .i64 (h:Int),.undef,lv h,.int .i64 ((R h).length:Int),.int .i64 ((R h).length:Int),.bool false,.undef,.undef,.undef,.undef,.undef,.undef,.undef,.undef,.undef,.undef,.undef,.undef,.undef,.undef,.undef],⟨[xc,[],[]],[],H ++ X⟩⟩)):=by
 obtain ⟨B,hB⟩:∃ B,B=Vm.C.loop ir_cand_look_tagsl1:=⟨_,rfl⟩
 obtain ⟨hv,hbd,hl5⟩:=w.li h hh
 have hvi:=hv.is
 by_cases c:i<(R h).length
 ·have e3:=succ_i64 c (by omega)
  have e1:=fun m=>hv.ia (sz:=27) m .i64 (i:=i) (by rw [rwR_len]; exact c) (rwR_sz _ _ (List.getElem_mem _))
  simp only [rwR_el] at e1
  have hd:(R h).drop i=(R h)[i] :: (R h).drop (i+1):=List.drop_eq_getElem_cons c
  have hE:=isEvent_ok (R h)[i]
  have hL:=Loads_ok ((R h)[i]).ins.op
  have hZ:=SizeO ((R h)[i]).ins.op
  have hlo:=tags_l0 xc ls (lv h) hvi h (R h).length i H (R h)[i] (ldE (R h)[i]) (ldE_le _) 0 (Nat.zero_le _)
  have hfr:=hv.fpR
  rw [hd,List.any_cons]
  have htr:tgW (R h)[i] (ldE (R h)[i]) 0=tagsR (R h)[i]:=rfl
  rw [htr,Int.natCast_zero] at hlo
  have hst:=fun vs tk Z hZ=>bxSt (H:=H) (R h)[i] vs tk Z hZ
  have hat:=bxH_at H (rC (R h)[i])
  have hel:=bxH_el H (rC (R h)[i])
  have hle:=bxH_len H (rC (R h)[i])
  have hmk:=bxH_mk H (rC (R h)[i])
  have hf8:=ldE_le (R h)[i]
  have hsl:∀ g:Nat,g=ldE (R h)[i]→slcAV 8 1 (.ptr H.length 0 18) (some (.int .i64 (g:Int))) none none=some (.asl H.length 0 (18+ldE (R h)[i]) (8 - ldE (R h)[i]) 1):=by
   rintro g rfl
   have e1:(ldE (R h)[i]:Int)≤8:=by omega
   simp [slcAV,bnd,asNat,e1,hf8]
  have hdef:ldE (R h)[i]=if isE (R h)[i] && lod ((R h)[i]).ins.op then szO ((R h)[i]).ins.op else 0:=rfl
  cases qt:tagsR (R h)[i] with
  | true=>
   refine ⟨[.arr [rC (R h)[i]]],?_⟩
   rw [qt,if_pos rfl] at hlo
   rw [Bool.true_or,if_pos rfl]
   rw [bxH_mk]
   rw [← hB,s_loop_at hB]
   clear hd
   generalize (R h)[i]=r at *
   generalize ldE r=f at *
   cases q1:isE r with
   | false=>
    rw [q1] at hE
    simp only [q1,Bool.false_and,Bool.false_eq_true,if_false] at hdef
    have hsl:=hsl 0 hdef.symm
    rw [Int.natCast_zero] at hsl
    simp [ir_cand_look_tagsl1,go_sem,c,hvi,hfr,e1,hE,hst,hmk,hat,hel,hle,hsl,hlo,-Int.natCast_add]
   | true=>
    cases q2:lod r.ins.op with
    | false=>
     rw [q1] at hE
     rw [q2] at hL
     simp only [q1,q2,Bool.true_and,Bool.false_eq_true,if_false] at hdef
     have hsl:=hsl 0 hdef.symm
     rw [Int.natCast_zero] at hsl
     simp [ir_cand_look_tagsl1,go_sem,c,hvi,hfr,e1,hE,hL,hst,hmk,hat,hel,hle,hsl,hlo,-Int.natCast_add]
    | true=>
     rw [q1] at hE
     rw [q2] at hL
     simp only [q1,q2,Bool.true_and,if_true] at hdef
     have hsl:=hsl (szO r.ins.op) hdef.symm
     simp [ir_cand_look_tagsl1,go_sem,c,hvi,hfr,e1,hE,hL,hZ,hst,hmk,hat,hel,hle,hsl,hlo,-Int.natCast_add]
  | false=>
   obtain ⟨X,ih⟩:=tags_l1 xc ls h hh (i+1) (by omega) (bxH H (rC (R h)[i]))
   refine ⟨.arr [rC (R h)[i]] :: X,?_⟩
   have happ:H ++ (.arr [rC (R h)[i]] :: X)=bxH H (rC (R h)[i]) ++ X:=by simp [bxH]
   rw [qt,if_neg (by simp)] at hlo
   rw [Bool.false_or,happ,← ih,← hB]
   conv=>lhs; rw [s_loop_at hB]
   clear hd ih happ
   generalize (R h)[i]=r at *
   generalize ldE r=f at *
   cases q1:isE r with
   | false=>
    rw [q1] at hE
    simp only [q1,Bool.false_and,Bool.false_eq_true,if_false] at hdef
    have hsl:=hsl 0 hdef.symm
    rw [Int.natCast_zero] at hsl
    simp [ir_cand_look_tagsl1,go_sem,c,hvi,hfr,e1,e3,hE,hst,hmk,hat,hel,hle,hsl,hlo,-Int.natCast_add]
   | true=>
    cases q2:lod r.ins.op with
    | false=>
     rw [q1] at hE
     rw [q2] at hL
     simp only [q1,q2,Bool.true_and,Bool.false_eq_true,if_false] at hdef
     have hsl:=hsl 0 hdef.symm
     rw [Int.natCast_zero] at hsl
     simp [ir_cand_look_tagsl1,go_sem,c,hvi,hfr,e1,e3,hE,hL,hst,hmk,hat,hel,hle,hsl,hlo,-Int.natCast_add]
    | true=>
     rw [q1] at hE
     rw [q2] at hL
     simp only [q1,q2,Bool.true_and,if_true] at hdef
     have hsl:=hsl (szO r.ins.op) hdef.symm
     simp [ir_cand_look_tagsl1,go_sem,c,hvi,hfr,e1,e3,hE,hL,hZ,hst,hmk,hat,hel,hle,hsl,hlo,-Int.natCast_add]
 ·obtain rfl:i=(R h).length:=by omega
  refine ⟨[],?_⟩
  rw [← hB,s_loop_at hB,List.drop_length,List.append_nil]
  simp [ir_cand_look_tagsl1,go_sem]
termination_by (R h).length - i
end
end Go.Proofs.YtimiademofajeaaGreatDoor
