/- Lemmas (no claim): K22o, K22p. -/
import Derived.Test.YtimiademofajeaaGreatDoorP09
set_option linter.unusedSimpArgs false
set_option linter.unusedVariables false
set_option maxRecDepth 20000
namespace Go.Proofs.YtimiademofajeaaGreatDoor
open Go Go.Vm
def evH (h:Nat):List Rt→Nat→List Ev
 | [],_=>[]
 | r :: l,i=>if isE r then ⟨h,i,r⟩ :: evH h l (i+1) else evH h l (i+1)
def evs (R:Nat→List Rt):List Ev:=evH 0 (R 0) 0 ++ (evH 1 (R 1) 0 ++ evH 2 (R 2) 0)
theorem evH_len (h:Nat):∀ (l:List Rt) (i:Nat),(evH h l i).length≤l.length
 | [],_=>by simp [evH]
 | r :: l,i=>by
  have:=evH_len h l (i+1)
  unfold evH
  split<;>simp<;>omega
theorem evH_mem (h:Nat):∀ (l:List Rt) (i:Nat),∀ e∈evH h l i,e.hart=h∧i≤e.at'∧e.at'<i+l.length∧l[e.at' - i]?=some e.r∧isE e.r=true
 | [],_,e,he=>by simp [evH] at he
 | r :: l,i,e,he=>by
  unfold evH at he
  have key:e∈evH h l (i+1)→e.hart=h∧i≤e.at'∧e.at'<i+(r :: l).length∧(r :: l)[e.at' - i]?=some e.r∧isE e.r=true:=by
   intro he
   obtain ⟨h1,h2,h3,h4,h5⟩:=evH_mem h l (i+1) e he
   refine ⟨h1,by omega,by simp; omega,?_,h5⟩
   have:e.at' - i=(e.at' - (i+1))+1:=by omega
   rw [this,List.getElem?_cons_succ]
   exact h4
  split at he
  ·rename_i hE
   rcases List.mem_cons.1 he with rfl | he
   ·exact ⟨rfl,Nat.le_refl _,by simp,by simp,hE⟩
   ·exact key he
  ·exact key he
theorem evH_sorted (h:Nat):∀ (l:List Rt) (i:Nat),(evH h l i).Pairwise fun x y=>x.hart<y.hart∨(x.hart=y.hart∧x.at'<y.at')
 | [],_=>by simp [evH]
 | r :: l,i=>by
  have ih:=evH_sorted h l (i+1)
  unfold evH
  split
  ·rw [List.pairwise_cons]
   refine ⟨fun e he=>?_,ih⟩
   obtain ⟨h1,h2,_⟩:=evH_mem h l (i+1) e he
   exact .inr ⟨h1.symm,by simp only; omega⟩
  ·exact ih
theorem evs_sorted (R:Nat→List Rt):srt2 (evs R):=by
 unfold srt2 evs
 rw [List.pairwise_append,List.pairwise_append]
 refine ⟨evH_sorted 0 _ 0,⟨evH_sorted 1 _ 0,evH_sorted 2 _ 0,fun x hx y hy=>?_⟩,fun x hx y hy=>?_⟩
 ·have h1:=(evH_mem 1 _ _ x hx).1
  have h2:=(evH_mem 2 _ _ y hy).1
  exact .inl (by omega)
 ·have h1:=(evH_mem 0 _ _ x hx).1
  rcases List.mem_append.1 hy with hy | hy
  ·have h2:=(evH_mem 1 _ _ y hy).1
   exact .inl (by omega)
  ·have h2:=(evH_mem 2 _ _ y hy).1
   exact .inl (by omega)
theorem evs_mem {R:Nat→List Rt} {e:Ev} (he:e∈evs R):e.hart<3∧(R e.hart)[e.at']?=some e.r∧isE e.r=true:=by
 unfold evs at he
 have key:∀ h,h<3→e∈evH h (R h) 0→e.hart<3∧(R e.hart)[e.at']?=some e.r∧isE e.r=true:=by
  intro h hh he
  obtain ⟨h1,h2,h3,h4,h5⟩:=evH_mem h (R h) 0 e he
  rw [h1]
  exact ⟨hh,h4,h5⟩
 rcases List.mem_append.1 he with he | he
 ·exact key 0 (by omega) he
 ·rcases List.mem_append.1 he with he | he
  ·exact key 1 (by omega) he
  ·exact key 2 (by omega) he
theorem evs_ok {R:Nat→List Rt}:∀ e∈evs R,e.hart<3∧e.at'<(R e.hart).length:=fun e he=>by
 obtain ⟨h1,h2,_⟩:=evs_mem he
 exact ⟨h1,(List.getElem?_eq_some_iff.1 h2).1⟩
theorem evs_len (R:Nat→List Rt):(evs R).length≤(R 0).length+(R 1).length+(R 2).length:=by
 unfold evs
 have h0:=evH_len 0 (R 0) 0
 have h1:=evH_len 1 (R 1) 0
 have h2:=evH_len 2 (R 2) 0
 simp only [List.length_append]
 omega
/-! ### the walk -/
def okL (l:List Rt):Prop:=∀ r∈l,0≤r.addr
def evB (h i:Nat) (r:Rt):List V:=.int .i64 (h:Int) :: .int .i64 (i:Int) :: (rC r ++ [.bool (lod r.ins.op),.bool (sto r.ins.op),.int .i64 (-1),.int .i64 (szO r.ins.op:Nat)])
theorem evB_fill (h i:Nat) (r:Rt):fill [.int .i64 0,.int .i64 0,.int .u64 0,.int .i64 0,.int .i64 0,.int .i64 0,.int .i64 0,.int .i64 0,.bool false,.bool false,.int .i64 0,.int .i64 0,.int .i64 0,.int .u64 0,.int .u64 0,.int .u64 0,.int .u64 0,.bool false,.int .i64 0,.flt 0,.int .i64 0,.int .i64 0,.int .i64 0,.int .i64 0,.int .i64 0,.int .i64 0,.int .i64 0,.int .i64 0,.int .i64 0,.bool false,.bool false,.int .i64 0,.int .i64 0] [(0,1,.int .i64 (h:Int)),(1,1,.int .i64 (i:Int)),(2,27,.agg (rC r)),(29,1,.bool (lod r.ins.op)),(30,1,.bool (sto r.ins.op)),(31,1,.int .i64 (-1)),(32,1,.int .i64 (szO r.ins.op:Nat))]=some (evB h i r):=rfl
theorem evB_len (h i:Nat) (r:Rt):(evB h i r).length=33:=rfl
theorem evB_drop (h i:Nat) (r:Rt):(evB h i r).drop 33=[]:=rfl
theorem evB_take (h i:Nat) (r:Rt):(evB h i r).take 33=evB h i r:=rfl
theorem evB_set (h i:Nat) (r:Rt) (hr:r.addr≤1024):(evB h i r).take 31 ++ .int .i64 r.addr :: (evB h i r).drop 32=evC ⟨h,i,r⟩:=by
 have:adE r=r.addr:=by unfold adE; rw [if_pos hr]
 unfold evC
 rw [this]
 rfl
theorem evB_no (h i:Nat) (r:Rt) (hr:¬ r.addr≤1024):evB h i r=evC ⟨h,i,r⟩:=by
 have:adE r=-1:=by unfold adE; rw [if_neg hr]
 unfold evC
 rw [this]
 rfl
theorem evC_all (e:Ev) (P:V→Prop) (hi:∀ k n,P (.int k n)) (hb:∀ b,P (.bool b)) (hf:∀ n,P (.flt n)):∀ v∈evC e,P v:=by
 intro v hv
 unfold evC at hv
 simp only [List.mem_cons,List.mem_append,List.not_mem_nil,or_false] at hv
 rcases hv with rfl | rfl | hv | rfl | rfl | rfl | rfl
 ·exact hi _ _
 ·exact hi _ _
 ·exact rC_all e.r P hi hb hf v hv
 ·exact hb _
 ·exact hb _
 ·exact hi _ _
 ·exact hi _ _
theorem evC_flat (e:Ev):∀ v∈evC e,v.flat=true:=evC_all e (fun v=>v.flat=true) (fun _ _=>rfl) (fun _=>rfl) (fun _=>rfl)
theorem evR_imm (E:List Ev):immAll (evR E)=true:=by
 simp only [immAll,evR,List.all_eq_true,List.mem_map]
 rintro _ ⟨e,_,rfl⟩
 exact evC_all e (fun v=>v.imm=true) (fun _ _=>rfl) (fun _=>rfl) (fun _=>rfl)
theorem evR_szA (E:List Ev):szAll 33 (evR E)=true:=by
 simp only [szAll,List.all_eq_true]
 intro e he
 rw [evR_sz E e he]
 rfl
theorem app_ev {m:Mem} {l:List Ev} {e:Ev} (ht:m.tk[0]?=some l.length) (hl:l.length≤100000):
  appV 2 33 248 m (.osl false 0 (evR l)) (.els [evC e])=some (.osl false 0 (evR (l ++ [e])),{ m with tk:=m.tk.set 0 (l.length+1) }):=by
 have e1:evR (l ++ [e])=evR l ++ [evC e]:=by simp [evR]
 have h1:immAll (evR l ++ [evC e])=true:=by rw [← e1]; exact evR_imm _
 have h2:szAll 33 (evR l ++ [evC e])=true:=by rw [← e1]; exact evR_szA _
 unfold appV
 simp only [srcV,List.length_singleton,e1,h1,h2,evR_len,ht,fits_of (b:=248) (n:=l.length+1) (by omega) (by omega),Bool.and_self,if_true,Bool.false_eq_true,if_false]
theorem Ev_l0 {lvh:V} {l:List Rt} (hv:Sl lvh (rwR l)) (hl:l.length≤1000) (hok:okL l) (h:Nat) (ls:List V) (j:Nat) (hj:j≤l.length) (acc:List Ev) (ha:acc.length≤10000+j):
  evCI pg (.loop ir_cand_Eventsl0) ⟨[.undef,.undef,.undef,.osl false 0 (evR acc),.int .i64 (h:Int),.undef,.undef,.undef,.undef,.undef,.agg ls,.int .i64 (h:Int),.undef,lvh,.int .i64 (l.length:Int),.int .i64 (j:Int),.undef,.undef,.undef],⟨[[],[],[]],[acc.length],[]⟩⟩ =
   some (.exit 2,⟨[.undef,.undef,.undef,.osl false 0 (evR (acc ++ evH h (l.drop j) j)),.int .i64 (h:Int),.undef,.undef,.undef,.undef,.undef,.agg ls,.int .i64 (h:Int),.undef,lvh,.int .i64 (l.length:Int),.int .i64 (l.length:Int),.bool false,.undef,.undef],⟨[[],[],[]],[(acc ++ evH h (l.drop j) j).length],[]⟩⟩):=by
 obtain ⟨B,hB⟩:∃ B,B=Vm.C.loop ir_cand_Eventsl0:=⟨_,rfl⟩
 by_cases c:j<l.length
 ·have e3:=succ_i64 c (by omega)
  have e1:=fun m=>hv.ia (sz:=27) m .i64 (i:=j) (by rw [rwR_len]; exact c) (rwR_sz _ _ (List.getElem_mem _))
  simp only [rwR_el] at e1
  have hE:=isEvent_ok l[j]
  have h0:=hok l[j] (List.getElem_mem _)
  have hL:=Loads_ok (l[j]).ins.op
  have hS:=Stores_ok (l[j]).ins.op
  have hZ:=SizeO (l[j]).ins.op
  have ea:=app_ev (m:=⟨[[],rC l[j],evC ⟨h,j,l[j]⟩],[acc.length],[]⟩) (l:=acc) (e:=⟨h,j,l[j]⟩) rfl (by omega)
  have ea2:=app_ev (m:=⟨[[],[],evC ⟨h,j,l[j]⟩],[acc.length],[]⟩) (l:=acc) (e:=⟨h,j,l[j]⟩) rfl (by omega)
  simp only [List.set_cons_zero] at ea ea2
  have hd:l.drop j=l[j] :: l.drop (j+1):=List.drop_eq_getElem_cons c
  rw [hd]
  unfold evH
  cases q:isE l[j] with
  | false=>
   have ih:=Ev_l0 hv hl hok h ls (j+1) (by omega) acc (by omega)
   rw [q] at hE
   simp only [Bool.false_eq_true,if_false]
   rw [← ih,← hB]
   conv=>lhs; rw [s_loop_at hB]
   generalize l[j]=r at *
   simp [ir_cand_Eventsl0,go_sem,hv.is,c,e1,e3,hE,evStore,splice,V.cells,V.exp,-Int.natCast_add]
  | true=>
   have ih:=Ev_l0 hv hl hok h ls (j+1) (by omega) (acc ++ [⟨h,j,l[j]⟩]) (by simp; omega)
   rw [q] at hE
   simp only [if_true]
   rw [List.append_cons,← ih,← hB]
   conv=>lhs; rw [s_loop_at hB]
   have hf:=evB_fill h j l[j]
   have hb1:=evB_len h j l[j]
   have hb2:=evB_drop h j l[j]
   have hb3:=evB_take h j l[j]
   have hb4:=evB_set h j l[j]
   have hb5:=evB_no h j l[j]
   have hfl:=eq_true (evC_flat ⟨h,j,l[j]⟩)
   clear ih hd
   generalize l[j]=r at *
   generalize evB h j r=ev at *
   by_cases c2:r.addr≤1024
   ·have hb4:=hb4 c2
    have ew:IntKind.i64.wrap r.addr=r.addr:=i64_small (by omega)
    simp [ir_cand_Eventsl0,go_sem,hv.is,c,e1,e3,hE,hL,hS,hZ,hf,hb1,hb2,hb3,hb4,c2,ew,ea,ea2,hfl,litParts,evStore,splice,V.cells,V.exp,-Int.natCast_add]
   ·have hb5:=hb5 c2
    subst hb5
    simp [ir_cand_Eventsl0,go_sem,hv.is,c,e1,e3,hE,hL,hS,hZ,hf,hb1,hb2,hb3,c2,ea,ea2,hfl,litParts,evStore,splice,V.cells,V.exp,-Int.natCast_add]
 ·obtain rfl:j=l.length:=by omega
  rw [← hB,s_loop_at hB,List.drop_length]
  simp [ir_cand_Eventsl0,go_sem,hv.is,evH]
termination_by l.length - j
structure Cd (lv:Nat→V) (R:Nat→List Rt):Prop where
 li:∀ h,h<3→Sl (lv h) (rwR (R h))∧(R h).length≤512∧okL (R h)
def ls3 (lv:Nat→V):List V:=[lv 0,lv 1,lv 2]
theorem ls3_len (lv:Nat→V):(ls3 lv).length=3:=rfl
theorem ls3_get (lv:Nat→V) {h:Nat} (c:h<3):(ls3 lv)[h]?=some (lv h)∧((ls3 lv).drop h).take 1=[lv h]:=by rcases lt3 c with rfl | rfl | rfl<;>exact ⟨rfl,rfl⟩
section
variable {lv:Nat→V} {R:Nat→List Rt} (w:Cd lv R)
include w
theorem Ev_l1 (h:Nat) (hh:h≤3) (acc:List Ev) (ha:acc.length≤1000 * h):
  evCI pg (.loop ir_cand_Eventsl1) ⟨[.undef,.undef,.undef,.osl false 0 (evR acc),.undef,.undef,.undef,.undef,.undef,.undef,.agg (ls3 lv),.int .i64 (h:Int),.undef,.undef,.undef,.undef,.undef,.undef,.undef],⟨[[],[],[]],[acc.length],[]⟩⟩ =
   some (.exit 0,⟨[.undef,.undef,.undef,.osl false 0 (evR (acc ++ (List.range' h (3 - h)).flatMap fun k=>evH k (R k) 0)),.undef,.undef,.undef,.undef,.undef,.undef,.agg (ls3 lv),.int .i64 (3:Int),.bool false,.undef,.undef,.undef,.undef,.undef,.undef],⟨[[],[],[]],[(acc ++ (List.range' h (3 - h)).flatMap fun k=>evH k (R k) 0).length],[]⟩⟩):=by
 obtain ⟨B,hB⟩:∃ B,B=Vm.C.loop ir_cand_Eventsl1:=⟨_,rfl⟩
 by_cases c:h<3
 ·have e3:=succ_i64 c (by omega)
  obtain ⟨h1,h2,h3⟩:=w.li h c
  have hl:=Ev_l0 h1 (by omega) h3 h (ls3 lv) 0 (by omega) acc (by omega)
  rw [List.drop_zero,Int.natCast_zero] at hl
  have hel:=evH_len h (R h) 0
  have ih:=Ev_l1 (h+1) (by omega) (acc ++ evH h (R h) 0) (by simp; omega)
  have hd:List.range' h (3 - h)=h :: List.range' (h+1) (3 - (h+1)):=by
   have:3 - h=(3 - (h+1))+1:=by omega
   rw [this,List.range'_succ]
  rw [hd,List.flatMap_cons,← List.append_assoc,← ih,← hB]
  conv=>lhs; rw [s_loop_at hB]
  have hrl:(rows (lv h)).length=(R h).length:=by rw [h1.rows,rwR_len]
  have hi:=h1.is
  clear ih hd
  have c2:(h:Int)<3:=by omega
  obtain ⟨hg,hg2⟩:=ls3_get lv c
  have hll:=ls3_len lv
  have hg':∀ q:h<(ls3 lv).length,(ls3 lv)[h]=lv h:=fun q=>by
   rw [List.getElem?_eq_getElem q] at hg
   exact Option.some.inj hg
  generalize ls3 lv=ls at *
  have c3:h≤2:=by omega
  simp [ir_cand_Eventsl1,go_sem,c,c2,c3,e3,hg,hg',hg2,hll,hi,hrl,hl,-Int.natCast_add]
 ·obtain rfl:h=3:=by omega
  rw [← hB,s_loop_at hB]
  simp [ir_cand_Eventsl1,go_sem]
termination_by 3 - h
theorem Events_ok {x0 x4:V} (i0:isS x0=true) (i4:isS x4=true):evI pg .val n_cand_Events [.agg [x0,lv 0,lv 1,lv 2,x4]] []=some (ils (evR (evs R)),[]):=by
 have hl:=Ev_l1 w 0 (by omega) [] (by simp)
 have e:(List.range' 0 (3 - 0)).flatMap (fun k=>evH k (R k) 0)=evs R:=by simp [evs,List.range'_succ]
 have e0:evR []=[]:=rfl
 rw [List.nil_append,e,Int.natCast_zero,List.length_nil,e0] at hl
 unfold ls3 at hl
 have j0:=(w.li 0 (by omega)).1.is
 have j1:=(w.li 1 (by omega)).1.is
 have j2:=(w.li 2 (by omega)).1.is
 rw [s_fn fn_cand_Events]
 simp [ir_cand_Events,go_sem,i0,i4,j0,j1,j2,hl,V.cells,V.exp]
theorem look_l0 (h:Nat) (hh:h≤3) (n:Nat) (hn:n≤1000 * h) (c0:List V):
  evCI pg (.loop ir_ppo_lookl0) ⟨[.undef,.lp 0 0,.undef,.undef,.int .i64 (n:Nat),.undef,.undef,.undef,.undef,.agg (ls3 lv),.int .i64 (h:Int),.undef,.undef,.undef,.undef,.undef],⟨[c0],[],[]⟩⟩ =
   some (.exit 0,⟨[.undef,.lp 0 0,.undef,.undef,.int .i64 (n+((List.range' h (3 - h)).map fun k=>(R k).length).sum:Nat),.undef,.undef,.undef,.undef,.agg (ls3 lv),.int .i64 (3:Int),.bool false,.undef,.undef,.undef,.undef],⟨[c0],[],[]⟩⟩):=by
 obtain ⟨B,hB⟩:∃ B,B=Vm.C.loop ir_ppo_lookl0:=⟨_,rfl⟩
 by_cases c:h<3
 ·have e3:=succ_i64 c (by omega)
  obtain ⟨h1,h2,h3⟩:=w.li h c
  have ih:=look_l0 (h+1) (by omega) (n+(R h).length) (by omega) c0
  have hd:List.range' h (3 - h)=h :: List.range' (h+1) (3 - (h+1)):=by
   have:3 - h=(3 - (h+1))+1:=by omega
   rw [this,List.range'_succ]
  rw [hd,List.map_cons,List.sum_cons,← Nat.add_assoc,← ih,← hB]
  conv=>lhs; rw [s_loop_at hB]
  have hrl:(rows (lv h)).length=(R h).length:=by rw [h1.rows,rwR_len]
  have hi:=h1.is
  clear ih hd
  have c2:(h:Int)<3:=by omega
  obtain ⟨hg,hg2⟩:=ls3_get lv c
  have hll:=ls3_len lv
  have hg':∀ q:h<(ls3 lv).length,(ls3 lv)[h]=lv h:=fun q=>by
   rw [List.getElem?_eq_getElem q] at hg
   exact Option.some.inj hg
  generalize ls3 lv=ls at *
  have c3:h≤2:=by omega
  have ew:IntKind.i64.wrap ((n:Int)+((R h).length:Int))=((n+(R h).length:Nat):Int):=by rw [i64_small (by omega)]; rfl
  simp [ir_ppo_lookl0,go_sem,c,c2,c3,e3,hg,hg',hg2,hll,hi,hrl,ew,-Int.natCast_add]
 ·obtain rfl:h=3:=by omega
  rw [← hB,s_loop_at hB]
  simp [ir_ppo_lookl0,go_sem]
termination_by 3 - h
section
variable {av dv cv:Nat→V} (hA:∀ h,h<3→evI pg .val n_deps_Address [lv h] []=some (.ip false [av h] 0,[])) (hD:∀ h,h<3→evI pg .val n_deps_Data [lv h] []=some (.ip false [dv h] 0,[])) (hC:∀ h,h<3→evI pg .val n_deps_Course [lv h] []=some (.ip false [cv h] 0,[])) (u:V) (hu:isS u=true)
include hA hD hC hu
omit w hA hD hC hu in
theorem look_3 : evCI pg (.loop ir_ppo_lookl1) ⟨[.undef, .undef, .undef, .undef, .undef, .undef, .ptr 0 0 0, .undef, .undef, .undef, .undef, .undef, .undef, .agg [lv 0, lv 1, lv 2], .int .i64 3, .undef], ⟨[[]], [], [.arr [[u, lv 0, .ip false [av 0] 0, .ip false [dv 0] 0, .ip false [cv 0] 0, lv 1, .ip false [av 1] 0, .ip false [dv 1] 0, .ip false [cv 1] 0, lv 2, .ip false [av 2] 0, .ip false [dv 2] 0, .ip false [cv 2] 0]]]⟩⟩ =
      some (.exit 2, ⟨[.undef, .undef, .undef, .undef, .undef, .undef, .ptr 0 0 0, .undef, .undef, .undef, .undef, .undef, .undef, .agg [lv 0, lv 1, lv 2], .int .i64 3, .bool false], ⟨[[]], [], [.arr [[u, lv 0, .ip false [av 0] 0, .ip false [dv 0] 0, .ip false [cv 0] 0, lv 1, .ip false [av 1] 0, .ip false [dv 1] 0, .ip false [cv 1] 0, lv 2, .ip false [av 2] 0, .ip false [dv 2] 0, .ip false [cv 2] 0]]]⟩⟩) := by
  rw [s_loop]
  simp [ir_ppo_lookl1, go_sem]
theorem look_2 : evCI pg (.loop ir_ppo_lookl1) ⟨[.undef, .undef, .undef, .undef, .undef, .undef, .ptr 0 0 0, .undef, .undef, .undef, .undef, .undef, .undef, .agg [lv 0, lv 1, lv 2], .int .i64 2, .undef], ⟨[[]], [], [.arr [[u, lv 0, .ip false [av 0] 0, .ip false [dv 0] 0, .ip false [cv 0] 0, lv 1, .ip false [av 1] 0, .ip false [dv 1] 0, .ip false [cv 1] 0, .nils, .nilp, .nilp, .nilp]]]⟩⟩ =
      some (.exit 2, ⟨[.undef, .undef, .undef, .undef, .undef, .undef, .ptr 0 0 0, .undef, .undef, .undef, .undef, .undef, .undef, .agg [lv 0, lv 1, lv 2], .int .i64 3, .bool false], ⟨[[]], [], [.arr [[u, lv 0, .ip false [av 0] 0, .ip false [dv 0] 0, .ip false [cv 0] 0, lv 1, .ip false [av 1] 0, .ip false [dv 1] 0, .ip false [cv 1] 0, lv 2, .ip false [av 2] 0, .ip false [dv 2] 0, .ip false [cv 2] 0]]]⟩⟩) := by
  have hu' := hu
  have n := look_3 (lv := lv) (av := av) (dv := dv) (cv := cv) u
  have i1 := (w.li 2 (by omega)).1.is
  have h1 := hA 2 (by omega)
  have h2 := hD 2 (by omega)
  have h3 := hC 2 (by omega)
  obtain ⟨B, hB⟩ : ∃ B, B = Vm.C.loop ir_ppo_lookl1 := ⟨_, rfl⟩
  rw [← hB] at n
  rw [← hB, s_loop_at hB, ← n]
  simp [ir_ppo_lookl1, go_sem, i1, h1, h2, h3, fill, evStore, splice]
theorem look_1 : evCI pg (.loop ir_ppo_lookl1) ⟨[.undef, .undef, .undef, .undef, .undef, .undef, .ptr 0 0 0, .undef, .undef, .undef, .undef, .undef, .undef, .agg [lv 0, lv 1, lv 2], .int .i64 1, .undef], ⟨[[]], [], [.arr [[u, lv 0, .ip false [av 0] 0, .ip false [dv 0] 0, .ip false [cv 0] 0, .nils, .nilp, .nilp, .nilp, .nils, .nilp, .nilp, .nilp]]]⟩⟩ =
      some (.exit 2, ⟨[.undef, .undef, .undef, .undef, .undef, .undef, .ptr 0 0 0, .undef, .undef, .undef, .undef, .undef, .undef, .agg [lv 0, lv 1, lv 2], .int .i64 3, .bool false], ⟨[[]], [], [.arr [[u, lv 0, .ip false [av 0] 0, .ip false [dv 0] 0, .ip false [cv 0] 0, lv 1, .ip false [av 1] 0, .ip false [dv 1] 0, .ip false [cv 1] 0, lv 2, .ip false [av 2] 0, .ip false [dv 2] 0, .ip false [cv 2] 0]]]⟩⟩) := by
  have n := look_2 w hA hD hC u hu
  have i1 := (w.li 1 (by omega)).1.is
  have h1 := hA 1 (by omega)
  have h2 := hD 1 (by omega)
  have h3 := hC 1 (by omega)
  obtain ⟨B, hB⟩ : ∃ B, B = Vm.C.loop ir_ppo_lookl1 := ⟨_, rfl⟩
  rw [← hB] at n
  rw [← hB, s_loop_at hB, ← n]
  simp [ir_ppo_lookl1, go_sem, i1, h1, h2, h3, fill, evStore, splice]
theorem look_0 : evCI pg (.loop ir_ppo_lookl1) ⟨[.undef, .undef, .undef, .undef, .undef, .undef, .ptr 0 0 0, .undef, .undef, .undef, .undef, .undef, .undef, .agg [lv 0, lv 1, lv 2], .int .i64 0, .undef], ⟨[[]], [], [.arr [[u, .nils, .nilp, .nilp, .nilp, .nils, .nilp, .nilp, .nilp, .nils, .nilp, .nilp, .nilp]]]⟩⟩ =
      some (.exit 2, ⟨[.undef, .undef, .undef, .undef, .undef, .undef, .ptr 0 0 0, .undef, .undef, .undef, .undef, .undef, .undef, .agg [lv 0, lv 1, lv 2], .int .i64 3, .bool false], ⟨[[]], [], [.arr [[u, lv 0, .ip false [av 0] 0, .ip false [dv 0] 0, .ip false [cv 0] 0, lv 1, .ip false [av 1] 0, .ip false [dv 1] 0, .ip false [cv 1] 0, lv 2, .ip false [av 2] 0, .ip false [dv 2] 0, .ip false [cv 2] 0]]]⟩⟩) := by
  have n := look_1 w hA hD hC u hu
  have i1 := (w.li 0 (by omega)).1.is
  have h1 := hA 0 (by omega)
  have h2 := hD 0 (by omega)
  have h3 := hC 0 (by omega)
  obtain ⟨B, hB⟩ : ∃ B, B = Vm.C.loop ir_ppo_lookl1 := ⟨_, rfl⟩
  rw [← hB] at n
  rw [← hB, s_loop_at hB, ← n]
  simp [ir_ppo_lookl1, go_sem, i1, h1, h2, h3, fill, evStore, splice]
theorem look_at {x0 x4:V} (i0:isS x0=true) (i4:isS x4=true) (ht:(R 0).length+(R 1).length+(R 2).length≤512) (hE:evI pg .val n_cand_Events [.agg [x0,lv 0,lv 1,lv 2,x4]] []=some (u,[])):
  evI pg .val n_ppo_look [.agg [x0,lv 0,lv 1,lv 2,x4]] []=some (.tup [.ip false (vwC u lv av dv cv) 0,.bool true],[]):=by
 have hl0:=look_l0 w 0 (by omega) 0 (by omega) [x0,lv 0,lv 1,lv 2,x4]
 have hl1:=look_0 w hA hD hC u hu
 have e:0+((List.range' 0 (3 - 0)).map fun k=>(R k).length).sum=(R 0).length+(R 1).length+(R 2).length:=by simp [List.range'_succ]; omega
 rw [e,Int.natCast_zero] at hl0
 generalize (R 0).length+(R 1).length+(R 2).length=n at *
 unfold ls3 at hl0
 have j0:=(w.li 0 (by omega)).1.is
 have j1:=(w.li 1 (by omega)).1.is
 have j2:=(w.li 2 (by omega)).1.is
 have hn:¬ (512:Int)<(n:Int):=by omega
 rw [s_fn fn_ppo_look]
 simp [ir_ppo_look,go_sem,i0,i4,j0,j1,j2,hu,hl0,hl1,hn,hE,fill,vwC]
end
end
end Go.Proofs.YtimiademofajeaaGreatDoor
