/- Lemmas (no claim): K22d, K22e, K22f, K22h. -/
import Derived.Test.YtimiademofajeaaGreatDoorP06
set_option linter.unusedSimpArgs false
set_option linter.unusedVariables false
set_option maxRecDepth 20000
namespace Go.Proofs.YtimiademofajeaaGreatDoor
open Go Go.Vm
theorem evC_imm (e:Ev) (m:Mem) (t:Bool):omap (toImm m t 7) (evC e)=some (evC e):=omap_same fun v hv=>by
 unfold evC at hv
 simp only [List.mem_cons,List.mem_append,List.not_mem_nil,or_false] at hv
 rcases hv with rfl | rfl | hv | rfl | rfl | rfl | rfl
 ·rfl
 ·rfl
 ·exact rC_all e.r (fun v=>toImm m t 7 v=some v) (fun _ _=>rfl) (fun _=>rfl) (fun _=>rfl) v hv
 ·rfl
 ·rfl
 ·rfl
 ·rfl
theorem rC_imm (r:Rt) (m:Mem) (t:Bool):omap (toImm m t 7) (rC r)=some (rC r):=omap_same fun v hv=>rC_all r (fun v=>toImm m t 7 v=some v) (fun _ _=>rfl) (fun _=>rfl) (fun _=>rfl) v hv
theorem inV_imm7 (x:In) (m:Mem) (t:Bool):omap (toImm m t 7) (inV x)=some (inV x):=rfl
attribute [go_sem] evC_imm rC_imm inV_imm7
def evR (E:List Ev):List (List V):=E.map evC
theorem evR_len (E:List Ev):(evR E).length=E.length:=by simp [evR]
theorem evR_el (E:List Ev) (i:Nat) (h:i<(evR E).length):(evR E)[i]=evC (E[i]'(by simpa [evR] using h)):=by simp [evR]
theorem evR_sz (E:List Ev):∀ e∈evR E,e.length=33:=by
 intro e he
 obtain ⟨w,_,rfl⟩:=List.mem_map.1 he
 rfl
def rwR (l:List Rt):List (List V):=l.map rC
theorem rwR_len (l:List Rt):(rwR l).length=l.length:=by simp [rwR]
theorem rwR_el (l:List Rt) (i:Nat) (h:i<(rwR l).length):(rwR l)[i]=rC (l[i]'(by simpa [rwR] using h)):=by simp [rwR]
theorem rwR_sz (l:List Rt):∀ e∈rwR l,e.length=27:=by
 intro e he
 obtain ⟨w,_,rfl⟩:=List.mem_map.1 he
 rfl
def vwC (u:V) (lv av dv cv:Nat→V):List V:=[u,lv 0,.ip false [av 0] 0,.ip false [dv 0] 0,.ip false [cv 0] 0,lv 1,.ip false [av 1] 0,.ip false [dv 1] 0,.ip false [cv 1] 0,lv 2,.ip false [av 2] 0,.ip false [dv 2] 0,.ip false [cv 2] 0]
structure Vw (u:V) (lv av dv cv:Nat→V) (E:List Ev) (R:Nat→List Rt) (A D C:Nat→Nat→Nat):Prop where
 ev:Sl u (evR E)
 li:∀ h,h<3→Sl (lv h) (rwR (R h))∧(R h).length≤512
 ad:∀ h,h<3→RelV (av h) (R h).length (A h)
 da:∀ h,h<3→RelV (dv h) (R h).length (D h)
 co:∀ h,h<3→RelV (cv h) (R h).length (C h)
 ok:∀ e∈E,e.hart<3∧e.at'<(R e.hart).length
 le:E.length≤512
def r1 (x y:Ev):Bool:=y.st && ovE x y
def r3 (x y:Ev):Bool:=(decide (srtO x.r.ins.op=11) || decide (srtO x.r.ins.op=12)) && retE y x.r.id
def r8 (x y:Ev):Bool:=decide (srtO y.r.ins.op=11) && (decide (srtO x.r.ins.op=10) && decide (y.r.pair=x.r.id))
section
variable {t:Bool} {u:V} {lv av dv cv:Nat→V} {E:List Ev} {R:Nat→List Rt} {A D C:Nat→Nat→Nat} (w:Vw u lv av dv cv E R A D C)
include w
theorem Vw.ia {a:Nat} (ha:a<E.length) (m:Mem):iaSV 33 m u (.int .i64 (a:Int))=some (.ip (tg u) (evC E[a]) 0):=by
 have:=w.ev.ia (sz:=33) m .i64 (i:=a) (by rw [evR_len]; exact ha) (evR_sz _ _ (List.getElem_mem _))
 rwa [evR_el] at this
theorem Vw.fp (L:Nat):fpR L u=.no:=by
 have h:=w.ev
 generalize evR E=es at h
 cases h<;>rfl
variable {a b:Nat} (ha:a<E.length) (hb:b<E.length)
include ha hb
theorem vsame_ok:evI pg .val n_ppo_view_same [.ip t (vwC u lv av dv cv) 0,.int .i64 (a:Int),.int .i64 (b:Int)] []=some (.bool (r1 E[a] E[b]),[]):=by
 have e1:=fun m=>w.ia ha m
 have e2:=fun m=>w.ia hb m
 have hfp:=w.fp
 have ho:=overlap_ok E[a] E[b]
 unfold r1
 generalize E[a]=x at *
 generalize E[b]=y at *
 rw [s_fn fn_ppo_view_same]
 cases h:y.st<;>simp only [Ev.st] at h<;>simp [ir_ppo_view_same,go_sem,vwC,hfp,e1,e2,ho,h]
theorem written_ok:evI pg .val n_ppo_view_written [.ip t (vwC u lv av dv cv) 0,.int .i64 (a:Int),.int .i64 (b:Int)] []=some (.bool (r3 E[a] E[b]),[]):=by
 have e1:=fun m=>w.ia ha m
 have e2:=fun m=>w.ia hb m
 have hfp:=w.fp
 have ho:=returns_ok E[b] (E[a]).r.id
 have hs:=SortO (E[a]).r.ins.op
 unfold r3
 generalize E[a]=x at *
 generalize E[b]=y at *
 rw [s_fn fn_ppo_view_written]
 by_cases h:srtO x.r.ins.op=11
 ·rw [h] at hs
  simp [ir_ppo_view_written,go_sem,vwC,hfp,e1,e2,ho,hs,h]
 ·have h':¬ ((srtO x.r.ins.op:Nat):Int)=11:=by omega
  by_cases g:srtO x.r.ins.op=12
  ·rw [g] at hs
   simp [ir_ppo_view_written,go_sem,vwC,hfp,e1,e2,ho,hs,h,g]
  ·have g':¬ ((srtO x.r.ins.op:Nat):Int)=12:=by omega
   simp [ir_ppo_view_written,go_sem,vwC,hfp,e1,e2,ho,hs,h,g,h',g']
omit hb in
theorem rules1_ok:evI pg .val n_ppo_rules_1 [.ip t (vwC u lv av dv cv) 0,.int .i64 (a:Int),.int .i64 (b:Int)] []=some (.bool (E[a]).r.ins.aq,[]):=by
 have e1:=fun m=>w.ia ha m
 have hfp:=w.fp
 rw [s_fn fn_ppo_rules_1]
 simp [ir_ppo_rules_1,go_sem,vwC,e1]
omit ha in
theorem rules2_ok:evI pg .val n_ppo_rules_2 [.ip t (vwC u lv av dv cv) 0,.int .i64 (a:Int),.int .i64 (b:Int)] []=some (.bool (E[b]).r.ins.rl,[]):=by
 have e1:=fun m=>w.ia hb m
 have hfp:=w.fp
 rw [s_fn fn_ppo_rules_2]
 simp [ir_ppo_rules_2,go_sem,vwC,e1]
theorem rules3_ok:evI pg .val n_ppo_rules_3 [.ip t (vwC u lv av dv cv) 0,.int .i64 (a:Int),.int .i64 (b:Int)] []=some (.bool (strE E[a] && strE E[b]),[]):=by
 have e1:=fun m=>w.ia ha m
 have e2:=fun m=>w.ia hb m
 have hfp:=w.fp
 have h1:=strong_ok E[a]
 have h2:=strong_ok E[b]
 rw [s_fn fn_ppo_rules_3]
 cases h:strE E[a]<;>rw [h] at h1<;>simp [ir_ppo_rules_3,go_sem,vwC,hfp,e1,e2,h1,h2]
theorem paired_ok:evI pg .val n_ppo_view_paired [.ip t (vwC u lv av dv cv) 0,.int .i64 (a:Int),.int .i64 (b:Int)] []=some (.bool (r8 E[a] E[b]),[]):=by
 have e1:=fun m=>w.ia ha m
 have e2:=fun m=>w.ia hb m
 have hfp:=w.fp
 have h1:=SortO (E[a]).r.ins.op
 have h2:=SortO (E[b]).r.ins.op
 unfold r8
 generalize E[a]=x at *
 generalize E[b]=y at *
 rw [s_fn fn_ppo_view_paired]
 by_cases h:srtO y.r.ins.op=11
 ·rw [h] at h2
  by_cases g:srtO x.r.ins.op=10
  ·rw [g] at h1
   simp [ir_ppo_view_paired,go_sem,vwC,hfp,e1,e2,h1,h2,h,g,V.cells,V.exp]
  ·have g':¬ ((srtO x.r.ins.op:Nat):Int)=10:=by omega
   simp [ir_ppo_view_paired,go_sem,vwC,hfp,e1,e2,h1,h2,h,g,g',V.cells,V.exp]
 ·have h':¬ ((srtO y.r.ins.op:Nat):Int)=11:=by omega
  simp [ir_ppo_view_paired,go_sem,vwC,hfp,e1,e2,h1,h2,h,h',V.cells,V.exp]
end
def hgs (R:Nat→List Rt) (A:Nat→Nat→Nat) (x y:Ev):Bool:=hasW (R x.hart).length (A x.hart) x.at' y.at'
def r13 (R:Nat→List Rt) (A:Nat→Nat→Nat) (x y:Ev):Bool:=y.st && (List.range' (x.at'+1) (y.at' - (x.at'+1))).any fun k=>hasW (R x.hart).length (A x.hart) x.at' k
theorem lt3 {n:Nat} (h:n<3):n=0∨n=1∨n=2:=by omega
section
variable {t:Bool} {u:V} {lv av dv cv:Nat→V} {E:List Ev} {R:Nat→List Rt} {A D C:Nat→Nat→Nat} (w:Vw u lv av dv cv E R A D C)
include w
variable {a b:Nat} (ha:a<E.length) (hb:b<E.length)
include ha hb
theorem hangsA_ok:evI pg .val n_ppo_view_hangs [.ip t (vwC u lv av dv cv) 0,.fn n_ppo_byAddress [] [],.int .i64 (a:Int),.int .i64 (b:Int)] []=some (.bool (hgs R A E[a] E[b]),[]):=by
 have e1:=fun m=>w.ia ha m
 have e2:=fun m=>w.ia hb m
 have hfp:=w.fp
 obtain ⟨k1,k2⟩:=w.ok E[a] (List.getElem_mem _)
 have hr:=Has_ok (t:=false) (w.ad (E[a]).hart k1) ((E[a]).at':Int) ((E[b]).at':Int)
 have l0:=(w.li 0 (by omega)).1.is
 have l1:=(w.li 1 (by omega)).1.is
 have l2:=(w.li 2 (by omega)).1.is
 unfold hgs
 generalize E[a]=x at *
 generalize E[b]=y at *
 have hh:=evCq_hart x
 rcases lt3 k1 with h | h | h<;>rw [h] at hr hh ⊢ <;>
 ·have hc:∀ z:Nat,evI pg .val n_ppo_byAddress [.agg [lv z,.ip false [av z] 0,.ip false [dv z] 0,.ip false [cv z] 0]] []=some (.ip false [av z] 0,[]):=by
   intro z
   rw [s_fn fn_ppo_byAddress]
   simp [ir_ppo_byAddress,go_sem,V.cells,V.exp]
  rw [s_fn fn_ppo_view_hangs]
  simp [ir_ppo_view_hangs,go_sem,vwC,hfp,e1,e2,hr,hh,hc,l0,l1,l2,h,fpCv]
theorem hangsD_ok:evI pg .val n_ppo_view_hangs [.ip t (vwC u lv av dv cv) 0,.fn n_ppo_byData [] [],.int .i64 (a:Int),.int .i64 (b:Int)] []=some (.bool (hgs R D E[a] E[b]),[]):=by
 have e1:=fun m=>w.ia ha m
 have e2:=fun m=>w.ia hb m
 have hfp:=w.fp
 obtain ⟨k1,k2⟩:=w.ok E[a] (List.getElem_mem _)
 have hr:=Has_ok (t:=false) (w.da (E[a]).hart k1) ((E[a]).at':Int) ((E[b]).at':Int)
 have l0:=(w.li 0 (by omega)).1.is
 have l1:=(w.li 1 (by omega)).1.is
 have l2:=(w.li 2 (by omega)).1.is
 unfold hgs
 generalize E[a]=x at *
 generalize E[b]=y at *
 have hh:=evCq_hart x
 rcases lt3 k1 with h | h | h<;>rw [h] at hr hh ⊢ <;>
 ·have hc:∀ z:Nat,evI pg .val n_ppo_byData [.agg [lv z,.ip false [av z] 0,.ip false [dv z] 0,.ip false [cv z] 0]] []=some (.ip false [dv z] 0,[]):=by
   intro z
   rw [s_fn fn_ppo_byData]
   simp [ir_ppo_byData,go_sem,V.cells,V.exp]
  rw [s_fn fn_ppo_view_hangs]
  simp [ir_ppo_view_hangs,go_sem,vwC,hfp,e1,e2,hr,hh,hc,l0,l1,l2,h,fpCv]
theorem hangsC_ok:evI pg .val n_ppo_view_hangs [.ip t (vwC u lv av dv cv) 0,.fn n_ppo_byCourse [] [],.int .i64 (a:Int),.int .i64 (b:Int)] []=some (.bool (hgs R C E[a] E[b]),[]):=by
 have e1:=fun m=>w.ia ha m
 have e2:=fun m=>w.ia hb m
 have hfp:=w.fp
 obtain ⟨k1,k2⟩:=w.ok E[a] (List.getElem_mem _)
 have hr:=Has_ok (t:=false) (w.co (E[a]).hart k1) ((E[a]).at':Int) ((E[b]).at':Int)
 have l0:=(w.li 0 (by omega)).1.is
 have l1:=(w.li 1 (by omega)).1.is
 have l2:=(w.li 2 (by omega)).1.is
 unfold hgs
 generalize E[a]=x at *
 generalize E[b]=y at *
 have hh:=evCq_hart x
 rcases lt3 k1 with h | h | h<;>rw [h] at hr hh ⊢ <;>
 ·have hc:∀ z:Nat,evI pg .val n_ppo_byCourse [.agg [lv z,.ip false [av z] 0,.ip false [dv z] 0,.ip false [cv z] 0]] []=some (.ip false [cv z] 0,[]):=by
   intro z
   rw [s_fn fn_ppo_byCourse]
   simp [ir_ppo_byCourse,go_sem,V.cells,V.exp]
  rw [s_fn fn_ppo_view_hangs]
  simp [ir_ppo_view_hangs,go_sem,vwC,hfp,e1,e2,hr,hh,hc,l0,l1,l2,h,fpCv]
theorem rules4_ok:evI pg .val n_ppo_rules_4 [.ip t (vwC u lv av dv cv) 0,.int .i64 (a:Int),.int .i64 (b:Int)] []=some (.bool (hgs R A E[a] E[b]),[]):=by
 have h:=hangsA_ok (t:=t) w ha hb
 have l0:=(w.li 0 (by omega)).1.is
 generalize vwC u lv av dv cv=c at *
 rw [s_fn fn_ppo_rules_4]
 simp [ir_ppo_rules_4,go_sem,h]
theorem rules5_ok:evI pg .val n_ppo_rules_5 [.ip t (vwC u lv av dv cv) 0,.int .i64 (a:Int),.int .i64 (b:Int)] []=some (.bool (hgs R D E[a] E[b]),[]):=by
 have h:=hangsD_ok (t:=t) w ha hb
 generalize vwC u lv av dv cv=c at *
 rw [s_fn fn_ppo_rules_5]
 simp [ir_ppo_rules_5,go_sem,h]
theorem rules6_ok:evI pg .val n_ppo_rules_6 [.ip t (vwC u lv av dv cv) 0,.int .i64 (a:Int),.int .i64 (b:Int)] []=some (.bool ((E[b]).st && hgs R C E[a] E[b]),[]):=by
 have h:=hangsC_ok (t:=t) w ha hb
 have e2:=fun m=>w.ia hb m
 have h0:(vwC u lv av dv cv)[0]?=some u:=rfl
 have h0':∀ h:0<(vwC u lv av dv cv).length,(vwC u lv av dv cv)[0]=u:=fun _=>rfl
 generalize vwC u lv av dv cv=c at *
 generalize hgs R C E[a] E[b]=g at *
 generalize E[b]=y at *
 rw [s_fn fn_ppo_rules_6]
 cases q:y.st<;>simp only [Ev.st] at q<;>simp [ir_ppo_rules_6,go_sem,h,e2,h0,h0',q]
omit ha hb in
theorem known_loop {x y:Ev} (hx:x.hart<3) (hyl:y.at'≤512) (k:Nat) (hk:k≤y.at') (hk1:1≤k):
  evCI pg (.loop ir_ppo_view_knownl0) ⟨[.ip t (vwC u lv av dv cv) 0,.undef,.undef,.undef,.lp 0 0,.lp 1 0,.int .i64 (k:Int),.undef,.undef],⟨[evC x,evC y],[],[]⟩⟩ =
   some (if (y.st && (List.range' k (y.at' - k)).any fun k=>hasW (R x.hart).length (A x.hart) x.at' k)=true then (.ret,⟨[.undef,.undef,.undef,.bool true,.undef,.undef,.undef,.undef,.undef],⟨[[],[]],[],[]⟩⟩)
    else (.exit 0,⟨[.ip t (vwC u lv av dv cv) 0,.undef,.undef,.undef,.lp 0 0,.lp 1 0,.int .i64 ((if y.st=true then y.at' else k:Nat):Int),.bool false,.undef],⟨[evC x,evC y],[],[]⟩⟩)):=by
 obtain ⟨B,hB⟩:∃ B,B=Vm.C.loop ir_ppo_view_knownl0:=⟨_,rfl⟩
 by_cases c:k<y.at'
 ·have e3:=succ_i64 c (by omega)
  cases q:y.st with
  | false=>
   have q':=q
   simp only [Ev.st] at q'
   rw [← hB,s_loop_at hB]
   simp [ir_ppo_view_knownl0,go_sem,c,q']
  | true=>
   have q':=q
   simp only [Ev.st] at q'
   have ih:=known_loop hx hyl (k+1) (by omega) (by omega)
   rw [q] at ih
   have hr:=Has_ok (t:=false) (w.ad x.hart hx) (x.at':Int) (k:Int)
   have hd:List.range' k (y.at' - k)=k :: List.range' (k+1) (y.at' - (k+1)):=by
    have:y.at' - k=(y.at' - (k+1))+1:=by omega
    rw [this,List.range'_succ]
   rw [hd,List.any_cons]
   simp only [Bool.true_and,if_true] at ih ⊢
   rw [← hB] at ih
   rw [← hB,s_loop_at hB]
   have hh:=evCq_hart x
   rcases lt3 hx with h | h | h<;>rw [h] at hr hh ih ⊢ <;>
   ·cases g:hasW (R _).length (A _) x.at' k with
    | true=>
     rw [g] at hr
     simp [ir_ppo_view_knownl0,go_sem,vwC,c,q',hh,hr,h]
    | false=>
     rw [g] at hr
     rw [Bool.false_or,← ih]
     simp [ir_ppo_view_knownl0,go_sem,vwC,c,q',hh,hr,h,e3,-Int.natCast_add]
 ·obtain rfl:k=y.at':=by omega
  rw [← hB,s_loop_at hB,Nat.sub_self]
  simp [ir_ppo_view_knownl0,go_sem]
termination_by y.at' - k
end
def btw (E:List Ev) (a b:Nat):List Ev:=(E.take b).drop (a+1)
theorem btw_len {E:List Ev} {a b:Nat} (hb:b≤E.length):(btw E a b).length=b - (a+1):=by simp [btw]; omega
theorem btw_el {E:List Ev} {a b i:Nat} (h:i<(btw E a b).length) (h2:a+1+i<E.length):(btw E a b)[i]=E[a+1+i]:=by simp [btw]
def r12 (R:Nat→List Rt) (A D:Nat→Nat→Nat) (x y:Ev) (M:List Ev):Bool:=M.any fun m=>m.st && (retE y m.r.id && (hgs R A x m || hgs R D x m))
theorem i64_small {n:Int} (h:0≤n∧n≤100000):IntKind.i64.wrap n=n:=wrap_i64 (by omega) (by omega)
section
variable {t:Bool} {u:V} {lv av dv cv:Nat→V} {E:List Ev} {R:Nat→List Rt} {A D C:Nat→Nat→Nat} (w:Vw u lv av dv cv E R A D C)
include w
variable {a b:Nat} (hab:a<b) (hb:b<E.length)
include hab hb
theorem known_ok (hlt:(E[a]).at'<(E[b]).at'):evI pg .val n_ppo_view_known [.ip t (vwC u lv av dv cv) 0,.int .i64 (a:Int),.int .i64 (b:Int)] []=some (.bool (r13 R A E[a] E[b]),[]):=by
 have ha:a<E.length:=by omega
 have e1:=fun m=>w.ia ha m
 have e2:=fun m=>w.ia hb m
 have hfp:=w.fp
 obtain ⟨k1,k2⟩:=w.ok E[a] (List.getElem_mem _)
 obtain ⟨k3,k4⟩:=w.ok E[b] (List.getElem_mem _)
 have k5:=(w.li (E[b]).hart k3).2
 have hl:=known_loop (t:=t) w (x:=E[a]) (y:=E[b]) k1 (by omega) ((E[a]).at'+1) (by omega) (by omega)
 have ew:IntKind.i64.wrap (((E[a]).at':Int)+1)=(((E[a]).at'+1:Nat):Int):=by rw [i64_small (by omega)]; rfl
 unfold r13
 generalize E[a]=x at *
 generalize E[b]=y at *
 have h0:(vwC u lv av dv cv)[0]?=some u:=rfl
 have h0':∀ h:0<(vwC u lv av dv cv).length,(vwC u lv av dv cv)[0]=u:=fun _=>rfl
 generalize vwC u lv av dv cv=c at *
 rw [s_fn fn_ppo_view_known]
 by_cases q:(y.st && (List.range' (x.at'+1) (y.at' - (x.at'+1))).any fun k=>hasW (R x.hart).length (A x.hart) x.at' k)=true
 ·rw [if_pos q] at hl
  rw [q]
  simp [ir_ppo_view_known,go_sem,hfp,e1,e2,h0,h0',ew,hl,evStore,splice,V.cells,V.exp,-Int.natCast_add]
 ·rw [if_neg q] at hl
  rw [Bool.eq_false_iff.2 q]
  simp [ir_ppo_view_known,go_sem,hfp,e1,e2,h0,h0',ew,hl,evStore,splice,V.cells,V.exp,-Int.natCast_add]
theorem between_ok:∃ v,evI pg .val n_ppo_view_between [.ip t (vwC u lv av dv cv) 0,.int .i64 (a:Int),.int .i64 (b:Int)] []=some (v,[])∧Sl v (evR (btw E a b)):=by
 have hle:=w.le
 have ew:IntKind.i64.wrap ((a:Int)+1)=((a+1:Nat):Int):=by rw [i64_small (by omega)]; rfl
 obtain ⟨v,h1,h2⟩:=w.ev.slc (sz:=33) ⟨[],[],[]⟩ (some (.int .i64 ((a+1:Nat):Int))) (some (.int .i64 (b:Int))) (l:=a+1) (k:=b) (by decide) (evR_sz _) (by
  rw [evR_len]
  simp only [bnd,asNat]
  rw [if_pos (by omega)]
  simp only [Int.toNat_natCast]
  rw [if_pos (by omega)])
 have e:((evR E).take b).drop (a+1)=evR (btw E a b):=by simp [evR,btw,List.map_take,List.map_drop]
 rw [e] at h2
 refine ⟨v,?_,h2⟩
 have h0:(vwC u lv av dv cv)[0]?=some u:=rfl
 have h0':∀ h:0<(vwC u lv av dv cv).length,(vwC u lv av dv cv)[0]=u:=fun _=>rfl
 generalize vwC u lv av dv cv=c at *
 rw [s_fn fn_ppo_view_between]
 simp [ir_ppo_view_between,go_sem,h0,h0',ew,h1,h2.is,-Int.natCast_add]
theorem through_loop {bv:V} (hbv:Sl bv (evR (btw E a b))) (i:Nat) (hi:i≤(btw E a b).length):
  evCI pg (.loop ir_ppo_view_throughl0) ⟨[.ip t (vwC u lv av dv cv) 0,.int .i64 (a:Int),.int .i64 (b:Int),.undef,.undef,.undef,.undef,bv,.int .i64 ((btw E a b).length:Int),.int .i64 (i:Int),.undef,.undef],⟨[[]],[],[]⟩⟩ =
   some (if r12 R A D E[a] E[b] ((btw E a b).drop i)=true then (.ret,⟨[.undef,.undef,.undef,.bool true,.undef,.undef,.undef,.undef,.undef,.undef,.undef,.undef],⟨[[]],[],[]⟩⟩)
    else (.exit 0,⟨[.ip t (vwC u lv av dv cv) 0,.int .i64 (a:Int),.int .i64 (b:Int),.undef,.undef,.undef,.undef,bv,.int .i64 ((btw E a b).length:Int),.int .i64 ((btw E a b).length:Int),.bool false,.undef],⟨[[]],[],[]⟩⟩)):=by
 obtain ⟨B,hB⟩:∃ B,B=Vm.C.loop ir_ppo_view_throughl0:=⟨_,rfl⟩
 have hle:=w.le
 have hbl:=btw_len (E:=E) (a:=a) (b:=b) (by omega)
 by_cases c:i<(btw E a b).length
 ·have hk:a+1+i<E.length:=by omega
  have ha:a<E.length:=by omega
  have e3:=succ_i64 c (by omega)
  have e1:=fun m=>hbv.ia (sz:=33) m .i64 (i:=i) (by rw [evR_len]; exact c) (evR_sz _ _ (List.getElem_mem _))
  simp only [evR_el] at e1
  have e2:=fun m=>w.ia hb m
  have hfp:=w.fp
  have ew:IntKind.i64.wrap ((a:Int)+1)=((a+1:Nat):Int):=by rw [i64_small (by omega)]; rfl
  have ew2:IntKind.i64.wrap (((a+1:Nat):Int)+(i:Int))=((a+1+i:Nat):Int):=by rw [i64_small (by omega)]; rfl
  have hA:=hangsA_ok (t:=t) w ha hk
  have hD:=hangsD_ok (t:=t) w ha hk
  have hre:=returns_ok E[b] (E[a+1+i]).r.id
  have hel:=btw_el c hk
  have ih:=through_loop hbv (i+1) (by omega)
  rw [List.drop_eq_getElem_cons c]
  unfold r12 at ih ⊢
  rw [List.any_cons]
  rw [hel] at e1 ⊢
  have h0:(vwC u lv av dv cv)[0]?=some u:=rfl
  have h0':∀ h:0<(vwC u lv av dv cv).length,(vwC u lv av dv cv)[0]=u:=fun _=>rfl
  rw [← hB] at ih
  rw [← hB,s_loop_at hB]
  clear hel
  generalize vwC u lv av dv cv=cc at *
  generalize E[a+1+i]=m at *
  generalize hgs R A E[a] m=g1 at *
  generalize hgs R D E[a] m=g2 at *
  generalize E[b]=y at *
  rcases hq:(m.st && (retE y m.r.id && (g1 || g2))) with _ | _
  ·rw [Bool.false_or,← ih]
   cases q1:m.st with
   | false=>
    simp only [Ev.st] at q1
    simp [ir_ppo_view_throughl0,go_sem,hbv.is,c,e1,e2,e3,ew,ew2,q1,evStore,splice,V.cells,V.exp,-Int.natCast_add]
   | true=>
    cases q2:retE y m.r.id with
    | false=>
     rw [q2] at hre
     simp only [Ev.st] at q1
     simp [ir_ppo_view_throughl0,go_sem,hbv.is,c,e1,e2,e3,ew,ew2,q1,hre,hfp,h0,h0',evStore,splice,V.cells,V.exp,-Int.natCast_add]
    | true=>
     rw [q2] at hre
     rw [q1,q2] at hq
     simp only [Bool.true_and,Bool.or_eq_false_iff] at hq
     rw [hq.1] at hA
     rw [hq.2] at hD
     simp only [Ev.st] at q1
     simp [ir_ppo_view_throughl0,go_sem,hbv.is,c,e1,e2,e3,ew,ew2,q1,hre,hfp,h0,h0',hA,hD,evStore,splice,V.cells,V.exp,-Int.natCast_add]
  ·rw [Bool.true_or,if_pos rfl]
   simp only [Bool.and_eq_true,Ev.st] at hq
   obtain ⟨q1,q2,q3⟩:=hq
   rw [q2] at hre
   cases g1 with
   | true=>simp [ir_ppo_view_throughl0,go_sem,hbv.is,c,e1,e2,e3,ew,ew2,q1,hre,hfp,h0,h0',hA,hD,evStore,splice,V.cells,V.exp,-Int.natCast_add]
   | false=>
    rw [Bool.false_or] at q3
    rw [q3] at hD
    simp [ir_ppo_view_throughl0,go_sem,hbv.is,c,e1,e2,e3,ew,ew2,q1,hre,hfp,h0,h0',hA,hD,evStore,splice,V.cells,V.exp,-Int.natCast_add]
 ·obtain rfl:i=(btw E a b).length:=by omega
  rw [← hB,s_loop_at hB,List.drop_length]
  simp [ir_ppo_view_throughl0,go_sem,r12]
termination_by (btw E a b).length - i
theorem through_ok:evI pg .val n_ppo_view_through [.ip t (vwC u lv av dv cv) 0,.int .i64 (a:Int),.int .i64 (b:Int)] []=some (.bool (r12 R A D E[a] E[b] (btw E a b)),[]):=by
 obtain ⟨v,h1,h2⟩:=between_ok (t:=t) w hab hb
 have hl:=through_loop (t:=t) w hab hb h2 0 (by omega)
 rw [List.drop_zero,Int.natCast_zero] at hl
 have hlv:(rows v).length=(btw E a b).length:=by rw [h2.rows,evR_len]
 generalize vwC u lv av dv cv=c at *
 rw [s_fn fn_ppo_view_through]
 by_cases q:r12 R A D E[a] E[b] (btw E a b)=true
 ·rw [if_pos q] at hl
  rw [q]
  simp [ir_ppo_view_through,go_sem,h1,h2.is,hlv,hl]
 ·rw [if_neg q] at hl
  rw [Bool.eq_false_iff.2 q]
  simp [ir_ppo_view_through,go_sem,h1,h2.is,hlv,hl]
end
theorem rC_in' (r:Rt):List.take 9 (rC r).tail=inV r.ins:=rfl
attribute [go_sem] rC_in'
def fnc (x y:Ev) (f:Rt):Bool:=decide (srtO f.ins.op=8) && (decide (f.cause=0) && ordE f.ins x y)
def r4 (R:Nat→List Rt) (x y:Ev):Bool:=(((R x.hart).take y.at').drop (x.at'+1)).any (fnc x y)
theorem fenced_loop {fv:V} {F:List Rt} (hv:Sl fv (rwR F)) (hF:F.length≤512) (x y:Ev) (i:Nat) (hi:i≤F.length):
  evCI pg (.loop ir_ppo_view_fencedl0) ⟨[.undef,.undef,.undef,.undef,.lp 0 0,.lp 1 0,.undef,fv,.int .i64 (F.length:Int),.int .i64 (i:Int),.undef,.undef],⟨[evC x,evC y,[]],[],[]⟩⟩ =
   some (if (F.drop i).any (fnc x y)=true then (.ret,⟨[.undef,.undef,.undef,.bool true,.undef,.undef,.undef,.undef,.undef,.undef,.undef,.undef],⟨[[],[],[]],[],[]⟩⟩)
    else (.exit 0,⟨[.undef,.undef,.undef,.undef,.lp 0 0,.lp 1 0,.undef,fv,.int .i64 (F.length:Int),.int .i64 (F.length:Int),.bool false,.undef],⟨[evC x,evC y,[]],[],[]⟩⟩)):=by
 obtain ⟨B,hB⟩:∃ B,B=Vm.C.loop ir_ppo_view_fencedl0:=⟨_,rfl⟩
 by_cases c:i<F.length
 ·have e3:=succ_i64 c (by omega)
  have e1:=fun m=>hv.ia (sz:=27) m .i64 (i:=i) (by rw [rwR_len]; exact c) (rwR_sz _ _ (List.getElem_mem _))
  simp only [rwR_el] at e1
  have hs:=SortO (F[i]).ins.op
  have ho:=orders_ok (F[i]).ins x y
  have ih:=fenced_loop hv hF x y (i+1) (by omega)
  rw [List.drop_eq_getElem_cons c,List.any_cons]
  rw [← hB] at ih
  rw [← hB,s_loop_at hB]
  generalize F[i]=f at *
  have hf:fnc x y f=(decide (srtO f.ins.op=8) && (decide (f.cause=0) && ordE f.ins x y)):=rfl
  rw [hf]
  by_cases c1:srtO f.ins.op=8
  ·rw [c1] at hs
   by_cases c2:f.cause=0
   ·cases c3:ordE f.ins x y with
    | true=>
     rw [c3] at ho
     simp [ir_ppo_view_fencedl0,go_sem,hv.is,c,e1,e3,hs,ho,c1,c2,evStore,splice,V.cells,V.exp]
    | false=>
     rw [c3] at ho
     rw [decide_eq_true c1,decide_eq_true c2,Bool.and_false,Bool.and_false,Bool.false_or,← ih]
     simp [ir_ppo_view_fencedl0,go_sem,hv.is,c,e1,e3,hs,ho,c1,c2,evStore,splice,V.cells,V.exp,-Int.natCast_add]
   ·rw [decide_eq_false c2,Bool.false_and,Bool.and_false,Bool.false_or,← ih]
    simp [ir_ppo_view_fencedl0,go_sem,hv.is,c,e1,e3,hs,c1,c2,evStore,splice,V.cells,V.exp,-Int.natCast_add]
  ·have c1':¬ ((srtO f.ins.op:Nat):Int)=8:=by omega
   rw [decide_eq_false c1,Bool.false_and,Bool.false_or,← ih]
   simp [ir_ppo_view_fencedl0,go_sem,hv.is,c,e1,e3,hs,c1,c1',evStore,splice,V.cells,V.exp,-Int.natCast_add]
 ·obtain rfl:i=F.length:=by omega
  rw [← hB,s_loop_at hB,List.drop_length]
  simp [ir_ppo_view_fencedl0,go_sem,hv.is]
termination_by F.length - i
section
variable {t:Bool} {u:V} {lv av dv cv:Nat→V} {E:List Ev} {R:Nat→List Rt} {A D C:Nat→Nat→Nat} (w:Vw u lv av dv cv E R A D C)
include w
variable {a b:Nat} (hab:a<b) (hb:b<E.length)
include hab hb
theorem fenced_ok (hh:(E[a]).hart=(E[b]).hart) (hlt:(E[a]).at'<(E[b]).at'):evI pg .val n_ppo_view_fenced [.ip t (vwC u lv av dv cv) 0,.int .i64 (a:Int),.int .i64 (b:Int)] []=some (.bool (r4 R E[a] E[b]),[]):=by
 have ha:a<E.length:=by omega
 have e1:=fun m=>w.ia ha m
 have e2:=fun m=>w.ia hb m
 have hfp:=w.fp
 obtain ⟨k1,k2⟩:=w.ok E[a] (List.getElem_mem _)
 obtain ⟨k3,k4⟩:=w.ok E[b] (List.getElem_mem _)
 obtain ⟨k6,k5⟩:=w.li (E[a]).hart k1
 rw [← hh] at k4
 have ew:IntKind.i64.wrap (((E[a]).at':Int)+1)=(((E[a]).at'+1:Nat):Int):=by rw [i64_small (by omega)]; rfl
 obtain ⟨fv,h1,h2⟩:=k6.slc (sz:=27) ⟨[evC E[a],evC E[b],[]],[],[]⟩ (some (.int .i64 (((E[a]).at'+1:Nat):Int))) (some (.int .i64 ((E[b]).at':Int))) (l:=(E[a]).at'+1) (k:=(E[b]).at') (by decide) (rwR_sz _) (by
  rw [rwR_len]
  simp only [bnd,asNat]
  rw [if_pos (by omega)]
  simp only [Int.toNat_natCast]
  rw [if_pos (by omega)])
 have e:((rwR (R (E[a]).hart)).take (E[b]).at').drop ((E[a]).at'+1)=rwR (((R (E[a]).hart).take (E[b]).at').drop ((E[a]).at'+1)):=by simp [rwR,List.map_take,List.map_drop]
 rw [e] at h2
 have hFl:(((R (E[a]).hart).take (E[b]).at').drop ((E[a]).at'+1)).length≤512:=by simp; omega
 have hl:=fenced_loop h2 hFl E[a] E[b] 0 (by omega)
 rw [List.drop_zero,Int.natCast_zero] at hl
 unfold r4
 have hrl:(rows fv).length=(((R (E[a]).hart).take (E[b]).at').drop ((E[a]).at'+1)).length:=by rw [h2.rows,rwR_len]
 have hfi:=h2.is
 clear e k2 k4
 generalize ((R (E[a]).hart).take (E[b]).at').drop ((E[a]).at'+1)=F at *
 generalize E[a]=x at *
 generalize E[b]=y at *
 have hq:=evCq_hart x
 rw [s_fn fn_ppo_view_fenced]
 by_cases q:F.any (fnc x y)=true
 ·rw [if_pos q] at hl
  rw [q]
  rcases lt3 k1 with h | h | h<;>rw [h] at hq h1 k6<;>simp [ir_ppo_view_fenced,go_sem,vwC,hfp,e1,e2,hq,h,ew,h1,hfi,hrl,hl,k6.is,k6.fpR,evStore,splice,V.cells,V.exp,-Int.natCast_add]
 ·rw [if_neg q] at hl
  rw [Bool.eq_false_iff.2 q]
  rcases lt3 k1 with h | h | h<;>rw [h] at hq h1 k6<;>simp [ir_ppo_view_fenced,go_sem,vwC,hfp,e1,e2,hq,h,ew,h1,hfi,hrl,hl,k6.is,k6.fpR,evStore,splice,V.cells,V.exp,-Int.natCast_add]
end
end Go.Proofs.YtimiademofajeaaGreatDoor
