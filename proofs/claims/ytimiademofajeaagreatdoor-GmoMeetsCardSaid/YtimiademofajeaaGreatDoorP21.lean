/- Lemmas (no claim): K23f, K23g. -/
import Derived.Test.YtimiademofajeaaGreatDoorP20
set_option linter.unusedSimpArgs false
set_option linter.unusedVariables false
set_option maxRecDepth 20000
namespace Go.Proofs.YtimiademofajeaaGreatDoor
open Go Go.Vm
theorem gbst_t {c:Nat→Bool} {p:Nat→Int} {k:Nat} (h:c k=true):gbst c p (k+1)=match gbst c p k with
  | none=>some k
  | some m=>if p m<p k then some k else some m:=by
 show (if c k=true then _ else _)=_
 rw [if_pos h]
 rfl
theorem gbst_f {c:Nat→Bool} {p:Nat→Int} {k:Nat} (h:c k=false):gbst c p (k+1)=gbst c p k:=by
 show (if c k=true then _ else _)=_
 rw [if_neg (by rw [h]; simp)]
section
variable {x0:V} {lv:Nat→V} {x4 u:V} {R:Nat→List Rt} {img:List Nat} {cv:List V} {co:List (List Int)} (w:Lk x0 lv x4 u R img cv co)
 {H:List Vm.Obj} {p mid:Nat} {l:List (Int × V)} {cs:V} {cm:Nat→Nat} {cl:Nat→List (Int × V)} (gv:GV H p mid l cs cm cl x0 lv x4 u (evs R) co) (hE:(evs R).length≤512)
include w gv hE
set_option maxHeartbeats 4000000 in
theorem latest_l0 {q:Nat} {h:Nat→Int} (hq:H[q]?=some (.arr (nR (evs R).length h))) {i:Nat} (hi:i<(evs R).length) (k x:Nat) (hx:x≤100000) (s:Nat) (hs:s≤(evs R).length):
  evCI pg (.loop ir_gmo_view_latestl0) ⟨[.ptr p 0 0,.rsl q 0 (evs R).length,.int .i64 (i:Int),.int .i64 (k:Int),.undef,.int .i64 (x:Int),.int .i64 (fdn (gbst ((gmOf (evs R) co).cand h i x) h s)),.undef,.undef,.undef,.int .i64 ((evs R).length:Int),.int .i64 (s:Int),.undef,.undef,.undef,.undef],⟨[],[],H⟩⟩=some (.exit 0,⟨[.ptr p 0 0,.rsl q 0 (evs R).length,.int .i64 (i:Int),.int .i64 (k:Int),.undef,.int .i64 (x:Int),.int .i64 (fdn (gbst ((gmOf (evs R) co).cand h i x) h (evs R).length)),.undef,.undef,.undef,.int .i64 ((evs R).length:Int),.int .i64 ((evs R).length:Int),.bool false,.undef,.undef,.undef],⟨[],[],H⟩⟩):=by
 obtain ⟨B,hB⟩:∃ B,B=Vm.C.loop ir_gmo_view_latestl0:=⟨_,rfl⟩
 have hql:=get_lt hq
 have hqe:=get_el hq
 by_cases c:s<(evs R).length
 ·have e3:=succ_i64 c (by omega)
  have cI:(s:Int)<((evs R).length:Int):=by omega
  have hst:=stores_ok w gv c x hx
  have hah:=ahead_ok w gv c hi
  have hgl:=nR_len (evs R).length h
  have g1:=nR_get h c
  have gl1:s<(nR (evs R).length h).length:=by omega
  have ge1:=nR_el (evs R).length h _ gl1
  have g2:=nR_get h hi
  have gl2:i<(nR (evs R).length h).length:=by omega
  have ge2:=nR_el (evs R).length h _ gl2
  have hcd:(gmOf (evs R) co).cand h i x s=(!decide (s=i) && ((gmOf (evs R) co).st s x && (decide (h s≤h i) || (gmOf (evs R) co).ah s i))):=rfl
  have ih:=latest_l0 hq hi k x hx (s+1) (by omega)
  have hbm:∀ m,gbst ((gmOf (evs R) co).cand h i x) h s=some m→m<(evs R).length∧(nR (evs R).length h)[m]?=some [.int .i64 (h m)]∧m<(nR (evs R).length h).length∧∀ ql:m<(nR (evs R).length h).length,(nR (evs R).length h)[m]=[.int .i64 (h m)]:=by
   intro m hm
   have h1:=(gbst_some hm).1
   have h2:m<(evs R).length:=by omega
   exact ⟨h2,nR_get h h2,by omega,fun ql=>nR_el _ h _ ql⟩
  have fn0:fdn none=-1:=rfl
  have fns:∀ j,fdn (some j)=(j:Int):=fun j=>rfl
  by_cases d1:s=i
  ·have hcf:(gmOf (evs R) co).cand h i x s=false:=by rw [hcd,decide_eq_true d1]; rfl
   rw [gbst_f hcf] at ih
   rw [← ih,← hB]
   conv=>lhs; rw [s_loop_at hB]
   clear ih hbm hcd hcf gv w
   generalize fdn (gbst ((gmOf (evs R) co).cand h i x) h s)=bv at *
   generalize (evs R).length=n at *
   subst d1
   simp [ir_gmo_view_latestl0,go_sem,c,cI,hq,hql,hqe,hst,e3,asIx_nat,hgl,hi,c,g1,gl1,ge1,g2,gl2,ge2,-Int.natCast_add]
  ·have d1':¬ (s:Int)=(i:Int):=by omega
   cases d2:(gmOf (evs R) co).st s x with
   | false=>
    have hcf:(gmOf (evs R) co).cand h i x s=false:=by rw [hcd,d2,Bool.false_and,Bool.and_false]
    rw [d2] at hst
    rw [gbst_f hcf] at ih
    rw [← ih,← hB]
    conv=>lhs; rw [s_loop_at hB]
    clear ih hbm hcd hcf gv w
    generalize fdn (gbst ((gmOf (evs R) co).cand h i x) h s)=bv at *
    generalize (evs R).length=n at *
    simp [ir_gmo_view_latestl0,go_sem,c,cI,hq,hql,hqe,hst,e3,asIx_nat,hgl,hi,c,g1,gl1,ge1,g2,gl2,ge2,d1,d1',-Int.natCast_add]
   | true=>
    rw [d2] at hst hcd
    rw [decide_eq_false d1,Bool.not_false,Bool.true_and,Bool.true_and] at hcd
    cases d3:(gmOf (evs R) co).ah s i with
    | false=>
     rw [d3] at hah hcd
     by_cases d4:h i<h s
     ·rw [decide_eq_false (by omega),Bool.or_false] at hcd
      rw [gbst_f hcd] at ih
      rw [← ih,← hB]
      conv=>lhs; rw [s_loop_at hB]
      clear ih hbm hcd gv w
      generalize fdn (gbst ((gmOf (evs R) co).cand h i x) h s)=bv at *
      generalize nR (evs R).length h=ar at *
      generalize (evs R).length=n at *
      generalize h i=vi at *
      generalize h s=vs at *
      simp [ir_gmo_view_latestl0,go_sem,c,cI,hq,hql,hqe,hst,e3,asIx_nat,hgl,hi,c,g1,gl1,ge1,g2,gl2,ge2,d1,d1',d4,hah,-Int.natCast_add]
     ·rw [decide_eq_true (by omega),Bool.true_or] at hcd
      have hg:=gbst_t (p:=h) hcd
      cases hbv:gbst ((gmOf (evs R) co).cand h i x) h s with
      | none=>
       rw [hbv] at hg
       simp only at hg
       rw [hg,fns] at ih
       rw [← ih,← hB,fn0]
       conv=>lhs; rw [s_loop_at hB]
       clear ih hbm hcd gv w hg hbv
       generalize nR (evs R).length h=ar at *
       generalize (evs R).length=n at *
       generalize h i=vi at *
       generalize h s=vs at *
       simp [ir_gmo_view_latestl0,go_sem,c,cI,hq,hql,hqe,hst,e3,asIx_nat,hgl,hi,c,g1,gl1,ge1,g2,gl2,ge2,d1,d1',d4,hah,-Int.natCast_add]
      | some m=>
       obtain ⟨m1,m2,m3,m4⟩:=hbm m hbv
       have m0:¬ (m:Int)<0:=by omega
       rw [hbv] at hg
       simp only at hg
       by_cases d5:h m<h s
       ·rw [if_pos d5] at hg
        rw [hg,fns] at ih
        rw [← ih,← hB,fns]
        conv=>lhs; rw [s_loop_at hB]
        clear ih hbm hcd gv w hg hbv
        generalize nR (evs R).length h=ar at *
        generalize (evs R).length=n at *
        generalize h i=vi at *
        generalize h s=vs at *
        generalize h m=vm at *
        simp [ir_gmo_view_latestl0,go_sem,c,cI,hq,hql,hqe,hst,e3,asIx_nat,hgl,hi,c,g1,gl1,ge1,g2,gl2,ge2,d1,d1',d4,hah,m0,m1,m2,m3,m4,d5,-Int.natCast_add]
       ·rw [if_neg d5] at hg
        rw [hg,fns] at ih
        rw [← ih,← hB,fns]
        conv=>lhs; rw [s_loop_at hB]
        clear ih hbm hcd gv w hg hbv
        generalize nR (evs R).length h=ar at *
        generalize (evs R).length=n at *
        generalize h i=vi at *
        generalize h s=vs at *
        generalize h m=vm at *
        simp [ir_gmo_view_latestl0,go_sem,c,cI,hq,hql,hqe,hst,e3,asIx_nat,hgl,hi,c,g1,gl1,ge1,g2,gl2,ge2,d1,d1',d4,hah,m0,m1,m2,m3,m4,d5,-Int.natCast_add]
    | true=>
     rw [d3] at hah hcd
     rw [Bool.or_true] at hcd
     have hg:=gbst_t (p:=h) hcd
     by_cases d4:h i<h s
     all_goals
      cases hbv:gbst ((gmOf (evs R) co).cand h i x) h s with
      | none=>
       rw [hbv] at hg
       simp only at hg
       rw [hg,fns] at ih
       rw [← ih,← hB,fn0]
       conv=>lhs; rw [s_loop_at hB]
       clear ih hbm hcd gv w hg hbv
       generalize nR (evs R).length h=ar at *
       generalize (evs R).length=n at *
       generalize h i=vi at *
       generalize h s=vs at *
       simp [ir_gmo_view_latestl0,go_sem,c,cI,hq,hql,hqe,hst,e3,asIx_nat,hgl,hi,c,g1,gl1,ge1,g2,gl2,ge2,d1,d1',d4,hah,-Int.natCast_add]
      | some m=>
       obtain ⟨m1,m2,m3,m4⟩:=hbm m hbv
       have m0:¬ (m:Int)<0:=by omega
       rw [hbv] at hg
       simp only at hg
       by_cases d5:h m<h s
       ·rw [if_pos d5] at hg
        rw [hg,fns] at ih
        rw [← ih,← hB,fns]
        conv=>lhs; rw [s_loop_at hB]
        clear ih hbm hcd gv w hg hbv
        generalize nR (evs R).length h=ar at *
        generalize (evs R).length=n at *
        generalize h i=vi at *
        generalize h s=vs at *
        generalize h m=vm at *
        simp [ir_gmo_view_latestl0,go_sem,c,cI,hq,hql,hqe,hst,e3,asIx_nat,hgl,hi,c,g1,gl1,ge1,g2,gl2,ge2,d1,d1',d4,hah,m0,m1,m2,m3,m4,d5,-Int.natCast_add]
       ·rw [if_neg d5] at hg
        rw [hg,fns] at ih
        rw [← ih,← hB,fns]
        conv=>lhs; rw [s_loop_at hB]
        clear ih hbm hcd gv w hg hbv
        generalize nR (evs R).length h=ar at *
        generalize (evs R).length=n at *
        generalize h i=vi at *
        generalize h s=vs at *
        generalize h m=vm at *
        simp [ir_gmo_view_latestl0,go_sem,c,cI,hq,hql,hqe,hst,e3,asIx_nat,hgl,hi,c,g1,gl1,ge1,g2,gl2,ge2,d1,d1',d4,hah,m0,m1,m2,m3,m4,d5,-Int.natCast_add]
 ·obtain rfl:s=(evs R).length:=by omega
  rw [← hB,s_loop_at hB]
  generalize fdn (gbst ((gmOf (evs R) co).cand h i x) h (evs R).length)=bv at *
  simp [ir_gmo_view_latestl0,go_sem]
termination_by (evs R).length - s
theorem latest_ok {q:Nat} {h:Nat→Int} (hq:H[q]?=some (.arr (nR (evs R).length h))) {i:Nat} (hi:i<(evs R).length) (had:0≤adE ((evs R)[i]).r) {k:Nat} (hk:k<8):
  evI pg .heap n_gmo_view_latest [.ptr p 0 0,.rsl q 0 (evs R).length,.int .i64 (i:Int),.int .i64 (k:Int)] H=some (.bool ((gmOf (evs R) co).lat h i k),H):=by
 have hob:=gv.ob
 simp only [gC] at hob
 have hpl:=get_lt hob
 have hoe:=get_el hob
 have hb:=evs_bd (R:=R) fun h hh=>(w.li h hh).2.1
 have iu:=w.ev.is
 have huf:=w.ev.fpR
 have hur:(rows u).length=(evs R).length:=by rw [w.ev.rows,evR_len]
 have e1:=fun m=>w.ev.ia (sz:=33) m .i64 (i:=i) (by rw [evR_len]; exact hi) (evR_sz _ _ (List.getElem_mem _))
 simp only [evR_el] at e1
 have hale:=adE_le (hb _ (List.getElem_mem hi)).ad.1
 obtain ⟨a,ha⟩:∃ a:Nat,adE ((evs R)[i]).r=(a:Int):=⟨_,(Int.toNat_of_nonneg had).symm⟩
 have hga:(gmOf (evs R) co).ad i=a:=by
  show ofE _ _ _ i=_
  rw [ofE_el hi,ha,Int.toNat_natCast]
 have ew:IntKind.i64.wrap ((a:Int)+(k:Int))=((a+k:Nat):Int):=by rw [wrap_i64 (by omega) (by omega)]; rfl
 have hl0:=latest_l0 w gv hE hq hi k (a+k) (by omega) 0 (Nat.zero_le _)
 have fn0:fdn none=-1:=rfl
 have fns:∀ j,fdn (some j)=(j:Int):=fun j=>rfl
 have hg0:gbst ((gmOf (evs R) co).cand h i (a+k)) h 0=none:=rfl
 rw [hg0,fn0,Int.natCast_zero] at hl0
 have hnm:=named_ok gv (((evs R)[i]).r.tg k)
 have ht:=evC_tgq (evs R)[i] hk
 have ht':=get_all ht
 have k8:(k:Int)<8:=by omega
 have k7:k≤7:=by omega
 have k28:20+k<33:=by omega
 have htg:(gmOf (evs R) co).tgt i k=if ((evs R)[i]).r.tg k=-1 then none else some (at1 (evs R) (((evs R)[i]).r.tg k)):=by
  show ofE _ _ _ i=_
  rw [ofE_el hi]
 have hdef:(gmOf (evs R) co).lat h i k=match (gmOf (evs R) co).tgt i k with
  | none=>decide (gbst ((gmOf (evs R) co).cand h i (a+k)) h (evs R).length=none)
  | some w=>decide (gbst ((gmOf (evs R) co).cand h i (a+k)) h (evs R).length=some w):=by
  rw [← hga]; rfl
 rw [hdef,htg,s_fn fn_gmo_view_latest]
 clear hdef htg hga hg0 hb
 generalize (evs R)[i]=e at *
 generalize at1 (evs R) (e.r.tg k)=wt at *
 generalize gbst ((gmOf (evs R) co).cand h i (a+k)) h (evs R).length=bv at *
 generalize (evs R).length=n at *
 by_cases c:e.r.tg k=-1
 ·rw [c] at hnm ht ht' ⊢
  simp only [if_true] at hnm ⊢
  cases bv with
  | none=>
   rw [fn0] at hl0
   simp [ir_gmo_view_latest,go_sem,hob,hpl,hoe,iu,huf,hur,e1,ha,ew,hl0,hnm,ht,ht',k8,k7,k28,hk,-Int.natCast_add]
  | some m=>
   rw [fns] at hl0
   have m0:¬ (m:Int)<0:=by omega
   simp [ir_gmo_view_latest,go_sem,hob,hpl,hoe,iu,huf,hur,e1,ha,ew,hl0,hnm,ht,ht',k8,k7,k28,hk,m0,-Int.natCast_add]
 ·rw [if_neg c] at hnm ⊢
  rw [decide_eq_true c] at hnm
  simp only
  cases bv with
  | none=>
   rw [fn0] at hl0
   have m0:¬ (-1:Int)=(wt:Int):=by omega
   simp [ir_gmo_view_latest,go_sem,hob,hpl,hoe,iu,huf,hur,e1,ha,ew,hl0,hnm,ht,ht',k8,k7,k28,hk,m0,-Int.natCast_add]
  | some m=>
   rw [fns] at hl0
   by_cases d:m=wt
   ·simp [ir_gmo_view_latest,go_sem,hob,hpl,hoe,iu,huf,hur,e1,ha,ew,hl0,hnm,ht,ht',k8,k7,k28,hk,d,-Int.natCast_add]
   ·have d':¬ (m:Int)=(wt:Int):=by omega
    simp [ir_gmo_view_latest,go_sem,hob,hpl,hoe,iu,huf,hur,e1,ha,ew,hl0,hnm,ht,ht',k8,k7,k28,hk,d,d',-Int.natCast_add]
end
end Go.Proofs.YtimiademofajeaaGreatDoor
namespace Go.Proofs.YtimiademofajeaaGreatDoor
open Go Go.Vm
theorem all_any (n:Nat) (f:Nat→Bool):(List.range n).all (fun s=>!f s)=!(List.range' 0 (n - 0)).any f:=by
 rw [Nat.sub_zero,← List.range_eq_range']
 generalize List.range n=l
 induction l with
 | nil=>rfl
 | cons a l ih=>rw [List.all_cons,List.any_cons,ih,Bool.not_or]
def atB (g:Gm) (i x:Nat) (fr:Int) (pl:Nat→Int) (s:Nat):Bool:=g.st s x && (!decide (g.hart s=g.hart i) && (decide (fr<pl s) && decide (pl s<pl i)))
section
variable {x0:V} {lv:Nat→V} {x4 u:V} {R:Nat→List Rt} {img:List Nat} {cv:List V} {co:List (List Int)} (w:Lk x0 lv x4 u R img cv co)
 {H:List Vm.Obj} {p mid:Nat} {l:List (Int × V)} {cs:V} {cm:Nat→Nat} {cl:Nat→List (Int × V)} (gv:GV H p mid l cs cm cl x0 lv x4 u (evs R) co) (hE:(evs R).length≤512)
include w gv hE
theorem atomic_l0 {F:Nat} {cc:V} (hcc:cc.exp=some cc) {x:Nat} (hx:x≤100000) {pl:Nat→Int} (hP:∀ s,s<(evs R).length→evI pg .heap F [.int .i64 (x:Int),.int .i64 (s:Int),cc] H=some (.int .i64 (pl s),H)) {i:Nat} (hi:i<(evs R).length) (fr:Int) (s:Nat) (hs:s≤(evs R).length):
  evCI pg (.loop ir_gmo_view_atomicl0) ⟨[.ptr p 0 0,.int .i64 (i:Int),.undef,.fn F [] [cc],.undef,.undef,.undef,.int .i64 (x:Int),.int .i64 fr,.undef,.undef,.undef,.undef,.undef,.undef,.int .i64 ((evs R).length:Int),.int .i64 (s:Int),.undef,.undef],⟨[],[],H⟩⟩ =
   some (if (List.range' s ((evs R).length - s)).any (atB (gmOf (evs R) co) i x fr pl)=true then (.ret,⟨[.undef,.undef,.undef,.undef,.bool false,.undef,.undef,.undef,.undef,.undef,.undef,.undef,.undef,.undef,.undef,.undef,.undef,.undef,.undef],⟨[],[],H⟩⟩)
    else (.exit 0,⟨[.ptr p 0 0,.int .i64 (i:Int),.undef,.fn F [] [cc],.undef,.undef,.undef,.int .i64 (x:Int),.int .i64 fr,.undef,.undef,.undef,.undef,.undef,.undef,.int .i64 ((evs R).length:Int),.int .i64 ((evs R).length:Int),.bool false,.undef],⟨[],[],H⟩⟩)):=by
 obtain ⟨B,hB⟩:∃ B,B=Vm.C.loop ir_gmo_view_atomicl0:=⟨_,rfl⟩
 by_cases c:s<(evs R).length
 ·have e3:=succ_i64 c (by omega)
  have cI:(s:Int)<((evs R).length:Int):=by omega
  have hob:=gv.ob
  simp only [gC] at hob
  have hpl:=get_lt hob
  have hoe:=get_el hob
  have iu:=w.ev.is
  have huf:=w.ev.fpR
  have e1:=fun m=>w.ev.ia (sz:=33) m .i64 (i:=i) (by rw [evR_len]; exact hi) (evR_sz _ _ (List.getElem_mem _))
  have e2:=fun m=>w.ev.ia (sz:=33) m .i64 (i:=s) (by rw [evR_len]; exact c) (evR_sz _ _ (List.getElem_mem _))
  simp only [evR_el] at e1 e2
  have hst:=stores_ok w gv c x hx
  have hps:=hP s c
  have hpi:=hP i hi
  have hd:List.range' s ((evs R).length - s)=s :: List.range' (s+1) ((evs R).length - (s+1)):=by
   have:(evs R).length - s=((evs R).length - (s+1))+1:=by omega
   rw [this,List.range'_succ]
  have hdef:atB (gmOf (evs R) co) i x fr pl s=((gmOf (evs R) co).st s x && (!decide (((evs R)[s]).hart=((evs R)[i]).hart) && (decide (fr<pl s) && decide (pl s<pl i)))):=by
   have h1:(gmOf (evs R) co).hart s=((evs R)[s]).hart:=by
    show ofE _ _ _ s=_
    rw [ofE_el c]
   have h2:(gmOf (evs R) co).hart i=((evs R)[i]).hart:=by
    show ofE _ _ _ i=_
    rw [ofE_el hi]
   unfold atB
   rw [h1,h2]
  have ih:=atomic_l0 hcc hx hP hi fr (s+1) (by omega)
  rw [hd,List.any_cons,hdef]
  rw [← hB] at ih
  rw [← hB,s_loop_at hB]
  clear hd hdef hP gv w
  generalize (evs R)[s]=y at *
  generalize (evs R)[i]=z at *
  cases d1:(gmOf (evs R) co).st s x with
  | false=>
   rw [d1] at hst
   rw [Bool.false_and,Bool.false_or,← ih]
   clear ih
   generalize (evs R).length=n at *
   simp [ir_gmo_view_atomicl0,go_sem,c,cI,hob,hpl,hoe,iu,huf,hst,e1,e2,hps,hpi,e3,hcc,-Int.natCast_add]
  | true=>
   rw [d1] at hst
   by_cases d2:y.hart=z.hart
   ·rw [decide_eq_true d2,Bool.not_true,Bool.false_and,Bool.and_false,Bool.false_or,← ih]
    clear ih
    generalize (evs R).length=n at *
    simp [ir_gmo_view_atomicl0,go_sem,c,cI,hob,hpl,hoe,iu,huf,hst,e1,e2,hps,hpi,e3,hcc,d2,-Int.natCast_add]
   ·have d2':¬ (y.hart:Int)=(z.hart:Int):=by omega
    rw [decide_eq_false d2,Bool.not_false,Bool.true_and,Bool.true_and]
    generalize (evs R).length=n at *
    generalize pl s=ps at *
    generalize pl i=pi at *
    by_cases d3:fr<ps
    ·rw [decide_eq_true d3,Bool.true_and]
     by_cases d4:ps<pi
     ·rw [decide_eq_true d4,Bool.true_or,if_pos rfl]
      clear ih
      simp [ir_gmo_view_atomicl0,go_sem,c,cI,hob,hpl,hoe,iu,huf,hst,e1,e2,hps,hpi,hcc,d2,d2',d3,d4,-Int.natCast_add]
     ·rw [decide_eq_false d4,Bool.false_or,← ih]
      clear ih
      simp [ir_gmo_view_atomicl0,go_sem,c,cI,hob,hpl,hoe,iu,huf,hst,e1,e2,hps,hpi,e3,hcc,d2,d2',d3,d4,-Int.natCast_add]
    ·rw [decide_eq_false d3,Bool.false_and,Bool.false_or,← ih]
     clear ih
     simp [ir_gmo_view_atomicl0,go_sem,c,cI,hob,hpl,hoe,iu,huf,hst,e1,e2,hps,hpi,e3,hcc,d2,d2',d3,-Int.natCast_add]
 ·obtain rfl:s=(evs R).length:=by omega
  rw [← hB,s_loop_at hB,Nat.sub_self]
  simp [ir_gmo_view_atomicl0,go_sem]
termination_by (evs R).length - s
set_option maxHeartbeats 4000000 in
theorem atomic_ok {F:Nat} {cc:V} (hcc:cc.exp=some cc) {i:Nat} (hi:i<(evs R).length) (had:0≤adE ((evs R)[i]).r) {k:Nat} (hk:k<8) {pl:Nat→Nat→Int}
  (hP:∀ s,s<(evs R).length→evI pg .heap F [.int .i64 (((gmOf (evs R) co).ad i+k:Nat):Int),.int .i64 (s:Int),cc] H=some (.int .i64 (pl ((gmOf (evs R) co).ad i+k) s),H))
  (hpr:∀ r,(gmOf (evs R) co).pr i=some r→r<(evs R).length∧∀ x,(gmOf (evs R) co).tgt r k=some x→x<(evs R).length):
  evI pg .heap n_gmo_view_atomic [.ptr p 0 0,.int .i64 (i:Int),.int .i64 (k:Int),.fn F [] [cc]] H=some (.bool ((gmOf (evs R) co).atm pl i k),H):=by
 have hob:=gv.ob
 simp only [gC] at hob
 have hpl:=get_lt hob
 have hoe:=get_el hob
 have hb:=evs_bd (R:=R) fun h hh=>(w.li h hh).2.1
 have iu:=w.ev.is
 have huf:=w.ev.fpR
 have hur:(rows u).length=(evs R).length:=by rw [w.ev.rows,evR_len]
 have e1:=fun m=>w.ev.ia (sz:=33) m .i64 (i:=i) (by rw [evR_len]; exact hi) (evR_sz _ _ (List.getElem_mem _))
 simp only [evR_el] at e1
 have hpair:=pair_ok w gv hi
 have hdef:(gmOf (evs R) co).atm pl i k=match (gmOf (evs R) co).pr i with
  | none=>true
  | some r=>match (gmOf (evs R) co).tgt r k with
   | none=>!decide (pl ((gmOf (evs R) co).ad i+k) i<0) && (List.range (evs R).length).all fun s=>!atB (gmOf (evs R) co) i ((gmOf (evs R) co).ad i+k) 0 (pl ((gmOf (evs R) co).ad i+k)) s
   | some x=>!decide (pl ((gmOf (evs R) co).ad i+k) i<pl ((gmOf (evs R) co).ad i+k) x) && (List.range (evs R).length).all fun s=>!atB (gmOf (evs R) co) i ((gmOf (evs R) co).ad i+k) (pl ((gmOf (evs R) co).ad i+k) x) (pl ((gmOf (evs R) co).ad i+k)) s:=by
  unfold Gm.atm
  cases (gmOf (evs R) co).pr i with
  | none=>rfl
  | some r=>
   simp only
   cases (gmOf (evs R) co).tgt r k<;>rfl
 rw [hdef,s_fn fn_gmo_view_atomic]
 cases qp:(gmOf (evs R) co).pr i with
 | none=>
  rw [qp] at hpair
  simp only [Option.getD_none,Option.isSome_none] at hpair
  simp [ir_gmo_view_atomic,go_sem,hob,hpl,hoe,iu,huf,hur,hcc,e1,hpair,-Int.natCast_add]
 | some r=>
  rw [qp] at hpair
  simp only [Option.getD_some,Option.isSome_some] at hpair
  obtain ⟨hr,hx⟩:=hpr r qp
  have hale:=adE_le (hb _ (List.getElem_mem hi)).ad.1
  obtain ⟨a,ha⟩:∃ a:Nat,adE ((evs R)[i]).r=(a:Int):=⟨_,(Int.toNat_of_nonneg had).symm⟩
  have hga:(gmOf (evs R) co).ad i=a:=by
   show ofE _ _ _ i=_
   rw [ofE_el hi,ha,Int.toNat_natCast]
  rw [hga] at hP ⊢
  have ew:IntKind.i64.wrap ((a:Int)+(k:Int))=((a+k:Nat):Int):=by rw [wrap_i64 (by omega) (by omega)]; rfl
  have e2:=fun m=>w.ev.ia (sz:=33) m .i64 (i:=r) (by rw [evR_len]; exact hr) (evR_sz _ _ (List.getElem_mem _))
  simp only [evR_el] at e2
  have hnm:=named_ok gv (((evs R)[r]).r.tg k)
  have ht:=evC_tgq (evs R)[r] hk
  have ht':=get_all ht
  have k8:(k:Int)<8:=by omega
  have k7:k≤7:=by omega
  have k28:20+k<33:=by omega
  have htg:(gmOf (evs R) co).tgt r k=if ((evs R)[r]).r.tg k=-1 then none else some (at1 (evs R) (((evs R)[r]).r.tg k)):=by
   show ofE _ _ _ r=_
   rw [ofE_el hr]
  have hl0:=fun fr=>atomic_l0 w gv hE hcc (x:=a+k) (by omega) (pl:=pl (a+k)) hP hi fr 0 (Nat.zero_le _)
  rw [Int.natCast_zero] at hl0
  have hpi:=hP i hi
  clear hdef hga hb qp
  by_cases ct:((evs R)[r]).r.tg k=-1
  ·rw [if_pos ct] at htg
   rw [ct] at hnm ht ht'
   simp only [if_true] at hnm
   have hl:=hl0 0
   simp only [htg]
   rw [all_any]
   clear hP hl0 htg
   generalize (evs R)[i]=e at *
   generalize (evs R)[r]=f at *
   generalize pl (a+k) i=pi at *
   by_cases d:pi<0
   ·rw [decide_eq_true d,Bool.not_true,Bool.false_and]
    simp [ir_gmo_view_atomic,go_sem,hob,hpl,hoe,iu,huf,hur,hcc,e1,e2,ha,ew,hpair,hnm,ht,ht',k8,k7,k28,hk,hpi,d,-Int.natCast_add]
   ·rw [decide_eq_false d,Bool.not_false,Bool.true_and]
    cases dl:(List.range' 0 ((evs R).length - 0)).any (atB (gmOf (evs R) co) i (a+k) 0 (pl (a+k))) with
    | true=>
     rw [dl,if_pos rfl] at hl
     simp [ir_gmo_view_atomic,go_sem,hob,hpl,hoe,iu,huf,hur,hcc,e1,e2,ha,ew,hpair,hnm,ht,ht',k8,k7,k28,hk,hpi,d,hl,-Int.natCast_add]
    | false=>
     rw [dl,if_neg (by simp)] at hl
     simp [ir_gmo_view_atomic,go_sem,hob,hpl,hoe,iu,huf,hur,hcc,e1,e2,ha,ew,hpair,hnm,ht,ht',k8,k7,k28,hk,hpi,d,hl,-Int.natCast_add]
  ·rw [if_neg ct] at htg hnm
   rw [decide_eq_true ct] at hnm
   have hw:=hx _ htg
   have hpw:=hP _ hw
   have hl:=hl0 (pl (a+k) (at1 (evs R) (((evs R)[r]).r.tg k)))
   simp only [htg]
   rw [all_any]
   clear hP hl0 htg hx
   generalize at1 (evs R) (((evs R)[r]).r.tg k)=wt at *
   generalize (evs R)[i]=e at *
   generalize (evs R)[r]=f at *
   generalize pl (a+k) i=pi at *
   generalize hpwv:pl (a+k) wt=pw at *
   by_cases d:pi<pw
   ·rw [decide_eq_true d,Bool.not_true,Bool.false_and]
    simp [ir_gmo_view_atomic,go_sem,hob,hpl,hoe,iu,huf,hur,hcc,e1,e2,ha,ew,hpair,hnm,ht,ht',k8,k7,k28,hk,hpi,hpw,d,-Int.natCast_add]
   ·rw [decide_eq_false d,Bool.not_false,Bool.true_and]
    cases dl:(List.range' 0 ((evs R).length - 0)).any (atB (gmOf (evs R) co) i (a+k) pw (pl (a+k))) with
    | true=>
     rw [dl,if_pos rfl] at hl
     simp [ir_gmo_view_atomic,go_sem,hob,hpl,hoe,iu,huf,hur,hcc,e1,e2,ha,ew,hpair,hnm,ht,ht',k8,k7,k28,hk,hpi,hpw,d,hl,-Int.natCast_add]
    | false=>
     rw [dl,if_neg (by simp)] at hl
     simp [ir_gmo_view_atomic,go_sem,hob,hpl,hoe,iu,huf,hur,hcc,e1,e2,ha,ew,hpair,hnm,ht,ht',k8,k7,k28,hk,hpi,hpw,d,hl,-Int.natCast_add]
end
end Go.Proofs.YtimiademofajeaaGreatDoor
