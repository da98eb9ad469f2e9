/- Lemmas (no claim): K23h, K23r, K23i, K23j. -/
import Derived.Test.YtimiademofajeaaGreatDoorP19
import Derived.Test.YtimiademofajeaaGreatDoorP10
set_option linter.unusedSimpArgs false
set_option linter.unusedVariables false
set_option maxRecDepth 20000
namespace Go.Proofs.YtimiademofajeaaGreatDoor
open Go Go.Vm
def mpG (H:List Vm.Obj) (l:List (Int × V)):List Vm.Obj:=H ++ [.mp (kvR l)]
theorem mpG_mk (H:List Vm.Obj):H ++ [Vm.Obj.mp []]=mpG H []:=rfl
theorem mpG_at (H:List Vm.Obj) (l:List (Int × V)):(mpG H l)[H.length]?=some (.mp (kvR l)):=by simp [mpG]
theorem mpG_len (H:List Vm.Obj) (l:List (Int × V)):(mpG H l).length=H.length+1:=by simp [mpG]
theorem mpG_old {H:List Vm.Obj} (l:List (Int × V)) {q:Nat} (h:q<H.length):(mpG H l)[q]?=H[q]?:=by simp [mpG,List.getElem?_append_left h]
theorem mpG_put (H:List Vm.Obj) (l:List (Int × V)) (vs:List (List V)) (tk:List Nat) (n i:Nat):mputM ⟨vs,tk,mpG H l⟩ (.map H.length) (.int .i64 (n:Int)) (.int .i64 (i:Int))=some (.undef,⟨vs,tk,mpG H (kput l n (.int .i64 (i:Int)))⟩):=by
 rw [mput_kv (mpG_at H l) vs tk n (.int .i64 (i:Int)) rfl]
 congr 3
 simp [mpG]
def plm:List Nat→Nat→List (Int × V)→List (Int × V)
 | [],_,l=>l
 | s :: c,k,l=>plm c (k+1) (kput l (s:Int) (.int .i64 ((k+1:Nat):Int)))
theorem plm_get (s:Nat):∀ (c:List Nat) (k:Nat) (l:List (Int × V)),c.Nodup→kget (plm c k l) (s:Int)=if s∈c then some (.int .i64 ((k+cpl c s:Nat):Int)) else kget l (s:Int)
 | [],k,l,_=>by simp [plm]
 | a :: c,k,l,hn=>by
  have hn2:=List.nodup_cons.1 hn
  have ih:=plm_get s c (k+1) (kput l (a:Int) (.int .i64 ((k+1:Nat):Int))) hn2.2
  unfold plm
  rw [ih,kget_put]
  by_cases c1:s=a
  ·subst c1
   rw [if_neg hn2.1,if_pos rfl,if_pos (by simp)]
   unfold cpl
   rw [if_pos rfl]
  ·have c2:¬ (s:Int)=(a:Int):=by omega
   have c3:¬ a=s:=fun e=>c1 e.symm
   by_cases c4:s∈c
   ·rw [if_pos c4,if_pos (by simp [c4])]
    have h5:=cpl_pos.2 c4
    have:cpl (a :: c) s=cpl c s+1:=by
     conv=>lhs; unfold cpl
     rw [if_neg c3]
     split
     ·omega
     ·rename_i k hk; omega
    rw [this,show k+1+cpl c s=k+(cpl c s+1) by omega]
   ·rw [if_neg c4,if_neg c2,if_neg (by simp [c1,c4])]
theorem plm_cpl {c:List Nat} (hn:c.Nodup) (s:Nat):(kget (plm c 0 []) (s:Int)).getD (.int .i64 0)=.int .i64 ((cpl c s:Nat):Int):=by
 rw [plm_get s c 0 [] hn]
 by_cases h:s∈c
 ·rw [if_pos h,Nat.zero_add]; rfl
 ·rw [if_neg h]
  have:¬ 0<cpl c s:=fun q=>h (cpl_pos.1 q)
  rw [show cpl c s=0 by omega]
  rfl
section
variable {x0:V} {lv:Nat→V} {x4 u:V} {R:Nat→List Rt} {img:List Nat} {cv:List V} {co:List (List Int)} (w:Lk x0 lv x4 u R img cv co)
include w
def gH (x0:V) (lv:Nat→V) (x4 u:V) (l:List (Int × V)) (cs:V):List Vm.Obj:=[.mp (kvR l),.arr [gC x0 lv x4 u 0 cs]]
omit w in
theorem gH_put (l:List (Int × V)) (cs:V) (vs:List (List V)) (tk:List Nat) (n:Int) (i:Nat):mputM ⟨vs,tk,gH x0 lv x4 u l cs⟩ (.map 0) (.int .i64 n) (.int .i64 (i:Int))=some (.undef,⟨vs,tk,gH x0 lv x4 u (kput l n (.int .i64 (i:Int))) cs⟩):=by
 have h:(gH x0 lv x4 u l cs)[0]?=some (.mp (kvR l)):=rfl
 rw [mput_kv h vs tk n (.int .i64 (i:Int)) rfl]
 rfl
theorem glook_l0 (hE:(evs R).length≤100000) (cs:List V) (i:Nat) (hi:i≤(evs R).length):
  evCI pg (.loop ir_gmo_lookl0) ⟨[.undef,.lp 0 0,.undef,.undef,.undef,.ptr 1 0 0,.undef,.undef,.undef,.undef,.undef,.undef,.undef,u,.int .i64 ((evs R).length:Int),.int .i64 (i:Int),.undef,.undef,.undef,.undef,.undef,.undef,.undef,.undef,.undef],⟨[cs,[]],[],gH x0 lv x4 u (atl (evs R) i) .nils⟩⟩ =
   some (.exit 0,⟨[.undef,.lp 0 0,.undef,.undef,.undef,.ptr 1 0 0,.undef,.undef,.undef,.undef,.undef,.undef,.undef,u,.int .i64 ((evs R).length:Int),.int .i64 ((evs R).length:Int),.bool false,.undef,.undef,.undef,.undef,.undef,.undef,.undef,.undef],⟨[cs,[]],[],gH x0 lv x4 u (atl (evs R) (evs R).length) .nils⟩⟩):=by
 obtain ⟨B,hB⟩:∃ B,B=Vm.C.loop ir_gmo_lookl0:=⟨_,rfl⟩
 have iu:=w.ev.is
 have hur:=w.ev.fpR
 by_cases c:i<(evs R).length
 ·have e3:=succ_i64 c (by omega)
  have cI:(i:Int)<((evs R).length:Int):=by omega
  have e1:=fun m=>w.ev.ia (sz:=33) m .i64 (i:=i) (by rw [evR_len]; exact c) (evR_sz _ _ (List.getElem_mem _))
  simp only [evR_el] at e1
  have hfl:=eq_true (evC_flat (evs R)[i])
  have hpt:=fun vs tk=>gH_put (x0:=x0) (lv:=lv) (x4:=x4) (u:=u) (atl (evs R) i) .nils vs tk ((evs R)[i]).r.id i
  have hst:atl (evs R) (i+1)=kput (atl (evs R) i) ((evs R)[i]).r.id (.int .i64 (i:Int)):=by
   conv=>lhs; unfold atl
   rw [List.getElem?_eq_getElem c]
  rw [← hst] at hpt
  have hob:(gH x0 lv x4 u (atl (evs R) i) .nils)[1]?=some (.arr [[x0,lv 0,lv 1,lv 2,x4,u,.map 0,.nils]]):=rfl
  have hpl:1<(gH x0 lv x4 u (atl (evs R) i) .nils).length:=get_lt hob
  have hoe:=get_el hob
  have ih:=glook_l0 hE cs (i+1) (by omega)
  rw [← ih,← hB]
  conv=>lhs; rw [s_loop_at hB]
  clear ih hst
  generalize (evs R)[i]=e at *
  generalize gH x0 lv x4 u (atl (evs R) (i+1)) .nils=H1 at *
  generalize gH x0 lv x4 u (atl (evs R) i) .nils=H0 at *
  generalize (evs R).length=N at *
  simp [ir_gmo_lookl0,go_sem,c,cI,iu,hur,e1,e3,hfl,hpt,hob,hpl,hoe,evStore,splice,-Int.natCast_add]
 ·obtain rfl:i=(evs R).length:=by omega
  rw [← hB,s_loop_at hB]
  simp [ir_gmo_lookl0,go_sem,iu]
termination_by (evs R).length - i
theorem glook_l1 {H:List Vm.Obj} {l:List (Int × V)} {cs:V} (h0:H[0]?=some (.mp (kvR l))) (hat:AtL l (evs R)) (h1:H[1]?=some (.arr [gC x0 lv x4 u 0 cs])) (x:Nat) (hx:x<cv.length) (y:List Int) (hy:co[x]?=some y) (k:Nat) (hk:k≤y.length) (l':List (Int × V)):
  evCI pg (.loop ir_gmo_lookl1) ⟨[.undef,.undef,.undef,.undef,.undef,.ptr 1 0 0,.undef,.undef,.undef,.map H.length,.undef,.undef,.undef,.undef,.undef,.undef,.undef,x4,.int .i64 (cv.length:Int),.int .i64 (x:Int),.undef,cv[x],.int .i64 (y.length:Int),.int .i64 (k:Int),.undef],⟨[[],[]],[],mpG H l'⟩⟩ =
   some (.exit 4,⟨[.undef,.undef,.undef,.undef,.undef,.ptr 1 0 0,.undef,.undef,.undef,.map H.length,.undef,.undef,.undef,.undef,.undef,.undef,.undef,x4,.int .i64 (cv.length:Int),.int .i64 (x:Int),.undef,cv[x],.int .i64 (y.length:Int),.int .i64 (y.length:Int),.bool false],⟨[[],[]],[],mpG H (plm ((y.drop k).map (at1 (evs R))) k l')⟩⟩):=by
 obtain ⟨B,hB⟩:∃ B,B=Vm.C.loop ir_gmo_lookl1:=⟨_,rfl⟩
 have hyc:y∈co:=List.mem_of_getElem? hy
 have hsl:=w.cs.2 x cv[x] y (List.getElem?_eq_getElem hx) hy
 have hol:=w.ol y hyc
 have hsi:=hsl.is
 have hsf:=hsl.fpR
 have i4:=w.co4.is
 have hm0:(mpG H l')[0]?=some (.mp (kvR l)):=by rw [mpG_old _ (get_lt h0)]; exact h0
 have hob:(mpG H l')[1]?=some (.arr [[x0,lv 0,lv 1,lv 2,x4,u,.map 0,cs]]):=by rw [mpG_old _ (get_lt h1)]; exact h1
 have hpl:=get_lt hob
 have hoe:=get_el hob
 by_cases c:k<y.length
 ·have e3:=succ_i64 c (by omega)
  have cI:(k:Int)<(y.length:Int):=by omega
  have e1:=fun m=>hsl.ia (sz:=1) m .i64 (i:=k) (by rw [iI_len]; exact c) (by simp [iI])
  simp only [iI_el] at e1
  have hlk:∀ vs tk,lookM ⟨vs,tk,mpG H l'⟩ false false [.int .i64 0] (.map 0) (.int .i64 y[k])=some (.int .i64 ((at1 (evs R) y[k]:Nat):Int),⟨vs,tk,mpG H l'⟩):=fun vs tk=>by
   have h:=look_kv hm0 vs tk false (.int .i64 0) y[k]
   simp only [Bool.false_eq_true,if_false] at h
   rw [hat _] at h
   rw [h]
   unfold at1
   cases lix (evs R) y[k]<;>rfl
  have hpt:=fun vs tk=>mpG_put H l' vs tk (at1 (evs R) y[k]) (k+1)
  have hd:y.drop k=y[k] :: y.drop (k+1):=List.drop_eq_getElem_cons c
  have hpm:plm ((y[k] :: y.drop (k+1)).map (at1 (evs R))) k l'=plm ((y.drop (k+1)).map (at1 (evs R))) (k+1) (kput l' (at1 (evs R) y[k]:Int) (.int .i64 ((k+1:Nat):Int))):=rfl
  have ih:=glook_l1 h0 hat h1 x hx y hy (k+1) (by omega) (kput l' (at1 (evs R) y[k]:Int) (.int .i64 ((k+1:Nat):Int)))
  rw [hd,hpm,← ih,← hB]
  conv=>lhs; rw [s_loop_at hB]
  clear ih hd hpm hm0
  generalize y[k]=id at *
  generalize at1 (evs R) id=s at *
  generalize mpG H (kput l' (s:Int) (.int .i64 ((k+1:Nat):Int)))=H2 at *
  generalize mpG H l'=H1 at *
  generalize cv[x]=v at *
  simp [ir_gmo_lookl1,go_sem,c,cI,hsi,hsf,i4,e1,e3,hlk,hpt,hob,hpl,hoe,-Int.natCast_add]
 ·obtain rfl:k=y.length:=by omega
  rw [← hB,s_loop_at hB,List.drop_length]
  simp [ir_gmo_lookl1,go_sem,hsi,i4,plm]
termination_by y.length - k
structure Gx (H:List Vm.Obj) (l:List (Int × V)) (cs:V) (cm:Nat→Nat) (cl:Nat→List (Int × V)) (x0:V) (lv:Nat→V) (x4 u:V) (E:List Ev) (co:List (List Int)) (x:Nat):Prop where
 mp:H[0]?=some (.mp (kvR l))
 ob:H[1]?=some (.arr [gC x0 lv x4 u 0 cs])
 cr:(x=0∧cs=.nils)∨(0<x∧∃ cid,1<cid∧cs=.rsl cid 0 x∧H[cid]?=some (.arr (mrw cm x))∧∀ j,j<x→cm j≠cid)
 cmp:∀ j,j<x→1<cm j∧H[cm j]?=some (.mp (kvR (cl j)))
 cat:∀ j,j<x→∀ s:Nat,(kget (cl j) (s:Int)).getD (.int .i64 0)=.int .i64 ((cpl ((gmOf E co).C j) s:Nat):Int)
def upN {α:Type} (f:Nat→α) (x:Nat) (a:α) (j:Nat):α:=if j=x then a else f j
omit w in
theorem mrw_up (cm:Nat→Nat) (x m:Nat):mrw cm x ++ [[V.map m]]=mrw (upN cm x m) (x+1):=by
 unfold mrw
 rw [List.range_succ,List.map_append]
 congr 1
 ·apply List.map_congr_left
  intro j hj
  have:=List.mem_range.1 hj
  unfold upN
  rw [if_neg (by omega)]
 ·simp [upN]
omit w in
theorem mrw_sz (cm:Nat→Nat) (n:Nat):szAll 1 (mrw cm n)=true:=by
 simp [szAll,mrw]
def h3H (H:List Vm.Obj) (lx:List (Int × V)) (c:Nat) (r:List (List V)):List Vm.Obj:=(mpG H lx).set c .dead ++ [.arr r]
omit w in
theorem h3_old {H:List Vm.Obj} {lx:List (Int × V)} {c:Nat} {r:List (List V)} {q:Nat} (h:q<H.length) (hc:q≠c):(h3H H lx c r)[q]?=H[q]?:=by
 unfold h3H
 rw [List.getElem?_append_left (by rw [List.length_set,mpG_len]; omega),List.getElem?_set_ne (by omega),mpG_old _ h]
omit w in
theorem h3_mid {H:List Vm.Obj} {lx:List (Int × V)} {c:Nat} {r:List (List V)} (hc:H.length≠c):(h3H H lx c r)[H.length]?=some (.mp (kvR lx)):=by
 unfold h3H
 rw [List.getElem?_append_left (by rw [List.length_set,mpG_len]; omega),List.getElem?_set_ne (by omega),mpG_at]
omit w in
theorem h3_new {H:List Vm.Obj} {lx:List (Int × V)} {c:Nat} {r:List (List V)}:(h3H H lx c r)[H.length+1]?=some (.arr r):=by
 unfold h3H
 have:((mpG H lx).set c .dead).length=H.length+1:=by rw [List.length_set,mpG_len]
 rw [← this,List.getElem?_concat_length]
omit w in
theorem Gx.step {H:List Vm.Obj} {l:List (Int × V)} {cs:V} {cm:Nat→Nat} {cl:Nat→List (Int × V)} {E:List Ev} {x:Nat} (g:Gx H l cs cm cl x0 lv x4 u E co x) (hx:x≤100000) (lx:List (Int × V)) (hlx:∀ s:Nat,(kget lx (s:Int)).getD (.int .i64 0)=.int .i64 ((cpl ((gmOf E co).C x) s:Nat):Int)):
  ∃ H3,(∀ vs tk,appV 0 1 8 ⟨vs,tk,mpG H lx⟩ cs (.els [[.map H.length]])=some (.rsl (H.length+1) 0 (x+1),⟨vs,tk,H3⟩)) ∧
   (∀ vs tk,evStore 1 ⟨vs,tk,H3⟩ (.rsl (H.length+1) 0 (x+1)) (.ptr 1 0 7)=some ⟨vs,tk,H3.set 1 (.arr [gC x0 lv x4 u 0 (.rsl (H.length+1) 0 (x+1))])⟩) ∧
   H3[1]?=some (.arr [gC x0 lv x4 u 0 cs]) ∧
   Gx (H3.set 1 (.arr [gC x0 lv x4 u 0 (.rsl (H.length+1) 0 (x+1))])) l (.rsl (H.length+1) 0 (x+1)) (upN cm x H.length) (upN cl x lx) x0 lv x4 u E co (x+1):=by
 have h0l:=get_lt g.mp
 have h1l:=get_lt g.ob
 have key:∀ c:Nat,1<c→H.length≠c→(∀ j,j<x→cm j≠c)→(∀ vs tk,appV 0 1 8 ⟨vs,tk,mpG H lx⟩ cs (.els [[.map H.length]])=some (.rsl (H.length+1) 0 (x+1),⟨vs,tk,h3H H lx c (mrw cm x ++ [[.map H.length]])⟩))→∃ H3,(∀ vs tk,appV 0 1 8 ⟨vs,tk,mpG H lx⟩ cs (.els [[.map H.length]])=some (.rsl (H.length+1) 0 (x+1),⟨vs,tk,H3⟩)) ∧
   (∀ vs tk,evStore 1 ⟨vs,tk,H3⟩ (.rsl (H.length+1) 0 (x+1)) (.ptr 1 0 7)=some ⟨vs,tk,H3.set 1 (.arr [gC x0 lv x4 u 0 (.rsl (H.length+1) 0 (x+1))])⟩) ∧
   H3[1]?=some (.arr [gC x0 lv x4 u 0 cs]) ∧
   Gx (H3.set 1 (.arr [gC x0 lv x4 u 0 (.rsl (H.length+1) 0 (x+1))])) l (.rsl (H.length+1) 0 (x+1)) (upN cm x H.length) (upN cl x lx) x0 lv x4 u E co (x+1):=fun c hc1 hc2 hc3 ha=>by
  have o1:(h3H H lx c (mrw cm x ++ [[.map H.length]]))[1]?=some (.arr [gC x0 lv x4 u 0 cs]):=by rw [h3_old h1l (by omega)]; exact g.ob
  have old:∀ {q:Nat},q<H.length→q≠c→q≠1→((h3H H lx c (mrw cm x ++ [[.map H.length]])).set 1 (.arr [gC x0 lv x4 u 0 (.rsl (H.length+1) 0 (x+1))]))[q]?=H[q]?:=fun h1 h2 h3=>by
   rw [List.getElem?_set_ne (by omega),h3_old h1 h2]
  refine ⟨_,ha,fun vs tk=>?_,o1,⟨?_,?_,?_,?_,?_⟩⟩
  ·have hl:=get_lt o1
   have he:=get_el o1
   unfold gC at *
   generalize h3H H lx c (mrw cm x ++ [[.map H.length]])=H3 at *
   simp [evStore,o1,hl,he,splice,V.cells]
  ·rw [old h0l (by omega) (by omega)]; exact g.mp
  ·rw [List.getElem?_set_self (get_lt o1)]
  ·right
   refine ⟨by omega,H.length+1,by omega,rfl,?_,fun j hj=>?_⟩
   ·rw [List.getElem?_set_ne (by omega),h3_new,mrw_up]
   ·unfold upN
    split
    ·omega
    ·have:=get_lt (g.cmp j (by omega)).2
     omega
  ·intro j hj
   unfold upN
   by_cases e:j=x
   ·rw [if_pos e,if_pos e]
    refine ⟨by omega,?_⟩
    rw [List.getElem?_set_ne (by omega),h3_mid hc2]
   ·rw [if_neg e,if_neg e]
    have h1:=g.cmp j (by omega)
    refine ⟨h1.1,?_⟩
    rw [old (get_lt h1.2) (hc3 j (by omega)) (by omega)]
    exact h1.2
  ·intro j hj s
   unfold upN
   by_cases e:j=x
   ·rw [if_pos e,e]
    exact hlx s
   ·rw [if_neg e]
    exact g.cat j (by omega) s
 have f1:fits 8 1=true:=fits_of (by omega) (by omega)
 rcases g.cr with ⟨hx0,hcs⟩ | ⟨hx0,cid,hc1,hcs,hcr,hcj⟩
 ·subst hx0
  refine key (H.length+2) (by omega) (by omega) (fun j hj=>by omega) fun vs tk=>?_
  rw [hcs]
  have hset:(mpG H lx).set (H.length+2) .dead=mpG H lx:=List.set_eq_of_length_le (by rw [mpG_len]; omega)
  unfold appV h3H
  simp [srcV,szAll,flatAll,V.flat,f1,hset,mpG_len,mrw]
 ·refine key cid hc1 (by have:=get_lt hcr; omega) hcj fun vs tk=>?_
  rw [hcs]
  have hcr':(mpG H lx)[cid]?=some (.arr (mrw cm x)):=by rw [mpG_old _ (get_lt hcr)]; exact hcr
  have f2:fits 8 (x+1)=true:=fits_of (by omega) (by omega)
  have hsz:szAll 1 (mrw cm x ++ [[V.map H.length]])=true:=by rw [mrw_up]; exact mrw_sz _ _
  have hfl:flatAll [[V.map H.length]]=true:=rfl
  have hml:=mrw_len cm x
  unfold appV h3H
  simp only [srcV,hcr',List.length_singleton,f2,hsz,hfl,hml,Bool.and_self,Bool.not_true,Bool.false_eq_true,if_false]
  rw [if_neg (by omega),if_pos ⟨trivial,trivial,hx0⟩,mpG_len]
theorem glook_l2 (hnd:∀ x,x<co.length→((gmOf (evs R) co).C x).Nodup) {l:List (Int × V)} (hat:AtL l (evs R)) (x:Nat) (hx:x≤cv.length) (H:List Vm.Obj) (cs:V) (cm:Nat→Nat) (cl:Nat→List (Int × V)) (g:Gx H l cs cm cl x0 lv x4 u (evs R) co x):
  ∃ H' cs' cm' cl',evCI pg (.loop ir_gmo_lookl2) ⟨[.undef,.undef,.undef,.undef,.undef,.ptr 1 0 0,.undef,.undef,.undef,.undef,.undef,.undef,.undef,.undef,.undef,.undef,.undef,x4,.int .i64 (cv.length:Int),.int .i64 (x:Int),.undef,.undef,.undef,.undef,.undef],⟨[[],[]],[],H⟩⟩=some (.exit 2,⟨[.undef,.undef,.undef,.undef,.undef,.ptr 1 0 0,.undef,.undef,.undef,.undef,.undef,.undef,.undef,.undef,.undef,.undef,.undef,x4,.int .i64 (cv.length:Int),.int .i64 (cv.length:Int),.bool false,.undef,.undef,.undef,.undef],⟨[[],[]],[],H'⟩⟩)∧Gx H' l cs' cm' cl' x0 lv x4 u (evs R) co cv.length:=by
 obtain ⟨B,hB⟩:∃ B,B=Vm.C.loop ir_gmo_lookl2:=⟨_,rfl⟩
 have i4:=w.co4.is
 have h4f:=w.co4.fpR
 have hcl:=w.cl
 have hco:=w.cs.1
 by_cases c:x<cv.length
 ·have e3:=succ_i64 c (by omega)
  have cI:(x:Int)<(cv.length:Int):=by omega
  have ca:x<co.length:=by omega
  have e1:=fun m=>w.co4.ia (sz:=1) m .i64 (i:=x) (by rw [slR_len]; exact c) (slR_sz _ _ (List.getElem_mem _))
  simp only [slR_el] at e1
  have hsl:=w.cs.2 x cv[x] co[x] (List.getElem?_eq_getElem c) (List.getElem?_eq_getElem ca)
  have hsi:=hsl.is
  have hsr:(rows cv[x]).length=(co[x]).length:=by rw [hsl.rows,iI_len]
  have hl1:=glook_l1 w g.mp hat g.ob x c co[x] (List.getElem?_eq_getElem ca) 0 (Nat.zero_le _) []
  rw [List.drop_zero,Int.natCast_zero] at hl1
  have hC:(gmOf (evs R) co).C x=(co[x]).map (at1 (evs R)):=by
   show ((co[x]?).getD []).map (at1 (evs R))=_
   rw [List.getElem?_eq_getElem ca]; rfl
  have hlx:=plm_cpl (c:=(co[x]).map (at1 (evs R))) (by rw [← hC]; exact hnd x ca)
  rw [← hC] at hlx
  obtain ⟨H3,s1,s2,s3,s4⟩:=g.step (by omega) (plm ((gmOf (evs R) co).C x) 0 []) hlx
  rw [← hC] at hl1
  obtain ⟨H',cs',cm',cl',ih,g'⟩:=glook_l2 hnd hat (x+1) (by omega) _ _ _ _ s4
  refine ⟨H',cs',cm',cl',?_,g'⟩
  have hob:(mpG H (plm ((gmOf (evs R) co).C x) 0 []))[1]?=some (.arr [[x0,lv 0,lv 1,lv 2,x4,u,.map 0,cs]]):=by rw [mpG_old _ (get_lt g.ob)]; exact g.ob
  have hpl:=get_lt hob
  have hoe:=get_el hob
  rw [← ih,← hB]
  conv=>lhs; rw [s_loop_at hB]
  have hmk:=mpG_mk H
  simp only [gC] at s3
  have s3l:=get_lt s3
  have s3e:=get_el s3
  clear ih hlx s4 g' g hC s2
  generalize mpG H (plm ((gmOf (evs R) co).C x) 0 [])=H2 at *
  generalize mpG H []=H1 at *
  generalize cv[x]=v at *
  have hset:H3.set 1 (.arr [[x0,lv 0,lv 1,lv 2,x4,u,.map 0,.rsl (H.length+1) 0 (x+1)]])=H3.set 1 (.arr [gC x0 lv x4 u 0 (.rsl (H.length+1) 0 (x+1))]):=rfl
  generalize H3.set 1 (.arr [gC x0 lv x4 u 0 (.rsl (H.length+1) 0 (x+1))])=H4 at *
  simp [ir_gmo_lookl2,go_sem,c,cI,i4,h4f,hsi,hsr,e1,e3,hmk,hl1,hob,hpl,hoe,s1,s3,s3l,s3e,hset,litParts,evStore,splice,-Int.natCast_add]
 ·obtain rfl:x=cv.length:=by omega
  refine ⟨H,cs,cm,cl,?_,g⟩
  rw [← hB,s_loop_at hB]
  simp [ir_gmo_lookl2,go_sem]
termination_by cv.length - x
theorem glook_no (hu:u=ils (evR (evs R))) (hne:chk R img cv.length co≠0):evI pg .heap n_gmo_look [.agg [x0,lv 0,lv 1,lv 2,x4]] []=some (.tup [.nilp,.int .i64 ((chk R img cv.length co:Nat):Int)],[]):=by
 have i0:=w.im.is
 have i4:=w.co4.is
 have j0:=(w.li 0 (by omega)).1.is
 have j1:=(w.li 1 (by omega)).1.is
 have j2:=(w.li 2 (by omega)).1.is
 have w2:Lk x0 lv x4 (ils (evR (evs R))) R img cv co:=hu ▸ w
 have hC:=Check_ok w2
 generalize chk R img cv.length co=ch at *
 have hne':¬ (ch:Int)=0:=by omega
 rw [s_fn fn_gmo_look]
 simp [ir_gmo_look,go_sem,hC,i0,i4,j0,j1,j2,hne,hne',V.cells,V.exp]
theorem glook_ok (hu:u=ils (evR (evs R))) (h0:chk R img cv.length co=0) (hnd:∀ x,x<co.length→((gmOf (evs R) co).C x).Nodup):
  ∃ H' l cs cm cl,evI pg .heap n_gmo_look [.agg [x0,lv 0,lv 1,lv 2,x4]] []=some (.tup [.ptr 1 0 0,.int .i64 0],H')∧GV H' 1 0 l cs cm cl x0 lv x4 u (evs R) co:=by
 have hE:(evs R).length≤100000:=by
  have:=evs_len R
  have h0:=(w.li 0 (by omega)).2.2
  have h1:=(w.li 1 (by omega)).2.2
  have h2:=(w.li 2 (by omega)).2.2
  omega
 have hco:=w.cs.1
 have hat:=atl_at (evs R)
 have g0:Gx (gH x0 lv x4 u (atl (evs R) (evs R).length) .nils) (atl (evs R) (evs R).length) .nils (fun _=>0) (fun _=>[]) x0 lv x4 u (evs R) co 0:=
  ⟨rfl,rfl,.inl ⟨rfl,rfl⟩,fun j hj=>by omega,fun j hj=>by omega⟩
 obtain ⟨H',cs',cm',cl',r1,r2⟩:=glook_l2 w hnd hat 0 (Nat.zero_le _) _ _ _ _ g0
 refine ⟨H',_,cs',cm',cl',?_,⟨r2.ob,r2.mp,hat,?_,fun x hx=>(r2.cmp x (by omega)).2,fun x hx=>r2.cat x (by omega)⟩⟩
 ·have i0:=w.im.is
  have i4:=w.co4.is
  have iu:=w.ev.is
  have j0:=(w.li 0 (by omega)).1.is
  have j1:=(w.li 1 (by omega)).1.is
  have j2:=(w.li 2 (by omega)).1.is
  have hur:(rows u).length=(evs R).length:=by rw [w.ev.rows,evR_len]
  have h4r:(rows x4).length=cv.length:=by rw [w.co4.rows,slR_len]
  have w2:Lk x0 lv x4 (ils (evR (evs R))) R img cv co:=hu ▸ w
  have hC:=Check_ok w2
  rw [h0] at hC
  have hc:Cd lv R:=⟨fun h hh=>⟨(w.li h hh).1,(w.li h hh).2.2,(w.li h hh).2.1.ok⟩⟩
  have hEv:=Events_ok hc i0 i4
  rw [← hu] at hEv
  have q0:=glook_l0 w hE [x0,lv 0,lv 1,lv 2,x4] 0 (Nat.zero_le _)
  have ha0:atl (evs R) 0=[]:=rfl
  rw [ha0,Int.natCast_zero] at q0
  rw [Int.natCast_zero] at r1
  have hmk:[Vm.Obj.mp [],Vm.Obj.arr [[x0,lv 0,lv 1,lv 2,x4,u,V.map 0,V.nils]]]=gH x0 lv x4 u [] .nils:=rfl
  have hob:(gH x0 lv x4 u [] .nils)[1]?=some (.arr [[x0,lv 0,lv 1,lv 2,x4,u,.map 0,.nils]]):=rfl
  have hpl:=get_lt hob
  have hoe:=get_el hob
  generalize gH x0 lv x4 u [] .nils=Ha at *
  generalize gH x0 lv x4 u (atl (evs R) (evs R).length) .nils=Hb at *
  rw [s_fn fn_gmo_look]
  simp [ir_gmo_look,go_sem,hC,hEv,i0,i4,iu,j0,j1,j2,hur,h4r,hmk,hob,hpl,hoe,q0,r1,fill]
 ·rcases r2.cr with ⟨h1,h2⟩ | ⟨h1,cid,_,h3,h4,_⟩
  ·exact .inl (by omega)
  ·rw [← hco] at h3 h4
   exact .inr ⟨cid,h3,h4⟩
end
def insR (R:Nat→List Rt) (h:Nat):List In:=(R h).map Rt.ins
def fA (R:Nat→List Rt) (h:Nat):Nat→Nat:=aW (hA (insR R h)) (R h).length
def fD (R:Nat→List Rt) (h:Nat):Nat→Nat:=aW (hD (insR R h)) (R h).length
def fC (R:Nat→List Rt) (h:Nat):Nat→Nat:=aW (cAt (insR R h)) (R h).length
theorem pick3 {P:Nat→V→Prop} (h:∀ k,k<3→∃ v,P k v):∃ f:Nat→V,∀ k,k<3→P k (f k):=by
 obtain ⟨a,ha⟩:=h 0 (by omega)
 obtain ⟨b,hb⟩:=h 1 (by omega)
 obtain ⟨c,hc⟩:=h 2 (by omega)
 refine ⟨fun k=>if k=0 then a else if k=1 then b else c,fun k hk=>?_⟩
 rcases lt3 hk with rfl | rfl | rfl
 ·exact ha
 ·exact hb
 ·exact hc
theorem view_ok {lv:Nat→V} {R:Nat→List Rt} (w:Cd lv R) {x0 x4:V} (i0:isS x0=true) (i4:isS x4=true) (ht:(R 0).length+(R 1).length+(R 2).length≤512):
  ∃ av dv cv,evI pg .val n_ppo_look [.agg [x0,lv 0,lv 1,lv 2,x4]] []=some (.tup [.ip false (vwC (ils (evR (evs R))) lv av dv cv) 0,.bool true],[])∧Vw (ils (evR (evs R))) lv av dv cv (evs R) R (fA R) (fD R) (fC R):=by
 have hlen:∀ h,(insR R h).length=(R h).length:=fun h=>by simp [insR]
 obtain ⟨av,ha⟩:=pick3 (P:=fun h rv=>evI pg .val n_deps_Address [lv h] []=some (.ip false [rv] 0,[])∧RelV rv (R h).length (fA R h)) (fun h hh=>by
  obtain ⟨l1,l2,_⟩:=w.li h hh
  have:=Address_okG (l:=insR R h) l1 rfl (by rw [hlen]; exact l2)
  rw [hlen] at this
  exact this)
 obtain ⟨dv,hd⟩:=pick3 (P:=fun h rv=>evI pg .val n_deps_Data [lv h] []=some (.ip false [rv] 0,[])∧RelV rv (R h).length (fD R h)) (fun h hh=>by
  obtain ⟨l1,l2,_⟩:=w.li h hh
  have:=Data_okG (l:=insR R h) l1 rfl (by rw [hlen]; exact l2)
  rw [hlen] at this
  exact this)
 obtain ⟨cv,hc⟩:=pick3 (P:=fun h rv=>evI pg .val n_deps_Course [lv h] []=some (.ip false [rv] 0,[])∧RelV rv (R h).length (fC R h)) (fun h hh=>by
  obtain ⟨l1,l2,_⟩:=w.li h hh
  have:=Course_okG (l:=insR R h) l1 rfl (by rw [hlen]; exact l2)
  rw [hlen] at this
  exact this)
 have hE:=Events_ok w i0 i4
 have hel:=evs_len R
 refine ⟨av,dv,cv,look_at w (fun h hh=>(ha h hh).1) (fun h hh=>(hd h hh).1) (fun h hh=>(hc h hh).1) (ils (evR (evs R))) (Sl.ils _).is i0 i4 ht hE,⟨.ils _,fun h hh=>⟨(w.li h hh).1,(w.li h hh).2.1⟩,fun h hh=>(ha h hh).2,fun h hh=>(hd h hh).2,fun h hh=>(hc h hh).2,evs_ok,by omega⟩⟩
section
variable {x0:V} {lv:Nat→V} {x4 u:V} {R:Nat→List Rt} {img:List Nat} {cv:List V} {co:List (List Int)} (w:Lk x0 lv x4 u R img cv co)
 {H:List Vm.Obj} {p mid:Nat} {l:List (Int × V)} {cs:V} {cm:Nat→Nat} {cl:Nat→List (Int × V)} (gv:GV H p mid l cs cm cl x0 lv x4 u (evs R) co) (hE:(evs R).length≤512)
 {q bq:Nat} {h:Nat→Int} (hq:H[q]?=some (.arr (nR (evs R).length h))) (hbx:H[bq]?=some (.arr [[.rsl q 0 (evs R).length]])) (had:∀ e∈evs R,0≤adE e.r)
include w gv hE hq hbx had
variable (hpr:∀ (i:Nat) (hi:i<(evs R).length),∀ r,(gmOf (evs R) co).pr i=some r→r<(evs R).length∧∀ k,k<szO ((evs R)[i]).r.ins.op→∀ x,(gmOf (evs R) co).tgt r k=some x→x<(evs R).length)
include hpr
omit w gv hE hq hbx had hpr in
def atmE (g:Gm) (pl:Nat→Nat→Int) (i:Nat):Bool:=(List.range' 0 (g.sz i)).any fun k=>!g.atm pl i k
end
section
variable {x0:V} {lv:Nat→V} {x4:V} {R:Nat→List Rt} {img:List Nat} {cv:List V} {co:List (List Int)} (w:Lk x0 lv x4 (ils (evR (evs R))) R img cv co)
include w
variable (h0:chk R img cv.length co=0) (hE:(evs R).length≤512) (hnd:∀ x,x<co.length→((gmOf (evs R) co).C x).Nodup) (hin:∀ l∈co,∀ id∈l,at1 (evs R) id<(evs R).length) (had:∀ e∈evs R,0≤adE e.r)
 (hpr:∀ (i:Nat) (hi:i<(evs R).length),∀ r,(gmOf (evs R) co).pr i=some r→r<(evs R).length∧∀ k,k<szO ((evs R)[i]).r.ins.op→∀ x,(gmOf (evs R) co).tgt r k=some x→x<(evs R).length)
include h0 hE hnd hin had hpr
end
end Go.Proofs.YtimiademofajeaaGreatDoor
