/- Lemmas (no claim): K22n, K22g. -/
import Derived.Test.YtimiademofajeaaGreatDoorP08
set_option linter.unusedSimpArgs false
set_option linter.unusedVariables false
set_option maxRecDepth 20000
namespace Go.Proofs.YtimiademofajeaaGreatDoor
open Go Go.Vm
def rulE (R:Nat→List Rt) (A D C:Nat→Nat→Nat) (k:Nat) (x y:Ev) (M:List Ev):Bool:=
 if k=0 then r1 x y else if k=1 then r2 x y M else if k=2 then r3 x y else if k=3 then r4 R x y else if k=4 then x.r.ins.aq else if k=5 then y.r.ins.rl
 else if k=6 then strE x && strE y else if k=7 then r8 x y else if k=8 then hgs R A x y else if k=9 then hgs R D x y else if k=10 then y.st && hgs R C x y
 else if k=11 then r12 R A D x y M else r13 R A x y
def rul (R:Nat→List Rt) (A D C:Nat→Nat→Nat) (E:List Ev) (k a b:Nat):Bool:=match E[a]?,E[b]? with
 | some x,some y=>rulE R A D C k x y (btw E a b)
 | _,_=>false
def fnn (k:Nat):Nat:=[n_ppo_view_same,n_ppo_view_loads,n_ppo_view_written,n_ppo_view_fenced,n_ppo_rules_1,n_ppo_rules_2,n_ppo_rules_3,n_ppo_view_paired,n_ppo_rules_4,n_ppo_rules_5,n_ppo_rules_6,n_ppo_view_through,n_ppo_view_known].getD k 0
theorem lt13 {k:Nat} (h:k<13):k=0∨k=1∨k=2∨k=3∨k=4∨k=5∨k=6∨k=7∨k=8∨k=9∨k=10∨k=11∨k=12:=by omega
def tabF:List V:=(List.range 13).map fun k=>.fn (fnn k) [] []
theorem tabF_len:tabF.length=13:=rfl
theorem rules_ok:evI pg .val n_ppo_rules [] []=some (.agg tabF,[]):=closed irL_ok 20 (by kernel_rfl)
theorem tabF_get {k:Nat} (h:k<13):tabF[k]?=some (.fn (fnn k) [] [])∧(tabF.drop k).take 1=[.fn (fnn k) [] []]:=by
 rcases lt13 h with rfl | rfl | rfl | rfl | rfl | rfl | rfl | rfl | rfl | rfl | rfl | rfl | rfl<;>exact ⟨rfl,rfl⟩
section
variable {u:V} {lv av dv cv:Nat→V} {E:List Ev} {R:Nat→List Rt} {A D C:Nat→Nat→Nat} (w:Vw u lv av dv cv E R A D C) (hs:srt2 E)
include w hs
theorem says_ok {k:Nat} (hk:k<13) (a b:Nat) (hab:a<b) (hb:b<E.length) (hh:hrt E a=hrt E b):
  evI pg .val (fnn k) [.ip false (vwC u lv av dv cv) 0,.int .i64 (a:Int),.int .i64 (b:Int)] []=some (.bool (rul R A D C E k a b),[]):=by
 have ha:a<E.length:=by omega
 have hr:rul R A D C E k a b=rulE R A D C k E[a] E[b] (btw E a b):=by simp [rul,ha,hb]
 have hlt:=srt2_at hs hab hb hh
 have hh':(E[a]).hart=(E[b]).hart:=by rw [hrt_el ha,hrt_el hb] at hh; exact hh
 rw [hr]
 rcases lt13 hk with rfl | rfl | rfl | rfl | rfl | rfl | rfl | rfl | rfl | rfl | rfl | rfl | rfl
 ·exact vsame_ok w ha hb
 ·exact loads_ok w hab hb
 ·exact written_ok w ha hb
 ·exact fenced_ok w hab hb hh' hlt
 ·exact rules1_ok w ha
 ·exact rules2_ok w hb
 ·exact rules3_ok w ha hb
 ·exact paired_ok w ha hb
 ·exact rules4_ok w ha hb
 ·exact rules5_ok w ha hb
 ·exact rules6_ok w ha hb
 ·exact through_ok w hab hb
 ·exact known_ok w hab hb hlt
def anyR (R:Nat→List Rt) (A D C:Nat→Nat→Nat) (E:List Ev) (k a b:Nat):Bool:=(List.range k).any fun j=>rul R A D C E j a b
variable {p:Nat} {v:V} {T:Nat} {I:Nat→Nat}
theorem All_loop (k:Nat) (hk:k≤13) (H:List Vm.Obj) (W:Nat→Nat) (h:RelAt H p v E.length T I W):
  ∃ H' W',evCI pg (.loop ir_ppo_Alll0) ⟨[.undef,.undef,.undef,.ip false (vwC u lv av dv cv) 0,.undef,.ptr p 0 0,.undef,.undef,.agg tabF,.int .i64 (k:Int),.undef],⟨[[],[]],[],H⟩⟩ =
    some (.exit 0,⟨[.undef,.undef,.undef,.ip false (vwC u lv av dv cv) 0,.undef,.ptr p 0 0,.undef,.undef,.agg tabF,.int .i64 13,.bool false],⟨[[],[]],[],H'⟩⟩) ∧
   RelAt H' p v E.length T I W'∧(∀ i j,i<E.length→j<E.length→(W' i).testBit j=((W i).testBit j || pr E (fun a b=>(List.range' k (13 - k)).any fun q=>rul R A D C E q a b) i j))∧∀ q0,¬ rft p E.length T I q0→H'[q0]?=H[q0]?:=by
 obtain ⟨B,hB⟩:∃ B,B=Vm.C.loop ir_ppo_Alll0:=⟨_,rfl⟩
 by_cases c:k<13
 ·have e3:=succ_i64 c (by omega)
  obtain ⟨H1,W1,r1,r2,r3,r4⟩:=into_ok w hs (says_ok w hs c) H W h
  obtain ⟨H',W',g1,g2,g3,g4⟩:=All_loop (k+1) (by omega) H1 W1 r2
  refine ⟨H',W',?_,g2,fun i j hi hj=>?_,fun q0 h5=>(g4 q0 h5).trans (r4 q0 h5)⟩
  ·rw [← g1,← hB]
   conv=>lhs; rw [s_loop_at hB]
   generalize vwC u lv av dv cv=vc at *
   obtain ⟨ht,ht2⟩:=tabF_get c
   have c12:k≤12:=by omega
   have htl:=tabF_len
   have c':(k:Int)<13:=by omega
   generalize tabF=tf at *
   simp [ir_ppo_Alll0,go_sem,c,c',c12,e3,ht,ht2,htl,r1,evStore,splice,V.cells,V.exp,-Int.natCast_add]
  ·rw [g3 i j hi hj,r3 i j hi hj]
   have hd:List.range' k (13 - k)=k :: List.range' (k+1) (13 - (k+1)):=by
    have:13 - k=(13 - (k+1))+1:=by omega
    rw [this,List.range'_succ]
   rw [hd]
   unfold pr
   simp only [List.any_cons]
   generalize ((List.range' (k+1) (13 - (k+1))).any fun q=>rul R A D C E q i j)=z
   cases (W i).testBit j<;>cases decide (i<j)<;>cases decide (hrt E i=hrt E j)<;>cases rul R A D C E k i j<;>cases z<;>rfl
 ·obtain rfl:k=13:=by omega
  refine ⟨H,W,?_,h,fun i j hi _=>?_,fun _ _=>rfl⟩
  ·rw [← hB,s_loop_at hB]
   generalize vwC u lv av dv cv=vc at *
   generalize tabF=tf at *
   simp [ir_ppo_Alll0,go_sem]
  ·simp [pr]
termination_by 13 - k
end
section
variable {u:V} {lv av dv cv:Nat→V} {E:List Ev} {R:Nat→List Rt} {A D C:Nat→Nat→Nat} (w:Vw u lv av dv cv E R A D C) (hs:srt2 E)
 {x0 x1 x2 x3 x4:V} (hlk:evI pg .val n_ppo_look [.agg [x0,x1,x2,x3,x4]] []=some (.tup [.ip false (vwC u lv av dv cv) 0,.bool true],[])) (hi:isS x0=true∧isS x1=true∧isS x2=true∧isS x3=true∧isS x4=true)
include w hs hlk hi
theorem All_ok2:∃ rv W,evI pg .val n_ppo_All [.agg [x0,x1,x2,x3,x4]] []=some (.ip false [rv] 0,[])∧clean 7 rv=true∧RelV rv E.length W∧∀ i j,i<E.length→j<E.length→(W i).testBit j=pr E (anyR R A D C E 13) i j:=by
 obtain ⟨H1,v,T,I,n1,n2,n3,n4⟩:=New_ok E.length w.le []
 obtain ⟨H',W',g1,g2,g3,_⟩:=All_loop w hs 0 (by omega) H1 _ n2
 obtain ⟨rv,q1,q2,q3⟩:=g2.imm false
 have q2:=fun vs tk=>q2 vs tk 4
 simp only [Nat.reduceAdd] at q2
 refine ⟨rv,W',?_,q3 rfl 4,q1,fun i j hi hj=>?_⟩
 ·have hur:(rows u).length=E.length:=by rw [w.ev.rows,evR_len]
  have hui:=w.ev.is
  have h0:(vwC u lv av dv cv)[0]?=some u:=rfl
  have h0':∀ h:0<(vwC u lv av dv cv).length,(vwC u lv av dv cv)[0]=u:=fun _=>rfl
  rw [Int.natCast_zero] at g1
  have ho:=g2.obj
  simp only [List.length_nil] at n1 g1 ho
  have hol:=get_lt ho
  have hog:=get_el ho hol
  have hrul:=rules_ok
  generalize vwC u lv av dv cv=vc at *
  generalize tabF=tf at *
  obtain ⟨i0,i1,i2,i3,i4⟩:=hi
  rw [s_fn fn_ppo_All]
  simp [ir_ppo_All,go_sem,hlk,h0,h0',hui,hur,n1,hrul,g1,q2,ho,hol,hog,i0,i1,i2,i3,i4,V.cells,V.exp]
 ·rw [g3 i j hi hj]
  simp only [Nat.zero_testBit,Bool.false_or,Nat.sub_zero]
  rfl
theorem All_heap (H : List Vm.Obj) : ∃ H' v T I W, evI pg .heap n_ppo_All [.agg [x0, x1, x2, x3, x4]] H = some (.ptr H.length 0 0, H') ∧ RelAt H' H.length v E.length T I W ∧ (∀ i j, i < E.length → j < E.length → (W i).testBit j = pr E (anyR R A D C E 13) i j) ∧ (∀ q, q < H.length → H'[q]? = H[q]?) ∧ ∀ q, mft E.length T I q → H.length < q := by
  obtain ⟨H1, v, T, I, n1, n2, n3, n4⟩ := New_ok E.length w.le H
  obtain ⟨H', W', g1, g2, g3, g4⟩ := All_loop w hs 0 (by omega) H1 _ n2
  refine ⟨H', v, T, I, W', ?_, g2, fun i j hi hj => ?_, fun q hq => ?_, n4⟩
  · have hur : (rows u).length = E.length := by rw [w.ev.rows, evR_len]
    have hui := w.ev.is
    have h0 : (vwC u lv av dv cv)[0]? = some u := rfl
    have h0' : ∀ h : 0 < (vwC u lv av dv cv).length, (vwC u lv av dv cv)[0] = u := fun _ => rfl
    rw [Int.natCast_zero] at g1
    have hrul := rules_ok
    generalize vwC u lv av dv cv = vc at *
    generalize tabF = tf at *
    obtain ⟨i0, i1, i2, i3, i4⟩ := hi
    rw [s_fn fn_ppo_All]
    simp [ir_ppo_All, go_sem, hlk, h0, h0', hui, hur, n1, hrul, g1, i0, i1, i2, i3, i4, V.cells, V.exp]
  · rw [g3 i j hi hj]
    simp only [Nat.zero_testBit, Bool.false_or, Nat.sub_zero]
    rfl
  · rw [g4 q (fun h => by rcases h with h | h
                          · omega
                          · have := n4 q h; omega), n3 q hq]
end
section
variable {r:Nat} {v:V} {T:Nat} {I:Nat→Nat} {l:List In} {u:V} {f x:Nat} {cs:List V} {CB:Nat→List Vm.Obj→Prop} {own:Nat→Prop} {D:Nat→Nat}
 {L:List Rt} (hu:Sl u (rwR L)) (hLl:l=L.map Rt.ins) (hl:l.length≤512) (hc:cs=[]∨∃ c,cs=[.ptr c 0 0])
 (hcb:∀ i (hi:i<l.length) H,H[x]?=some (.arr [rc (rAt l i)])→CB i H→∃ H2,evI pg .heap f ([.int .i64 (i:Int),.agg (inV l[i]),.ptr x 0 0] ++ cs) H=some (.agg (wc (D i)),H2)∧CB (i+1) H2∧(∀ o,¬ own o→H2[o]?=H[o]?))
 (hfr:∀ i H H',(∀ o,own o→H'[o]?=H[o]?)→CB i H→CB i H') (hox:¬ own x) (hor:∀ o,rft r l.length T I o→¬ own o) (hxr:¬ rft r l.length T I x) (hD:∀ i,i<l.length→D i<2 ^ i)
include hu hLl hl hc hcb hfr hox hor hxr hD
set_option maxRecDepth 20000 in
theorem along_loopG (i:Nat) (hi:i≤l.length) (H:List Vm.Obj) (h1:RelAt H r v l.length T I (aW D i)) (h2:H[x]?=some (.arr [rc (rAt l i)])) (h3:CB i H):
  ∃ H',evCI pg (.loop ir_deps_alongl1) ⟨[.undef,.fn f [] cs,.undef,.ptr r 0 0,.ptr x 0 0,.undef,.undef,.undef,.undef,u,.int .i64 (l.length:Int),.int .i64 (i:Int),.undef,.undef,.undef,.undef,.undef],⟨[[]],[],H⟩⟩ =
    some (.exit 0,⟨[.undef,.fn f [] cs,.undef,.ptr r 0 0,.ptr x 0 0,.undef,.undef,.undef,.undef,u,.int .i64 (l.length:Int),.int .i64 (l.length:Int),.bool false,.undef,.undef,.undef,.undef],⟨[[]],[],H'⟩⟩) ∧
   RelAt H' r v l.length T I (aW D l.length):=by
 obtain ⟨B,hB⟩:∃ B,B=C.loop ir_deps_alongl1:=⟨_,rfl⟩
 by_cases h:i<l.length
 ·have hi2:i<L.length:=by rw [hLl,List.length_map] at h; exact h
  have hli:l[i]=(L[i]).ins:=by simp only [hLl,List.getElem_map]
  have e1:=fun m=>hu.ia (sz:=27) m .i64 (i:=i) (by rw [rwR_len]; exact hi2) (rwR_sz _ _ (List.getElem_mem _))
  simp only [rwR_el] at e1
  have e3:=succ_i64 h (by omega)
  obtain ⟨H2,c1,c2,c3⟩:=hcb i h H h2 h3
  have r2:RelAt H2 r v l.length T I (aW D i):=h1.frame fun o ho=>c3 o (hor o ho)
  have x2:H2[x]?=some (.arr [rc (rAt l i)]):=by rw [c3 x hox]; exact h2
  have hDi:=hD i h
  obtain ⟨n5,hn5⟩:∃ n,n=512:=⟨_,rfl⟩
  have hea:=setEach_ok (D i) n5 hn5 (lt_pow hDi (by omega))
  rw [rt_nL,hn5] at hea
  generalize hq:sb 512 (D i).testBit=q at *
  have hqm:∀ a,a∈q→a<i:=fun a ha=>by
   rw [← hq,mem_sb] at ha
   exact lt_two hDi ha.2
  have hql:q.length≤1000:=by have:=sb_len 512 (D i).testBit; rw [hq] at this; omega
  have hsl:=Sl.ils (iI (nL q))
  obtain ⟨H3,d1,d2,d3,d4⟩:=along_in (r:=r) (v:=v) (T:=T) (I:=I) (.fn f [] cs) x i h u (.int .i64 (l.length:Int)) (.int .i64 (i:Int)) (rC L[i]) (ils (iI (nL q))) q hsl (fun a ha=>Nat.lt_trans (hqm a ha) h) hql 0 (by omega) _ _ r2
  rw [List.drop_zero] at d2
  have r3:RelAt H3 r v l.length T I (aW D (i+1)):=by
   have:aW D (i+1)=addL i q (aW D i):=by rw [← hq]; rfl
   rw [this]; exact d2
  have x3:H3[x]?=some (.arr [rc (rAt l i)]):=by
   rw [d3 x (fun a ha e=>hxr (.inr (.inr ⟨a,ha,e⟩)))]; exact x2
  have b3:CB (i+1) H3:=hfr _ H2 H3 (fun o ho=>d3 o (fun a ha e=>hor o (.inr (.inr ⟨a,ha,e⟩)) ho)) c2
  have hbe:=behind_ok H3 x (rAt l i) i l[i] x3 (by omega)
  rw [← rAt_succ h] at hbe
  have hx3:=get_lt x3
  obtain ⟨H',g1,g2⟩:=along_loopG (i+1) (by omega) (H3.set x (.arr [rc (rAt l (i+1))])) (r3.frame fun o ho=>List.getElem?_set_ne (fun e=>hxr (by rw [e]; exact ho))) (by simp [hx3])
   (hfr _ H3 _ (fun o ho=>List.getElem?_set_ne (fun e=>hox (by rw [e]; exact ho))) b3)
  refine ⟨H',?_,g2⟩
  rw [Int.natCast_zero] at d1
  rw [← g1,← hB]
  conv=>lhs; rw [s_loop_at hB]
  have t27:=rC_take L[i]
  have hwi:=fun (m:Mem)=>wc_imm (D i) m false 6
  simp only [Nat.reduceAdd] at hwi
  have tin:=rC_in' L[i]
  rw [← hli] at tin
  have tl:=rC_len L[i]
  have il:=inV_len l[i]
  generalize rC L[i]=y at *
  generalize inV l[i]=z at *
  generalize hu2:ils (iI (nL q))=u2 at *
  have hd27:List.drop 27 y=[]:=List.drop_of_length_le (by omega)
  have hlen2:(iI (nL q)).length=q.length:=by rw [iI_len,nL_len]
  rcases hc with rfl | ⟨c,rfl⟩
  ·simp only [List.append_nil] at c1
   simp [ir_deps_alongl1,go_sem,h,e1,e3,c1,hea,d1,hbe,hu.is,hsl.is,hsl.rows,hlen2,loadAt,evStore,V.cells,V.exp,splice,t27,tin,tl,hd27,hwi,fpCv,-Int.natCast_add]
  ·simp only [List.cons_append,List.nil_append] at c1
   simp [ir_deps_alongl1,go_sem,h,e1,e3,c1,hea,d1,hbe,hu.is,hsl.is,hsl.rows,hlen2,loadAt,evStore,V.cells,V.exp,splice,t27,tin,tl,hd27,hwi,fpCv,-Int.natCast_add]
 ·obtain rfl:i=l.length:=by omega
  refine ⟨H,?_,h1⟩
  rw [← hB,s_loop_at hB]
  have hrl:(rows u).length=l.length:=by rw [hu.rows,rwR_len,hLl,List.length_map]
  simp [ir_deps_alongl1,go_sem,hu.is]
termination_by l.length - i
end
section
variable {l:List In} {u:V} {f:Nat} {cs:List V} {CB:Nat→List Vm.Obj→Prop} {own:Nat→Prop} {D:Nat→Nat} {L:List Rt} (hu:Sl u (rwR L)) (hLl:l=L.map Rt.ins) (hc:cs=[]∨∃ c,cs=[.ptr c 0 0])
include hu hLl hc
set_option maxRecDepth 20000 in
theorem along_okG (hl:l.length≤512) (H:List Vm.Obj) (h0:CB 0 H) (hown:∀ o,own o→o<H.length)
 (hcb:∀ x i (hi:i<l.length) H,¬ own x→H[x]?=some (.arr [rc (rAt l i)])→CB i H→∃ H2,evI pg .heap f ([.int .i64 (i:Int),.agg (inV l[i]),.ptr x 0 0] ++ cs) H=some (.agg (wc (D i)),H2)∧CB (i+1) H2∧(∀ o,¬ own o→H2[o]?=H[o]?))
 (hfr:∀ i H H',(∀ o,own o→H'[o]?=H[o]?)→CB i H→CB i H') (hD:∀ i,i<l.length→D i<2 ^ i):
  ∃ H' v T I,evI pg .heap n_deps_along [u,.fn f [] cs] H=some (.ptr H.length 0 0,H')∧RelAt H' H.length v l.length T I (aW D l.length):=by
 obtain ⟨H1,v,T,I,n1,n2,n3,n4⟩:=New_ok l.length hl H
 have hr1:=get_lt n2.obj
 have hrf:∀ o,rft H.length l.length T I o→H.length≤o∧o<H1.length:=fun o ho=>⟨by
  rcases ho with rfl | ho
  ·exact Nat.le_refl _
  ·exact Nat.le_of_lt (n4 o ho),n2.ftlt ho⟩
 have e2:∀ q,q<H1.length→(H1 ++ [Vm.Obj.arr [rc (fun _=>0)]])[q]?=H1[q]?:=fun q hq=>List.getElem?_append_left hq
 obtain ⟨H',r1,r2⟩:=along_loopG (r:=H.length) (v:=v) (T:=T) (I:=I) (x:=H1.length) (f:=f) hu hLl hl hc (fun i hi H2 hx hC=>hcb H1.length i hi H2 (fun ho=>by have:=hown _ ho; omega) hx hC) hfr (fun ho=>by have:=hown _ ho; omega)
  (fun o ho hw=>by have:=hrf o ho; have:=hown o hw; omega) (fun ho=>by have:=hrf _ ho; omega) hD 0 (by omega) (H1 ++ [.arr [rc (fun _=>0)]])
  (n2.frame fun o ho=>e2 o (hrf o ho).2) (by simp [rAt]) (hfr 0 H _ (fun o ho=>by have:=hown o ho; rw [e2 o (by omega),n3 o this]) h0)
 refine ⟨H',v,T,I,?_,r2⟩
 rw [Int.natCast_zero] at r1
 have hlen:=rc_len (fun _=>0)
 have hrl:(rows u).length=l.length:=by rw [hu.rows,rwR_len,hLl,List.length_map]
 rw [s_fn fn_deps_along]
 simp only [ir_deps_along,← rep256,rc_zero]
 generalize rc (fun _=>0)=rcs at *
 rcases hc with rfl | ⟨c,rfl⟩
 ·simp [go_sem,hu.is,hrl,n1,fill,V.cells,V.exp,hlen,r1,-List.length_replicate]
 ·simp [go_sem,hu.is,hrl,n1,fill,V.cells,V.exp,hlen,r1,-List.length_replicate]
end
def cAt (l:List In):Nat→Nat
 | 0=>0
 | i+1=>match l[i]? with
  | some y=>cAt l i ||| if crs y.op then ofS (rAt l i) (srcs y) else 0
  | none=>cAt l i
theorem cAt_succ {l:List In} {i:Nat} (h:i<l.length):cAt l (i+1)=(cAt l i ||| if crs l[i].op then ofS (rAt l i) (srcs l[i]) else 0):=by
 simp [cAt,h]
theorem cAt_lt (l:List In):∀ i,cAt l i<2 ^ i
 | 0=>by simp [cAt]
 | i+1=>by
  have ih:cAt l i<2 ^ (i+1):=lt_pow (cAt_lt l i) (by omega)
  unfold cAt
  cases l[i]? with
  | none=>exact ih
  | some y=>
   refine Nat.or_lt_two_pow ih ?_
   cases crs y.op with
   | true=>exact lt_pow (ofS_lt (rAt_lt l i) _) (by omega)
   | false=>exact Nat.two_pow_pos _
def hA (l:List In) (i:Nat):Nat:=match l[i]? with
 | some y=>dA (rAt l i) y
 | none=>0
def hD (l:List In) (i:Nat):Nat:=match l[i]? with
 | some y=>dD (rAt l i) y
 | none=>0
theorem hA_lt (l:List In) (i:Nat):hA l i<2 ^ i:=by
 unfold hA
 cases l[i]? with
 | none=>exact Nat.two_pow_pos _
 | some y=>
  show dA (rAt l i) y<2 ^ i
  unfold dA
  split
  ·exact ofS_lt (rAt_lt l i) _
  ·exact Nat.two_pow_pos _
theorem hD_lt (l:List In) (i:Nat):hD l i<2 ^ i:=by
 unfold hD
 cases l[i]? with
 | none=>exact Nat.two_pow_pos _
 | some y=>
  show dD (rAt l i) y<2 ^ i
  unfold dD
  split
  ·exact ofS_lt (rAt_lt l i) _
  ·exact Nat.two_pow_pos _
section
variable {l:List In} {u:V} {L:List Rt} (hu:Sl u (rwR L)) (hLl:l=L.map Rt.ins)
include hu hLl
theorem Address_okG (hl:l.length≤512):∃ rv,evI pg .val n_deps_Address [u] []=some (.ip false [rv] 0,[])∧RelV rv l.length (aW (hA l) l.length):=by
 obtain ⟨H',v,T,I,r1,r2⟩:=along_okG (f:=n_deps_Address_1) (cs:=[]) (CB:=fun _ _=>True) (own:=fun _=>False) (D:=hA l) hu hLl (.inl rfl) hl [] trivial (fun _ h=>h.elim)
  (fun x i hi H _ hx _=>⟨H,by
   have h:=Address_1_ok H x (rAt l i) (i:Int) l[i] hx
   have e:hA l i=dA (rAt l i) l[i]:=by simp [hA,hi]
   rw [e,List.append_nil]; exact h,trivial,fun _ _=>rfl⟩) (fun _ _ _ _ h=>h) (fun i _=>hA_lt l i)
 obtain ⟨w,w1,w2,w3⟩:=r2.imm false
 have w2:=fun vs tk=>w2 vs tk 4
 have ho:=r2.obj
 simp only [List.length_nil,Nat.reduceAdd] at r1 ho w2
 have hol:=get_lt ho
 have hg:=get_el ho hol
 refine ⟨w,?_,w1⟩
 rw [s_fn fn_deps_Address]
 simp [ir_deps_Address,go_sem,hu.is,r1,ho,hol,hg,w2]
theorem Data_okG (hl:l.length≤512):∃ rv,evI pg .val n_deps_Data [u] []=some (.ip false [rv] 0,[])∧RelV rv l.length (aW (hD l) l.length):=by
 obtain ⟨H',v,T,I,r1,r2⟩:=along_okG (f:=n_deps_Data_1) (cs:=[]) (CB:=fun _ _=>True) (own:=fun _=>False) (D:=hD l) hu hLl (.inl rfl) hl [] trivial (fun _ h=>h.elim)
  (fun x i hi H _ hx _=>⟨H,by
   have h:=Data_1_ok H x (rAt l i) (i:Int) l[i] hx
   have e:hD l i=dD (rAt l i) l[i]:=by simp [hD,hi]
   rw [e,List.append_nil]; exact h,trivial,fun _ _=>rfl⟩) (fun _ _ _ _ h=>h) (fun i _=>hD_lt l i)
 obtain ⟨w,w1,w2,w3⟩:=r2.imm false
 have w2:=fun vs tk=>w2 vs tk 4
 have ho:=r2.obj
 simp only [List.length_nil,Nat.reduceAdd] at r1 ho w2
 have hol:=get_lt ho
 have hg:=get_el ho hol
 refine ⟨w,?_,w1⟩
 rw [s_fn fn_deps_Data]
 simp [ir_deps_Data,go_sem,hu.is,r1,ho,hol,hg,w2]
theorem Course_okG (hl:l.length≤512):∃ rv,evI pg .val n_deps_Course [u] []=some (.ip false [rv] 0,[])∧RelV rv l.length (aW (cAt l) l.length):=by
 obtain ⟨H',v,T,I,r1,r2⟩:=along_okG (f:=n_deps_Course_1) (cs:=[.ptr 0 0 0]) (CB:=fun i H=>H[0]?=some (.arr [wc (cAt l i)])) (own:=fun o=>o=0) (D:=cAt l) hu hLl (.inr ⟨0,rfl⟩) hl [.arr [wc 0]] rfl (fun o h=>by subst h; simp)
  (fun x i hi H hxo hx hC=>by
   obtain ⟨H2,g1,g2,g3⟩:=Course_1_ok H x (rAt l i) (i:Int) l[i] hx 0 (cAt l i) (fun e=>hxo e.symm) hC
   refine ⟨H2,by simpa using g1,?_,fun o ho=>g3 o ho⟩
   rw [cAt_succ hi]; exact g2) (fun i H H' h1 h2=>by rw [h1 0 rfl]; exact h2) (fun i _=>cAt_lt l i)
 obtain ⟨w,w1,w2,w3⟩:=r2.imm false
 have w2:=fun vs tk=>w2 vs tk 4
 have ho:=r2.obj
 simp only [List.length_singleton,Nat.reduceAdd] at r1 ho w2
 have hol:=get_lt ho
 have hg:=get_el ho hol
 refine ⟨w,?_,w1⟩
 rw [s_fn fn_deps_Course]
 simp only [ir_deps_Course,← wc_zero]
 generalize wc 0=c0 at *
 simp [go_sem,hu.is,r1,ho,hol,hg,w2]
end
end Go.Proofs.YtimiademofajeaaGreatDoor
