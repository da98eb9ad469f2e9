/- Lemmas (no claim): K23q, K20r, K20a, K20c. -/
import Derived.Test.YtimiademofajeaaGreatDoorP10
set_option linter.unusedSimpArgs false
set_option linter.unusedVariables false
set_option maxRecDepth 20000
namespace Go.Proofs.YtimiademofajeaaGreatDoor
open Go Go.Vm
structure Bd (r:Rt):Prop where
 op:-9223372036854775808≤r.ins.op∧r.ins.op≤9223372036854775807
 ad:0≤r.addr∧r.addr<18446744073709551616
 rd:0≤r.rdd∧r.rdd<18446744073709551616
 wr:0≤r.wro∧r.wro<18446744073709551616
 id:-9223372036854775808≤r.id∧r.id≤9223372036854775807
 pa:-9223372036854775808≤r.pair∧r.pair≤9223372036854775807
 tg:∀ k,-9223372036854775808≤r.tg k∧r.tg k≤9223372036854775807
theorem pv_in {n:Nat} {vs:List V} (h:PV Tryz.prog (n+2) 42 vs):∃ x:In,vs=inV x∧-9223372036854775808≤x.op∧x.op≤9223372036854775807:=by
 obtain ⟨_,_,rfl,h1,_,_,rfl,h2,_,_,rfl,h3,_,_,rfl,h4,_,_,rfl,h5,_,_,rfl,h6,_,_,rfl,h7,_,_,rfl,h8,_,_,rfl,h9,rfl⟩:=pv_struct Tryz.underlying42 h
 obtain ⟨a1,rfl,hb⟩:=pv_i64 Tryz.underlying3 h1
 obtain ⟨a2,rfl,_⟩:=pv_i64 Tryz.underlying3 h2
 obtain ⟨a3,rfl,_⟩:=pv_i64 Tryz.underlying3 h3
 obtain ⟨a4,rfl,_⟩:=pv_i64 Tryz.underlying3 h4
 obtain ⟨a5,rfl,_⟩:=pv_i64 Tryz.underlying2 h5
 obtain ⟨a6,rfl⟩:=pv_bool Tryz.underlying4 h6
 obtain ⟨a7,rfl⟩:=pv_bool Tryz.underlying4 h7
 obtain ⟨a8,rfl,_⟩:=pv_i64 Tryz.underlying3 h8
 obtain ⟨a9,rfl,_⟩:=pv_i64 Tryz.underlying3 h9
 exact ⟨⟨a1,a2,a3,a4,a5,a8,a9,a6,a7⟩,rfl,hb⟩
theorem pv_rt {n:Nat} {vs:List V} (h:PV Tryz.prog (n+4) 48 vs):∃ r:Rt,vs=rC r∧Bd r:=by
 obtain ⟨d,_,rfl,h1,_,_,rfl,h2,_,_,rfl,h3,_,_,rfl,h4,_,_,rfl,h5,rfl⟩:=pv_struct Tryz.underlying48 h
 obtain ⟨_,_,rfl,d1,_,_,rfl,d2,_,_,rfl,d3,_,_,rfl,d4,_,_,rfl,d5,_,_,rfl,d6,_,_,rfl,d7,_,_,rfl,d8,rfl⟩:=pv_struct Tryz.underlying44 h1
 have h4':PVs (PV Tryz.prog (n+2)) [3,3,3,3,3,3,3,3] _:=pv_array Tryz.underlying46 h4
 obtain ⟨_,_,rfl,t1,_,_,rfl,t2,_,_,rfl,t3,_,_,rfl,t4,_,_,rfl,t5,_,_,rfl,t6,_,_,rfl,t7,_,_,rfl,t8,rfl⟩:=h4'
 obtain ⟨a1,rfl,_⟩:=pv_u64 Tryz.underlying40 d1
 obtain ⟨x,rfl,hx⟩:=pv_in d2
 obtain ⟨a3,rfl,_⟩:=pv_i64 Tryz.underlying3 d3
 obtain ⟨a4,rfl,k4⟩:=pv_u64 Tryz.underlying40 d4
 obtain ⟨a5,rfl,k5⟩:=pv_u64 Tryz.underlying40 d5
 obtain ⟨a6,rfl,k6⟩:=pv_u64 Tryz.underlying40 d6
 obtain ⟨a7,rfl,k7⟩:=pv_u64 Tryz.underlying40 d7
 obtain ⟨a8,rfl⟩:=pv_bool Tryz.underlying4 d8
 obtain ⟨b1,rfl,k1⟩:=pv_i64 Tryz.underlying3 h2
 obtain ⟨b2,rfl,_⟩:=pv_flt Tryz.underlying45 h3
 obtain ⟨b3,rfl,k3⟩:=pv_i64 Tryz.underlying3 h5
 obtain ⟨g0,rfl,q0⟩:=pv_i64 Tryz.underlying3 t1
 obtain ⟨g1,rfl,q1⟩:=pv_i64 Tryz.underlying3 t2
 obtain ⟨g2,rfl,q2⟩:=pv_i64 Tryz.underlying3 t3
 obtain ⟨g3,rfl,q3⟩:=pv_i64 Tryz.underlying3 t4
 obtain ⟨g4,rfl,q4⟩:=pv_i64 Tryz.underlying3 t5
 obtain ⟨g5,rfl,q5⟩:=pv_i64 Tryz.underlying3 t6
 obtain ⟨g6,rfl,q6⟩:=pv_i64 Tryz.underlying3 t7
 obtain ⟨g7,rfl,q7⟩:=pv_i64 Tryz.underlying3 t8
 refine ⟨⟨x,a1,a3,a4,a5,a6,a7,b1,b3,a8,b2,fun k=>[g0,g1,g2,g3,g4,g5,g6,g7].getD k 0⟩,rfl,⟨hx,⟨Int.natCast_nonneg _,by simp only; omega⟩,⟨Int.natCast_nonneg _,by simp only; omega⟩,⟨Int.natCast_nonneg _,by simp only; omega⟩,k1,k3,fun k=>?_⟩⟩
 match k with
 | 0=>exact q0
 | 1=>exact q1
 | 2=>exact q2
 | 3=>exact q3
 | 4=>exact q4
 | 5=>exact q5
 | 6=>exact q6
 | 7=>exact q7
 | k+8=>exact ⟨show -9223372036854775808≤(0:Int) by omega,show (0:Int)≤9223372036854775807 by omega⟩
def bdL (l:List Rt):Prop:=∀ r∈l,Bd r
theorem bdL.ok {l:List Rt} (h:bdL l):okL l:=fun r hr=>(h r hr).ad.1
theorem pv_rts {n:Nat}:∀ es:List (List V),(∀ q∈es,PV Tryz.prog (n+4) 48 q)→∃ l:List Rt,es=rwR l∧bdL l
 | [],_=>⟨[],rfl,by simp [bdL]⟩
 | q :: es,h=>by
  obtain ⟨w,rfl,hw⟩:=pv_rt (h q (by simp))
  obtain ⟨l,rfl,hl⟩:=pv_rts es fun q hq=>h q (by simp [hq])
  refine ⟨w :: l,rfl,fun x hx=>?_⟩
  rcases List.mem_cons.1 hx with rfl | hx
  ·exact hw
  ·exact hl x hx
theorem pv_list {n:Nat} {vs:List V} (h:PV Tryz.prog (n+5) 23 vs):∃ (v:V) (l:List Rt),vs=[v]∧Sl v (rwR l)∧bdL l∧l.length≤maxLen:=by
 rcases pv_slice Tryz.underlying23 h with rfl | ⟨es,rfl,hl,hes⟩
 ·exact ⟨_,[],rfl,.nils,by simp [bdL],by simp [maxLen]⟩
 ·obtain ⟨l,rfl,hok⟩:=pv_rts es hes
  exact ⟨_,l,rfl,.isl _ _,hok,by rwa [rwR_len] at hl⟩
theorem pv_u8s {n:Nat}:∀ es:List (List V),(∀ q∈es,PV Tryz.prog (n+1) 5 q)→∃ l:List Nat,es=byV l∧∀ b∈l,b<256
 | [],_=>⟨[],rfl,by simp⟩
 | q :: es,h=>by
  obtain ⟨w,rfl,hw⟩:=pv_u8 Tryz.underlying5 (h q (by simp))
  obtain ⟨l,rfl,hl⟩:=pv_u8s es fun q hq=>h q (by simp [hq])
  refine ⟨w :: l,rfl,fun x hx=>?_⟩
  rcases List.mem_cons.1 hx with rfl | hx
  ·exact hw
  ·exact hl x hx
theorem pv_ints {n:Nat}:∀ es:List (List V),(∀ q∈es,PV Tryz.prog (n+1) 3 q)→∃ l:List Int,es=iI l∧∀ b∈l,-9223372036854775808≤b∧b≤9223372036854775807
 | [],_=>⟨[],rfl,by simp⟩
 | q :: es,h=>by
  obtain ⟨w,rfl,hw⟩:=pv_i64 Tryz.underlying3 (h q (by simp))
  obtain ⟨l,rfl,hl⟩:=pv_ints es fun q hq=>h q (by simp [hq])
  refine ⟨w :: l,rfl,fun x hx=>?_⟩
  rcases List.mem_cons.1 hx with rfl | hx
  ·exact hw
  ·exact hl x hx
def slR (q:List V):List (List V):=q.map fun v=>[v]
theorem slR_len (q:List V):(slR q).length=q.length:=by simp [slR]
theorem slR_el (q:List V) (i:Nat) (h:i<(slR q).length):(slR q)[i]=[q[i]'(by simpa [slR] using h)]:=by simp [slR]
theorem slR_sz (q:List V):∀ e∈slR q,e.length=1:=by
 intro e he
 obtain ⟨w,_,rfl⟩:=List.mem_map.1 he
 rfl
def SlI (q:List V) (L:List (List Int)):Prop:=L.length=q.length∧∀ (i:Nat) (v:V) (l:List Int),q[i]?=some v→L[i]?=some l→Sl v (iI l)
theorem pv_cos {n:Nat}:∀ es:List (List V),(∀ q∈es,PV Tryz.prog (n+2) 28 q)→∃ (q:List V) (L:List (List Int)),es=slR q∧SlI q L
 | [],_=>⟨[],[],rfl,rfl,fun i v l h=>by simp at h⟩
 | q :: es,h=>by
  obtain ⟨l,L,rfl,hl⟩:=pv_cos es fun q hq=>h q (by simp [hq])
  have key:∀ v a,Sl v (iI a)→q=[v]→∃ (l':List V) (L':List (List Int)),(q :: slR l)=slR l'∧SlI l' L':=by
   rintro v a hv rfl
   refine ⟨v :: l,a :: L,rfl,by simp [hl.1],fun i v' l' h1 h2=>?_⟩
   cases i with
   | zero=>simp at h1 h2; subst h1; subst h2; exact hv
   | succ i=>exact hl.2 i v' l' (by simpa using h1) (by simpa using h2)
  rcases pv_slice Tryz.underlying28 (h q (by simp)) with e | ⟨es',e,_,hes⟩
  ·exact key _ [] .nils e
  ·obtain ⟨a,rfl,_⟩:=pv_ints es' hes
   exact key _ a (.isl _ _) e
structure Cn (v:V) (x0:V) (lv:Nat→V) (x4:V) (R:Nat→List Rt) (img:List Nat) (cv:List V) (co:List (List Int)):Prop where
 eq:v=.agg [x0,lv 0,lv 1,lv 2,x4]
 im:Sl x0 (byV img)
 ib:(∀ b∈img,b<256)∧img.length≤maxLen
 li:∀ h,h<3→Sl (lv h) (rwR (R h))∧bdL (R h)∧(R h).length≤maxLen
 co4:Sl x4 (slR cv)
 cs:SlI cv co
 cl:cv.length≤maxLen
theorem arg_cd {v:V} (h:ArgPV Tryz.prog 8 27 v):∃ x0 lv x4 R img cv co,Cn v x0 lv x4 R img cv co:=by
 obtain ⟨vs,hvs,hp⟩:=arg_struct Tryz.underlying27 h
 clear h
 subst hvs
 obtain ⟨a,_,rfl,h1,b,_,rfl,h2,c,_,rfl,h3,rfl⟩:=hp
 have h2':PVs (PV Tryz.prog 6) [23,23,23] b:=pv_array Tryz.underlying24 h2
 obtain ⟨_,_,rfl,l0,_,_,rfl,l1,_,_,rfl,l2,rfl⟩:=h2'
 obtain ⟨v0,r0,rfl,s0,o0,m0⟩:=pv_list (n:=1) l0
 obtain ⟨v1,r1,rfl,s1,o1,m1⟩:=pv_list (n:=1) l1
 obtain ⟨v2,r2,rfl,s2,o2,m2⟩:=pv_list (n:=1) l2
 have hx0:∃ x0 img,a=[x0]∧Sl x0 (byV img)∧(∀ b∈img,b<256)∧img.length≤maxLen:=by
  rcases pv_slice Tryz.underlying22 h1 with rfl | ⟨es,rfl,hl,hes⟩
  ·exact ⟨_,[],rfl,.nils,by simp,by simp [maxLen]⟩
  ·obtain ⟨l,rfl,hok⟩:=pv_u8s (n:=5) es hes
   exact ⟨_,l,rfl,.isl _ _,hok,by rwa [byV_len] at hl⟩
 obtain ⟨x0,img,rfl,i0,ib⟩:=hx0
 have hx4:∃ x4 cv co,c=[x4]∧Sl x4 (slR cv)∧SlI cv co∧cv.length≤maxLen:=by
  rcases pv_slice Tryz.underlying25 h3 with rfl | ⟨es,rfl,hl,hes⟩
  ·exact ⟨_,[],[],rfl,.nils,⟨rfl,fun i v l h=>by simp at h⟩,by simp [maxLen]⟩
  ·obtain ⟨q,L,rfl,hq⟩:=pv_cos (n:=4) es hes
   exact ⟨_,q,L,rfl,.isl _ _,hq,by rwa [slR_len] at hl⟩
 obtain ⟨x4,cv,co,rfl,c4,cs,cl⟩:=hx4
 refine ⟨x0,fun h=>if h=0 then v0 else if h=1 then v1 else v2,x4,fun h=>if h=0 then r0 else if h=1 then r1 else r2,img,cv,co,rfl,i0,ib,fun h hh=>?_,c4,cs,cl⟩
 rcases lt3 hh with rfl | rfl | rfl
 ·exact ⟨s0,o0,m0⟩
 ·exact ⟨s1,o1,m1⟩
 ·exact ⟨s2,o2,m2⟩
section
variable {v x0:V} {lv:Nat→V} {x4:V} {R:Nat→List Rt} {img:List Nat} {cv:List V} {co:List (List Int)} (c:Cn v x0 lv x4 R img cv co)
include c
theorem Great_l0 (i:Nat) (hi:i≤3):
  evCI pg (.loop ir_undertowref20_Greatl0) ⟨[.undef,.lp 0 0,.undef,.int .i64 (i:Int),.undef,.undef,.undef,.undef,.undef,.undef],⟨[[x0,lv 0,lv 1,lv 2,x4]],[],[]⟩⟩ =
   some (if (List.range' i (3 - i)).any (fun h=>decide (60<(R h).length))=true then (.ret,⟨[.undef,.undef,.bool true,.undef,.undef,.undef,.undef,.undef,.undef,.undef],⟨[[]],[],[]⟩⟩)
    else (.exit 0,⟨[.undef,.lp 0 0,.undef,.int .i64 3,.undef,.undef,.bool false,.undef,.undef,.undef],⟨[[x0,lv 0,lv 1,lv 2,x4]],[],[]⟩⟩)):=by
 obtain ⟨B,hB⟩:∃ B,B=Vm.C.loop ir_undertowref20_Greatl0:=⟨_,rfl⟩
 by_cases h:i<3
 ·have e3:=succ_i64 h (by omega)
  have ih:=Great_l0 (i+1) (by omega)
  obtain ⟨l1,l2,l3⟩:=c.li i h
  have hrl:(rows (lv i)).length=(R i).length:=by rw [l1.rows,rwR_len]
  have his:=l1.is
  have hd:List.range' i (3 - i)=i :: List.range' (i+1) (3 - (i+1)):=by
   have:3 - i=(3 - (i+1))+1:=by omega
   rw [this,List.range'_succ]
  rw [hd,List.any_cons]
  rw [← hB] at ih
  rw [← hB,s_loop_at hB]
  by_cases q:60<(R i).length
  ·have q':(60:Int)<((R i).length:Int):=by omega
   rw [decide_eq_true q,Bool.true_or,if_pos rfl]
   rcases lt3 h with rfl | rfl | rfl<;>simp [ir_undertowref20_Greatl0,go_sem,his,hrl,q,q']
  ·have q':¬ (60:Int)<((R i).length:Int):=by omega
   have q2:((R i).length:Int)≤60:=by omega
   rw [decide_eq_false q,Bool.false_or,← ih]
   rcases lt3 h with rfl | rfl | rfl<;>simp at e3<;>simp [ir_undertowref20_Greatl0,go_sem,his,hrl,q,q',q2,e3]
 ·obtain rfl:i=3:=by omega
  rw [← hB,s_loop_at hB]
  simp [ir_undertowref20_Greatl0,go_sem]
termination_by 3 - i
theorem Great_l1 (i:Nat) (hi:i≤cv.length):
  ∃ b,(b=false→∀ (j:Nat) (l:List Int),i≤j→co[j]?=some l→l.length≤100)∧evCI pg (.loop ir_undertowref20_Greatl1) ⟨[.undef,.lp 0 0,.undef,.undef,.int .i64 (i:Int),.undef,.undef,.undef,.undef,.undef],⟨[[x0,lv 0,lv 1,lv 2,x4]],[],[]⟩⟩ =
   some (if b=true then (.ret,⟨[.undef,.undef,.bool true,.undef,.undef,.undef,.undef,.undef,.undef,.undef],⟨[[]],[],[]⟩⟩)
    else (.exit 2,⟨[.undef,.lp 0 0,.undef,.undef,.int .i64 (cv.length:Int),.undef,.undef,.undef,.bool false,.undef],⟨[[x0,lv 0,lv 1,lv 2,x4]],[],[]⟩⟩)):=by
 obtain ⟨B,hB⟩:∃ B,B=Vm.C.loop ir_undertowref20_Greatl1:=⟨_,rfl⟩
 have hml:maxLen≤9223372036854775807:=by decide
 have hcl:=c.cl
 have h4:=c.co4
 have hrl:(rows x4).length=cv.length:=by rw [h4.rows,slR_len]
 have h4i:=h4.is
 by_cases h:i<cv.length
 ·have e3:=succ_i64 h (by omega)
  obtain ⟨b,hb,ih⟩:=Great_l1 (i+1) (by omega)
  have e1:=fun m=>h4.ia (sz:=1) m .i64 (i:=i) (by rw [slR_len]; exact h) (slR_sz _ _ (List.getElem_mem _))
  simp only [slR_el] at e1
  have hco:i<co.length:=by rw [c.cs.1]; exact h
  have hsl:=c.cs.2 i cv[i] co[i] (List.getElem?_eq_getElem h) (List.getElem?_eq_getElem hco)
  have hs:isS cv[i]=true:=hsl.is
  have hsr:(rows cv[i]).length=(co[i]).length:=by rw [hsl.rows]; simp [iI]
  clear hsl
  rw [← hB] at ih
  generalize cv[i]=y at *
  by_cases q:100<(rows y).length
  ·have q':(100:Int)<((rows y).length:Int):=by omega
   refine ⟨true,(fun h=>by cases h),?_⟩
   rw [← hB,s_loop_at hB,if_pos rfl]
   simp [ir_undertowref20_Greatl1,go_sem,h,h4i,hrl,e1,hs,q,q']
  ·have q':¬ (100:Int)<((rows y).length:Int):=by omega
   have q2:((rows y).length:Int)≤100:=by omega
   refine ⟨b,fun hb0 j l hj hl=>?_,?_⟩
   ·rcases Nat.eq_or_lt_of_le hj with rfl | hj
    ·rw [List.getElem?_eq_getElem hco] at hl
     cases hl
     omega
    ·exact hb hb0 j l hj hl
   ·rw [← hB,s_loop_at hB,← ih]
    simp [ir_undertowref20_Greatl1,go_sem,h,h4i,hrl,e1,hs,e3,q,q',q2,-Int.natCast_add]
 ·obtain rfl:i=cv.length:=by omega
  refine ⟨false,fun _ j l hj hl=>?_,?_⟩
  ·have:=(List.getElem?_eq_some_iff.1 hl).1
   have:=c.cs.1
   omega
  rw [← hB,s_loop_at hB,if_neg (by simp)]
  simp [ir_undertowref20_Greatl1,go_sem,h4i,hrl]
termination_by cv.length - i
theorem Great_ok:∃ g,evI pg .val n_undertowref20_Great [v] []=some (.bool g,[])∧(g=false→(∀ h,h<3→(R h).length≤60)∧img.length≤200∧cv.length≤300∧∀ l∈co,l.length≤100):=by
 have l0:=Great_l0 c 0 (by omega)
 obtain ⟨b,hb,l1⟩:=Great_l1 c 0 (by omega)
 have hxi:(rows x0).length=img.length:=by rw [c.im.rows,byV_len]
 have hxc:(rows x4).length=cv.length:=by rw [c.co4.rows,slR_len]
 rw [Int.natCast_zero] at l0 l1
 have i0:=c.im.is
 have i4:=c.co4.is
 have j0:=(c.li 0 (by omega)).1.is
 have j1:=(c.li 1 (by omega)).1.is
 have j2:=(c.li 2 (by omega)).1.is
 rw [c.eq]
 by_cases q0:200<(rows x0).length
 ·have q0':(200:Int)<((rows x0).length:Int):=by omega
  refine ⟨true,?_,fun h=>by cases h⟩
  rw [s_fn fn_undertowref20_Great]
  simp [ir_undertowref20_Great,go_sem,i0,i4,j0,j1,j2,q0,q0']
 ·have q0':¬ (200:Int)<((rows x0).length:Int):=by omega
  have q02:((rows x0).length:Int)≤200:=by omega
  by_cases q1:300<(rows x4).length
  ·have q1':(300:Int)<((rows x4).length:Int):=by omega
   refine ⟨true,?_,fun h=>by cases h⟩
   rw [s_fn fn_undertowref20_Great]
   simp [ir_undertowref20_Great,go_sem,i0,i4,j0,j1,j2,q0,q0',q02,q1,q1']
  ·have q1':¬ (300:Int)<((rows x4).length:Int):=by omega
   have q12:((rows x4).length:Int)≤300:=by omega
   by_cases q2:(List.range' 0 (3 - 0)).any (fun h=>decide (60<(R h).length))=true
   ·rw [if_pos q2] at l0
    refine ⟨true,?_,fun h=>by cases h⟩
    rw [s_fn fn_undertowref20_Great]
    simp [ir_undertowref20_Great,go_sem,i0,i4,j0,j1,j2,q0,q0',q02,q1,q1',q12,l0]
   ·rw [if_neg q2] at l0
    cases b with
    | true=>
     rw [if_pos rfl] at l1
     refine ⟨true,?_,fun h=>by cases h⟩
     rw [s_fn fn_undertowref20_Great]
     simp [ir_undertowref20_Great,go_sem,i0,i4,j0,j1,j2,q0,q0',q02,q1,q1',q12,l0,l1]
    | false=>
     rw [if_neg (by simp)] at l1
     refine ⟨false,?_,fun _=>⟨fun h hh=>?_,by omega,by omega,fun l hl=>?_⟩⟩
     ·rw [s_fn fn_undertowref20_Great]
      simp [ir_undertowref20_Great,go_sem,i0,i4,j0,j1,j2,q0,q0',q02,q1,q1',q12,l0,l1]
     ·apply Nat.le_of_not_lt
      intro hc
      apply q2
      rw [List.any_eq_true]
      exact ⟨h,by rw [List.mem_range']; exact ⟨h,by omega,by omega⟩,by simp only [decide_eq_true_eq]; exact hc⟩
     ·obtain ⟨j,hj⟩:=List.getElem?_of_mem hl
      exact hb rfl j l (Nat.zero_le _) hj
end
theorem memO_sz (op:Int):memO op=decide (0<szO op):=by
 rcases op_cases (op:=op) with h | ⟨k,rfl,h1,h2⟩
 ·have e:szO op=0:=by unfold noOp at h; unfold szO; rw [if_pos h]
  have e2:srtO op=0:=by unfold noOp at h; unfold srtO; rw [if_pos h]
  rw [e]; unfold memO; rw [e2]; rfl
 ·have e:srtO (k:Int)=srt k:=by unfold srtO; rw [if_neg (by omega)]; simp
  have e1:szO (k:Int)=sz k:=by unfold szO; rw [if_neg (by omega)]; simp
  have e2:memO (k:Int)=decide (0<sz k):=by unfold memO; rw [e]; exact (sz_mem ⟨k,h2⟩).symm
  rw [e1,e2]
section
variable {lv:Nat→V} {R:Nat→List Rt} (w:Cd lv R) (hb:∀ h,h<3→bdL (R h)) {x0 x4:V} (i0:isS x0=true) (i4:isS x4=true)
include w hb
end
section
variable {lv:Nat→V} {R:Nat→List Rt} (w:Cd lv R) (hb:∀ h,h<3→bdL (R h)) {x0 x4:V}
include w hb
end
/-! ### where -/
def fdx (p:Ev→Bool) (E:List Ev) (i:Nat):Option Nat:=((E.drop i).findIdx? p).map (·+i)
theorem fdx_step {p:Ev→Bool} {E:List Ev} {i:Nat} (h:i<E.length):fdx p E i=if p E[i] then some i else fdx p E (i+1):=by
 unfold fdx
 rw [List.drop_eq_getElem_cons h,List.findIdx?_cons]
 split
 ·simp
 ·cases (E.drop (i+1)).findIdx? p with
  | none=>rfl
  | some j=>simp; omega
theorem fdx_end {p:Ev→Bool} {E:List Ev}:fdx p E E.length=none:=by simp [fdx]
def fdn:Option Nat→Int
 | some i=>(i:Int)
 | none=>-1
section
variable {E:List Ev} {u:V} (hu:Sl u (evR E)) (hl:E.length≤100000) {F:Nat} {c:V} (hc:c.exp=some c) {p:Ev→Bool} (H:List Vm.Obj)
 (hp:∀ e∈E,evI pg .heap F [.agg (evC e),c] H=some (.bool (p e),H))
include hu hl hc hp
theorem IF_l0 (i:Nat) (hi:i≤E.length):
  evCI pg (.loop ir_slices_IndexFunc_api_Event_api_Eventl0) ⟨[u,.fn F [] [c],.undef,.undef,.int .i64 (E.length:Int),.int .i64 (i:Int),.undef,.undef],⟨[],[],H⟩⟩ =
   some (match fdx p E i with
    | some j=>(.ret,⟨[.undef,.undef,.int .i64 (j:Int),.undef,.undef,.undef,.undef,.undef],⟨[],[],H⟩⟩)
    | none=>(.exit 0,⟨[u,.fn F [] [c],.undef,.undef,.int .i64 (E.length:Int),.int .i64 (E.length:Int),.bool false,.undef],⟨[],[],H⟩⟩)):=by
 obtain ⟨B,hB⟩:∃ B,B=Vm.C.loop ir_slices_IndexFunc_api_Event_api_Eventl0:=⟨_,rfl⟩
 have hui:=hu.is
 have hfu:=hu.fpR
 by_cases h:i<E.length
 ·have e3:=succ_i64 h (by omega)
  have e1:=fun m=>hu.ia (sz:=33) m .i64 (i:=i) (by rw [evR_len]; exact h) (evR_sz _ _ (List.getElem_mem _))
  simp only [evR_el] at e1
  have hpe:=hp E[i] (List.getElem_mem _)
  have ih:=IF_l0 (i+1) (by omega)
  have hfl:=eq_true (evC_flat E[i])
  rw [fdx_step h]
  rw [← hB] at ih
  rw [← hB,s_loop_at hB]
  generalize E[i]=x at *
  cases q:p x with
  | true=>
   rw [q] at hpe
   simp [ir_slices_IndexFunc_api_Event_api_Eventl0,go_sem,h,hui,hfu,e1,e3,hpe,hc,-Int.natCast_add]
  | false=>
   rw [q] at hpe
   simp only [Bool.false_eq_true,if_false]
   rw [← ih]
   simp [ir_slices_IndexFunc_api_Event_api_Eventl0,go_sem,h,hui,hfu,e1,e3,hpe,hc,-Int.natCast_add]
 ·obtain rfl:i=E.length:=by omega
  rw [fdx_end,← hB,s_loop_at hB]
  simp [ir_slices_IndexFunc_api_Event_api_Eventl0,go_sem]
termination_by E.length - i
theorem IFh_ok:evI pg .heap n_slices_IndexFunc_api_Event_api_Event [u,.fn F [] [c]] H=some (.int .i64 (fdn (fdx p E 0)),H):=by
 have hl0:=IF_l0 hu hl hc H hp 0 (Nat.zero_le _)
 have hur:(rows u).length=E.length:=by rw [hu.rows,evR_len]
 have hui:=hu.is
 rw [Int.natCast_zero] at hl0
 rw [s_fn fn_slices_IndexFunc_api_Event_api_Event]
 cases q:fdx p E 0 with
 | none=>
  rw [q] at hl0
  simp [ir_slices_IndexFunc_api_Event_api_Event,go_sem,hui,hur,hl0,fdn]
 | some j=>
  rw [q] at hl0
  simp [ir_slices_IndexFunc_api_Event_api_Event,go_sem,hui,hur,hl0,fdn]
end
end Go.Proofs.YtimiademofajeaaGreatDoor
