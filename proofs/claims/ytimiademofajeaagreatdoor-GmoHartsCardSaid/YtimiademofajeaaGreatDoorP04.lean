/- Lemmas (no claim): K21a, K21b, K21c. -/
import Derived.Test.YtimiademofajeaaGreatDoorP03
set_option linter.unusedSimpArgs false
set_option linter.unusedVariables false
set_option maxRecDepth 20000
namespace Go.Proofs.YtimiademofajeaaGreatDoor
open Go Go.Vm
structure In where
 (op rd rs1 rs2 imm pred succ:Int) (aq rl:Bool)
def inV (x:In):List V:=[.int .i64 x.op,.int .i64 x.rd,.int .i64 x.rs1,.int .i64 x.rs2,.int .i64 x.imm,.bool x.aq,.bool x.rl,.int .i64 x.pred,.int .i64 x.succ]
theorem inV_len (x:In):(inV x).length=9:=rfl
def srtO (op:Int):Nat:=if op<1∨75<op then 0 else srt op.toNat
theorem srt_le:∀ k,srt k≤12:=by
 intro k
 by_cases h:k<76
 ·have:∀ k:Fin 76,srt k.1≤12:=by decide
  exact this ⟨k,h⟩
 ·have e:srt k=0:=by
   unfold srt
   rw [List.getD_eq_getElem?_getD,List.getElem?_eq_none (by change 76≤k; omega)]; rfl
  omega
theorem srtO_le (op:Int):srtO op≤12:=by
 unfold srtO
 split
 ·omega
 ·exact srt_le _
theorem SortO (op:Int):evI pg .val n_ops_Sort [.int .i64 op] []=some (.int .i64 (srtO op:Nat),[]):=by
 rcases op_cases (op:=op) with h | ⟨k,rfl,h1,h2⟩
 ·have e:srtO op=0:=by unfold noOp at h; unfold srtO; rw [if_pos h]
  rw [e]; exact Sort_out h
 ·have e:srtO (k:Int)=srt k:=by unfold srtO; rw [if_neg (by omega)]; simp
  rw [e]; exact Sort_tab k h2
def memO (op:Int):Bool:=let s:=srtO op; s == 4 || s == 5 || s == 10 || s == 11 || s == 12
theorem sz_mem:∀ k:Fin 76,(decide (0<sz k.1))=(let s:=srt k.1; s == 4 || s == 5 || s == 10 || s == 11 || s == 12):=by decide
theorem Memory_ok (op:Int):evI pg .val n_ops_Memory [.int .i64 op] []=some (.bool (memO op),[]):=by
 rcases op_cases (op:=op) with h | ⟨k,rfl,h1,h2⟩
 ·have e:srtO op=0:=by unfold noOp at h; unfold srtO; rw [if_pos h]
  have e1:memO op=false:=by unfold memO; rw [e]; rfl
  have hs:=Size_out h
  rw [e1,s_fn fn_ops_Memory]
  simp [ir_ops_Memory,go_sem,hs]
 ·have e:srtO (k:Int)=srt k:=by unfold srtO; rw [if_neg (by omega)]; simp
  have e1:memO (k:Int)=decide (0<sz k):=by unfold memO; rw [e]; exact (sz_mem ⟨k,h2⟩).symm
  have hs:=Size_tab k h2
  rw [e1,s_fn fn_ops_Memory]
  simp [ir_ops_Memory,go_sem,hs]
def rg (r:Int):Int:=if r<0∨31<r then 0 else r
theorem rg_le (r:Int):0≤rg r∧rg r≤31:=by unfold rg; split<;>omega
theorem register_ok (r:Int):evI pg .val n_ops_register [.int .i64 r] []=some (.int .i64 (rg r),[]):=by
 rw [s_fn fn_ops_register]
 unfold rg
 by_cases c:r<0
 ·simp [ir_ops_register,go_sem,c]
 ·by_cases d:31<r
  ·simp [ir_ops_register,go_sem,c,d]
  ·simp [ir_ops_register,go_sem,c,d]
def rd1 (op:Int):Bool:=let s:=srtO op; decide (op=4) || s == 3 || s == 4 || s == 5 || s == 6 || s == 7 || s == 10 || s == 11 || s == 12
def rd2 (op:Int):Bool:=let s:=srtO op; s == 3 || s == 5 || s == 7 || s == 11 || s == 12
def wrt (op:Int):Bool:=let s:=srtO op; !(s == 0 || s == 3 || s == 5 || s == 8 || s == 9)
def src0 (x:In):List Int:=(if rd1 x.op then [rg x.rs1] else []) ++ (if rd2 x.op then [rg x.rs2] else [])
def srcs (x:In):List Int:=(src0 x).filter fun r=>decide (r≠0)
def tgt (x:In):Int:=if wrt x.op then rg x.rd else 0
theorem srtO4:srtO 4=2:=by decide
theorem le12 {s:Nat} (h:s≤12):s=0∨s=1∨s=2∨s=3∨s=4∨s=5∨s=6∨s=7∨s=8∨s=9∨s=10∨s=11∨s=12:=by omega
theorem src_loop (u:V) (q:List Int) (hu:Sl u (iI q)) (hq:q.length≤4) (i:Nat) (hi:i≤q.length) (l:List Int) (hl:l.length≤i) (a0 a1 a2 a3 a6 a7 a8 a9 a10:V) (vs:List (List V)):
  evCI pg (.loop ir_ops_Sourcesl0) ⟨[.undef,.undef,.undef,.undef,.osl false 0 (iI l),.undef,.undef,.undef,.undef,.undef,.undef,u,.int .i64 (q.length:Int),.int .i64 (i:Int),.undef,.undef],⟨vs,[l.length],[]⟩⟩ =
   some (.exit 1,⟨[.undef,.undef,.undef,.undef,.osl false 0 (iI (l ++ (q.drop i).filter fun r=>decide (r≠0))),.undef,.undef,.undef,.undef,.undef,.undef,u,.int .i64 (q.length:Int),.int .i64 (q.length:Int),.bool false,.undef],
    ⟨vs,[(l ++ (q.drop i).filter fun r=>decide (r≠0)).length],[]⟩⟩):=by
 obtain ⟨B,hB⟩:∃ B,B=C.loop ir_ops_Sourcesl0:=⟨_,rfl⟩
 by_cases h:i<q.length
 ·have e1:=fun m=>hu.ia (sz:=1) m .i64 (i:=i) (by rw [iI_len]; exact h) (by simp [iI])
  simp only [iI_el] at e1
  have e3:=succ_i64 h (by omega)
  by_cases c:q[i]=0
  ·have ih:=src_loop u q hu hq (i+1) (by omega) l (by omega) a0 a1 a2 a3 a6 a7 a8 a9 a10 vs
   rw [List.drop_eq_getElem_cons h,List.filter_cons,c]
   simp only [ne_eq,not_true_eq_false,decide_false,Bool.false_eq_true,if_false]
   rw [c] at e1
   simp only [ne_eq] at ih
   rw [← ih,← hB]
   conv=>lhs; rw [s_loop_at hB]
   simp [ir_ops_Sourcesl0,go_sem,h,e1,e3,hu.is,-Int.natCast_add]
  ·have ih:=src_loop u q hu hq (i+1) (by omega) (l ++ [q[i]]) (by simp; omega) a0 a1 a2 a3 a6 a7 a8 a9 a10 vs
   have ea:=app_oneI (m:=⟨vs,[l.length],[]⟩) (l:=l) (x:=q[i]) rfl (by omega)
   simp only [List.set_cons_zero] at ea
   rw [List.length_append,List.length_singleton] at ih
   rw [List.drop_eq_getElem_cons h,List.filter_cons]
   simp only [ne_eq,c,not_false_eq_true,decide_true,if_true]
   rw [List.append_cons]
   simp only [ne_eq] at ih
   rw [← ih,← hB]
   conv=>lhs; rw [s_loop_at hB]
   simp [ir_ops_Sourcesl0,go_sem,h,e1,e3,c,ea,litParts,hu.is,-Int.natCast_add]
 ·obtain rfl:i=q.length:=by omega
  rw [← hB,s_loop_at hB,List.drop_length,List.filter_nil,List.append_nil]
  simp [ir_ops_Sourcesl0,go_sem,hu.is]
termination_by q.length - i
theorem Sources_ok (x:In):evI pg .val n_ops_Sources [.agg (inV x)] []=some (ils (iI (srcs x)),[]):=by
 have hS:=SortO x.op
 have r1:=register_ok x.rs1
 have r2:=register_ok x.rs2
 have hle:=srtO_le x.op
 have e0:iI []=[]:=rfl
 have L0:=src_loop .nils [] .nils (by simp) 0 (by omega) [] (by simp) .undef .undef .undef .undef .undef .undef .undef .undef .undef [[]]
 have L1:=src_loop (.isl false (iI [rg x.rs1])) [rg x.rs1] (.isl _ _) (by simp) 0 (by omega) [] (by simp) .undef .undef .undef .undef .undef .undef .undef .undef .undef [[]]
 have L2:=src_loop (.isl false (iI [rg x.rs1,rg x.rs2])) [rg x.rs1,rg x.rs2] (.isl _ _) (by simp) 0 (by omega) [] (by simp) .undef .undef .undef .undef .undef .undef .undef .undef .undef [[]]
 simp only [List.drop_zero,List.nil_append,List.length_singleton,List.length_nil,List.length_cons,e0] at L0 L1 L2
 unfold srcs
 have G:∀ s:Nat,srtO x.op=s→(x.op=4→s=2)→(s=0∨s=1∨s=2∨s=3∨s=4∨s=5∨s=6∨s=7∨s=8∨s=9∨s=10∨s=11∨s=12)→evI pg .val n_ops_Sources [.agg (inV x)] []=some (ils (iI ((src0 x).filter fun r=>decide (r≠0))),[]):=by
  intro s hs h4 hc
  rw [hs] at hS
  have hsr:src0 x=(if rd1 x.op then [rg x.rs1] else []) ++ (if rd2 x.op then [rg x.rs2] else []):=rfl
  unfold rd1 rd2 at hsr
  rw [hs] at hsr
  generalize src0 x=q at *
  rw [s_fn fn_ops_Sources]
  by_cases c4:x.op=4
  ·obtain rfl:=h4 c4
   rw [c4] at hS hsr
   simp at hsr
   subst hsr
   generalize rg x.rs1=p1 at *
   simp [ir_ops_Sources,go_sem,inV,c4,hS,r1,litParts,iI,V.cells,splice,immAll,V.imm] at L1 ⊢
   simp [L1,go_sem,clean]
  ·simp only [c4,decide_false,Bool.false_or] at hsr
   generalize rg x.rs1=p1 at *
   generalize rg x.rs2=p2 at *
   rcases hc with rfl | rfl | rfl | rfl | rfl | rfl | rfl | rfl | rfl | rfl | rfl | rfl | rfl<;>simp at hsr<;>subst hsr<;>simp [ir_ops_Sources,go_sem,inV,c4,hS,r1,r2,litParts,iI,V.cells,splice,immAll,V.imm] at L0 L1 L2 ⊢<;>simp [L0,L1,L2,go_sem,clean]
 exact G _ rfl (fun h=>by rw [h]; exact srtO4) (le12 hle)
theorem Target_ok (x:In):evI pg .val n_ops_Target [.agg (inV x)] []=some (.int .i64 (tgt x),[]):=by
 have hS:=SortO x.op
 have r1:=register_ok x.rd
 have G:∀ s:Nat,srtO x.op=s→(s=0∨s=1∨s=2∨s=3∨s=4∨s=5∨s=6∨s=7∨s=8∨s=9∨s=10∨s=11∨s=12)→evI pg .val n_ops_Target [.agg (inV x)] []=some (.int .i64 (tgt x),[]):=by
  intro s hs hc
  rw [hs] at hS
  have ht:tgt x=if wrt x.op then rg x.rd else 0:=rfl
  unfold wrt at ht
  rw [hs] at ht
  generalize tgt x=q at *
  generalize rg x.rd=p at *
  rw [s_fn fn_ops_Target]
  rcases hc with rfl | rfl | rfl | rfl | rfl | rfl | rfl | rfl | rfl | rfl | rfl | rfl | rfl<;>simp at ht<;>subst ht<;>simp [ir_ops_Target,go_sem,inV,hS,r1,V.cells,splice]
 exact G _ rfl (le12 (srtO_le _))
def giv (op:Int):Bool:=let s:=srtO op; s == 4 || s == 10 || s == 11 || s == 12
theorem gives_ok (x:In):evI pg .val n_deps_gives [.agg (inV x)] []=some (.bool (giv x.op),[]):=by
 have hS:=SortO x.op
 have G:∀ s:Nat,srtO x.op=s→(s=0∨s=1∨s=2∨s=3∨s=4∨s=5∨s=6∨s=7∨s=8∨s=9∨s=10∨s=11∨s=12)→evI pg .val n_deps_gives [.agg (inV x)] []=some (.bool (giv x.op),[]):=by
  intro s hs hc
  rw [hs] at hS
  unfold giv
  rw [hs]
  rw [s_fn fn_deps_gives]
  rcases hc with rfl | rfl | rfl | rfl | rfl | rfl | rfl | rfl | rfl | rfl | rfl | rfl | rfl<;>simp [ir_deps_gives,go_sem,inV,hS,V.cells,splice]
 exact G _ rfl (le12 (srtO_le _))
def sto (op:Int):Bool:=let s:=srtO op; s == 5 || s == 11 || s == 12
theorem Stores_ok (op:Int):evI pg .val n_ops_Stores [.int .i64 op] []=some (.bool (sto op),[]):=by
 have hS:=SortO op
 have G:∀ s:Nat,srtO op=s→(s=0∨s=1∨s=2∨s=3∨s=4∨s=5∨s=6∨s=7∨s=8∨s=9∨s=10∨s=11∨s=12)→evI pg .val n_ops_Stores [.int .i64 op] []=some (.bool (sto op),[]):=by
  intro s hs hc
  rw [hs] at hS
  unfold sto
  rw [hs]
  rw [s_fn fn_ops_Stores]
  rcases hc with rfl | rfl | rfl | rfl | rfl | rfl | rfl | rfl | rfl | rfl | rfl | rfl | rfl<;>simp [ir_ops_Stores,go_sem,hS]
 exact G _ rfl (le12 (srtO_le _))
def no2 (x:In):In:={ x with rs2:=0 }
def no1 (x:In):In:={ x with rs1:=0 }
theorem first_ok (x:In):evI pg .val n_deps_first [.agg (inV x)] []=some (ils (iI (srcs (no2 x))),[]):=by
 have h:=Sources_ok (no2 x)
 have e:inV (no2 x)=[.int .i64 x.op,.int .i64 x.rd,.int .i64 x.rs1,.int .i64 0,.int .i64 x.imm,.bool x.aq,.bool x.rl,.int .i64 x.pred,.int .i64 x.succ]:=rfl
 rw [e] at h
 have hs:=Sl.ils (iI (srcs (no2 x)))
 rw [s_fn fn_deps_first]
 generalize iI (srcs (no2 x))=q at *
 simp [ir_deps_first,go_sem,inV,h,V.cells,splice,evStore,hs.is]
theorem second_ok (x:In):evI pg .val n_deps_second [.agg (inV x)] []=some (ils (iI (srcs (no1 x))),[]):=by
 have h:=Sources_ok (no1 x)
 have e:inV (no1 x)=[.int .i64 x.op,.int .i64 x.rd,.int .i64 0,.int .i64 x.rs2,.int .i64 x.imm,.bool x.aq,.bool x.rl,.int .i64 x.pred,.int .i64 x.succ]:=rfl
 rw [e] at h
 have hs:=Sl.ils (iI (srcs (no1 x)))
 rw [s_fn fn_deps_second]
 generalize iI (srcs (no1 x))=q at *
 simp [ir_deps_second,go_sem,inV,h,V.cells,splice,evStore,hs.is]
/-! ### the document's -/
theorem srt4 {op:Int} (h:op=4):srtO op=2:=by rw [h]; exact srtO4
def wvs (l:List Nat):List V:=l.map fun w:Nat=>.int .u64 (w:Int)
def wc (W:Nat):List V:=wvs (wl 8 W)
theorem wvs_len (l:List Nat):(wvs l).length=l.length:=by simp [wvs]
theorem wc_len (W:Nat):(wc W).length=8:=by simp [wc,wvs_len,wl_len]
theorem wc_get (W:Nat) {i:Nat} (h:i<8):(wc W)[i]?=some (.int .u64 ((wd W i:Nat):Int)):=by
 rw [List.getElem?_eq_getElem (by rw [wc_len]; exact h)]
 simp [wc,wvs,wl_el]
theorem wc_take (W:Nat):(wc W).take 8=wc W:=List.take_of_length_le (by rw [wc_len]; omega)
theorem wc_zero:wc 0=[.int .u64 0,.int .u64 0,.int .u64 0,.int .u64 0,.int .u64 0,.int .u64 0,.int .u64 0,.int .u64 0]:=by
 have e:∀ j,wd 0 j=0:=fun j=>by unfold wd; rw [Nat.zero_div,Nat.zero_mod]
 simp [wc,wvs,wl,e,List.range,List.range.loop]
theorem wc_clean (W d:Nat):(wc W).all (clean (d+1))=true:=by
 simp [wc,wvs,clean]
theorem splice_one (c:List V) (i:Nat) (v:V) (h:i<c.length):splice c i [v]=c.set i v:=by
 unfold splice
 rw [List.length_singleton,List.set_eq_take_append_cons_drop,if_pos h]
 simp
theorem jv_get {W U i:Nat} (h:i<8):(wvs (jl 8 W U i))[i]?=some (.int .u64 ((wd W i:Nat):Int)):=by
 rw [List.getElem?_eq_getElem (by rw [wvs_len,jl_len]; exact h)]
 simp [wvs,jl]
theorem jv_set {W U i:Nat} (h:i<8):splice (wvs (jl 8 W U i)) i [.int .u64 ((wd W i ||| wd U i:Nat):Int)]=wvs (jl 8 W U (i+1)):=by
 rw [splice_one _ _ _ (by rw [wvs_len,jl_len]; exact h)]
 apply List.ext_getElem
 ·simp [wvs,jl]
 ·intro j h1 h2
  rw [List.getElem_set]
  simp only [wvs,jl,List.getElem_map,List.getElem_range]
  by_cases c:i=j
  ·subst c; simp
  ·rw [if_neg c]
   have:(j<i)↔(j<i+1):=by omega
   simp [this]
theorem join_loop (H:List Vm.Obj) (p W U:Nat) (hp:p<H.length) (i:Nat) (hi:i≤8):
  evCI pg (.loop ir_deps_set_joinl0) ⟨[.ptr p 0 0,.undef,.undef,.undef,.undef,.agg (wc U),.int .i64 (i:Int),.undef],⟨[[]],[],H.set p (.arr [wvs (jl 8 W U i)])⟩⟩ =
   some (.exit 0,⟨[.ptr p 0 0,.undef,.undef,.undef,.undef,.agg (wc U),.int .i64 8,.bool false],⟨[[]],[],H.set p (.arr [wvs (jl 8 W U 8)])⟩⟩):=by
 obtain ⟨B,hB⟩:∃ B,B=C.loop ir_deps_set_joinl0:=⟨_,rfl⟩
 by_cases h:i<8
 ·have e3:=succ_i64 h (by omega)
  have ih:=join_loop H p W U hp (i+1) (by omega)
  have e4:orI .u64 ((wd W i:Nat):Int) ((wd U i:Nat):Int)=((wd W i ||| wd U i:Nat):Int):=or_u64 (wd_lt _ _) (wd_lt _ _)
  have hlen:(wvs (jl 8 W U i)).length=8:=by rw [wvs_len,jl_len]
  have hg:=jv_get (W:=W) (U:=U) h
  have hs:=jv_set (W:=W) (U:=U) h
  have hu:=wc_get U h
  have hx:=asIx_nat (k:=.i64) h
  have hle:i+1≤8:=by omega
  have h':(i:Int)<8:=by omega
  rw [← ih,← hB]
  conv=>lhs; rw [s_loop_at hB]
  rw [← hs]
  generalize wvs (jl 8 W U i)=rw0 at *
  generalize wc U=cu at *
  generalize wd W i ||| wd U i=wu at *
  generalize wd W i=a at *
  generalize wd U i=b at *
  have hil:i<rw0.length:=by omega
  have hri:rw0[i]=.int .u64 (a:Int):=by
   rw [List.getElem?_eq_getElem hil] at hg; exact Option.some.inj hg
  simp [ir_deps_set_joinl0,go_sem,h,h',e3,e4,hg,hu,hx,hp,hlen,loadAt,evStore,V.cells,hle,hri,-Int.natCast_add]
 ·obtain rfl:i=8:=by omega
  rw [← hB,s_loop_at hB]
  simp [ir_deps_set_joinl0,go_sem]
termination_by 8 - i
theorem join_ok (H:List Vm.Obj) (p W U:Nat) (h:H[p]?=some (.arr [wc W])):evI pg .heap n_deps_set_join [.ptr p 0 0,.agg (wc U)] H=some (.tup [],H.set p (.arr [wc (W ||| U)])):=by
 have hp:=get_lt h
 have hl:=join_loop H p W U hp 0 (by omega)
 have e0:H.set p (.arr [wvs (jl 8 W U 0)])=H:=by
  rw [jl_zero]
  apply List.ext_getElem?
  intro q
  by_cases c:p=q
  ·subst c; rw [List.getElem?_set_self hp,h]; rfl
  ·rw [List.getElem?_set_ne c]
 rw [e0,Int.natCast_zero,jl_end] at hl
 have e1:wvs (wl 8 (W ||| U))=wc (W ||| U):=rfl
 rw [e1] at hl
 have ht:=wc_take U
 have hlen:=wc_len U
 rw [s_fn fn_deps_set_join]
 generalize wc U=cu at *
 generalize wc (W ||| U)=cw at *
 simp [ir_deps_set_join,go_sem,V.cells,hlen,loadAt,ht,hl]
/-! ### each -/
theorem set_word (xv a:V) (i:Nat) (hi:i<16) (w:Nat) (hw:w<18446744073709551616) (l:List Int) (hl:l.length+(sb 64 w.testBit).length≤2000):
  evCI pg (.loop ir_deps_set_eachl0) ⟨[.undef,.undef,.undef,.osl false 0 (iI l),.int .i64 (i:Int),.int .u64 (w:Int),xv,a,.undef,.undef],⟨[[]],[l.length],[]⟩⟩ =
   some (.exit 2,⟨[.undef,.undef,.undef,.osl false 0 (iI (l ++ wb i w)),.int .i64 (i:Int),.int .u64 0,xv,a,.undef,.bool false],⟨[[]],[(l ++ wb i w).length],[]⟩⟩):=by
 obtain ⟨B,hB⟩:∃ B,B=C.loop ir_deps_set_eachl0:=⟨_,rfl⟩
 rw [← hB,s_loop_at hB]
 by_cases h0:w=0
 ·subst h0
  have e:wb i 0=[]:=by unfold wb; rw [sb_none (fun j _=>Nat.zero_testBit j)]; rfl
  rw [e,List.append_nil]
  simp [ir_deps_set_eachl0,go_sem]
 ·obtain ⟨b1,b2,b3⟩:=low_bits w h0 hw
  have hc:ctz w<64:=(Go.Lib.lowest_bit 64 w h0 hw).2
  have hsb:=sb_first (n:=64) hc b1 b2 b3
  have htz:=tz_ok w h0 hw
  have hwb:wb i w=((64 * i+ctz w:Nat):Int) :: wb i (w &&& (w - 1)):=by unfold wb; rw [hsb]; rfl
  have hlt:w &&& (w - 1)<w:=Nat.lt_of_le_of_lt Nat.and_le_right (by omega)
  have hls:(sb 64 w.testBit).length=(sb 64 (w &&& (w - 1)).testBit).length+1:=by rw [hsb]; rfl
  have ih:=set_word xv a i hi (w &&& (w - 1)) (by omega) (l ++ [((64 * i+ctz w:Nat):Int)]) (by simp; omega)
  rw [← hB] at ih
  have e1:IntKind.i64.wrap ((i:Int) * 64)=((64 * i:Nat):Int):=by rw [wrap_i64 (by omega) (by omega)]; omega
  have e2:IntKind.i64.wrap (((64 * i:Nat):Int)+((ctz w:Nat):Int))=((64 * i+ctz w:Nat):Int):=by rw [wrap_i64 (by omega) (by omega)]; omega
  have e3:IntKind.u64.wrap ((w:Int) - 1)=((w - 1:Nat):Int):=by
   rw [show (w:Int) - 1=((w - 1:Nat):Int) by omega,wrap_u64' (by omega)]
  have e4:andI .u64 (w:Int) ((w - 1:Nat):Int)=((w &&& (w - 1):Nat):Int):=and_u64 hw (by omega)
  have ea:=app_oneI (m:=⟨[[]],[l.length],[]⟩) (l:=l) (x:=((64 * i+ctz w:Nat):Int)) rfl (by omega)
  simp only [List.set_cons_zero] at ea
  rw [hwb,List.append_cons]
  generalize w &&& (w - 1)=w' at *
  generalize 64 * i+ctz w=q at *
  rw [List.length_append,List.length_singleton] at ih
  simp [ir_deps_set_eachl0,go_sem,h0,htz,e1,e2,e3,e4,ea,litParts,ih,-Int.natCast_add,-Int.natCast_mul,-List.append_assoc]
termination_by w
theorem set_loop (W:Nat) (i:Nat) (hi:i≤8) (l:List Int) (hl:l.length≤64 * i):
  evCI pg (.loop ir_deps_set_eachl1) ⟨[.undef,.undef,.undef,.osl false 0 (iI l),.undef,.undef,.agg (wc W),.int .i64 (i:Int),.undef,.undef],⟨[[]],[l.length],[]⟩⟩ =
   some (.exit 0,⟨[.undef,.undef,.undef,.osl false 0 (iI (l ++ (List.range' i (8 - i)).flatMap fun j=>wb j (wd W j))),.undef,.undef,.agg (wc W),.int .i64 8,.bool false,.undef],
    ⟨[[]],[(l ++ (List.range' i (8 - i)).flatMap fun j=>wb j (wd W j)).length],[]⟩⟩):=by
 obtain ⟨B,hB⟩:∃ B,B=C.loop ir_deps_set_eachl1:=⟨_,rfl⟩
 by_cases h:i<8
 ·have hu:=wc_get W h
  have hx:=asIx_nat (k:=.i64) h
  have h':(i:Int)<8:=by omega
  have e3:=succ_i64 h (by omega)
  have h1:(sb 64 (wd W i).testBit).length≤64:=sb_len _ _
  have hwbl:(wb i (wd W i)).length≤64:=by unfold wb; simp only [List.length_map]; exact h1
  have hw:=set_word (.agg (wc W)) (.int .i64 (i:Int)) i (by omega) (wd W i) (wd_lt W i) l (by omega)
  have ih:=set_loop W (i+1) (by omega) (l ++ wb i (wd W i)) (by rw [List.length_append]; omega)
  have e4:(List.range' i (8 - i)).flatMap (fun j=>wb j (wd W j))=wb i (wd W i) ++ (List.range' (i+1) (8 - (i+1))).flatMap fun j=>wb j (wd W j):=by
   rw [show 8 - i=(8 - (i+1))+1 by omega,List.range'_succ,List.flatMap_cons]
  rw [e4,← List.append_assoc,← ih,← hB]
  conv=>lhs; rw [s_loop_at hB]
  generalize wb i (wd W i)=q at *
  generalize wc W=cw at *
  simp [ir_deps_set_eachl1,go_sem,h,h',hu,hx,e3,hw,loadAt,-Int.natCast_add,-List.length_append]
 ·obtain rfl:i=8:=by omega
  rw [← hB,s_loop_at hB,Nat.sub_self,List.range'_zero,List.flatMap_nil,List.append_nil]
  simp [ir_deps_set_eachl1,go_sem]
termination_by 8 - i
theorem setEach_ok (W n:Nat) (hn:n=512) (hW:W<2 ^ n):evI pg .val n_deps_set_each [.agg (wc W)] []=some (ils (iI (rt n W)),[]):=by
 have h:=set_loop W 0 (by omega) [] (by simp)
 have e:(List.range' 0 (8 - 0)).flatMap (fun j=>wb j (wd W j))=rt n W:=by
  have hk:kw n=8:=by rw [hn]; rfl
  rw [← rb_rt hW,rb,hk,Nat.sub_zero,← List.range_eq_range']
 rw [e,List.nil_append,List.length_nil,Int.natCast_zero] at h
 have e0:iI []=[]:=rfl
 rw [e0] at h
 have ht:=wc_take W
 have hlen:=wc_len W
 rw [s_fn fn_deps_set_each]
 generalize wc W=cw at *
 simp [ir_deps_set_each,go_sem,V.cells,hlen,loadAt,ht,h]
end Go.Proofs.YtimiademofajeaaGreatDoor
