/- Lemmas (no claim): K21h, K22a, K22b, K22c. -/
import Derived.Test.YtimiademofajeaaGreatDoorP05
set_option linter.unusedSimpArgs false
set_option linter.unusedVariables false
set_option maxRecDepth 20000
namespace Go.Proofs.YtimiademofajeaaGreatDoor
open Go Go.Vm
def dA (S:Nat→Nat) (y:In):Nat:=if memO y.op then ofS S (srcs (no2 y)) else 0
def dD (S:Nat→Nat) (y:In):Nat:=if sto y.op then ofS S (srcs (no1 y)) else 0
def crs (op:Int):Bool:=srtO op == 3 || decide (op=4)
section
variable (H:List Vm.Obj) (x:Nat) (S:Nat→Nat) (i:Int) (y:In) (h:H[x]?=some (.arr [rc S]))
include h
theorem Address_1_ok:evI pg .heap n_deps_Address_1 [.int .i64 i,.agg (inV y),.ptr x 0 0] H=some (.agg (wc (dA S y)),H):=by
 have hp:=get_lt h
 have hg:=get_el h hp
 have hM:=Memory_ok y.op
 have hF:=first_ok y
 have hO:=of_ok true S (ils (iI (srcs (no2 y)))) (srcs (no2 y)) (.ils _) (by have:=srcs_len (no2 y); omega)
 have him:=fun vs tk=>rc_imm S ⟨vs,tk,H⟩ true 6
 simp only [Nat.reduceAdd] at him
 have hsl:=Sl.ils (iI (srcs (no2 y)))
 have hc8:=wc_len (ofS S (srcs (no2 y)))
 have ht8:=wc_take (ofS S (srcs (no2 y)))
 have h7:=wc_clean (ofS S (srcs (no2 y))) 6
 simp only [Nat.reduceAdd] at h7
 have hz:=wc_len 0
 have ht0:=wc_take 0
 simp only [inV] at hF ⊢
 unfold dA
 rw [s_fn fn_deps_Address_1]
 simp only [ir_deps_Address_1,← wc_zero]
 cases hm:memO y.op with
 | true=>
  rw [hm] at hM
  simp only [if_true]
  generalize wc (ofS S (srcs (no2 y)))=c2 at *
  have hd8:List.drop 8 c2=[]:=List.drop_of_length_le (by omega)
  generalize wc 0=c0' at *
  have hd0:List.drop 8 c0'=[]:=List.drop_of_length_le (by omega)
  generalize rc S=rcs at *
  generalize ils (iI (srcs (no2 y)))=u at *
  simp [go_sem,hM,hF,hO,him,hsl.is,h,hp,hg,V.cells,loadAt,evStore,splice,hz,hc8,ht8,hd8,hd0,h7,fill,-List.all_eq_true]
 | false=>
  rw [hm] at hM
  simp only [Bool.false_eq_true,if_false]
  generalize wc 0=c0' at *
  have hd0:List.drop 8 c0'=[]:=List.drop_of_length_le (by omega)
  simp [go_sem,hM,h,hp,hg,V.cells,loadAt,evStore,splice,hz,ht0,hd0,fill]
theorem Data_1_ok:evI pg .heap n_deps_Data_1 [.int .i64 i,.agg (inV y),.ptr x 0 0] H=some (.agg (wc (dD S y)),H):=by
 have hp:=get_lt h
 have hg:=get_el h hp
 have hM:=Stores_ok y.op
 have hF:=second_ok y
 have hO:=of_ok true S (ils (iI (srcs (no1 y)))) (srcs (no1 y)) (.ils _) (by have:=srcs_len (no1 y); omega)
 have him:=fun vs tk=>rc_imm S ⟨vs,tk,H⟩ true 6
 simp only [Nat.reduceAdd] at him
 have hsl:=Sl.ils (iI (srcs (no1 y)))
 have hc8:=wc_len (ofS S (srcs (no1 y)))
 have ht8:=wc_take (ofS S (srcs (no1 y)))
 have h7:=wc_clean (ofS S (srcs (no1 y))) 6
 simp only [Nat.reduceAdd] at h7
 have hz:=wc_len 0
 have ht0:=wc_take 0
 simp only [inV] at hF ⊢
 unfold dD
 rw [s_fn fn_deps_Data_1]
 simp only [ir_deps_Data_1,← wc_zero]
 cases hm:sto y.op with
 | true=>
  rw [hm] at hM
  simp only [if_true]
  generalize wc (ofS S (srcs (no1 y)))=c2 at *
  have hd8:List.drop 8 c2=[]:=List.drop_of_length_le (by omega)
  generalize wc 0=c0' at *
  have hd0:List.drop 8 c0'=[]:=List.drop_of_length_le (by omega)
  generalize rc S=rcs at *
  generalize ils (iI (srcs (no1 y)))=u at *
  simp [go_sem,hM,hF,hO,him,hsl.is,h,hp,hg,V.cells,loadAt,evStore,splice,hz,hc8,ht8,hd8,hd0,h7,fill,-List.all_eq_true]
 | false=>
  rw [hm] at hM
  simp only [Bool.false_eq_true,if_false]
  generalize wc 0=c0' at *
  have hd0:List.drop 8 c0'=[]:=List.drop_of_length_le (by omega)
  simp [go_sem,hM,h,hp,hg,V.cells,loadAt,evStore,splice,hz,ht0,hd0,fill]
theorem Course_1_ok (c C:Nat) (hcx:c≠x) (hC:H[c]?=some (.arr [wc C])):∃ H2,evI pg .heap n_deps_Course_1 [.int .i64 i,.agg (inV y),.ptr x 0 0,.ptr c 0 0] H=some (.agg (wc C),H2) ∧
  H2[c]?=some (.arr [wc (C ||| if crs y.op then ofS S (srcs y) else 0)])∧∀ o,o≠c→H2[o]?=H[o]?:=by
 have hp:=get_lt h
 have hg:=get_el h hp
 have hpc:=get_lt hC
 have hgc:=get_el hC hpc
 have hM:=SortO y.op
 have hF:=Sources_ok y
 have hO:=of_ok true S (ils (iI (srcs y))) (srcs y) (.ils _) (by have:=srcs_len y; omega)
 have hj:=join_ok H c C (ofS S (srcs y)) hC
 have him:=fun vs tk=>rc_imm S ⟨vs,tk,H⟩ true 6
 simp only [Nat.reduceAdd] at him
 have hsl:=Sl.ils (iI (srcs y))
 have hc8:=wc_len C
 have ht8:=wc_take C
 have h7:=wc_clean (ofS S (srcs y)) 6
 simp only [Nat.reduceAdd] at h7
 have hz:=wc_len 0
 have ht0:=wc_take 0
 simp only [inV] at hF ⊢
 rw [s_fn fn_deps_Course_1]
 simp only [ir_deps_Course_1,← wc_zero]
 unfold crs
 by_cases c3:srtO y.op=3
 ·have e:(srtO y.op == 3 || decide (y.op=4))=true:=by simp [c3]
  rw [c3] at hM
  rw [e]
  simp only [if_true]
  generalize wc (C ||| ofS S (srcs y))=c3' at *
  generalize wc (ofS S (srcs y))=c2 at *
  generalize wc C=cc at *
  generalize wc 0=c0' at *
  have hd0:List.drop 8 c0'=[]:=List.drop_of_length_le (by omega)
  generalize rc S=rcs at *
  generalize ils (iI (srcs y))=u at *
  refine ⟨H.set c (.arr [c3']),?_,by simp [hpc],fun o ho=>List.getElem?_set_ne (Ne.symm ho)⟩
  simp [go_sem,hM,hF,hO,him,hj,hsl.is,h,hp,hg,hC,hpc,hgc,V.cells,loadAt,evStore,splice,hz,hc8,ht8,hd0,h7,fill,-List.all_eq_true]
 ·by_cases c4:y.op=4
  ·have e:(srtO y.op == 3 || decide (y.op=4))=true:=by simp [c4]
   have e2:srtO y.op=2:=srt4 c4
   rw [e2,c4] at hM
   rw [e]
   rw [c4] at hF ⊢
   simp only [if_true]
   generalize wc (C ||| ofS S (srcs y))=c3' at *
   generalize wc (ofS S (srcs y))=c2 at *
   generalize wc C=cc at *
   generalize wc 0=c0' at *
   have hd0:List.drop 8 c0'=[]:=List.drop_of_length_le (by omega)
   generalize rc S=rcs at *
   generalize ils (iI (srcs y))=u at *
   refine ⟨H.set c (.arr [c3']),?_,by simp [hpc],fun o ho=>List.getElem?_set_ne (Ne.symm ho)⟩
   simp [go_sem,hM,hF,hO,him,hj,hsl.is,h,hp,hg,hC,hpc,hgc,V.cells,loadAt,evStore,splice,hz,hc8,ht8,hd0,h7,fill,-List.all_eq_true]
  ·have e:(srtO y.op == 3 || decide (y.op=4))=false:=by simp [c3,c4]
   have n3:¬ (srtO y.op:Int)=3:=by omega
   rw [e]
   simp only [Bool.false_eq_true,if_false,Nat.or_zero]
   refine ⟨H,?_,hC,fun o ho=>rfl⟩
   generalize srtO y.op=s at *
   generalize wc C=cc at *
   generalize wc 0=c0' at *
   have hd0:List.drop 8 c0'=[]:=List.drop_of_length_le (by omega)
   simp [go_sem,hM,c3,c4,n3,h,hp,hg,hC,hpc,hgc,V.cells,loadAt,evStore,splice,hz,hc8,ht8,hd0,fill]
end
structure Rt where
 (ins:In) (pc cause val addr rdd wro id pair:Int) (fail:Bool) (fl:Nat) (tg:Nat→Int)
def rC (r:Rt):List V:=[.int .u64 r.pc,.int .i64 r.ins.op,.int .i64 r.ins.rd,.int .i64 r.ins.rs1,.int .i64 r.ins.rs2,.int .i64 r.ins.imm,.bool r.ins.aq,.bool r.ins.rl,.int .i64 r.ins.pred,.int .i64 r.ins.succ,.int .i64 r.cause,.int .u64 r.val,.int .u64 r.addr,.int .u64 r.rdd,.int .u64 r.wro,.bool r.fail,.int .i64 r.id,.flt r.fl,
 .int .i64 (r.tg 0),.int .i64 (r.tg 1),.int .i64 (r.tg 2),.int .i64 (r.tg 3),.int .i64 (r.tg 4),.int .i64 (r.tg 5),.int .i64 (r.tg 6),.int .i64 (r.tg 7),.int .i64 r.pair]
theorem rC_len (r:Rt):(rC r).length=27:=rfl
theorem rC_op (r:Rt) (h:1<(rC r).length):(rC r)[1]=.int .i64 r.ins.op:=rfl
theorem rCq_op (r:Rt):(rC r)[1]?=some (.int .i64 r.ins.op):=rfl
theorem rC_aq (r:Rt) (h:6<(rC r).length):(rC r)[6]=.bool r.ins.aq:=rfl
theorem rCq_aq (r:Rt):(rC r)[6]?=some (.bool r.ins.aq):=rfl
theorem rC_rl (r:Rt) (h:7<(rC r).length):(rC r)[7]=.bool r.ins.rl:=rfl
theorem rCq_rl (r:Rt):(rC r)[7]?=some (.bool r.ins.rl):=rfl
theorem rC_cause (r:Rt) (h:10<(rC r).length):(rC r)[10]=.int .i64 r.cause:=rfl
theorem rCq_cause (r:Rt):(rC r)[10]?=some (.int .i64 r.cause):=rfl
theorem rC_addr (r:Rt) (h:12<(rC r).length):(rC r)[12]=.int .u64 r.addr:=rfl
theorem rCq_addr (r:Rt):(rC r)[12]?=some (.int .u64 r.addr):=rfl
theorem rC_fail (r:Rt) (h:15<(rC r).length):(rC r)[15]=.bool r.fail:=rfl
theorem rCq_fail (r:Rt):(rC r)[15]?=some (.bool r.fail):=rfl
theorem rC_id (r:Rt) (h:16<(rC r).length):(rC r)[16]=.int .i64 r.id:=rfl
theorem rCq_id (r:Rt):(rC r)[16]?=some (.int .i64 r.id):=rfl
theorem rC_pair (r:Rt) (h:26<(rC r).length):(rC r)[26]=.int .i64 r.pair:=rfl
theorem rCq_pair (r:Rt):(rC r)[26]?=some (.int .i64 r.pair):=rfl
theorem rC_in (r:Rt):((rC r).drop 1).take 9=inV r.ins:=rfl
theorem rC_take (r:Rt):(rC r).take 27=rC r:=rfl
attribute [go_sem] rC_len rC_op rC_aq rC_rl rC_cause rC_addr rC_fail rC_id rC_pair rCq_op rCq_aq rCq_rl rCq_cause rCq_addr rCq_fail rCq_id rCq_pair
theorem rC_all (r:Rt) (P:V→Prop) (hi:∀ k n,P (.int k n)) (hb:∀ b,P (.bool b)) (hf:∀ n,P (.flt n)):∀ v∈rC r,P v:=by
 intro v hv
 simp only [rC,List.mem_cons,List.not_mem_nil,or_false] at hv
 rcases hv with rfl | rfl | rfl | rfl | rfl | rfl | rfl | rfl | rfl | rfl | rfl | rfl | rfl | rfl | rfl | rfl | rfl | rfl | rfl | rfl | rfl | rfl | rfl | rfl | rfl | rfl | rfl<;>first | exact hi _ _ | exact hb _ | exact hf _
def szO (op:Int):Nat:=if op<1∨75<op then 0 else sz op.toNat
theorem szO_le (op:Int):szO op≤8:=by
 unfold szO
 split
 ·omega
 ·have:∀ k:Fin 76,sz k.1≤8:=by decide
  exact this ⟨op.toNat,by omega⟩
theorem SizeO (op:Int):evI pg .val n_ops_Size [.int .i64 op] []=some (.int .i64 (szO op:Nat),[]):=by
 rcases op_cases (op:=op) with h | ⟨k,rfl,h1,h2⟩
 ·have e:szO op=0:=by unfold noOp at h; unfold szO; rw [if_pos h]
  rw [e]; exact Size_out h
 ·have e:szO (k:Int)=sz k:=by unfold szO; rw [if_neg (by omega)]; simp
  rw [e]; exact Size_tab k h2
def lod (op:Int):Bool:=let s:=srtO op; s == 4 || s == 10 || s == 12
theorem Loads_ok (op:Int):evI pg .val n_ops_Loads [.int .i64 op] []=some (.bool (lod op),[]):=by
 have hS:=SortO op
 have G:∀ s:Nat,srtO op=s→(s=0∨s=1∨s=2∨s=3∨s=4∨s=5∨s=6∨s=7∨s=8∨s=9∨s=10∨s=11∨s=12)→evI pg .val n_ops_Loads [.int .i64 op] []=some (.bool (lod op),[]):=by
  intro s hs hc
  rw [hs] at hS
  unfold lod
  rw [hs]
  rw [s_fn fn_ops_Loads]
  rcases hc with rfl | rfl | rfl | rfl | rfl | rfl | rfl | rfl | rfl | rfl | rfl | rfl | rfl<;>simp [ir_ops_Loads,go_sem,hS]
 exact G _ rfl (le12 (srtO_le _))
def isE (r:Rt):Bool:=decide (r.cause=0) && memO r.ins.op && (decide (srtO r.ins.op≠11) || !r.fail)
theorem isEvent_ok (r:Rt):evI pg .val n_cand_isEvent [.agg (rC r)] []=some (.bool (isE r),[]):=by
 have hM:=Memory_ok r.ins.op
 have hS:=SortO r.ins.op
 unfold isE
 rw [s_fn fn_cand_isEvent]
 by_cases c:r.cause=0
 ·cases m:memO r.ins.op with
  | true=>
   rw [m] at hM
   by_cases s:srtO r.ins.op=11
   ·rw [s] at hS
    simp [ir_cand_isEvent,go_sem,hM,hS,c,s,V.cells,V.exp,loadAt]
   ·have s':¬ ((srtO r.ins.op:Nat):Int)=11:=by omega
    simp [ir_cand_isEvent,go_sem,hM,hS,c,s,s',V.cells,V.exp,loadAt]
  | false=>
   rw [m] at hM
   simp [ir_cand_isEvent,go_sem,hM,hS,c,V.cells,V.exp,loadAt]
 ·simp [ir_cand_isEvent,go_sem,hM,hS,c,V.cells,V.exp,loadAt]
structure Ev where
 (hart at':Nat) (r:Rt)
def adE (r:Rt):Int:=if r.addr≤1024 then r.addr else -1
def evC (e:Ev):List V:=.int .i64 (e.hart:Int) :: .int .i64 (e.at':Int) :: (rC e.r ++ [.bool (lod e.r.ins.op),.bool (sto e.r.ins.op),.int .i64 (adE e.r),.int .i64 (szO e.r.ins.op:Nat)])
theorem evC_len (e:Ev):(evC e).length=33:=rfl
theorem evC_hart (e:Ev) (h:0<(evC e).length):(evC e)[0]=.int .i64 (e.hart:Int):=rfl
theorem evCq_hart (e:Ev):(evC e)[0]?=some (.int .i64 (e.hart:Int)):=rfl
theorem evC_at (e:Ev) (h:1<(evC e).length):(evC e)[1]=.int .i64 (e.at':Int):=rfl
theorem evCq_at (e:Ev):(evC e)[1]?=some (.int .i64 (e.at':Int)):=rfl
theorem evC_op (e:Ev) (h:3<(evC e).length):(evC e)[3]=.int .i64 e.r.ins.op:=rfl
theorem evCq_op (e:Ev):(evC e)[3]?=some (.int .i64 e.r.ins.op):=rfl
theorem evC_aq (e:Ev) (h:8<(evC e).length):(evC e)[8]=.bool e.r.ins.aq:=rfl
theorem evCq_aq (e:Ev):(evC e)[8]?=some (.bool e.r.ins.aq):=rfl
theorem evC_rl (e:Ev) (h:9<(evC e).length):(evC e)[9]=.bool e.r.ins.rl:=rfl
theorem evCq_rl (e:Ev):(evC e)[9]?=some (.bool e.r.ins.rl):=rfl
theorem evC_id (e:Ev) (h:18<(evC e).length):(evC e)[18]=.int .i64 e.r.id:=rfl
theorem evCq_id (e:Ev):(evC e)[18]?=some (.int .i64 e.r.id):=rfl
theorem evC_pair (e:Ev) (h:28<(evC e).length):(evC e)[28]=.int .i64 e.r.pair:=rfl
theorem evCq_pair (e:Ev):(evC e)[28]?=some (.int .i64 e.r.pair):=rfl
theorem evC_ld (e:Ev) (h:29<(evC e).length):(evC e)[29]=.bool (lod e.r.ins.op):=rfl
theorem evCq_ld (e:Ev):(evC e)[29]?=some (.bool (lod e.r.ins.op)):=rfl
theorem evC_st (e:Ev) (h:30<(evC e).length):(evC e)[30]=.bool (sto e.r.ins.op):=rfl
theorem evCq_st (e:Ev):(evC e)[30]?=some (.bool (sto e.r.ins.op)):=rfl
theorem evC_ad (e:Ev) (h:31<(evC e).length):(evC e)[31]=.int .i64 (adE e.r):=rfl
theorem evCq_ad (e:Ev):(evC e)[31]?=some (.int .i64 (adE e.r)):=rfl
theorem evC_sz (e:Ev) (h:32<(evC e).length):(evC e)[32]=.int .i64 (szO e.r.ins.op:Nat):=rfl
theorem evCq_sz (e:Ev):(evC e)[32]?=some (.int .i64 (szO e.r.ins.op:Nat)):=rfl
theorem evC_take (e:Ev):(evC e).take 33=evC e:=rfl
theorem evC_drop (e:Ev):(evC e).drop 33=[]:=rfl
theorem evC_r (e:Ev):((evC e).drop 2).take 27=rC e.r:=rfl
theorem rC_drop (r:Rt):(rC r).drop 27=[]:=rfl
attribute [go_sem] evC_len evC_hart evCq_hart evC_at evCq_at evC_op evCq_op evC_aq evCq_aq evC_rl evCq_rl evC_id evCq_id evC_pair evCq_pair evC_ld evCq_ld evC_st evCq_st evC_ad evCq_ad evC_sz evCq_sz evC_take evC_drop evC_r rC_drop rC_take rC_in
abbrev Ev.st (e:Ev):Bool:=sto e.r.ins.op
abbrev Ev.ld (e:Ev):Bool:=lod e.r.ins.op
def ovE (a b:Ev):Bool:=ovl (adE a.r) (szO a.r.ins.op:Nat) (adE b.r) (szO b.r.ins.op:Nat)
def hasE (e:Ev) (at_:Int):Bool:=ovl (adE e.r) (szO e.r.ins.op:Nat) at_ 1
def strE (e:Ev):Bool:=e.r.ins.aq || e.r.ins.rl
theorem overlap_ok (a b:Ev):evI pg .val n_ppo_overlap [.agg (evC a),.agg (evC b)] []=some (.bool (ovE a b),[]):=by
 have h:=Overlap_ok (adE a.r) (szO a.r.ins.op:Nat) (adE b.r) (szO b.r.ins.op:Nat)
 rw [s_fn fn_ppo_overlap]
 unfold ovE
 simp [ir_ppo_overlap,go_sem,h,V.cells,V.exp]
theorem has_ok (e:Ev) (at_:Int):evI pg .val n_ppo_has [.agg (evC e),.int .i64 at_] []=some (.bool (hasE e at_),[]):=by
 have h:=Overlap_ok (adE e.r) (szO e.r.ins.op:Nat) at_ 1
 rw [s_fn fn_ppo_has]
 unfold hasE
 simp [ir_ppo_has,go_sem,h,V.cells,V.exp]
theorem strong_ok (e:Ev):evI pg .val n_ppo_strong [.agg (evC e)] []=some (.bool (strE e),[]):=by
 rw [s_fn fn_ppo_strong]
 unfold strE
 cases h:e.r.ins.aq<;>simp [ir_ppo_strong,go_sem,h,V.cells,V.exp]
def tgs (e:Ev):List Int:=(List.range (szO e.r.ins.op)).map e.r.tg
def retE (e:Ev) (id:Int):Bool:=lod e.r.ins.op && (tgs e).contains id
theorem Index_loop (v:V) (l:List Int) (hv:Sl v (iI l)) (hl:l.length≤1000) (x:Int) (i:Nat) (hi:i≤l.length):
  evCI pg (.loop ir_slices_Index_int_intl0) ⟨[v,.int .i64 x,.undef,.undef,.int .i64 (l.length:Int),.int .i64 (i:Int),.undef,.undef],⟨[],[],[]⟩⟩ =
   some (if (l.drop i).contains x=true then (.ret,⟨[.undef,.undef,.int .i64 ((i+(l.drop i).idxOf x:Nat):Int),.undef,.undef,.undef,.undef,.undef],⟨[],[],[]⟩⟩)
    else (.exit 0,⟨[v,.int .i64 x,.undef,.undef,.int .i64 (l.length:Int),.int .i64 (l.length:Int),.bool false,.undef],⟨[],[],[]⟩⟩)):=by
 obtain ⟨B,hB⟩:∃ B,B=C.loop ir_slices_Index_int_intl0:=⟨_,rfl⟩
 by_cases h:i<l.length
 ·have e1:=fun m=>hv.ia (sz:=1) m .i64 (i:=i) (by rw [iI_len]; exact h) (by simp [iI])
  simp only [iI_el] at e1
  have e3:=succ_i64 h (by omega)
  have ih:=Index_loop v l hv hl x (i+1) (by omega)
  rw [List.drop_eq_getElem_cons h,List.contains_cons,List.idxOf_cons]
  rw [← hB] at ih
  rw [← hB,s_loop_at hB]
  by_cases c:l[i]=x
  ·have c1:(x == l[i])=true:=by simp [c]
   have c2:(l[i] == x)=true:=by simp [c]
   rw [c1,c2]
   simp [ir_slices_Index_int_intl0,go_sem,hv.is,hv.rows,iI_len,h,e1,c]
  ·have c0:¬ x=l[i]:=fun h=>c h.symm
   have c1:(x == l[i])=false:=by simp [c0]
   have c2:(l[i] == x)=false:=by simp [c]
   have c3:i+((l.drop (i+1)).idxOf x+1)=i+1+(l.drop (i+1)).idxOf x:=by omega
   rw [c1,c2,Bool.false_or,cond_false,c3]
   simp [ir_slices_Index_int_intl0,go_sem,hv.is,hv.rows,iI_len,h,e1,e3,c0,ih,-Int.natCast_add]
 ·obtain rfl:i=l.length:=by omega
  rw [← hB,s_loop_at hB,List.drop_length]
  simp [ir_slices_Index_int_intl0,go_sem,hv.is,hv.rows,iI_len]
termination_by l.length - i
theorem Contains_ok (v:V) (l:List Int) (hv:Sl v (iI l)) (hl:l.length≤1000) (x:Int):evI pg .val n_slices_Contains_int_int [v,.int .i64 x] []=some (.bool (l.contains x),[]):=by
 have h:=Index_loop v l hv hl x 0 (by omega)
 rw [List.drop_zero,Int.natCast_zero,Nat.zero_add] at h
 have key:evI pg .val n_slices_Index_int_int [v,.int .i64 x] []=some (.int .i64 (if l.contains x=true then (l.idxOf x:Int) else -1),[]):=by
  rw [s_fn fn_slices_Index_int_int]
  by_cases c:l.contains x=true
  ·rw [if_pos c] at h
   rw [if_pos c]
   simp [ir_slices_Index_int_int,go_sem,hv.is,hv.rows,iI_len,h]
  ·rw [if_neg c] at h
   rw [if_neg c]
   simp [ir_slices_Index_int_int,go_sem,hv.is,hv.rows,iI_len,h]
 rw [s_fn fn_slices_Contains_int_int]
 by_cases c:l.contains x=true
 ·rw [if_pos c] at key
  rw [c]
  have:(0:Int)≤(l.idxOf x:Int):=by omega
  simp [ir_slices_Contains_int_int,go_sem,hv.is,key,this]
 ·rw [if_neg c] at key
  have c':l.contains x=false:=by simpa using c
  rw [c']
  simp [ir_slices_Contains_int_int,go_sem,hv.is,key]
theorem evC_tg (e:Ev):(evC e).drop 20=[.int .i64 (e.r.tg 0),.int .i64 (e.r.tg 1),.int .i64 (e.r.tg 2),.int .i64 (e.r.tg 3),.int .i64 (e.r.tg 4),.int .i64 (e.r.tg 5),.int .i64 (e.r.tg 6),.int .i64 (e.r.tg 7),.int .i64 e.r.pair,.bool (lod e.r.ins.op),.bool (sto e.r.ins.op),.int .i64 (adE e.r),.int .i64 (szO e.r.ins.op:Nat)]:=rfl
theorem le8 {n:Nat} (h:n≤8):n=0∨n=1∨n=2∨n=3∨n=4∨n=5∨n=6∨n=7∨n=8:=by omega
theorem returns_ok (e:Ev) (id:Int):evI pg .val n_ppo_returns [.agg (evC e),.int .i64 id] []=some (.bool (retE e id),[]):=by
 have hC:=Contains_ok (.isl true (iI (tgs e))) (tgs e) (.isl _ _) (by unfold tgs; rw [List.length_map,List.length_range]; have:=szO_le e.r.ins.op; omega) id
 have ht:tgs e=(List.range (szO e.r.ins.op)).map e.r.tg:=rfl
 have hd:=evC_tg e
 unfold retE
 cases l:lod e.r.ins.op with
 | false=>
  have hz:=evCq_ld e
  rw [l] at hz
  rw [s_fn fn_ppo_returns]
  simp [ir_ppo_returns,go_sem,l,V.cells,V.exp]
 | true=>
  rcases le8 (szO_le e.r.ins.op) with h | h | h | h | h | h | h | h | h<;>rw [h] at ht<;>simp only [List.range_succ,List.range_zero,List.nil_append,List.map_append,List.map_cons,List.map_nil,List.cons_append] at ht<;>rw [ht] at hC ⊢<;>simp only [iI,List.map_cons,List.map_nil] at hC<;>rw [s_fn fn_ppo_returns]<;>simp [ir_ppo_returns,go_sem,l,h,hd,hC,V.cells,V.exp,slcAV,bnd,asNat,chunk]
def ordE (f:In) (a b:Ev):Bool:=if f.op=51 then a.ld || (a.st && b.st)
 else (a.ld && decide (andI .i64 f.pred 2≠0) || a.st && decide (andI .i64 f.pred 1≠0)) && (b.ld && decide (andI .i64 f.succ 2≠0) || b.st && decide (andI .i64 f.succ 1≠0))
theorem inV_op (x:In):(inV x)[0]?=some (.int .i64 x.op):=rfl
theorem inV_pred (x:In):(inV x)[7]?=some (.int .i64 x.pred):=rfl
theorem inV_succ (x:In):(inV x)[8]?=some (.int .i64 x.succ):=rfl
theorem inV_op' (x:In) (h:0<(inV x).length):(inV x)[0]=.int .i64 x.op:=rfl
theorem inV_pred' (x:In) (h:7<(inV x).length):(inV x)[7]=.int .i64 x.pred:=rfl
theorem inV_succ' (x:In) (h:8<(inV x).length):(inV x)[8]=.int .i64 x.succ:=rfl
theorem pth (l s:Bool) (P:Prop):(l=true∧¬ P)∨(l=true∧P∧s=true)∨(l=true∧P∧s=false)∨(l=false∧s=true)∨(l=false∧s=false):=by
 by_cases h:P<;>cases l<;>cases s<;>simp [h]
set_option maxHeartbeats 1000000 in
theorem orders_ok (f:In) (a b:Ev):evI pg .val n_ppo_orders [.agg (inV f),.agg (evC a),.agg (evC b)] []=some (.bool (ordE f a b),[]):=by
 rw [s_fn fn_ppo_orders]
 unfold ordE
 by_cases c:f.op=51
 ·rw [if_pos c]
  cases h1:a.ld<;>cases h2:a.st<;>simp only [Ev.ld,Ev.st] at h1 h2<;>simp [ir_ppo_orders,go_sem,inV_len,inV_op,inV_pred,inV_succ,inV_op',inV_pred',inV_succ',c,h1,h2,V.cells,V.exp]
 ·rw [if_neg c]
  rcases pth a.ld a.st (andI .i64 f.pred 2=0) with ⟨h1,h2⟩ | ⟨h1,h2,h3⟩ | ⟨h1,h2,h3⟩ | ⟨h1,h2⟩ | ⟨h1,h2⟩<;>rcases pth b.ld b.st (andI .i64 f.succ 2=0) with ⟨g1,g2⟩ | ⟨g1,g2,g3⟩ | ⟨g1,g2,g3⟩ | ⟨g1,g2⟩ | ⟨g1,g2⟩<;>simp only [Ev.ld,Ev.st] at *<;>by_cases p1:andI .i64 f.pred 1=0<;>simp [ir_ppo_orders,go_sem,inV_len,inV_op,inV_pred,inV_succ,inV_op',inV_pred',inV_succ', *,V.cells,V.exp]
end Go.Proofs.YtimiademofajeaaGreatDoor
