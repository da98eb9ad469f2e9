/- Lemmas (no claim): K21d, K21e, K21f, K21g. -/
import Derived.Test.YtimiademofajeaaGreatDoorP04
set_option linter.unusedSimpArgs false
set_option linter.unusedVariables false
set_option maxRecDepth 20000
namespace Go.Proofs.YtimiademofajeaaGreatDoor
open Go Go.Vm
def rc (S:Nat→Nat):List V:=(List.range 256).map fun c=>.int .u64 ((wd (S (c / 8)) (c % 8):Nat):Int)
theorem rc_len (S:Nat→Nat):(rc S).length=256:=by simp [rc]
theorem rc_el (S:Nat→Nat) (i:Nat) (h:i<(rc S).length):(rc S)[i]=.int .u64 ((wd (S (i / 8)) (i % 8):Nat):Int):=by simp [rc]
theorem wc_el (W:Nat) (i:Nat) (h:i<(wc W).length):(wc W)[i]=.int .u64 ((wd W i:Nat):Int):=by simp [wc,wvs,wl_el]
theorem rc_get (S:Nat→Nat) {r:Nat} (h:r<32):((rc S).drop (r * 8)).take 8=wc (S r):=by
 apply List.ext_getElem
 ·rw [List.length_take,List.length_drop,rc_len,wc_len]; omega
 ·intro j h1 h2
  rw [wc_len] at h2
  rw [List.getElem_take,List.getElem_drop,rc_el,wc_el]
  rw [show (r * 8+j) / 8=r by omega,show (r * 8+j) % 8=j by omega]
def up (S:Nat→Nat) (r W:Nat):Nat→Nat:=fun q=>if q=r then W else S q
theorem rc_set (S:Nat→Nat) {r:Nat} (W:Nat) (h:r<32):splice (rc S) (r * 8) (wc W)=rc (up S r W):=by
 unfold splice
 rw [wc_len]
 apply List.ext_getElem
 ·simp only [List.length_append,List.length_take,List.length_drop,rc_len,wc_len]; omega
 ·intro j h1 h2
  rw [rc_len] at h2
  rw [rc_el]
  by_cases c1:j<r * 8
  ·rw [List.getElem_append_left (by simp only [List.length_append,List.length_take,rc_len]; omega),List.getElem_append_left (by simp only [List.length_take,rc_len]; omega),List.getElem_take,rc_el]
   have:¬ j / 8=r:=by omega
   simp [up,this]
  ·by_cases c2:j<r * 8+8
   ·rw [List.getElem_append_left (by simp only [List.length_append,List.length_take,rc_len,wc_len]; omega),List.getElem_append_right (by simp only [List.length_take,rc_len]; omega),wc_el]
    have e1:j / 8=r:=by omega
    have e2:j - (List.take (r * 8) (rc S)).length=j % 8:=by simp only [List.length_take,rc_len]; omega
    simp only [e2,up,e1,if_true]
   ·rw [List.getElem_append_right (by simp only [List.length_append,List.length_take,rc_len,wc_len]; omega),List.getElem_drop,rc_el]
    have e2:r * 8+8+(j - (List.take (r * 8) (rc S) ++ wc W).length)=j:=by simp only [List.length_append,List.length_take,rc_len,wc_len]; omega
    have:¬ j / 8=r:=by omega
    simp only [e2,up,this,if_false]
theorem rc_imm (S:Nat→Nat) (m:Mem) (t:Bool) (d:Nat):omap (toImm m t (d+1)) (rc S)=some (rc S):=omap_same fun v hv=>by
 obtain ⟨c,_,rfl⟩:=List.mem_map.1 hv
 rfl
theorem wc_imm (W:Nat) (m:Mem) (t:Bool) (d:Nat):omap (toImm m t (d+1)) (wc W)=some (wc W):=omap_same fun v hv=>by
 obtain ⟨c,_,rfl⟩:=List.mem_map.1 hv
 rfl
def ofS (S:Nat→Nat) (q:List Int):Nat:=q.foldl (fun W r=>if 0<r∧r<32 then W ||| S r.toNat else W) 0
def ofF (S:Nat→Nat) (q:List Int) (W:Nat):Nat:=q.foldl (fun W r=>if 0<r∧r<32 then W ||| S r.toNat else W) W
theorem of_loop (t:Bool) (S:Nat→Nat) (u:V) (q:List Int) (hu:Sl u (iI q)) (hq:q.length≤1000) (i:Nat) (hi:i≤q.length) (W:Nat) (vs:List (List V)):
  evCI pg (.loop ir_deps_roots_ofl0) ⟨[.ip t (rc S) 0,.undef,.lp 0 0,.ptr 0 0 0,.undef,u,.int .i64 (q.length:Int),.int .i64 (i:Int),.undef,.undef],⟨vs,[],[.arr [wc W]]⟩⟩ =
   some (.exit 0,⟨[.ip t (rc S) 0,.undef,.lp 0 0,.ptr 0 0 0,.undef,u,.int .i64 (q.length:Int),.int .i64 (q.length:Int),.bool false,.undef],⟨vs,[],[.arr [wc (ofF S (q.drop i) W)]]⟩⟩):=by
 obtain ⟨B,hB⟩:∃ B,B=C.loop ir_deps_roots_ofl0:=⟨_,rfl⟩
 by_cases h:i<q.length
 ·have e1:=fun m=>hu.ia (sz:=1) m .i64 (i:=i) (by rw [iI_len]; exact h) (by simp [iI])
  simp only [iI_el] at e1
  have e3:=succ_i64 h (by omega)
  have hd:q.drop i=q[i] :: q.drop (i+1):=List.drop_eq_getElem_cons h
  by_cases c:0<q[i]∧q[i]<32
  ·obtain ⟨r,hr⟩:∃ r:Nat,q[i]=(r:Int):=⟨q[i].toNat,by omega⟩
   rw [hr] at e1 c
   have hr32:r<32:=by omega
   have c1:(0:Int)<(r:Int):=c.1
   have c2:(r:Int)<32:=c.2
   have c1n:0<r:=by omega
   have ef:ofF S (q.drop i) W=ofF S (q.drop (i+1)) (W ||| S r):=by
    rw [hd]; unfold ofF; rw [List.foldl_cons,hr,if_pos c]; rfl
   have ih:=of_loop t S u q hu hq (i+1) (by omega) (W ||| S r) vs
   have hj:=join_ok [.arr [wc W]] 0 W (S r) rfl
   have hg:=rc_get S hr32
   have hlen:=rc_len S
   have hl8:r * 8+8≤256:=by omega
   have hx:=asIx_nat (k:=.i64) hr32
   rw [ef,← ih,← hB]
   conv=>lhs; rw [s_loop_at hB]
   generalize rc S=rcs at *
   generalize wc (S r)=cw at *
   generalize wc (W ||| S r)=cwo at *
   generalize wc W=cw0 at *
   simp only [List.set_cons_zero] at hj
   simp [ir_deps_roots_ofl0,go_sem,h,e1,e3,c1,c1n,c2,hx,hlen,loadAt,hl8,hg,hj,hu.is,-Int.natCast_add]
  ·have ef:ofF S (q.drop i) W=ofF S (q.drop (i+1)) W:=by
    rw [hd]; unfold ofF; rw [List.foldl_cons,if_neg c]
   have ih:=of_loop t S u q hu hq (i+1) (by omega) W vs
   rw [ef,← ih,← hB]
   conv=>lhs; rw [s_loop_at hB]
   generalize rc S=rcs at *
   generalize wc W=cw0 at *
   by_cases c1:0<q[i]
   ·have c2:¬ q[i]<32:=fun d=>c ⟨c1,d⟩
    simp [ir_deps_roots_ofl0,go_sem,h,e1,e3,c1,c2,hu.is,-Int.natCast_add]
   ·simp [ir_deps_roots_ofl0,go_sem,h,e1,e3,c1,hu.is,-Int.natCast_add]
 ·obtain rfl:i=q.length:=by omega
  rw [← hB,s_loop_at hB,List.drop_length]
  simp [ir_deps_roots_ofl0,go_sem,ofF]
termination_by q.length - i
theorem of_ok (t:Bool) (S:Nat→Nat) (u:V) (q:List Int) (hu:Sl u (iI q)) (hq:q.length≤1000):evI pg .val n_deps_roots_of [.ip t (rc S) 0,u] []=some (.agg (wc (ofS S q)),[]):=by
 have hl:=of_loop t S u q hu hq 0 (by omega) 0 [[.int .u64 0,.int .u64 0,.int .u64 0,.int .u64 0,.int .u64 0,.int .u64 0,.int .u64 0,.int .u64 0]]
 rw [List.drop_zero,Int.natCast_zero] at hl
 have e:ofF S q 0=ofS S q:=rfl
 rw [e,wc_zero] at hl
 have ht:=wc_take (ofS S q)
 have hlen:=wc_len (ofS S q)
 have hcl:=wc_clean (ofS S q)
 have hti:=fun (m:Mem)=>wc_imm (ofS S q) m false 6
 simp only [Nat.reduceAdd] at hti
 have h7:=hcl 6
 simp only [Nat.reduceAdd] at h7
 rw [s_fn fn_deps_roots_of]
 generalize wc (ofS S q)=cw at *
 have hd8:List.drop 8 cw=[]:=List.drop_of_length_le (by omega)
 generalize rc S=rcs at *
 simp [ir_deps_roots_of,go_sem,hu.is,hu.rows,iI_len,hl,V.cells,hlen,loadAt,ht,evStore,splice,hcl,h7,hd8,hti,-List.all_eq_true]
theorem ofF_lt {n:Nat} {S:Nat→Nat} (hS:∀ r,r<32→S r<2 ^ n):∀ (q:List Int) (W:Nat),W<2 ^ n→ofF S q W<2 ^ n
 | [],W,h=>h
 | r :: q,W,h=>by
  unfold ofF
  rw [List.foldl_cons]
  refine ofF_lt hS q _ ?_
  split
  ·rename_i c
   have hr:r.toNat<32:=by clear h hS; omega
   exact Nat.or_lt_two_pow h (hS _ hr)
  ·exact h
theorem ofS_lt {n:Nat} {S:Nat→Nat} (hS:∀ r,r<32→S r<2 ^ n) (q:List Int):ofS S q<2 ^ n:=ofF_lt hS q 0 (Nat.two_pow_pos n)
def gvn (S:Nat→Nat) (at':Nat) (x:In):Nat:=if giv x.op then 2 ^ at' else if srtO x.op=6∨srtO x.op=7 then ofS S (srcs x) else 0
def bhd (S:Nat→Nat) (at':Nat) (x:In):Nat→Nat:=if tgt x=0 then S else up S (tgt x).toNat (gvn S at' x)
theorem tgt_le (x:In):0≤tgt x∧tgt x≤31:=by
 unfold tgt
 split
 ·exact rg_le _
 ·omega
theorem up_lt {n:Nat} {S:Nat→Nat} (hS:∀ r,r<32→S r<2 ^ n) (k W:Nat) (hW:W<2 ^ n):∀ r,r<32→up S k W r<2 ^ n:=by
 intro r hr
 unfold up
 split
 ·exact hW
 ·exact hS r hr
theorem gvn_lt {n:Nat} {S:Nat→Nat} (hS:∀ r,r<32→S r<2 ^ n) {at':Nat} (ha:at'<n) (x:In):gvn S at' x<2 ^ n:=by
 unfold gvn
 split
 ·exact Nat.pow_lt_pow_right (by omega) ha
 ·split
  ·exact ofS_lt hS _
  ·exact Nat.two_pow_pos n
theorem bhd_lt {n:Nat} {S:Nat→Nat} (hS:∀ r,r<32→S r<2 ^ n) {at':Nat} (ha:at'<n) (x:In):∀ r,r<32→bhd S at' x r<2 ^ n:=by
 unfold bhd
 split
 ·exact hS
 ·exact up_lt hS _ _ (gvn_lt hS ha x)
theorem srcs_len (x:In):(srcs x).length≤2:=by
 unfold srcs src0
 refine Nat.le_trans (List.length_filter_le _ _) ?_
 cases rd1 x.op<;>cases rd2 x.op<;>simp
theorem wc_one (b:Nat) (hb:b<512):splice (wc 0) (b / 64) [.int .u64 ((2 ^ (b % 64):Nat):Int)]=wc (2 ^ b):=by
 have e:=wl_add 8 0 b (by omega)
 have e0:wd 0 (b / 64)=0:=by unfold wd; rw [Nat.zero_div,Nat.zero_mod]
 rw [e0,Nat.zero_or,Nat.zero_or] at e
 rw [splice_one _ _ _ (by rw [wc_len]; omega)]
 unfold wc
 rw [← e]
 unfold wvs
 rw [List.map_set]
section
variable (H:List Vm.Obj) (p:Nat) (S:Nat→Nat) (at':Nat) (x:In) (h:H[p]?=some (.arr [rc S])) (ha:at'<512)
include h ha
theorem behind_ok:evI pg .heap n_deps_roots_behind [.ptr p 0 0,.int .i64 (at':Int),.agg (inV x)] H=some (.tup [],H.set p (.arr [rc (bhd S at' x)])):=by
 have hp:=get_lt h
 have hg:=get_el h hp
 have hT:=Target_ok x
 have hG:=gives_ok x
 have hS:=SortO x.op
 have hQ:=Sources_ok x
 have hO:=of_ok true S (ils (iI (srcs x))) (srcs x) (.ils _) (by have:=srcs_len x; omega)
 have ht:=tgt_le x
 have him:=fun vs tk=>rc_imm S ⟨vs,tk,H⟩ true 6
 simp only [Nat.reduceAdd] at him
 have hset:H.set p (.arr [rc S])=H:=by
  apply List.ext_getElem?
  intro q
  by_cases c:p=q
  ·subst c; rw [List.getElem?_set_self hp,h]
  ·rw [List.getElem?_set_ne c]
 unfold bhd
 have hlen:=rc_len S
 by_cases c0:tgt x=0
 ·rw [if_pos c0,hset]
  rw [c0] at hT
  rw [s_fn fn_deps_roots_behind]
  simp [inV] at hT hG hQ ⊢
  simp [ir_deps_roots_behind,go_sem,hT,V.cells,loadAt]
 ·rw [if_neg c0]
  obtain ⟨k,hk⟩:∃ k:Nat,tgt x=(k:Int):=⟨(tgt x).toNat,by omega⟩
  rw [hk,Int.toNat_natCast]
  have hk32:k<32:=by omega
  have hk32':(k:Int)<32:=by omega
  have hx:=asIx_nat (k:=.i64) hk32
  have hk0:¬ (k:Int)=0:=by omega
  have hk0':¬ k=0:=by omega
  have hr:=rc_set S (gvn S at' x) hk32
  have hl8:k * 8+8≤256:=by omega
  have hsl:=Sl.ils (iI (srcs x))
  rw [hk] at hT
  unfold gvn at hr ⊢
  rw [s_fn fn_deps_roots_behind]
  cases hgv:giv x.op with
  | true=>
   rw [hgv] at hG
   simp only [hgv,if_true] at hr ⊢
   have e0:IntKind.i64.wrap ((at':Int).tdiv 64)=((at' / 64:Nat):Int):=(tdiv64 at').resolve_right (by omega)
   have e2:((at':Int).tmod 64)=((at' % 64:Nat):Int):=by rw [Int.tmod_eq_emod_of_nonneg (Int.natCast_nonneg _)]; omega
   have e0':IntKind.i64.wrap ((at':Int) / 64)=((at' / 64:Nat):Int):=by rw [wrap_i64 (by omega) (by omega)]; omega
   have e2':((at':Int) % 64)=((at' % 64:Nat):Int):=by omega
   have h64:at' % 64<64:=Nat.mod_lt _ (by omega)
   have hbk:at' / 64<8:=by omega
   have hpw:2 ^ (at' % 64)<18446744073709551616:=by
    have:=Nat.pow_lt_pow_right (a:=2) (by omega) h64
    omega
   have e4:IntKind.u64.wrap ((1:Int) * 2 ^ (at' % 64))=((2 ^ (at' % 64):Nat):Int):=by
    rw [← wrap_u64' hpw]; simp
   have e4':IntKind.u64.wrap ((2:Int) ^ (at' % 64))=((2 ^ (at' % 64):Nat):Int):=by
    rw [← wrap_u64' hpw]; simp
   have hw0:wd 0 (at' / 64)=0:=by unfold wd; rw [Nat.zero_div,Nat.zero_mod]
   have hget:=wc_get 0 hbk
   rw [hw0] at hget
   have e5:orI .u64 (0:Int) ((2 ^ (at' % 64):Nat):Int)=((2 ^ (at' % 64):Nat):Int):=by
    have:=or_u64 (a:=0) (by omega) hpw
    rwa [Nat.zero_or] at this
   have e6:=wc_one at' ha
   have hmn:min (at' % 64) 64=at' % 64:=by omega
   have hxs:=asIx_nat (k:=.i64) hbk
   have hz:=wc_len 0
   have hc8:=wc_len (2 ^ at')
   have ht8:=wc_take (2 ^ at')
   have hle1:at' / 64+1≤8:=by omega
   simp only [inV] at hT hG hQ ⊢
   simp only [ir_deps_roots_behind,← wc_zero]
   generalize wc (2 ^ at')=c2 at *
   generalize wc 0=c0' at *
   generalize rc S=rcs at *
   generalize 2 ^ (at' % 64)=pw at *
   generalize at' % 64=r at *
   generalize at' / 64=s at *
   have hsl':s<c0'.length:=by omega
   have hrs:c0'[s]=.int .u64 0:=by
    rw [List.getElem?_eq_getElem hsl'] at hget; exact Option.some.inj hget
   rw [splice] at e6 hr
   have hbk':(s:Int)<8:=by omega
   simp [hc8] at e6 hr
   simp [go_sem,hT,hG,hS,hk0,hk0',V.cells,loadAt,evStore,splice,e0,e2,e0',e2',e4,e4',e5,e6,hmn,h,hp,hg,hget,hrs,hxs,hx,hz,hc8,ht8,hle1,hlen,hl8,hr,hbk',hk32',IntKind.bits,-Int.natCast_emod,-Int.natCast_pow,-Int.natCast_ediv,-Int.natCast_add,-Int.natCast_mul]
  | false=>
   rw [hgv] at hG
   simp only [hgv,Bool.false_eq_true,if_false] at hr ⊢
   have hz:=wc_len 0
   by_cases c67:srtO x.op=6∨srtO x.op=7
   ·rw [if_pos c67] at hr
    rw [if_pos c67]
    have hc8:=wc_len (ofS S (srcs x))
    have ht8:=wc_take (ofS S (srcs x))
    have hd8:List.drop 8 (wc (ofS S (srcs x)))=[]:=List.drop_of_length_le (by omega)
    have h7:=wc_clean (ofS S (srcs x)) 6
    simp only [Nat.reduceAdd] at h7
    simp only [inV] at hT hG hQ ⊢
    simp only [ir_deps_roots_behind,← wc_zero]
    generalize wc (ofS S (srcs x))=c2 at *
    generalize wc 0=c0' at *
    have hd0:List.drop 8 c0'=[]:=List.drop_of_length_le (by omega)
    generalize rc S=rcs at *
    generalize ils (iI (srcs x))=u at *
    rw [splice] at hr
    simp [hc8] at hr
    rcases c67 with e | e
    ·rw [e] at hS
     simp [go_sem,hT,hG,hS,hQ,hO,him,hsl.is,hk0,hk0',V.cells,loadAt,evStore,splice,h,hp,hg,hx,hz,hc8,ht8,hd8,hd0,hlen,hl8,hr,hk32',h7,-Int.natCast_add,-Int.natCast_mul,-List.all_eq_true]
    ·rw [e] at hS
     simp [go_sem,hT,hG,hS,hQ,hO,him,hsl.is,hk0,hk0',V.cells,loadAt,evStore,splice,h,hp,hg,hx,hz,hc8,ht8,hd8,hd0,hlen,hl8,hr,hk32',h7,-Int.natCast_add,-Int.natCast_mul,-List.all_eq_true]
   ·rw [if_neg c67] at hr
    rw [if_neg c67]
    have n6:¬ srtO x.op=6:=fun e=>c67 (.inl e)
    have n7:¬ srtO x.op=7:=fun e=>c67 (.inr e)
    have n6':¬ (srtO x.op:Int)=6:=by omega
    have n7':¬ (srtO x.op:Int)=7:=by omega
    have ht0:=wc_take 0
    simp only [inV] at hT hG hQ ⊢
    simp only [ir_deps_roots_behind,← wc_zero]
    generalize wc 0=c0' at *
    generalize rc S=rcs at *
    rw [splice] at hr
    simp [hz] at hr
    simp [go_sem,hT,hG,hS,n6,n7,n6',n7',hk0,hk0',V.cells,loadAt,evStore,splice,h,hp,hg,hx,hz,ht0,hlen,hl8,hr,hk32',-Int.natCast_add,-Int.natCast_mul]
end
def rtV (x:In):List V:=[.int .u64 0] ++ inV x ++ [.int .i64 0,.int .u64 0,.int .u64 0,.int .u64 0,.int .u64 0,.bool false,.int .i64 0,.flt 0,.int .i64 0,.int .i64 0,.int .i64 0,.int .i64 0,.int .i64 0,.int .i64 0,.int .i64 0,.int .i64 0,.int .i64 0]
def rtR (l:List In):List (List V):=l.map rtV
/-! ### along -/
def rAt (l:List In):Nat→Nat→Nat
 | 0=>fun _=>0
 | i+1=>match l[i]? with
  | some x=>bhd (rAt l i) i x
  | none=>rAt l i
theorem rAt_succ {l:List In} {i:Nat} (h:i<l.length):rAt l (i+1)=bhd (rAt l i) i l[i]:=by
 simp [rAt,h]
theorem rAt_lt (l:List In):∀ (i r:Nat),r<32→rAt l i r<2 ^ i
 | 0,r,_=>by simp [rAt]
 | i+1,r,hr=>by
  have ih:∀ r,r<32→rAt l i r<2 ^ (i+1):=fun r hr=>Nat.lt_trans (rAt_lt l i r hr) (Nat.pow_lt_pow_right (by omega) (by omega))
  unfold rAt
  cases l[i]? with
  | some x=>exact bhd_lt ih (by omega) _ r hr
  | none=>exact ih r hr
def addL (b:Nat) (q:List Nat) (W:Nat→Nat):Nat→Nat:=fun a=>if a∈q then W a ||| 2 ^ b else W a
theorem addL_cons (b a:Nat) (q:List Nat) (W:Nat→Nat):addL b (a :: q) W=addL b q (fun c=>if c=a then W a ||| 2 ^ b else W c):=by
 funext c
 unfold addL
 by_cases h1:c=a
 ·subst h1
  by_cases h2:c∈q
  ·simp [h2,Nat.or_assoc]
  ·simp [h2]
 ·by_cases h2:c∈q
  ·simp [h1,h2]
  ·simp [h1,h2]
def nL (q:List Nat):List Int:=q.map fun a:Nat=>(a:Int)
theorem nL_len (q:List Nat):(nL q).length=q.length:=by simp [nL]
section
variable {r:Nat} {v:V} {n T:Nat} {I:Nat→Nat} (f:V) (x:Nat) (at':Nat) (hat:at'<n) (u9 a10 a11:V) (y:List V) (uv:V) (q:List Nat) (hu:Sl uv (iI (nL q))) (hq:∀ a∈q,a<n) (hql:q.length≤1000)
include hat hu hq hql
theorem along_in (j:Nat) (hj:j≤q.length) (W:Nat→Nat) (H:List Vm.Obj) (h:RelAt H r v n T I W):
  ∃ H',evCI pg (.loop ir_deps_alongl0) ⟨[.undef,f,.undef,.ptr r 0 0,.ptr x 0 0,.int .i64 (at':Int),.lp 0 0,.undef,.undef,u9,a10,a11,.undef,uv,.int .i64 (q.length:Int),.int .i64 (j:Int),.undef],⟨[y],[],H⟩⟩ =
    some (.exit 2,⟨[.undef,f,.undef,.ptr r 0 0,.ptr x 0 0,.int .i64 (at':Int),.lp 0 0,.undef,.undef,u9,a10,a11,.undef,uv,.int .i64 (q.length:Int),.int .i64 (q.length:Int),.bool false],⟨[y],[],H'⟩⟩) ∧
   RelAt H' r v n T I (addL at' (q.drop j) W)∧(∀ o,(∀ a,a<n→o≠I a)→H'[o]?=H[o]?)∧H'.length=H.length:=by
 obtain ⟨B,hB⟩:∃ B,B=C.loop ir_deps_alongl0:=⟨_,rfl⟩
 by_cases c:j<q.length
 ·have e1:=fun m=>hu.ia (sz:=1) m .i64 (i:=j) (by rw [iI_len,nL_len]; exact c) (by simp [iI])
  simp only [iI_el] at e1
  have e1':(nL q)[j]'(by rw [nL_len]; exact c)=((q[j]:Nat):Int):=by simp [nL]
  simp only [e1'] at e1
  have e3:=succ_i64 c (by omega)
  have ha:=hq q[j] (List.getElem_mem c)
  have hA:=Add_ok h q[j] at' ha hat
  have h1:=h.set ha (W q[j] ||| 2 ^ at') (bit_lt (h.lt _ ha) hat)
  obtain ⟨H',r1,r2,r3,r4⟩:=along_in (j+1) (by omega) _ _ h1
  rw [List.drop_eq_getElem_cons c,addL_cons]
  refine ⟨H',?_,r2,fun o ho=>by rw [r3 o ho,List.getElem?_set_ne (Ne.symm (ho _ ha))],by rw [r4,List.length_set]⟩
  rw [← r1,← hB]
  conv=>lhs; rw [s_loop_at hB]
  simp [ir_deps_alongl0,go_sem,c,e1,e3,hA,hu.is,-Int.natCast_add]
 ·obtain rfl:j=q.length:=by omega
  refine ⟨H,?_,?_,fun _ _=>rfl,rfl⟩
  ·rw [← hB,s_loop_at hB]
   simp [ir_deps_alongl0,go_sem]
  ·rw [List.drop_length]
   have:addL at' [] W=W:=by funext a; simp [addL]
   rw [this]; exact h
termination_by q.length - j
end
def aW (D:Nat→Nat):Nat→Nat→Nat
 | 0=>fun _=>0
 | i+1=>addL i (sb 512 (D i).testBit) (aW D i)
set_option maxRecDepth 20000 in
theorem rep256:List.replicate 256 (V.int .u64 0)=[.int .u64 0,.int .u64 0,.int .u64 0,.int .u64 0,.int .u64 0,.int .u64 0,.int .u64 0,.int .u64 0,.int .u64 0,.int .u64 0,.int .u64 0,.int .u64 0,.int .u64 0,.int .u64 0,.int .u64 0,.int .u64 0,.int .u64 0,.int .u64 0,.int .u64 0,.int .u64 0,.int .u64 0,.int .u64 0,.int .u64 0,.int .u64 0,.int .u64 0,.int .u64 0,.int .u64 0,.int .u64 0,.int .u64 0,.int .u64 0,.int .u64 0,.int .u64 0,.int .u64 0,.int .u64 0,.int .u64 0,.int .u64 0,.int .u64 0,.int .u64 0,.int .u64 0,.int .u64 0,.int .u64 0,.int .u64 0,.int .u64 0,.int .u64 0,.int .u64 0,.int .u64 0,.int .u64 0,.int .u64 0,.int .u64 0,.int .u64 0,.int .u64 0,.int .u64 0,.int .u64 0,.int .u64 0,.int .u64 0,.int .u64 0,.int .u64 0,.int .u64 0,.int .u64 0,.int .u64 0,.int .u64 0,.int .u64 0,.int .u64 0,.int .u64 0,.int .u64 0,.int .u64 0,.int .u64 0,.int .u64 0,.int .u64 0,.int .u64 0,.int .u64 0,.int .u64 0,.int .u64 0,.int .u64 0,.int .u64 0,.int .u64 0,.int .u64 0,.int .u64 0,.int .u64 0,.int .u64 0,.int .u64 0,.int .u64 0,.int .u64 0,.int .u64 0,.int .u64 0,.int .u64 0,.int .u64 0,.int .u64 0,.int .u64 0,.int .u64 0,.int .u64 0,.int .u64 0,.int .u64 0,.int .u64 0,.int .u64 0,.int .u64 0,.int .u64 0,.int .u64 0,.int .u64 0,.int .u64 0,.int .u64 0,.int .u64 0,.int .u64 0,.int .u64 0,.int .u64 0,.int .u64 0,.int .u64 0,.int .u64 0,.int .u64 0,.int .u64 0,.int .u64 0,.int .u64 0,.int .u64 0,.int .u64 0,.int .u64 0,.int .u64 0,.int .u64 0,.int .u64 0,.int .u64 0,.int .u64 0,.int .u64 0,.int .u64 0,.int .u64 0,.int .u64 0,.int .u64 0,.int .u64 0,.int .u64 0,.int .u64 0,.int .u64 0,.int .u64 0,.int .u64 0,.int .u64 0,.int .u64 0,.int .u64 0,.int .u64 0,.int .u64 0,.int .u64 0,.int .u64 0,.int .u64 0,.int .u64 0,.int .u64 0,.int .u64 0,.int .u64 0,.int .u64 0,.int .u64 0,.int .u64 0,.int .u64 0,.int .u64 0,.int .u64 0,.int .u64 0,.int .u64 0,.int .u64 0,.int .u64 0,.int .u64 0,.int .u64 0,.int .u64 0,.int .u64 0,.int .u64 0,.int .u64 0,.int .u64 0,.int .u64 0,.int .u64 0,.int .u64 0,.int .u64 0,.int .u64 0,.int .u64 0,.int .u64 0,.int .u64 0,.int .u64 0,.int .u64 0,.int .u64 0,.int .u64 0,.int .u64 0,.int .u64 0,.int .u64 0,.int .u64 0,.int .u64 0,.int .u64 0,.int .u64 0,.int .u64 0,.int .u64 0,.int .u64 0,.int .u64 0,.int .u64 0,.int .u64 0,.int .u64 0,.int .u64 0,.int .u64 0,.int .u64 0,.int .u64 0,.int .u64 0,.int .u64 0,.int .u64 0,.int .u64 0,.int .u64 0,.int .u64 0,.int .u64 0,.int .u64 0,.int .u64 0,.int .u64 0,.int .u64 0,.int .u64 0,.int .u64 0,.int .u64 0,.int .u64 0,.int .u64 0,.int .u64 0,.int .u64 0,.int .u64 0,.int .u64 0,.int .u64 0,.int .u64 0,.int .u64 0,.int .u64 0,.int .u64 0,.int .u64 0,.int .u64 0,.int .u64 0,.int .u64 0,.int .u64 0,.int .u64 0,.int .u64 0,.int .u64 0,.int .u64 0,.int .u64 0,.int .u64 0,.int .u64 0,.int .u64 0,.int .u64 0,.int .u64 0,.int .u64 0,.int .u64 0,.int .u64 0,.int .u64 0,.int .u64 0,.int .u64 0,.int .u64 0,.int .u64 0,.int .u64 0,.int .u64 0,.int .u64 0,.int .u64 0,.int .u64 0,.int .u64 0,.int .u64 0,.int .u64 0,.int .u64 0,.int .u64 0,.int .u64 0,.int .u64 0,.int .u64 0,.int .u64 0,.int .u64 0,.int .u64 0,.int .u64 0,.int .u64 0]:=rfl
theorem rc_zero:List.replicate 256 (V.int .u64 0)=rc (fun _=>0):=by
 have e:∀ j,wd 0 j=0:=fun j=>by unfold wd; rw [Nat.zero_div,Nat.zero_mod]
 apply List.ext_getElem
 ·rw [List.length_replicate,rc_len]
 ·intro i h1 h2
  rw [List.getElem_replicate,rc_el,e]; rfl
theorem mem_sb {n a:Nat} {p:Nat→Bool}:a∈sb n p↔a<n∧p a=true:=by simp [sb]
theorem rt_nL (n W:Nat):rt n W=nL (sb n W.testBit):=rfl
theorem lt_pow {W i n:Nat} (h:W<2 ^ i) (hi:i≤n):W<2 ^ n:=Nat.lt_of_lt_of_le h (Nat.pow_le_pow_right (by omega) hi)
theorem lt_two {W i b:Nat} (h:W<2 ^ i) (hb:W.testBit b=true):b<i:=by
 apply Classical.byContradiction
 intro hn
 rw [bit_ge h (by omega)] at hb
 cases hb
section
variable {r:Nat} {v:V} {T:Nat} {I:Nat→Nat} {l:List In} {u:V} {f x:Nat} {cs:List V} {CB:Nat→List Vm.Obj→Prop} {own:Nat→Prop} {D:Nat→Nat}
 (hu:Sl u (rtR l)) (hl:l.length≤512) (hc:cs=[]∨∃ c,cs=[.ptr c 0 0])
 (hcb:∀ i (hi:i<l.length) H,H[x]?=some (.arr [rc (rAt l i)])→CB i H→∃ H2,evI pg .heap f ([.int .i64 (i:Int),.agg (inV l[i]),.ptr x 0 0] ++ cs) H=some (.agg (wc (D i)),H2)∧CB (i+1) H2∧(∀ o,¬ own o→H2[o]?=H[o]?))
 (hfr:∀ i H H',(∀ o,own o→H'[o]?=H[o]?)→CB i H→CB i H') (hox:¬ own x) (hor:∀ o,rft r l.length T I o→¬ own o) (hxr:¬ rft r l.length T I x) (hD:∀ i,i<l.length→D i<2 ^ i)
include hu hl hc hcb hfr hox hor hxr hD
end
end Go.Proofs.YtimiademofajeaaGreatDoor
