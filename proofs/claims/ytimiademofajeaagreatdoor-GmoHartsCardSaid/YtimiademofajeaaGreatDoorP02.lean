/- Lemmas (no claim): K19b, K19c, K19d, K19e. -/
import Derived.Test.YtimiademofajeaaGreatDoorP01
set_option linter.unusedSimpArgs false
set_option linter.unusedVariables false
set_option maxRecDepth 20000
namespace Go.Proofs.YtimiademofajeaaGreatDoor
open Go Go.Vm
theorem rb_succ (k W:Nat):rb (k+1) W=rb k W ++ wb k (wd W k):=by simp [rb,List.range_succ,List.flatMap_append]
theorem rb_eq (W:Nat):∀ k,rb k W=(sb (64 * k) W.testBit).map fun b=>((b:Nat):Int)
 | 0=>rfl
 | k+1=>by
  rw [rb_succ,rb_eq W k]
  unfold sb wb sb
  rw [show 64 * (k+1)=64 * k+64 by omega,List.range_add,List.filter_append,List.map_append,List.filter_map,List.map_map]
  congr 1
  have:(List.range 64).filter (wd W k).testBit=(List.range 64).filter (W.testBit ∘ fun x=>64 * k+x):=by
   apply List.filter_congr
   intro j hj
   rw [wd_bit]
   simp [List.mem_range.1 hj]
  rw [this]
  rfl
theorem sb_lt {n m:Nat} {p:Nat→Bool} (h:n≤m) (hp:∀ j,n≤j→j<m→p j=false):sb m p=sb n p:=by
 obtain ⟨d,rfl⟩:∃ d,m=n+d:=⟨m - n,by omega⟩
 unfold sb
 rw [List.range_add,List.filter_append]
 have:((List.range d).map fun x=>n+x).filter p=[]:=by
  rw [List.filter_eq_nil_iff]
  intro j hj
  obtain ⟨i,hi,rfl⟩:=List.mem_map.1 hj
  rw [hp (n+i) (by omega) (by have:=List.mem_range.1 hi; omega)]; simp
 rw [this,List.append_nil]
theorem bit_ge {W n j:Nat} (h:W<2 ^ n) (hj:n≤j):W.testBit j=false:=Nat.testBit_lt_two_pow (Nat.lt_of_lt_of_le h (Nat.pow_le_pow_right (by omega) hj))
def kw (n:Nat):Nat:=(n+63) / 64
theorem kw_ge (n:Nat):n≤64 * kw n:=by unfold kw; omega
theorem kw_le {n:Nat} (h:n≤512):kw n≤8:=by unfold kw; omega
theorem kw_bit {n b:Nat} (h:b<n):b / 64<kw n:=by unfold kw; omega
def rt (n W:Nat):List Int:=(sb n W.testBit).map fun b=>((b:Nat):Int)
theorem rb_rt {n W:Nat} (h:W<2 ^ n):rb (kw n) W=rt n W:=by
 rw [rb_eq,rt,sb_lt (kw_ge n) (fun j hj _=>bit_ge h hj)]
theorem rt_len (n W:Nat):(rt n W).length≤n:=by simp [rt,sb_len]
theorem each_loop (v:V) (k W:Nat) (hv:Sl v (wR (wl k W))) (hk:k≤8) (i:Nat) (hi:i≤k) (l:List Int) (hl:l.length≤64 * i):
  evCI pg (.loop ir_rel_row_eachl1) ⟨[.undef,.undef,.osl false 0 (iI l),.undef,.undef,v,.int .i64 (k:Int),.int .i64 (i:Int),.undef,.undef],⟨[],[l.length],[]⟩⟩ =
   some (.exit 0,⟨[.undef,.undef,.osl false 0 (iI (l ++ (List.range' i (k - i)).flatMap fun j=>wb j (wd W j))),.undef,.undef,v,.int .i64 (k:Int),.int .i64 (k:Int),.bool false,.undef],
    ⟨[],[(l ++ (List.range' i (k - i)).flatMap fun j=>wb j (wd W j)).length],[]⟩⟩):=by
 obtain ⟨B,hB⟩:∃ B,B=C.loop ir_rel_row_eachl1:=⟨_,rfl⟩
 by_cases h:i<k
 ·have e1:=fun m=>hv.ia (sz:=1) m .i64 (i:=i) (by rw [wR_len,wl_len]; exact h) (by simp [wR])
  simp only [wR_el,wl_el] at e1
  have e3:=succ_i64 h (by omega)
  have h1:(sb 64 (wd W i).testBit).length≤64:=sb_len _ _
  have hwbl:(wb i (wd W i)).length≤64:=by unfold wb; simp only [List.length_map]; exact h1
  have hw:=each_word v (.int .i64 (i:Int)) k i (by omega) (wd W i) (wd_lt W i) l (by omega)
  have ih:=each_loop v k W hv hk (i+1) (by omega) (l ++ wb i (wd W i)) (by rw [List.length_append]; omega)
  have e4:(List.range' i (k - i)).flatMap (fun j=>wb j (wd W j))=wb i (wd W i) ++ (List.range' (i+1) (k - (i+1))).flatMap fun j=>wb j (wd W j):=by
   rw [show k - i=(k - (i+1))+1 by omega,List.range'_succ,List.flatMap_cons]
  rw [e4,← List.append_assoc,← ih,← hB]
  conv=>lhs; rw [s_loop_at hB]
  generalize wb i (wd W i)=q at *
  simp [ir_rel_row_eachl1,go_sem,h,e1,e3,hw,hv.is,hv.rows,-Int.natCast_add,-List.length_append]
 ·obtain rfl:i=k:=by omega
  rw [← hB,s_loop_at hB,Nat.sub_self,List.range'_zero,List.flatMap_nil,List.append_nil]
  simp [ir_rel_row_eachl1,go_sem,hv.is]
termination_by k - i
theorem each_ok (v:V) (n W:Nat) (hv:Sl v (wR (wl (kw n) W))) (hn:n≤512) (hW:W<2 ^ n):evI pg .val n_rel_row_each [v] []=some (ils (iI (rt n W)),[]):=by
 have h:=each_loop v (kw n) W hv (kw_le hn) 0 (by omega) [] (by simp)
 have e:(List.range' 0 (kw n - 0)).flatMap (fun j=>wb j (wd W j))=rt n W:=by
  rw [← rb_rt hW,rb,Nat.sub_zero,← List.range_eq_range']
 rw [e,List.nil_append,List.length_nil,Int.natCast_zero] at h
 have e0:iI []=[]:=rfl
 rw [e0] at h
 rw [s_fn fn_rel_row_each]
 simp [ir_rel_row_each,go_sem,hv.is,hv.rows,wR_len,wl_len,h]
theorem tdiv64 (b:Nat):IntKind.i64.wrap ((b:Int).tdiv 64)=((b / 64:Nat):Int)∨9223372036854775808≤b:=by
 by_cases h:b<9223372036854775808
 ·left
  rw [Int.tdiv_eq_ediv_of_nonneg (Int.natCast_nonneg _),wrap_i64 (by omega) (by omega)]; omega
 ·exact .inr (by omega)
theorem row_has_ok (v:V) (k W b:Nat) (hv:Sl v (wR (wl k W))) (hk:k≤8) (hb:b<64 * k):evI pg .val n_rel_row_has [v,.int .i64 (b:Int)] []=some (.bool (W.testBit b),[]):=by
 have e0:IntKind.i64.wrap ((b:Int).tdiv 64)=((b / 64:Nat):Int):=(tdiv64 b).resolve_right (by omega)
 have e2:((b:Int).tmod 64)=((b % 64:Nat):Int):=by rw [Int.tmod_eq_emod_of_nonneg (Int.natCast_nonneg _)]; omega
 have e0':IntKind.i64.wrap ((b:Int) / 64)=((b / 64:Nat):Int):=by rw [wrap_i64 (by omega) (by omega)]; omega
 have e2':((b:Int) % 64)=((b % 64:Nat):Int):=by omega
 have h64:b % 64<64:=Nat.mod_lt _ (by omega)
 have e3:=fun m=>hv.ia (sz:=1) m .i64 (i:=b / 64) (by rw [wR_len,wl_len]; omega) (by simp [wR])
 simp only [wR_el,wl_el] at e3
 have e4:((wd W (b / 64):Nat):Int).fdiv (2 ^ (b % 64))=((wd W (b / 64) / 2 ^ (b % 64):Nat):Int):=shr_nat _ _
 have hl:=wd_lt W (b / 64)
 have hl2:wd W (b / 64) / 2 ^ (b % 64)<18446744073709551616:=Nat.lt_of_le_of_lt (Nat.div_le_self _ _) hl
 have e5:andI .u64 ((wd W (b / 64) / 2 ^ (b % 64):Nat):Int) 1=if W.testBit b then 1 else 0:=by
  have:=and_u64 hl2 (show 1<18446744073709551616 by omega)
  rw [testBit_and,wd_bit] at this
  rw [show 64 * (b / 64)+b % 64=b by omega] at this
  rw [show (1:Int)=((1:Nat):Int) from rfl,this]
  simp only [h64,decide_true,Bool.true_and]
  split<;>rfl
 have hmn:min (b % 64) 64=b % 64:=by omega
 have hg:∀ c:Bool,((if c=true then (1:Int) else 0)=1)↔c=true:=by intro c; cases c<;>simp
 generalize wd W (b / 64) / 2 ^ (b % 64)=q at *
 generalize wd W (b / 64)=u at *
 generalize b % 64=r at *
 generalize b / 64=s at *
 rw [s_fn fn_rel_row_has]
 simp [ir_rel_row_has,go_sem,hv.is,e0,e2,e0',e2',e3,e4,e5,hmn,hg,IntKind.bits,-Int.natCast_emod,-Int.natCast_pow,-Int.natCast_ediv,-Int.natCast_add,-Int.natCast_mul]
/-! ### a relation that is handed by its contents -/
structure RelV (rv:V) (n:Nat) (W:Nat→Nat):Prop where
 sl:∃ rows,Sl rv rows∧rows.length=n∧∀ (a:Nat) (h:a<rows.length),∃ x,rows[a]=[x]∧Sl x (wR (wl (kw n) (W a)))
 lt:∀ a,a<n→W a<2 ^ n
 le:n≤512
theorem RelV.row {rv:V} {n:Nat} {W:Nat→Nat} (h:RelV rv n W) {a:Nat} (ha:a<n):∃ x,Sl x (wR (wl (kw n) (W a)))∧∀ m,iaSV 1 m rv (.int .i64 (a:Int))=some (.ip (tg rv) [x] 0):=by
 obtain ⟨rows,h1,h2,h3⟩:=h.sl
 obtain ⟨x,h4,h5⟩:=h3 a (by omega)
 refine ⟨x,h5,fun m=>?_⟩
 have:=h1.ia (sz:=1) m .i64 (i:=a) (by omega) (by rw [h4]; rfl)
 rw [h4] at this
 exact this
theorem RelV.is {rv:V} {n:Nat} {W:Nat→Nat} (h:RelV rv n W):isS rv=true:=by
 obtain ⟨rows,h1,_⟩:=h.sl; exact h1.is
theorem RelV.len {rv:V} {n:Nat} {W:Nat→Nat} (h:RelV rv n W):(rows rv).length=n:=by
 obtain ⟨rows,h1,h2,_⟩:=h.sl; rw [h1.rows]; exact h2
section
variable {t:Bool} {rv:V} {n:Nat} {W:Nat→Nat} (hr:RelV rv n W)
include hr
theorem Len_ok:evI pg .val n_rel_Rel_Len [.ip t [rv] 0] []=some (.int .i64 (n:Int),[]):=by
 rw [s_fn fn_rel_Rel_Len]
 simp [ir_rel_Rel_Len,go_sem,hr.is,hr.len]
theorem is_ok (a:Int):evI pg .val n_rel_Rel_is [.ip t [rv] 0,.int .i64 a] []=some (.bool (decide (0≤a∧a<n)),[]):=by
 have hL:=Len_ok (t:=t) hr
 rw [s_fn fn_rel_Rel_is]
 by_cases h0:0≤a
 ·simp [ir_rel_Rel_is,go_sem,h0,hL]
 ·simp [ir_rel_Rel_is,go_sem,h0,hL]
def hasW (n:Nat) (W:Nat→Nat) (a b:Int):Bool:=decide (0≤a∧a<n∧0≤b∧b<n) && (W a.toNat).testBit b.toNat
theorem Has_ok (a b:Int):evI pg .val n_rel_Rel_Has [.ip t [rv] 0,.int .i64 a,.int .i64 b] []=some (.bool (hasW n W a b),[]):=by
 have ha:=is_ok (t:=t) hr a
 have hb:=is_ok (t:=t) hr b
 unfold hasW
 rw [s_fn fn_rel_Rel_Has]
 by_cases h1:0≤a∧a<n
 ·by_cases h2:0≤b∧b<n
  ·obtain ⟨a,rfl⟩:∃ k:Nat,a=k:=⟨a.toNat,by omega⟩
   obtain ⟨b,rfl⟩:∃ k:Nat,b=k:=⟨b.toNat,by omega⟩
   obtain ⟨x,hx,e⟩:=hr.row (a:=a) (by omega)
   have hk:=kw_bit (n:=n) (b:=b) (by omega)
   have hle:=hr.le
   have hh:=row_has_ok x (kw n) (W a) b hx (kw_le hle) (by omega)
   have h3:(0≤(a:Int)∧(a:Int)<n∧0≤(b:Int)∧(b:Int)<n):=⟨h1.1,h1.2,h2.1,h2.2⟩
   simp only [h1,h2,and_self,decide_true] at ha hb
   simp only [h3,and_self,decide_true,Bool.true_and,Int.toNat_natCast]
   simp [ir_rel_Rel_Has,go_sem,ha,hb,e,hh,hx.is]
  ·have h3:¬ (0≤a∧a<n∧0≤b∧b<n):=fun h=>h2 h.2.2
   simp only [h1,h2,and_self,decide_true,decide_false] at ha hb
   simp only [h3,decide_false,Bool.false_and]
   simp [ir_rel_Rel_Has,go_sem,ha,hb]
 ·have h3:¬ (0≤a∧a<n∧0≤b∧b<n):=fun h=>h1 ⟨h.1,h.2.1⟩
  simp only [h1,decide_false] at ha
  simp only [h3,decide_false,Bool.false_and]
  simp [ir_rel_Rel_Has,go_sem,ha]
end
def pR (l:List (Int × Int)):List (List V):=l.map fun q=>[.int .i64 q.1,.int .i64 q.2]
theorem pR_len (l:List (Int × Int)):(pR l).length=l.length:=by simp [pR]
theorem pR_el (l:List (Int × Int)) (i:Nat) (h:i<(pR l).length):(pR l)[i]=[.int .i64 (l[i]'(by simpa [pR] using h)).1,.int .i64 (l[i]'(by simpa [pR] using h)).2]:=by simp [pR]
theorem app_oneP {m:Mem} {l:List (Int × Int)} {x y:Int} (ht:m.tk[0]?=some l.length) (hl:l.length≤1000000):
  appV 2 2 16 m (.osl false 0 (pR l)) (.els [[.int .i64 x,.int .i64 y]])=some (.osl false 0 (pR (l ++ [(x,y)])),{ m with tk:=m.tk.set 0 (l.length+1) }):=by
 have e:pR (l ++ [(x,y)])=pR l ++ [[.int .i64 x,.int .i64 y]]:=by simp [pR]
 have h1:immAll (pR l ++ [[.int .i64 x,.int .i64 y]])=true:=by simp [immAll,pR,V.imm]
 have h2:szAll 2 (pR l ++ [[.int .i64 x,.int .i64 y]])=true:=by simp [szAll,pR]
 unfold appV
 simp only [srcV,List.length_singleton,e,h1,h2,pR_len,ht,fits_of (b:=16) (n:=l.length+1) (by omega) (by omega),Bool.and_self,if_true,Bool.false_eq_true,if_false]
section
variable (r u:V) (q:List Int) (hu:Sl u (iI q)) (hq:q.length≤512) (a n:Int)
include hu hq
theorem Pairs_loop0 (i:Nat) (hi:i≤q.length) (l:List (Int × Int)) (hl:l.length≤600000+i):
  evCI pg (.loop ir_rel_Rel_Pairsl0) ⟨[r,.undef,.osl false 0 (pR l),.int .i64 a,.undef,.int .i64 n,.int .i64 a,.undef,u,.int .i64 (q.length:Int),.int .i64 (i:Int),.undef],⟨[],[l.length],[]⟩⟩ =
   some (.exit 2,⟨[r,.undef,.osl false 0 (pR (l ++ (q.drop i).map fun b=>(a,b))),.int .i64 a,.undef,.int .i64 n,.int .i64 a,.undef,u,.int .i64 (q.length:Int),.int .i64 (q.length:Int),.bool false],
    ⟨[],[(l ++ (q.drop i).map fun b=>(a,b)).length],[]⟩⟩):=by
 obtain ⟨B,hB⟩:∃ B,B=C.loop ir_rel_Rel_Pairsl0:=⟨_,rfl⟩
 by_cases h:i<q.length
 ·have e1:=fun m=>hu.ia (sz:=1) m .i64 (i:=i) (by rw [iI_len]; exact h) (by simp [iI])
  simp only [iI_el] at e1
  have e3:=succ_i64 h (by omega)
  have ea:=app_oneP (m:=⟨[],[l.length],[]⟩) (l:=l) (x:=a) (y:=q[i]) rfl (by omega)
  simp only [List.set_cons_zero] at ea
  have ih:=Pairs_loop0 (i+1) (by omega) (l ++ [(a,q[i])]) (by simp; omega)
  rw [List.length_append,List.length_singleton] at ih
  rw [List.drop_eq_getElem_cons h,List.map_cons,List.append_cons,← ih,← hB]
  conv=>lhs; rw [s_loop_at hB]
  simp [ir_rel_Rel_Pairsl0,go_sem,h,e1,e3,ea,litParts,-Int.natCast_add]
 ·obtain rfl:i=q.length:=by omega
  rw [← hB,s_loop_at hB,List.drop_length,List.map_nil,List.append_nil]
  simp [ir_rel_Rel_Pairsl0,go_sem,hu.is]
termination_by q.length - i
end
def prs (n:Nat) (W:Nat→Nat) (i:Nat):List (Int × Int):=(List.range' i (n - i)).flatMap fun a=>(rt n (W a)).map fun b=>((a:Int),b)
theorem prs_step {n i:Nat} (W:Nat→Nat) (h:i<n):prs n W i=((rt n (W i)).map fun b=>((i:Int),b)) ++ prs n W (i+1):=by
 unfold prs
 rw [show n - i=(n - (i+1))+1 by omega,List.range'_succ,List.flatMap_cons]
theorem prs_end (n:Nat) (W:Nat→Nat):prs n W n=[]:=by unfold prs; rw [Nat.sub_self]; rfl
section
variable {t:Bool} {rv:V} {n:Nat} {W:Nat→Nat} (hr:RelV rv n W)
include hr
theorem Pairs_loop (i:Nat) (hi:i≤n) (l:List (Int × Int)) (hl:l.length≤512 * i):
  evCI pg (.loop ir_rel_Rel_Pairsl1) ⟨[.ip t [rv] 0,.undef,.osl false 0 (pR l),.undef,.undef,.int .i64 (n:Int),.int .i64 (i:Int),.undef,.undef,.undef,.undef,.undef],⟨[],[l.length],[]⟩⟩ =
   some (.exit 0,⟨[.ip t [rv] 0,.undef,.osl false 0 (pR (l ++ prs n W i)),.undef,.undef,.int .i64 (n:Int),.int .i64 (n:Int),.bool false,.undef,.undef,.undef,.undef],⟨[],[(l ++ prs n W i).length],[]⟩⟩):=by
 obtain ⟨B,hB⟩:∃ B,B=C.loop ir_rel_Rel_Pairsl1:=⟨_,rfl⟩
 have hle:=hr.le
 by_cases h:i<n
 ·obtain ⟨x,hx,e⟩:=hr.row h
  have hea:=each_ok x n (W i) hx hle (hr.lt i h)
  have e3:=succ_i64 h (by omega)
  have hrl:=rt_len n (W i)
  have ha:=Pairs_loop0 (.ip t [rv] 0) (ils (iI (rt n (W i)))) (rt n (W i)) (.ils _) (by omega) (i:Int) (n:Int) 0 (by omega) l (by omega)
  rw [List.drop_zero,Int.natCast_zero] at ha
  have ih:=Pairs_loop (i+1) (by omega) (l ++ (rt n (W i)).map fun b=>((i:Int),b)) (by rw [List.length_append,List.length_map]; omega)
  rw [prs_step W h,← List.append_assoc,← ih,← hB]
  conv=>lhs; rw [s_loop_at hB]
  generalize rt n (W i)=q at *
  have hsl:=Sl.ils (iI q)
  simp [ir_rel_Rel_Pairsl1,go_sem,h,e,e3,hx.is,hea,ha,hsl.is,hsl.rows,iI_len,-Int.natCast_add,-List.length_append]
 ·obtain rfl:i=n:=by omega
  rw [← hB,s_loop_at hB,prs_end,List.append_nil]
  simp [ir_rel_Rel_Pairsl1,go_sem,hr.is]
termination_by n - i
theorem Pairs_ok:evI pg .val n_rel_Rel_Pairs [.ip t [rv] 0] []=some (ils (pR (prs n W 0)),[]):=by
 have h:=Pairs_loop (t:=t) hr 0 (by omega) [] (by simp)
 have hL:=Len_ok (t:=t) hr
 rw [List.nil_append,List.length_nil,Int.natCast_zero] at h
 have e0:pR []=[]:=rfl
 rw [e0] at h
 rw [s_fn fn_rel_Rel_Pairs]
 simp [ir_rel_Rel_Pairs,go_sem,hL,h]
end
theorem get_lt {H:List Vm.Obj} {p:Nat} {o:Vm.Obj} (h:H[p]?=some o):p<H.length:=(List.getElem?_eq_some_iff.1 h).1
theorem get_el {H:List Vm.Obj} {p:Nat} {o:Vm.Obj} (h:H[p]?=some o) (hl:p<H.length):H[p]=o:=(List.getElem?_eq_some_iff.1 h).2
structure MatAt (H:List Vm.Obj) (v:V) (n k T:Nat) (I:Nat→Nat) (R:Nat→List (List V)):Prop where
 top:(n=0∧v=.nils)∨(0<n∧v=.rsl T 0 n∧H[T]?=some (.arr ((List.range n).map fun a=>[.rsl (I a) 0 k])))
 row:∀ a,a<n→H[I a]?=some (.arr (R a))
 len:∀ a,a<n→(R a).length=k
 inj:∀ a b,a<n→b<n→I a=I b→a=b
 sep:∀ a,a<n→I a≠T
def mft (n T:Nat) (I:Nat→Nat) (q:Nat):Prop:=(0<n∧q=T)∨∃ a,a<n∧q=I a
section
variable {H:List Vm.Obj} {v:V} {n k T:Nat} {I:Nat→Nat} {R:Nat→List (List V)} (h:MatAt H v n k T I R)
include h
theorem MatAt.frame {H':List Vm.Obj} (hf:∀ q,mft n T I q→H'[q]?=H[q]?):MatAt H' v n k T I R:=by
 refine ⟨?_,fun a ha=>by rw [hf _ (.inr ⟨a,ha,rfl⟩)]; exact h.row a ha,h.len,h.inj,h.sep⟩
 rcases h.top with h1 | ⟨h1,h2,h3⟩
 ·exact .inl h1
 ·exact .inr ⟨h1,h2,by rw [hf T (.inl ⟨h1,rfl⟩)]; exact h3⟩
theorem MatAt.lt {q:Nat} (hq:mft n T I q):q<H.length:=by
 rcases hq with ⟨h0,rfl⟩ | ⟨a,ha,rfl⟩
 ·rcases h.top with ⟨h1,_⟩ | ⟨_,_,h3⟩
  ·omega
  ·exact get_lt h3
 ·exact get_lt (h.row a ha)
theorem MatAt.pos (hn:0<n):v=.rsl T 0 n∧H[T]?=some (.arr ((List.range n).map fun a=>[.rsl (I a) 0 k])):=by
 rcases h.top with ⟨h1,_⟩ | ⟨_,h2,h3⟩
 ·omega
 ·exact ⟨h2,h3⟩
theorem MatAt.set {a:Nat} (ha:a<n) (r:List (List V)) (hr:r.length=k):MatAt (H.set (I a) (.arr r)) v n k T I (fun b=>if b=a then r else R b):=by
 have hal:=get_lt (h.row a ha)
 refine ⟨?_,fun b hb=>?_,fun b hb=>?_,h.inj,h.sep⟩
 ·rcases h.top with h1 | ⟨h1,h2,h3⟩
  ·exact .inl h1
  ·exact .inr ⟨h1,h2,by rw [List.getElem?_set_ne (h.sep a ha)]; exact h3⟩
 ·by_cases c:b=a
  ·subst c; simp [hal]
  ·rw [List.getElem?_set_ne (fun e=>c (h.inj _ _ ha hb e).symm),if_neg c]; exact h.row b hb
 ·by_cases c:b=a
  ·simp [c,hr]
  ·simp only [c,if_false]; exact h.len b hb
theorem MatAt.congr {R':Nat→List (List V)} (hR:∀ a,a<n→R' a=R a):MatAt H v n k T I R':=
 ⟨h.top,fun a ha=>by rw [hR a ha]; exact h.row a ha,fun a ha=>by rw [hR a ha]; exact h.len a ha,h.inj,h.sep⟩
theorem MatAt.ia {a:Nat} (ha:a<n) (vs:List (List V)) (tk:List Nat):iaSV 1 ⟨vs,tk,H⟩ v (.int .i64 (a:Int))=some (.ptr T a 0)∧(∀ ag:Bool,ag=false→evLoad ag 1 ⟨vs,tk,H⟩ (.ptr T a 0)=some (.rsl (I a) 0 k)):=by
 obtain ⟨h1,h2⟩:=h.pos (by omega)
 subst h1
 have hT:=get_lt h2
 constructor
 ·rw [e_ia_rsl]
  simp [asIx_nat ha,h2,ha]
 ·intro ag hag
  subst hag
  rw [e_load_ptr]
  simp [h2,ha,loadAt]
theorem MatAt.exp:v.exp=some v∧v.flat=true∧v.loc=none:=by
 rcases h.top with ⟨_,h1⟩ | ⟨_,h1,_⟩<;>subst h1<;>exact ⟨rfl,rfl,rfl⟩
theorem MatAt.imm (t:Bool) (hR:∀ a,a<n→∀ e∈R a,∀ x∈e,∀ m d,toImm m t (d+1) x=some x):∃ u rows,Sl u rows∧rows.length=n∧(∀ (a:Nat) (h:a<rows.length),rows[a]=[.isl t (R a)])∧(∀ vs tk d,toImm ⟨vs,tk,H⟩ t (d+3) v=some u) ∧
  (t=false→(∀ a,a<n→∀ e∈R a,∀ x∈e,∀ d,clean (d+1) x=true)→∀ d,clean (d+3) u=true):=by
 rcases h.top with ⟨h0,h1⟩ | ⟨h0,h1,h2⟩
 ·subst h1; subst h0
  exact ⟨.nils,[],.nils,rfl,fun a h=>by simp at h,fun _ _ _=>rfl,fun _ _ _=>rfl⟩
 ·subst h1
  refine ⟨.isl t ((List.range n).map fun a=>[.isl t (R a)]),_,.isl _ _,by simp,fun a h=>by simp,fun vs tk d=>?_,fun ht hc d=>?_⟩
  ·have key:∀ l:List Nat,(∀ a∈l,a<n)→omap2 (toImm ⟨vs,tk,H⟩ t (d+2)) (l.map fun a=>[V.rsl (I a) 0 k])=some (l.map fun a=>[V.isl t (R a)]):=by
    intro l
    induction l with
    | nil=>intro _; rfl
    | cons a l ih=>
     intro hl
     have ha:=hl a (by simp)
     have hrow:=h.row a ha
     have hlen:=h.len a ha
     have hsame:omap2 (toImm ⟨vs,tk,H⟩ t (d+1)) (R a)=some (R a):=omap2_same fun q hq x hx=>hR a ha q hq x hx _ _
     have e1:toImm ⟨vs,tk,H⟩ t (d+2) (.rsl (I a) 0 k)=some (.isl t (R a)):=by
      rw [e_imm_rsl]
      simp only [hrow]
      rw [if_pos (by omega),List.drop_zero,List.take_of_length_le (by omega),hsame]
      rfl
     simp only [List.map_cons,omap2,omap,e1,ih (fun b hb=>hl b (by simp [hb]))]
   rw [e_imm_rsl]
   simp only [h2]
   rw [if_pos (by simp),List.drop_zero,List.take_of_length_le (by simp),key _ (fun a ha=>List.mem_range.1 ha)]
   rfl
  ·subst ht
   simp only [clean,Bool.not_false,Bool.true_and,List.all_eq_true]
   intro e he x hx
   obtain ⟨a,ha,rfl⟩:=List.mem_map.1 he
   simp only [List.mem_singleton] at hx
   subst hx
   simp only [clean,Bool.not_false,Bool.true_and,List.all_eq_true]
   exact fun e' he' x' hx'=>hc a (List.mem_range.1 ha) e' he' x' hx' d
end
theorem wR_imm {l:List Nat}:∀ e∈wR l,∀ x∈e,∀ (m:Mem) (t:Bool) (d:Nat),toImm m t (d+1) x=some x:=by
 intro e he x hx m t d
 obtain ⟨w,_,rfl⟩:=List.mem_map.1 he
 simp at hx; subst hx; rfl
theorem wR_clean {l:List Nat}:∀ e∈wR l,∀ x∈e,∀ d,clean (d+1) x=true:=by
 intro e he x hx d
 obtain ⟨w,_,rfl⟩:=List.mem_map.1 he
 simp at hx; subst hx; rfl
/-! ### rows of bits are turned -/
theorem wl_or (k W U:Nat):wl k (W ||| U)=(List.range k).map fun j=>wd W j ||| wd U j:=by
 unfold wl
 apply List.map_congr_left
 intro j _
 apply Nat.eq_of_testBit_eq
 intro i
 rw [Nat.testBit_or,wd_bit,wd_bit,wd_bit,Nat.testBit_or]
 cases decide (i<64)<;>simp
theorem wR_set (l:List Nat) (i x:Nat):(wR l).set i [.int .u64 (x:Int)]=wR (l.set i x):=by simp [wR,List.map_set]
theorem wl_add (k W b:Nat) (hb:b<64 * k):(wl k W).set (b / 64) (wd W (b / 64) ||| 2 ^ (b % 64))=wl k (W ||| 2 ^ b):=by
 apply List.ext_getElem
 ·simp [wl]
 ·intro i h1 h2
  rw [wl_len] at h2
  rw [List.getElem_set,wl_el,wl_el]
  apply Nat.eq_of_testBit_eq
  intro j
  by_cases c:b / 64=i
  ·rw [if_pos c,Nat.testBit_or,wd_bit,wd_bit,Nat.testBit_or,Nat.testBit_two_pow,Nat.testBit_two_pow,c]
   by_cases hj:j<64
   ·have:(decide (b % 64=j))=decide (b=64 * i+j):=by
     apply decide_eq_decide.2; omega
    simp [hj,this]
   ·have:¬ b % 64=j:=by omega
    simp [hj,this]
  ·rw [if_neg c,wd_bit,wd_bit,Nat.testBit_or,Nat.testBit_two_pow]
   by_cases hj:j<64
   ·have:¬ b=64 * i+j:=by omega
    simp [this]
   ·simp [hj]
theorem row_add_ok (H:List Vm.Obj) (id k W b:Nat) (h:H[id]?=some (.arr (wR (wl k W)))) (hk:k≤8) (hb:b<64 * k):
  evI pg .heap n_rel_row_add [.rsl id 0 k,.int .i64 (b:Int)] H=some (.tup [],H.set id (.arr (wR (wl k (W ||| 2 ^ b))))):=by
 have e0:IntKind.i64.wrap ((b:Int).tdiv 64)=((b / 64:Nat):Int):=(tdiv64 b).resolve_right (by omega)
 have e2:((b:Int).tmod 64)=((b % 64:Nat):Int):=by rw [Int.tmod_eq_emod_of_nonneg (Int.natCast_nonneg _)]; omega
 have e0':IntKind.i64.wrap ((b:Int) / 64)=((b / 64:Nat):Int):=by rw [wrap_i64 (by omega) (by omega)]; omega
 have e2':((b:Int) % 64)=((b % 64:Nat):Int):=by omega
 have h64:b % 64<64:=Nat.mod_lt _ (by omega)
 have hbk:b / 64<k:=by omega
 have hget:(wR (wl k W))[b / 64]?=some [.int .u64 ((wd W (b / 64):Nat):Int)]:=by
  rw [List.getElem?_eq_getElem (by rw [wR_len,wl_len]; exact hbk),wR_el,wl_el]
 have hl:=wd_lt W (b / 64)
 have hp:2 ^ (b % 64)<18446744073709551616:=by
  have:=Nat.pow_lt_pow_right (a:=2) (by omega) h64
  omega
 have e4:IntKind.u64.wrap ((1:Int) * 2 ^ (b % 64))=((2 ^ (b % 64):Nat):Int):=by
  rw [← wrap_u64' hp]; simp
 have e4':IntKind.u64.wrap ((2:Int) ^ (b % 64))=((2 ^ (b % 64):Nat):Int):=by
  rw [← wrap_u64' hp]; simp
 have e5:orI .u64 ((wd W (b / 64):Nat):Int) ((2 ^ (b % 64):Nat):Int)=((wd W (b / 64) ||| 2 ^ (b % 64):Nat):Int):=or_u64 hl hp
 have e6:=wl_add k W b hb
 have hmn:min (b % 64) 64=b % 64:=by omega
 have hidl:=get_lt h
 have hg:=get_el h hidl
 rw [← e6,← wR_set]
 have hlen:(wR (wl k W)).length=k:=by rw [wR_len,wl_len]
 generalize wR (wl k W)=rw0 at *
 generalize hq:wd W (b / 64) ||| 2 ^ (b % 64)=q at *
 generalize 2 ^ (b % 64)=pw at *
 generalize wd W (b / 64)=u at *
 generalize b % 64=r at *
 generalize b / 64=s at *
 have hsl:s<rw0.length:=by omega
 have hrs:rw0[s]=[.int .u64 (u:Int)]:=by
  rw [List.getElem?_eq_getElem hsl] at hget; exact Option.some.inj hget
 rw [s_fn fn_rel_row_add]
 simp [ir_rel_row_add,go_sem,e0,e2,e0',e2',e4,e4',e5,hmn,h,hidl,hg,hget,hsl,hrs,hlen,hbk,asIx_nat,IntKind.bits,-Int.natCast_emod,-Int.natCast_pow,-Int.natCast_ediv,-Int.natCast_add,-Int.natCast_mul]
def jl (k W U i:Nat):List Nat:=(List.range k).map fun j=>if j<i then wd W j ||| wd U j else wd W j
theorem jl_len (k W U i:Nat):(jl k W U i).length=k:=by simp [jl]
theorem jl_zero (k W U:Nat):jl k W U 0=wl k W:=by simp [jl,wl]
theorem jl_end (k W U:Nat):jl k W U k=wl k (W ||| U):=by
 rw [wl_or]
 unfold jl
 apply List.map_congr_left
 intro j hj
 rw [if_pos (List.mem_range.1 hj)]
end Go.Proofs.YtimiademofajeaaGreatDoor
