/- Lemmas (no claim): W1, W2, K19a. -/
import Derived.Test.YtimiademofajeaaGreatDoorPVf
import Derived.Test.YtimiademofajeaaGreatDoorPIr
import Derived.Lib.TrailingZeros
set_option linter.unusedSimpArgs false
set_option linter.unusedVariables false
set_option maxRecDepth 20000
namespace Go.Proofs.YtimiademofajeaaGreatDoor
open Go Go.Vm
def zx (x:Nat) (n:Int):Nat:=x % 2 ^ n.toNat
theorem pow_lt {k:Nat} (h:k<64):2 ^ k<18446744073709551616:=by
 have:=Nat.pow_lt_pow_right (a:=2) (by omega) h
 omega
theorem pow_le {k:Nat} (h:64≤k):18446744073709551616≤2 ^ k:=Nat.pow_le_pow_right (n:=2) (by omega) h
theorem Zext_ok (x:Nat) (n:Int) (hx:x<18446744073709551616):evI pg .val n_word_Zext [.int .u64 x,.int .i64 n] []=some (.int .u64 (zx x n:Nat),[]):=by
 unfold zx
 rw [s_fn fn_word_Zext]
 by_cases h:n<1
 ·have e:n.toNat=0:=by omega
  simp [ir_word_Zext,go_sem,h,e,Nat.mod_one]
 ·by_cases h':64≤n
  ·have e:x % 2 ^ n.toNat=x:=Nat.mod_eq_of_lt (Nat.lt_of_lt_of_le hx (pow_le (by omega)))
   simp [ir_word_Zext,go_sem,h,h',e]
  ·obtain ⟨k,rfl⟩:∃ k:Nat,n=k:=⟨n.toNat,by omega⟩
   have hk:k<64:=by omega
   have hp:=pow_lt hk
   have h0:0<2 ^ k:=Nat.two_pow_pos k
   have e1:IntKind.u64.wrap (2 ^ k)=((2 ^ k:Nat):Int):=by rw [← wrap_u64' hp]; simp
   have e2:IntKind.u64.wrap (((2 ^ k:Nat):Int) - 1)=((2 ^ k - 1:Nat):Int):=by rw [← wrap_u64' (by omega:2 ^ k - 1<_)]; congr 1; omega
   have e3:andI .u64 (x:Int) ((2 ^ k - 1:Nat):Int)=((x % 2 ^ k:Nat):Int):=by rw [and_u64 hx (by omega),Nat.and_two_pow_sub_one_eq_mod]
   simp [ir_word_Zext,go_sem,h,h',min_nat,Nat.min_eq_left (Nat.le_of_lt hk),IntKind.bits,e1,e2,e3,-Int.natCast_pow,-Int.natCast_emod]
/-! ### fields -/
def fld (w:Nat) (hi lo:Int):Nat:=if lo<0∨31<hi∨hi<lo then 0 else w / 2 ^ lo.toNat % 2 ^ (hi - lo+1).toNat
def byV (l:List Nat):List (List V):=l.map fun x:Nat=>[.int .u8 (x:Int)]
theorem byV_len (l:List Nat):(byV l).length=l.length:=by simp [byV]
theorem byV_imm (l:List Nat):immAll (byV l)=true:=by simp [immAll,byV,V.imm]
theorem byV_sz (l:List Nat):szAll 1 (byV l)=true:=by simp [szAll,byV]
theorem byV_el (l:List Nat) (i:Nat) (h:i<(byV l).length):(byV l)[i]=[.int .u8 ((l[i]'(by simpa [byV] using h):Nat):Int)]:=by simp [byV]
theorem byV_append (l l':List Nat):byV (l ++ l')=byV l ++ byV l':=by simp [byV]
def byl (x:Nat) (k:Nat):List Nat:=(List.range k).map fun i=>x / 256 ^ i % 256
theorem byl_len (x k:Nat):(byl x k).length=k:=by simp [byl]
theorem byl_succ (x k:Nat):byl x (k+1)=byl x k ++ [x / 256 ^ k % 256]:=by simp [byl,List.range_succ]
def clm (n:Int):Nat:=(min n 8).toNat
theorem clm_le (n:Int):clm n≤8:=by unfold clm; omega
theorem Bytes_loop (x:Nat) (n:Int) (hx:x<18446744073709551616) (k:Nat) (hk:k≤8) (L:Int) (hL:∀ i:Nat,((i:Int)<L↔i<k)):∀ (d i:Nat) (r c:V),i+d=k →
  ∃ x' i' c',evCI pg (.loop ir_word_Bytesl0) ⟨[.int .u64 ((x / 256 ^ i:Nat):Int),.int .i64 n,r,.osl false 0 (byV (byl x i)),.int .i64 L,.int .i64 (i:Int),c],⟨[],[i],[]⟩⟩ =
   some (.exit 0,⟨[x',.int .i64 n,r,.osl false 0 (byV (byl x k)),.int .i64 L,i',c'],⟨[],[k],[]⟩⟩)
 | 0,i,r,c,hd=>by
  have hik:i=k:=by omega
  subst hik
  have h:¬ ((i:Int)<L):=by rw [hL]; omega
  have hs:=rfl (a:=evCI pg ir_word_Bytesl0 ⟨[.int .u64 ((x / 256 ^ i:Nat):Int),.int .i64 n,r,.osl false 0 (byV (byl x i)),.int .i64 L,.int .i64 (i:Int),c],⟨[],[i],[]⟩⟩)
  conv at hs=>rhs; simp [ir_word_Bytesl0,go_sem,h,-Int.natCast_emod,-Int.natCast_pow,-Int.natCast_ediv,-Int.natCast_add,-Int.natCast_mul]
  rw [s_loop,hs,s_then_exit]
  exact ⟨_,_,_,rfl⟩
 | d+1,i,r,c,hd=>by
  have h:(i:Int)<L:=by rw [hL]; omega
  have hlt:x / 256 ^ i<18446744073709551616:=Nat.lt_of_le_of_lt (Nat.div_le_self _ _) hx
  have e1:IntKind.u8.wrap ((x / 256 ^ i:Nat):Int)=((x / 256 ^ i % 256:Nat):Int):=wrap_u8 _
  have e2:(((x / 256 ^ i:Nat):Int)).fdiv (2 ^ 8)=((x / 256 ^ (i+1):Nat):Int):=by
   have hp:=@Nat.pow_succ 256 i
   rw [shr_nat,Nat.div_div_eq_div_mul,show 256 ^ i * 2 ^ 8=256 ^ (i+1) by omega]
  have e2':(((x / 256 ^ i:Nat):Int)).fdiv 256=((x / 256 ^ (i+1):Nat):Int):=e2
  have e3:IntKind.i64.wrap ((i:Int)+1)=(i:Int)+1:=wrap_i64 (by omega) (by omega)
  have ha:=app_osl (k:=2) (sz:=1) (by_:=1) (j:=0) (es:=byV (byl x i)) (ns:=byV [x / 256 ^ i % 256]) (m:=⟨[],[i],[]⟩) (y:=.els (byV [x / 256 ^ i % 256])) rfl (by simp [fits,maxB,byV_len,byl_len]; omega)
   (by rw [← byV_append]; exact byV_imm _) (by rw [← byV_append]; exact byV_sz _) (by simp [byV_len,byl_len])
  rw [← byV_append,← byl_succ] at ha
  simp only [byV_len,byl_len,List.length_cons,List.length_nil,List.set_cons_zero,Nat.zero_add] at ha
  have ha':appV 2 1 1 ⟨[],[i],[]⟩ (.osl false 0 (byV (byl x i))) (.els [[.int .u8 ((x / 256 ^ i % 256:Nat):Int)]])=some (.osl false 0 (byV (byl x (i+1))),⟨[],[i+1],[]⟩):=ha
  have hs:=rfl (a:=evCI pg ir_word_Bytesl0 ⟨[.int .u64 ((x / 256 ^ i:Nat):Int),.int .i64 n,r,.osl false 0 (byV (byl x i)),.int .i64 L,.int .i64 (i:Int),c],⟨[],[i],[]⟩⟩)
  conv at hs=>rhs; simp [ir_word_Bytesl0,go_sem,h,e1,e2,e2',e3,ha',litParts,V.cells,V.flat,IntKind.bits,-Int.natCast_emod,-Int.natCast_pow,-Int.natCast_ediv,-Int.natCast_add,-Int.natCast_mul]
  rw [s_loop,hs,s_then_nrm]
  exact Bytes_loop x n hx k hk L hL d (i+1) _ _ (by omega)
theorem Bytes_ok (x:Nat) (n:Int) (hx:x<18446744073709551616):evI pg .val n_word_Bytes [.int .u64 x,.int .i64 n] []=some (ils (byV (byl x (clm n))),[]):=by
 have hL:∀ i:Nat,((i:Int)<(if 8<n then 8 else n)↔i<clm n):=by intro i; unfold clm; split<;>omega
 obtain ⟨x',i',c',h⟩:=Bytes_loop x n hx (clm n) (clm_le n) _ hL (clm n) 0 .nils .undef (by omega)
 have e:byV (byl x 0)=[]:=rfl
 rw [Nat.pow_zero,Nat.div_one,e] at h
 rw [s_fn fn_word_Bytes]
 simp only [Int.natCast_zero,Int.cast_ofNat_Int,Int.ofNat_zero] at h
 by_cases h8:8<n
 ·rw [if_pos h8] at h
  simp [ir_word_Bytes,go_sem,h8,h]
 ·rw [if_neg h8] at h
  simp [ir_word_Bytes,go_sem,h8,h]
/-! ### the same lists -/
def isR (a n:Int):Bool:=decide (0≤a∧a≤1099511627776∧1≤n∧n≤8)
theorem isRange_ok (a n:Int):evI pg .val n_word_isRange [.int .i64 a,.int .i64 n] []=some (.bool (isR a n),[]):=by
 rw [s_fn fn_word_isRange]
 unfold isR
 by_cases h1:0≤a
 ·by_cases h2:a≤1099511627776
  ·by_cases h3:1≤n
   ·by_cases h4:n≤8
    ·simp [ir_word_isRange,go_sem,h1,h2,h3,h4]
    ·simp [ir_word_isRange,go_sem,h1,h2,h3,h4]
   ·simp [ir_word_isRange,go_sem,h1,h2,h3]
  ·simp [ir_word_isRange,go_sem,h1,h2]
 ·simp [ir_word_isRange,go_sem,h1]
def ovl (a n b m:Int):Bool:=isR a n && isR b m && decide (a<b+m) && decide (b<a+n)
theorem Overlap_in (a n b m i:Int) (mm:Mem) (ha:0≤a) (ha':a≤1099511627776) (hb:0≤b) (hb':b≤1099511627776) (hm:m≤8) (hi:0≤i) (hi':i≤8):
  ∀ (d:Nat) (k:Int) (r z s7 s8 s9 s10 s11 t v:V),k+d=m→0≤k →
  ∃ s7' k' t' v',evCI pg (.loop ir_word_Overlapl0) ⟨[.int .i64 a,.int .i64 n,.int .i64 b,.int .i64 m,r,z,.int .i64 i,s7,s8,s9,s10,s11,.int .i64 m,.int .i64 k,t,v],mm⟩ =
   if b+k≤a+i∧a+i<b+m then some (.exit 0,⟨[.int .i64 a,.int .i64 n,.int .i64 b,.int .i64 m,r,.bool true,.int .i64 i,s7',s8,s9,s10,s11,.int .i64 m,k',t',v'],mm⟩)
   else some (.exit 2,⟨[.int .i64 a,.int .i64 n,.int .i64 b,.int .i64 m,r,z,.int .i64 i,s7',s8,s9,s10,s11,.int .i64 m,k',t',v'],mm⟩)
 | 0,k,r,z,s7,s8,s9,s10,s11,t,v,hd,hk=>by
  have h:¬ k<m:=by omega
  have h2:¬ (b+k≤a+i∧a+i<b+m):=by omega
  have hs:=rfl (a:=evCI pg ir_word_Overlapl0 ⟨[.int .i64 a,.int .i64 n,.int .i64 b,.int .i64 m,r,z,.int .i64 i,s7,s8,s9,s10,s11,.int .i64 m,.int .i64 k,t,v],mm⟩)
  conv at hs=>rhs; simp [ir_word_Overlapl0,go_sem,h]
  rw [s_loop,hs,s_then_exit]; simp only [if_neg h2]
  exact ⟨_,_,_,_,rfl⟩
 | d+1,k,r,z,s7,s8,s9,s10,s11,t,v,hd,hk=>by
  have h:k<m:=by omega
  have w1:IntKind.i64.wrap (a+i)=a+i:=wrap_i64 (by omega) (by omega)
  have w2:IntKind.i64.wrap (b+k)=b+k:=wrap_i64 (by omega) (by omega)
  have w3:IntKind.i64.wrap (k+1)=k+1:=wrap_i64 (by omega) (by omega)
  by_cases he:a+i=b+k
  ·have h2:b+k≤a+i∧a+i<b+m:=by omega
   have hs:=rfl (a:=evCI pg ir_word_Overlapl0 ⟨[.int .i64 a,.int .i64 n,.int .i64 b,.int .i64 m,r,z,.int .i64 i,s7,s8,s9,s10,s11,.int .i64 m,.int .i64 k,t,v],mm⟩)
   conv at hs=>rhs; simp [ir_word_Overlapl0,go_sem,h,w1,w2,w3,he]
   rw [s_loop,hs,s_then_exit]; simp only [if_pos h2]
   exact ⟨_,_,_,_,rfl⟩
  ·have hs:=rfl (a:=evCI pg ir_word_Overlapl0 ⟨[.int .i64 a,.int .i64 n,.int .i64 b,.int .i64 m,r,z,.int .i64 i,s7,s8,s9,s10,s11,.int .i64 m,.int .i64 k,t,v],mm⟩)
   conv at hs=>rhs; simp [ir_word_Overlapl0,go_sem,h,w1,w2,w3,he]
   rw [s_loop,hs,s_then_nrm]
   obtain ⟨x1,x2,x3,x4,ih⟩:=Overlap_in a n b m i mm ha ha' hb hb' hm hi hi' d (k+1) r z (.int .i64 k) s8 s9 s10 s11 (.bool true) (.bool false) (by omega) (by omega)
   refine ⟨x1,x2,x3,x4,?_⟩
   rw [ih]
   by_cases h2:b+k≤a+i∧a+i<b+m
   ·rw [if_pos h2,if_pos (by omega)]
   ·rw [if_neg h2,if_neg (by omega)]
theorem Overlap_out (a n b m:Int) (mm:Mem) (ha:0≤a) (ha':a≤1099511627776) (hb:0≤b) (hb':b≤1099511627776) (hm0:0≤m) (hm:m≤8) (hn:n≤8):
  ∀ (d:Nat) (i:Int) (r s6 s7 s8 s11 s12 s13 t v:V),i+d=n→0≤i →
  ∃ s6' s7' i' s11' s12' s13' t' v',evCI pg (.loop ir_word_Overlapl1) ⟨[.int .i64 a,.int .i64 n,.int .i64 b,.int .i64 m,r,.bool false,s6,s7,s8,.int .i64 n,.int .i64 i,s11,s12,s13,t,v],mm⟩ =
   some (.exit 0,⟨[.int .i64 a,.int .i64 n,.int .i64 b,.int .i64 m,r,.bool (decide (i<n∧a+i<b+m∧b<a+n∧0<m)),s6',s7',s8,.int .i64 n,i',s11',s12',s13',t',v'],mm⟩)
 | 0,i,r,s6,s7,s8,s11,s12,s13,t,v,hd,hi=>by
  have h:¬ i<n:=by omega
  have hs:=rfl (a:=evCI pg ir_word_Overlapl1 ⟨[.int .i64 a,.int .i64 n,.int .i64 b,.int .i64 m,r,.bool false,s6,s7,s8,.int .i64 n,.int .i64 i,s11,s12,s13,t,v],mm⟩)
  conv at hs=>rhs; simp [ir_word_Overlapl1,go_sem,h]
  rw [s_loop,hs,s_then_exit]
  have e:decide (i<n∧a+i<b+m∧b<a+n∧0<m)=false:=by simp; omega
  rw [e]
  exact ⟨_,_,_,_,_,_,_,_,rfl⟩
 | d+1,i,r,s6,s7,s8,s11,s12,s13,t,v,hd,hi=>by
  have h:i<n:=by omega
  have w3:IntKind.i64.wrap (i+1)=i+1:=wrap_i64 (by omega) (by omega)
  obtain ⟨x1,x2,x3,x4,hin⟩:=Overlap_in a n b m i mm ha ha' hb hb' hm hi (by omega) m.toNat 0 r (.bool false) s7 s8 (.int .i64 n) (.int .i64 i) (.bool true) t v (by omega) (by omega)
  by_cases he:b+0≤a+i∧a+i<b+m
  ·rw [if_pos he] at hin
   have hs:=rfl (a:=evCI pg ir_word_Overlapl1 ⟨[.int .i64 a,.int .i64 n,.int .i64 b,.int .i64 m,r,.bool false,s6,s7,s8,.int .i64 n,.int .i64 i,s11,s12,s13,t,v],mm⟩)
   conv at hs=>rhs; simp [ir_word_Overlapl1,go_sem,h,hin,w3]
   rw [s_loop,hs,s_then_exit]
   have e:decide (i<n∧a+i<b+m∧b<a+n∧0<m)=true:=by simp; omega
   rw [e]
   exact ⟨_,_,_,_,_,_,_,_,rfl⟩
  ·rw [if_neg he] at hin
   have hs:=rfl (a:=evCI pg ir_word_Overlapl1 ⟨[.int .i64 a,.int .i64 n,.int .i64 b,.int .i64 m,r,.bool false,s6,s7,s8,.int .i64 n,.int .i64 i,s11,s12,s13,t,v],mm⟩)
   conv at hs=>rhs; simp [ir_word_Overlapl1,go_sem,h,hin,w3]
   rw [s_loop,hs,s_then_nrm]
   obtain ⟨y1,y2,y3,y4,y5,y6,y7,y8,ih⟩:=Overlap_out a n b m mm ha ha' hb hb' hm0 hm hn d (i+1) r (.int .i64 i) x1 s8 (.bool true) (.int .i64 m) x2 x3 x4 (by omega) (by omega)
   refine ⟨y1,y2,y3,y4,y5,y6,y7,y8,?_⟩
   rw [ih]
   have e:decide (i+1<n∧a+(i+1)<b+m∧b<a+n∧0<m)=decide (i<n∧a+i<b+m∧b<a+n∧0<m):=by
    rw [decide_eq_decide]
    omega
   rw [e]
theorem Overlap_ok (a n b m:Int):evI pg .val n_word_Overlap [.int .i64 a,.int .i64 n,.int .i64 b,.int .i64 m] []=some (.bool (ovl a n b m),[]):=by
 have r1:=isRange_ok a n
 have r2:=isRange_ok b m
 rw [s_fn fn_word_Overlap]
 unfold ovl
 cases h1:isR a n with
 | false=>simp [ir_word_Overlap,go_sem,r1,h1]
 | true=>
  cases h2:isR b m with
  | false=>simp [ir_word_Overlap,go_sem,r1,r2,h1,h2]
  | true=>
   simp only [isR,decide_eq_true_eq] at h1 h2
   obtain ⟨x1,x2,x3,x4,x5,x6,x7,x8,hl⟩:=Overlap_out a n b m ⟨[],[],[]⟩ (by omega) (by omega) (by omega) (by omega) (by omega) (by omega) (by omega) n.toNat 0 (.bool false) .undef .undef (.bool false) .undef .undef .undef .undef .undef (by omega) (by omega)
   have e:decide (0<n∧a+0<b+m∧b<a+n∧0<m)=(decide (a<b+m) && decide (b<a+n)):=by
    rw [Bool.eq_iff_iff]; simp; omega
   rw [e] at hl
   have g1:isR a n=true:=by simp [isR]; omega
   have g2:isR b m=true:=by simp [isR]; omega
   simp [ir_word_Overlap,go_sem,r1,r2,g1,g2,hl]
theorem s_loop_at {a B:C} (h:B=.loop a) (st:St):evCI pg B st=thenC pg (evCI pg a st) B:=by subst h; exact s_loop a st
def iI (l:List Int):List (List V):=l.map fun x=>[.int .i64 x]
theorem iI_len (l:List Int):(iI l).length=l.length:=by simp [iI]
theorem iI_el (l:List Int) (i:Nat) (h:i<(iI l).length):(iI l)[i]=[.int .i64 (l[i]'(by simpa [iI] using h))]:=by simp [iI]
theorem succ_i64 {i n:Nat} (h:i<n) (hn:n<9223372036854775808):IntKind.i64.wrap ((i:Int)+1)=((i+1:Nat):Int):=by rw [wrap_i64 (by omega) (by omega)]; rfl
/-! ### the word of bytes -/
/-! ### copies -/
theorem fits_of {b n:Nat} (hb:0<b) (hn:n * b≤140737488355328):fits b n=true:=by simp [fits,hb,maxB,hn]
/-! ### nothing in them is held for a call -/
def wd (W j:Nat):Nat:=W / 2 ^ (64 * j) % 18446744073709551616
def wl (k W:Nat):List Nat:=(List.range k).map (wd W)
def wR (l:List Nat):List (List V):=l.map fun w:Nat=>[.int .u64 (w:Int)]
theorem wd_lt (W j:Nat):wd W j<18446744073709551616:=Nat.mod_lt _ (by omega)
theorem wl_len (k W:Nat):(wl k W).length=k:=by simp [wl]
theorem wl_el (k W i:Nat) (h:i<(wl k W).length):(wl k W)[i]=wd W i:=by simp [wl]
theorem wR_len (l:List Nat):(wR l).length=l.length:=by simp [wR]
theorem wR_el (l:List Nat) (i:Nat) (h:i<(wR l).length):(wR l)[i]=[.int .u64 ((l[i]'(by simpa [wR] using h):Nat):Int)]:=by simp [wR]
theorem wd_bit (W j i:Nat):(wd W j).testBit i=(decide (i<64) && W.testBit (64 * j+i)):=by
 unfold wd
 rw [show (18446744073709551616:Nat)=2 ^ 64 from rfl,Nat.testBit_mod_two_pow,Nat.testBit_div_two_pow,Nat.add_comm]
/-! ### the lowest bit -/
def dbi (k:Nat):Nat:=2 ^ k * 285870213051353865 % 18446744073709551616 / 288230376151711744
theorem glV_eq:glV=Go.Lib.deBruijn64tab.map fun n:Nat=>V.int .u8 (n:Int):=rfl
theorem gl_gen {n k:Nat} (h1:n<64) (h2:Go.Lib.deBruijn64tab.getD n 0=k):glV[n]?=some (V.int .u8 (k:Int)):=by
 have hl:Go.Lib.deBruijn64tab.length=64:=rfl
 have e:Go.Lib.deBruijn64tab[n]?=some k:=by
  rw [List.getElem?_eq_getElem (by omega)]
  rw [List.getD_eq_getElem?_getD,List.getElem?_eq_getElem (by omega)] at h2
  exact congrArg some h2
 rw [glV_eq,List.getElem?_map,e]
 rfl
theorem gl_at {k:Nat} (h:k<64):∃ n,dbi k=n∧n<64∧glV[n]?=some (V.int .u8 (k:Int)):=
 ⟨_,rfl,(Go.Lib.deBruijn64_at k h).1,gl_gen (Go.Lib.deBruijn64_at k h).1 (Go.Lib.deBruijn64_at k h).2⟩
def ctz (x:Nat):Nat:=Go.Lib.ctz 64 x
theorem tz_at (x n p q:Int) (r k:Nat) (hx:¬ x=0) (e1:IntKind.u64.wrap (-x)=n) (e2:andI .u64 x n=p) (e3:IntKind.u64.wrap (p * 285870213051353865)=q) (e4:q.fdiv (2 ^ 58)=(r:Int)) (hr:(r:Int)<64)
  (e5:glV[r]?=some (V.int .u8 (k:Int))) (e6:IntKind.i64.wrap (k:Int)=(k:Int)):evI pg .val n_math_bits_TrailingZeros64 [.int .u64 x] []=some (.int .i64 (k:Int),[]):=by
 rw [s_fn fn_math_bits_TrailingZeros64]
 simp [ir_math_bits_TrailingZeros64,go_sem,hx,e1,e2,e3,e4,hr,e5,e6,IntKind.bits,-Int.reducePow]
theorem tz_ok (x:Nat) (h0:x≠0) (h:x<18446744073709551616):evI pg .val n_math_bits_TrailingZeros64 [.int .u64 x] []=some (.int .i64 (ctz x:Nat),[]):=by
 obtain ⟨h1,h2⟩:x &&& (2 ^ 64 - x)=2 ^ ctz x∧ctz x<64:=Go.Lib.lowest_bit 64 x h0 h
 generalize ctz x=c at *
 obtain ⟨r,hr,hr64,hgl⟩:=gl_at h2
 have hsh:(((2 ^ c * 285870213051353865 % 18446744073709551616:Nat):Int)).fdiv (2 ^ 58)=((r:Nat):Int):=by
  rw [shr_nat,← hr]; rfl
 refine tz_at x ((18446744073709551616 - x:Nat):Int) ((2 ^ c:Nat):Int) ((2 ^ c * 285870213051353865 % 18446744073709551616:Nat):Int) r c (by omega) ?_ ?_ ?_ hsh (by omega) hgl (wrap_i64 (by omega) (by omega))
 ·simp only [IntKind.wrap,IntKind.bits,IntKind.signed]; simp; omega
 ·rw [and_u64 h (by omega)]
  exact congrArg _ h1
 ·rw [← wrap_u64,Int.natCast_mul]; rfl
/-! ### each -/
def sb (n:Nat) (p:Nat→Bool):List Nat:=(List.range n).filter p
theorem sb_first {n c:Nat} {p q:Nat→Bool} (hc:c<n) (hp:p c=true) (hlow:∀ j,j<c→p j=false) (hq:∀ j,q j=(p j && decide (j≠c))):sb n p=c :: sb n q:=by
 unfold sb
 obtain ⟨d,rfl⟩:∃ d,n=c+(d+1):=⟨n - c - 1,by omega⟩
 have low:∀ f:Nat→Bool,(∀ j,j<c→f j=false)→(List.range c).filter f=[]:=fun f hf=>by
  rw [List.filter_eq_nil_iff]
  intro j hj
  rw [hf j (List.mem_range.1 hj)]; simp
 have hqc:q c=false:=by rw [hq]; simp
 rw [List.range_add,List.filter_append,List.filter_append,low p hlow,low q (fun j hj=>by rw [hq,hlow j hj]; rfl),List.nil_append,List.nil_append,List.range_succ_eq_map]
 simp only [List.map_cons,List.map_map,Nat.add_zero,List.filter_cons,hp,hqc,if_true,Bool.false_eq_true,if_false]
 congr 1
 apply List.filter_congr
 intro j hj
 obtain ⟨i,_,rfl⟩:=List.mem_map.1 hj
 rw [hq]
 simp
theorem low_bits (x:Nat) (h0:x≠0) (h:x<2 ^ 64):x.testBit (ctz x)=true∧(∀ j,j<ctz x→x.testBit j=false)∧∀ j,(x &&& (x - 1)).testBit j=(x.testBit j && decide (j≠ctz x)):=by
 obtain ⟨m,hm,_⟩:=Go.Lib.ctzFrom_spec 64 x (by omega) h
 have e:ctz x=Go.Lib.ctzFrom 64 x:=by simp [ctz,Go.Lib.ctz,h0]
 rw [e]
 generalize Go.Lib.ctzFrom 64 x=c at *
 have b1:∀ j,x.testBit j=if j<c then false else (2 * m+1).testBit (j - c):=by
  intro j
  have:=Nat.testBit_two_pow_mul_add (2 * m+1) (Nat.two_pow_pos c) j
  rw [Nat.add_zero] at this
  rw [hm,this,Nat.zero_testBit]
 have hx1:x - 1=2 ^ c * (2 * m)+(2 ^ c - 1):=by
  have:=Nat.two_pow_pos c
  rw [hm,Nat.mul_add,Nat.mul_one]
  omega
 have b2:∀ j,(x - 1).testBit j=if j<c then (2 ^ c - 1).testBit j else (2 * m).testBit (j - c):=by
  intro j
  rw [hx1]
  exact Nat.testBit_two_pow_mul_add (2 * m) (by have:=Nat.two_pow_pos c; omega) j
 refine ⟨by rw [b1]; simp,fun j hj=>by rw [b1,if_pos hj],fun j=>?_⟩
 rw [Nat.testBit_and,b1,b2]
 by_cases hj:j<c
 ·simp [hj]
 ·by_cases hjc:j=c
  ·subst hjc; simp
  ·obtain ⟨d,hd⟩:∃ d,j - c=d+1:=⟨j - c - 1,by omega⟩
   simp only [hj,if_false,hd,Nat.testBit_succ,hjc,ne_eq,not_false_eq_true,decide_true,Bool.and_true]
   rw [show (2 * m+1) / 2=m by omega,show 2 * m / 2=m by omega,Bool.and_self]
theorem sb_none {n:Nat} {p:Nat→Bool} (h:∀ j,j<n→p j=false):sb n p=[]:=by
 unfold sb
 rw [List.filter_eq_nil_iff]
 intro j hj
 rw [h j (List.mem_range.1 hj)]; simp
theorem sb_len (n:Nat) (p:Nat→Bool):(sb n p).length≤n:=by
 have:=List.length_filter_le p (List.range n)
 simpa [sb] using this
theorem app_oneI {m:Mem} {l:List Int} {x:Int} (ht:m.tk[0]?=some l.length) (hl:l.length≤100000):
  appV 2 1 8 m (.osl false 0 (iI l)) (.els [[.int .i64 x]])=some (.osl false 0 (iI (l ++ [x])),{ m with tk:=m.tk.set 0 (l.length+1) }):=by
 have e:iI (l ++ [x])=iI l ++ [[.int .i64 x]]:=by simp [iI]
 have h1:immAll (iI l ++ [[.int .i64 x]])=true:=by simp [immAll,iI,V.imm]
 have h2:szAll 1 (iI l ++ [[.int .i64 x]])=true:=by simp [szAll,iI]
 unfold appV
 simp only [srcV,List.length_singleton,e,h1,h2,iI_len,ht,fits_of (b:=8) (n:=l.length+1) (by omega) (by omega),Bool.and_self,if_true,Bool.false_eq_true,if_false]
def wb (i w:Nat):List Int:=(sb 64 w.testBit).map fun b=>((64 * i+b:Nat):Int)
theorem each_word (xv a:V) (k i:Nat) (hi:i<16) (w:Nat) (hw:w<18446744073709551616) (l:List Int) (hl:l.length+(sb 64 w.testBit).length≤2000):
  evCI pg (.loop ir_rel_row_eachl0) ⟨[.undef,.undef,.osl false 0 (iI l),.int .i64 (i:Int),.int .u64 (w:Int),xv,.int .i64 (k:Int),a,.undef,.undef],⟨[],[l.length],[]⟩⟩ =
   some (.exit 2,⟨[.undef,.undef,.osl false 0 (iI (l ++ wb i w)),.int .i64 (i:Int),.int .u64 0,xv,.int .i64 (k:Int),a,.undef,.bool false],⟨[],[(l ++ wb i w).length],[]⟩⟩):=by
 obtain ⟨B,hB⟩:∃ B,B=C.loop ir_rel_row_eachl0:=⟨_,rfl⟩
 rw [← hB,s_loop_at hB]
 by_cases h0:w=0
 ·subst h0
  have e:wb i 0=[]:=by unfold wb; rw [sb_none (fun j _=>Nat.zero_testBit j)]; rfl
  rw [e,List.append_nil]
  simp [ir_rel_row_eachl0,go_sem]
 ·obtain ⟨b1,b2,b3⟩:=low_bits w h0 hw
  have hc:ctz w<64:=(Go.Lib.lowest_bit 64 w h0 hw).2
  have hsb:=sb_first (n:=64) hc b1 b2 b3
  have htz:=tz_ok w h0 hw
  have hwb:wb i w=((64 * i+ctz w:Nat):Int) :: wb i (w &&& (w - 1)):=by unfold wb; rw [hsb]; rfl
  have hlt:w &&& (w - 1)<w:=Nat.lt_of_le_of_lt Nat.and_le_right (by omega)
  have hls:(sb 64 w.testBit).length=(sb 64 (w &&& (w - 1)).testBit).length+1:=by rw [hsb]; rfl
  have ih:=each_word xv a k i hi (w &&& (w - 1)) (by omega) (l ++ [((64 * i+ctz w:Nat):Int)]) (by simp; omega)
  rw [← hB] at ih
  have e1:IntKind.i64.wrap ((i:Int) * 64)=((64 * i:Nat):Int):=by rw [wrap_i64 (by omega) (by omega)]; omega
  have e2:IntKind.i64.wrap (((64 * i:Nat):Int)+((ctz w:Nat):Int))=((64 * i+ctz w:Nat):Int):=by rw [wrap_i64 (by omega) (by omega)]; omega
  have e3:IntKind.u64.wrap ((w:Int) - 1)=((w - 1:Nat):Int):=by
   rw [show (w:Int) - 1=((w - 1:Nat):Int) by omega,wrap_u64' (by omega)]
  have e4:andI .u64 (w:Int) ((w - 1:Nat):Int)=((w &&& (w - 1):Nat):Int):=and_u64 hw (by omega)
  have ea:=app_oneI (m:=⟨[],[l.length],[]⟩) (l:=l) (x:=((64 * i+ctz w:Nat):Int)) rfl (by omega)
  simp only [List.set_cons_zero] at ea
  rw [hwb,List.append_cons]
  generalize w &&& (w - 1)=w' at *
  generalize 64 * i+ctz w=q at *
  rw [List.length_append,List.length_singleton] at ih
  simp [ir_rel_row_eachl0,go_sem,h0,htz,e1,e2,e3,e4,ea,litParts,ih,-Int.natCast_add,-Int.natCast_mul,-List.append_assoc]
termination_by w
def rb (k W:Nat):List Int:=(List.range k).flatMap fun i=>wb i (wd W i)
end Go.Proofs.YtimiademofajeaaGreatDoor
