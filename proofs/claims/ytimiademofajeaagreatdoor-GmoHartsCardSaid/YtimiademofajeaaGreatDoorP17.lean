/- Lemmas (no claim): K19l, K19m, K19n, K19o, K19p. -/
import Derived.Test.YtimiademofajeaaGreatDoorP03
set_option linter.unusedSimpArgs false
set_option linter.unusedVariables false
set_option maxRecDepth 20000
namespace Go.Proofs.YtimiademofajeaaGreatDoor
open Go Go.Vm
/-! ### plain -/
def war (R:Nat→Nat→Bool):Nat→Nat→Nat→Bool
 | 0=>R
 | m+1=>fun a b=>war R m a b || (war R m a m && war R m m b)
theorem war_sub (R:Nat→Nat→Bool) (a b:Nat) (h:R a b=true):∀ m,war R m a b=true
 | 0=>h
 | m+1=>by simp [war,war_sub R a b h m]
theorem war_trans (R:Nat→Nat→Bool):∀ m x a b,x<m→war R m a x=true→war R m x b=true→war R m a b=true
 | 0,x,a,b,hx,_,_=>by omega
 | m+1,x,a,b,hx,h1,h2=>by
  simp only [war,Bool.or_eq_true,Bool.and_eq_true] at h1 h2 ⊢
  by_cases c:x=m
  ·subst c
   rcases h1 with h1 | ⟨h1,_⟩<;>rcases h2 with h2 | ⟨_,h2⟩<;>exact .inr ⟨h1,h2⟩
  ·have hx':x<m:=by omega
   rcases h1 with h1 | ⟨h1,h1'⟩
   ·rcases h2 with h2 | ⟨h2,h2'⟩
    ·exact .inl (war_trans R m x a b hx' h1 h2)
    ·exact .inr ⟨war_trans R m x a m hx' h1 h2,h2'⟩
   ·rcases h2 with h2 | ⟨h2,h2'⟩
    ·exact .inr ⟨h1,war_trans R m x m b hx' h1' h2⟩
    ·exact .inr ⟨h1,h2'⟩
theorem war_least (R:Nat→Nat→Bool) (n:Nat) (P:Nat→Nat→Prop) (h1:∀ a b,a<n→b<n→R a b=true→P a b) (h2:∀ a x b,a<n→x<n→b<n→P a x→P x b→P a b):∀ m,m≤n→∀ a b,a<n→b<n→war R m a b=true→P a b
 | 0,_,a,b,ha,hb,h=>h1 a b ha hb h
 | m+1,hm,a,b,ha,hb,h=>by
  simp only [war,Bool.or_eq_true,Bool.and_eq_true] at h
  rcases h with h | ⟨h,h'⟩
  ·exact war_least R n P h1 h2 m (by omega) a b ha hb h
  ·exact h2 a m b ha (by omega) hb (war_least R n P h1 h2 m (by omega) a m ha (by omega) h) (war_least R n P h1 h2 m (by omega) m b (by omega) hb h')
/-! ### tables, place by place -/
theorem TabAt.congr {H:List Vm.Obj} {v:V} {n T:Nat} {I:Nat→Nat} {f g:Nat→Nat→Bool} (h:TabAt H v n T I f) (e:∀ a b,a<n→b<n→g a b=f a b):TabAt H v n T I g:=
 MatAt.congr h fun a ha=>bR_congr fun b hb=>e a b ha hb
section
variable (tv:V) (n:Nat) (hn:n≤512) (f:Nat→Nat→Bool) (ht:TabV tv n f) (v:V) (T:Nat) (I:Nat→Nat)
include hn ht
end
section
variable (n:Nat) (hn:n≤512) (v:V) (T:Nat) (I:Nat→Nat) (w:Nat→Nat→Bool) (m:Nat) (hm:m<n)
include hn hm
end
section
variable (n:Nat) (R C:Nat→Nat→Bool) (hC:∀ a x b,a<n→x<n→b<n→C a x=true→C x b=true→C a b=true)
variable (p:Nat) (v:V) (T:Nat) (I:Nat→Nat)
include hC in
end
def bitW (W:Nat→Nat) (a b:Nat):Bool:=(W a).testBit b
theorem TabV.congr {tv:V} {n:Nat} {f g:Nat→Nat→Bool} (h:TabV tv n f) (e:∀ a b,a<n→b<n→g a b=f a b):TabV tv n g:=by
 obtain ⟨rows,h1,h2,h3⟩:=h.sl
 refine ⟨rows,h1,h2,fun a ha=>?_⟩
 obtain ⟨x,h4,h5⟩:=h3 a ha
 exact ⟨x,h4,by rw [bR_congr fun b hb=>e a b (by omega) hb]; exact h5⟩
/-! ### plain -/
def may (R:Nat→Nat→Bool) (n:Nat) (gone:Nat→Bool) (a:Nat):Bool:=!gone a && (List.range n).all fun b=>gone b || !R b a
def kah (R:Nat→Nat→Bool) (n:Nat):Nat→(Nat→Bool)→List Int→Option (List Int)
 | 0,_,out=>some out
 | k+1,gone,out=>match (List.range n).find? (may R n gone) with
  | none=>none
  | some a=>kah R n k (fun x=>gone x || decide (x=a)) (out ++ [(a:Int)])
def cntG (R:Nat→Nat→Bool) (n:Nat) (gone:Nat→Bool) (b:Nat):Nat:=(List.range n).countP fun x=>R x b && !gone x
theorem cnt_zero (R:Nat→Nat→Bool) (n:Nat) (gone:Nat→Bool) (b:Nat):(cntG R n gone b=0)↔((List.range n).all fun x=>gone x || !R x b)=true:=by
 unfold cntG
 rw [List.countP_eq_zero,List.all_eq_true]
 constructor
 ·intro h x hx
  have:=h x hx
  cases h1:R x b<;>cases h2:gone x<;>simp_all
 ·intro h x hx
  have:=h x hx
  cases h1:R x b<;>cases h2:gone x<;>simp_all
theorem may_cnt (R:Nat→Nat→Bool) (n:Nat) (gone:Nat→Bool) (a:Nat):may R n gone a=(!gone a && decide ((cntG R n gone a:Int)≤0)):=by
 unfold may
 congr 1
 rw [Bool.eq_iff_iff,← cnt_zero,decide_eq_true_eq]
 omega
theorem sb_succ (n:Nat) (p:Nat→Bool):sb (n+1) p=sb n p ++ (if p n=true then [n] else []):=by
 unfold sb
 rw [List.range_succ,List.filter_append]
 congr 1
 cases hp:p n<;>simp [List.filter_cons,hp]
theorem sb_count (p:Nat→Bool) (b:Nat):∀ n,(sb n p).countP (fun j=>decide (j=b))=if b<n∧p b=true then 1 else 0
 | 0=>by simp [sb]
 | n+1=>by
  rw [sb_succ,List.countP_append,sb_count p b n]
  by_cases hb:b=n
  ·subst hb
   cases hp:p b<;>simp
  ·have h1:¬ n=b:=fun e=>hb e.symm
   have h2:(b<n+1)↔(b<n):=by omega
   cases hp:p n<;>simp [h1,h2]
theorem cnt_pick (R:Nat→Nat→Bool) (n:Nat) (gone:Nat→Bool) (a b:Nat) (ha:a<n) (hg:gone a=false):cntG R n gone b=cntG R n (fun x=>gone x || decide (x=a)) b+if R a b=true then 1 else 0:=by
 have key:∀ m,(List.range m).countP (fun x=>R x b && !gone x)=(List.range m).countP (fun x=>R x b && !(gone x || decide (x=a)))+if a<m∧R a b=true then 1 else 0:=by
  intro m
  induction m with
  | zero=>simp
  | succ m ih=>
   rw [List.range_succ,List.countP_append,List.countP_append,ih]
   by_cases e:a=m
   ·subst e
    cases hR:R a b<;>simp [hg,hR]
   ·have h1:¬ m=a:=fun h=>e h.symm
    have h2:(a<m+1)↔(a<m):=by omega
    simp only [List.countP_singleton,h1,decide_false,Bool.or_false,h2]
    omega
 have:=key n
 unfold cntG
 rw [this]
 simp [ha]
theorem cnt_le (R:Nat→Nat→Bool) (n:Nat) (gone:Nat→Bool) (b:Nat):cntG R n gone b≤n:=by
 have:=List.countP_le_length (p:=fun x=>R x b && !gone x) (l:=List.range n)
 simpa [cntG] using this
theorem prs_count (n:Nat) (W:Nat→Nat) (b:Nat) (hb:b<n):(prs n W 0).countP (fun q=>decide (q.2=(b:Int)))=cntG (bitW W) n (fun _=>false) b:=by
 have key:∀ d i,i+d=n→(prs n W i).countP (fun q=>decide (q.2=(b:Int)))=(List.range' i (n - i)).countP fun x=>(W x).testBit b:=by
  intro d
  induction d with
  | zero=>
   intro i hi
   obtain rfl:i=n:=by omega
   rw [prs_end,Nat.sub_self]
   rfl
  | succ d ih=>
   intro i hi
   rw [prs_step W (by omega),List.countP_append,ih (i+1) (by omega),show n - i=(n - (i+1))+1 by omega,List.range'_succ,List.countP_cons,List.countP_map]
   have h1:(rt n (W i)).countP ((fun q:Int × Int=>decide (q.2=(b:Int))) ∘ fun c=>((i:Int),c))=if (W i).testBit b=true then 1 else 0:=by
    unfold rt
    rw [List.countP_map]
    have:=sb_count (W i).testBit b n
    rw [show (((fun q:Int × Int=>decide (q.2=(b:Int))) ∘ fun c=>((i:Int),c)) ∘ fun b:Nat=>(b:Int))=fun j:Nat=>decide (j=b) from by
     funext j; simp [nat_eq_int],this]
    simp [hb]
   rw [h1]
   omega
 rw [key n 0 (by omega)]
 unfold cntG bitW
 rw [Nat.sub_zero,← List.range_eq_range']
 congr 1
 funext x
 simp
/-! ### numbers in a row on the heap -/
def nR (n:Nat) (g:Nat→Int):List (List V):=(List.range n).map fun b=>[.int .i64 (g b)]
theorem nR_len (n:Nat) (g:Nat→Int):(nR n g).length=n:=by simp [nR]
theorem nR_el (n:Nat) (g:Nat→Int) (i:Nat) (h:i<(nR n g).length):(nR n g)[i]=[.int .i64 (g i)]:=by simp [nR]
theorem nR_get {n:Nat} (g:Nat→Int) {i:Nat} (h:i<n):(nR n g)[i]?=some [.int .i64 (g i)]:=by
 rw [List.getElem?_eq_getElem (by rw [nR_len]; exact h),nR_el]
theorem nR_set (n:Nat) (g:Nat→Int) (i:Nat) (x:Int):(nR n g).set i [.int .i64 x]=nR n (fun j=>if j=i then x else g j):=by
 apply List.ext_getElem
 ·simp [nR]
 ·intro j h1 h2
  rw [List.getElem_set,nR_el,nR_el]
  by_cases c:i=j
  ·subst c; simp
  ·have:¬ j=i:=fun e=>c e.symm
   simp [c,this]
theorem nR_congr {n:Nat} {f g:Nat→Int} (h:∀ j,j<n→f j=g j):nR n f=nR n g:=by
 unfold nR
 apply List.map_congr_left
 intro j hj
 rw [h j (List.mem_range.1 hj)]
theorem nR_rep (n:Nat):nR n (fun _=>0)=List.replicate n [.int .i64 0]:=by simp [nR,List.map_const']
theorem Order_l0 (t:Bool) (rv u:V) (n:Nat) (hn:n≤512) (l:List (Int × Int)) (hl:l.length≤300000) (hu:Sl u (pR l)) (hb:∀ q∈l,0≤q.2∧q.2<n) (vs:List V) (t0:Nat) (j:Nat) (hj:j≤l.length) (g:Nat→Int) (hg:∀ b,0≤g b∧g b≤j):
  ∃ vs',evCI pg (.loop ir_rel_Rel_Orderl0) ⟨[.ip t [rv] 0,.undef,.undef,.rsl 0 0 n,.undef,.undef,.undef,.undef,.undef,u,.int .i64 (l.length:Int),.int .i64 (j:Int),.undef,.undef,.undef,.undef,.undef,.undef,.undef,.undef,.undef,.undef],⟨[vs],[t0],[.arr (nR n g)]⟩⟩ =
   some (.exit 0,⟨[.ip t [rv] 0,.undef,.undef,.rsl 0 0 n,.undef,.undef,.undef,.undef,.undef,u,.int .i64 (l.length:Int),.int .i64 (l.length:Int),.bool false,.undef,.undef,.undef,.undef,.undef,.undef,.undef,.undef,.undef],⟨[vs'],[t0],[.arr (nR n fun b=>g b+((l.drop j).countP (fun q=>decide (q.2=(b:Int))):Nat))]⟩⟩):=by
 obtain ⟨B,hB⟩:∃ B,B=Vm.C.loop ir_rel_Rel_Orderl0:=⟨_,rfl⟩
 have hpl:=pR_len l
 by_cases c:j<l.length
 ·have e3:=succ_i64 c (by omega)
  have e1:=fun m=>hu.ia (sz:=2) m .i64 (i:=j) (by omega) (by simp [pR])
  simp only [pR_el] at e1
  have hbj:=hb l[j] (List.getElem_mem _)
  have hdr:=List.drop_eq_getElem_cons c
  generalize l[j]=q at *
  obtain ⟨x,y⟩:=q
  obtain ⟨y,rfl⟩:∃ k:Nat,y=k:=⟨y.toNat,by simp only at hbj; omega⟩
  have hy:y<n:=by simp only at hbj; omega
  simp only at e1 hbj
  have hgy:=hg y
  obtain ⟨vs',ih⟩:=Order_l0 t rv u n hn l hl hu hb [] t0 (j+1) (by omega) (fun b=>if b=y then g y+1 else g b) (fun b=>by
   have:=hg b
   split
   ·omega
   ·omega)
  refine ⟨vs',?_⟩
  have hfe:nR n (fun b=>g b+((l.drop j).countP (fun q=>decide (q.2=(b:Int))):Nat))=nR n (fun b=>(if b=y then g y+1 else g b)+((l.drop (j+1)).countP (fun q=>decide (q.2=(b:Int))):Nat)):=by
   apply nR_congr
   intro b hb
   rw [hdr,List.countP_cons]
   by_cases e:b=y
   ·subst e
    simp
    omega
   ·have h1:¬ (y:Int)=(b:Int):=by omega
    simp [e,h1]
  rw [hfe,← ih,← hB]
  conv=>lhs; rw [s_loop_at hB]
  have e4:IntKind.i64.wrap (g y+1)=g y+1:=wrap_i64 (by omega) (by omega)
  have hgl:=nR_len n g
  have hgg:=nR_get g hy
  rw [← nR_set n g y (g y+1)]
  generalize nR n g=ar at *
  have hal:y<ar.length:=by omega
  have hae:ar[y]=[.int .i64 (g y)]:=by
   rw [List.getElem?_eq_getElem hal] at hgg; exact Option.some.inj hgg
  simp [ir_rel_Rel_Orderl0,go_sem,hu.is,c,e1,e3,e4,hgl,hgg,hal,hae,hy,asIx_nat,-Int.natCast_add]
 ·obtain rfl:j=l.length:=by omega
  refine ⟨vs,?_⟩
  rw [← hB,s_loop_at hB,List.drop_length]
  simp [ir_rel_Rel_Orderl0,go_sem,hu.is]
termination_by l.length - j
theorem Order_l1 (t:Bool) (rv u:V) (n:Nat) (hn:n≤512) (q:List Nat) (hq:∀ b∈q,b<n) (hql:q.length≤512) (hu:Sl u (iI (q.map fun b:Nat=>(b:Int)))) (out:V) (ho:∃ es,out=.osl false 0 es) (gr:List (List V)) (vs:List V) (t0:Nat) (j:Nat) (hj:j≤q.length) (g:Nat→Int) (hg:∀ b,-(j:Int)≤g b∧g b≤1000):
  evCI pg (.loop ir_rel_Rel_Orderl1) ⟨[.ip t [rv] 0,.undef,.undef,.rsl 0 0 n,.undef,.rsl 1 0 n,out,.undef,.undef,.undef,.undef,.undef,.undef,.undef,.undef,.undef,.undef,.undef,u,.int .i64 (q.length:Int),.int .i64 (j:Int),.undef],⟨[vs],[t0],[.arr (nR n g),.arr gr]⟩⟩ =
   some (.exit 6,⟨[.ip t [rv] 0,.undef,.undef,.rsl 0 0 n,.undef,.rsl 1 0 n,out,.undef,.undef,.undef,.undef,.undef,.undef,.undef,.undef,.undef,.undef,.undef,u,.int .i64 (q.length:Int),.int .i64 (q.length:Int),.bool false],⟨[vs],[t0],[.arr (nR n fun b=>g b - ((q.drop j).countP (fun x=>decide (x=b)):Nat)),.arr gr]⟩⟩):=by
 obtain ⟨B,hB⟩:∃ B,B=Vm.C.loop ir_rel_Rel_Orderl1:=⟨_,rfl⟩
 obtain ⟨es,rfl⟩:=ho
 by_cases c:j<q.length
 ·have e3:=succ_i64 c (by omega)
  have hlm:(q.map fun b:Nat=>(b:Int)).length=q.length:=List.length_map ..
  have e1:=fun m=>hu.ia (sz:=1) m .i64 (i:=j) (by rw [iI_len,hlm]; exact c) (by simp [iI])
  simp only [iI_el,List.getElem_map] at e1
  have hb:=hq q[j] (List.getElem_mem _)
  have hdr:=List.drop_eq_getElem_cons c
  generalize q[j]=y at *
  have hgy:=hg y
  have ih:=Order_l1 t rv u n hn q hq hql hu (.osl false 0 es) ⟨es,rfl⟩ gr vs t0 (j+1) (by omega) (fun b=>if b=y then g y - 1 else g b) (fun b=>by
   have:=hg b
   split<;>omega)
  have hfe:nR n (fun b=>g b - ((q.drop j).countP (fun x=>decide (x=b)):Nat))=nR n (fun b=>(if b=y then g y - 1 else g b) - ((q.drop (j+1)).countP (fun x=>decide (x=b)):Nat)):=by
   apply nR_congr
   intro b hb
   rw [hdr,List.countP_cons]
   by_cases e:b=y
   ·subst e
    simp
    omega
   ·have h1:¬ y=b:=fun h=>e h.symm
    simp [e,h1]
  rw [hfe,← ih,← hB]
  conv=>lhs; rw [s_loop_at hB]
  have e4:IntKind.i64.wrap (g y - 1)=g y - 1:=wrap_i64 (by omega) (by omega)
  have hgl:=nR_len n g
  have hgg:=nR_get g hb
  rw [← nR_set n g y (g y - 1)]
  generalize nR n g=ar at *
  have hal:y<ar.length:=by omega
  have hae:ar[y]=[.int .i64 (g y)]:=by
   rw [List.getElem?_eq_getElem hal] at hgg; exact Option.some.inj hgg
  simp [ir_rel_Rel_Orderl1,go_sem,hu.is,c,e1,e3,e4,hgl,hgg,hal,hae,hb,asIx_nat,-Int.natCast_add]
 ·obtain rfl:j=q.length:=by omega
  rw [← hB,s_loop_at hB,List.drop_length]
  simp [ir_rel_Rel_Orderl1,go_sem,hu.is]
termination_by q.length - j
section
variable (t:Bool) (rv:V) (n:Nat) (W:Nat→Nat) (hr:RelV rv n W) (vs:List V)
include hr
def goneA (gone:Nat→Bool) (a:Nat):Nat→Bool:=fun x=>gone x || decide (x=a)
theorem Order_l2 (gone:Nat→Bool) (out:List Int) (ho:out.length≤512) (i:Nat) (hi:i≤n):
  ((List.range' i (n - i)).find? (may (bitW W) n gone)=none→evCI pg (.loop ir_rel_Rel_Orderl2) ⟨[.ip t [rv] 0,.undef,.undef,.rsl 0 0 n,.undef,.rsl 1 0 n,.osl false 0 (iI out),.undef,.undef,.undef,.undef,.undef,.undef,.undef,.int .i64 (n:Int),.int .i64 (i:Int),.undef,.undef,.undef,.undef,.undef,.undef],⟨[vs],[out.length],[.arr (nR n fun b=>(cntG (bitW W) n gone b:Int)),.arr (bR n gone)]⟩⟩ =
   some (.exit 4,⟨[.ip t [rv] 0,.undef,.undef,.rsl 0 0 n,.undef,.rsl 1 0 n,.osl false 0 (iI out),.undef,.undef,.undef,.undef,.undef,.undef,.undef,.int .i64 (n:Int),.int .i64 (n:Int),.bool false,.undef,.undef,.undef,.undef,.undef],⟨[vs],[out.length],[.arr (nR n fun b=>(cntG (bitW W) n gone b:Int)),.arr (bR n gone)]⟩⟩)) ∧
  (∀ a,(List.range' i (n - i)).find? (may (bitW W) n gone)=some a→∃ u x y z,evCI pg (.loop ir_rel_Rel_Orderl2) ⟨[.ip t [rv] 0,.undef,.undef,.rsl 0 0 n,.undef,.rsl 1 0 n,.osl false 0 (iI out),.undef,.undef,.undef,.undef,.undef,.undef,.undef,.int .i64 (n:Int),.int .i64 (i:Int),.undef,.undef,.undef,.undef,.undef,.undef],⟨[vs],[out.length],[.arr (nR n fun b=>(cntG (bitW W) n gone b:Int)),.arr (bR n gone)]⟩⟩ =
   some (.exit 3,⟨[.ip t [rv] 0,.undef,.undef,.rsl 0 0 n,.undef,.rsl 1 0 n,.osl false 0 (iI (out ++ [(a:Int)])),.undef,.undef,.undef,.undef,.undef,.undef,.undef,.undef,.undef,.undef,.undef,u,x,y,z],⟨[vs],[(out ++ [(a:Int)]).length],[.arr (nR n fun b=>(cntG (bitW W) n (goneA gone a) b:Int)),.arr (bR n (goneA gone a))]⟩⟩)):=by
 obtain ⟨B,hB⟩:∃ B,B=Vm.C.loop ir_rel_Rel_Orderl2:=⟨_,rfl⟩
 have hle:=hr.le
 by_cases c:i<n
 ·have e3:=succ_i64 c (by omega)
  have hrg:List.range' i (n - i)=i :: List.range' (i+1) (n - (i+1)):=by rw [show n - i=(n - (i+1))+1 by omega,List.range'_succ]
  rw [hrg,List.find?_cons]
  have hgl:=nR_len n fun b=>(cntG (bitW W) n gone b:Int)
  have hgg:=nR_get (fun b=>(cntG (bitW W) n gone b:Int)) c
  have hbl:=bR_len n gone
  have hbg:=bR_get (n:=n) gone c
  have hmc:=may_cnt (bitW W) n gone i
  have hal:i<(nR n fun b=>(cntG (bitW W) n gone b:Int)).length:=by omega
  have hae:=nR_el n (fun b=>(cntG (bitW W) n gone b:Int)) i hal
  have hbrl:i<(bR n gone).length:=by omega
  have hbre:=bR_el n gone i hbrl
  obtain ⟨ih1,ih2⟩:=Order_l2 gone out ho (i+1) (by omega)
  rw [← hB] at ih1 ih2 ⊢
  have hpos:((0:Int)<(cntG (bitW W) n gone i:Int))↔¬ ((cntG (bitW W) n gone i:Int)≤0):=by omega
  cases hm:may (bitW W) n gone i with
  | false=>
   simp only
   have step:∀ x,evCI pg B ⟨[.ip t [rv] 0,.undef,.undef,.rsl 0 0 n,.undef,.rsl 1 0 n,.osl false 0 (iI out),.undef,.undef,.undef,.undef,.undef,.undef,.undef,.int .i64 (n:Int),.int .i64 ((i+1:Nat):Int),.undef,.undef,.undef,.undef,.undef,.undef],⟨[vs],[out.length],[.arr (nR n fun b=>(cntG (bitW W) n gone b:Int)),.arr (bR n gone)]⟩⟩=x →
     evCI pg B ⟨[.ip t [rv] 0,.undef,.undef,.rsl 0 0 n,.undef,.rsl 1 0 n,.osl false 0 (iI out),.undef,.undef,.undef,.undef,.undef,.undef,.undef,.int .i64 (n:Int),.int .i64 (i:Int),.undef,.undef,.undef,.undef,.undef,.undef],⟨[vs],[out.length],[.arr (nR n fun b=>(cntG (bitW W) n gone b:Int)),.arr (bR n gone)]⟩⟩=x:=by
    intro x hx
    rw [← hx]
    conv=>lhs; rw [s_loop_at hB]
    rw [hm] at hmc
    generalize nR n (fun b=>(cntG (bitW W) n gone b:Int))=ar at *
    generalize hgi:gone i=gi at *
    generalize bR n gone=br at *
    generalize (cntG (bitW W) n gone i:Int)=ci at *
    cases gi with
    | true=>
     simp [ir_rel_Rel_Orderl2,go_sem,c,e3,hgl,hgg,hbl,hbg,hal,hae,hbrl,hbre,asIx_nat,-Int.natCast_add]
    | false=>
     have hci:(0:Int)<ci:=by
      rw [hpos]
      simpa using hmc
     simp [ir_rel_Rel_Orderl2,go_sem,c,e3,hgl,hgg,hbl,hbg,hal,hae,hbrl,hbre,hci,asIx_nat,-Int.natCast_add]
   refine ⟨fun h=>step _ (ih1 h),fun a h=>?_⟩
   obtain ⟨u,x,y,z,h1⟩:=ih2 a h
   exact ⟨u,x,y,z,step _ h1⟩
  | true=>
   refine ⟨fun h=>by simp at h,fun a h=>?_⟩
   simp only [Option.some.injEq] at h
   subst h
   rw [hm] at hmc
   have hgi:gone i=false:=by
    cases hq:gone i with
    | false=>rfl
    | true=>rw [hq] at hmc; simp at hmc
   have hci:¬ (0:Int)<(cntG (bitW W) n gone i:Int):=by
    rw [hpos,Classical.not_not]
    rw [hgi] at hmc
    simpa using hmc
   obtain ⟨x,hx,ex⟩:=hr.row c
   have hea:=each_ok x n (W i) hx hle (hr.lt i c)
   have hlq:(rt n (W i)).length=(sb n (W i).testBit).length:=by simp [rt]
   have hsl:=Sl.ils (iI (rt n (W i)))
   have h1:=Order_l1 t rv (ils (iI (rt n (W i)))) n hle (sb n (W i).testBit) (fun b hb=>List.mem_range.1 (List.mem_filter.1 hb).1) (by have:=sb_len n (W i).testBit; omega) hsl (.osl false 0 (iI (out ++ [(i:Int)]))) ⟨_,rfl⟩ (bR n (goneA gone i)) vs (out.length+1) 0 (by omega) (fun b=>(cntG (bitW W) n gone b:Int)) (fun b=>by have:=cnt_le (bitW W) n gone b; omega)
   have hfin:nR n (fun b=>(cntG (bitW W) n gone b:Int) - (((sb n (W i).testBit).drop 0).countP (fun x=>decide (x=b)):Nat))=nR n (fun b=>(cntG (bitW W) n (goneA gone i) b:Int)):=by
    apply nR_congr
    intro b hb
    rw [List.drop_zero,sb_count,cnt_pick (bitW W) n gone i b c hgi]
    have:(b<n∧(W i).testBit b=true)↔(bitW W i b=true):=⟨fun h=>h.2,fun h=>⟨hb,h⟩⟩
    simp only [this]
    unfold goneA
    split<;>omega
   rw [hfin,Int.natCast_zero] at h1
   have hset:(bR n gone).set i [.bool true]=bR n (goneA gone i):=by
    rw [bR_set]
    apply bR_congr
    intro b hb
    unfold goneA
    by_cases e:b=i<;>simp [e]
   have ea:=app_oneI (m:=⟨[vs],[out.length],[.arr (nR n fun b=>(cntG (bitW W) n gone b:Int)),.arr (bR n (goneA gone i))]⟩) (l:=out) (x:=(i:Int)) rfl (by omega)
   simp only [List.set_cons_zero] at ea
   refine ⟨ils (iI (rt n (W i))),.int .i64 ((sb n (W i).testBit).length:Int),.int .i64 ((sb n (W i).testBit).length:Int),.bool false,?_⟩
   rw [s_loop_at hB,List.length_append,List.length_singleton]
   rw [← hset] at ea h1 ⊢
   generalize nR n (fun b=>(cntG (bitW W) n gone b:Int))=ar at *
   generalize nR n (fun b=>(cntG (bitW W) n (goneA gone i) b:Int))=ar2 at *
   generalize bR n gone=br at *
   generalize (cntG (bitW W) n gone i:Int)=ci at *
   rw [hgi] at hbg hbre
   simp [ir_rel_Rel_Orderl2,go_sem,c,e3,hgl,hgg,hbl,hbg,hal,hae,hbrl,hbre,hci,asIx_nat,litParts,ea,hr.is,ex,hx.is,hea,hsl.is,hsl.rows,iI_len,hlq,h1,-Int.natCast_add]
 ·obtain rfl:i=n:=by omega
  rw [Nat.sub_self,List.range'_zero]
  refine ⟨fun _=>?_,fun a h=>by simp at h⟩
  rw [← hB,s_loop_at hB]
  simp [ir_rel_Rel_Orderl2,go_sem]
termination_by n - i
end
end Go.Proofs.YtimiademofajeaaGreatDoor
