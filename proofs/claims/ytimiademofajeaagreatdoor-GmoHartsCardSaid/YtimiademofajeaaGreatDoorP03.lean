/- Lemmas (no claim): K19f, K19g, K19h, K19i, K19j, K08a, K08b. -/
import Derived.Test.YtimiademofajeaaGreatDoorP02
import Derived.Test.YtimiademofajeaaGreatDoorP01
set_option linter.unusedSimpArgs false
set_option linter.unusedVariables false
set_option maxRecDepth 20000
namespace Go.Proofs.YtimiademofajeaaGreatDoor
open Go Go.Vm
theorem MatAt.grow {H:List Vm.Obj} {v:V} {i k T:Nat} {I:Nat→Nat} {R:Nat→List (List V)} (h:MatAt H v i k T I R) (r:List (List V)) (hr:r.length=k) (hi:i<100000) (vs:List (List V)) (tk:List Nat):
  ∃ H2,appV 0 1 24 ⟨vs,tk,H ++ [.arr r]⟩ v (.els [[.rsl H.length 0 k]])=some (.rsl (H.length+1) 0 (i+1),⟨vs,tk,H2⟩) ∧
   MatAt H2 (.rsl (H.length+1) 0 (i+1)) (i+1) k (H.length+1) (fun a=>if a=i then H.length else I a) (fun a=>if a=i then r else R a)∧H2.length=H.length+2 ∧
   (∀ q,q<H.length→¬ mft i T I q→H2[q]?=H[q]?):=by
 have hfit:fits 24 (i+1)=true:=fits_of (by omega) (by omega)
 have hlt:∀ a,a<i→I a<H.length:=fun a ha=>get_lt (h.row a ha)
 have mk:∀ H2:List Vm.Obj,H2.length=H.length+2→H2[H.length+1]?=some (.arr ((List.range (i+1)).map fun a=>[.rsl (if a=i then H.length else I a) 0 k]))→H2[H.length]?=some (.arr r)→(∀ a,a<i→H2[I a]?=H[I a]?) →
   MatAt H2 (.rsl (H.length+1) 0 (i+1)) (i+1) k (H.length+1) (fun a=>if a=i then H.length else I a) (fun a=>if a=i then r else R a):=by
  intro H2 hl h1 h2 h3
  refine ⟨.inr ⟨by omega,rfl,h1⟩,fun a ha=>?_,fun a ha=>?_,fun a b ha hb e=>?_,fun a ha=>?_⟩
  ·by_cases c:a=i
   ·simp only [c,if_true]; exact h2
   ·simp only [c,if_false]; rw [h3 a (by omega)]; exact h.row a (by omega)
  ·by_cases c:a=i
   ·simp only [c,if_true]; exact hr
   ·simp only [c,if_false]; exact h.len a (by omega)
  ·by_cases c:a=i
   ·by_cases d:b=i
    ·rw [c,d]
    ·simp only [c,d,if_true,if_false] at e
     have:=hlt b (by omega); omega
   ·by_cases d:b=i
    ·simp only [c,d,if_true,if_false] at e
     have:=hlt a (by omega); omega
    ·simp only [c,d,if_false] at e
     exact h.inj a b (by omega) (by omega) e
  ·by_cases c:a=i
   ·simp only [c,if_true]; omega
   ·simp only [c,if_false]; have:=hlt a (by omega); omega
 have range1:(List.range (i+1)).map (fun a=>[V.rsl (if a=i then H.length else I a) 0 k])=((List.range i).map fun a=>[V.rsl (I a) 0 k]) ++ [[.rsl H.length 0 k]]:=by
  rw [List.range_succ,List.map_append]
  congr 1
  ·apply List.map_congr_left
   intro a ha
   have:=List.mem_range.1 ha
   rw [if_neg (by omega)]
  ·simp
 rcases h.top with ⟨h0,h1⟩ | ⟨h0,h1,h2⟩
 ·subst h1; subst h0
  refine ⟨H ++ [.arr r] ++ [.arr [[.rsl H.length 0 k]]],?_,mk _ (by simp) (by simp) (by simp) (fun a ha=>by omega),by simp,fun q hq _=>by
   rw [List.append_assoc,List.getElem?_append_left hq]⟩
  simp [appV,srcV,hfit,szAll,flatAll,V.flat]
 ·subst h1
  have hT:=get_lt h2
  have hT':(H ++ [Vm.Obj.arr r])[T]?=some (.arr ((List.range i).map fun a=>[.rsl (I a) 0 k])):=by rw [List.getElem?_append_left hT]; exact h2
  refine ⟨(H ++ [Vm.Obj.arr r]).set T Vm.Obj.dead ++ [Vm.Obj.arr (((List.range i).map fun a=>[.rsl (I a) 0 k]) ++ [[.rsl H.length 0 k]])],?_,mk _ (by simp) (by rw [range1]; simp) ?_ (fun a ha=>?_),by simp,fun q hq hn=>?_⟩
  ·have hs:szAll 1 (((List.range i).map fun a=>[V.rsl (I a) 0 k]) ++ [[.rsl H.length 0 k]])=true:=by simp [szAll]
   have c1:¬ (0+i+[[V.rsl H.length 0 k]].length≤((List.range i).map fun a=>[V.rsl (I a) 0 k]).length):=by simp
   have c2:(0=0∧i=((List.range i).map fun a=>[V.rsl (I a) 0 k]).length∧0<i):=⟨rfl,by simp,h0⟩
   have hf:flatAll [[V.rsl H.length 0 k]]=true:=by simp [flatAll,V.flat]
   unfold appV
   simp only [srcV,hT',List.length_singleton,hfit,hf,hs,Bool.and_self,Bool.not_true,Bool.false_eq_true,if_false]
   rw [if_neg (by simp),if_pos ⟨trivial,c2.2⟩]
   simp
  ·rw [List.getElem?_append_left (by simp),List.getElem?_set_ne (by omega),List.getElem?_append_right (by omega)]; simp
  ·have:=hlt a ha
   rw [List.getElem?_append_left (by simp; omega),List.getElem?_set_ne (Ne.symm (h.sep a ha)),List.getElem?_append_left this]
  ·have hqT:T≠q:=fun e=>hn (.inl ⟨h0,e.symm⟩)
   rw [List.getElem?_append_left (by simp; omega),List.getElem?_set_ne hqT,List.getElem?_append_left hq]
structure RelAt (H:List Vm.Obj) (p:Nat) (v:V) (n T:Nat) (I:Nat→Nat) (W:Nat→Nat):Prop where
 obj:H[p]?=some (.arr [[v]])
 mat:MatAt H v n (kw n) T I (fun a=>wR (wl (kw n) (W a)))
 np:¬ mft n T I p
 lt:∀ a,a<n→W a<2 ^ n
 le:n≤512
def rft (p n T:Nat) (I:Nat→Nat) (q:Nat):Prop:=q=p∨mft n T I q
section
variable {H:List Vm.Obj} {p:Nat} {v:V} {n T:Nat} {I:Nat→Nat} {W:Nat→Nat} (h:RelAt H p v n T I W)
include h
theorem RelAt.frame {H':List Vm.Obj} (hf:∀ q,rft p n T I q→H'[q]?=H[q]?):RelAt H' p v n T I W:=
 ⟨by rw [hf p (.inl rfl)]; exact h.obj,h.mat.frame fun q hq=>hf q (.inr hq),h.np,h.lt,h.le⟩
theorem RelAt.ftlt {q:Nat} (hq:rft p n T I q):q<H.length:=by
 rcases hq with rfl | hq
 ·exact get_lt h.obj
 ·exact h.mat.lt hq
theorem RelAt.imm (t:Bool):∃ u,RelV u n W∧(∀ vs tk d,toImm ⟨vs,tk,H⟩ t (d+3) v=some u)∧(t=false→∀ d,clean (d+3) u=true):=by
 obtain ⟨u,rows,h1,h2,h3,h4,h5⟩:=h.mat.imm t (fun a _ e he x hx m d=>wR_imm e he x hx m t d)
 exact ⟨u,⟨⟨rows,h1,h2,fun a ha=>⟨_,h3 a ha,.isl _ _⟩⟩,h.lt,h.le⟩,h4,fun ht=>h5 ht fun a _ e he x hx d=>wR_clean e he x hx d⟩
theorem RelAt.set {a:Nat} (ha:a<n) (w:Nat) (hw:w<2 ^ n):RelAt (H.set (I a) (.arr (wR (wl (kw n) w)))) p v n T I (fun b=>if b=a then w else W b):=by
 refine ⟨?_,(h.mat.set ha (wR (wl (kw n) w)) (by rw [wR_len,wl_len])).congr fun b _=>?_,h.np,fun b hb=>?_,h.le⟩
 ·rw [List.getElem?_set_ne (fun e=>h.np (.inr ⟨a,ha,e.symm⟩))]; exact h.obj
 ·by_cases c:b=a<;>simp [c]
 ·by_cases c:b=a
  ·simp [c,hw]
  ·simp [c,h.lt b hb]
end
theorem bit_lt {W n b:Nat} (h:W<2 ^ n) (hb:b<n):W ||| 2 ^ b<2 ^ n:=Nat.or_lt_two_pow h (Nat.pow_lt_pow_right (by omega) hb)
theorem Add_ok {H:List Vm.Obj} {p:Nat} {v:V} {n T:Nat} {I:Nat→Nat} {W:Nat→Nat} (h:RelAt H p v n T I W) (a b:Nat) (ha:a<n) (hb:b<n):
  evI pg .heap n_rel_Rel_Add [.ptr p 0 0,.int .i64 (a:Int),.int .i64 (b:Int)] H=some (.bool true,H.set (I a) (.arr (wR (wl (kw n) (W a ||| 2 ^ b))))):=by
 obtain ⟨u,hu,him,_⟩:=h.imm true
 have h1:=is_ok (t:=true) hu (a:Int)
 have h2:=is_ok (t:=true) hu (b:Int)
 have ha':(0≤(a:Int)∧(a:Int)<n):=by omega
 have hb':(0≤(b:Int)∧(b:Int)<n):=by omega
 simp only [ha',hb',and_self,decide_true] at h1 h2
 have hpl:=get_lt h.obj
 have ho:=h.obj
 have hg:=get_el ho hpl
 obtain ⟨e1,e2⟩:=h.mat.ia ha [] []
 have e2:=e2 false rfl
 have hrow:=row_add_ok H (I a) (kw n) (W a) b (h.mat.row a ha) (kw_le h.le) (by have:=kw_ge n; omega)
 have hi7:=fun vs tk=>him vs tk 4
 rw [s_fn fn_rel_Rel_Add]
 simp only [Nat.reduceAdd] at hi7
 simp [ir_rel_Rel_Add,go_sem,ho,hpl,hg,hi7,h1,h2,e1,e2,hrow]
theorem wl_zero (k:Nat):wR (wl k 0)=List.replicate k [.int .u64 0]:=by
 apply List.ext_getElem
 ·simp [wR_len,wl_len]
 ·intro i h1 h2
  rw [wR_el]
  simp [wl_el,wd]
theorem New_loop (n p:Nat) (hn:n≤512) (H0:List Vm.Obj) (i:Nat) (hi:i≤n) (H:List Vm.Obj) (v:V) (T:Nat) (I:Nat→Nat) (c1:∀ q,q<p→H[q]?=H0[q]?) (c2:H[p]?=some (.arr [[v]]))
  (c3:MatAt H v i (kw n) T I (fun _=>wR (wl (kw n) 0))) (c4:∀ q,mft i T I q→p<q):
  ∃ H' v' T' I',evCI pg (.loop ir_rel_Newl0) ⟨[.int .i64 (n:Int),.undef,.ptr p 0 0,.undef,.int .i64 (n:Int),.int .i64 (i:Int),.undef],⟨[],[],H⟩⟩ =
    some (.exit 0,⟨[.int .i64 (n:Int),.undef,.ptr p 0 0,.undef,.int .i64 (n:Int),.int .i64 (n:Int),.bool false],⟨[],[],H'⟩⟩) ∧
   (∀ q,q<p→H'[q]?=H0[q]?)∧H'[p]?=some (.arr [[v']])∧MatAt H' v' n (kw n) T' I' (fun _=>wR (wl (kw n) 0))∧(∀ q,mft n T' I' q→p<q):=by
 obtain ⟨B,hB⟩:∃ B,B=C.loop ir_rel_Newl0:=⟨_,rfl⟩
 by_cases h:i<n
 ·have e3:=succ_i64 h (by omega)
  have hpl:=get_lt c2
  have hg:=get_el c2 hpl
  obtain ⟨H2,g1,g2,g3,g4⟩:=c3.grow (wR (wl (kw n) 0)) (by rw [wR_len,wl_len]) (by omega) [] []
  have hnp:¬ mft i T I p:=fun hc=>by have:=c4 p hc; omega
  have hp2:=g4 p hpl hnp
  rw [c2] at hp2
  have hp2l:=get_lt hp2
  have hgp2:=get_el hp2 hp2l
  have hnew:∀ q,mft (i+1) (H.length+1) (fun a=>if a=i then H.length else I a) q→p<q:=by
   rintro q (⟨_,rfl⟩ | ⟨a,ha,rfl⟩)
   ·omega
   ·by_cases c:a=i
    ·simp only [c,if_true]; omega
    ·simp only [c,if_false]; exact c4 _ (.inr ⟨a,by omega,rfl⟩)
  have g2':MatAt (H2.set p (.arr [[.rsl (H.length+1) 0 (i+1)]])) (.rsl (H.length+1) 0 (i+1)) (i+1) (kw n) (H.length+1) (fun a=>if a=i then H.length else I a) (fun _=>wR (wl (kw n) 0)):=
   (g2.congr fun a _=>by simp).frame fun q hq=>List.getElem?_set_ne (by have:=hnew q hq; omega)
  obtain ⟨H',v',T',I',r1,r2⟩:=New_loop n p hn H0 (i+1) (by omega) (H2.set p (.arr [[.rsl (H.length+1) 0 (i+1)]])) (.rsl (H.length+1) 0 (i+1)) (H.length+1) _
   (fun q hq=>by rw [List.getElem?_set_ne (by omega),g4 q (by omega) (fun hc=>by have:=c4 q hc; omega),c1 q hq]) (by simp [hp2l]) g2' hnew
  refine ⟨H',v',T',I',?_,r2⟩
  rw [← r1,← hB]
  conv=>lhs; rw [s_loop_at hB]
  have hk:IntKind.i64.wrap ((n:Int)+64)=((n+64:Nat):Int):=by rw [wrap_i64 (by omega) (by omega)]; omega
  have hk2:IntKind.i64.wrap (((n+64:Nat):Int) - 1)=((n+63:Nat):Int):=by rw [wrap_i64 (by omega) (by omega)]; omega
  have hk3:IntKind.i64.wrap (((n+63:Nat):Int) / 64)=((kw n:Nat):Int):=by rw [wrap_i64 (by omega) (by omega)]; unfold kw; omega
  have hk3':IntKind.i64.wrap (((n+63:Nat):Int).tdiv 64)=((kw n:Nat):Int):=by rw [Int.tdiv_eq_ediv_of_nonneg (Int.natCast_nonneg _)]; exact hk3
  have hk4:kw n * 8≤maxB:=by have:=kw_le hn; unfold maxB; omega
  have hk5:(kw n:Int)≤9223372036854775807:=by have:=kw_le hn; omega
  rw [wl_zero] at g1
  generalize kw n=k at *
  generalize n+64=n64 at *
  generalize n+63=n63 at *
  simp [ir_rel_Newl0,go_sem,h,e3,c2,hpl,hg,hk,hk2,hk3,hk3',hk4,hk5,litParts,g1,hp2,hp2l,hgp2,-Int.natCast_add,-Int.natCast_ediv,-List.length_append]
 ·obtain rfl:i=n:=by omega
  refine ⟨H,v,T,I,?_,c1,c2,c3,c4⟩
  rw [← hB,s_loop_at hB]
  simp [ir_rel_Newl0,go_sem]
termination_by n - i
theorem New_ok (n:Nat) (hn:n≤512) (H:List Vm.Obj):∃ H' v T I,evI pg .heap n_rel_New [.int .i64 (n:Int)] H=some (.ptr H.length 0 0,H')∧RelAt H' H.length v n T I (fun _=>0)∧(∀ q,q<H.length→H'[q]?=H[q]?) ∧
  (∀ q,mft n T I q→H.length<q):=by
 obtain ⟨H',v',T',I',r1,r2,r3,r4,r5⟩:=New_loop n H.length hn H 0 (by omega) (H ++ [.arr [[.nils]]]) .nils 0 (fun _=>0) (fun q hq=>List.getElem?_append_left hq) (by simp)
  ⟨.inl ⟨rfl,rfl⟩,fun a ha=>by omega,fun a ha=>by omega,fun a b ha=>by omega,fun a ha=>by omega⟩ (fun q hq=>by rcases hq with ⟨h0,_⟩ | ⟨a,ha,_⟩<;>omega)
 rw [Int.natCast_zero] at r1
 refine ⟨H',v',T',I',?_,⟨r3,r4,fun hc=>by have:=r5 _ hc; omega,fun _ _=>Nat.two_pow_pos n,hn⟩,r2,r5⟩
 rw [s_fn fn_rel_New]
 have h0:¬ (512:Int)<(n:Int):=by omega
 simp [ir_rel_New,go_sem,h0,r1]
section
variable {p:Nat} {v:V} {n T:Nat} {I:Nat→Nat} {W U:Nat→Nat}
end
/-! ### tables -/
def bR (n:Nat) (f:Nat→Bool):List (List V):=(List.range n).map fun b=>[.bool (f b)]
theorem bR_len (n:Nat) (f:Nat→Bool):(bR n f).length=n:=by simp [bR]
theorem bR_el (n:Nat) (f:Nat→Bool) (i:Nat) (h:i<(bR n f).length):(bR n f)[i]=[.bool (f i)]:=by simp [bR]
theorem bR_get {n:Nat} (f:Nat→Bool) {i:Nat} (h:i<n):(bR n f)[i]?=some [.bool (f i)]:=by
 rw [List.getElem?_eq_getElem (by rw [bR_len]; exact h),bR_el]
theorem bR_set (n:Nat) (f:Nat→Bool) (i:Nat) (x:Bool):(bR n f).set i [.bool x]=bR n (fun j=>if j=i then x else f j):=by
 apply List.ext_getElem
 ·simp [bR]
 ·intro j h1 h2
  rw [List.getElem_set,bR_el,bR_el]
  by_cases c:i=j
  ·subst c; simp
  ·have:¬ j=i:=fun e=>c e.symm
   simp [c,this]
theorem bR_congr {n:Nat} {f g:Nat→Bool} (h:∀ j,j<n→f j=g j):bR n f=bR n g:=by
 unfold bR
 apply List.map_congr_left
 intro j hj
 rw [h j (List.mem_range.1 hj)]
theorem bR_rep (n:Nat):bR n (fun _=>false)=List.replicate n [.bool false]:=by simp [bR,List.map_const']
def TabAt (H:List Vm.Obj) (v:V) (n T:Nat) (I:Nat→Nat) (f:Nat→Nat→Bool):Prop:=MatAt H v n n T I (fun a=>bR n (f a))
structure TabV (tv:V) (n:Nat) (f:Nat→Nat→Bool):Prop where
 sl:∃ rows,Sl tv rows∧rows.length=n∧∀ (a:Nat) (h:a<rows.length),∃ x,rows[a]=[x]∧Sl x (bR n (f a))
theorem TabV.is {tv:V} {n:Nat} {f:Nat→Nat→Bool} (h:TabV tv n f):isS tv=true:=by
 obtain ⟨rows,h1,_⟩:=h.sl; exact h1.is
theorem TabV.len {tv:V} {n:Nat} {f:Nat→Nat→Bool} (h:TabV tv n f):(rows tv).length=n:=by
 obtain ⟨rows,h1,h2,_⟩:=h.sl; rw [h1.rows]; exact h2
section
variable {t:Bool} {rv tv:V} {n:Nat} {W:Nat→Nat} (hr:RelV rv n W) (ht:TabV tv n (fun a b=>(W a).testBit b))
include hr ht
end
def okP (n:Nat) (q:Int × Int):Bool:=decide (0≤q.1∧q.1<n∧0≤q.2∧q.2<n)
def addP (n:Nat) (W:Nat→Nat) (q:Int × Int):Nat→Nat:=if okP n q=true then fun a=>if a=q.1.toNat then W a ||| 2 ^ q.2.toNat else W a else W
structure Bth (H:List Vm.Obj) (b0 p:Nat) (v:V) (n T:Nat) (I:Nat→Nat) (v2:V) (T2:Nat) (I2:Nat→Nat) (W:Nat→Nat):Prop where
 rel:RelAt H p v n T I W
 tab:TabAt H v2 n T2 I2 (fun a b=>(W a).testBit b)
 dis:∀ q,rft p n T I q→¬ mft n T2 I2 q
 new:∀ q,rft p n T I q∨mft n T2 I2 q→b0≤q
theorem or_bit (W b j:Nat):(W ||| 2 ^ b).testBit j=if j=b then true else W.testBit j:=by
 rw [Nat.testBit_or,Nat.testBit_two_pow]
 by_cases c:j=b
 ·subst c; simp
 ·have:¬ b=j:=fun e=>c e.symm
  simp [c,this]
theorem Bth.add {H:List Vm.Obj} {b0 p:Nat} {v:V} {n T:Nat} {I:Nat→Nat} {v2:V} {T2:Nat} {I2:Nat→Nat} {W:Nat→Nat} (h:Bth H b0 p v n T I v2 T2 I2 W) {a b:Nat} (ha:a<n) (hb:b<n):
  Bth ((H.set (I a) (.arr (wR (wl (kw n) (W a ||| 2 ^ b))))).set (I2 a) (.arr ((bR n (W a).testBit).set b [.bool true]))) b0 p v n T I v2 T2 I2 (addP n W ((a:Int),(b:Int))):=by
 have hok:okP n ((a:Int),(b:Int))=true:=by simp [okP,ha,hb]
 have hW:addP n W ((a:Int),(b:Int))=fun c=>if c=a then W a ||| 2 ^ b else W c:=by
  unfold addP
  rw [if_pos hok]
  funext c
  simp only [Int.toNat_natCast]
  by_cases e:c=a
  ·subst e; rfl
  ·simp [e]
 rw [hW]
 have r1:=h.rel.set ha (W a ||| 2 ^ b) (bit_lt (h.rel.lt a ha) hb)
 have n1:∀ c,c<n→¬ rft p n T I (I2 c):=fun c hc hq=>h.dis _ hq (.inr ⟨c,hc,rfl⟩)
 have r2:=r1.frame (H':=(H.set (I a) (.arr (wR (wl (kw n) (W a ||| 2 ^ b))))).set (I2 a) (.arr ((bR n (W a).testBit).set b [.bool true]))) fun q hq=>List.getElem?_set_ne (fun e=>n1 a ha (by rw [e]; exact hq))
 refine ⟨r2,?_,h.dis,h.new⟩
 have t1:TabAt (H.set (I a) (.arr (wR (wl (kw n) (W a ||| 2 ^ b))))) v2 n T2 I2 (fun a b=>(W a).testBit b):=
  MatAt.frame h.tab fun q hq=>List.getElem?_set_ne (fun e=>h.dis (I a) (.inr (.inr ⟨a,ha,rfl⟩)) (by rw [e]; exact hq))
 have t2:=MatAt.set t1 ha ((bR n (W a).testBit).set b [.bool true]) (by rw [List.length_set,bR_len])
 refine MatAt.congr t2 fun c hc=>?_
 by_cases e:c=a
 ·subst e
  simp only [if_true]
  rw [bR_set]
  apply bR_congr
  intro j hj
  exact or_bit _ _ _
 ·simp only [e,if_false]
section
variable (lv:V) (l:List (Int × Int)) (hl:Sl lv (pR l)) (hlen:l.length≤400)
include hl hlen
end
theorem tab {f n:Nat} (r:Nat→V) (h:(List.range n).map (fun k:Nat=>evF (pgL irL) 60 .val f [.int .i64 (k:Int)] [])=(List.range n).map fun k:Nat=>some (r k,[])) (k:Nat) (hk:k<n):
  evI pg .val f [.int .i64 (k:Int)] []=some (r k,[]):=
 closed irL_ok 60 ((List.map_inj_left (f:=fun k:Nat=>evF (pgL irL) 60 .val f [.int .i64 (k:Int)] []) (g:=fun k:Nat=>some (r k,[]))).1 h k (List.mem_range.2 hk))
def srtL:List Nat:=[0,1,1,2,2,3,3,3,3,3,3,4,4,4,4,4,4,4,5,5,5,5,6,6,6,6,6,6,6,6,6,6,6,6,6,7,7,7,7,7,7,7,7,7,7,7,7,7,7,7,8,8,9,9,10,10,11,11,12,12,12,12,12,12,12,12,12,12,12,12,12,12,12,12,12,12]
def szL:List Nat:=[0,0,0,0,0,0,0,0,0,0,0,1,2,4,8,1,2,4,1,2,4,8,0,0,0,0,0,0,0,0,0,0,0,0,0,0,0,0,0,0,0,0,0,0,0,0,0,0,0,0,0,0,0,0,4,8,4,8,4,4,4,4,4,4,4,4,4,8,8,8,8,8,8,8,8,8]
def srt (k:Nat):Nat:=srtL.getD k 0
def sz (k:Nat):Nat:=szL.getD k 0
theorem Sort_tab (k:Nat) (h:k<76):evI pg .val n_ops_Sort [.int .i64 (k:Int)] []=some (.int .i64 (srt k:Nat),[]):=tab (fun k=>.int .i64 (srt k:Nat)) (by kernel_rfl) k h
theorem Size_tab (k:Nat) (h:k<76):evI pg .val n_ops_Size [.int .i64 (k:Int)] []=some (.int .i64 (sz k:Nat),[]):=tab (fun k=>.int .i64 (sz k:Nat)) (by kernel_rfl) k h
def noOp (op:Int):Prop:=op<1∨75<op
theorem op_cases {op:Int}:noOp op∨∃ k:Nat,op=(k:Int)∧1≤k∧k<76:=by
 by_cases h:noOp op
 ·exact .inl h
 ·unfold noOp at h
  exact .inr ⟨op.toNat,by omega,by omega,by omega⟩
section
variable {op:Int} (h:noOp op)
include h
theorem Sort_out:evI pg .val n_ops_Sort [.int .i64 op] []=some (.int .i64 0,[]):=by
 unfold noOp at h
 rw [s_fn fn_ops_Sort]
 by_cases c:op<1
 ·simp [ir_ops_Sort,go_sem,c]
 ·have c2:75<op:=by omega
  simp [ir_ops_Sort,go_sem,c,c2]
theorem Size_out:evI pg .val n_ops_Size [.int .i64 op] []=some (.int .i64 0,[]):=by
 have hS:=Sort_out h
 unfold noOp at h
 have o11:¬ op=11:=by omega
 have o12:¬ op=12:=by omega
 have o13:¬ op=13:=by omega
 have o14:¬ op=14:=by omega
 have o15:¬ op=15:=by omega
 have o16:¬ op=16:=by omega
 have o17:¬ op=17:=by omega
 have o18:¬ op=18:=by omega
 have o19:¬ op=19:=by omega
 have o20:¬ op=20:=by omega
 have o21:¬ op=21:=by omega
 have o54:¬ op=54:=by omega
 have o55:¬ op=55:=by omega
 have o56:¬ op=56:=by omega
 have o57:¬ op=57:=by omega
 rw [s_fn fn_ops_Size]
 simp [ir_ops_Size,go_sem,hS,o11,o12,o13,o14,o15,o16,o17,o18,o19,o20,o21,o54,o55,o56,o57]
end
/-! ### signed numbers -/
def b01 (b:Bool):Nat:=if b then 1 else 0
/-! ### to the left -/
end Go.Proofs.YtimiademofajeaaGreatDoor
