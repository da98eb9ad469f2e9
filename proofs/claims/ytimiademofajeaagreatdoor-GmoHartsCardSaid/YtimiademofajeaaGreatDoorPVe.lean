/- The machine, part Ve: a small evaluation of the given code, and that the given code comes to what it says (no claim; lemmas). -/
import Derived.Test.YtimiademofajeaaGreatDoorPVd
import Derived.Scope
set_option linter.unusedSimpArgs false
set_option linter.unusedVariables false
namespace Go.Vm
/-! ### constants -/
theorem cst1_ok {v:V} (h:v.cst1=true):v.flat=true∧∃ y,∀ (G:Gh) (w:World) (r:Nat),VR G w r v y:=by
 cases v<;>simp only [V.cst1,Bool.false_eq_true] at h<;>refine ⟨rfl,?_⟩
 ·exact ⟨_,fun _ _ _=>.bool _ _⟩
 ·exact ⟨_,fun _ _ _=>.int _ _ _⟩
 ·exact ⟨_,fun _ _ _=>.flt _ _⟩
 ·exact ⟨_,fun _ _ _=>.str _ _⟩
 ·exact ⟨_,fun _ _ _=>.nilp _⟩
 ·exact ⟨_,fun _ _ _=>.nils _⟩
 ·exact ⟨_,fun _ _ _=>.nilm _⟩
 ·exact ⟨_,fun _ _ _=>.nilf _⟩
 ·exact ⟨_,fun _ _ _=>.nili _⟩
theorem cst1_list:∀ {cs:List V},cs.all V.cst1=true→∃ ys:List Value,ys.length=cs.length∧∀ (j:Nat) (v:V),cs[j]?=some v→v.flat=true∧∀ (G:Gh) (w:World) (r:Nat),VR G w r v (ys.getD j undef)
 | [],_=>⟨[],rfl,by simp⟩
 | c :: cs,h=>by
  simp only [List.all_cons,Bool.and_eq_true] at h
  obtain ⟨ys,h1,h2⟩:=cst1_list h.2
  obtain ⟨h3,y,h4⟩:=cst1_ok h.1
  refine ⟨y :: ys,by simp [h1],fun j v hj=>?_⟩
  cases j with
  | zero=>simp at hj; subst hj; exact ⟨h3,fun G w r=>by simpa using h4 G w r⟩
  | succ j=>simpa using h2 j v (by simpa using hj)
theorem cst_ok {v:V} (h:v.cst=true):∃ y,∀ (G:Gh) (w:World) (r:Nat),VR G w r v y:=by
 cases v<;>first | (simp only [V.cst] at h; exact (cst1_ok h).2) | skip
 case fn f fs cs=>
  cases fs<;>cases cs<;>simp only [V.cst,V.cst1,Bool.false_eq_true] at h
  exact ⟨.func (.func f) #[] #[],fun G w r=>.fn r f [] [] #[] #[] rfl rfl (by simp) (by simp)⟩
 case agg cs=>
  simp only [V.cst] at h
  obtain ⟨ys,h1,h2⟩:=cst1_list h
  refine ⟨.agg ys.toArray,fun G w r=>.agg r cs ys.toArray (by simp [h1]) (fun v hv=>?_) (fun j v hv=>?_)⟩
  ·obtain ⟨j,hj⟩:=List.getElem?_of_mem hv
   exact (h2 j v hj).1
  ·have:=(h2 j v hv).2 G w (min r 1)
   simpa [Array.getD_eq_getD_getElem?,List.getD_eq_getElem?_getD] using this
theorem intsEq_eq:∀ (vs ws:List V),intsEq vs ws=true→vs=ws
 | [],[],_=>rfl
 | [],_ :: _,h=>by simp [intsEq] at h
 | v :: vs,[],h=>by unfold intsEq at h; split at h<;>simp_all
 | v :: vs,w :: ws,h=>by
  unfold intsEq at h
  split at h
  ·simp_all
  ·rename_i k n vs' k' n' ws' e1 e2
   simp only [Bool.and_eq_true,decide_eq_true_eq,beq_iff_eq] at h
   obtain ⟨rfl,rfl⟩:=List.cons.inj e1
   obtain ⟨rfl,rfl⟩:=List.cons.inj e2
   rw [h.1.1,h.1.2,intsEq_eq _ _ h.2]
  ·cases h
theorem gl_ok {gl:List (Nat × List V)} {v:V} {G:Gh} {w:World} (hg:GI gl G w) (h:v.isGl gl=true):v.loc=none∧∃ y,VR G w 2 v y:=by
 unfold V.isGl at h
 split at h
 ·obtain ⟨q,hq,he⟩:=List.any_eq_true.1 h
  rw [intsEq_eq _ _ he]
  exact ⟨rfl,_,(hg q hq).up (by omega)⟩
 ·cases h
theorem cst_loc {v:V} (h:v.cst=true):v.loc=none:=by
 cases v<;>first | rfl | (simp [V.cst,V.cst1] at h; done) | skip
/-! ### what is made of a list of operations -/
section
variable {P:Program} {tg:Nat→Option Tg} {h:Hint}
theorem cOps_get (codes:List Nat):∀ {os:List Oper} {i:Nat} {ds:List (Option Nat)} {r:List Op},cOps P tg h codes os i ds=some r →
  r.length=os.length∧∀ (j:Nat) (o:Oper),os[j]?=some o→r[j]?=some (if cGuard (ds ++ (os.take j).map (·.dst)) o.guard then ⟨(cOp P tg h (ds ++ (os.take j).map (·.dst)) (codes.getD (i+j) 0) o).getD .bad,o.guard⟩ else ⟨.bad,none⟩)
 | [],i,ds,r,hr=>by simp [cOps] at hr; subst hr; simp
 | o :: os,i,ds,r,hr=>by
  simp only [cOps] at hr
  split at hr
  ·cases hr
  ·rename_i r' hr'
   cases hr
   obtain ⟨h1,h2⟩:=cOps_get codes hr'
   refine ⟨by simp [h1],fun j o' hj=>?_⟩
   cases j with
   | zero=>simp at hj; subst hj; simp
   | succ j=>
    have:=h2 j o' (by simpa using hj)
    simp only [List.getElem?_cons_succ,this,List.take_succ_cons,List.map_cons,List.append_assoc,List.singleton_append]
    rw [show i+1+j=i+(j+1) by omega]
end
/-! ### what stands ahead -/
theorem fold_bits (X:List Nat) (j:Nat):∀ (l:List Edge) (s:Nat),(l.foldl (fun s e=>if Region.binds .any e then s ||| 2 ^ e.on ||| X.getD e.on 0 else s) s).testBit j=true →
  s.testBit j=true∨∃ e∈l,Region.binds .any e=true∧(j=e.on∨(X.getD e.on 0).testBit j=true)
 | [],s,h=>.inl h
 | e :: l,s,h=>by
  simp only [List.foldl_cons] at h
  rcases fold_bits X j l _ h with h1 | ⟨e',h1,h2⟩
  ·split at h1
   ·rename_i hb
    rw [Nat.testBit_or,Nat.testBit_or,Bool.or_eq_true,Bool.or_eq_true,Nat.testBit_two_pow] at h1
    rcases h1 with (h1 | h1) | h1
    ·exact .inl h1
    ·exact .inr ⟨e,by simp,hb,.inl (by simpa using (of_decide_eq_true h1).symm)⟩
    ·exact .inr ⟨e,by simp,hb,.inr h1⟩
   ·exact .inl h1
  ·exact .inr ⟨e',List.mem_cons_of_mem _ h1,h2⟩
theorem befL_get:∀ (os:List Oper) (acc:List Nat),(∀ k,k<acc.length→(befL os acc)[k]?=acc[k]?) ∧
  ∀ (n:Nat) (o:Oper),os[n]?=some o→∀ j,((befL os acc).getD (acc.length+n) 0).testBit j=true →
   ∃ e∈o.after,Region.binds .any e=true∧(j=e.on∨((befL os acc).getD e.on 0).testBit j=true)
 | [],acc=>⟨fun _ _=>rfl,by simp⟩
 | o :: os,acc=>by
  obtain ⟨h1,h2⟩:=befL_get os (acc ++ [o.after.toList.foldl (fun s e=>if Region.binds .any e then s ||| 2 ^ e.on ||| acc.getD e.on 0 else s) 0])
  have keep:∀ k,k<acc.length→(befL (o :: os) acc)[k]?=acc[k]?:=fun k hk=>by
   simp only [befL]
   rw [h1 k (by simp; omega),List.getElem?_append_left hk]
  refine ⟨keep,fun n o' hn j hj=>?_⟩
  cases n with
  | zero=>
   simp at hn; subst hn
   have e1:(befL (o :: os) acc).getD (acc.length+0) 0=o.after.toList.foldl (fun s e=>if Region.binds .any e then s ||| 2 ^ e.on ||| acc.getD e.on 0 else s) 0:=by
    have e0:=h1 acc.length (by simp)
    rw [List.getElem?_append_right (by simp)] at e0
    simp only [Nat.sub_self,List.getElem?_cons_zero] at e0
    exact (List.getD_eq_getElem?_getD).trans (by
     show Option.getD ((befL os (acc ++ [_]))[acc.length]?) 0=_
     rw [e0]; rfl)
   rw [e1] at hj
   rcases fold_bits acc j _ _ hj with h3 | ⟨e,h3,h4,h5⟩
   ·simp at h3
   ·refine ⟨e,by simpa using h3,h4,h5.imp id fun h5=>?_⟩
    by_cases hk:e.on<acc.length
    ·rw [List.getD_eq_getElem?_getD,keep _ hk,← List.getD_eq_getElem?_getD]; exact h5
    ·rw [List.getD_eq_getElem?_getD,List.getElem?_eq_none (by omega)] at h5
     simp at h5
  | succ n=>
   have:=h2 n o' (by simpa using hn) j (by
    rw [show (acc ++ [o.after.toList.foldl (fun s e=>if Region.binds .any e then s ||| 2 ^ e.on ||| acc.getD e.on 0 else s) 0]).length+n=acc.length+(n+1) by simp; omega]
    exact hj)
   exact this
theorem dup_two:∀ {r:List Op} {i j:Nat} {p p':Op} {q:Bool × Nat},dupFree (r.filterMap fun p=>resets p.o)=true→r[i]?=some p→r[j]?=some p'→resets p.o=some q→resets p'.o=some q→i=j
 | [],i,j,p,p',q,_,h1,_,_,_=>by simp at h1
 | a :: r,i,j,p,p',q,hd,h1,h2,h3,h4=>by
  have tail:dupFree (r.filterMap fun p=>resets p.o)=true∧∀ q,resets a.o=some q→¬ (∃ (k:Nat) (b:Op),r[k]?=some b∧resets b.o=some q):=by
   rw [List.filterMap_cons] at hd
   cases hq:resets a.o with
   | none=>rw [hq] at hd; exact ⟨hd,fun q h=>by cases h⟩
   | some q'=>
    rw [hq] at hd
    simp only [dupFree,Bool.and_eq_true,Bool.not_eq_true'] at hd
    refine ⟨hd.2,fun q h ⟨k,b,hk,hb⟩=>?_⟩
    have hqq:q'=q:=Option.some.inj h
    have this:q∈r.filterMap fun p=>resets p.o:=List.mem_filterMap.2 ⟨b,List.mem_of_getElem? hk,hb⟩
    have h1:=hd.1
    rw [hqq,List.contains_iff_mem.2 this] at h1
    cases h1
  cases i with
  | zero=>
   cases j with
   | zero=>rfl
   | succ j=>simp at h1; subst h1; exact absurd ⟨j,p',by simpa using h2,h4⟩ (tail.2 q h3)
  | succ i=>
   cases j with
   | zero=>simp at h2; subst h2; exact absurd ⟨i,p,by simpa using h1,h3⟩ (tail.2 q h4)
   | succ j=>exact congrArg (·+1) (dup_two (i:=i) (j:=j) tail.1 (by simpa using h1) (by simpa using h2) h3 h4)
/-! ### where a region stands -/
structure RI (h:Hint) (ds:List (Option Nat)) (r:List Op) (nt:Nat) (ss:List V) (G0:Gh) (w0:World) (m0:Mem) (S:Nat→Bool) (rs:Nat→V) (G:Gh) (w:World) (m:Mem) (a:Act):Prop where
 mr:MR G w m
 gi:GI h.gl G w
 sz:nt≤a.tmps.size
 df:a.defers=[]
 le:Le G0 w0 G w
 fr:Fr G0 m0 w0 G m w
 wr:∀ t i,ds[i]?=some (some t)→S i=true→(∀ j,i<j→ds[j]?=some (some t)→S j=false)→VR G w 2 (rs i) (a.tmps.getD t undef)
 sl:∀ t s,posIn t h.slots 0=some s→(∀ j,ds[j]?=some (some t)→S j=false)→VR G w 2 (ss.getD s .undef) (a.tmps.getD t undef)
 lr:∀ i q,S i=true→(rs i).loc=some q→(∃ (i':Nat) (p':Op),r[i']?=some p'∧resets p'.o=some q)→∃ (i':Nat) (p':Op),S i'=true∧r[i']?=some p'∧resets p'.o=some q
 pr:∀ i,S i=true→∃ y,VR G w 2 (rs i) y
 ps:∀ s,∃ y,VR G w 2 (ss.getD s .undef) y
def ins (S:Nat→Bool) (i:Nat):Nat→Bool:=fun j=>if j=i then true else S j
structure RD (P:Program) (tg:Nat→Option Tg) (h:Hint) (nt:Nat) (codes:List Nat) (ops:Array Oper) (r:List Op):Prop where
 made:cOps P tg h codes ops.toList 0 []=some r
 ck:ckOps h r=true
 df:dupFree (r.filterMap fun p=>resets p.o)=true
 nt:∀ (i t:Nat),(ops.toList.map (·.dst))[i]?=some (some t)→t<nt
section
variable {P:Program} {tg:Nat→Option Tg} {h:Hint} {nt:Nat} {codes:List Nat} {ops:Array Oper} {r:List Op} {call:CallT} {ss:List V} {G0:Gh} {w0:World} {m0:Mem}
 {S:Nat→Bool} {rs:Nat→V} {G:Gh} {w:World} {m:Mem} {a:Act} {Q:Exit→Act→World→Prop}
theorem Act.put_getD (a:Act) (t t':Nat) (x:Value) (ht:t<a.tmps.size):(a.put (some t) x).tmps.getD t' undef=if t'=t then x else a.tmps.getD t' undef:=by
 simp only [Act.put,Array.getD_eq_getD_getElem?]
 by_cases h:t'=t
 ·subst h; simp [ht]
 ·rw [if_neg h,Array.getElem?_setIfInBounds_ne (Ne.symm h)]
theorem Act.put_size (a:Act) (d:Option Nat) (x:Value):(a.put d x).tmps.size=a.tmps.size:=by cases d<;>simp [Act.put]
theorem Act.put_defers' (a:Act) (d:Option Nat) (x:Value):(a.put d x).defers=a.defers:=by cases d<;>simp [Act.put]
theorem RI.put {i:Nat} {o:Oper} {p:Op} {v:V} {x:Value} {G':Gh} {w':World} {m':Mem} (rd:RD P tg h nt codes ops r) (ri:RI h (ops.toList.map (·.dst)) r nt ss G0 w0 m0 S rs G w m a)
  (hls:∀ s q,(ss.getD s .undef).loc=some q→¬ ∃ (i':Nat) (p':Op),r[i']?=some p'∧resets p'.o=some q)
  (ho:ops[i]?=some o) (hp:r[i]?=some p) (hS:S i=false) (hn:∀ t,o.dst=some t→∀ j,(ops.toList.map (·.dst))[j]?=some (some t)→j≠i→(S j=true↔j<i))
  (hlv:∀ q,v.loc=some q→resets p.o=some q∨(∃ j,S j=true∧(rs j).loc=some q)∨∃ s,(ss.getD s .undef).loc=some q)
  (h1:Le G w G' w') (h2:LeL G G' (KR p.o)) (h3:MR G' w' m') (h4:VR G' w' 2 v x) (h5:Fr G m w G' m' w'):
  RI h (ops.toList.map (·.dst)) r nt ss G0 w0 m0 (ins S i) (upd rs i v) G' w' m' (a.put o.dst x) where
 mr:=h3
 gi:=ri.gi.mono h1
 sz:=by rw [Act.put_size]; exact ri.sz
 df:=by rw [Act.put_defers']; exact ri.df
 le:=ri.le.trans h1
 fr:=ri.fr.trans h5
 wr t i' hi' hSi hmax:=by
  have hdi:(ops.toList.map (·.dst))[i]?=some o.dst:=by simp [ho]
  by_cases hd:o.dst=some t
  ·have hii:i'=i:=by
    by_cases e:i'=i
    ·exact e
    ·have hS':S i'=true:=by simpa [ins,e] using hSi
     have hlt:=(hn t hd i' hi' e).1 hS'
     have:=hmax i hlt (by rw [hdi,hd])
     simp [ins] at this
   subst hii
   rw [upd_same,hd,Act.put_getD _ _ _ _ (Nat.lt_of_lt_of_le (rd.nt i' t (by rw [hdi,hd])) ri.sz),if_pos rfl]
   exact h4
  ·have hii:i'≠i:=fun e=>by subst e; rw [hdi] at hi'; exact hd (Option.some.inj hi')
   have hS':S i'=true:=by simpa [ins,hii] using hSi
   have old:=ri.wr t i' hi' hS' fun j hj hdj=>by
    have:=hmax j hj hdj
    unfold ins at this
    split at this
    ·cases this
    ·exact this
   have e1:(a.put o.dst x).tmps.getD t undef=a.tmps.getD t undef:=by
    cases hdo:o.dst with
    | none=>rfl
    | some d=>rw [Act.put_getD _ _ _ _ (Nat.lt_of_lt_of_le (rd.nt i d (by rw [hdi,hdo])) ri.sz),if_neg (fun e=>hd (by rw [hdo,e]))]
   rw [upd_ne _ _ hii,e1]
   refine old.mono h1 h2 fun q hq hk=>?_
   obtain ⟨i'',p'',g1,g2,g3⟩:=ri.lr i' q hS' hq ⟨i,p,hp,hk⟩
   have:=dup_two rd.df g2 hp g3 hk
   subst this
   rw [hS] at g1; cases g1
 sl t s hs hno:=by
  have hdi:(ops.toList.map (·.dst))[i]?=some o.dst:=by simp [ho]
  have hd:o.dst≠some t:=fun hd=>by
   have:=hno i (by rw [hdi,hd])
   simp [ins] at this
  have old:=ri.sl t s hs fun j hdj=>by
   have:=hno j hdj
   unfold ins at this
   split at this
   ·cases this
   ·exact this
  have e1:(a.put o.dst x).tmps.getD t undef=a.tmps.getD t undef:=by
   cases hdo:o.dst with
   | none=>rfl
   | some d=>rw [Act.put_getD _ _ _ _ (Nat.lt_of_lt_of_le (rd.nt i d (by rw [hdi,hdo])) ri.sz),if_neg (fun e=>hd (by rw [hdo,e]))]
  rw [e1]
  exact old.mono h1 h2 fun q hq hk=>hls s q hq ⟨i,p,hp,hk⟩
 lr i' q hSi hq hk:=by
  have ext:(∃ (i'':Nat) (p':Op),S i''=true∧r[i'']?=some p'∧resets p'.o=some q)→∃ (i':Nat) (p':Op),ins S i i'=true∧r[i']?=some p'∧resets p'.o=some q:=fun ⟨i'',p',g1,g2⟩=>
   ⟨i'',p',by unfold ins; split<;>first | rfl | exact g1,g2⟩
  by_cases e:i'=i
  ·subst e
   rw [upd_same] at hq
   rcases hlv q hq with g | ⟨j,g1,g2⟩ | ⟨s,g⟩
   ·exact ⟨i',p,by simp [ins],hp,g⟩
   ·exact ext (ri.lr j q g1 g2 hk)
   ·exact absurd hk (hls s q g)
  ·rw [upd_ne _ _ e] at hq
   exact ext (ri.lr i' q (by simpa [ins,e] using hSi) hq hk)
 pr i' hSi:=by
  by_cases e:i'=i
  ·subst e; rw [upd_same]; exact ⟨x,h4⟩
  ·rw [upd_ne _ _ e]
   have hS':S i'=true:=by simpa [ins,e] using hSi
   obtain ⟨y,hy⟩:=ri.pr i' hS'
   refine ⟨y,hy.mono h1 h2 fun q hq hk=>?_⟩
   obtain ⟨i'',p'',g1,g2,g3⟩:=ri.lr i' q hS' hq ⟨i,p,hp,hk⟩
   have:=dup_two rd.df g2 hp g3 hk
   subst this
   rw [hS] at g1; cases g1
 ps s:=by
  obtain ⟨y,hy⟩:=ri.ps s
  exact ⟨y,hy.mono h1 h2 fun q hq hk=>hls s q hq ⟨i,p,hp,hk⟩⟩
theorem yielded_at {t g:Nat} {og:Oper} {tmps:Array Value} (h1:ops[g]?=some og) (h2:og.dst=some t) (ht:t<tmps.size):yielded ops tmps g=match tmps.getD t undef with
  | .bool b=>some b
  | _=>none:=by
 unfold yielded
 simp only [h1,h2,Option.bind_some]
 have e:tmps[t]?=some (tmps.getD t undef):=by simp [ht]
 rw [e]
 cases tmps.getD t undef<;>rfl
theorem step_ok {i:Nat} {o:Oper} {p:Op} {v:V} {m':Mem} (hT:TgOK P tg) (hE:EntOK P call) (hV:SndV P h.gl call) (hH:SndH P h.gl call) (hN:CallNL call)
  (rd:RD P tg h nt codes ops r) (ri:RI h (ops.toList.map (·.dst)) r nt ss G0 w0 m0 S rs G w m a)
  (hls:∀ s q,(ss.getD s .undef).loc=some q→¬ ∃ (i':Nat) (p':Op),r[i']?=some p'∧resets p'.o=some q)
  (ho:ops[i]?=some o) (hp:r[i]?=some p) (hS:S i=false) (hn:∀ t∈namesO h (ops.toList.map (·.dst)) i p,∀ j,(ops.toList.map (·.dst))[j]?=some (some t)→j≠i→(S j=true↔j<i))
  (hr:∀ j∈refsO p,S j=true) (hst:stp call ss rs m p=some (v,m')) {K:Act→World→Prop}
  (hK:∀ x G' w',RI h (ops.toList.map (·.dst)) r nt ss G0 w0 m0 (ins S i) (upd rs i v) G' w' m' (a.put o.dst x)→K (a.put o.dst x) w'):wpOp P ops Q i K a w:=by
 have hil:i<r.length:=(List.getElem?_eq_some_iff.1 hp).1
 have hdi:(ops.toList.map (·.dst))[i]?=some o.dst:=by simp [ho]
 have hnd:∀ t,o.dst=some t→∀ j,(ops.toList.map (·.dst))[j]?=some (some t)→j≠i→(S j=true↔j<i):=fun t ht=>hn t (by
  simp only [namesO,List.mem_append]
  refine .inl (.inl ?_)
  rw [List.getD_eq_getElem?_getD,hdi,ht]; simp)
 have hpo:=(cOps_get codes rd.made).2 i o (by simpa using ho)
 rw [hp] at hpo
 simp only [List.nil_append,Nat.zero_add,Option.some.injEq,List.map_take] at hpo
 generalize hds:(ops.toList.map (·.dst))=ds at *
 have htk:∀ (j t:Nat),lastIx t (ds.take i) 0=some j→ds[j]?=some (some t)∧j<i∧∀ j',j<j'→j'<i→ds[j']?≠some (some t):=by
  intro j t hj
  obtain ⟨_,a1,a2,a3⟩:=lastIx_some hj
  simp only [Nat.sub_zero,Nat.zero_add,List.length_take] at a1 a2 a3
  have hji:j<i:=by omega
  refine ⟨by rwa [List.getElem?_take_of_lt hji] at a2,hji,fun j' h1 h2 h3=>?_⟩
  have hl:=(List.getElem?_eq_some_iff.1 h3).1
  exact a3 j' h1 (by omega) (by rw [List.getElem?_take_of_lt h2]; exact h3)
 have val_r:∀ (t j:Nat),lastIx t (ds.take i) 0=some j→(∀ j',ds[j']?=some (some t)→j'≠i→(S j'=true↔j'<i))→VR G w 2 (rs j) (a.tmps.getD t undef):=by
  intro t j hj hsep
  obtain ⟨b1,b2,b3⟩:=htk j t hj
  refine ri.wr t j b1 ((hsep j b1 (by omega)).2 b2) fun j' hj' hd'=>?_
  by_cases e:j'=i
  ·rw [e]; exact hS
  ·by_cases hlt:j'<i
   ·exact absurd hd' (b3 j' hj' hlt)
   ·cases hq:S j' with
    | false=>rfl
    | true=>exact absurd ((hsep j' hd' e).1 hq) hlt
 cases hg:cGuard (ds.take i) o.guard with
 | false=>
  rw [hg] at hpo
  subst hpo
  simp [stp,wantsF,evO] at hst
 | true=>
  rw [hg] at hpo
  simp only [if_true] at hpo
  have hgu:p.g=o.guard:=by rw [hpo]
  have hoo:p.o=(cOp P tg h (ds.take i) (codes.getD i 0) o).getD .bad:=by rw [hpo]
  have hwant:∀ b,wantsF rs p.g=some b→Region.wanted o (yielded ops a.tmps)=b:=by
   intro b hb
   rw [hgu] at hb
   unfold Region.wanted
   cases hgo:o.guard with
   | none=>rw [hgo] at hb; simp only [wantsF,Option.some.injEq] at hb; exact hb
   | some q=>
    obtain ⟨g,want⟩:=q
    rw [hgo] at hb hg
    simp only [cGuard] at hg
    split at hg
    ·rename_i t ht
     simp only [beq_iff_eq] at hg
     obtain ⟨b1,b2,b3⟩:=htk g t hg
     have hsep:=hn t (by
      simp only [namesO,List.mem_append]
      right
      rw [hgu,hgo]
      simp only [List.getD_eq_getElem?_getD,b1]
      simp)
     have pic:=val_r t g hg hsep
     have hgop:∃ og,ops[g]?=some og∧og.dst=some t:=by
      have b1':=b1
      rw [← hds] at b1'
      simp only [List.getElem?_map,Option.map_eq_some_iff,Array.getElem?_toList] at b1'
      exact b1'
     obtain ⟨og,e1,e2⟩:=hgop
     have hy:=yielded_at (tmps:=a.tmps) e1 e2 (Nat.lt_of_lt_of_le (rd.nt g t (by rw [hds]; exact b1)) ri.sz)
     simp only [wantsF] at hb
     split at hb
     ·rename_i c hc
      rw [hc] at pic
      rw [pic.bool_inv] at hy
      simp only at hy
      show (yielded ops a.tmps g == some want)=b
      rw [hy]
      simp only [Option.some.injEq] at hb
      rw [← hb]
      cases c<;>cases want<;>rfl
     ·rename_i hc
      rw [hc] at pic
      have:a.tmps.getD t undef=undef:=by
       generalize a.tmps.getD t undef=z at pic
       cases pic; rfl
      rw [this] at hy
      have hy':yielded ops a.tmps g=none:=hy
      show (yielded ops a.tmps g == some want)=b
      rw [hy']
      simp only [Option.some.injEq] at hb
      rw [← hb]; rfl
     ·cases hb
    ·cases hg
  unfold wpOp
  simp only [ho]
  simp only [stp] at hst
  split at hst
  ·cases hst
  ·rename_i hw
   cases hst
   rw [hwant _ hw]
   simp only [Bool.false_eq_true,if_false]
   refine hK undef G w ?_
   have ri0:RI h (ops.toList.map (·.dst)) r nt ss G0 w0 m0 S rs G w m a:=by rw [hds]; exact ri
   have:=RI.put rd ri0 (i:=i) (o:=o) (p:=p) (v:=.skp) (x:=undef) (G':=G) (w':=w) (m':=m)
   rw [hds] at this
   exact this hls ho hp hS hnd (fun q hq=>by cases hq) (.refl _ _) (.refl _ _) ri.mr (.skp 2) (.refl _ _ _)
  ·rename_i hw
   rw [hwant _ hw]
   simp only [if_true]
   left
   cases hc:cOp P tg h (ds.take i) (codes.getD i 0) o with
   | none=>
    rw [hc] at hoo
    rw [hoo] at hst
    simp [evO] at hst
   | some oo=>
    rw [hc] at hoo
    simp only [Option.getD_some] at hoo
    rw [hoo] at hst
    have hck:=rd.ck
    simp only [ckOps,List.all_eq_true] at hck
    have hck':=hck (p,i) (by rw [List.mem_zipIdx_iff_getElem?]; exact hp)
    simp only [Bool.and_eq_true,List.all_eq_true] at hck'
    have names_r:∀ (j t:Nat),X.r j∈xsO oo→ds[j]?=some (some t)→t∈namesO h ds i p:=by
     intro j t hx hj
     simp only [namesO,List.mem_append]
     left; right
     rw [hoo]
     exact List.mem_filterMap.2 ⟨.r j,hx,by simp [hj]⟩
    have names_s:∀ (s t:Nat),X.s s∈xsO oo→h.slots[s]?=some t→t∈namesO h ds i p:=by
     intro j t hx hj
     simp only [namesO,List.mem_append]
     left; right
     rw [hoo]
     exact List.mem_filterMap.2 ⟨.s j,hx,by simp [hj]⟩
    let ρ':X→V:=fun x=>match x with
     | .c v=>v
     | x=>open Classical in if x∈xsO oo then lkF rs ss x else .undef
    have hρ':∀ x∈xsO oo,lkF rs ss x=ρ' x:=by
     intro x hx
     cases x with
     | c v=>rfl
     | r j=>simp only [ρ']; rw [if_pos hx]
     | s j=>simp only [ρ']; rw [if_pos hx]
    have hst':evO call ρ' m oo=some (v,m'):=by rw [← evO_congr hρ']; exact hst
    have hpic:OpR h (ds.take i) G w ρ' a.eval:=by
     intro y x hx
     cases y with
     | const c=>
      simp only [cX] at hx
      split at hx
      ·rename_i u hu
       cases hx
       exact (cvV_ok hu).1 2
      ·cases hx
     | func f=>
      simp only [cX,Option.some.injEq] at hx
      subst hx
      exact .fn 2 f [] [] #[] #[] rfl rfl (by simp) (by simp)
     | global g=>
      simp only [cX] at hx
      split at hx
      ·rename_i q hq
       cases hx
       have hqg:=List.find?_some hq
       simp only [beq_iff_eq] at hqg
       rw [← hqg]
       exact (ri.gi q (List.mem_of_find?_eq_some hq)).up (by omega)
      ·cases hx
     | tmp t=>
      simp only [cX] at hx
      split at hx
      ·rename_i j hj
       cases hx
       simp only [ρ']
       split
       ·rename_i hm
        exact val_r t j hj (hn t (names_r j t hm (htk j t hj).1))
       ·exact .undef _ _
      ·rename_i hnone
       split at hx
       ·rename_i s hs
        cases hx
        simp only [ρ']
        split
        ·rename_i hm
         have hsep:=hn t (names_s s t hm (by simpa using (posIn_some hs).2))
         refine ri.sl t s hs fun j hj=>?_
         by_cases e:j=i
         ·rw [e]; exact hS
         ·cases hq:S j with
          | false=>rfl
          | true=>
           have hlt:=(hsep j hj e).1 hq
           exact absurd (by rw [List.getElem?_take_of_lt hlt]; exact hj) (lastIx_none hnone j)
        ·exact .undef _ _
       ·cases hx
    have hout:=op_ok hT hE hV hH ri.gi (fun _=>rfl) (fun _=>rfl) (fun _=>rfl) hpic ri.mr hc hst'
    have hpics:∀ x∈xsO oo,∃ y,VR G w 2 (ρ' x) y:=by
     intro x hx
     cases x with
     | c v=>
      have:=hck'.1.2 (.c v) (by rw [hoo]; exact hx)
      simp only [Bool.or_eq_true] at this
      rcases this with this | this
      ·obtain ⟨y,hy⟩:=cst_ok (v:=v) this
       exact ⟨y,hy G w 2⟩
      ·exact (gl_ok ri.gi this).2
     | r j=>
      have hSj:=hr j (by simp only [refsO,List.mem_append]; left; rw [hoo]; exact List.mem_filterMap.2 ⟨.r j,hx,rfl⟩)
      obtain ⟨y,hy⟩:=ri.pr j hSj
      exact ⟨y,by rw [← hρ' _ hx]; exact hy⟩
     | s j=>
      obtain ⟨y,hy⟩:=ri.ps j
      exact ⟨y,by rw [← hρ' _ hx]; exact hy⟩
    have hKx:∀ x w',Post G w m v m' (KR oo) x w'→K (a.put o.dst x) w':=by
     intro x w' ⟨G',q1,q2,q3,q4,q5⟩
     refine hK x G' w' ?_
     have ri0:RI h (ops.toList.map (·.dst)) r nt ss G0 w0 m0 S rs G w m a:=by rw [hds]; exact ri
     have:=RI.put rd ri0 (i:=i) (o:=o) (p:=p) (v:=v) (x:=x) (G':=G') (w':=w') (m':=m')
     rw [hds,hoo] at this
     refine this hls ho hp hS hnd (fun q hq=>?_) q1 q2 q3 q4 q5
     have hlk:∀ a b z d e,oo=.look a b z d e→z.all V.flat=true:=fun a b z d e he=>by
      have:=hck'.2
      rw [hoo,he] at this
      simpa using this
     rcases evO_loc hN hlk ri.mr hpics hst' hq with g | ⟨x,g1,g2⟩
     ·exact .inl g
     ·right
      rw [← hρ' x g1] at g2
      cases x with
      | c v=>
       have:=hck'.1.2 (.c v) (by rw [hoo]; exact g1)
       have g2':v.loc=some q:=g2
       simp only [Bool.or_eq_true] at this
       rcases this with this | this
       ·rw [cst_loc this] at g2'; cases g2'
       ·rw [(gl_ok ri.gi this).1] at g2'; cases g2'
      | r j=>exact .inl ⟨j,hr j (by simp only [refsO,List.mem_append]; left; rw [hoo]; exact List.mem_filterMap.2 ⟨.r j,g1,rfl⟩),g2⟩
      | s j=>exact .inr ⟨j,g2⟩
    unfold Oper.wp
    unfold Out at hout
    generalize (execOp a.eval o).run P w=res at hout
    cases res with
    | halt x w'=>exact hout.elim
    | ok n w'=>
     cases n<;>simp only [Oper.upon] at hout ⊢
     case value x=>exact hKx x w' hout
     case skip=>exact hKx undef w' hout
     case enter f args=>exact Calls.mono hout fun e w'' ⟨x,he,hx⟩=>by subst he; exact hKx x w'' hx
end
end Go.Vm
namespace Go.Vm
section
variable {call:CallT} {ss:List V}
theorem upd_append (rs:List V) (v:V):(fun j=>(rs ++ [v]).getD j .undef)=upd (fun j=>rs.getD j .undef) rs.length v:=by
 funext j
 unfold upd
 by_cases h:j=rs.length
 ·subst h; simp
 ·rw [if_neg h]
  simp only [List.getD_eq_getElem?_getD]
  by_cases h1:j<rs.length
  ·rw [List.getElem?_append_left h1]
  ·rw [List.getElem?_eq_none (by simp; omega),List.getElem?_eq_none (by omega)]
theorem lk_lkF (rs:List V):lk rs ss=lkF (fun j=>rs.getD j .undef) ss:=by
 funext x; cases x<;>rfl
theorem wants_F (rs:List V) (g:Option (Nat × Bool)):wants rs g=wantsF (fun j=>rs.getD j .undef) g:=by
 cases g with
 | none=>rfl
 | some q=>
  obtain ⟨j,b⟩:=q
  simp only [wants,wantsF,List.getD_eq_getElem?_getD]
  cases rs[j]? with
  | none=>rfl
  | some v=>cases v<;>rfl
theorem evOps_ix:∀ (ps pre:List Op) (rs:List V) (m:Mem) {rsF:List V} {mF:Mem},rs.length=pre.length→evOps call ss ps rs m=some (rsF,mF) →
  evIx call ss (pre ++ ps) (List.range' pre.length ps.length) (fun j=>rs.getD j .undef) m=some (fun j=>rsF.getD j .undef,mF)
 | [],pre,rs,m,rsF,mF,hl,h=>by
  simp only [evOps,Option.some.injEq,Prod.mk.injEq] at h
  simp [evIx,h.1,h.2]
 | p :: ps,pre,rs,m,rsF,mF,hl,h=>by
  have hp:(pre ++ p :: ps)[pre.length]?=some p:=by simp
  have step:∀ v m1,stp call ss (fun j=>rs.getD j .undef) m p=some (v,m1)→evOps call ss ps (rs ++ [v]) m1=some (rsF,mF) →
    evIx call ss (pre ++ p :: ps) (List.range' pre.length (p :: ps).length) (fun j=>rs.getD j .undef) m=some (fun j=>rsF.getD j .undef,mF):=by
   intro v m1 h1 h2
   have ih:=evOps_ix ps (pre ++ [p]) (rs ++ [v]) m1 (by simp [hl]) h2
   simp only [List.length_cons,List.range'_succ,evIx,hp,h1]
   rw [upd_append,hl] at ih
   simpa using ih
  simp only [evOps] at h
  split at h
  ·cases h
  ·rename_i hw
   refine step .skp m ?_ h
   unfold stp
   rw [← wants_F,hw]
  ·rename_i hw
   split at h
   ·rename_i v m1 he
    refine step v m1 ?_ h
    unfold stp
    rw [← wants_F,hw,← lk_lkF]
    exact he
   ·cases h
end
section
variable {P:Program} {tg:Nat→Option Tg} {h:Hint} {nt:Nat} {codes:List Nat} {ops:Array Oper} {r:List Op} {call:CallT} {ss:List V} {G0:Gh} {w0:World} {m0:Mem}
 {Q:Exit→Act→World→Prop} {rsF:Nat→V} {mF:Mem} {L:Nat}
theorem run_fixed (hT:TgOK P tg) (hE:EntOK P call) (hV:SndV P h.gl call) (hH:SndH P h.gl call) (hN:CallNL call) (rd:RD P tg h nt codes ops r)
  (hls:∀ s q,(ss.getD s .undef).loc=some q→¬ ∃ (i':Nat) (p':Op),r[i']?=some p'∧resets p'.o=some q)
  (hfin:∀ S G w a,(∀ j,j<ops.size→S j=true)→RI h (ops.toList.map (·.dst)) r nt ss G0 w0 m0 S rsF G w mF a→Q .normal a w):
  ∀ (n k:Nat) (S:Nat→Bool) (rs:Nat→V) (G:Gh) (w:World) (m:Mem) (a:Act),k+n=ops.size→(∀ j,S j=true↔j<k) →
   RI h (ops.toList.map (·.dst)) r nt ss G0 w0 m0 S rs G w m a→evIx call ss r (List.range' k n) rs m=some (rsF,mF)→wpOps P ops Q (List.range' k n) a w
 | 0,k,S,rs,G,w,m,a,hk,hS,ri,hev=>by
  simp only [List.range'_zero,evIx,Option.some.injEq,Prod.mk.injEq] at hev
  obtain ⟨rfl,rfl⟩:=hev
  exact hfin S G w a (fun j hj=>(hS j).2 (by omega)) ri
 | n+1,k,S,rs,G,w,m,a,hk,hS,ri,hev=>by
  have hl:=(cOps_get codes rd.made).1
  have hko:k<ops.size:=by omega
  have ho:ops[k]?=some ops[k]:=Array.getElem?_eq_getElem hko
  have hp:r[k]?=some (r[k]'(by rw [hl]; simpa using hko)):=List.getElem?_eq_getElem _
  rw [List.range'_succ,wpOps_cons]
  rw [List.range'_succ] at hev
  simp only [evIx,hp] at hev
  split at hev
  ·cases hev
  ·rename_i v m1 hst
   have hSk:S k=false:=by
    cases hq:S k with
    | false=>rfl
    | true=>exact absurd ((hS k).1 hq) (by omega)
   refine step_ok hT hE hV hH hN rd ri hls ho hp hSk (fun t _ j _ hj=>hS j) (fun j hj=>(hS j).2 ?_) hst fun x G' w' ri'=>?_
   ·have hck:=rd.ck
    simp only [ckOps,List.all_eq_true] at hck
    have:=hck (_,k) (by rw [List.mem_zipIdx_iff_getElem?]; exact hp)
    simp only [Bool.and_eq_true,List.all_eq_true,decide_eq_true_eq] at this
    exact this.1.1 j hj
   ·refine run_fixed hT hE hV hH hN rd hls hfin n (k+1) (ins S k) _ G' w' m1 _ (by omega) (fun j=>?_) ri' hev
    unfold ins
    split
    ·rename_i e; subst e; exact ⟨fun _=>by omega,fun _=>rfl⟩
    ·rename_i e; rw [hS j]; omega
structure RO (h:Hint) (ops:Array Oper) (r:List Op) (b:List Nat):Prop where
 edge:∀ (i:Nat) (o:Oper),ops[i]?=some o→∀ e∈o.after,Region.binds .any e=true→e.on<i
 refs:∀ (i:Nat) (p:Op),r[i]?=some p→∀ j∈refsO p,j<i∧(b.getD i 0).testBit j=true
 names:∀ (i:Nat) (p:Op),r[i]?=some p→∀ t∈namesO h (ops.toList.map (·.dst)) i p,∀ j,(ops.toList.map (·.dst))[j]?=some (some t)→j≠i→(b.getD (max i j) 0).testBit (min i j)=true
 bef:∀ (n:Nat) (o:Oper),ops[n]?=some o→∀ j,(b.getD n 0).testBit j=true→∃ e∈o.after,Region.binds .any e=true∧(j=e.on∨(b.getD e.on 0).testBit j=true)
theorem RO.of (hok:regOK h ops.toList (ops.toList.map (·.dst)) (befL ops.toList []) r=true):RO h ops r (befL ops.toList []):=by
 simp only [regOK,Bool.and_eq_true,List.all_eq_true] at hok
 refine ⟨fun i o ho e he hb=>?_,fun i p hp j hj=>?_,fun i p hp t ht j hj hne=>?_,fun n o ho j hj=>?_⟩
 ·have:=hok.1 (o,i) (by rw [List.mem_zipIdx_iff_getElem?]; simpa using ho)
  have:=Array.all_eq_true_iff_forall_mem.1 this e he
  simpa [hb] using this
 ·have:=(hok.2 (p,i) (by rw [List.mem_zipIdx_iff_getElem?]; exact hp)).1 j hj
  simpa using this
 ·have:=(hok.2 (p,i) (by rw [List.mem_zipIdx_iff_getElem?]; exact hp)).2 t ht (some t,j) (by rw [List.mem_zipIdx_iff_getElem?]; exact hj)
  simp only [bne_self_eq_false,Bool.false_or,Bool.or_eq_true,beq_iff_eq] at this
  rcases this with h1 | h1
  ·exact absurd h1 hne
  ·rw [Nat.max_comm,Nat.min_comm]; exact h1
 ·have:=(befL_get ops.toList []).2 n o (by simpa using ho) j (by simpa using hj)
  exact this
theorem run_any {b:List Nat} (hT:TgOK P tg) (hE:EntOK P call) (hV:SndV P h.gl call) (hH:SndH P h.gl call) (hN:CallNL call) (hM:CallMono call) (rd:RD P tg h nt codes ops r) (ro:RO h ops r b)
  (hls:∀ s q,(ss.getD s .undef).loc=some q→¬ ∃ (i':Nat) (p':Op),r[i']?=some p'∧resets p'.o=some q)
  (hfin:∀ S G w a,(∀ j,j<ops.size→S j=true)→RI h (ops.toList.map (·.dst)) r nt ss G0 w0 m0 S rsF G w mF a→Q .normal a w):
  ∀ (fuel:Nat) (l:List Nat) (listed:Array Bool) (S:Nat→Bool) (rs:Nat→V) (G:Gh) (w:World) (m:Mem) (a:Act),l.length=fuel→listed.size=ops.size →
   (∀ j,j<ops.size→listed.getD j false=S j)→(∀ j,j<ops.size→(S j=true↔j ∉ l))→(∀ j∈l,j<ops.size)→l.Pairwise (·<·) →
   (∀ i,i<ops.size→S i=true→∀ j,(b.getD i 0).testBit j=true→S j=true)→L≤m.H.length →
   (∀ (j i:Nat) (q p:Op),j∈l→i∈l→j<i→r[j]?=some q→r[i]?=some p→(b.getD i 0).testBit j=false→(fpO L (lkF rsF ss) q.o).comm (fpO L (lkF rsF ss) p.o)=true) →
   RI h (ops.toList.map (·.dst)) r nt ss G0 w0 m0 S rs G w m a→evIx call ss r l rs m=some (rsF,mF)→wpAny P .any ops Q fuel listed a w:=by
 have hl:=(cOps_get codes rd.made).1
 have done:∀ (l:List Nat) (listed:Array Bool) (S:Nat→Bool) (rs:Nat→V) (G:Gh) (w:World) (m:Mem) (a:Act),listed.size=ops.size →
   (∀ j,j<ops.size→listed.getD j false=S j)→(∀ j,j<ops.size→(S j=true↔j ∉ l))→(∀ j∈l,j<ops.size)→l.Pairwise (·<·) →
   RI h (ops.toList.map (·.dst)) r nt ss G0 w0 m0 S rs G w m a→evIx call ss r l rs m=some (rsF,mF)→Region.ready .any ops listed=[]→Q .normal a w:=by
  intro l listed S rs G w m a hsz hli hS hlt hso ri hev hr
  cases l with
  | nil=>
   simp only [evIx,Option.some.injEq,Prod.mk.injEq] at hev
   obtain ⟨rfl,rfl⟩:=hev
   exact hfin S G w a (fun j hj=>(hS j hj).2 (by simp)) ri
  | cons i l=>
   have hi:=hlt i (by simp)
   have ho:ops[i]?=some ops[i]:=Array.getElem?_eq_getElem hi
   have:i∈Region.ready .any ops listed:=by
    rw [mem_ready]
    refine ⟨?_,_,ho,fun e he hb=>?_⟩
    ·have h1:=hli i hi
     have h2:S i=false:=by
      cases hq:S i with
      | false=>rfl
      | true=>exact absurd (by simp) ((hS i hi).1 hq)
     rw [h2] at h1
     have h3:i<listed.size:=by omega
     simpa [h3] using h1
    ·have h1:=ro.edge i _ ho e he hb
     rw [hli e.on (by omega),hS e.on (by omega)]
     intro hm
     rcases List.mem_cons.1 hm with h2 | h2
     ·omega
     ·exact absurd ((List.pairwise_cons.1 hso).1 _ h2) (by omega)
   rw [hr] at this
   cases this
 intro fuel
 induction fuel with
 | zero=>
  intro l listed S rs G w m a hfl hsz hli hS hlt hso hcl hL _ ri hev
  have hnil:=List.length_eq_zero_iff.1 hfl
  subst hnil
  have hr:Region.ready .any ops listed=[]:=by
   apply List.eq_nil_iff_forall_not_mem.2
   intro i hi
   obtain ⟨h1,o,ho,_⟩:=mem_ready.1 hi
   have hlt':i<ops.size:=(Array.getElem?_eq_some_iff.1 ho).1
   have h2:=(hS i hlt').2 (by simp)
   rw [← hli i hlt'] at h2
   have h3:i<listed.size:=by omega
   simp [h3] at h1 h2
   rw [h1] at h2; cases h2
  exact ⟨hr,done [] listed S rs G w m a hsz hli hS hlt hso ri hev hr⟩
 | succ fuel ih=>
  intro l listed S rs G w m a hfl hsz hli hS hlt hso hcl hL hap ri hev
  refine ⟨done l listed S rs G w m a hsz hli hS hlt hso ri hev,fun i hi=>?_⟩
  obtain ⟨h1,o,ho,hall⟩:=mem_ready.1 hi
  have hio:i<ops.size:=(Array.getElem?_eq_some_iff.1 ho).1
  have hil:i<listed.size:=by omega
  have hSi:S i=false:=by
   rw [← hli i hio]
   simpa [hil] using h1
  have him:i∈l:=by
   apply Classical.byContradiction
   intro hm
   have:=(hS i hio).2 hm
   rw [hSi] at this; cases this
  have hp:r[i]?=some (r[i]'(by rw [hl]; simpa using hio)):=List.getElem?_eq_getElem _
  generalize r[i]'(by rw [hl]; simpa using hio)=p at hp
  have hbef:∀ j,(b.getD i 0).testBit j=true→S j=true:=by
   intro j hj
   obtain ⟨e,he,hb,h2⟩:=ro.bef i o ho j hj
   have h3:=hall e he hb
   have h4:e.on<ops.size:=by have:=ro.edge i o ho e he hb; omega
   rw [hli _ h4] at h3
   rcases h2 with rfl | h2
   ·exact h3
   ·exact hcl _ h4 h3 j h2
  have hrefs:∀ j∈refsO p,S j=true:=fun j hj=>hbef j (ro.refs i p hp j hj).2
  have uses_refs:∀ {q:Op} {k:Nat},usesR q k→k∈refsO q:=by
   intro q k hk
   simp only [refsO,List.mem_append]
   rcases hk with hk | ⟨c,hk⟩
   ·left; exact List.mem_filterMap.2 ⟨.r k,hk,rfl⟩
   ·right; rw [hk]; simp
  obtain ⟨l1,l2,rfl⟩:=List.append_of_mem him
  have hfront:=evIx_front (L:=L) hM hp l1 l2 rs m hL hev hso (fun k hk hm=>?_) (fun j hj q hq=>?_)
  ·simp only [evIx,hp] at hfront
   split at hfront
   ·cases hfront
   ·rename_i v m1 hst
    refine step_ok hT hE hV hH hN rd ri hls ho hp hSi (fun t ht j hj hne=>?_) hrefs hst fun x G' w' ri'=>?_
    ·have h2:=ro.names i p hp t ht j hj hne
     rcases Nat.lt_or_gt_of_ne hne with hlt' | hgt
     ·rw [Nat.max_eq_left (by omega),Nat.min_eq_right (by omega)] at h2
      exact ⟨fun _=>hlt',fun _=>hbef j h2⟩
     ·rw [Nat.max_eq_right (by omega),Nat.min_eq_left (by omega)] at h2
      have hjo:j<ops.size:=by
       have:=(List.getElem?_eq_some_iff.1 hj).1
       simpa using this
      refine ⟨fun hSj=>?_,fun _=>by omega⟩
      have:=hcl j hjo hSj i h2
      rw [hSi] at this; cases this
    ·have hni:i ∉ l1 ++ l2:=by
      have hso':=List.pairwise_append.1 hso
      intro hm
      rcases List.mem_append.1 hm with hm | hm
      ·exact absurd (hso'.2.2 i hm i (by simp)) (by omega)
      ·exact absurd ((List.pairwise_cons.1 hso'.2.1).1 i hm) (by omega)
     refine ih (l1 ++ l2) (listed.setIfInBounds i true) (ins S i) _ G' w' m1 _ (by simp at hfl ⊢; omega) (by simpa using hsz) (fun j hj=>?_) (fun j hj=>?_) (fun j hj=>hlt j ?_) ?_ (fun k hk hSk j hj=>?_)
      (Nat.le_trans hL (stp_len hM hst)) (fun j k q p hj hk=>hap j k q p (by simp only [List.mem_append,List.mem_cons] at hj ⊢; exact hj.imp id .inr) (by simp only [List.mem_append,List.mem_cons] at hk ⊢; exact hk.imp id .inr)) ri' hfront
     ·unfold ins
      split
      ·rename_i e; subst e; simp [hil]
      ·rename_i e; rw [getD_set_ne false (Ne.symm e)]; exact hli j hj
     ·unfold ins
      split
      ·rename_i e; subst e; exact ⟨fun _=>hni,fun _=>rfl⟩
      ·rename_i e
       rw [hS j hj]
       simp only [List.mem_append,List.mem_cons,not_or]
       exact ⟨fun h=>⟨h.1,h.2.2⟩,fun h=>⟨h.1,e,h.2⟩⟩
     ·simp only [List.mem_append,List.mem_cons] at hj ⊢
      exact hj.imp id .inr
     ·exact hso.sublist (List.Sublist.append (List.Sublist.refl _) (List.sublist_cons_self _ _))
     ·unfold ins at hSk ⊢
      split
      ·rfl
      ·split at hSk
       ·rename_i e; subst e; exact hbef j hj
       ·exact hcl k hk hSk j hj
  ·have h2:=ro.refs i p hp k (uses_refs hk)
   exact (hS k (by omega)).1 (hbef k h2.2) hm
  ·have hji:j<i:=by
    rw [List.pairwise_append] at hso
    exact hso.2.2 j hj i (by simp)
   refine ⟨fun k hk=>(ro.refs j q hq k (uses_refs hk)).1,?_⟩
   refine hap j i q p (by simp [hj]) (by simp) hji hq hp ?_
   cases hq':(b.getD i 0).testBit j with
   | false=>rfl
   | true=>
    have:=(hS j (by omega)).1 (hbef j hq')
    exact absurd (by simp [hj]) this
end
end Go.Vm
namespace Go.Vm
section
variable {P:Program} {h:Hint} {ds:List (Option Nat)} {G:Gh} {w:World} {m:Mem} {ρ:X→V} {e:Operand→Value} {k:Bool→Nat→Prop}
theorem newArr_at {s c id:Nat} {es:List (List V)} {xs:Array Value} {ty:TypeId} (hm:MR G w m) (hr:RelA G w s c es xs) (hid:m.H[id]?=some .dead) (hha:G.ha id=none):
  ∃ G',Le G w G' (w.alloc (.cells xs ty))∧LeL G G' k∧MR G' (w.alloc (.cells xs ty)) { m with H:=m.H.set id (.arr es) } ∧
   Fr G m w G' { m with H:=m.H.set id (.arr es) } (w.alloc (.cells xs ty))∧G'.ha id=some (w.heap.size,s,c)∧(∀ i,i≠id→G'.ha i=G.ha i):=by
 have hlt:id<m.H.length:=(List.getElem?_eq_some_iff.1 hid).1
 let G':Gh:={ G with ha:=fun i=>if i=id then some (w.heap.size,s,c) else G.ha i }
 have la:=Le.alloc hm (.cells xs ty)
 have le:Le G w G' (w.alloc (.cells xs ty)):=⟨fun _ _ _ h=>h,la.c,fun i q h=>by
  have:i≠id:=fun q'=>by rw [q',hha] at h; cases h
  simpa [G',this] using h,fun _ n h=>⟨n,h,Nat.le_refl _,fun _=>rfl⟩⟩
 have hnE:∀ t o,¬ G.E t w.heap.size o:=fun t o q=>absurd (hm.Elt t _ o q) (by omega)
 have u:Upd G w m G' (w.alloc (.cells xs ty)) { m with H:=m.H.set id (.arr es) } (.h id) w.heap.size:={
  le:=le
  hv:=fun _ _=>⟨rfl,rfl⟩
  ht:=fun _ _=>⟨rfl,rfl,rfl⟩
  hh:=fun i hi=>by
   have:i≠id:=fun q=>hi (by rw [q])
   exact ⟨by simp [G',this],rfl,by simp [List.getElem?_set_ne (Ne.symm this)],rfl⟩
  hl:=by simp
  hf:=fun i hi q=>by cases q; simp at hi; omega
  hvl:=⟨rfl,rfl⟩
  hE:=fun _ _ _ _=>Iff.rfl
  Ef:=fun o q=>hm.Ef _ o q
  heap:=fun b _ hb'=>heap_alloc_lt w _ hb'
  size:=by simp
  hB:=by simp
  new:=.inl (Nat.le_refl _)
  key:=.inl ⟨es,s,c,by simp [hlt],by show G.T true id=none; rw [hm.T1 id,hid],by simp [G'],⟨xs,ty,heap_alloc_new w _,hr.1,hr.2.1,hr.2.2.1,fun i j q v hq hv=>by
   obtain ⟨f1,x,f2,f3⟩:=hr.2.2.2 i j q v hq hv
   exact ⟨f1,x,f2,f3.mono1 le (Nat.le_refl _)⟩⟩,hnE⟩
  os:=rfl
  tape:=rfl
  output:=rfl }
 exact ⟨G',le,⟨fun _ _ _ h=>h,fun _ n _ h=>⟨n,h,Nat.le_refl _,fun _=>rfl⟩⟩,u.mr hm,u.fr hm,by simp [G'],fun i hi=>by simp [G',hi]⟩
theorem x_mksl_at {o:Oper} {t el:TypeId} {sz bytes id:Nat} {l c:Operand} {xl xc:X} {z:List V} {kl kc:IntKind} {nl nc:Int} (hρ:OpR h ds G w ρ e) (hm:MR G w m)
  (ho:o.op=.makeSlice t l c) (hu:P.underlying t=some (.slice el)) (hn:szOf P el=some sz) (hby:bytesT P el=some bytes) (hz:zeroT P el=some z) (h0:sz≠0) (hzl:z.length=sz)
  (hl:cX h ds l=some xl) (hc:cX h ds c=some xc) (e1:ρ xl=.int kl nl) (e2:ρ xc=.int kc nc)
  (hb:0≤nl∧nl≤nc∧nc≤9223372036854775807∧nc.toNat * bytes≤maxB) (hid:m.H[id]?=some .dead) (hha:G.ha id=none):
  ∃ x w' G',(execOp e o).run P w=.ok (.value x) w'∧Le G w G' w'∧LeL G G' k∧MR G' w' { m with H:=m.H.set id (.arr (List.replicate nl.toNat z)) }∧VR G' w' 2 (.rsl id 0 nl.toNat) x ∧
   Fr G m w G' { m with H:=m.H.set id (.arr (List.replicate nl.toNat z)) } w'∧(∀ i,i≠id→G'.ha i=G.ha i):=by
 obtain ⟨v,h1,h2⟩:=zeroT_rel hz G w
 have i1:=hρ _ _ hl
 have i2:=hρ _ _ hc
 rw [e1] at i1; rw [e2] at i2
 have j1:=i1.int_inv
 have j2:=i2.int_inv
 have hrows:=zeroRows h2 nl.toNat nc.toNat (by omega)
 have hwl:IntKind.i64.wrap nl=nl:=wrap_in (by omega) (by omega)
 have hwc:IntKind.i64.wrap nc=nc:=wrap_in (by omega) (by omega)
 have hb':bytes * nc≤2 ^ 48:=by
  have h48:(2:Int) ^ 48=281474976710656:=by decide
  have hq:nc.toNat * bytes≤140737488355328:=hb.2.2.2
  have:((nc.toNat * bytes:Nat):Int)≤140737488355328:=by omega
  rw [Int.natCast_mul,Int.toNat_of_nonneg (by omega)] at this
  rw [h48,Int.mul_comm]; omega
 obtain ⟨i,hi,hib⟩:∃ i,P.info? el=some i∧i.bytes=bytes:=by
  simp only [bytesT,Option.map_eq_some_iff] at hby
  obtain ⟨i,h1,h2⟩:=hby
  exact ⟨i,h1,h2⟩
 obtain ⟨G',q1,q2,q3,q4,q5,q6⟩:=newArr_at (k:=k) (ty:=el) hm hrows hid hha
 refine ⟨.slice (some ⟨w.heap.size,0,none⟩) nl.toNat nc.toNat,_,G',?_,q1,q2,q3,?_,q4,q6⟩
 ·have h48:(2:Int) ^ 48=281474976710656:=by decide
  have n1:¬ (nc<0∨(281474976710656:Int)<(bytes:Int) * nc):=by rw [h48] at hb'; omega
  have n2:¬ (nl<0):=by omega
  have n3:¬ (nc<nl):=by omega
  by_cases hz0:nc.toNat * sz=0
  ·have hc0:nc.toNat=0:=by
    rcases Nat.mul_eq_zero.1 hz0 with q | q
    ·exact q
    ·exact absurd q h0
   have f1:nc=0:=by omega
   have f2:nl=0:=by omega
   have e3:∀ (f:Nat→Value),(Array.range 0).map f=#[]:=fun f=>by apply Array.ext'; simp
   have e4:(0:Nat) * z.length=0:=Nat.zero_mul _
   subst f1; subst f2
   simp only [Int.toNat_zero,e4,e3]
   simp [execOp,ho,Instr.makeSlice,run_underlying hu,j1,j2,asInt,asIntOf,typeInfo,hi,hwl,hwc,hib,szOf_run hn,newRow,e3]
  ·simp [execOp,ho,Instr.makeSlice,run_underlying hu,j1,j2,asInt,asIntOf,typeInfo,hi,hwl,hwc,hib,szOf_run hn,n1,n2,n3,hz0,h1,newRow,hzl]
 ·have:=VR.rsl (G:=G') (w:=w.alloc (.cells ((Array.range (nc.toNat * z.length)).map (v.cells[· % v.cells.size]!)) el)) 2 id 0 nl.toNat _ _ _ (by omega) q5 (by omega)
  simpa using this
end
section
variable {P:Program} {tg:Nat→Option Tg} {h:Hint} {ds:List (Option Nat)}
theorem cOp_mksl {o:Oper} {c by_:Nat} {z:List V} {xl xc:X} (hc:cOp P tg h ds c o=some (.mksl z by_ xl xc)):
  ∃ t l cp el n,o.op=.makeSlice t l cp∧slEl P t=some el∧szOf P el=some n∧zeroT P el=some z∧n≠0∧z.length=n∧bytesT P el=some by_∧cX h ds l=some xl∧cX h ds cp=some xc:=by
 cases hop:o.op
 case makeSlice t l cp=>
  simp only [cOp,hop,Option.bind_eq_bind,Option.bind_eq_some_iff] at hc
  obtain ⟨el,h1,n,h2,z',h3,hc⟩:=hc
  split at hc
  ·cases hc
  ·rename_i hcond
   simp only [Option.bind_eq_some_iff,Option.some.injEq] at hc
   obtain ⟨by',h4,xl',h5,xc',h6,hc⟩:=hc
   simp only [not_or,Classical.not_not] at hcond
   split at hc
   ·cases hc
    exact ⟨t,l,cp,el,n,rfl,h1,h2,h3,hcond.1,hcond.2,h4,h5,h6⟩
   ·cases hc
 all_goals
  exfalso
  simp only [cOp,hop,Option.bind_eq_bind,Option.bind_eq_some_iff,Option.map_eq_some_iff,Option.some.injEq,reduceCtorEq] at hc
 all_goals
  repeat' first
   | contradiction
   | (exact hc.elim)
   | (cases hc; done)
   | (split at hc)
   | (obtain ⟨_,_,hc⟩:=hc)
   | (simp only [Option.bind_eq_bind,Option.bind_eq_some_iff,Option.map_eq_some_iff,Option.some.injEq,reduceCtorEq] at hc)
end
section
variable {P:Program} {tg:Nat→Option Tg} {h:Hint} {nt:Nat} {codes:List Nat} {ops:Array Oper} {r:List Op} {call:CallT} {ss:List V} {G0:Gh} {w0:World} {m0:Mem}
 {S:Nat→Bool} {rs:Nat→V} {G:Gh} {w:World} {m:Mem} {a:Act} {Q:Exit→Act→World→Prop}
theorem holes_get (H:List Obj) (i:Nat):(H ++ [Obj.dead,.dead])[i]?=if i<H.length then H[i]? else if i<H.length+2 then some .dead else none:=by
 by_cases h1:i<H.length
 ·rw [if_pos h1,List.getElem?_append_left h1]
 ·rw [if_neg h1,List.getElem?_append_right (by omega)]
  by_cases h2:i<H.length+2
  ·rw [if_pos h2]
   obtain ⟨d,hd⟩:∃ d,i - H.length=d:=⟨_,rfl⟩
   have:d<2:=by omega
   rw [hd]
   match d,this with
   | 0,_=>rfl
   | 1,_=>rfl
  ·rw [if_neg h2,List.getElem?_eq_none (by simp; omega)]
theorem holes_own {k:Key} {b:Nat}:Own G { m with H:=m.H ++ [Obj.dead,.dead] } k b↔Own G m k b:=by
 cases k with
 | v j=>exact Iff.rfl
 | t j=>exact Iff.rfl
 | h id=>
  simp only [Own,holes_get]
  by_cases h1:id<m.H.length
  ·rw [if_pos h1]
  ·rw [if_neg h1,List.getElem?_eq_none (by omega)]
   by_cases h2:id<m.H.length+2
   ·rw [if_pos h2]
   ·rw [if_neg h2]
theorem MR.holes (hm:MR G w m):MR G w { m with H:=m.H ++ [Obj.dead,.dead] }:=by
 have get:∀ (id:Nat) (o:Obj),o≠.dead→(m.H ++ [Obj.dead,.dead])[id]?=some o→m.H[id]?=some o:=by
  intro id o ho hg
  rw [holes_get] at hg
  split at hg
  ·exact hg
  ·split at hg
   ·cases hg; exact absurd rfl ho
   ·cases hg
 refine ⟨hm.T0,fun j=>?_,hm.Ef,hm.Elt,hm.vars,hm.toks,fun id es hg=>hm.arr id es (get id _ (by simp) hg),fun id es hg=>hm.mp id es (get id _ (by simp) hg),fun id n hg=>hm.tok id n (get id _ (by simp) hg),fun id hid=>hm.fresh id (by simp at hid; omega),
  fun k k' b h1 h2=>hm.inj k k' b (holes_own.1 h1) (holes_own.1 h2),hm.noV,fun id es b s c t o hg=>hm.noH id es b s c t o (get id _ (by simp) hg)⟩
 rw [hm.T1 j,holes_get]
 by_cases h1:j<m.H.length
 ·rw [if_pos h1]
 ·rw [if_neg h1,List.getElem?_eq_none (by omega)]
  by_cases h2:j<m.H.length+2
  ·rw [if_pos h2]
  ·rw [if_neg h2]
theorem Fr.holes (hf:Fr G0 m0 w0 G m w):Fr G0 m0 w0 G { m with H:=m.H ++ [Obj.dead,.dead] } w:=
 ⟨hf.os,hf.tape,hf.output,hf.size,hf.kept,fun k b h1 h2=>hf.sub k b (holes_own.1 h1) h2,hf.E,by have:=hf.len; simp; omega,hf.vl⟩
theorem RI.holes {ds:List (Option Nat)} (ri:RI h ds r nt ss G0 w0 m0 S rs G w m a):RI h ds r nt ss G0 w0 m0 S rs G w { m with H:=m.H ++ [Obj.dead,.dead] } a:=
 ⟨ri.mr.holes,ri.gi,ri.sz,ri.df,ri.le,ri.fr.holes,ri.wr,ri.sl,ri.lr,ri.pr,ri.ps⟩
theorem noR_ref {x:X} (hx:noR x=true) (rs rs':Nat→V):lkF rs ss x=lkF rs' ss x:=by
 cases x<;>first | rfl | (simp [noR] at hx)
theorem step_mk {i id by_:Nat} {o:Oper} {p:Op} {z:List V} {xl xc:X} {kl kc:IntKind} {nl nc:Int} (rd:RD P tg h nt codes ops r) (ri:RI h (ops.toList.map (·.dst)) r nt ss G0 w0 m0 S rs G w m a)
  (hls:∀ s q,(ss.getD s .undef).loc=some q→¬ ∃ (i':Nat) (p':Op),r[i']?=some p'∧resets p'.o=some q)
  (ho:ops[i]?=some o) (hp:r[i]?=some p) (hS:S i=false) (hn:∀ t∈namesO h (ops.toList.map (·.dst)) i p,∀ j,(ops.toList.map (·.dst))[j]?=some (some t)→j≠i→(S j=true↔j<i))
  (hpo:p.o=.mksl z by_ xl xc) (hpg:p.g=none) (hnl:noR xl=true) (hnc:noR xc=true) (e1:lkF rs ss xl=.int kl nl) (e2:lkF rs ss xc=.int kc nc)
  (hb:0≤nl∧nl≤nc∧nc≤9223372036854775807∧nc.toNat * by_≤maxB) (hid:m.H[id]?=some .dead) (hha:G.ha id=none) {K:Act→World→Prop}
  (hK:∀ x G' w',RI h (ops.toList.map (·.dst)) r nt ss G0 w0 m0 (ins S i) (upd rs i (.rsl id 0 nl.toNat)) G' w' { m with H:=m.H.set id (.arr (List.replicate nl.toNat z)) } (a.put o.dst x)→(∀ j,j≠id→G'.ha j=G.ha j)→K (a.put o.dst x) w'):
  wpOp P ops Q i K a w:=by
 have hdi:(ops.toList.map (·.dst))[i]?=some o.dst:=by simp [ho]
 have hnd:∀ t,o.dst=some t→∀ j,(ops.toList.map (·.dst))[j]?=some (some t)→j≠i→(S j=true↔j<i):=fun t ht=>hn t (by
  simp only [namesO,List.mem_append]
  refine .inl (.inl ?_)
  rw [List.getD_eq_getElem?_getD,hdi,ht]; simp)
 have hpt:=(cOps_get codes rd.made).2 i o (by simpa using ho)
 rw [hp] at hpt
 simp only [List.nil_append,Nat.zero_add,Option.some.injEq,List.map_take] at hpt
 generalize hds:(ops.toList.map (·.dst))=ds at *
 cases hg:cGuard (ds.take i) o.guard with
 | false=>
  rw [hg] at hpt
  subst hpt
  simp at hpo
 | true=>
  rw [hg] at hpt
  simp only [if_true] at hpt
  have hgu:p.g=o.guard:=by rw [hpt]
  have hoo:p.o=(cOp P tg h (ds.take i) (codes.getD i 0) o).getD .bad:=by rw [hpt]
  have hog:o.guard=none:=by rw [← hgu,hpg]
  cases hc:cOp P tg h (ds.take i) (codes.getD i 0) o with
  | none=>
   rw [hc,hpo] at hoo
   simp at hoo
  | some oo=>
   rw [hc,hpo] at hoo
   simp only [Option.getD_some] at hoo
   subst hoo
   obtain ⟨t,l,cp,el,n,h1,h2,h3,h4,h5,h6,h7,h8,h9⟩:=cOp_mksl hc
   have names_s:∀ (s t:Nat),X.s s∈[xl,xc]→h.slots[s]?=some t→t∈namesO h ds i p:=by
    intro j t hx hj
    simp only [namesO,List.mem_append]
    left; right
    rw [hpo]
    exact List.mem_filterMap.2 ⟨.s j,hx,by simp [hj]⟩
   let ρ':X→V:=fun x=>match x with
    | .c v=>v
    | x=>open Classical in if x∈[xl,xc] then lkF rs ss x else .undef
   have hρ':∀ x∈[xl,xc],lkF rs ss x=ρ' x:=by
    intro x hx
    cases x with
    | c v=>rfl
    | r j=>simp only [ρ']; rw [if_pos hx]
    | s j=>simp only [ρ']; rw [if_pos hx]
   have hpic:OpR h (ds.take i) G w ρ' a.eval:=by
    intro y x hx
    cases y with
    | const c=>
     simp only [cX] at hx
     split at hx
     ·rename_i u hu
      cases hx
      exact (cvV_ok hu).1 2
     ·cases hx
    | func f=>
     simp only [cX,Option.some.injEq] at hx
     subst hx
     exact .fn 2 f [] [] #[] #[] rfl rfl (by simp) (by simp)
    | global g=>
     simp only [cX] at hx
     split at hx
     ·rename_i q hq
      cases hx
      have hqg:=List.find?_some hq
      simp only [beq_iff_eq] at hqg
      rw [← hqg]
      exact (ri.gi q (List.mem_of_find?_eq_some hq)).up (by omega)
     ·cases hx
    | tmp t=>
     simp only [cX] at hx
     split at hx
     ·rename_i j hj
      cases hx
      simp only [ρ']
      split
      ·rename_i hm
       rcases List.mem_cons.1 hm with hm | hm
       ·rw [← hm] at hnl; cases hnl
       ·rcases List.mem_cons.1 hm with hm | hm
        ·rw [← hm] at hnc; cases hnc
        ·cases hm
      ·exact .undef _ _
     ·rename_i hnone
      split at hx
      ·rename_i s hs
       cases hx
       simp only [ρ']
       split
       ·rename_i hm
        have hsep:=hn t (names_s s t hm (by simpa using (posIn_some hs).2))
        refine ri.sl t s hs fun j hj=>?_
        by_cases e:j=i
        ·rw [e]; exact hS
        ·cases hq:S j with
         | false=>rfl
         | true=>
          have hlt:=(hsep j hj e).1 hq
          exact absurd (by rw [List.getElem?_take_of_lt hlt]; exact hj) (lastIx_none hnone j)
       ·exact .undef _ _
      ·cases hx
   obtain ⟨x,w',G',q1,q2,q3,q4,q5,q6,q7⟩:=x_mksl_at (k:=KR p.o) hpic ri.mr h1 (slEl_ok h2) h3 h7 h4 h5 h6 h8 h9 (by rw [← hρ' xl (by simp)]; exact e1) (by rw [← hρ' xc (by simp)]; exact e2) hb hid hha
   have hKx:K (a.put o.dst x) w':=by
    refine hK x G' w' ?_ q7
    have ri0:RI h (ops.toList.map (·.dst)) r nt ss G0 w0 m0 S rs G w m a:=by rw [hds]; exact ri
    have:=RI.put rd ri0 (i:=i) (o:=o) (p:=p) (v:=.rsl id 0 nl.toNat) (x:=x) (G':=G') (w':=w') (m':={ m with H:=m.H.set id (.arr (List.replicate nl.toNat z)) })
    rw [hds] at this
    exact this hls ho hp hS hnd (fun q hq=>by cases hq) q2 q3 q4 q5 q6
   unfold wpOp
   simp only [ho]
   have hwant:Region.wanted o (yielded ops a.tmps)=true:=by
    unfold Region.wanted
    rw [hog]
   rw [hwant]
   simp only [if_true]
   left
   unfold Oper.wp
   rw [q1]
   simp only [Oper.upon]
   exact hKx
theorem twoNew_some {b:List Nat} (h:twoNew b r=true):∃ z0 y0 l0 c0 z1 y1 l1 c1 ps,r=⟨.mksl z0 y0 l0 c0,none⟩ :: ⟨.mksl z1 y1 l1 c1,none⟩ :: ps∧noR l0=true∧noR c0=true∧noR l1=true∧noR c1=true ∧
  ∀ i,2≤i→i<ps.length+2→(b.getD i 0).testBit 0=true:=by
 unfold twoNew at h
 split at h
 ·rename_i z0 y0 l0 c0 z1 y1 l1 c1 ps
  simp only [Bool.and_eq_true,List.all_eq_true] at h
  refine ⟨z0,y0,l0,c0,z1,y1,l1,c1,ps,rfl,h.1.1.1.1,h.1.1.1.2,h.1.1.2,h.1.2,fun i h1 h2=>?_⟩
  exact h.2 i (List.mem_range'_1.2 ⟨h1,by omega⟩)
 ·cases h
theorem stp_mksl {rs:Nat→V} {z:List V} {y:Nat} {l c:X} {v:V} {m':Mem} (h:stp call ss rs m ⟨.mksl z y l c,none⟩=some (v,m')):
  ∃ kl nl kc nc,lkF rs ss l=.int kl nl∧lkF rs ss c=.int kc nc∧(0≤nl∧nl≤nc∧nc≤9223372036854775807∧nc.toNat * y≤maxB)∧v=.rsl m.H.length 0 nl.toNat∧m'={ m with H:=m.H ++ [.arr (List.replicate nl.toNat z)] }:=by
 simp only [stp,wantsF,evO] at h
 split at h
 ·rename_i e1 e2
  split at h
  ·rename_i hb
   cases h
   exact ⟨_,_,_,_,e1,e2,hb,rfl,rfl⟩
  ·cases h
 ·cases h
theorem getD_rep (n j:Nat):(Array.replicate n false).getD j false=false:=by
 rw [Array.getD_eq_getD_getElem?]
 by_cases h:j<n
 ·simp [h]
 ·simp [h]
theorem run_two {b:List Nat} {rsF:Nat→V} {mF:Mem} (hT:TgOK P tg) (hE:EntOK P call) (hV:SndV P h.gl call) (hH:SndH P h.gl call) (hN:CallNL call) (hM:CallMono call) (rd:RD P tg h nt codes ops r) (ro:RO h ops r b) (htn:twoNew b r=true)
  (hls:∀ s q,(ss.getD s .undef).loc=some q→¬ ∃ (i':Nat) (p':Op),r[i']?=some p'∧resets p'.o=some q)
  (hap:∀ (j i:Nat) (q p:Op),¬ (j=0∧i=1)→j<i→r[j]?=some q→r[i]?=some p→(b.getD i 0).testBit j=false→(fpO m.H.length (lkF rsF ss) q.o).comm (fpO m.H.length (lkF rsF ss) p.o)=true)
  (hfin:∀ S G w a,(∀ j,j<ops.size→S j=true)→RI h (ops.toList.map (·.dst)) r nt ss G0 w0 m0 S rsF G w mF a→Q .normal a w)
  (ri:RI h (ops.toList.map (·.dst)) r nt ss G0 w0 m0 (fun _=>false) rs G w m a) (hev:evIx call ss r (List.range ops.size) rs m=some (rsF,mF)):
  wpAny P .any ops Q ops.size (Array.replicate ops.size false) a w:=by
 obtain ⟨z0,y0,l0,c0,z1,y1,l1,c1,ps,hr,n1,n2,n3,n4,hbb⟩:=twoNew_some htn
 have hl:=(cOps_get codes rd.made).1
 obtain ⟨N,hN2,hps⟩:∃ N,ops.size=N+2∧ps.length=N:=⟨ps.length,by
  have:r.length=ops.size:=by rw [hl]; simp
  rw [← this,hr]; simp,rfl⟩
 have hp0:r[0]?=some ⟨.mksl z0 y0 l0 c0,none⟩:=by rw [hr]; rfl
 have hp1:r[1]?=some ⟨.mksl z1 y1 l1 c1,none⟩:=by rw [hr]; rfl
 have ho0:ops[0]?=some (ops[0]'(by omega)):=Array.getElem?_eq_getElem (by omega)
 have ho1:ops[1]?=some (ops[1]'(by omega)):=Array.getElem?_eq_getElem (by omega)
 generalize ops[0]'(by omega)=o0 at ho0
 generalize ops[1]'(by omega)=o1 at ho1
 have e0:∀ e∈o0.after,Region.binds .any e=true→False:=fun e he hb=>by have:=ro.edge 0 o0 ho0 e he hb; omega
 have b0:∀ j,(b.getD 0 0).testBit j=false:=fun j=>by
  cases hq:(b.getD 0 0).testBit j with
  | false=>rfl
  | true=>
   obtain ⟨e,he,hb,_⟩:=ro.bef 0 o0 ho0 j hq
   exact (e0 e he hb).elim
 have hrg:List.range ops.size=0 :: 1 :: List.range' 2 N:=by
  rw [hN2,List.range_eq_range',List.range'_succ,List.range'_succ]
 rw [hrg] at hev
 simp only [evIx,hp0] at hev
 split at hev
 ·cases hev
 rename_i v0 m1 hst0
 simp only [hp1] at hev
 split at hev
 ·cases hev
 rename_i v1 m2 hst1
 have hpr:(List.range' 1 (N+1)).Pairwise (·<·):=List.pairwise_lt_range' (s:=1) (n:=N+1)
 have hpr2:(List.range' 2 N).Pairwise (·<·):=List.pairwise_lt_range' (s:=2) (n:=N)
 have ready0:∀ listed:Array Bool,listed.size=ops.size→listed.getD 0 false=false→0∈Region.ready .any ops listed:=by
  intro listed hsz h0
  rw [mem_ready]
  refine ⟨?_,o0,ho0,fun e he hb=>(e0 e he hb).elim⟩
  have:0<listed.size:=by omega
  simpa [this] using h0
 have early:∀ (listed:Array Bool) (i:Nat),(∀ j,listed.getD j false=true→j≠0∧(b.getD j 0).testBit 0=false)→i∈Region.ready .any ops listed→i<2:=by
  intro listed i hlb hi
  apply Classical.byContradiction
  intro hn
  obtain ⟨_,o,ho,hall⟩:=mem_ready.1 hi
  have hio:i<ops.size:=(Array.getElem?_eq_some_iff.1 ho).1
  obtain ⟨e,he,hbi,h2⟩:=ro.bef i o ho 0 (hbb i (by omega) (by omega))
  obtain ⟨h3,h4⟩:=hlb e.on (hall e he hbi)
  rcases h2 with h2 | h2
  ·exact h3 h2.symm
  ·rw [h4] at h2; cases h2
 have notin:∀ listed:Array Bool,listed.size=ops.size→listed.getD 0 false=false→Region.ready .any ops listed≠[]:=by
  intro listed hsz h0 hr
  have:=ready0 listed hsz h0
  rw [hr] at this
  cases this
 have ap2:∀ (l:List Nat),(∀ j∈l,1≤j)→∀ (j i:Nat) (q p:Op),j∈l→i∈l→j<i→r[j]?=some q→r[i]?=some p→(b.getD i 0).testBit j=false→(fpO m.H.length (lkF rsF ss) q.o).comm (fpO m.H.length (lkF rsF ss) p.o)=true:=
  fun l hl1 j i q p hj _ hji hq hp hb=>hap j i q p (fun ⟨e,_⟩=>by have:=hl1 j hj; omega) hji hq hp hb
 obtain ⟨kl0,nl0,kc0,nc0,a1,a2,a3,a4,a5⟩:=stp_mksl hst0
 obtain ⟨kl1,nl1,kc1,nc1,d1,d2,d3,d4,d5⟩:=stp_mksl hst1
 rw [hN2]
 refine ⟨fun hr=>absurd hr (notin _ (by simp [hN2]) (getD_rep _ 0)),fun i hi=>?_⟩
 have hi2:i<2:=early _ i (fun j hj=>by rw [getD_rep] at hj; cases hj) hi
 match i,hi2 with
 | 0,_=>
  refine step_ok hT hE hV hH hN rd ri hls ho0 hp0 rfl (fun t ht j hj hne=>⟨fun h=>(by cases h),fun h=>(by omega)⟩) (fun j hj=>?_) hst0 fun x G' w' ri'=>?_
  ·have:=ro.refs 0 _ hp0 j hj
   omega
  ·have hL1:m.H.length≤m1.H.length:=stp_len hM hst0
   refine run_any (L:=m.H.length) hT hE hV hH hN hM rd ro hls hfin (N+1) (List.range' 1 (N+1)) _ (ins (fun _=>false) 0) _ G' w' m1 _ (by simp) (by simp [hN2]) (fun j hj=>?_) (fun j hj=>?_) (fun j hj=>?_) hpr (fun k hk hSk j hj=>?_) hL1
    (ap2 _ fun j hj=>(List.mem_range'_1.1 hj).1) ri' (by
     rw [List.range'_succ]
     simp only [evIx,hp1,hst1]
     exact hev)
   ·unfold ins
    by_cases e:j=0
    ·subst e; simp [hN2]
    ·rw [if_neg e,getD_set_ne false (Ne.symm e),getD_rep]
   ·unfold ins
    by_cases e:j=0
    ·subst e; simp [List.mem_range'_1]
    ·rw [if_neg e]
     simp only [Bool.false_eq_true,false_iff,Classical.not_not,List.mem_range'_1]
     omega
   ·have:=List.mem_range'_1.1 hj
    omega
   ·unfold ins at hSk
    by_cases e:k=0
    ·subst e; rw [b0 j] at hj; cases hj
    ·rw [if_neg e] at hSk; cases hSk
 | 1,_=>
  obtain ⟨_,o,ho,hall⟩:=mem_ready.1 hi
  rw [ho1] at ho; cases ho
  have b1:∀ j,(b.getD 1 0).testBit j=false:=fun j=>by
   cases hq:(b.getD 1 0).testBit j with
   | false=>rfl
   | true=>
    obtain ⟨e,he,hb,_⟩:=ro.bef 1 o1 ho1 j hq
    have:=hall e he hb
    rw [getD_rep] at this; cases this
  have rih:=ri.holes
  have f1:=(ri.mr.fresh (m.H.length+1) (by omega)).1
  have f0:=(ri.mr.fresh m.H.length (Nat.le_refl _)).1
  have g1:(m.H ++ [Obj.dead,.dead])[m.H.length+1]?=some .dead:=by rw [holes_get,if_neg (by omega),if_pos (by omega)]
  have g0:(m.H ++ [Obj.dead,.dead])[m.H.length]?=some .dead:=by rw [holes_get,if_neg (by omega),if_pos (by omega)]
  rw [noR_ref n3 (upd rs 0 v0) rs] at d1
  rw [noR_ref n4 (upd rs 0 v0) rs] at d2
  refine step_mk (id:=m.H.length+1) rd rih hls ho1 hp1 rfl (fun t ht j hj hne=>⟨fun h=>(by cases h),fun h=>?_⟩) rfl rfl n3 n4 d1 d2 d3 g1 f1 fun x1 G1 w1 ri1 k1=>?_
  ·obtain rfl:j=0:=by omega
   have:=ro.names 1 _ hp1 t ht 0 hj (by omega)
   rw [show max 1 0=1 from rfl,show min 1 0=0 from rfl,b1 0] at this
   cases this
  ·have hl1:∀ j,((Array.replicate (N+2) false).setIfInBounds 1 true).getD j false=decide (j=1):=by
    intro j
    by_cases e:j=1
    ·subst e; simp
    ·rw [getD_set_ne false (Ne.symm e),getD_rep]; simp [e]
   have sz1:((Array.replicate (N+2) false).setIfInBounds 1 true).size=ops.size:=by simp [hN2]
   refine ⟨fun hr=>absurd hr (notin _ sz1 (by rw [hl1]; rfl)),fun i hi=>?_⟩
   have hi3:i<2:=early _ i (fun j hj=>by
    rw [hl1] at hj
    obtain rfl:j=1:=by simpa using hj
    exact ⟨by omega,b1 0⟩) hi
   match i,hi3 with
   | 1,_=>
    obtain ⟨h,_⟩:=mem_ready.1 hi
    exfalso
    simp at h
   | 0,_=>
    have g2:((m.H ++ [Obj.dead,.dead]).set (m.H.length+1) (.arr (List.replicate nl1.toNat z1)))[m.H.length]?=some .dead:=by
     rw [List.getElem?_set_ne (by omega)]; exact g0
    have f2:G1.ha m.H.length=none:=by rw [k1 _ (by omega)]; exact f0
    refine step_mk (id:=m.H.length) rd ri1 hls ho0 hp0 (by simp [ins]) (fun t ht j hj hne=>⟨fun h=>?_,fun h=>(by omega)⟩) rfl rfl n1 n2 (by rw [noR_ref n1 _ rs]; exact a1) (by rw [noR_ref n2 _ rs]; exact a2) a3 g2 f2 fun x0 G2 w2 ri2 _=>?_
    ·exfalso
     obtain rfl:j=1:=by
      unfold ins at h
      by_cases e:j=1
      ·exact e
      ·rw [if_neg e] at h; cases h
     have:=ro.names 0 _ hp0 t ht 1 hj (by omega)
     rw [show max 0 1=1 from rfl,show min 0 1=0 from rfl,b1 0] at this
     cases this
    ·subst a4; subst d4
     have hm1:m1={ m with H:=m.H ++ [.arr (List.replicate nl0.toNat z0)] }:=a5
     have hHH:((m.H ++ [Obj.dead,.dead]).set (m.H.length+1) (.arr (List.replicate nl1.toNat z1))).set m.H.length (.arr (List.replicate nl0.toNat z0))=m.H ++ [Obj.arr (List.replicate nl0.toNat z0)] ++ [Obj.arr (List.replicate nl1.toNat z1)]:=by
      rw [List.set_append_right _ _ (by omega),List.set_append_right _ _ (by omega)]
      simp
     have hm2:m2={ m with H:=m.H ++ [Obj.arr (List.replicate nl0.toNat z0)] ++ [Obj.arr (List.replicate nl1.toNat z1)] }:=by rw [d5,hm1]
     have hl2:m1.H.length=m.H.length+1:=by rw [hm1]; simp
     have hrs:upd (upd rs 1 (.rsl (m.H.length+1) 0 nl1.toNat)) 0 (.rsl m.H.length 0 nl0.toNat)=upd (upd rs 0 (.rsl m.H.length 0 nl0.toNat)) 1 (.rsl m1.H.length 0 nl1.toNat):=by
      rw [hl2]
      funext j
      unfold upd
      by_cases e0:j=0
      ·subst e0; simp
      ·by_cases e1:j=1
       ·subst e1; simp
       ·simp [e0,e1]
     simp only [hHH,hrs] at ri2
     rw [← hm2] at ri2
     refine run_any (L:=m.H.length) hT hE hV hH hN hM rd ro hls hfin N (List.range' 2 N) _ (ins (ins (fun _=>false) 1) 0) _ G2 w2 m2 _ (by simp) (by simp [hN2]) (fun j hj=>?_) (fun j hj=>?_) (fun j hj=>?_) hpr2 (fun k hk hSk j hj=>?_) (by rw [hm2]; simp)
      (ap2 _ fun j hj=>by have:=(List.mem_range'_1.1 hj).1; omega) ri2 hev
     ·unfold ins
      by_cases e:j=0
      ·subst e; simp
      ·rw [if_neg e,getD_set_ne false (Ne.symm e),hl1]
       by_cases e1:j=1
       ·simp [e1]
       ·simp [e1]
     ·unfold ins
      by_cases e:j=0
      ·subst e; simp [List.mem_range'_1]
      ·rw [if_neg e]
       by_cases e1:j=1
       ·subst e1; simp [List.mem_range'_1]
       ·rw [if_neg e1]
        simp only [Bool.false_eq_true,false_iff,Classical.not_not,List.mem_range'_1]
        omega
     ·have:=List.mem_range'_1.1 hj
      omega
     ·unfold ins at hSk
      by_cases e:k=0
      ·subst e; rw [b0 j] at hj; cases hj
      ·rw [if_neg e] at hSk
       by_cases e1:k=1
       ·subst e1; rw [b1 j] at hj; cases hj
       ·rw [if_neg e1] at hSk; cases hSk
end
end Go.Vm
namespace Go.Vm
structure SI (h:Hint) (nt:Nat) (G:Gh) (w:World) (st:St) (a:Act):Prop where
 mr:MR G w st.m
 gi:GI h.gl G w
 sz:nt≤a.tmps.size
 df:a.defers=[]
 ln:st.s.length=h.slots.length
 sl:∀ t s,posIn t h.slots 0=some s→VR G w 2 (st.s.getD s .undef) (a.tmps.getD t undef)
 ps:∀ s,∃ y,VR G w 2 (st.s.getD s .undef) y
 lc:∀ s q,(st.s.getD s .undef).loc=some q→∃ t,h.slots[s]?=some t∧keepT h t=some (2 * q.2+if q.1 then 1 else 0)
theorem SI.heap {h:Hint} {nt:Nat} {G:Gh} {w w':World} {st:St} {a:Act} (hw:w'.heap=w.heap) (si:SI h nt G w st a):SI h nt G w' st a where
 mr:=si.mr.heap hw
 gi:=si.gi.mono (.heap hw)
 sz:=si.sz
 df:=si.df
 ln:=si.ln
 sl t s hs:=(si.sl t s hs).heap hw
 ps s:=by obtain ⟨y,hy⟩:=si.ps s; exact ⟨y,hy.heap hw⟩
 lc:=si.lc
theorem killV_pic {G:Gh} {w:World} {r:Nat} {kl:List (Bool × Nat)} {v:V} {y:Value} (h:VR G w r v y):VR G w r (killV kl v) y:=by
 unfold killV
 split
 ·split
  ·exact .undef _ _
  ·exact h
 ·exact h
theorem killV_loc {kl:List (Bool × Nat)} {v:V} {q:Bool × Nat} (h:(killV kl v).loc=some q):q ∉ kl:=by
 unfold killV at h
 split at h
 ·rename_i q' hq'
  split at h
  ·cases h
  ·rename_i hc
   rw [hq'] at h; cases h
   simpa using hc
 ·rename_i hq'
  rw [hq'] at h; cases h
theorem killS_getD (kl:List (Bool × Nat)) (ss:List V) (s:Nat):(killS kl ss).getD s .undef=killV kl (ss.getD s .undef):=by
 cases kl with
 | nil=>
  simp only [killS,killV]
  cases hq:(ss.getD s .undef).loc<;>simp
 | cons q kl=>
  simp only [killS,List.getD_eq_getElem?_getD,List.getElem?_map]
  cases ss[s]?<;>rfl
theorem killS_length (kl:List (Bool × Nat)) (ss:List V):(killS kl ss).length=ss.length:=by
 cases kl<;>simp [killS]
theorem slotV_ok {G:Gh} {w:World} {keep:Option Nat} {v u:V} {y:Value} (h:VR G w 2 v y) (hs:slotV keep v=some u):VR G w 2 u y:=by
 unfold slotV at hs
 split at hs
 ·rename_i j es
  split at hs
  ·cases hs; exact h
  ·cases hs
   cases h with
   | osl _ _ _ _ _ _ _ hi=>exact hi.up (by omega)
 ·split at hs
  ·rename_i hc
   cases hs
   obtain ⟨_,rfl⟩:=hc
   exact h
  ·cases hs
 ·cases hs
 ·cases hs
 ·cases hs; exact h
theorem slotV_loc {keep:Option Nat} {v u:V} {q:Bool × Nat} (hs:slotV keep v=some u) (hu:u.loc=some q):keep=some (2 * q.2+if q.1 then 1 else 0):=by
 unfold slotV at hs
 split at hs
 ·split at hs
  ·rename_i hk; cases hs; simp only [V.loc,Option.some.injEq] at hu; subst hu; simpa using hk
  ·cases hs; rw [ils_loc] at hu; cases hu
 ·split at hs
  ·rename_i hc; cases hs; simp only [V.loc,Option.some.injEq] at hu; subst hu; simpa using hc.1
  ·cases hs
 ·cases hs
 ·cases hs
 ·rename_i h1 h2 h3 h4
  cases hs
  unfold V.loc at hu
  split at hu
  ·exact absurd rfl (h2 _ _)
  ·exact absurd rfl (h3 _ _ _ _)
  ·exact absurd rfl (h1 _ _)
  ·cases hu
theorem killV_loc' {kl:List (Bool × Nat)} {v:V} {q:Bool × Nat} (h:(killV kl v).loc=some q):v.loc=some q:=by
 unfold killV at h
 split at h
 ·split at h
  ·cases h
  ·exact h
 ·exact h
theorem evOuts_ok {h:Hint} {ds:List (Option Nat)} {rs:List V}:∀ (ts:List Nat) (k:Nat) (ss ss':List V),evOuts rs (cOuts h ds ts k) ss=some ss' →
  ss'.length=ss.length∧(∀ s,s<k→ss'[s]?=ss[s]?)∧∀ (n t:Nat),ts[n]?=some t→k+n<ss.length →
   match lastIx t ds 0 with
   | some i=>∃ u,slotV (keepT h t) (rs.getD i .undef)=some u∧ss'[k+n]?=some u
   | none=>ss'[k+n]?=ss[k+n]?
 | [],k,ss,ss',hh=>by simp [cOuts,evOuts] at hh; subst hh; simp
 | t :: ts,k,ss,ss',hh=>by
  simp only [cOuts] at hh
  cases hl:lastIx t ds 0 with
  | none=>
   simp only [hl] at hh
   obtain ⟨h1,h2,h3⟩:=evOuts_ok ts (k+1) ss ss' hh
   refine ⟨h1,fun s hs=>h2 s (by omega),fun n t' hn hk=>?_⟩
   cases n with
   | zero=>simp at hn; subst hn; rw [hl]; exact h2 _ (by omega)
   | succ n=>
    have:=h3 n t' (by simpa using hn) (by omega)
    rwa [show k+1+n=k+(n+1) by omega] at this
  | some i=>
   simp only [hl,evOuts] at hh
   split at hh
   ·rename_i u hu
    obtain ⟨h1,h2,h3⟩:=evOuts_ok ts (k+1) (ss.set k u) ss' hh
    rw [List.length_set] at h1
    refine ⟨h1,fun s hs=>?_,fun n t' hn hk=>?_⟩
    ·rw [h2 s (by omega),List.getElem?_set_ne (by omega)]
    ·cases n with
     | zero=>
      simp at hn; subst hn
      rw [hl]
      refine ⟨u,hu,?_⟩
      have:=h2 k (by omega)
      rw [List.getElem?_set_self (by omega)] at this
      exact this
     | succ n=>
      have:=h3 n t' (by simpa using hn) (by simp; omega)
      rw [show k+1+n=k+(n+1) by omega] at this
      rwa [List.getElem?_set_ne (by omega)] at this
   ·cases hh
/-! ### what is forgotten -/
theorem set_getD (s:List V) (i j:Nat) (u:V):(s.set i u).getD j .undef=if i=j∧i<s.length then u else s.getD j .undef:=by
 simp only [List.getD_eq_getElem?_getD,List.getElem?_set]
 by_cases h:i=j
 ·subst h
  by_cases h2:i<s.length
  ·simp [h2]
  ·simp [h2]
 ·simp [h]
theorem undS_ok {h:Hint} {nt:Nat} {G:Gh} {w:World} {a:Act} {m:Mem}:∀ (ss:List Nat) (s:List V),SI h nt G w ⟨s,m⟩ a→SI h nt G w ⟨undS ss s,m⟩ a
 | [],s,si=>si
 | i :: ss,s,si=>by
  refine undS_ok ss (s.set i .undef) ⟨si.mr,si.gi,si.sz,si.df,by simpa using si.ln,fun t j hj=>?_,fun j=>?_,fun j q hq=>?_⟩
  ·show VR G w 2 ((s.set i .undef).getD j .undef) _
   rw [set_getD]
   split
   ·exact .undef _ _
   ·exact si.sl t j hj
  ·show ∃ y,VR G w 2 ((s.set i .undef).getD j .undef) y
   rw [set_getD]
   split
   ·exact ⟨undef,.undef _ _⟩
   ·exact si.ps j
  ·change ((s.set i .undef).getD j .undef).loc=some q at hq
   rw [set_getD] at hq
   split at hq
   ·simp [V.loc] at hq
   ·exact si.lc j q hq
theorem undS_none:∀ (ss:List Nat) (s:List V) (i:Nat),(undS ss s).length=s.length∧(i∈ss→(undS ss s).getD i .undef=.undef)∧((undS ss s).getD i .undef=.undef∨(undS ss s).getD i .undef=s.getD i .undef)
 | [],s,i=>by simp [undS]
 | k :: ss,s,i=>by
  obtain ⟨h1,h2,h3⟩:=undS_none ss (s.set k .undef) i
  refine ⟨by simpa [undS] using h1,fun hi=>?_,?_⟩
  ·show (undS ss (s.set k .undef)).getD i .undef=.undef
   rcases List.mem_cons.1 hi with rfl | hi
   ·rcases h3 with h3 | h3
    ·exact h3
    ·rw [h3,set_getD]
     split
     ·rfl
     ·rename_i hc
      simp only [true_and,Nat.not_lt] at hc
      rw [List.getD_eq_getElem?_getD,List.getElem?_eq_none hc]
      rfl
   ·exact h2 hi
  ·show (undS ss (s.set k .undef)).getD i .undef=.undef∨(undS ss (s.set k .undef)).getD i .undef=s.getD i .undef
   rcases h3 with h3 | h3
   ·exact .inl h3
   ·rw [h3,set_getD]
    split
    ·exact .inl rfl
    ·exact .inr rfl
theorem MR.emptyV {G:Gh} {w:World} {m:Mem} (hm:MR G w m) (j:Nat):MR { G with vb:=fun i=>if i=j then none else G.vb i } w { m with vars:=m.vars.set j [] }:=by
 have le:Le G w { G with vb:=fun i=>if i=j then none else G.vb i } w:=⟨fun _ _ _ h=>h,fun _ _ _ _=>rfl,fun _ _ h=>h,fun _ n h=>⟨n,h,Nat.le_refl _,fun _=>rfl⟩⟩
 have sub:∀ κ b,Own { G with vb:=fun i=>if i=j then none else G.vb i } { m with vars:=m.vars.set j [] } κ b→Own G m κ b:=by
  intro κ b hb
  cases κ with
  | v i=>
   simp only [Own] at hb ⊢
   split at hb
   ·cases hb
   ·exact hb
  | t i=>exact hb
  | h id=>exact hb
 exact {
  T0:=hm.T0
  T1:=hm.T1
  Ef:=hm.Ef
  Elt:=hm.Elt
  vars:=fun i b hb=>by
   simp only at hb
   split at hb
   ·cases hb
   ·rename_i hij
    obtain ⟨cs,h1,h2⟩:=hm.vars i b hb
    exact ⟨cs,by simp [List.getElem?_set,Ne.symm hij,h1],h2.mono le rfl⟩
  toks:=fun i b c s hb=>by
   obtain ⟨n,h1,h2⟩:=hm.toks i b c s hb
   exact ⟨n,h1,h2.mono rfl (fun _ _=>Iff.rfl)⟩
  arr:=fun id es he=>by
   obtain ⟨b,s,c,h1,h2⟩:=hm.arr id es he
   exact ⟨b,s,c,h1,h2.mono le rfl⟩
  mp:=hm.mp
  tok:=fun id n hn=>by
   obtain ⟨b,c,s,h1,h2⟩:=hm.tok id n hn
   exact ⟨b,c,s,h1,h2.mono rfl (fun _ _=>Iff.rfl)⟩
  fresh:=hm.fresh
  inj:=fun k k' b h1 h2=>hm.inj k k' b (sub _ _ h1) (sub _ _ h2)
  noV:=fun i b t o hb=>by
   simp only at hb
   split at hb
   ·cases hb
   ·exact hm.noV i b t o hb
  noH:=hm.noH }
theorem drop_one (P:Program) {h:Hint} {nt:Nat} {G:Gh} {w:World} {a:Act} {s:List V} {m:Mem} (q:Bool × Nat) (si:SI h nt G w ⟨s,m⟩ a) (hq:∀ i,(s.getD i .undef).loc≠some q):
  ∃ G',SI h nt G' w ⟨s,emptyM [q] m⟩ a∧Le G w G' w∧Fr G m w G' (emptyM [q] m) w:=by
 have fin:∀ (G':Gh) (m':Mem),Le G w G' w→LeL G G' (fun b j=>(b,j)=q)→MR G' w m'→SI h nt G' w ⟨s,m'⟩ a:=by
  intro G' m' le lel hm
  exact ⟨hm,si.gi.mono le,si.sz,si.df,si.ln,fun t j hj=>VR.mono le lel (si.sl t j hj) (fun p hp hk=>hq j (by rw [hp,← hk])),
   fun j=>by obtain ⟨y,hy⟩:=si.ps j; exact ⟨y,VR.mono le lel hy (fun p hp hk=>hq j (by rw [hp,← hk]))⟩,si.lc⟩
 obtain ⟨b,j⟩:=q
 cases b with
 | true=>
  have le:Le G w { G with vb:=fun i=>if i=j then none else G.vb i } w:=⟨fun _ _ _ h=>h,fun _ _ _ _=>rfl,fun _ _ h=>h,fun _ n h=>⟨n,h,Nat.le_refl _,fun _=>rfl⟩⟩
  refine ⟨_,fin _ _ le ⟨fun i b hk hb=>?_,fun i n hk hn=>⟨n,hn,Nat.le_refl _,fun _=>rfl⟩⟩ (si.mr.emptyV j),le,?_⟩
  ·have:i≠j:=fun e=>hk (by rw [e])
   simpa [this] using hb
  ·refine ⟨rfl,rfl,rfl,Nat.le_refl _,fun _ _ _=>rfl,fun κ b hb _=>⟨κ,?_⟩,fun _ _ _ _ _=>Iff.rfl,Nat.le_refl _,by simp [emptyM],rfl⟩
   cases κ with
   | v i=>
    simp only [Own] at hb ⊢
    split at hb
    ·cases hb
    ·exact hb
   | t i=>exact hb
   | h id=>exact hb
 | false=>
  by_cases hj:j<m.tk.length
  ·have r := x_onil (P := P) (e := fun _ => .slice none 0 0) (o := { op := .move (.const (.slice none 0 0)), dst := none, pos := "", after := #[], guard := none, type := 0 }) (y := .const (.slice none 0 0)) (k := fun b i => (b, i) = (false, j)) si.mr (.inl rfl) rfl hj rfl
   obtain ⟨x,w',G',hr,le,lel,hm,_,fr⟩:=r
   have hw:w'=w:=by
    rcases hr with hr | ⟨hr,_⟩
    ·simp [execOp] at hr; exact hr.2.symm
    ·simp [execOp] at hr
   subst hw
   exact ⟨G',fin _ _ le lel hm,le,fr⟩
  ·have e:emptyM [(false,j)] m=m:=by
    simp only [emptyM,List.set_eq_of_length_le (Nat.le_of_not_lt hj)]
   rw [e]
   exact ⟨G,si,.refl _ _,.refl _ _ _⟩
theorem drop_all (P:Program) {h:Hint} {nt:Nat} {w:World} {a:Act} {s:List V}:∀ (kl:List (Bool × Nat)) {G:Gh} {m:Mem},SI h nt G w ⟨s,m⟩ a→(∀ q∈kl,∀ i,(s.getD i .undef).loc≠some q) →
  ∃ G',SI h nt G' w ⟨s,emptyM kl m⟩ a∧Le G w G' w∧Fr G m w G' (emptyM kl m) w
 | [],G,m,si,_=>⟨G,si,.refl _ _,.refl _ _ _⟩
 | q :: kl,G,m,si,hk=>by
  obtain ⟨G1,s1,l1,f1⟩:=drop_one P q si (hk q (by simp))
  obtain ⟨G2,s2,l2,f2⟩:=drop_all P kl s1 (fun q hq=>hk q (by simp [hq]))
  have e:emptyM kl (emptyM [q] m)=emptyM (q :: kl) m:=by
   obtain ⟨b,j⟩:=q
   cases b<;>rfl
  rw [e] at s2 f2
  exact ⟨G2,s2,l1.trans l2,f1.trans f2⟩
theorem dropped (P:Program) {h:Hint} {nt:Nat} {G:Gh} {w:World} {a:Act} {st:St} {ss:List Nat} {kl:List (Bool × Nat)} (hd:dropOK h ss kl=true) (si:SI h nt G w st a):
  ∃ G',SI h nt G' w ⟨undS ss st.s,emptyM kl st.m⟩ a∧Le G w G' w∧Fr G st.m w G' (emptyM kl st.m) w:=by
 refine drop_all P kl (undS_ok ss st.s si) fun q hq i hi=>?_
 obtain ⟨u1,u2,u3⟩:=undS_none ss st.s i
 rcases u3 with u3 | u3
 ·rw [u3] at hi; simp [V.loc] at hi
 ·rw [u3] at hi
  obtain ⟨t,t1,t2⟩:=si.lc i q hi
  have h1:=List.all_eq_true.1 hd q hq
  have h2:=List.all_eq_true.1 h1 (t,i) (by rw [List.mem_zipIdx_iff_getElem?]; simpa using t1)
  simp only [Bool.or_eq_true,bne_iff_ne,ne_eq,List.contains_eq_mem,decide_eq_true_eq] at h2
  rcases h2 with h2 | h2
  ·exact h2 t2
  ·have:=u2 h2
   rw [← u3,this] at hi
   simp [V.loc] at hi
def toExit:Ex→Exit
 | .nrm=>.normal
 | .exit id=>.exit id
 | .ret=>.ret
section
variable {P:Program} {tg:Nat→Option Tg} {h:Hint} {nt:Nat} {call:CallT} {Q:Exit→Act→World→Prop} {G:Gh} {w:World} {a:Act} {st st':St}
theorem reg_ok {id:Nat} {dr:Bool} {codes:List Nat} {ops:Array Oper} {r:List Op} (hfo:P.follows .mixedOrders=true) (hT:TgOK P tg) (hE:EntOK P call) (hV:SndV P h.gl call) (hH:SndH P h.gl call) (hN:CallNL call) (hM:CallMono call)
  (rd:RD P tg h nt codes ops r) (hdr:dr=true→regOK h ops.toList (ops.toList.map (·.dst)) (befL ops.toList []) r=true)
  (hev:evReg call r (r.filterMap fun p=>resets p.o) (if dr then prsO (befL ops.toList []) r else []) (cOuts h (ops.toList.map (·.dst)) h.slots 0) st=some st') (si:SI h nt G w st a)
  (hQ:∀ G' w' a',SI h nt G' w' st' a'→Le G w G' w'→Fr G st.m w G' st'.m w'→Q .normal a' w'):(Code.region id ops dr).wp P Q a w:=by
 have hl:=(cOps_get codes rd.made).1
 generalize hkl:(r.filterMap fun p=>resets p.o)=kl at hev
 generalize hds:ops.toList.map (·.dst)=ds at *
 unfold evReg at hev
 cases hops:evOps call (killS kl st.s) r [] st.m with
 | none=>rw [hops] at hev; cases hev
 | some q=>
  obtain ⟨rs,m1⟩:=q
  rw [hops] at hev
  simp only at hev
  cases hprs:(if dr then prsO (befL ops.toList []) r else []).all (apart st.m.H.length r (lk rs (killS kl st.s))) with
  | false=>rw [hprs] at hev; simp at hev
  | true=>
   rw [hprs,if_pos rfl] at hev
   cases hss':evOuts rs (cOuts h ds h.slots 0) (killS kl st.s) with
   | none=>rw [hss'] at hev; cases hev
   | some ss'=>
    rw [hss'] at hev
    cases hev
    have hix:=evOps_ix (call:=call) r [] [] st.m rfl hops
    simp only [List.nil_append,List.length_nil] at hix
    have e0:(fun j=>([]:List V).getD j .undef)=fun _=>.undef:=by funext j; simp
    rw [e0] at hix
    have hls:∀ s q,((killS kl st.s).getD s .undef).loc=some q→¬ ∃ (i':Nat) (p':Op),r[i']?=some p'∧resets p'.o=some q:=by
     intro s q hq ⟨i',p',h1,h2⟩
     rw [killS_getD] at hq
     refine killV_loc hq ?_
     rw [← hkl]
     exact List.mem_filterMap.2 ⟨p',List.mem_of_getElem? h1,h2⟩
    have fin:∀ (w0:World),w0.heap=w.heap→w0.os=w.os→w0.tape=w.tape→w0.output=w.output→∀ S G1 w1 a1,(∀ j,j<ops.size→S j=true)→RI h ds r nt (killS kl st.s) G w0 st.m S (fun j=>rs.getD j .undef) G1 w1 m1 a1→Q .normal a1 w1:=by
     intro w0 e1 e2 e3 e4 S G1 w1 a1 hS ri
     have le0:Le G w G w0:=.heap e1
     have fr0:Fr G st.m w G st.m w0:=.heap e1 e2 e3 e4
     refine hQ G1 w1 a1 ?_ (le0.trans ri.le) (fr0.trans ri.fr)
     obtain ⟨o1,_,o3⟩:=evOuts_ok h.slots 0 _ _ hss'
     rw [killS_length] at o1 o3
     have last:∀ (t i:Nat),lastIx t ds 0=some i→VR G1 w1 2 (rs.getD i .undef) (a1.tmps.getD t undef):=by
      intro t i hi
      obtain ⟨_,b1,b2,b3⟩:=lastIx_some hi
      simp only [Nat.sub_zero,Nat.zero_add] at b1 b2 b3
      have hlen:ds.length=ops.size:=by rw [← hds]; simp
      exact ri.wr t i b2 (hS i (by omega)) fun j hj hd=>absurd hd (b3 j hj (by have:=(List.getElem?_eq_some_iff.1 hd).1; omega))
     refine ⟨ri.mr,ri.gi,ri.sz,ri.df,by rw [o1]; exact si.ln,fun t s hs=>?_,fun s=>?_,?_⟩
     ·obtain ⟨_,hst⟩:=posIn_some hs
      simp only [Nat.sub_zero] at hst
      have hlt:=(List.getElem?_eq_some_iff.1 hst).1
      have:=o3 s t hst (by rw [si.ln]; omega)
      simp only [Nat.zero_add] at this
      cases hx:lastIx t ds 0 with
      | some i=>
       simp only [hx] at this
       obtain ⟨u,u1,u2⟩:=this
       show VR G1 w1 2 (ss'.getD s .undef) _
       rw [List.getD_eq_getElem?_getD,u2]
       exact slotV_ok (last t i hx) u1
      | none=>
       simp only [hx] at this
       show VR G1 w1 2 (ss'.getD s .undef) _
       rw [List.getD_eq_getElem?_getD,this,← List.getD_eq_getElem?_getD]
       exact ri.sl t s hs fun j hj=>absurd hj (lastIx_none hx j)
     ·show ∃ y,VR G1 w1 2 (ss'.getD s .undef) y
      by_cases hlt:s<h.slots.length
      ·have hst:=List.getElem?_eq_getElem hlt
       have:=o3 s _ hst (by rw [si.ln]; omega)
       simp only [Nat.zero_add] at this
       cases hx:lastIx (h.slots[s]) ds 0 with
       | some i=>
        simp only [hx] at this
        obtain ⟨u,u1,u2⟩:=this
        rw [List.getD_eq_getElem?_getD,u2]
        exact ⟨_,slotV_ok (last _ i hx) u1⟩
       | none=>
        simp only [hx] at this
        rw [List.getD_eq_getElem?_getD,this,← List.getD_eq_getElem?_getD]
        exact ri.ps s
      ·rw [List.getD_eq_getElem?_getD,List.getElem?_eq_none (by rw [o1,si.ln]; omega)]
       exact ⟨undef,.undef _ _⟩
     ·intro s q hq
      change (ss'.getD s .undef).loc=some q at hq
      by_cases hlt:s<h.slots.length
      ·have hst:=List.getElem?_eq_getElem hlt
       have:=o3 s _ hst (by rw [si.ln]; omega)
       simp only [Nat.zero_add] at this
       refine ⟨_,hst,?_⟩
       cases hx:lastIx (h.slots[s]) ds 0 with
       | some i=>
        simp only [hx] at this
        obtain ⟨u,u1,u2⟩:=this
        rw [List.getD_eq_getElem?_getD,u2] at hq
        exact slotV_loc u1 hq
       | none=>
        simp only [hx] at this
        rw [List.getD_eq_getElem?_getD,this,← List.getD_eq_getElem?_getD,killS_getD] at hq
        obtain ⟨t,t1,t2⟩:=si.lc s q (killV_loc' hq)
        rw [hst] at t1; cases t1
        exact t2
      ·rw [List.getD_eq_getElem?_getD,List.getElem?_eq_none (by rw [o1,si.ln]; omega)] at hq
       simp [V.loc] at hq
    have start:∀ (w0:World),w0.heap=w.heap→RI h ds r nt (killS kl st.s) G w0 st.m (fun _=>false) (fun _=>.undef) G w0 st.m a:=by
     intro w0 e1
     have si0:=si.heap e1
     exact {
      mr:=si0.mr
      gi:=si0.gi
      sz:=si0.sz
      df:=si0.df
      le:=.refl _ _
      fr:=.refl _ _ _
      wr:=fun t i _ hS _=>by cases hS
      sl:=fun t s hs _=>by rw [killS_getD]; exact killV_pic (si0.sl t s hs)
      lr:=fun i q hS _ _=>by cases hS
      pr:=fun i hS=>by cases hS
      ps:=fun s=>by obtain ⟨y,hy⟩:=si0.ps s; exact ⟨y,by rw [killS_getD]; exact killV_pic hy⟩ }
    have hr:List.range' 0 r.length=List.range ops.size:=by rw [hl,List.range_eq_range']; simp
    subst hds
    cases dr with
    | false=>
     refine wp_region ?_
     rw [List.range_eq_range']
     rw [hl] at hix
     exact run_fixed hT hE hV hH hN rd hls (fin w rfl rfl rfl rfl) ops.size 0 (fun _=>false) _ G w st.m a (by omega) (fun j=>by simp) (start w rfl) (by simpa using hix)
    | true=>
     have ro:=RO.of (hdr rfl)
     refine wp_region_any hfo ?_
     have hap:∀ (j i:Nat) (q p:Op),¬ (j=0∧i=1∧twoNew (befL ops.toList []) r=true)→j<i→r[j]?=some q→r[i]?=some p→((befL ops.toList []).getD i 0).testBit j=false →
       (fpO st.m.H.length (lkF (fun j=>rs.getD j .undef) (killS kl st.s)) q.o).comm (fpO st.m.H.length (lkF (fun j=>rs.getD j .undef) (killS kl st.s)) p.o)=true:=by
      intro j i q p hn2 hji hq hp hb
      by_cases t1:touchy q.o=true
      ·by_cases t2:touchy p.o=true
       ·have hm:(j,i)∈prsO (befL ops.toList []) r:=by
         unfold prsO
         refine List.mem_flatMap.2 ⟨(q,j),List.mem_filter.2 ⟨by rw [List.mem_zipIdx_iff_getElem?]; exact hq,t1⟩,?_⟩
         refine List.mem_filterMap.2 ⟨(p,i),List.mem_filter.2 ⟨by rw [List.mem_zipIdx_iff_getElem?]; exact hp,t2⟩,?_⟩
         have hx:(j == 0 && i == 1 && twoNew (befL ops.toList []) r)=false:=by
          cases hc:(j == 0 && i == 1 && twoNew (befL ops.toList []) r) with
          | false=>rfl
          | true=>
           simp only [Bool.and_eq_true,beq_iff_eq] at hc
           exact absurd ⟨hc.1.1,hc.1.2,hc.2⟩ hn2
         simp only [hb,hji,hx,decide_true,Bool.not_false,Bool.and_self,if_true]
        have:=List.all_eq_true.1 hprs (j,i) (by simpa using hm)
        simp only [apart,hq,hp] at this
        rw [← lk_lkF]
        exact this
       ·rw [fpO_pure (by simpa using t2:touchy p.o=false)]
        simp only [Fp.comm,Fp.no,Bool.and_eq_true]
        refine ⟨⟨?_,?_⟩,?_⟩
        ·cases (fpO st.m.H.length (lkF (fun j=>rs.getD j .undef) (killS kl st.s)) q.o).v<;>rfl
        ·cases (fpO st.m.H.length (lkF (fun j=>rs.getD j .undef) (killS kl st.s)) q.o).t<;>rfl
        ·cases (fpO st.m.H.length (lkF (fun j=>rs.getD j .undef) (killS kl st.s)) q.o).h<;>rfl
      ·rw [fpO_pure (by simpa using t1:touchy q.o=false)]
       simp [Fp.comm,Fp.no,Tc.comm]
     by_cases htn:twoNew (befL ops.toList []) r=true
     ·exact run_two hT hE hV hH hN hM rd ro htn hls (fun j i q p hn2=>hap j i q p (fun hc=>hn2 ⟨hc.1,hc.2.1⟩)) (fin { w with drawn:=w.drawn+1 } rfl rfl rfl rfl) (start _ rfl) (by rw [← hr]; exact hix)
     ·exact run_any (L:=st.m.H.length) hT hE hV hH hN hM rd ro hls (fin { w with drawn:=w.drawn+1 } rfl rfl rfl rfl) ops.size (List.range ops.size) (Array.replicate ops.size false) (fun _=>false) _ G { w with drawn:=w.drawn+1 } st.m a
       (by simp) (by simp) (fun j hj=>by simp [hj]) (fun j hj=>by simp [hj]) (fun j hj=>by simpa using hj) List.pairwise_lt_range (fun i _ hS=>by cases hS) (Nat.le_refl _) (fun j i q p _ _ hji hq hp hb=>hap j i q p (fun hc=>htn hc.2.2) hji hq hp hb) (start _ rfl) (by rw [← hr]; exact hix)
theorem wp_loop_n {c:Code} (R:Nat→Act→World→Prop) (h0:∀ a w,¬ R 0 a w) (round:∀ n a w,R (n+1) a w→c.wp P (Exit.then (R n) Q) a w) (n:Nat) (hR:R n a w):(Code.loop c).wp P Q a w:=by
 intro b k cs
 have key:∀ n a w,R n a w→∃ e a' w',Q e a' w'∧Arrives P (lone (b.at a (.code c :: .inLoop c :: k)) cs w) b k cs e a' w':=by
  intro n
  induction n with
  | zero=>exact fun a w h=>absurd h (h0 a w)
  | succ n ih=>
   intro a w hI
   obtain ⟨e,a₁,w₁,hq,harr⟩:=round n a w hI b (.inLoop c :: k) cs
   cases e with
   | normal=>
    obtain ⟨e₂,a₂,w₂,hq₂,harr₂⟩:=ih a₁ w₁ hq
    exact ⟨e₂,a₂,w₂,hq₂,.of_steps (Steps.trans harr (.one step_inLoop)) harr₂⟩
   | exit id=>exact ⟨_,a₁,w₁,hq,.pass (x:=.inLoop c) rfl (fun _ _=>.inl (by simp)) harr⟩
   | goto l=>exact ⟨_,a₁,w₁,hq,.pass (x:=.inLoop c) rfl (fun _ _=>.inl (by simp)) harr⟩
   | ret=>exact ⟨_,a₁,w₁,hq,.pass (x:=.inLoop c) rfl (fun _ _=>.inl (by simp)) harr⟩
   | panic ch=>exact ⟨_,a₁,w₁,hq,.pass (x:=.inLoop c) rfl (fun _ _=>.inl (by simp)) harr⟩
   | outgrown=>exact ⟨_,a₁,w₁,hq,.pass (x:=.inLoop c) rfl (fun _ _=>.inl (by simp)) harr⟩
 obtain ⟨e,a',w',hq,harr⟩:=key n a w hR
 exact ⟨e,a',w',hq,.of_steps (.one step_loop) harr⟩
theorem evSeq {n : Nat} {x y z : C} (hz : (match x, y with
      | .skip, y => some y
      | x, .skip => some x
      | x, y => some (.seq x y)) = some z) (st : St) : evC call n z st = match evC call n x st with
      | some (.nrm, st') => evC call n y st'
      | r => r := by
  have gen : ∀ x st, (match evC call n x st with
      | some (.nrm, st') => evC call n .skip st'
      | r => r) = evC call n x st := by
    intro x st
    cases evC call n x st with
    | none => rfl
    | some p => obtain ⟨e, s⟩ := p; cases e <;> rfl
  split at hz
  · cases hz; rfl
  · cases hz; exact (gen _ st).symm
  · cases hz; rfl
theorem code_ok (hfo:P.follows .mixedOrders=true) (hT:TgOK P tg) (hE:EntOK P call) (hV:SndV P h.gl call) (hH:SndH P h.gl call) (hN:CallNL call) (hM:CallMono call) (n:Nat):
  ∀ (c:Code) (x:C),cC P tg h nt c=some x→∀ (st:St) (ex:Ex) (st':St) (G:Gh) (w:World) (a:Act) (Q:Exit→Act→World→Prop),evC call n x st=some (ex,st')→SI h nt G w st a →
   (∀ G' w' a',SI h nt G' w' st' a'→Le G w G' w'→Fr G st.m w G' st'.m w'→Q (toExit ex) a' w')→c.wp P Q a w:=by
 intro c
 induction c with
 | skip=>
  intro x hc st ex st' G w a Q hev si hQ
  simp only [cC,Option.some.injEq] at hc; subst hc
  simp only [evC,Option.some.injEq,Prod.mk.injEq] at hev
  obtain ⟨rfl,rfl⟩:=hev
  exact wp_skip (hQ G w a si (.refl _ _) (.refl _ _ _))
 | label l=>
  intro x hc st ex st' G w a Q hev si hQ
  simp only [cC,Option.some.injEq] at hc; subst hc
  simp only [evC,Option.some.injEq,Prod.mk.injEq] at hev
  obtain ⟨rfl,rfl⟩:=hev
  exact wp_label (hQ G w a si (.refl _ _) (.refl _ _ _))
 | ret=>
  intro x hc st ex st' G w a Q hev si hQ
  simp only [cC,Option.some.injEq] at hc; subst hc
  simp only [evC,Option.some.injEq,Prod.mk.injEq] at hev
  obtain ⟨rfl,rfl⟩:=hev
  exact wp_ret (hQ G w a si (.refl _ _) (.refl _ _ _))
 | exit id=>
  intro x hc st ex st' G w a Q hev si hQ
  simp only [cC,Option.some.injEq] at hc; subst hc
  simp only [evC,Option.some.injEq,Prod.mk.injEq] at hev
  obtain ⟨rfl,rfl⟩:=hev
  exact wp_exit (hQ G w a si (.refl _ _) (.refl _ _ _))
 | region id ops dr=>
  intro x hc st ex st' G w a Q hev si hQ
  simp only [cC] at hc
  split at hc
  ·rename_i r hr
   split at hc
   ·rename_i hck
    simp only [Bool.and_eq_true,List.all_eq_true] at hck
    have core:∀ (ex:Ex) (st':St) (Q:Exit→Act→World→Prop),evC call n (.reg r (r.filterMap fun p=>resets p.o) (if dr then prsO (befL ops.toList []) r else []) (cOuts h (ops.toList.map (·.dst)) h.slots 0)) st=some (ex,st') →
      (∀ G' w' a',SI h nt G' w' st' a'→Le G w G' w'→Fr G st.m w G' st'.m w'→Q (toExit ex) a' w')→(Code.region id ops dr).wp P Q a w:=by
     intro ex st' Q hev hQ
     simp only [evC] at hev
     split at hev
     ·rename_i st1 hst1
      cases hev
      refine reg_ok hfo hT hE hV hH hN hM ⟨hr,hck.1.1.1,hck.1.1.2,fun i t hi=>?_⟩ (fun hd=>?_) hst1 si hQ
      ·have:=hck.1.2 (some t) (List.mem_of_getElem? hi)
       simpa using this
      ·have:=hck.2
       simpa [hd] using this
     ·cases hev
    unfold withDrop at hc
    split at hc
    ·cases hc; exact core ex st' Q hev hQ
    ·cases hc; exact core ex st' Q hev hQ
    ·rename_i ss kl _
     split at hc
     ·rename_i hdo
      cases hc
      simp only [evC] at hev
      split at hev
      ·rename_i st1 hst1
       cases hev
       refine core .nrm st1 Q hst1 fun G' w' a' si' le' fr'=>?_
       obtain ⟨G2,s2,l2,f2⟩:=dropped P hdo si'
       exact hQ G2 w' a' s2 (le'.trans l2) (fr'.trans f2)
      ·exact core ex st' Q hev hQ
     ·cases hc
   ·cases hc
  ·cases hc
 | seq c d ihc ihd=>
  intro x hc st ex st' G w a Q hev si hQ
  simp only [cC] at hc
  split at hc
  ·cases hc
  ·rename_i x1 hx1
   split at hc
   ·cases hc
   ·rename_i y1 hy1
    rw [evSeq hc] at hev
    refine wp_seq ?_
    split at hev
    ·rename_i st1 hst1
     refine ihc _ hx1 st .nrm st1 G w a _ hst1 si fun G1 w1 a1 si1 le1 fr1=>?_
     exact ihd _ hy1 st1 ex st' G1 w1 a1 Q hev si1 fun G2 w2 a2 si2 le2 fr2=>hQ G2 w2 a2 si2 (le1.trans le2) (fr1.trans fr2)
    ·rename_i hne
     have hex:ex≠.nrm:=fun e=>hne st' (by rw [hev,e])
     refine ihc _ hx1 st ex st' G w a _ hev si fun G1 w1 a1 si1 le1 fr1=>?_
     have:=hQ G1 w1 a1 si1 le1 fr1
     cases ex with
     | nrm=>exact absurd rfl hex
     | exit id=>exact this
     | ret=>exact this
 | cond y c d ihc ihd=>
  intro x hc st ex st' G w a Q hev si hQ
  simp only [cC] at hc
  split at hc
  ·cases hc
  ·rename_i xx hx
   split at hc
   ·cases hc
   ·rename_i x1 hx1
    split at hc
    ·cases hc
    ·rename_i y1 hy1
     cases hc
     have hpic:∀ b,lk [] st.s xx=.bool b→a.eval y=.bool b:=by
      intro b hb
      cases y with
      | const v=>
       simp only [cX] at hx
       split at hx
       ·rename_i u hu
        cases hx
        have:=(cvV_ok (G:=G) (w:=w) hu).1 2
        have e:u=.bool b:=hb
        rw [e] at this
        exact this.bool_inv
       ·cases hx
      | func f=>simp only [cX,Option.some.injEq] at hx; subst hx; simp [lk] at hb
      | global g=>
       simp only [cX] at hx
       split at hx
       ·cases hx; simp [lk] at hb
       ·cases hx
      | tmp t=>
       simp only [cX,lastIx] at hx
       split at hx
       ·rename_i s hs
        cases hx
        have:=si.sl t s hs
        have e:st.s.getD s .undef=.bool b:=hb
        rw [e] at this
        exact this.bool_inv
       ·cases hx
     simp only [evC] at hev
     split at hev
     ·rename_i hb
      exact wp_cond_true (hpic _ hb) (ihc _ hx1 st ex st' G w a Q hev si hQ)
     ·rename_i hb
      exact wp_cond_false (hpic _ hb) (ihd _ hy1 st ex st' G w a Q hev si hQ)
     ·cases hev
 | block id c ihc=>
  intro x hc st ex st' G w a Q hev si hQ
  simp only [cC,Option.map_eq_some_iff] at hc
  obtain ⟨x1,hx1,rfl⟩:=hc
  simp only [evC] at hev
  refine wp_block ?_
  split at hev
  ·rename_i j st1 hst1
   refine ihc _ hx1 st (.exit j) st1 G w a _ hst1 si fun G1 w1 a1 si1 le1 fr1=>?_
   simp only [toExit,Exit.inBlock]
   split at hev
   ·rename_i hj
    rw [if_pos hj]
    cases hev
    exact hQ G1 w1 a1 si1 le1 fr1
   ·rename_i hj
    rw [if_neg hj]
    cases hev
    exact hQ G1 w1 a1 si1 le1 fr1
  ·rename_i hne
   refine ihc _ hx1 st ex st' G w a _ hev si fun G1 w1 a1 si1 le1 fr1=>?_
   have:=hQ G1 w1 a1 si1 le1 fr1
   cases ex with
   | nrm=>exact this
   | exit id=>exact absurd hev (hne id st')
   | ret=>exact this
 | loop c ihc=>
  intro x hc st ex st' G w a Q hev si hQ
  simp only [cC,Option.map_eq_some_iff] at hc
  obtain ⟨x1,hx1,rfl⟩:=hc
  simp only [evC] at hev
  refine wp_loop_n (fun k a1 w1=>∃ G1 st1,SI h nt G1 w1 st1 a1∧Le G w G1 w1∧Fr G st.m w G1 st1.m w1∧evLoop (evC call n x1) k st1=some (ex,st')) (fun a1 w1 ⟨G1,st1,_,_,_,hl⟩=>by simp [evLoop] at hl)
   (fun k a1 w1 ⟨G1,st1,si1,le1,fr1,hl⟩=>?_) n ⟨G,st,si,.refl _ _,.refl _ _ _,hev⟩
  simp only [evLoop] at hl
  split at hl
  ·rename_i st2 hst2
   exact ihc _ hx1 st1 .nrm st2 G1 w1 a1 _ hst2 si1 fun G2 w2 a2 si2 le2 fr2=>⟨G2,st2,si2,le1.trans le2,fr1.trans fr2,hl⟩
  ·rename_i hne
   have hex:ex≠.nrm:=fun e=>hne st' (by rw [hl,e])
   refine ihc _ hx1 st1 ex st' G1 w1 a1 _ hl si1 fun G2 w2 a2 si2 le2 fr2=>?_
   have:=hQ G2 w2 a2 si2 (le1.trans le2) (fr1.trans fr2)
   cases ex with
   | nrm=>exact absurd rfl hex
   | exit id=>exact this
   | ret=>exact this
 | scope c ihc=>
  intro x hc st ex st' G w a Q hev si hQ
  simp only [cC] at hc
  refine wp_scope_straight (ihc _ hc st ex st' G w a _ hev si fun G1 w1 a1 si1 le1 fr1=>?_)
  have:=hQ G1 w1 a1 si1 le1 fr1
  cases ex<;>exact this
 | _=>intro x hc; simp [cC] at hc
end
end Go.Vm
namespace Go.Vm
structure PgOK (P:Program) (tg:Nat→Option Tg) (p:Pg) (gl:List (Nat × List V)):Prop where
 ext:∀ f as,p.ext f as=none
 fn:∀ f ir,p.fn f=some ir→∃ (fn:Func) (h:Hint),P.funcs[f]?=some fn∧h.gl=gl∧cFn P tg h fn=some ir
/-! ### pure facts of evaluation -/
section
variable {call:CallT}
theorem evOps_len {ss:List V} (hM:CallMono call):∀ (ps:List Op) (rs:List V) (m:Mem) {rs':List V} {m':Mem},evOps call ss ps rs m=some (rs',m')→m.H.length≤m'.H.length
 | [],rs,m,rs',m',h=>by simp only [evOps,Option.some.injEq,Prod.mk.injEq] at h; rw [h.2]; exact Nat.le_refl _
 | p :: ps,rs,m,rs',m',h=>by
  simp only [evOps] at h
  split at h
  ·cases h
  ·exact evOps_len hM ps _ m h
  ·split at h
   ·rename_i v m1 hv
    exact Nat.le_trans (evO_len hM hv) (evOps_len hM ps _ m1 h)
   ·cases h
theorem evReg_len {ops:List Op} {kl:List (Bool × Nat)} {prs:List (Nat × Nat)} {outs:List (Nat × Nat × Option Nat)} {st st':St} (hM:CallMono call) (h:evReg call ops kl prs outs st=some st'):st.m.H.length≤st'.m.H.length:=by
 unfold evReg at h
 cases hops:evOps call (killS kl st.s) ops [] st.m with
 | none=>rw [hops] at h; cases h
 | some q=>
  obtain ⟨rs,m1⟩:=q
  rw [hops] at h
  simp only at h
  split at h
  ·cases hss:evOuts rs outs (killS kl st.s) with
   | none=>rw [hss] at h; cases h
   | some ss=>rw [hss] at h; cases h; exact evOps_len hM _ _ _ hops
  ·cases h
theorem emptyM_H:∀ (kl:List (Bool × Nat)) (m:Mem),(emptyM kl m).H=m.H
 | [],m=>rfl
 | (true,j) :: kl,m=>emptyM_H kl _
 | (false,j) :: kl,m=>emptyM_H kl _
theorem evC_len (hM:CallMono call) (n:Nat):∀ (c:C) (st:St) (ex:Ex) (st':St),evC call n c st=some (ex,st')→st.m.H.length≤st'.m.H.length:=by
 intro c
 induction c with
 | skip=>intro st ex st' h; simp only [evC,Option.some.injEq,Prod.mk.injEq] at h; rw [h.2]; exact Nat.le_refl _
 | ret=>intro st ex st' h; simp only [evC,Option.some.injEq,Prod.mk.injEq] at h; rw [h.2]; exact Nat.le_refl _
 | exit id=>intro st ex st' h; simp only [evC,Option.some.injEq,Prod.mk.injEq] at h; rw [h.2]; exact Nat.le_refl _
 | drop ss kl=>intro st ex st' h; simp only [evC,Option.some.injEq,Prod.mk.injEq] at h; rw [← h.2,emptyM_H]; exact Nat.le_refl _
 | reg ops kl prs outs=>
  intro st ex st' h
  simp only [evC] at h
  split at h
  ·rename_i s1 hs; cases h; exact evReg_len hM hs
  ·cases h
 | seq a b iha ihb=>
  intro st ex st' h
  simp only [evC] at h
  split at h
  ·rename_i s1 hs; exact Nat.le_trans (iha _ _ _ hs) (ihb _ _ _ h)
  ·exact iha _ _ _ h
 | cond x a b iha ihb=>
  intro st ex st' h
  simp only [evC] at h
  split at h
  ·exact iha _ _ _ h
  ·exact ihb _ _ _ h
  ·cases h
 | block id c ih=>
  intro st ex st' h
  simp only [evC] at h
  split at h
  ·rename_i hs
   split at h
   ·cases h; exact ih _ _ _ hs
   ·cases h; exact ih _ _ _ hs
  ·exact ih _ _ _ h
 | loop c ih=>
  intro st ex st' h
  simp only [evC] at h
  have key:∀ (k:Nat) (st:St) (ex:Ex) (st':St),evLoop (evC call n c) k st=some (ex,st')→st.m.H.length≤st'.m.H.length:=by
   intro k
   induction k with
   | zero=>intro st ex st' h; simp [evLoop] at h
   | succ k ihk=>
    intro st ex st' h
    simp only [evLoop] at h
    split at h
    ·rename_i hs; exact Nat.le_trans (ih _ _ _ hs) (ihk _ _ _ h)
    ·exact ih _ _ _ h
  exact key n st ex st' h
end
theorem toImm_loc {m:Mem} {t:Bool} {d:Nat} {v u:V} (h:toImm m t d v=some u):u.loc=none:=by
 cases d with
 | zero=>simp [toImm] at h
 | succ d=>
  cases v<;>simp only [toImm,Option.some.injEq,reduceCtorEq] at h<;>first
   | (subst h; rfl)
   | (subst h; exact ils_loc _)
   | skip
  all_goals (repeat' split at h)
  all_goals first
   | (cases h; done)
   | (simp only [Option.map_eq_some_iff] at h; obtain ⟨_,_,rfl⟩:=h; rfl)
theorem one_loc {ws:List V} (h:∀ w∈ws,w.loc=none):(one ws).loc=none:=by
 unfold one
 split
 ·exact h _ (by simp)
 ·rfl
theorem fin_loc {md:Md} {st:St} {rs:List RV} {v:V} {H:List Obj} (h:fin md st rs=some (v,H)):v.loc=none:=by
 unfold fin at h
 split at h
 ·cases h
 ·rename_i vs hvs
  split at h
  ·split at h
   ·rename_i ws hws
    cases h
    refine one_loc fun w hw=>?_
    obtain ⟨i,hi⟩:=List.getElem?_of_mem hw
    obtain ⟨u,_,hu⟩:=omap_back hws hi
    exact exp_loc hu
   ·cases h
  ·split at h
   ·rename_i ws hws
    cases h
    refine one_loc fun w hw=>?_
    obtain ⟨i,hi⟩:=List.getElem?_of_mem hw
    obtain ⟨u,_,hu⟩:=omap_back hws hi
    exact toImm_loc hu
   ·cases h
section
variable {P:Program} {gl:List (Nat × List V)} {tg:Nat→Option Tg} {p:Pg}
theorem evF_fn (hp:PgOK P tg p gl) {k:Nat} {md:Md} {f:Nat} {as:List V} {H:List Obj} {r:V} {H':List Obj} (h:evF p (k+1) md f as H=some (r,H')):
  ∃ ir ex st,p.fn f=some ir∧evC (evF p k) k ir.body (ini ir as H)=some (ex,st)∧(ex=.nrm∨ex=.ret)∧fin md st ir.res=some (r,H'):=by
 simp only [evF,hp.ext] at h
 split at h
 ·cases h
 ·rename_i ir hir
  split at h
  ·cases h
  ·rename_i ex st hne hst
   refine ⟨ir,ex,st,hir,hst,?_,h⟩
   cases ex with
   | nrm=>exact .inl rfl
   | ret=>exact .inr rfl
   | exit id=>exact absurd rfl (hne id)
  ·cases h
theorem evF_mono (hp:PgOK P tg p gl):∀ k,CallMono (evF p k)
 | 0,_,_,_,_,_,_,h,_=>by simp [evF] at h
 | k+1,md,f,as,H,r,H',h,hmd=>by
  obtain ⟨ir,ex,st,h1,h2,h3,h4⟩:=evF_fn hp h
  have:=evC_len (evF_mono hp k) k _ _ _ _ h2
  subst hmd
  unfold fin at h4
  split at h4
  ·cases h4
  ·simp only at h4
   split at h4
   ·cases h4; exact this
   ·cases h4
theorem evF_nl (hp:PgOK P tg p gl):∀ k,CallNL (evF p k)
 | 0,_,_,_,_,_,_,h=>by simp [evF] at h
 | k+1,md,f,as,H,r,H',h=>by
  obtain ⟨ir,ex,st,h1,h2,h3,h4⟩:=evF_fn hp h
  exact fin_loc h4
theorem cFn_ok {h : Hint} {fn : Func} {ir : Fn} (hc : cFn P tg h fn = some ir) : (fn.name == "runtime.NumGoroutine") = false ∧ ∃ b c r, fn.body = some b ∧ cC P tg h fn.ntmps b = some c ∧ cRes P h fn.results.toList = some r ∧ ir = ⟨h.slots, h.vars.length, h.toks.length, r, c⟩ := by
 unfold cFn at hc
 split at hc
 ·cases hc
 ·rename_i hn
  split at hc
  ·cases hc
  ·rename_i b hb
   split at hc
   ·cases hc
   ·rename_i c hcc
    split at hc
    ·cases hc
    ·rename_i r hr
     cases hc
     exact ⟨by simpa using hn,b,c,r,hb,hcc,hr,rfl⟩
theorem evF_ent (hp:PgOK P tg p gl) (k:Nat):EntOK P (evF p k):=by
 intro md f as H r h args w
 cases k with
 | zero=>simp [evF] at h
 | succ k=>
  obtain ⟨v,H'⟩:=r
  obtain ⟨ir,ex,st,h1,h2,h3,h4⟩:=evF_fn hp h
  obtain ⟨fn,hh,h5,_,h6⟩:=hp.fn f ir h1
  obtain ⟨h7,b,c,rr,h8,_⟩:=cFn_ok h6
  have h7' : ¬ fn.name = "runtime.NumGoroutine" := by simpa using h7
  simp [callFunc,h5,h7',h8]
/-! ### results -/
def resF (tmps:Array Value):ResultVar→Sem Value
 | .tmp t=>pure (tmps.getD t undef)
 | .cell x t=>do loadVar t (← asAddr (tmps.getD x undef))
def resJ (vs:Array Value):Value:=if h:vs.size=1 then vs[0] else .tuple vs
theorem results_F (fn:Func) (tmps:Array Value):results fn tmps=(fn.results.mapM (resF tmps)).bind fun vs=>Sem.pure (resJ vs):=rfl
theorem res_ok {h:Hint} {nt:Nat} {G:Gh} {w:World} {st:St} {a:Act} (si:SI h nt G w st a):∀ (l:List ResultVar) (rs:List RV) (vs:List V),cRes P h l=some rs→resV st rs=some vs →
  ∃ ys:List Value,(l.mapM (resF a.tmps)).run P w=.ok ys w∧ys.length=vs.length∧∀ (i:Nat) (v:V),vs[i]?=some v→VR G w 2 v (ys.getD i undef)
 | [],rs,vs,hc,hr=>by
  simp only [cRes,Option.some.injEq] at hc; subst hc
  simp only [resV,Option.some.injEq] at hr; subst hr
  exact ⟨[],by simp,rfl,by simp⟩
 | r :: l,rs,vs,hc,hr=>by
  simp only [cRes] at hc
  split at hc
  ·cases hc
  ·rename_i q hq
   have key:∀ (v0:V) (y:Value) (rest:List V),vs=v0 :: rest→resV st q=some rest→VR G w 2 v0 y→(resF a.tmps r).run P w=.ok y w →
     ∃ ys:List Value,((r :: l).mapM (resF a.tmps)).run P w=.ok ys w∧ys.length=vs.length∧∀ (i:Nat) (v:V),vs[i]?=some v→VR G w 2 v (ys.getD i undef):=by
    intro v0 y rest e2 e3 e4 e5
    obtain ⟨ys,h1,h2,h3⟩:=res_ok si l q rest hq e3
    refine ⟨y :: ys,?_,by simp [e2,h2],fun i v hi=>?_⟩
    ·simp only [List.mapM_cons,Sem.run_bind]
     rw [e5]
     simp only [Result.andThen_ok]
     rw [h1]
     simp
    ·subst e2
     cases i with
     | zero=>simp at hi; subst hi; simpa using e4
     | succ i=>simpa using h3 i v (by simpa using hi)
   split at hc
   ·rename_i t
    split at hc
    ·rename_i s hs
     cases hc
     simp only [resV] at hr
     split at hr
     ·rename_i vs' hvs'
      cases hr
      exact key _ (a.tmps.getD t undef) vs' rfl hvs' (si.sl t s hs) (by simp [resF])
     ·cases hr
    ·cases hc
   ·rename_i x t
    split at hc
    ·rename_i s ag n hs hag hn
     cases hc
     simp only [resV] at hr
     split at hr
     ·cases hr
     ·rename_i v0 hv0
      split at hr
      ·rename_i vs' hvs'
       cases hr
       have hpic:=si.sl x s hs
       obtain ⟨b,o,e1,z,e2,e3⟩:=evLoad_ok si.mr hpic hag hn hv0
       exact key _ z vs' rfl hvs' e3 (by simp only [resF]; rw [e1]; simp [asAddr,e2])
      ·cases hr
    ·cases hc
theorem results_ok {h:Hint} {nt:Nat} {G:Gh} {w:World} {st:St} {a:Act} {fn:Func} {rs:List RV} {vs:List V} (si:SI h nt G w st a) (hc:cRes P h fn.results.toList=some rs) (hr:resV st rs=some vs):
  ∃ ys:List Value,(results fn a.tmps).run P w=.ok (resJ ys.toArray) w∧ys.length=vs.length∧∀ (i:Nat) (v:V),vs[i]?=some v→VR G w 2 v (ys.getD i undef):=by
 obtain ⟨ys,h1,h2,h3⟩:=res_ok si _ _ _ hc hr
 refine ⟨ys,?_,h2,h3⟩
 rw [results_F,Array.mapM_eq_mapM_toList]
 show ((List.toArray <$> fn.results.toList.mapM (resF a.tmps)) >>= fun vs=>Pure.pure (resJ vs)).run P w=_
 simp [h1]
theorem one_pic {G:Gh} {w:World} {r:Nat} {ws:List V} {ys:List Value} (hl:ys.length=ws.length) (hx:∀ (i:Nat) (v:V),ws[i]?=some v→VR G w (min r 1) v (ys.getD i undef)):VR G w r (one ws) (resJ ys.toArray):=by
 match ws,ys,hl,hx with
 | [v],[y],_,hx=>
  have:=hx 0 v rfl
  show VR G w r v (resJ #[y])
  exact VR.up (by simpa [resJ] using this) (Nat.min_le_left _ _)
 | [],[],_,hx=>exact .tup r [] #[] rfl (by simp)
 | v :: v' :: ws,y :: y' :: ys,hl,hx=>
  have e:resJ (y :: y' :: ys).toArray=.tuple (y :: y' :: ys).toArray:=by unfold resJ; rw [dif_neg (by simp)]
  rw [e]
  exact .tup r _ _ (by simpa using hl) fun j u hj=>by
   have:=hx j u hj
   simpa [Array.getD_eq_getD_getElem?,List.getD_eq_getElem?_getD] using this
theorem start_ok {fn:Func} {h:Hint} {ir:Fn} {G:Gh} {w:World} {args:List V} {xs:Array Value} {r:Nat} {H:List Obj} (hs:ir.slots=h.slots) (hm:MR G w (ini ir args H).m) (hg:GI h.gl G w) (hsz:xs.size=args.length) (hr:r≤1)
  (hx:∀ (i:Nat) (v:V),args[i]?=some v→VR G w r v (xs.getD i undef)):SI h fn.ntmps G w (ini ir args H) ⟨xs ++ Array.replicate (fn.ntmps - xs.size) undef,[]⟩ where
 mr:=hm
 gi:=hg
 sz:=by simp; omega
 df:=rfl
 ln:=by simp [ini,hs]
 sl t s hp:=by
  obtain ⟨_,h1⟩:=posIn_some hp
  simp only [Nat.sub_zero] at h1
  have e:(ini ir args H).s.getD s .undef=args.getD t .undef:=by
   simp [ini,hs,List.getD_eq_getElem?_getD,h1]
  rw [e]
  by_cases ht:t<args.length
  ·have h2:=hx t _ (List.getElem?_eq_getElem ht)
   have e2:(xs ++ Array.replicate (fn.ntmps - xs.size) undef).getD t undef=xs.getD t undef:=by
    simp only [Array.getD_eq_getD_getElem?]
    rw [Array.getElem?_append_left (by omega)]
   rw [e2,List.getD_eq_getElem?_getD,List.getElem?_eq_getElem ht]
   exact h2.up (by omega)
  ·rw [List.getD_eq_getElem?_getD,List.getElem?_eq_none (by omega)]
   exact .undef _ _
 ps s:=by
  have e:(ini ir args H).s.getD s .undef=.undef∨∃ t,(ini ir args H).s.getD s .undef=args.getD t .undef:=by
   simp only [ini,List.getD_eq_getElem?_getD,List.getElem?_map]
   cases ir.slots[s]? with
   | none=>exact .inl rfl
   | some t=>exact .inr ⟨t,rfl⟩
  rcases e with e | ⟨t,e⟩
  ·rw [e]; exact ⟨undef,.undef _ _⟩
  ·rw [e]
   by_cases ht:t<args.length
   ·rw [List.getD_eq_getElem?_getD,List.getElem?_eq_getElem ht]
    exact ⟨_,(hx t _ (List.getElem?_eq_getElem ht)).up (by omega)⟩
   ·rw [List.getD_eq_getElem?_getD,List.getElem?_eq_none (by omega)]
    exact ⟨undef,.undef _ _⟩
 lc s q hq:=by
  have e:(ini ir args H).s.getD s .undef=.undef∨∃ t,(ini ir args H).s.getD s .undef=args.getD t .undef:=by
   simp only [ini,List.getD_eq_getElem?_getD,List.getElem?_map]
   cases ir.slots[s]? with
   | none=>exact .inl rfl
   | some t=>exact .inr ⟨t,rfl⟩
  rcases e with e | ⟨t,e⟩
  ·rw [e] at hq; simp [V.loc] at hq
  ·rw [e] at hq
   by_cases ht:t<args.length
   ·rw [List.getD_eq_getElem?_getD,List.getElem?_eq_getElem ht] at hq
    have:=(hx t _ (List.getElem?_eq_getElem ht)).loc1 hr
    simp only [Option.getD_some] at hq
    rw [this] at hq; cases hq
   ·rw [List.getD_eq_getElem?_getD,List.getElem?_eq_none (by omega)] at hq
    simp [V.loc] at hq
def G0V (E:Bool→Nat→Nat→Prop) (nt:Nat):Gh:=⟨E,fun _=>none,fun _ _=>none,fun _=>none,fun h j=>if h then none else (List.replicate nt 0)[j]?⟩
theorem own0V {E:Bool→Nat→Nat→Prop} {nt nv:Nat} {κ:Key} {b:Nat}:¬ Own (G0V E nt) ⟨List.replicate nv [],List.replicate nt 0,[]⟩ κ b:=by
 cases κ<;>simp [Own,G0V]
theorem mr0V {E:Bool→Nat→Nat→Prop} {w:World} {nt nv:Nat} (h1:∀ b o,E false b o→E true b o) (h2:∀ t b o,E t b o→b<w.heap.size):MR (G0V E nt) w ⟨List.replicate nv [],List.replicate nt 0,[]⟩ where
 T0 j:=by simp [G0V]
 T1 j:=by simp [G0V]
 Ef:=h1
 Elt:=h2
 vars j b h:=by simp [G0V] at h
 toks j b c s h:=by simp [G0V] at h
 arr id es h:=by simp at h
 mp id es h:=by simp at h
 tok id n h:=by simp at h
 fresh id h:=by simp [G0V]
 inj k k' b h:=absurd h own0V
 noV j b t o h:=by simp [G0V] at h
 noH id es b s c t o h:=by simp at h
def G0H (G:Gh) (nt:Nat):Gh:={ G with vb:=fun _=>none,ob:=fun h j=>if h then G.ob true j else none,T:=fun h j=>if h then G.T true j else (List.replicate nt 0)[j]? }
theorem le0H (G:Gh) (nt:Nat) (w:World):Le G w (G0H G nt) w:=⟨fun _ _ _ h=>h,fun _ _ _ _=>rfl,fun _ _ h=>h,fun _ n h=>⟨n,by simpa [G0H] using h,Nat.le_refl _,fun _=>by simp [G0H]⟩⟩
theorem own0H {G:Gh} {H:List Obj} {nt nv:Nat} {κ:Key} {b:Nat} (h:Own (G0H G nt) ⟨List.replicate nv [],List.replicate nt 0,H⟩ κ b):∃ id,κ=.h id∧Own G ⟨[],[],H⟩ (.h id) b:=by
 cases κ with
 | v j=>simp [Own,G0H] at h
 | t j=>simp [Own,G0H] at h
 | h id=>
  refine ⟨id,rfl,?_⟩
  simp only [Own] at h ⊢
  cases hid:H[id]? with
  | none=>simp [hid] at h
  | some ob=>cases ob<;>(simp [hid,G0H] at h ⊢<;>exact h)
theorem mr0H {G:Gh} {w:World} {H:List Obj} {nt nv:Nat} (hm:MR G w ⟨[],[],H⟩):MR (G0H G nt) w ⟨List.replicate nv [],List.replicate nt 0,H⟩ where
 T0 j:=by simp [G0H]
 T1 j:=by simpa [G0H] using hm.T1 j
 Ef:=hm.Ef
 Elt:=hm.Elt
 vars j b h:=by simp [G0H] at h
 toks j b c s h:=by simp [G0H] at h
 arr id es h:=by
  obtain ⟨b,s,c,h1,h2⟩:=hm.arr id es h
  exact ⟨b,s,c,h1,h2.mono (le0H G nt w) rfl⟩
 mp:=hm.mp
 tok id n h:=by
  obtain ⟨b,c,s,h1,h2⟩:=hm.tok id n h
  exact ⟨b,c,s,by simpa [G0H] using h1,h2.mono rfl (fun _ _=>Iff.rfl)⟩
 fresh id h:=by simpa [G0H] using hm.fresh id h
 inj k k' b h h':=by
  obtain ⟨i,rfl,h1⟩:=own0H h
  obtain ⟨j,rfl,h2⟩:=own0H h'
  exact hm.inj _ _ _ h1 h2
 noV j b t o h:=by simp [G0H] at h
 noH:=hm.noH
theorem snd_all (hfo:P.follows .mixedOrders=true) (hT:TgOK P tg) (hp:PgOK P tg p gl):∀ k,SndV P gl (evF p k)∧SndH P gl (evF p k)
 | 0=>⟨fun f args r H' h=>by simp [evF] at h,fun f args H r H' h=>by simp [evF] at h⟩
 | k+1=>by
  obtain ⟨ihV,ihH⟩:=snd_all hfo hT hp k
  constructor
  ·intro f args r H' h E w xs hEf hElt hgi hsz hpic
   obtain ⟨ir,ex,st,h1,h2,h3,h4⟩:=evF_fn hp h
   obtain ⟨fn,hh,h5,hgl,h6⟩:=hp.fn f ir h1
   obtain ⟨_,b,c,rr,h7,h8,h9,rfl⟩:=cFn_ok h6
   have hm0:MR (G0V E hh.toks.length) w (ini ⟨hh.slots,hh.vars.length,hh.toks.length,rr,c⟩ args []).m:=mr0V hEf hElt
   have si0:=start_ok (fn:=fn) (h:=hh) (ir:=⟨hh.slots,hh.vars.length,hh.toks.length,rr,c⟩) (args:=args) (xs:=xs) (H:=[]) (r:=0) rfl hm0 (fun q hq=>VR.mono0 (G:=Gh.imm E) (G':=G0V E hh.toks.length) (w:=w) (w':=w) (fun _ _ _ h=>h) (fun _ _ _ _=>rfl) (hgi q (hgl ▸ hq)) rfl) hsz (by omega)
    (fun i v hi=>VR.mono0 (G:=Gh.imm E) (G':=G0V E hh.toks.length) (w:=w) (w':=w) (fun _ _ _ h=>h) (fun _ _ _ _=>rfl) (hpic i v hi) rfl)
   refine calls_of_wp h5 h7 (code_ok hfo hT (evF_ent hp k) (hgl ▸ ihV) (hgl ▸ ihH) (evF_nl hp k) (evF_mono hp k) k b c h8 _ ex st _ w _ _ h2 si0 fun G' w' a' si' le fr=>?_)
   have fin':a'.defers=[]∧∃ v,(results fn a'.tmps).run P w'=.ok v w'∧∃ x,Ending.returned v=.returned x∧VR (Gh.imm (extE E w w')) w' 0 r x∧FrI w w':=by
    refine ⟨si'.df,?_⟩
    unfold fin at h4
    split at h4
    ·cases h4
    ·rename_i vs hvs
     simp only at h4
     split at h4
     ·rename_i ws hws
      cases h4
      obtain ⟨ys,y1,y2,y3⟩:=results_ok si' h9 hvs
      refine ⟨_,y1,_,rfl,?_,⟨fr.os,fr.tape,fr.output,fr.size,fun b hb=>fr.kept b hb fun κ=>own0V⟩⟩
      have hE':∀ t b o,G'.E t b o→extE E w w' t b o:=by
       intro t b o he
       by_cases hb:b<w.heap.size
       ·exact .inl ((fr.E b o hb (fun κ=>own0V) t).1 he)
       ·exact .inr ⟨by omega,si'.mr.Elt t b o he⟩
      have new:∀ κ b,Own G' st.m κ b→w.heap.size≤b:=by
       intro κ b ho
       apply Classical.byContradiction
       intro hb
       obtain ⟨κ',h'⟩:=fr.sub κ b ho (by omega)
       exact own0V h'
      refine one_pic (by rw [y2,(omap_ok hws).1]) fun i u hu=>?_
      obtain ⟨v,e1,e2⟩:=omap_back hws hu
      refine toImm_ok (tt:=false) hE' (fun id es b s c q1 q2=>?_) (fun j b cs q1 q2=>?_) depth (y3 i v e1) e2
      ·obtain ⟨b',s',c',q3,q4⟩:=si'.mr.arr id es q1
       rw [q2] at q3; cases q3
       exact ⟨q4,fun o=>.inr ⟨new (.h id) b (by simp only [Own,q1]; exact ⟨s,c,q2⟩),q4.lt⟩⟩
      ·obtain ⟨cs',q3,q4⟩:=si'.mr.vars j b q1
       rw [q2] at q3; cases q3
       exact ⟨q4,fun o=>.inr ⟨new (.v j) b q1,q4.lt⟩⟩
     ·cases h4
   rcases h3 with rfl | rfl
   ·exact fin'
   ·exact fin'
  ·intro f args H r H' h G w xs hm hgi hsz hpic
   obtain ⟨ir,ex,st,h1,h2,h3,h4⟩:=evF_fn hp h
   obtain ⟨fn,hh,h5,hgl,h6⟩:=hp.fn f ir h1
   obtain ⟨_,b,c,rr,h7,h8,h9,rfl⟩:=cFn_ok h6
   have hm0:MR (G0H G hh.toks.length) w (ini ⟨hh.slots,hh.vars.length,hh.toks.length,rr,c⟩ args H).m:=mr0H hm
   have si0:=start_ok (fn:=fn) (h:=hh) (ir:=⟨hh.slots,hh.vars.length,hh.toks.length,rr,c⟩) (args:=args) (xs:=xs) (H:=H) (r:=1) rfl hm0 (hgl ▸ hgi.mono (le0H G hh.toks.length w)) hsz (by omega)
    (fun i v hi=>(hpic i v hi).mono1 (le0H G hh.toks.length w) (Nat.le_refl _))
   refine calls_of_wp h5 h7 (code_ok hfo hT (evF_ent hp k) (hgl ▸ ihV) (hgl ▸ ihH) (evF_nl hp k) (evF_mono hp k) k b c h8 _ ex st _ w _ _ h2 si0 fun G' w' a' si' le fr=>?_)
   have fin':a'.defers=[]∧∃ v,(results fn a'.tmps).run P w'=.ok v w'∧∃ x G'',Ending.returned v=.returned x∧Le G w G'' w'∧MR G'' w' ⟨[],[],H'⟩∧VR G'' w' 1 r x∧Fr G ⟨[],[],H⟩ w G'' ⟨[],[],H'⟩ w':=by
    refine ⟨si'.df,?_⟩
    unfold fin at h4
    split at h4
    ·cases h4
    ·rename_i vs hvs
     simp only at h4
     split at h4
     ·rename_i ws hws
      cases h4
      obtain ⟨ys,y1,y2,y3⟩:=results_ok si' h9 hvs
      refine ⟨_,y1,_,G'.glob,rfl,((le0H G hh.toks.length w).trans le).trans (glob_le G' w'),glob_mr si'.mr,?_,?_⟩
      ·refine one_pic (by rw [y2,(omap_ok hws).1]) fun i u hu=>?_
       obtain ⟨v,e1,e2⟩:=omap_back hws hu
       exact (exp_ok e2 (y3 i v e1)).1.mono1 (glob_le G' w') (Nat.le_refl _)
      ·have no:∀ {b:Nat},(∀ κ,¬ Own G ⟨[],[],H⟩ κ b)→∀ κ,¬ Own (G0H G hh.toks.length) (ini ⟨hh.slots,hh.vars.length,hh.toks.length,rr,c⟩ args H).m κ b:=by
        intro b hn κ ho
        obtain ⟨id,rfl,h'⟩:=own0H ho
        exact hn _ h'
       exact {
        os:=fr.os
        tape:=fr.tape
        output:=fr.output
        size:=fr.size
        kept:=fun b hb hn=>fr.kept b hb (no hn)
        sub:=fun κ b ho hb=>by
         obtain ⟨id,rfl,h'⟩:=glob_own ho
         obtain ⟨κ',h''⟩:=fr.sub (.h id) b (h' st.m rfl) hb
         obtain ⟨id',rfl,h3⟩:=own0H h''
         exact ⟨_,h3⟩
        E:=fun b o hb hn t=>fr.E b o hb (no hn) t
        len:=fr.len
        vl:=⟨rfl,rfl⟩ }
     ·cases h4
   rcases h3 with rfl | rfl
   ·exact fin'
   ·exact fin'
end
end Go.Vm
