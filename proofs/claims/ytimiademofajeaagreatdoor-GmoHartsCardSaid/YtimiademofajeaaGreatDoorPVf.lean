/- The machine, part Vf: a small evaluation of the given code, and that the given code comes to what it says (no claim; lemmas). -/
import Derived.Test.YtimiademofajeaaGreatDoorPVe
import Derived.ChangeArms
import Derived.WalkKit
import Derived.ProofKit
import Derived.OpenShut
import Derived.Below
import Derived.ChangeSame
import Derived.WideKeyArgs
import Derived.LaidMore
import Derived.Lay
import Derived.MakeChecks
import Derived.Handed
import Derived.LaidLaws
import Derived.Stop.Joined
set_option linter.unusedSimpArgs false
set_option linter.unusedVariables false
namespace Go.Vm
def contig (P:Program):List (TypeId × Nat)→Nat→Nat→Bool
 | [],a,b=>a == b
 | (t,o) :: l,a,b=>o == a && contig P l (a+P.cellsOf t) b
def plainT (P:Program):Nat→TypeId→Bool
 | 0,_=>false
 | n+1,t=>match P.underlying t with
  | some .bool | some (.int _) | some (.float .f64) | some .string=>true
  | some (.slice e)=>plainT P n e && P.cellsOf e != 0
  | some (.struct fs)=>(fs.toList.all fun f=>plainT P n f.type) && contig P (fs.toList.map fun f=>(f.type,f.offset)) 0 (P.cellsOf t)
  | some (.array k e)=>plainT P n e && contig P ((List.range k).map fun i=>(e,i * P.cellsOf e)) 0 (P.cellsOf t)
  | _=>false
def PVs (f:TypeId→List V→Prop):List TypeId→List V→Prop
 | [],vs=>vs=[]
 | t :: ts,vs=>∃ a b,vs=a ++ b∧f t a∧PVs f ts b
def PV (P:Program):Nat→TypeId→List V→Prop
 | 0,_,_=>False
 | n+1,t,vs=>match P.underlying t with
  | some .bool=>∃ b,vs=[.bool b]
  | some (.int k)=>∃ x,vs=[.int k x]∧(Lit.int k x).wf=true
  | some (.float .f64)=>∃ b,vs=[.flt b]∧(Lit.float .f64 b).wf=true
  | some .string=>∃ l:List UInt8,vs=[.str l]∧l.length≤maxLen
  | some (.slice e)=>vs=[.nils]∨∃ es:List (List V),vs=[.isl false es]∧es.length≤maxLen∧∀ q∈es,PV P n e q
  | some (.struct fs)=>PVs (PV P n) (fs.toList.map (·.type)) vs
  | some (.array k e)=>PVs (PV P n) (List.replicate k e) vs
  | _=>False
def Pic (E:Bool→Nat→Nat→Prop) (w:World) (vs:List V) (cs:List Value):Prop:=
 vs.length=cs.length∧∀ (j:Nat) (v:V),vs[j]?=some v→v.flat=true∧∃ x,cs[j]?=some x∧VR (Gh.imm E) w 0 v x
theorem Pic.one {E:Bool→Nat→Nat→Prop} {w:World} {v:V} {x:Value} (hf:v.flat=true) (h:VR (Gh.imm E) w 0 v x):Pic E w [v] [x]:=
 ⟨rfl,fun j u hj=>by
  match j,hj with
  | 0,hj=>simp at hj; subst hj; exact ⟨hf,x,rfl,h⟩
  | j+1,hj=>simp at hj⟩
theorem Pic.append {E:Bool→Nat→Nat→Prop} {w:World} {vs vs':List V} {cs cs':List Value} (h:Pic E w vs cs) (h':Pic E w vs' cs'):Pic E w (vs ++ vs') (cs ++ cs'):=by
 refine ⟨by simp [h.1,h'.1],fun j v hj=>?_⟩
 by_cases hl:j<vs.length
 ·rw [List.getElem?_append_left hl] at hj
  rw [List.getElem?_append_left (by rw [← h.1]; exact hl)]
  exact h.2 j v hj
 ·rw [List.getElem?_append_right (by omega)] at hj
  rw [List.getElem?_append_right (by rw [← h.1]; omega),← h.1]
  exact h'.2 _ v hj
section
variable {H:Type} {enc:TypeId × Value→H} {P:Program} {w:World} {base:Nat} {spare:Nat→Bool} {held:Bool} {E:Bool→Nat→Nat→Prop}
theorem contig_le:∀ (l:List (TypeId × Nat)) (a b:Nat),contig P l a b=true→a≤b
 | [],a,b,h=>by simp [contig] at h; omega
 | (t,o) :: l,a,b,h=>by
  simp only [contig,Bool.and_eq_true,beq_iff_eq] at h
  have:=contig_le l _ b h.2
  omega
theorem pieces_ok {n m:Nat} {cs:List Value} (ih:∀ t cs x,plainT P n t=true→DataW.trod enc P w base spare held m t cs=some x→(∀ b o,.cell b o∈x.2→∀ t,E t b o)→∃ vs,PV P n t vs∧Pic E w vs cs):
  ∀ (l:List (TypeId × Nat)) (a:Nat) (xs:List (DataW H × List MemPlace)),contig P l a cs.length=true→(∀ p∈l,plainT P n p.1=true) →
   l.mapM (fun p=>DataW.trod enc P w base spare held m p.1 ((cs.drop p.2).take (P.cellsOf p.1)))=some xs→(∀ x∈xs,∀ b o,.cell b o∈x.2→∀ t,E t b o) →
   ∃ vs,PVs (PV P n) (l.map (·.1)) vs∧Pic E w vs (cs.drop a)
 | [],a,xs,hc,hp,hm,hE=>by
  simp only [contig,beq_iff_eq] at hc
  subst hc
  exact ⟨[],rfl,by simp [Pic]⟩
 | (t,o) :: l,a,xs,hc,hp,hm,hE=>by
  simp only [contig,Bool.and_eq_true,beq_iff_eq] at hc
  obtain ⟨rfl,hc⟩:=hc
  simp only [List.mapM_cons,Option.bind_eq_bind,Option.bind_eq_some_iff,Option.pure_def,Option.some.injEq] at hm
  obtain ⟨x,hx,ys,hys,rfl⟩:=hm
  obtain ⟨vs,h1,h2⟩:=ih t _ x (hp (t,o) (by simp)) hx (fun b o' hb=>hE x (by simp) b o' hb)
  obtain ⟨us,h3,h4⟩:=pieces_ok ih l _ ys hc (fun p hp'=>hp p (by simp [hp'])) hys (fun y hy=>hE y (by simp [hy]))
  refine ⟨vs ++ us,⟨vs,us,rfl,h1,h3⟩,?_⟩
  have:=h2.append h4
  have e:(cs.drop o).take (P.cellsOf t) ++ cs.drop (o+P.cellsOf t)=cs.drop o:=by
   rw [← List.drop_drop,List.take_append_drop]
  rwa [e] at this
theorem cells_len {a:Addr} {n:Nat} {cs:List Value} (h:w.cells? base a n=some cs):cs.length=n∧∀ j,j<n→∃ x,cs[j]?=some x∧w.cell? (a.add j)=some x:=by
 unfold World.cells? at h
 split at h
 ·have hl:=mapM_some_length h
  refine ⟨by simpa using hl,fun j hj=>?_⟩
  have:=mapM_some_get h j j (by simp [hj])
  have hj':j<cs.length:=by rw [hl]; simpa using hj
  exact ⟨cs[j],List.getElem?_eq_getElem hj',by rw [this,List.getElem?_eq_getElem hj']⟩
 ·cases h
theorem spot_none {a:Addr} {x:Value} (h:w.cell? a=some x):a.spot=none:=by
 unfold World.cell? at h
 split at h
 ·split at h
  ·cases h
  ·rename_i hs; simpa using hs
 ·cases h
theorem add_eq {a:Addr} (hs:a.spot=none) (j:Nat):a.add j=⟨a.block,a.off+j,none⟩:=by
 unfold Addr.add
 split
 ·rename_i h; subst h; cases a; simp_all
 ·rfl
theorem trod_float {k:FloatKind} {fuel:Nat} {t:TypeId} {cs:List Value} {x:DataW H × List MemPlace} (ht:P.underlying t=some (.float k)) (h:DataW.trod enc P w base spare held fuel t cs=some x):∃ n,cs=[.float k n]∧(Lit.float k n).wf=true:=by
 cases fuel with
 | zero=>simp [DataW.trod] at h
 | succ n=>
  unfold DataW.trod at h
  rw [ht] at h
  split at h<;>simp_all
theorem trod_structM {fs:Array Field} {fuel:Nat} {t:TypeId} {cs:List Value} {x:DataW H × List MemPlace} (ht:P.underlying t=some (.struct fs)) (h:DataW.trod enc P w base spare held fuel t cs=some x):
  ∃ (xs:List (DataW H × List MemPlace)) (n:Nat),fuel=n+1∧x.2=xs.flatMap (·.2)∧cs.length=P.cellsOf t∧(fs.toList.mapM fun f=>DataW.trod enc P w base spare held n f.type ((cs.drop f.offset).take (P.cellsOf f.type)))=some xs:=by
 cases fuel with
 | zero=>simp [DataW.trod] at h
 | succ n=>
  unfold DataW.trod at h
  rw [ht] at h
  split at h<;>simp_all
  obtain ⟨hl,xs,hp,hd⟩:=h
  exact ⟨xs,by rw [← hd],hp⟩
theorem trod_arrayM {k:Nat} {e:TypeId} {fuel:Nat} {t:TypeId} {cs:List Value} {x:DataW H × List MemPlace} (ht:P.underlying t=some (.array k e)) (h:DataW.trod enc P w base spare held fuel t cs=some x):
  ∃ (xs:List (DataW H × List MemPlace)) (n:Nat),fuel=n+1∧x.2=xs.flatMap (·.2)∧cs.length=P.cellsOf t∧((List.range k).mapM fun i=>DataW.trod enc P w base spare held n e ((cs.drop (i * P.cellsOf e)).take (P.cellsOf e)))=some xs:=by
 cases fuel with
 | zero=>simp [DataW.trod] at h
 | succ n=>
  unfold DataW.trod at h
  rw [ht] at h
  split at h<;>simp_all
  obtain ⟨hl,xs,hp,hd⟩:=h
  exact ⟨xs,by rw [← hd],hp⟩
theorem mapM_map' {α β γ:Type} (f:α→β) (g:β→Option γ):∀ (l:List α),(l.map f).mapM g=l.mapM fun x=>g (f x)
 | []=>by simp
 | x :: xs=>by simp [List.mapM_cons,mapM_map' f g xs]
theorem trod_pic:∀ (n m:Nat) (t:TypeId) (cs:List Value) (x:DataW H × List MemPlace),plainT P n t=true→DataW.trod enc P w base spare held m t cs=some x→(∀ b o,.cell b o∈x.2→∀ t,E t b o) →
  ∃ vs,PV P n t vs∧Pic E w vs cs:=by
 intro n
 induction n with
 | zero=>intro m t cs x h; simp [plainT] at h
 | succ n ih=>
  intro m t cs x hp ht hE
  cases hu:P.underlying t with
  | none=>simp [plainT,hu] at hp
  | some d=>
   cases d<;>simp only [plainT,hu,Bool.false_eq_true] at hp
   case bool=>
    obtain ⟨b,rfl,_⟩:=DataW.trod_bool hu ht
    exact ⟨[.bool b],by simp [PV,hu],.one rfl (.bool _ _)⟩
   case int k=>
    obtain ⟨i,rfl,_,hw⟩:=DataW.trod_int hu ht
    exact ⟨[.int k i],by simpa [PV,hu] using hw,.one rfl (.int _ _ _)⟩
   case float k=>
    cases k<;>simp only [Bool.false_eq_true] at hp
    obtain ⟨b,rfl,hw⟩:=trod_float hu ht
    exact ⟨[.flt b],by simpa [PV,hu] using hw,.one rfl (.flt _ _)⟩
   case string=>
    obtain ⟨⟨⟨l⟩⟩,rfl,_,hl⟩:=DataW.trod_string hu ht
    exact ⟨[.str l],by simpa [PV,hu,ByteArray.size] using hl,.one rfl (.str _ _)⟩
   case struct fs=>
    simp only [Bool.and_eq_true,List.all_eq_true] at hp
    obtain ⟨xs,m',rfl,hx2,hl,hxs⟩:=trod_structM hu ht
    have:=pieces_ok (H:=H) (enc:=enc) (w:=w) (base:=base) (spare:=spare) (held:=held) (cs:=cs) (E:=E) (m:=m') (fun t cs x=>ih m' t cs x) (fs.toList.map fun f=>(f.type,f.offset)) 0 xs (by rw [hl]; exact hp.2) (fun p hp'=>by
     obtain ⟨f,hf,rfl⟩:=List.mem_map.1 hp'
     exact hp.1 f hf) (by rw [mapM_map']; exact hxs) (fun x hx b o hb=>hE b o (by rw [hx2]; exact List.mem_flatMap.2 ⟨x,hx,hb⟩))
    obtain ⟨vs,h1,h2⟩:=this
    refine ⟨vs,?_,by simpa using h2⟩
    simp only [PV,hu]
    simpa [List.map_map,Function.comp_def] using h1
   case array k e=>
    simp only [Bool.and_eq_true] at hp
    obtain ⟨xs,m',rfl,hx2,hl,hxs⟩:=trod_arrayM hu ht
    have:=pieces_ok (H:=H) (enc:=enc) (w:=w) (base:=base) (spare:=spare) (held:=held) (cs:=cs) (E:=E) (m:=m') (fun t cs x=>ih m' t cs x) ((List.range k).map fun i=>(e,i * P.cellsOf e)) 0 xs (by rw [hl]; exact hp.2) (fun p hp'=>by
     obtain ⟨f,hf,rfl⟩:=List.mem_map.1 hp'
     exact hp.1) (by rw [mapM_map']; exact hxs) (fun x hx b o hb=>hE b o (by rw [hx2]; exact List.mem_flatMap.2 ⟨x,hx,hb⟩))
    obtain ⟨vs,h1,h2⟩:=this
    refine ⟨vs,?_,by simpa using h2⟩
    simp only [PV,hu]
    have e1:List.map (fun x:TypeId × Nat=>x.1) ((List.range k).map fun i=>(e,i * P.cellsOf e))=List.replicate k e:=by
     rw [List.map_map]
     apply List.ext_getElem<;>simp
    rwa [e1] at h1
   case slice e=>
    simp only [Bool.and_eq_true,bne_iff_ne,ne_eq] at hp
    obtain ⟨hp,hnz⟩:=hp
    rcases DataW.trod_slice hu ht with ⟨rfl,_⟩ | ⟨a,len,cap,elems,rest,m',rfl,rfl,rfl,hb,hlc,hcm,hle,hel,_,_⟩
    ·exact ⟨[.nils],by simp [PV,hu],.one rfl (.nils _)⟩
    ·have each:∀ i,i<len→∃ cs' vs,w.cells? base (a.add (i * P.cellsOf e)) (P.cellsOf e)=some cs'∧PV P n e vs∧Pic E w vs cs':=by
      intro i hi
      have h1:=hel i hi
      rw [List.getElem?_eq_getElem (by omega:i<elems.length)] at h1
      simp only [Option.bind_eq_some_iff] at h1
      obtain ⟨cs',h2,h3⟩:=h1
      obtain ⟨vs,h4,h5⟩:=ih m' e cs' _ hp h3 (fun b o hb=>hE b o (by
       refine List.mem_append_right _ (List.mem_flatMap.2 ⟨elems[i],List.mem_append_left _ (List.getElem_mem _),hb⟩)))
      exact ⟨cs',vs,h2,h4,h5⟩
     obtain ⟨F,hF⟩:=Classical.axiomOfChoice (fun i:{i // i<len}=>each i.1 i.2)
     obtain ⟨G,hG⟩:=Classical.axiomOfChoice hF
     let es:List (List V):=(List.range len).attach.map fun i=>G ⟨i.1,by simpa using i.2⟩
     have hes:es.length=len:=by simp [es]
     have hget:∀ i q,es[i]?=some q→∃ hi:i<len,q=G ⟨i,hi⟩:=by
      intro i q hq
      have hi:i<len:=by rw [← hes]; exact (List.getElem?_eq_some_iff.1 hq).1
      refine ⟨hi,?_⟩
      have:=(List.getElem?_eq_some_iff.1 hq).2
      rw [← this]
      simp [es]
     refine ⟨[.isl false es],?_,?_⟩
     ·simp only [PV,hu]
      refine .inr ⟨es,rfl,by rw [hes]; omega,fun q hq=>?_⟩
      obtain ⟨i,hi⟩:=List.getElem?_of_mem hq
      obtain ⟨hi',rfl⟩:=hget i q hi
      exact (hG ⟨i,hi'⟩).2.1
     ·refine .one rfl ?_
      rw [← hes]
      by_cases hz:len=0
      ·have:es=[]:=List.length_eq_zero_iff.1 (by omega)
       rw [this]; exact .isl0 _ _ _ _
      ·have hs:a.spot=none:=by
        obtain ⟨x,_,hx⟩:=(cells_len (hG ⟨0,by omega⟩).1).2 0 (by omega)
        rw [Nat.zero_mul] at hx
        exact spot_none (a:=(a.add 0).add 0) hx
       have ea:(some a:Option Addr)=some ⟨a.block,a.off,none⟩:=by cases a; simp_all
       rw [ea]
       refine islT (s:=P.cellsOf e) (fun q hq=>?_) (by omega) (fun i j q v hq hv=>?_)
       ·obtain ⟨i,hi⟩:=List.getElem?_of_mem hq
        obtain ⟨hi',rfl⟩:=hget i q hi
        have:=hG ⟨i,hi'⟩
        rw [this.2.2.1,(cells_len this.1).1]
       ·obtain ⟨hi',rfl⟩:=hget i q hq
        have h3:=hG ⟨i,hi'⟩
        obtain ⟨hf,x,hx,hvr⟩:=h3.2.2.2 j v hv
        have hj:j<P.cellsOf e:=by rw [← (cells_len h3.1).1,← h3.2.2.1]; exact (List.getElem?_eq_some_iff.1 hv).1
        obtain ⟨x',hx1,hx2⟩:=(cells_len h3.1).2 j hj
        rw [hx] at hx1; cases hx1
        have e2:(a.add (i * P.cellsOf e)).add j=⟨a.block,a.off+i * P.cellsOf e+j,none⟩:=by
         rw [add_eq hs,add_eq rfl]
        rw [e2] at hx2
        refine ⟨hf,?_,x,hx2,hvr⟩
        refine hE _ _ (List.mem_append_left _ ?_) false
        refine List.mem_map.2 ⟨i * P.cellsOf e+j,?_,by rw [Nat.add_assoc]⟩
        have hlt:i * P.cellsOf e+j<(elems.length+rest.length) * P.cellsOf e:=by
         have:=Nat.mul_le_mul_right (P.cellsOf e) (show i+1≤elems.length+rest.length by omega)
         rw [Nat.add_mul,Nat.one_mul] at this
         omega
        simpa using hlt
end
end Go.Vm
namespace Go.Vm
open Go.RowKit Go.WideShapes Go.ChangeShapes
section
variable {H:Type} {enc:TypeId × Value→H} {P:Program}
theorem post_of_below' {f:Func} {s:ChangeSpec} {apart fresh handsOn again:Bool} {W W':World} {args:Array Value} {v:Value} {ds gs:List (DataW H)} {before pa pv:List MemPlace}
  (hW:DataW.Whole enc P f.params.toList s.vars apart W args.toList ds gs before)
  (hres:∀ (b:Nat) (sp:Nat→Bool) (hd:Bool),DataW.TrodAll enc P W' b sp hd f.resultTypes.toList (v.resultList f.resultTypes.size) (s.fn H (ds ++ gs)).results [])
  (hargs:∀ sp:Nat→Bool,(∀ p∈before,sp p.block=true)→DataW.TrodAll enc P W' 0 sp true f.params.toList args.toList (s.fn H (ds ++ gs)).args pa)
  (hvars:∀ sp:Nat→Bool,(∀ p∈before,sp p.block=true)→DataW.TrodVars enc P W' sp s.vars (s.fn H (ds ++ gs)).vars pv)
  (hps:before=pa ++ pv) (hb:Below W.heap.size W W')
  (hok:∀ (j:Nat) (t:TypeId) (r:Value),f.resultTypes[j]?=some t→(v.resultList f.resultTypes.size)[j]?=some r→Value.okWide P W' .any 0 t r):
  s.post enc P f apart fresh handsOn again W args v W':=by
 have hlt:∀ p∈before,p.block<W.heap.size:=fun p hp=>hW.lt p hp
 have hold:∀ p∈before,(fun b=>decide (b<W.heap.size)) p.block=true:=fun p hp=>by simpa using hlt p hp
 refine ⟨ds,gs,before,[],pa,pv,hW,hres _ _ _,hargs _ hold,hvars _ hold,World.keptBut_mono (fun p hp=>⟨hp,?_⟩) (hb.frame (·∈before)),fun _=>?_⟩
 ·rw [hps,List.mem_append] at hp
  exact Or.inr hp
 ·obtain ⟨_,_,_,_,_,hz,hn⟩:=hW
  refine ⟨hok,_,_,([] ++ pa) ++ pv,⟨[] ++ pa,pv,trodAll_append (hargs _ (fun _ _=>rfl)) (hres _ _ _),hvars _ (fun _ _=>rfl),rfl,?_,?_⟩,?_⟩
  ·intro b off hp
   have hin:MemPlace.cell b off∈before:=by rw [hps]; simpa using hp
   rw [hb.frozen (hlt _ hin)]
   exact hz b off hin
  ·intro ha
   have:=hn ha
   rw [hps] at this
   simpa using this
  ·intro p hp _
   rw [hps]
   simpa using hp
def ArgPV (P:Program) (n:Nat) (t:TypeId) (v:V):Prop:=match P.underlying t with
 | some (.struct _) | some (.array _ _)=>∃ vs,v=.agg vs∧PV P n t vs
 | _=>PV P n t [v]
def PArgs (P:Program) (n:Nat):List TypeId→List V→Prop
 | [],vs=>vs=[]
 | t :: ts,vs=>∃ v us,vs=v :: us∧ArgPV P n t v∧PArgs P n ts us
theorem arg_pic {w:World} {base n:Nat} {r:Reach} {held:Bool} {spare:Nat→Bool} {E:Bool→Nat→Nat→Prop} {t:TypeId} {x:Value} {d:DataW H} {ps:List MemPlace} (hp:plainT P n t=true)
  (ht:DataW.Trod enc P w 0 spare held t x d ps) (hok:Value.okWide P w r base t x) (hE:∀ b o,.cell b o∈ps→∀ t,E t b o):∃ v,ArgPV P n t v∧VR (Gh.imm E) w 0 v x:=by
 obtain ⟨m,hm⟩:=ht
 obtain ⟨vs,h1,h2⟩:=trod_pic n m t _ _ hp hm hE
 cases n with
 | zero=>simp [plainT] at hp
 | succ n=>
 have agg:(∃ cs,x=.agg cs)→((∃ fs,P.underlying t=some (.struct fs))∨∃ k e,P.underlying t=some (.array k e))→∃ v,ArgPV P (n+1) t v∧VR (Gh.imm E) w 0 v x:=by
  rintro ⟨cs,rfl⟩ hu
  refine ⟨.agg vs,?_,.agg 0 vs cs (by simpa [Value.cells] using h2.1.symm) (fun v hv=>?_) (fun j v hj=>?_)⟩
  ·rcases hu with ⟨fs,hu⟩ | ⟨k,e,hu⟩
   ·simp only [ArgPV,hu]; exact ⟨vs,rfl,h1⟩
   ·simp only [ArgPV,hu]; exact ⟨vs,rfl,h1⟩
  ·obtain ⟨j,hj⟩:=List.getElem?_of_mem hv
   exact (h2.2 j v hj).1
  ·obtain ⟨_,y,hy,hvr⟩:=h2.2 j v hj
   simp only [Value.cells,Array.getElem?_toList] at hy
   simp only [Array.getD_eq_getD_getElem?,hy]
   exact hvr
 have single:(∀ cs,x≠.agg cs)→(match P.underlying t with
   | some (.struct _) | some (.array _ _)=>False
   | _=>True)→∃ v,ArgPV P (n+1) t v∧VR (Gh.imm E) w 0 v x:=by
  intro hne hu
  have hc:x.cells.toList=[x]:=by cases x<;>first | rfl | exact absurd rfl (hne _)
  rw [hc] at h2
  match vs,h1,h2 with
  | [v],h1,h2=>
   refine ⟨v,?_,?_⟩
   ·unfold ArgPV
    split
    ·rename_i hu'; rw [hu'] at hu; exact hu.elim
    ·rename_i hu'; rw [hu'] at hu; exact hu.elim
    ·exact h1
   ·obtain ⟨_,y,hy,hvr⟩:=h2.2 0 v rfl
    simp at hy; subst hy; exact hvr
  | [],_,h2=>simp [Pic] at h2
  | _ :: _ :: _,_,h2=>simp [Pic] at h2
 cases hu:P.underlying t with
 | none=>simp [plainT,hu] at hp
 | some dd=>
  cases dd<;>simp only [plainT,hu,Bool.false_eq_true] at hp
  case struct fs=>
   simp only [Value.okWide,hu] at hok
   obtain ⟨cs,h,_⟩:=hok
   exact agg ⟨cs,h⟩ (.inl ⟨fs,hu⟩)
  case array k e=>
   simp only [Value.okWide,hu] at hok
   obtain ⟨cs,h,_⟩:=hok
   exact agg ⟨cs,h⟩ (.inr ⟨k,e,hu⟩)
  all_goals
   refine single (fun cs hx=>?_) (by rw [hu]; trivial)
   subst hx
   simp [Value.okWide,hu,Cell.okWide,Cell.ok] at hok
theorem argsPics {w:World} {base n:Nat} {r:Reach} {held:Bool} {spare:Nat→Bool} {E:Bool→Nat→Nat→Prop}:∀ (ts:List TypeId) (xs:List Value) (ds:List (DataW H)) (ps:List MemPlace),(∀ t∈ts,plainT P n t=true) →
  DataW.TrodAll enc P w 0 spare held ts xs ds ps→(∀ (j:Nat) t x,ts[j]?=some t→xs[j]?=some x→Value.okWide P w r base t x)→(∀ b o,.cell b o∈ps→∀ t,E t b o) →
  ds.length=ts.length∧∃ vs,PArgs P n ts vs∧xs.length=vs.length∧∀ (i:Nat) (v:V),vs[i]?=some v→VR (Gh.imm E) w 0 v (xs.getD i undef)
 | [],xs,ds,ps,hp,ht,hok,hE=>by
  cases xs<;>cases ds<;>simp [DataW.TrodAll] at ht
  exact ⟨rfl,[],rfl,rfl,by simp⟩
 | t :: ts,xs,ds,ps,hp,ht,hok,hE=>by
  cases xs with
  | nil=>simp [DataW.TrodAll] at ht
  | cons x xs=>
   cases ds with
   | nil=>simp [DataW.TrodAll] at ht
   | cons d ds=>
    obtain ⟨p,q,h1,h2,rfl⟩:=ht
    obtain ⟨v,h3,h4⟩:=arg_pic (hp t (by simp)) h1 (hok 0 t x rfl rfl) (fun b o hb=>hE b o (List.mem_append_left _ hb))
    obtain ⟨hl,vs,h5,h6,h7⟩:=argsPics ts xs ds q (fun t ht=>hp t (by simp [ht])) h2 (fun j t x h h'=>hok (j+1) t x (by simpa using h) (by simpa using h')) (fun b o hb=>hE b o (List.mem_append_right _ hb))
    refine ⟨by simp [hl],v :: vs,⟨v,vs,rfl,h3,h5⟩,by simp [h6],fun i u hi=>?_⟩
    cases i with
    | zero=>simp at hi; subst hi; simpa using h4
    | succ i=>simpa using h7 i u (by simpa using hi)
theorem trodAll_stays {W W':World} {sp':Nat→Bool} (hl:laidOutB P=true):∀ (ts:List TypeId) (xs:List Value) (ds:List (DataW H)) (ps:List MemPlace),(∀ t∈ts,P.readableRec t=true∧t<P.types.size) →
  DataW.TrodAll enc P W 0 (fun _=>true) true ts xs ds ps→(∀ p∈ps,W.sameAt W' p)→(∀ p∈ps,sp' p.block=true)→DataW.TrodAll enc P W' 0 sp' true ts xs ds ps
 | [],xs,ds,ps,hr,ht,hs,hsp=>by
  cases xs<;>cases ds<;>simp [DataW.TrodAll] at ht ⊢
  exact ht
 | t :: ts,xs,ds,ps,hr,ht,hs,hsp=>by
  cases xs with
  | nil=>simp [DataW.TrodAll] at ht
  | cons x xs=>
   cases ds with
   | nil=>simp [DataW.TrodAll] at ht
   | cons d ds=>
    obtain ⟨p,q,h1,h2,rfl⟩:=ht
    exact ⟨p,q,WideElems.Trod_stays hl (hr t (by simp)).1 (hr t (by simp)).2 h1 (fun x hx=>hs x (List.mem_append_left _ hx)) (fun x hx=>hsp x (List.mem_append_left _ hx)),
     trodAll_stays hl ts xs ds q (fun t ht=>hr t (by simp [ht])) h2 (fun x hx=>hs x (List.mem_append_right _ hx)) (fun x hx=>hsp x (List.mem_append_right _ hx)),rfl⟩
end
theorem cell_lt {w:World} {b o:Nat} {x:Value} (h:w.cell? ⟨b,o,none⟩=some x):b<w.heap.size:=by
 apply Classical.byContradiction
 intro hb
 have e:w.heap[b]?=none:=Array.getElem?_eq_none (by omega)
 simp [World.cell?,e] at h
theorem law_core {C:Checked} {tg:Nat→Option Tg} {p:Pg} {gl:List (Nat × List V)} {f:Nat} {fn:Func} {s:ChangeSpec} {n:Nat} {tb:TypeId} {H:Type} {enc:TypeId × Value→H}
  (hfo:C.prog.follows .mixedOrders=true) (hT:TgOK C.prog tg) (hp:PgOK C.prog tg p gl) (hl:laidOutB C.prog=true)
  (hread:fn.params.toList.all (fun t=>C.prog.readableRec t && decide (t<C.prog.types.size) && plainT C.prog n t)=true) (hres:fn.resultTypes=#[tb]) (htb:C.prog.underlying tb=some .bool)
  (hv:s.vars=[]) (hspec:∀ (ds:List (DataW H)),ds.length=fn.params.size→s.fn H ds={ results:=[.lit (.bool true)],args:=ds })
  (law:∀ vs,PArgs C.prog n fn.params.toList vs→∃ k,evF p k .val f vs []=some (.bool true,[]))
  {W:World} {base:Nat} {args:Array Value} {ds gs:List (DataW H)} {before:List MemPlace}
  (hval:∀ (j:Nat) t v,fn.params[j]?=some t→args[j]?=some v→Value.okWide C.prog W .any base t v)
  (hW:DataW.Whole enc C.prog fn.params.toList s.vars false W args.toList ds gs before) (hgi:GI gl (Gh.imm fun _ b o=>∃ q∈gl,q.1=b∧o<q.2.length) W):
  Calls C.prog f args W fun e W'=>∃ v,e=.returned v∧s.post enc C.prog fn false true false false W args v W':=by
 simp only [List.all_eq_true,Bool.and_eq_true,decide_eq_true_eq] at hread
 have hW':=hW
 obtain ⟨pl,q,hA,hV,rfl,hfz,hnd⟩:=hW
 rw [hv] at hV
 obtain ⟨rfl,rfl⟩:=trodVars_none hV
 obtain ⟨hdl,vs,h1,h2,h3⟩:=argsPics (E:=fun _ b o=>MemPlace.cell b o∈pl∨∃ q∈gl,q.1=b∧o<q.2.length) (n:=n) fn.params.toList args.toList ds pl (fun t ht=>(hread t ht).2) hA (fun j t x h h'=>hval j t x (by simpa using h) (by simpa using h')) (fun b o hb _=>.inl hb)
 obtain ⟨k,hk⟩:=law vs h1
 refine ((snd_all hfo hT hp k).1 f vs (.bool true) [] hk (fun _ b o=>MemPlace.cell b o∈pl∨∃ q∈gl,q.1=b∧o<q.2.length) W args (fun _ _ h=>h) (fun _ b o h=>?_)
  (hgi.imm fun _ _ _ h=>.inr h) (by simpa using h2) (fun i v hi=>?_)).mono fun e W' ⟨x,he,hx,hf⟩=>?_
 ·rcases h with h | ⟨q,hq,rfl,ho⟩
  ·exact hW'.lt _ (List.mem_append_left _ h)
  ·have:=hgi q hq
   generalize hz:Value.pointer (some ⟨q.1,0,none⟩)=z at this
   cases this with
   | ip _ _ _ _ b o' x hf hx hv'=>
    cases hz
    have:=(hx o ho).2
    exact cell_lt this
 ·have:=h3 i v hi
  simpa [Array.getD_eq_getD_getElem?,List.getD_eq_getElem?_getD] using this
 ·subst he
  have:=hx.bool_inv
  subst this
  have hb:Below W.heap.size W W':=⟨hf.os,hf.tape,hf.output,hf.size,hf.kept⟩
  have hsp:s.fn H (ds ++ [])={ results:=[.lit (.bool true)],args:=ds }:=by rw [List.append_nil]; exact hspec ds (by simpa using hdl)
  refine ⟨_,rfl,post_of_below' (pa:=pl) (pv:=[]) hW' (fun b sp hd=>?_) (fun sp hs=>?_) (fun sp hs=>?_) rfl hb (ok_one hres rfl (okWide_bool_mk htb _))⟩
  ·rw [hsp,hres]
   exact trodAll_cons_mk (shut_bool htb _) trodAll_mk0
  ·rw [hsp]
   exact trodAll_stays hl _ _ _ _ (fun t ht=>(hread t ht).1) hA (fun x hx=>hb.same (hW'.lt x (List.mem_append_left _ hx))) (fun x hx=>hs x (List.mem_append_left _ hx))
  ·rw [hsp,hv]; rfl
theorem law_laid {C:Checked} {tg:Nat→Option Tg} {p:Pg} {gl:List (Nat × List V)} {laid:List (String × DataW Unit)} {f:Nat} {fn:Func} {s:ChangeSpec} {n:Nat} {tb:TypeId} {H:Type} {enc:TypeId × Value→H} (os:Os) (started:os.Started)
  (own:ownKnob C.prog.godebug=none) (noInit:C.prog.inits.idxOf? f=none) (hfn:C.prog.funcs[f]?=some fn) (hfo:C.prog.follows .mixedOrders=true) (hT:TgOK C.prog tg) (hp:PgOK C.prog tg p gl) (hl:laidOutB C.prog=true)
  (hread:fn.params.toList.all (fun t=>C.prog.readableRec t && decide (t<C.prog.types.size) && plainT C.prog n t)=true) (hres:fn.resultTypes=#[tb]) (htb:C.prog.underlying tb=some .bool)
  (hv:s.vars=[]) (hspec:∀ (ds:List (DataW H)),ds.length=fn.params.size→s.fn H ds={ results:=[.lit (.bool true)],args:=ds })
  (hlaid:∀ W,laidMetH C.prog laid W→GI gl (Gh.imm fun _ b o=>∃ q∈gl,q.1=b∧o<q.2.length) W)
  (witness:∃ (w:World) (tape:Tape) (i:Input),w.os=os∧(w.forCall tape i).Shaped C.prog∧i.vars=[]∧Input.okWide C.prog (w.forCall tape i) .any w.heap.size f i ∧
   ((s.pre enc C.prog fn [] false (w.forCall tape i).memory i.args∧laidMetH C.prog laid (w.forCall tape i).memory)∧sizedMet enc C.prog fn (OpenSpec.ofChange s) false (w.forCall tape i).memory i.args)∧({}:Assume).holds C.prog (lone (Frame.enter C.prog f i.args .normal) [] (w.forCall tape i)))
  (law:∀ vs,PArgs C.prog n fn.params.toList vs→∃ k,evF p k .val f vs []=some (.bool true,[])):
  ReturnsInHanded {} C os f .any (fun w args=>(s.pre enc C.prog fn [] false w args∧laidMetH C.prog laid w)∧sizedMet enc C.prog fn (OpenSpec.ofChange s) false w args) (s.post enc C.prog fn false true false false):=by
 refine returnsInHanded_of_change_and (X:=fun w _=>laidMetH C.prog laid w) (fun _ _ _ hh h=>h.of_heap hh) own started noInit hfn witness ?_
 intro W base args ds gs before hval hW _ _ hL _
 exact law_core hfo hT hp hl hread hres htb hv hspec law hval hW (hlaid W hL)
theorem gi_of_laid {P:Program} {name:String} {g:Nat} {t e:TypeId} {ns:List Int} {W:World} (hg:P.globalNamed name=some g) (ht:(P.globals[g]?).map (·.type)=some t)
  (hu:P.underlying t=some (.array ns.length e)) (he:P.underlying e=some (.int .u8)) (hc:P.cellsOf e=1) (h:laidMetH P [(name,.agg (ns.map fun n=>.lit (.int .u8 n)))] W):
  GI [(g,ns.map (.int .u8))] (Gh.imm fun _ b o=>∃ q∈[(g,ns.map (V.int .u8))],q.1=b∧o<q.2.length) W:=by
 rw [MakeChecks.laidMetH_plain _ _ _ rfl] at h
 obtain ⟨ps,⟨g',t',cs,fuel,p,q,hg',ht',hv,hd,_,_⟩,_,_⟩:=h
 obtain rfl:=Option.some.inj (hg.symm.trans hg')
 obtain rfl:=Option.some.inj (ht.symm.trans ht')
 obtain ⟨xs,m,_,ex,_,hl,hel⟩:=DataW.trod_array hu hd
 have cell:∀ (r:Nat) (z:Int),ns[r]?=some z→W.cell? ⟨g,r,none⟩=some (.int .u8 z):=by
  intro r z hz
  have hr:r<ns.length:=(List.getElem?_eq_some_iff.1 hz).1
  have hE:=hel r hr
  rw [hc,Nat.mul_one,List.getElem?_eq_getElem (by omega)] at hE
  obtain ⟨z',e1,e2,_⟩:=DataW.trod_int he hE
  have e3:(xs.map (·.1))=ns.map fun n=>.lit (.int .u8 n):=(DataW.agg.inj (Prod.mk.inj ex).1).symm
  have e4:(xs.map (·.1))[r]?=(ns.map fun n=>(DataW.lit (.int .u8 n):DataW Unit))[r]?:=by rw [e3]
  rw [List.getElem?_map,List.getElem?_map,List.getElem?_eq_getElem (by omega:r<xs.length),hz,e2] at e4
  have hz':z'=z:=by simpa using e4
  rw [World.var?_cell hg hv r,← hz']
  have:cs.toList[r]?=some (.int .u8 z'):=by
   have h0:((cs.toList.drop r).take 1)[0]?=some (.int .u8 z'):=by rw [e1]; rfl
   simpa using h0
  simpa using this
 intro q hq
 have hq':q=(g,ns.map (.int .u8)):=by simpa using hq
 subst hq'
 have key:=VR.ip (G:=Gh.imm fun _ b o=>∃ q∈[(g,ns.map (V.int .u8))],q.1=b∧o<q.2.length) (w:=W) 0 false (ns.map (.int .u8)) 0 g 0 (fun j=>.int .u8 (ns.getD j 0))
  (fun v hv=>by obtain ⟨z,_,rfl⟩:=List.mem_map.1 hv; rfl)
  (fun j hj=>by
   have hj':j<ns.length:=by simpa using hj
   refine ⟨⟨_,List.mem_singleton.2 rfl,rfl,?_⟩,?_⟩
   ·simpa using hj'
   ·rw [Nat.zero_add]
    refine cell j _ ?_
    simp [hj'])
  (fun j v hv=>by
   rw [List.getElem?_map] at hv
   cases hz:ns[j]? with
   | none=>rw [hz] at hv; cases hv
   | some z=>
    rw [hz] at hv; cases hv
    have:ns.getD j 0=z:=by simp [List.getD_eq_getElem?_getD,hz]
    rw [this]
    exact .int _ _ _)
 exact key
end Go.Vm
namespace Go.Vm
def tgP (P:Program) (f:Nat):Option Tg:=match P.funcs[f]? with
 | none=>none
 | some fn => if fn.name == "runtime.NumGoroutine" then none else match fn.body with
  | some _=>some (.enter f)
  | none=>if (Extern.findNext fn).isSome then none
   else if fn.name == "math.Float64bits" then some (.prim .bits)
   else if fn.name == "math.Float64frombits" then some (.prim .frombits)
   else if fn.name == "math.archFloor" then some (.prim .floor)
   else if fn.name == "math.archTrunc" then some (.prim .trunc)
   else none
theorem find_of {fn:Func} {n:String} {e:Array Value→Sem Value} (hn:fn.name=n) (h1:(Extern.allGenericRows.lookup n).isNone=true) (h2:(Extern.allTypedRows.lookup n).isNone=true) (h3:Extern.allRows.lookup n=some e):Extern.find fn=some e:=by
 subst hn
 unfold Extern.find
 dsimp only
 rw [Option.isNone_iff_eq_none.1 h1,Option.isNone_iff_eq_none.1 h2,h3]
 rfl
theorem find_bits {fn : Func} (hn : fn.name = "math.Float64bits") : Extern.find fn = some Extern.MathFloatBits.float64bits := find_of hn (by kernel_rfl) (by kernel_rfl) (by kernel_rfl)
theorem find_frombits {fn : Func} (hn : fn.name = "math.Float64frombits") : Extern.find fn = some Extern.MathFloatBits.float64frombits := find_of hn (by kernel_rfl) (by kernel_rfl) (by kernel_rfl)
theorem find_floor {fn : Func} (hn : fn.name = "math.archFloor") : Extern.find fn = some (Extern.MathFloor.toIntegral "math.archFloor" .down) := find_of hn (by kernel_rfl) (by kernel_rfl) (by kernel_rfl)
theorem find_trunc {fn : Func} (hn : fn.name = "math.archTrunc") : Extern.find fn = some (Extern.MathFloor.toIntegral "math.archTrunc" .zero) := find_of hn (by kernel_rfl) (by kernel_rfl) (by kernel_rfl)
theorem integral_run {P:Program} {name:String} {way:Ieee.Toward} {b:Nat} {u:V} (h:integral way b=some u) (w:World):(Extern.MathFloor.toIntegral name way #[.float .f64 b]).run P w=.ok (sc u) w:=by
 have key:∀ d,FloatKind.f64.decode b=d→(∀ s t,d≠.nan s t)→(Extern.MathFloor.toIntegral name way #[.float .f64 b]).run P w=.ok (.float .f64 (FloatKind.f64.encode (d.integral way))) w:=by
  intro d hd hn
  delta Extern.MathFloor.toIntegral
  show Sem.run P (match FloatKind.f64.decode b with
   | .nan s t=>if FloatKind.f64.format.quiet t=t then pure (Value.float FloatKind.f64 b)
     else do
      let kept ← choose (Question.extern "math.Floor,Ceil,Trunc,RoundToEven.signallingNaN kept" 2)
      pure (Value.float FloatKind.f64 (if kept == 1 then b else FloatKind.f64.encode (Ieee.Datum.nan s (FloatKind.f64.format.quiet t))))
   | d=>pure (Value.float FloatKind.f64 (FloatKind.f64.encode (d.integral way)))) w=_
  rw [hd]
  cases d with
  | nan s t=>exact absurd rfl (hn s t)
  | _=>rfl
 unfold integral at h
 split at h
 ·cases h
 ·rename_i d hd
  cases h
  exact key _ rfl (fun s t he=>hd s t he)
theorem tgP_ok (P:Program):TgOK P (tgP P) where
 enter f j h args w:=by
  unfold tgP at h
  cases hf:P.funcs[f]? with
  | none=>rw [hf] at h; cases h
  | some fn=>
   rw [hf] at h
   simp only at h
   split at h
   ·cases h
   ·rename_i hn
    cases hb:fn.body with
    | some b=>
     rw [hb] at h; cases h
     have hn' : ¬ fn.name = "runtime.NumGoroutine" := by simpa using hn
     simp [callFunc,hf,hn',hb]
    | none=>
     rw [hb] at h
     simp only at h
     repeat' split at h
     all_goals cases h
 prim f k h v u w hv:=by
  unfold tgP at h
  cases hf:P.funcs[f]? with
  | none=>rw [hf] at h; cases h
  | some fn=>
   rw [hf] at h
   simp only at h
   split at h
   ·cases h
   ·rename_i hn
    have hn' : (fn.name == "runtime.NumGoroutine") = false := by simpa using hn
    cases hb:fn.body with
    | some b=>rw [hb] at h; cases h
    | none=>
     rw [hb] at h
     simp only at h
     have hb':fn.body.isNone=true:=by rw [hb]; rfl
     split at h
     ·cases h
     ·rename_i hx
      have hx':Extern.findNext fn=none:=by simpa using hx
      split at h
      ·rename_i hs
       cases h
       rw [run_callFunc_extern hf hn' hb' hx' (find_bits (by simpa using hs))]
       cases v<;>simp only [primV,reduceCtorEq] at hv
       ·rename_i kk nn
        cases kk<;>simp only [reduceCtorEq] at hv
       ·cases hv; rfl
      ·split at h
       ·rename_i hs
        cases h
        rw [run_callFunc_extern hf hn' hb' hx' (find_frombits (by simpa using hs))]
        cases v<;>simp only [primV,reduceCtorEq] at hv
        rename_i kk nn
        cases kk<;>simp only [reduceCtorEq,Option.some.injEq] at hv
        subst hv; rfl
       ·split at h
        ·rename_i hs
         cases h
         rw [run_callFunc_extern hf hn' hb' hx' (find_floor (by simpa using hs))]
         cases v<;>simp only [primV,reduceCtorEq] at hv
         ·rename_i kk nn
          cases kk<;>simp only [reduceCtorEq] at hv
         ·simp only [sc]; rw [integral_run hv]; rfl
        ·split at h
         ·rename_i hs
          cases h
          rw [run_callFunc_extern hf hn' hb' hx' (find_trunc (by simpa using hs))]
          cases v<;>simp only [primV,reduceCtorEq] at hv
          ·rename_i kk nn
           cases kk<;>simp only [reduceCtorEq] at hv
          ·simp only [sc]; rw [integral_run hv]; rfl
         ·cases h
end Go.Vm
namespace Go.Vm
def pgOf (P:Program) (hs:Nat→Option Hint) (gl:List (Nat × List V)):Pg:=⟨fun f=>match hs f with
 | some h=>match P.funcs[f]? with
  | some fn=>cFn P (tgP P) { h with gl:=gl } fn
  | none=>none
 | none=>none,fun _ _=>none⟩
theorem pgOf_ok (P:Program) (hs:Nat→Option Hint) (gl:List (Nat × List V)):PgOK P (tgP P) (pgOf P hs gl) gl where
 ext _ _:=rfl
 fn f ir h:=by
  simp only [pgOf] at h
  split at h
  ·rename_i hh _
   split at h
   ·rename_i fn hf; exact ⟨fn,{ hh with gl:=gl },hf,rfl,h⟩
   ·cases h
  ·cases h
end Go.Vm
namespace Go.Vm
def CallLe (c d:CallT):Prop:=∀ md f as H r,c md f as H=some r→d md f as H=some r
section
variable {c d:CallT}
theorem callF_le (h:CallLe c d) {md:Md} {f:Nat} {m:Mem} {vs:List V} {r:V × Mem} (e:callF c md f m vs=some r):callF d md f m vs=some r:=by
 cases md<;>simp only [callF] at e ⊢
 ·split at e
  ·rename_i as has
   try simp only [has]
   split at e
   ·rename_i hr; rw [h _ _ _ _ _ hr]; exact e
   ·cases e
  ·rename_i has
   try simp only [has]
   split at e
   ·rename_i as has'
    try simp only [has']
    split at e
    ·rename_i hr; rw [h _ _ _ _ _ hr]; exact e
    ·cases e
   ·cases e
 ·split at e
  ·rename_i as has
   try simp only [has]
   split at e
   ·rename_i hr; rw [h _ _ _ _ _ hr]; exact e
   ·cases e
  ·cases e
theorem evO_le (h:CallLe c d) {ρ:X→V} {m:Mem} {o:O} {r:V × Mem} (e:evO c ρ m o=some r):evO d ρ m o=some r:=by
 cases o<;>first
  | (simp only [evO] at e ⊢; exact e)
  | skip
 case call md f xs=>simp only [evO] at e ⊢; exact callF_le h e
 case callv md x xs=>
  simp only [evO] at e ⊢
  split at e
  ·exact callF_le h e
  ·cases e
theorem evOps_le (h:CallLe c d) {ss:List V}:∀ (ps:List Op) (rs:List V) (m:Mem) {r:List V × Mem},evOps c ss ps rs m=some r→evOps d ss ps rs m=some r
 | [],rs,m,r,e=>e
 | p :: ps,rs,m,r,e=>by
  simp only [evOps] at e ⊢
  split at e
  ·cases e
  ·exact evOps_le h ps _ _ e
  ·split at e
   ·rename_i hv; rw [evO_le h hv]; exact evOps_le h ps _ _ e
   ·cases e
theorem evReg_of {ops:List Op} {kl:List (Bool × Nat)} {prs:List (Nat × Nat)} {outs:List (Nat × Nat × Option Nat)} {st st':St} (e:evReg c ops kl prs outs st=some st'):
  ∃ rs m ss,evOps c (killS kl st.s) ops [] st.m=some (rs,m)∧prs.all (apart st.m.H.length ops (lk rs (killS kl st.s)))=true∧evOuts rs outs (killS kl st.s)=some ss∧st'=⟨ss,m⟩:=by
 unfold evReg at e
 cases hops:evOps c (killS kl st.s) ops [] st.m with
 | none=>rw [hops] at e; cases e
 | some q=>
  obtain ⟨rs,m1⟩:=q
  rw [hops] at e
  simp only at e
  split at e
  ·rename_i hp
   cases hss:evOuts rs outs (killS kl st.s) with
   | none=>rw [hss] at e; cases e
   | some ss=>rw [hss] at e; cases e; exact ⟨rs,m1,ss,rfl,hp,hss,rfl⟩
  ·cases e
theorem evReg_mk {ops:List Op} {kl:List (Bool × Nat)} {prs:List (Nat × Nat)} {outs:List (Nat × Nat × Option Nat)} {st:St} {rs:List V} {m:Mem} {ss:List V} (h1:evOps c (killS kl st.s) ops [] st.m=some (rs,m))
  (h2:prs.all (apart st.m.H.length ops (lk rs (killS kl st.s)))=true) (h3:evOuts rs outs (killS kl st.s)=some ss):evReg c ops kl prs outs st=some ⟨ss,m⟩:=by
 unfold evReg
 rw [h1]
 simp only [h2,if_true,h3]
theorem evReg_le (h:CallLe c d) {ops:List Op} {kl:List (Bool × Nat)} {prs:List (Nat × Nat)} {outs:List (Nat × Nat × Option Nat)} {st st':St} (e:evReg c ops kl prs outs st=some st'):evReg d ops kl prs outs st=some st':=by
 obtain ⟨rs,m,ss,h1,h2,h3,rfl⟩:=evReg_of e
 exact evReg_mk (evOps_le h _ _ _ h1) h2 h3
theorem evLoop_le {f g:St→Option (Ex × St)} (h:∀ st r,f st=some r→g st=some r):∀ (n n':Nat),n≤n'→∀ (st:St) (r:Ex × St),evLoop f n st=some r→evLoop g n' st=some r
 | 0,n',_,st,r,e=>by simp [evLoop] at e
 | n+1,n',hn,st,r,e=>by
  obtain ⟨n'',rfl⟩:∃ k,n'=k+1:=⟨n' - 1,by omega⟩
  simp only [evLoop] at e ⊢
  split at e
  ·rename_i hs; rw [h _ _ hs]; exact evLoop_le h n n'' (by omega) _ _ e
  ·rename_i hne
   rw [h _ _ e]
   split
   ·rename_i hs
    cases hs
    exact absurd e (hne _)
   ·rfl
theorem evC_le (h:CallLe c d) {n n':Nat} (hn:n≤n'):∀ (x:C) (st:St) (r:Ex × St),evC c n x st=some r→evC d n' x st=some r:=by
 intro x
 induction x with
 | skip=>intro st r e; exact e
 | ret=>intro st r e; exact e
 | exit id=>intro st r e; exact e
 | drop ss kl=>intro st r e; exact e
 | reg ops kl prs outs=>
  intro st r e
  simp only [evC] at e ⊢
  split at e
  ·rename_i hs; rw [evReg_le h hs]; exact e
  ·cases e
 | seq a b iha ihb=>
  intro st r e
  simp only [evC] at e ⊢
  split at e
  ·rename_i hs; rw [iha _ _ hs]; exact ihb _ _ e
  ·rename_i hne
   rw [iha _ _ e]
   split
   ·rename_i hs; cases hs; exact absurd e (hne _)
   ·rfl
 | cond y a b iha ihb=>
  intro st r e
  simp only [evC] at e ⊢
  split at e
  ·exact iha _ _ e
  ·exact ihb _ _ e
  ·cases e
 | block id a iha=>
  intro st r e
  simp only [evC] at e ⊢
  split at e
  ·rename_i hs; rw [iha _ _ hs]; exact e
  ·rename_i hne
   rw [iha _ _ e]
   split
   ·rename_i hs; cases hs; exact absurd e (hne _ _)
   ·rfl
 | loop a iha=>
  intro st r e
  simp only [evC] at e ⊢
  exact evLoop_le (fun st r=>iha st r) n n' hn st r e
end
section
variable {p:Pg}
theorem evF_succ (hx:∀ f as,p.ext f as=none):∀ (k:Nat),CallLe (evF p k) (evF p (k+1))
 | 0=>fun md f as H r h=>by simp [evF] at h
 | k+1=>fun md f as H r h=>by
  rw [evF] at h ⊢
  simp only [hx] at h ⊢
  split at h
  ·cases h
  ·rename_i fn hfn
   have mono:∀ r,evC (evF p k) k fn.body (ini fn as H)=some r→evC (evF p (k+1)) (k+1) fn.body (ini fn as H)=some r:=fun r e=>evC_le (evF_succ hx k) (Nat.le_succ k) _ _ _ e
   split at h
   ·cases h
   ·rename_i ex st hne hst
    rw [mono _ hst]
    split
    ·rename_i id st' hs; cases hs; exact absurd rfl (hne id)
    ·rename_i hs; cases hs; exact h
    ·rename_i hs; cases hs
   ·cases h
theorem evF_le (hx:∀ f as,p.ext f as=none) {k k':Nat} (h:k≤k'):CallLe (evF p k) (evF p k'):=by
 induction h with
 | refl=>exact fun _ _ _ _ _ h=>h
 | step _ ih=>exact fun _ _ _ _ _ h=>evF_succ hx _ _ _ _ _ _ (ih _ _ _ _ _ h)
open Classical in
noncomputable def evI (p:Pg):CallT:=fun md f as H=>if h:∃ k r,evF p k md f as H=some r then some h.choose_spec.choose else none
open Classical in
noncomputable def evCI (p:Pg) (c:C) (st:St):Option (Ex × St):=if h:∃ k r,evC (evF p k) k c st=some r then some h.choose_spec.choose else none
theorem evI_iff (hx:∀ f as,p.ext f as=none) {md:Md} {f:Nat} {as:List V} {H:List Obj} {r:V × List Obj}:evI p md f as H=some r↔∃ k,evF p k md f as H=some r:=by
 unfold evI
 constructor
 ·intro h
  split at h
  ·rename_i hk
   cases h
   exact ⟨_,hk.choose_spec.choose_spec⟩
  ·cases h
 ·rintro ⟨k,hk⟩
  have he:∃ k r,evF p k md f as H=some r:=⟨k,r,hk⟩
  rw [dif_pos he]
  have h1:=he.choose_spec.choose_spec
  have h2:=evF_le hx (Nat.le_max_left he.choose k) _ _ _ _ _ h1
  have h3:=evF_le hx (Nat.le_max_right he.choose k) _ _ _ _ _ hk
  rw [h2] at h3
  exact h3
theorem evCI_iff (hx:∀ f as,p.ext f as=none) {c:C} {st:St} {r:Ex × St}:evCI p c st=some r↔∃ k,evC (evF p k) k c st=some r:=by
 unfold evCI
 constructor
 ·intro h
  split at h
  ·rename_i hk
   cases h
   exact ⟨_,hk.choose_spec.choose_spec⟩
  ·cases h
 ·rintro ⟨k,hk⟩
  have he:∃ k r,evC (evF p k) k c st=some r:=⟨k,r,hk⟩
  rw [dif_pos he]
  have h1:=he.choose_spec.choose_spec
  have h2:=evC_le (evF_le hx (Nat.le_max_left he.choose k)) (Nat.le_max_left he.choose k) _ _ _ h1
  have h3:=evC_le (evF_le hx (Nat.le_max_right he.choose k)) (Nat.le_max_right he.choose k) _ _ _ hk
  rw [h2] at h3
  exact h3
theorem opt_ext {α:Type} {a b:Option α} (h:∀ r,a=some r↔b=some r):a=b:=by
 cases a with
 | none=>
  cases b with
  | none=>rfl
  | some y=>exact absurd ((h y).2 rfl) (by simp)
 | some x=>exact ((h x).1 rfl).symm
theorem callF_lim (hx:∀ f as,p.ext f as=none) {md:Md} {f:Nat} {m:Mem} {vs:List V} {r:V × Mem} (e:callF (evI p) md f m vs=some r):∃ k,callF (evF p k) md f m vs=some r:=by
 cases md<;>simp only [callF] at e ⊢
 ·split at e
  ·rename_i as has
   try simp only [has]
   split at e
   ·rename_i hr
    obtain ⟨k,hk⟩:=(evI_iff hx).1 hr
    exact ⟨k,by rw [hk]; exact e⟩
   ·cases e
  ·rename_i has
   try simp only [has]
   split at e
   ·rename_i as has'
    try simp only [has']
    split at e
    ·rename_i hr
     obtain ⟨k,hk⟩:=(evI_iff hx).1 hr
     exact ⟨k,by rw [hk]; exact e⟩
    ·cases e
   ·cases e
 ·split at e
  ·rename_i as has
   try simp only [has]
   split at e
   ·rename_i hr
    obtain ⟨k,hk⟩:=(evI_iff hx).1 hr
    exact ⟨k,by rw [hk]; exact e⟩
   ·cases e
  ·cases e
theorem evO_lim (hx:∀ f as,p.ext f as=none) {ρ:X→V} {m:Mem} {o:O} {r:V × Mem} (e:evO (evI p) ρ m o=some r):∃ k,evO (evF p k) ρ m o=some r:=by
 cases o<;>first
  | (simp only [evO] at e ⊢; exact ⟨0,e⟩)
  | skip
 case call md f xs=>simp only [evO] at e ⊢; exact callF_lim hx e
 case callv md x xs=>
  simp only [evO] at e ⊢
  split at e
  ·exact callF_lim hx e
  ·cases e
theorem evOps_lim (hx:∀ f as,p.ext f as=none) {ss:List V}:∀ (ps:List Op) (rs:List V) (m:Mem) {r:List V × Mem},evOps (evI p) ss ps rs m=some r→∃ k,evOps (evF p k) ss ps rs m=some r
 | [],rs,m,r,e=>⟨0,e⟩
 | q :: ps,rs,m,r,e=>by
  simp only [evOps] at e ⊢
  split at e
  ·cases e
  ·exact evOps_lim hx ps _ _ e
  ·split at e
   ·rename_i v m' hv
    obtain ⟨k1,h1⟩:=evO_lim hx hv
    obtain ⟨k2,h2⟩:=evOps_lim hx ps _ _ e
    refine ⟨max k1 k2,?_⟩
    rw [evO_le (evF_le hx (Nat.le_max_left k1 k2)) h1]
    exact evOps_le (evF_le hx (Nat.le_max_right k1 k2)) _ _ _ h2
   ·cases e
/-! ### equations -/
variable (hx:∀ f as,p.ext f as=none)
include hx
theorem evCI_skip (st:St):evCI p .skip st=some (.nrm,st):=(evCI_iff hx).2 ⟨0,rfl⟩
theorem evCI_ret (st:St):evCI p .ret st=some (.ret,st):=(evCI_iff hx).2 ⟨0,rfl⟩
theorem evCI_exit (id:Nat) (st:St):evCI p (.exit id) st=some (.exit id,st):=(evCI_iff hx).2 ⟨0,rfl⟩
theorem evCI_drop (ss:List Nat) (kl:List (Bool × Nat)) (st:St):evCI p (.drop ss kl) st=some (.nrm,⟨undS ss st.s,emptyM kl st.m⟩):=(evCI_iff hx).2 ⟨0,rfl⟩
theorem evCI_reg (ops:List Op) (kl:List (Bool × Nat)) (prs:List (Nat × Nat)) (outs:List (Nat × Nat × Option Nat)) (st:St):
  evCI p (.reg ops kl prs outs) st=match evReg (evI p) ops kl prs outs st with
   | some st'=>some (.nrm,st')
   | none=>none:=by
 refine opt_ext fun r=>?_
 rw [evCI_iff hx]
 constructor
 ·rintro ⟨k,hk⟩
  simp only [evC] at hk
  split at hk
  ·rename_i hs
   rw [evReg_le (fun md f as H r h=>(evI_iff hx).2 ⟨k,h⟩) hs]; exact hk
  ·cases hk
 ·intro h
  split at h
  ·rename_i st' hs
   obtain ⟨rs,m,ss,h1,h2,h3,rfl⟩:=evReg_of hs
   obtain ⟨k,hk⟩:=evOps_lim hx _ _ _ h1
   refine ⟨k,?_⟩
   simp only [evC,evReg_mk hk h2 h3]; exact h
  ·cases h
theorem evCI_seq (a b : C) (st : St) : evCI p (.seq a b) st = match evCI p a st with
      | some (.nrm, st') => evCI p b st'
      | r => r := by
  refine opt_ext fun r => ?_
  rw [evCI_iff hx]
  constructor
  · rintro ⟨k, hk⟩
    simp only [evC] at hk
    split at hk
    · rename_i hs
      rw [(evCI_iff hx).2 ⟨k, hs⟩]; exact (evCI_iff hx).2 ⟨k, hk⟩
    · rename_i hne
      rw [(evCI_iff hx).2 ⟨k, hk⟩]
      split
      · rename_i hs; cases hs; exact absurd hk (hne _)
      · rfl
  · intro h
    split at h
    · rename_i st' hs
      obtain ⟨k1, h1⟩ := (evCI_iff hx).1 hs
      obtain ⟨k2, h2⟩ := (evCI_iff hx).1 h
      refine ⟨max k1 k2, ?_⟩
      simp only [evC]
      rw [evC_le (evF_le hx (Nat.le_max_left k1 k2)) (Nat.le_max_left k1 k2) _ _ _ h1]
      exact evC_le (evF_le hx (Nat.le_max_right k1 k2)) (Nat.le_max_right k1 k2) _ _ _ h2
    · rename_i hne
      obtain ⟨k, hk⟩ := (evCI_iff hx).1 h
      refine ⟨k, ?_⟩
      simp only [evC]
      rw [hk]
      split
      · rename_i hs; cases hs; exact absurd h (hne _)
      · rfl
theorem evCI_cond (x : X) (a b : C) (st : St) : evCI p (.cond x a b) st = match lk [] st.s x with
      | .bool true => evCI p a st
      | .bool false => evCI p b st
      | _ => none := by
  refine opt_ext fun r => ?_
  rw [evCI_iff hx]
  simp only [evC]
  cases hq : lk [] st.s x <;> try (simp; done)
  rename_i t
  cases t <;> simp only <;> rw [evCI_iff hx]
theorem evCI_block (id : Nat) (a : C) (st : St) : evCI p (.block id a) st = match evCI p a st with
      | some (.exit j, st') => if j = id then some (.nrm, st') else some (.exit j, st')
      | r => r := by
  refine opt_ext fun r => ?_
  rw [evCI_iff hx]
  constructor
  · rintro ⟨k, hk⟩
    simp only [evC] at hk
    split at hk
    · rename_i hs
      rw [(evCI_iff hx).2 ⟨k, hs⟩]; exact hk
    · rename_i hne
      rw [(evCI_iff hx).2 ⟨k, hk⟩]
      split
      · rename_i hs; cases hs; exact absurd hk (hne _ _)
      · rfl
  · intro h
    split at h
    · rename_i hs
      obtain ⟨k, hk⟩ := (evCI_iff hx).1 hs
      exact ⟨k, by simp only [evC, hk]; exact h⟩
    · rename_i hne
      obtain ⟨k, hk⟩ := (evCI_iff hx).1 h
      refine ⟨k, ?_⟩
      simp only [evC]
      rw [hk]
      split
      · rename_i hs; cases hs; exact absurd h (hne _ _)
      · rfl
theorem evCI_loop (a : C) (st : St) : evCI p (.loop a) st = match evCI p a st with
      | some (.nrm, st') => evCI p (.loop a) st'
      | r => r := by
  refine opt_ext fun r => ?_
  rw [evCI_iff hx]
  constructor
  · rintro ⟨k, hk⟩
    simp only [evC] at hk
    cases k with
    | zero => simp [evLoop] at hk
    | succ k =>
      simp only [evLoop] at hk
      split at hk
      · rename_i hs
        rw [(evCI_iff hx).2 ⟨k + 1, hs⟩]
        refine (evCI_iff hx).2 ⟨k + 1, ?_⟩
        simp only [evC]
        exact evLoop_le (fun _ _ h => h) k (k + 1) (Nat.le_succ k) _ _ hk
      · rename_i hne
        rw [(evCI_iff hx).2 ⟨k + 1, hk⟩]
        split
        · rename_i hs; cases hs; exact absurd hk (hne _)
        · rfl
  · intro h
    split at h
    · rename_i st' hs
      obtain ⟨k1, h1⟩ := (evCI_iff hx).1 hs
      obtain ⟨k2, h2⟩ := (evCI_iff hx).1 h
      refine ⟨max k1 k2 + 1, ?_⟩
      simp only [evC, evLoop] at h2 ⊢
      rw [evC_le (evF_le hx (show k1 ≤ max k1 k2 + 1 by omega)) (show k1 ≤ max k1 k2 + 1 by omega) _ _ _ h1]
      exact evLoop_le (fun st r e => evC_le (evF_le hx (show k2 ≤ max k1 k2 + 1 by omega)) (show k2 ≤ max k1 k2 + 1 by omega) _ _ _ e) k2 _ (by omega) _ _ h2
    · rename_i hne
      obtain ⟨k, hk⟩ := (evCI_iff hx).1 h
      refine ⟨k + 1, ?_⟩
      simp only [evC, evLoop]
      rw [evC_le (evF_le hx (Nat.le_succ k)) (Nat.le_succ k) _ _ _ hk]
      split
      · rename_i hs; cases hs; exact absurd h (hne _)
      · rfl
theorem evI_of {md:Md} {f:Nat} {as:List V} {H:List Obj} {ir:Vm.Fn} {ex:Ex} {st:St} {r:V × List Obj} (hf:p.fn f=some ir) (h:evCI p ir.body (ini ir as H)=some (ex,st)) (hex:ex=.nrm∨ex=.ret)
  (hfin:fin md st ir.res=some r):evI p md f as H=some r:=by
 obtain ⟨k,hk⟩:=(evCI_iff hx).1 h
 refine (evI_iff hx).2 ⟨k+1,?_⟩
 simp only [evF,hx,hf,hk]
 rcases hex with rfl | rfl<;>exact hfin
end
end Go.Vm
namespace Go.Vm
section
variable (p:Pg)
noncomputable def thenC (r:Option (Ex × St)) (b:C):Option (Ex × St):=match r with
 | some (.nrm,st')=>evCI p b st'
 | r=>r
noncomputable def condC (v:V) (a b:C) (st:St):Option (Ex × St):=match v with
 | .bool true=>evCI p a st
 | .bool false=>evCI p b st
 | _=>none
def blockC (id:Nat) (r:Option (Ex × St)):Option (Ex × St):=match r with
 | some (.exit j,st')=>if j=id then some (.nrm,st') else some (.exit j,st')
 | r=>r
def outsC (ops:List Op) (prs:List (Nat × Nat)) (outs:List (Nat × Nat × Option Nat)) (ss:List V) (L:Nat) (r:Option (List V × Mem)):Option (Ex × St):=match r with
 | some (rs,m)=>if prs.all (apart L ops (lk rs ss)) then match evOuts rs outs ss with
  | some ss'=>some (.nrm,⟨ss',m⟩)
  | none=>none
  else none
 | none=>none
variable (call:CallT) (ss:List V)
def opsV (ps:List Op) (rs:List V) (r:Option (V × Mem)):Option (List V × Mem):=match r with
 | some (v,m)=>evOps call ss ps (rs ++ [v]) m
 | none=>none
def opsG (ps:List Op) (rs:List V) (m:Mem) (o:O) (g:Option Bool):Option (List V × Mem):=match g with
 | none=>none
 | some false=>evOps call ss ps (rs ++ [.skp]) m
 | some true=>opsV call ss ps rs (evO call (lk rs ss) m o)
noncomputable def finC (md:Md) (rv:List RV) (r:Option (Ex × St)):Option (V × List Obj):=match r with
 | some (.exit _,_)=>none
 | some (_,st)=>fin md st rv
 | none=>none
end
section
variable {P:Program} {hs:Nat→Option Hint} {gl:List (Nat × List V)}
theorem hx (P:Program) (hs:Nat→Option Hint) (gl:List (Nat × List V)) (f:Nat) (q:List V):(pgOf P hs gl).ext f q=none:=rfl
theorem s_seq (a b:C) (st:St):evCI (pgOf P hs gl) (.seq a b) st=thenC (pgOf P hs gl) (evCI (pgOf P hs gl) a st) b:=evCI_seq (hx P hs gl) a b st
theorem s_cond (x:X) (a b:C) (s:List V) (m:Mem):evCI (pgOf P hs gl) (.cond x a b) ⟨s,m⟩=condC (pgOf P hs gl) (lk [] s x) a b ⟨s,m⟩:=evCI_cond (hx P hs gl) x a b _
theorem s_block (id:Nat) (a:C) (st:St):evCI (pgOf P hs gl) (.block id a) st=blockC id (evCI (pgOf P hs gl) a st):=evCI_block (hx P hs gl) id a st
theorem s_loop (a:C) (st:St):evCI (pgOf P hs gl) (.loop a) st=thenC (pgOf P hs gl) (evCI (pgOf P hs gl) a st) (.loop a):=evCI_loop (hx P hs gl) a st
theorem s_reg (ops:List Op) (kl:List (Bool × Nat)) (prs:List (Nat × Nat)) (outs:List (Nat × Nat × Option Nat)) (s:List V) (m:Mem):
  evCI (pgOf P hs gl) (.reg ops kl prs outs) ⟨s,m⟩=outsC ops prs outs (killS kl s) m.H.length (evOps (evI (pgOf P hs gl)) (killS kl s) ops [] m):=by
 rw [evCI_reg (hx P hs gl)]
 unfold evReg outsC
 simp only
 cases evOps (evI (pgOf P hs gl)) (killS kl s) ops [] m with
 | none=>rfl
 | some q=>
  obtain ⟨rs,m⟩:=q
  simp only
  split
  ·rename_i h
   split at h
   ·split at h
    ·cases h
    ·rename_i hq; cases h; rw [hq]; rw [if_pos (by assumption)]
   ·cases h
  ·rename_i h
   split at h
   ·rename_i hp
    rw [if_pos hp]
    split at h
    ·rename_i hq; rw [hq]
    ·cases h
   ·rename_i hp; rw [if_neg hp]
theorem s_skip (st:St):evCI (pgOf P hs gl) .skip st=some (.nrm,st):=evCI_skip (hx P hs gl) st
theorem s_ret (st:St):evCI (pgOf P hs gl) .ret st=some (.ret,st):=evCI_ret (hx P hs gl) st
theorem s_exit (id:Nat) (st:St):evCI (pgOf P hs gl) (.exit id) st=some (.exit id,st):=evCI_exit (hx P hs gl) id st
theorem s_drop (ss:List Nat) (kl:List (Bool × Nat)) (s:List V) (m:Mem):evCI (pgOf P hs gl) (.drop ss kl) ⟨s,m⟩=some (.nrm,⟨undS ss s,emptyM kl m⟩):=evCI_drop (hx P hs gl) ss kl _
theorem s_then_nrm (st:St) (b:C):thenC (pgOf P hs gl) (some (.nrm,st)) b=evCI (pgOf P hs gl) b st:=rfl
theorem s_then_ret (st:St) (b:C):thenC (pgOf P hs gl) (some (.ret,st)) b=some (.ret,st):=rfl
theorem s_then_exit (id:Nat) (st:St) (b:C):thenC (pgOf P hs gl) (some (.exit id,st)) b=some (.exit id,st):=rfl
theorem s_cond_t (a b:C) (st:St):condC (pgOf P hs gl) (.bool true) a b st=evCI (pgOf P hs gl) a st:=rfl
theorem s_cond_f (a b:C) (st:St):condC (pgOf P hs gl) (.bool false) a b st=evCI (pgOf P hs gl) b st:=rfl
theorem s_block_nrm (id:Nat) (st:St):blockC id (some (.nrm,st))=some (.nrm,st):=rfl
theorem s_block_ret (id:Nat) (st:St):blockC id (some (.ret,st))=some (.ret,st):=rfl
theorem s_block_exit (id j:Nat) (st:St):blockC id (some (.exit j,st))=if j=id then some (.nrm,st) else some (.exit j,st):=rfl
theorem s_outs0 (ops:List Op) (outs:List (Nat × Nat × Option Nat)) (ss:List V) (L:Nat) (rs:List V) (m:Mem):outsC ops [] outs ss L (some (rs,m))=match evOuts rs outs ss with
  | some ss'=>some (.nrm,⟨ss',m⟩)
  | none=>none:=rfl
theorem s_outs (ops:List Op) (q:Nat × Nat) (prs:List (Nat × Nat)) (outs:List (Nat × Nat × Option Nat)) (ss:List V) (L:Nat) (rs:List V) (m:Mem):outsC ops (q :: prs) outs ss L (some (rs,m))=if apart L ops (lk rs ss) q then outsC ops prs outs ss L (some (rs,m)) else none:=by
 show (if ((q :: prs).all (apart L ops (lk rs ss)))=true then _ else _)=if apart L ops (lk rs ss) q=true then (if (prs.all (apart L ops (lk rs ss)))=true then _ else _) else _
 have e:((q :: prs).all (apart L ops (lk rs ss)))=true↔apart L ops (lk rs ss) q=true∧prs.all (apart L ops (lk rs ss))=true:=by rw [List.all_cons,Bool.and_eq_true]
 by_cases h3:((q :: prs).all (apart L ops (lk rs ss)))=true
 ·rw [if_pos h3,if_pos (e.1 h3).1,if_pos (e.1 h3).2]
 ·rw [if_neg h3]
  by_cases h:apart L ops (lk rs ss) q=true
  ·rw [if_pos h,if_neg (fun h2=>h3 (e.2 ⟨h,h2⟩))]
  ·rw [if_neg h]
section
variable (call:CallT) (ss:List V)
theorem s_nil (rs:List V) (m:Mem):evOps call ss [] rs m=some (rs,m):=rfl
theorem s_op (o:O) (ps:List Op) (rs:List V) (m:Mem):evOps call ss (⟨o,none⟩ :: ps) rs m=opsV call ss ps rs (evO call (lk rs ss) m o):=by
 simp only [evOps,wants,opsV]
 cases evO call (lk rs ss) m o<;>rfl
theorem s_opg (o:O) (g:Nat × Bool) (ps:List Op) (rs:List V) (m:Mem):evOps call ss (⟨o,some g⟩ :: ps) rs m=opsG call ss ps rs m o (wants rs (some g)):=by
 simp only [evOps,opsV,opsG]
 cases wants rs (some g) with
 | none=>rfl
 | some b=>
  cases b with
  | false=>rfl
  | true=>simp only; cases evO call (lk rs ss) m o<;>rfl
theorem s_opv (ps:List Op) (rs:List V) (v:V) (m:Mem):opsV call ss ps rs (some (v,m))=evOps call ss ps (rs ++ [v]) m:=rfl
theorem s_opgt (ps:List Op) (rs:List V) (m:Mem) (o:O):opsG call ss ps rs m o (some true)=opsV call ss ps rs (evO call (lk rs ss) m o):=rfl
theorem s_opgf (ps:List Op) (rs:List V) (m:Mem) (o:O):opsG call ss ps rs m o (some false)=evOps call ss ps (rs ++ [.skp]) m:=rfl
end
theorem s_fn {md:Md} {f:Nat} {ir:Vm.Fn} (hf:(pgOf P hs gl).fn f=some ir) (as:List V) (H:List Obj):evI (pgOf P hs gl) md f as H=finC md ir.res (evCI (pgOf P hs gl) ir.body (ini ir as H)):=by
 refine opt_ext fun r=>?_
 constructor
 ·intro h
  obtain ⟨k,hk⟩:=(evI_iff (hx P hs gl)).1 h
  cases k with
  | zero=>simp [evF] at hk
  | succ k=>
   simp only [evF,hx P hs,hf] at hk
   split at hk
   ·cases hk
   ·rename_i ex st hne hst
    rw [(evCI_iff (hx P hs gl)).2 ⟨k,hst⟩]
    cases ex with
    | exit id=>exact absurd rfl (hne id)
    | nrm=>exact hk
    | ret=>exact hk
   ·cases hk
 ·intro h
  unfold finC at h
  split at h
  ·cases h
  ·rename_i ex st hne hst
   refine evI_of (hx P hs gl) hf hst ?_ h
   cases ex with
   | exit id=>exact absurd rfl (hne id)
   | nrm=>exact .inl rfl
   | ret=>exact .inr rfl
  ·cases h
theorem s_fin_ret (md:Md) (rv:List RV) (st:St):finC md rv (some (.ret,st))=fin md st rv:=rfl
theorem s_fin_nrm (md:Md) (rv:List RV) (st:St):finC md rv (some (.nrm,st))=fin md st rv:=rfl
theorem wants_at (rs:List V) (j:Nat) (b:Bool):wants rs (some (j,b))=match rs[j]? with
  | some (.bool c)=>some (c == b)
  | some .skp=>some false
  | _=>none:=rfl
def pgL (L:List (Nat × Vm.Fn)):Pg:=⟨fun f=>L.lookup f,fun _ _=>none⟩
theorem lookup_mem {α:Type}:∀ {L:List (Nat × α)} {f:Nat} {a:α},L.lookup f=some a→(f,a)∈L
 | [],f,a,h=>by simp at h
 | (g,b) :: L,f,a,h=>by
  rw [List.lookup_cons] at h
  split at h
  ·rename_i he; cases h; have:f=g:=by simpa using he
   subst this; simp
  ·exact List.mem_cons_of_mem _ (lookup_mem h)
theorem evF_pg {p q:Pg} (hp:∀ f r,p.ext f r=none) (hq:∀ f r,q.ext f r=none) (h:∀ f ir,p.fn f=some ir→q.fn f=some ir):∀ k,CallLe (evF p k) (evF q k)
 | 0=>fun md f r H x h=>by simp [evF] at h
 | k+1=>fun md f r H x e=>by
  rw [evF] at e ⊢
  simp only [hp,hq] at e ⊢
  split at e
  ·cases e
  ·rename_i fn hfn
   rw [h f fn hfn]
   simp only
   have mono:∀ x,evC (evF p k) k fn.body (ini fn r H)=some x→evC (evF q k) k fn.body (ini fn r H)=some x:=fun x e=>evC_le (evF_pg hp hq h k) (Nat.le_refl k) _ _ _ e
   split at e
   ·cases e
   ·rename_i ex st hne hst
    rw [mono _ hst]
    split
    ·rename_i id st' hs; cases hs; exact absurd rfl (hne id)
    ·rename_i hs; cases hs; exact e
    ·rename_i hs; cases hs
   ·cases e
theorem closed {L:List (Nat × Vm.Fn)} (h:∀ q∈L,(pgOf P hs gl).fn q.1=some q.2) (k:Nat) {md:Md} {f:Nat} {q:List V} {H:List Obj} {r:V × List Obj} (e:evF (pgL L) k md f q H=some r):evI (pgOf P hs gl) md f q H=some r:=
 (evI_iff (hx P hs gl)).2 ⟨k,evF_pg (fun _ _=>rfl) (fun _ _=>rfl) (fun f ir hf=>h (f,ir) (lookup_mem hf)) k _ _ _ _ _ e⟩
end
/-! ### what is looked at, form by form -/
section
theorem e_len_isl (t:Bool) (es:List (List V)):lenV (.isl t es)=some es.length:=rfl
theorem e_len_osl (h:Bool) (j:Nat) (es:List (List V)):lenV (.osl h j es)=some es.length:=rfl
theorem e_len_els (es:List (List V)):lenV (.els es)=some es.length:=rfl
theorem e_len_rsl (id off len:Nat):lenV (.rsl id off len)=some len:=rfl
theorem e_len_asl (id idx off len sz:Nat):lenV (.asl id idx off len sz)=some len:=rfl
theorem e_len_lsl (j off len sz:Nat):lenV (.lsl j off len sz)=some len:=rfl
theorem e_len_nils:lenV (.nils)=some 0:=rfl
theorem e_len_emp:lenV (.emp)=some 0:=rfl
theorem e_ia_isl (sz:Nat) (m:Mem) (i:V) (t:Bool) (es:List (List V)):iaSV sz m (.isl t es) i=match asIx es.length i with | some k=>(match es[k]? with | some c=>if c.length=sz then some (.ip t c 0) else none | none=>none) | none=>none:=rfl
theorem e_ia_osl (sz:Nat) (m:Mem) (i:V) (h:Bool) (j:Nat) (es:List (List V)):iaSV sz m (.osl h j es) i=match asIx es.length i with | some k=>(match es[k]? with | some c=>if c.length=sz then some (.ip false c 0) else none | none=>none) | none=>none:=rfl
theorem e_ia_rsl (sz:Nat) (m:Mem) (i:V) (id off len:Nat):iaSV sz m (.rsl id off len) i=match asIx len i with | some k=>(match m.H[id]? with | some (.arr es)=>(match es[off+k]? with | some c=>if c.length=sz then some (.ptr id (off+k) 0) else none | none=>none) | _=>none) | none=>none:=rfl
theorem e_ia_asl (sz:Nat) (m:Mem) (i:V) (id idx off len sz':Nat):iaSV sz m (.asl id idx off len sz') i=match asIx len i with | some k=>if sz'=sz then some (.ptr id idx (off+k * sz)) else none | none=>none:=rfl
theorem e_ia_lsl (sz:Nat) (m:Mem) (i:V) (j off len sz':Nat):iaSV sz m (.lsl j off len sz') i=match asIx len i with | some k=>if sz'=sz then some (.lp j (off+k * sz)) else none | none=>none:=rfl
theorem e_off_ip (d:Nat) (t:Bool) (cs:List V) (o:Nat):offV d (.ip t cs o)=some (.ip t cs (o+d)):=rfl
theorem e_off_ptr (d id idx o:Nat):offV d (.ptr id idx o)=some (.ptr id idx (o+d)):=rfl
theorem e_off_lp (d j o:Nat):offV d (.lp j o)=some (.lp j (o+d)):=rfl
theorem e_load_ip (ag:Bool) (n:Nat) (m:Mem) (t:Bool) (cs:List V) (o:Nat):evLoad ag n m (.ip t cs o)=loadAt ag n cs o:=rfl
theorem e_load_lp (ag:Bool) (n:Nat) (m:Mem) (j o:Nat):evLoad ag n m (.lp j o)=match m.vars[j]? with | some cs=>loadAt ag n cs o | none=>none:=rfl
theorem e_load_ptr (ag:Bool) (n:Nat) (m:Mem) (id idx o:Nat):evLoad ag n m (.ptr id idx o)=match m.H[id]? with | some (.arr es)=>(match es[idx]? with | some cs=>loadAt ag n cs o | none=>none) | _=>none:=rfl
theorem e_slot_undef (q:Option Nat):slotV q (.undef)=some (.undef):=rfl
theorem e_kill_undef (kl:List (Bool × Nat)):killV kl (.undef)=(.undef):=rfl
theorem e_exp_undef:V.exp (.undef)=none:=rfl
theorem e_cells_undef:V.cells (.undef)=[(.undef)]:=rfl
theorem e_slot_skp (q:Option Nat):slotV q (.skp)=some (.skp):=rfl
theorem e_kill_skp (kl:List (Bool × Nat)):killV kl (.skp)=(.skp):=rfl
theorem e_exp_skp:V.exp (.skp)=none:=rfl
theorem e_cells_skp:V.cells (.skp)=[(.skp)]:=rfl
theorem e_slot_bool (q:Option Nat) (b:Bool):slotV q (.bool b)=some (.bool b):=rfl
theorem e_kill_bool (kl:List (Bool × Nat)) (b:Bool):killV kl (.bool b)=(.bool b):=rfl
theorem e_imm_bool (m:Mem) (t':Bool) (d:Nat) (b:Bool):toImm m t' (d+1) (.bool b)=some (.bool b):=rfl
theorem e_exp_bool (b:Bool):V.exp (.bool b)=some (.bool b):=rfl
theorem e_cells_bool (b:Bool):V.cells (.bool b)=[(.bool b)]:=rfl
theorem e_slot_int (q:Option Nat) (k:IntKind) (n:Int):slotV q (.int k n)=some (.int k n):=rfl
theorem e_kill_int (kl:List (Bool × Nat)) (k:IntKind) (n:Int):killV kl (.int k n)=(.int k n):=rfl
theorem e_imm_int (m:Mem) (t':Bool) (d:Nat) (k:IntKind) (n:Int):toImm m t' (d+1) (.int k n)=some (.int k n):=rfl
theorem e_exp_int (k:IntKind) (n:Int):V.exp (.int k n)=some (.int k n):=rfl
theorem e_cells_int (k:IntKind) (n:Int):V.cells (.int k n)=[(.int k n)]:=rfl
theorem e_slot_flt (q:Option Nat) (b:Nat):slotV q (.flt b)=some (.flt b):=rfl
theorem e_kill_flt (kl:List (Bool × Nat)) (b:Nat):killV kl (.flt b)=(.flt b):=rfl
theorem e_imm_flt (m:Mem) (t':Bool) (d:Nat) (b:Nat):toImm m t' (d+1) (.flt b)=some (.flt b):=rfl
theorem e_exp_flt (b:Nat):V.exp (.flt b)=some (.flt b):=rfl
theorem e_cells_flt (b:Nat):V.cells (.flt b)=[(.flt b)]:=rfl
theorem e_slot_str (q:Option Nat) (s:List UInt8):slotV q (.str s)=some (.str s):=rfl
theorem e_kill_str (kl:List (Bool × Nat)) (s:List UInt8):killV kl (.str s)=(.str s):=rfl
theorem e_imm_str (m:Mem) (t':Bool) (d:Nat) (s:List UInt8):toImm m t' (d+1) (.str s)=some (.str s):=rfl
theorem e_exp_str (s:List UInt8):V.exp (.str s)=some (.str s):=rfl
theorem e_cells_str (s:List UInt8):V.cells (.str s)=[(.str s)]:=rfl
theorem e_slot_nilp (q:Option Nat):slotV q (.nilp)=some (.nilp):=rfl
theorem e_kill_nilp (kl:List (Bool × Nat)):killV kl (.nilp)=(.nilp):=rfl
theorem e_imm_nilp (m:Mem) (t':Bool) (d:Nat):toImm m t' (d+1) (.nilp)=some (.nilp):=rfl
theorem e_exp_nilp:V.exp (.nilp)=some (.nilp):=rfl
theorem e_cells_nilp:V.cells (.nilp)=[(.nilp)]:=rfl
theorem e_slot_nils (q:Option Nat):slotV q (.nils)=some (.nils):=rfl
theorem e_kill_nils (kl:List (Bool × Nat)):killV kl (.nils)=(.nils):=rfl
theorem e_imm_nils (m:Mem) (t':Bool) (d:Nat):toImm m t' (d+1) (.nils)=some (.nils):=rfl
theorem e_exp_nils:V.exp (.nils)=some (.nils):=rfl
theorem e_cells_nils:V.cells (.nils)=[(.nils)]:=rfl
theorem e_slot_nilm (q:Option Nat):slotV q (.nilm)=some (.nilm):=rfl
theorem e_kill_nilm (kl:List (Bool × Nat)):killV kl (.nilm)=(.nilm):=rfl
theorem e_imm_nilm (m:Mem) (t':Bool) (d:Nat):toImm m t' (d+1) (.nilm)=some (.nilm):=rfl
theorem e_exp_nilm:V.exp (.nilm)=some (.nilm):=rfl
theorem e_cells_nilm:V.cells (.nilm)=[(.nilm)]:=rfl
theorem e_slot_nilf (q:Option Nat):slotV q (.nilf)=some (.nilf):=rfl
theorem e_kill_nilf (kl:List (Bool × Nat)):killV kl (.nilf)=(.nilf):=rfl
theorem e_imm_nilf (m:Mem) (t':Bool) (d:Nat):toImm m t' (d+1) (.nilf)=some (.nilf):=rfl
theorem e_exp_nilf:V.exp (.nilf)=some (.nilf):=rfl
theorem e_cells_nilf:V.cells (.nilf)=[(.nilf)]:=rfl
theorem e_slot_nili (q:Option Nat):slotV q (.nili)=some (.nili):=rfl
theorem e_kill_nili (kl:List (Bool × Nat)):killV kl (.nili)=(.nili):=rfl
theorem e_imm_nili (m:Mem) (t':Bool) (d:Nat):toImm m t' (d+1) (.nili)=some (.nili):=rfl
theorem e_exp_nili:V.exp (.nili)=some (.nili):=rfl
theorem e_cells_nili:V.cells (.nili)=[(.nili)]:=rfl
theorem e_slot_emp (q:Option Nat):slotV q (.emp)=some (.emp):=rfl
theorem e_kill_emp (kl:List (Bool × Nat)):killV kl (.emp)=(.emp):=rfl
theorem e_imm_emp (m:Mem) (t':Bool) (d:Nat):toImm m t' (d+1) (.emp)=some (.emp):=rfl
theorem e_exp_emp:V.exp (.emp)=some (.emp):=rfl
theorem e_cells_emp:V.cells (.emp)=[(.emp)]:=rfl
theorem e_slot_isl (q:Option Nat) (t:Bool) (es:List (List V)):slotV q (.isl t es)=some (.isl t es):=rfl
theorem e_kill_isl (kl:List (Bool × Nat)) (t:Bool) (es:List (List V)):killV kl (.isl t es)=(.isl t es):=rfl
theorem e_imm_isl (m:Mem) (t':Bool) (d:Nat) (t:Bool) (es:List (List V)):toImm m t' (d+1) (.isl t es)=some (.isl t es):=rfl
theorem e_exp_isl (t:Bool) (es:List (List V)):V.exp (.isl t es)=some (.isl t es):=rfl
theorem e_cells_isl (t:Bool) (es:List (List V)):V.cells (.isl t es)=[(.isl t es)]:=rfl
theorem e_slot_ip (q:Option Nat) (t:Bool) (cs:List V) (o:Nat):slotV q (.ip t cs o)=some (.ip t cs o):=rfl
theorem e_kill_ip (kl:List (Bool × Nat)) (t:Bool) (cs:List V) (o:Nat):killV kl (.ip t cs o)=(.ip t cs o):=rfl
theorem e_imm_ip (m:Mem) (t':Bool) (d:Nat) (t:Bool) (cs:List V) (o:Nat):toImm m t' (d+1) (.ip t cs o)=some (.ip t cs o):=rfl
theorem e_exp_ip (t:Bool) (cs:List V) (o:Nat):V.exp (.ip t cs o)=some (.ip t cs o):=rfl
theorem e_cells_ip (t:Bool) (cs:List V) (o:Nat):V.cells (.ip t cs o)=[(.ip t cs o)]:=rfl
theorem e_slot_imap (q:Option Nat) (t:Bool) (es:List (List V)):slotV q (.imap t es)=some (.imap t es):=rfl
theorem e_kill_imap (kl:List (Bool × Nat)) (t:Bool) (es:List (List V)):killV kl (.imap t es)=(.imap t es):=rfl
theorem e_imm_imap (m:Mem) (t':Bool) (d:Nat) (t:Bool) (es:List (List V)):toImm m t' (d+1) (.imap t es)=some (.imap t es):=rfl
theorem e_exp_imap (t:Bool) (es:List (List V)):V.exp (.imap t es)=some (.imap t es):=rfl
theorem e_cells_imap (t:Bool) (es:List (List V)):V.cells (.imap t es)=[(.imap t es)]:=rfl
theorem e_slot_oslt (q:Option Nat) (j:Nat) (es:List (List V)):slotV q (.osl true j es)=some (.osl true j es):=rfl
theorem e_slot_oslf (q:Option Nat) (j:Nat) (es:List (List V)):slotV q (.osl false j es)=if q=some (2 * j) then some (.osl false j es) else some (ils es):=rfl
theorem e_kill_oslt (kl:List (Bool × Nat)) (j:Nat) (es:List (List V)):killV kl (.osl true j es)=.osl true j es:=rfl
theorem e_kill_oslf (kl:List (Bool × Nat)) (j:Nat) (es:List (List V)):killV kl (.osl false j es)=if kl.contains (false,j) then .undef else .osl false j es:=rfl
theorem e_exp_oslt (j:Nat) (es:List (List V)):V.exp (.osl true j es)=some (.osl true j es):=rfl
theorem e_exp_oslf (j:Nat) (es:List (List V)):V.exp (.osl false j es)=some (ils es):=rfl
theorem e_cells_osl (h:Bool) (j:Nat) (es:List (List V)):V.cells (.osl h j es)=[(.osl h j es)]:=rfl
theorem e_slot_rsl (q:Option Nat) (id off len:Nat):slotV q (.rsl id off len)=some (.rsl id off len):=rfl
theorem e_kill_rsl (kl:List (Bool × Nat)) (id off len:Nat):killV kl (.rsl id off len)=(.rsl id off len):=rfl
theorem e_exp_rsl (id off len:Nat):V.exp (.rsl id off len)=some (.rsl id off len):=rfl
theorem e_cells_rsl (id off len:Nat):V.cells (.rsl id off len)=[(.rsl id off len)]:=rfl
theorem e_slot_asl (q:Option Nat) (id idx off len sz:Nat):slotV q (.asl id idx off len sz)=some (.asl id idx off len sz):=rfl
theorem e_kill_asl (kl:List (Bool × Nat)) (id idx off len sz:Nat):killV kl (.asl id idx off len sz)=(.asl id idx off len sz):=rfl
theorem e_exp_asl (id idx off len sz:Nat):V.exp (.asl id idx off len sz)=some (.asl id idx off len sz):=rfl
theorem e_cells_asl (id idx off len sz:Nat):V.cells (.asl id idx off len sz)=[(.asl id idx off len sz)]:=rfl
theorem e_slot_ptr (q:Option Nat) (id idx off:Nat):slotV q (.ptr id idx off)=some (.ptr id idx off):=rfl
theorem e_kill_ptr (kl:List (Bool × Nat)) (id idx off:Nat):killV kl (.ptr id idx off)=(.ptr id idx off):=rfl
theorem e_exp_ptr (id idx off:Nat):V.exp (.ptr id idx off)=some (.ptr id idx off):=rfl
theorem e_cells_ptr (id idx off:Nat):V.cells (.ptr id idx off)=[(.ptr id idx off)]:=rfl
theorem e_slot_lp (q:Option Nat) (j o:Nat):slotV q (.lp j o)=if q=some (2 * j+1)∧o=0 then some (.lp j 0) else none:=rfl
theorem e_kill_lp (kl:List (Bool × Nat)) (j off:Nat):killV kl (.lp j off)=if kl.contains (true,j) then .undef else (.lp j off):=rfl
theorem e_exp_lp (j off:Nat):V.exp (.lp j off)=none:=rfl
theorem e_cells_lp (j off:Nat):V.cells (.lp j off)=[(.lp j off)]:=rfl
theorem e_kill_lsl (kl:List (Bool × Nat)) (j off len sz:Nat):killV kl (.lsl j off len sz)=if kl.contains (true,j) then .undef else (.lsl j off len sz):=rfl
theorem e_exp_lsl (j off len sz:Nat):V.exp (.lsl j off len sz)=none:=rfl
theorem e_cells_lsl (j off len sz:Nat):V.cells (.lsl j off len sz)=[(.lsl j off len sz)]:=rfl
theorem e_kill_els (kl:List (Bool × Nat)) (es:List (List V)):killV kl (.els es)=(.els es):=rfl
theorem e_exp_els (es:List (List V)):V.exp (.els es)=none:=rfl
theorem e_cells_els (es:List (List V)):V.cells (.els es)=[(.els es)]:=rfl
theorem e_slot_map (q:Option Nat) (id:Nat):slotV q (.map id)=some (.map id):=rfl
theorem e_kill_map (kl:List (Bool × Nat)) (id:Nat):killV kl (.map id)=(.map id):=rfl
theorem e_exp_map (id:Nat):V.exp (.map id)=some (.map id):=rfl
theorem e_cells_map (id:Nat):V.cells (.map id)=[(.map id)]:=rfl
theorem e_slot_fn (q:Option Nat) (f:Nat) (fs cs:List V):slotV q (.fn f fs cs)=some (.fn f fs cs):=rfl
theorem e_kill_fn (kl:List (Bool × Nat)) (f:Nat) (fs cs:List V):killV kl (.fn f fs cs)=(.fn f fs cs):=rfl
theorem e_exp_fn (f:Nat) (fs cs:List V):V.exp (.fn f fs cs)=some (.fn f fs cs):=rfl
theorem e_cells_fn (f:Nat) (fs cs:List V):V.cells (.fn f fs cs)=[(.fn f fs cs)]:=rfl
theorem e_slot_iface (q:Option Nat) (t:Nat) (v:V):slotV q (.iface t v)=some (.iface t v):=rfl
theorem e_kill_iface (kl:List (Bool × Nat)) (t:Nat) (v:V):killV kl (.iface t v)=(.iface t v):=rfl
theorem e_exp_iface (t:Nat) (v:V):V.exp (.iface t v)=some (.iface t v):=rfl
theorem e_cells_iface (t:Nat) (v:V):V.cells (.iface t v)=[(.iface t v)]:=rfl
theorem e_slot_agg (q:Option Nat) (cs:List V):slotV q (.agg cs)=some (.agg cs):=rfl
theorem e_kill_agg (kl:List (Bool × Nat)) (cs:List V):killV kl (.agg cs)=(.agg cs):=rfl
theorem e_exp_agg (cs:List V):V.exp (.agg cs)=some (.agg cs):=rfl
theorem e_cells_agg (cs:List V):V.cells (.agg cs)=cs:=rfl
theorem e_slot_tup (q:Option Nat) (vs:List V):slotV q (.tup vs)=some (.tup vs):=rfl
theorem e_kill_tup (kl:List (Bool × Nat)) (vs:List V):killV kl (.tup vs)=(.tup vs):=rfl
theorem e_exp_tup (vs:List V):V.exp (.tup vs)=none:=rfl
theorem e_cells_tup (vs:List V):V.cells (.tup vs)=[(.tup vs)]:=rfl
theorem e_imm_osl (m:Mem) (t':Bool) (d:Nat) (h:Bool) (j:Nat) (es:List (List V)):toImm m t' (d+1) (.osl h j es)=some (ils es):=rfl
theorem e_imm_rsl (m:Mem) (t':Bool) (d:Nat) (id off len:Nat):toImm m t' (d+1) (.rsl id off len)=match m.H[id]? with | some (.arr es)=>if off+len≤es.length then (omap2 (toImm m t' d) ((es.drop off).take len)).map (.isl t') else none | _=>none:=rfl
theorem e_imm_asl (m:Mem) (t':Bool) (d:Nat) (id idx off len sz:Nat):toImm m t' (d+1) (.asl id idx off len sz)=match m.H[id]? with | some (.arr es)=>(match es[idx]? with | some cs=>if off+len * sz≤cs.length then (omap (toImm m t' d) ((cs.drop off).take (len * sz))).map (fun c=>.isl t' (chunk sz len c)) else none | none=>none) | _=>none:=rfl
theorem e_imm_ptr (m:Mem) (t':Bool) (d:Nat) (id idx off:Nat):toImm m t' (d+1) (.ptr id idx off)=match m.H[id]? with | some (.arr es)=>(match es[idx]? with | some cs=>(omap (toImm m t' d) cs).map (fun c=>.ip t' c off) | none=>none) | _=>none:=rfl
theorem e_imm_lp (m:Mem) (t':Bool) (d:Nat) (j off:Nat):toImm m t' (d+1) (.lp j off)=match m.vars[j]? with | some cs=>(omap (toImm m t' d) cs).map (fun c=>.ip t' c off) | none=>none:=rfl
theorem e_imm_lsl (m:Mem) (t':Bool) (d:Nat) (j off len sz:Nat):toImm m t' (d+1) (.lsl j off len sz)=match m.vars[j]? with | some cs=>if off+len * sz≤cs.length then (omap (toImm m t' d) ((cs.drop off).take (len * sz))).map (fun c=>.isl t' (chunk sz len c)) else none | none=>none:=rfl
theorem e_imm_map (m:Mem) (t':Bool) (d:Nat) (id:Nat):toImm m t' (d+1) (.map id)=none:=rfl
theorem e_imm_fn (m:Mem) (t':Bool) (d:Nat) (f:Nat) (fs cs:List V):toImm m t' (d+1) (.fn f fs cs)=match omap (toImm m t' d) fs with | some fs'=>(omap (toImm m t' d) cs).map (fun cs'=>.fn f fs' cs') | none=>none:=rfl
theorem e_imm_iface (m:Mem) (t':Bool) (d:Nat) (ty:Nat) (v:V):toImm m t' (d+1) (.iface ty v)=(toImm m t' d v).map (.iface ty):=rfl
theorem e_imm_agg (m:Mem) (t':Bool) (d:Nat) (cs:List V):toImm m t' (d+1) (.agg cs)=(omap (toImm m t' d) cs).map .agg:=rfl
theorem e_imm_tup (m:Mem) (t':Bool) (d:Nat) (cs:List V):toImm m t' (d+1) (.tup cs)=(omap (toImm m t' d) cs).map .tup:=rfl
end
theorem killS_nil (s:List V):killS [] s=s:=rfl
theorem killS_cons (q:Bool × Nat) (kl:List (Bool × Nat)) (s:List V):killS (q :: kl) s=s.map (killV (q :: kl)):=rfl
def fpR (L:Nat):V→Fp
 | .rsl id _ _=>.hr L id
 | _=>.no
def fpMp (L:Nat):V→Fp
 | .map id=>.hr L id
 | _=>.no
def fpCv (md:Md) (vs:List V):V→Fp
 | .fn _ fs cs=>fpC md (fs ++ vs ++ cs)
 | _=>.no
def fpAp (L:Nat) (x y:V):Fp:=match x,y with
 | .osl false j _,_=>⟨.no,.at j,.rd⟩
 | .osl true j _,.isl .. | .osl true j _,.els _=>.hw L j
 | .nils,.isl _ (_ :: _) | .nils,.els (_ :: _) | .emp,.isl _ (_ :: _) | .emp,.els (_ :: _)=>⟨.no,.no,.new⟩
 | _,_=>⟨.no,.no,.wr⟩
section
variable (L:Nat) (ρ:X→V)
theorem e_fp_mv (x:X):fpO L ρ (.mv x)=.no:=rfl
theorem e_fp_pick (c a b:X):fpO L ρ (.pick c a b)=.no:=rfl
theorem e_fp_build (z:List V) (ps:List (Nat × Nat × X)):fpO L ρ (.build z ps)=.no:=rfl
theorem e_fp_nilck (x:X):fpO L ρ (.nilck x)=.no:=rfl
theorem e_fp_bin (o:BinOp) (x y:X):fpO L ρ (.bin o x y)=.no:=rfl
theorem e_fp_eqb (ne:Bool) (x y:X):fpO L ρ (.eqb ne x y)=.no:=rfl
theorem e_fp_eqn (k:NK) (ne:Bool) (x y:X):fpO L ρ (.eqn k ne x y)=.no:=rfl
theorem e_fp_eqa (ne:Bool) (ks:List CK) (x y:X):fpO L ρ (.eqa ne ks x y)=.no:=rfl
theorem e_fp_un (o:UnOp) (x:X):fpO L ρ (.un o x)=.no:=rfl
theorem e_fp_i2i (k:IntKind) (x:X):fpO L ρ (.i2i k x)=.no:=rfl
theorem e_fp_i2f (x:X):fpO L ρ (.i2f x)=.no:=rfl
theorem e_fp_f2i (k:IntKind) (x:X):fpO L ρ (.f2i k x)=.no:=rfl
theorem e_fp_same (x:X):fpO L ρ (.same x)=.no:=rfl
theorem e_fp_prim (k:PK) (x:X):fpO L ρ (.prim k x)=.no:=rfl
theorem e_fp_bad:fpO L ρ (.bad)=.no:=rfl
theorem e_fp_off (d:Nat) (x:X):fpO L ρ (.off d x)=.no:=rfl
theorem e_fp_fld (d:Nat) (ag:Bool) (n:Nat) (x:X):fpO L ρ (.fld d ag n x)=.no:=rfl
theorem e_fp_iaA (len sz:Nat) (x i:X):fpO L ρ (.iaA len sz x i)=.no:=rfl
theorem e_fp_ixA (len sz:Nat) (ag:Bool) (x i:X):fpO L ρ (.ixA len sz ag x i)=.no:=rfl
theorem e_fp_ixS (x i:X):fpO L ρ (.ixS x i)=.no:=rfl
theorem e_fp_mksv (z:List V) (bytes:Nat) (l c:X):fpO L ρ (.mksv z bytes l c)=.no:=rfl
theorem e_fp_slcA (n sz:Nat) (x:X) (lo hi mx:Option X):fpO L ρ (.slcA n sz x lo hi mx)=.no:=rfl
theorem e_fp_ext (x:X) (i:Nat):fpO L ρ (.ext x i)=.no:=rfl
theorem e_fp_min (xs:List X):fpO L ρ (.min xs)=.no:=rfl
theorem e_fp_max (xs:List X):fpO L ρ (.max xs)=.no:=rfl
theorem e_fp_mkfn (f:Nat) (fs cs:List X):fpO L ρ (.mkfn f fs cs)=.no:=rfl
theorem e_fp_mkif (t:Nat) (x:X):fpO L ρ (.mkif t x)=.no:=rfl
theorem e_fp_cpy (x y:X):fpO L ρ (.cpy x y)=.no:=rfl
theorem e_fp_onil (j:Nat):fpO L ρ (.onil j)=⟨.no,.at j,.no⟩:=rfl
theorem e_fp_lalloc (j:Nat) (z:List V):fpO L ρ (.lalloc j z)=⟨.at j,.no,.no⟩:=rfl
theorem e_fp_lbox (j n:Nat) (x:X):fpO L ρ (.lbox j n x)=⟨.at j,.no,.no⟩:=rfl
theorem e_fp_halloc (z:List V):fpO L ρ (.halloc z)=⟨.no,.no,.new⟩:=rfl
theorem e_fp_hbox (n:Nat) (x:X):fpO L ρ (.hbox n x)=⟨.no,.no,.new⟩:=rfl
theorem e_fp_mksl (z:List V) (bytes:Nat) (l c:X):fpO L ρ (.mksl z bytes l c)=⟨.no,.no,.new⟩:=rfl
theorem e_fp_mkmap:fpO L ρ (.mkmap)=⟨.no,.no,.new⟩:=rfl
theorem e_fp_clr (z:List V) (x:X):fpO L ρ (.clr z x)=⟨.no,.no,.wr⟩:=rfl
theorem e_fp_mput (m k v:X):fpO L ρ (.mput m k v)=⟨.no,.no,.wr⟩:=rfl
theorem e_fp_mdel (m k:X):fpO L ρ (.mdel m k)=⟨.no,.no,.wr⟩:=rfl
theorem e_fp_lit (k sz:Nat) (z:List (List V)) (ps:List (Nat × X)):fpO L ρ (.lit k sz z ps)=if k ≥ 3 then ⟨.no,.at (k - 3),.no⟩ else if k=2 then ⟨.no,.no,.wr⟩ else .no:=rfl
theorem e_fp_load (sp:Nat) (ag:Bool) (n:Nat) (a:X):fpO L ρ (.load sp ag n a)=fpL L (ρ a):=rfl
theorem e_fp_store (sp n:Nat) (a x:X):fpO L ρ (.store sp n a x)=fpS L (ρ a):=rfl
theorem e_fp_iaS (sz:Nat) (x i:X):fpO L ρ (.iaS sz x i)=fpR L (ρ x):=rfl
theorem e_fp_slc (sz:Nat) (x:X) (lo hi mx:Option X):fpO L ρ (.slc sz x lo hi mx)=fpR L (ρ x):=rfl
theorem e_fp_len (k:Nat) (x:X):fpO L ρ (.len k x)=fpMp L (ρ x):=rfl
theorem e_fp_call (md:Md) (f:Nat) (xs:List X):fpO L ρ (.call md f xs)=fpC md (xs.map ρ):=rfl
theorem e_fp_callv (md:Md) (x:X) (xs:List X):fpO L ρ (.callv md x xs)=fpCv md (xs.map ρ) (ρ x):=rfl
theorem e_fp_app (k sz bytes:Nat) (x y:X):fpO L ρ (.app k sz bytes x y)=fpAp L (ρ x) (ρ y):=rfl
theorem e_fp_appR (j sz bytes:Nat) (x y:X):fpO L ρ (.appR j sz bytes x y)=⟨.no,.at j,.rd⟩:=rfl
theorem e_fp_look (ok ag:Bool) (z:List V) (m k:X):fpO L ρ (.look ok ag z m k)=⟨.no,.no,.rd⟩:=rfl
theorem e_fpR_rsl (id off len:Nat):fpR L (.rsl id off len)=.hr L id:=rfl
theorem e_fpR_isl (t:Bool) (es:List (List V)):fpR L (.isl t es)=.no:=rfl
theorem e_fpR_osl (h:Bool) (j:Nat) (es:List (List V)):fpR L (.osl h j es)=.no:=rfl
theorem e_fpR_nils:fpR L (.nils)=.no:=rfl
theorem e_fpR_emp:fpR L (.emp)=.no:=rfl
theorem e_fpR_asl (id idx off len sz:Nat):fpR L (.asl id idx off len sz)=.no:=rfl
theorem e_fpR_lsl (j off len sz:Nat):fpR L (.lsl j off len sz)=.no:=rfl
theorem e_fpR_els (es:List (List V)):fpR L (.els es)=.no:=rfl
theorem e_fpR_str (s:List UInt8):fpR L (.str s)=.no:=rfl
theorem e_fpMp_isl (t:Bool) (es:List (List V)):fpMp L (.isl t es)=.no:=rfl
theorem e_fpMp_osl (h:Bool) (j:Nat) (es:List (List V)):fpMp L (.osl h j es)=.no:=rfl
theorem e_fpMp_nils:fpMp L (.nils)=.no:=rfl
theorem e_fpMp_emp:fpMp L (.emp)=.no:=rfl
theorem e_fpMp_asl (id idx off len sz:Nat):fpMp L (.asl id idx off len sz)=.no:=rfl
theorem e_fpMp_lsl (j off len sz:Nat):fpMp L (.lsl j off len sz)=.no:=rfl
theorem e_fpMp_els (es:List (List V)):fpMp L (.els es)=.no:=rfl
theorem e_fpMp_str (s:List UInt8):fpMp L (.str s)=.no:=rfl
theorem e_fpMp_rsl (id off len:Nat):fpMp L (.rsl id off len)=.no:=rfl
theorem e_fpMp_nilm:fpMp L (.nilm)=.no:=rfl
theorem e_fpMp_imap (t:Bool) (es:List (List V)):fpMp L (.imap t es)=.no:=rfl
theorem e_fpMp_map (id:Nat):fpMp L (.map id)=.hr L id:=rfl
theorem e_fpCv (md:Md) (vs:List V) (f:Nat) (fs cs:List V):fpCv md vs (.fn f fs cs)=fpC md (fs ++ vs ++ cs):=rfl
theorem e_fpAp_oslf (j:Nat) (es:List (List V)) (y:V):fpAp L (.osl false j es) y=⟨.no,.at j,.rd⟩:=by cases y<;>rfl
theorem e_fpAp_oslt (j:Nat) (es:List (List V)) (t:Bool) (fs:List (List V)):fpAp L (.osl true j es) (.isl t fs)=.hw L j:=rfl
theorem e_fpAp_oslt' (j:Nat) (es fs:List (List V)):fpAp L (.osl true j es) (.els fs)=.hw L j:=rfl
theorem e_fpAp_nils_isl (t:Bool) (e:List V) (es:List (List V)):fpAp L .nils (.isl t (e :: es))=⟨.no,.no,.new⟩:=rfl
theorem e_fpAp_nils_els (e:List V) (es:List (List V)):fpAp L .nils (.els (e :: es))=⟨.no,.no,.new⟩:=rfl
theorem e_fpAp_emp_isl (t:Bool) (e:List V) (es:List (List V)):fpAp L .emp (.isl t (e :: es))=⟨.no,.no,.new⟩:=rfl
theorem e_fpAp_emp_els (e:List V) (es:List (List V)):fpAp L .emp (.els (e :: es))=⟨.no,.no,.new⟩:=rfl
theorem e_fpAp_rsl (id off len:Nat) (y:V):fpAp L (.rsl id off len) y=⟨.no,.no,.wr⟩:=by cases y<;>rfl
end
/-! ### what was put behind, as anybody sees it -/
section
variable (es:List (List V))
theorem e_len_ils:lenV (ils es)=some es.length:=by cases es<;>rfl
theorem e_src_ils (m:Mem):srcV m (ils es)=some es:=by cases es<;>rfl
theorem e_slot_ils (q:Option Nat):slotV q (ils es)=some (ils es):=by cases es<;>rfl
theorem e_kill_ils (kl:List (Bool × Nat)):killV kl (ils es)=ils es:=by cases es<;>rfl
theorem e_imm_ils (m:Mem) (t:Bool) (d:Nat):toImm m t (d+1) (ils es)=some (ils es):=by cases es<;>rfl
theorem e_exp_ils:V.exp (ils es)=some (ils es):=by cases es<;>rfl
theorem e_cells_ils:V.cells (ils es)=[ils es]:=by cases es<;>rfl
theorem e_fpR_ils (L:Nat):fpR L (ils es)=.no:=by cases es<;>rfl
theorem e_fpMp_ils (L:Nat):fpMp L (ils es)=.no:=by cases es<;>rfl
end
attribute [go_sem] e_len_ils e_src_ils e_slot_ils e_kill_ils e_imm_ils e_exp_ils e_cells_ils e_fpR_ils e_fpMp_ils ils_flat ils_imm ils_loc s_outs apart fpL fpS fpC Fp.comm Tc.comm Fp.no Fp.hr Fp.hw callF asIx loadAt spOK unV minV maxV foldV s_seq s_cond s_block s_reg s_skip s_ret s_exit s_drop undS emptyM s_then_nrm s_then_ret s_then_exit s_cond_t s_cond_f s_block_nrm s_block_ret s_block_exit s_outs0 s_nil s_op s_opg s_opv s_opgt s_opgf s_fin_ret s_fin_nrm wants_at evO lk val binV isSh intV shV evOuts fin resV omap one ini depth e_len_isl e_len_osl e_len_els e_len_rsl e_len_asl e_len_lsl e_len_nils e_len_emp e_ia_isl e_ia_osl e_ia_rsl e_ia_asl e_ia_lsl e_off_ip e_off_ptr e_off_lp e_load_ip e_load_lp e_load_ptr e_slot_undef e_kill_undef e_exp_undef e_cells_undef e_slot_skp e_kill_skp e_exp_skp e_cells_skp e_slot_bool e_kill_bool e_imm_bool e_exp_bool e_cells_bool e_slot_int e_kill_int e_imm_int e_exp_int e_cells_int e_slot_flt e_kill_flt e_imm_flt e_exp_flt e_cells_flt e_slot_str e_kill_str e_imm_str e_exp_str e_cells_str e_slot_nilp e_kill_nilp e_imm_nilp e_exp_nilp e_cells_nilp e_slot_nils e_kill_nils e_imm_nils e_exp_nils e_cells_nils e_slot_nilm e_kill_nilm e_imm_nilm e_exp_nilm e_cells_nilm e_slot_nilf e_kill_nilf e_imm_nilf e_exp_nilf e_cells_nilf e_slot_nili e_kill_nili e_imm_nili e_exp_nili e_cells_nili e_slot_emp e_kill_emp e_imm_emp e_exp_emp e_cells_emp e_slot_isl e_kill_isl e_imm_isl e_exp_isl e_cells_isl e_slot_ip e_kill_ip e_imm_ip e_exp_ip e_cells_ip e_slot_imap e_kill_imap e_imm_imap e_exp_imap e_cells_imap e_slot_oslt e_slot_oslf e_kill_oslt e_kill_oslf e_exp_oslt e_exp_oslf e_cells_osl e_slot_rsl e_kill_rsl e_exp_rsl e_cells_rsl e_slot_asl e_kill_asl e_exp_asl e_cells_asl e_slot_ptr e_kill_ptr e_exp_ptr e_cells_ptr e_slot_lp e_kill_lp e_exp_lp e_cells_lp e_kill_lsl e_exp_lsl e_cells_lsl e_kill_els e_exp_els e_cells_els e_slot_map e_kill_map e_exp_map e_cells_map e_slot_fn e_kill_fn e_exp_fn e_cells_fn e_slot_iface e_kill_iface e_exp_iface e_cells_iface e_slot_agg e_kill_agg e_exp_agg e_cells_agg e_slot_tup e_kill_tup e_exp_tup e_cells_tup e_imm_osl e_imm_rsl e_imm_asl e_imm_ptr e_imm_lp e_imm_lsl e_imm_map e_imm_fn e_imm_iface e_imm_agg e_imm_tup killS_nil killS_cons e_fp_mv e_fp_pick e_fp_build e_fp_nilck e_fp_bin e_fp_eqb e_fp_eqn e_fp_eqa e_fp_un e_fp_i2i e_fp_i2f e_fp_f2i e_fp_same e_fp_prim e_fp_bad e_fp_off e_fp_fld e_fp_iaA e_fp_ixA e_fp_ixS e_fp_mksv e_fp_slcA e_fp_ext e_fp_min e_fp_max e_fp_mkfn e_fp_mkif e_fp_cpy e_fp_onil e_fp_lalloc e_fp_lbox e_fp_halloc e_fp_hbox e_fp_mksl e_fp_mkmap e_fp_clr e_fp_mput e_fp_mdel e_fp_lit e_fp_load e_fp_store e_fp_iaS e_fp_slc e_fp_len e_fp_call e_fp_callv e_fp_app e_fp_appR e_fp_look e_fpR_rsl e_fpR_isl e_fpR_osl e_fpR_nils e_fpR_emp e_fpR_asl e_fpR_lsl e_fpR_els e_fpR_str e_fpMp_isl e_fpMp_osl e_fpMp_nils e_fpMp_emp e_fpMp_asl e_fpMp_lsl e_fpMp_els e_fpMp_str e_fpMp_rsl e_fpMp_nilm e_fpMp_imap e_fpMp_map e_fpCv e_fpAp_oslf e_fpAp_oslt e_fpAp_oslt' e_fpAp_nils_isl e_fpAp_nils_els e_fpAp_emp_isl e_fpAp_emp_els e_fpAp_rsl
end Go.Vm
namespace Go.Vm
theorem wrap_i64_eq (n:Int):IntKind.i64.wrap n=if n % 18446744073709551616 ≥ 9223372036854775808 then n % 18446744073709551616 - 18446744073709551616 else n % 18446744073709551616:=by
 show (if (true && decide (n % 18446744073709551616 ≥ 9223372036854775808))=true then n % 18446744073709551616 - 18446744073709551616 else n % 18446744073709551616)=_
 simp only [Bool.true_and,decide_eq_true_eq]
theorem wrap_i64 {n:Int} (h:-9223372036854775808≤n) (h':n≤9223372036854775807):IntKind.i64.wrap n=n:=by
 rw [wrap_i64_eq]; split<;>omega
theorem wrap_u64 (a:Nat):IntKind.u64.wrap (a:Int)=((a % 18446744073709551616:Nat):Int):=by
 simp only [IntKind.wrap,IntKind.bits,IntKind.signed]; simp
theorem wrap_u64' {a:Nat} (h:a<18446744073709551616):IntKind.u64.wrap (a:Int)=(a:Int):=by
 rw [wrap_u64,Nat.mod_eq_of_lt h]
theorem wrap_u8 (a:Nat):IntKind.u8.wrap (a:Int)=((a % 256:Nat):Int):=by
 simp only [IntKind.wrap,IntKind.bits,IntKind.signed]; simp
theorem toNat64 {a:Nat} (h:a<18446744073709551616):(BitVec.ofInt 64 (a:Int)).toNat=a:=by
 rw [BitVec.ofInt_natCast,BitVec.toNat_ofNat]; exact Nat.mod_eq_of_lt (by omega)
theorem and_u64 {a b:Nat} (ha:a<18446744073709551616) (hb:b<18446744073709551616):andI .u64 a b=((a &&& b:Nat):Int):=by
 have h:a &&& b<2 ^ 64:=Nat.and_lt_two_pow _ (by omega)
 show IntKind.u64.wrap ((BitVec.ofInt 64 (a:Int) &&& BitVec.ofInt 64 (b:Int)).toNat:Nat)=_
 rw [BitVec.toNat_and,toNat64 ha,toNat64 hb,wrap_u64' (by omega)]
theorem or_u64 {a b:Nat} (ha:a<18446744073709551616) (hb:b<18446744073709551616):orI .u64 a b=((a ||| b:Nat):Int):=by
 have h:a ||| b<2 ^ 64:=Nat.or_lt_two_pow (by omega) (by omega)
 show IntKind.u64.wrap ((BitVec.ofInt 64 (a:Int) ||| BitVec.ofInt 64 (b:Int)).toNat:Nat)=_
 rw [BitVec.toNat_or,toNat64 ha,toNat64 hb,wrap_u64' (by omega)]
/-! ### shifts -/
theorem shr_nat (a k:Nat):((a:Int)).fdiv (2 ^ k)=((a / 2 ^ k:Nat):Int):=by
 rw [Int.fdiv_eq_ediv_of_nonneg _ (by exact_mod_cast Nat.zero_le (2 ^ k))]
 simp
theorem min_nat (a b:Nat):Nat.min a b=min a b:=rfl
theorem neg_nat (k:Nat):¬ ((k:Int)<0):=by omega
attribute [go_sem] neg_nat min_nat
theorem testBit_and (a k:Nat):(a / 2 ^ k) &&& 1=(if a.testBit k then 1 else 0):=by
 rw [Nat.and_one_is_mod]
 rw [Nat.testBit_eq_decide_div_mod_eq]
 by_cases h:a / 2 ^ k % 2=1
 ·simp [h]
 ·simp [h]; omega
/-! ### putting behind -/
theorem app_osl {k sz by_ j:Nat} {es ns:List (List V)} {m:Mem} {y:V} (hy:srcV m y=some ns) (hf:fits by_ (es.length+ns.length)=true) (hi:immAll (es ++ ns)=true) (hs:szAll sz (es ++ ns)=true) (ht:m.tk[j]?=some es.length):
  appV k sz by_ m (.osl false j es) y=some (.osl false j (es ++ ns),{ m with tk:=m.tk.set j (es.length+ns.length) }):=by
 unfold appV
 rw [hy]
 simp [hf,hi,hs,ht]
end Go.Vm
namespace Go.Vm
open Go.RowKit
section
variable {P:Program} {n:Nat} {t e:TypeId} {v:V}
theorem pv_int {k:IntKind} {vs:List V} (hu:P.underlying t=some (.int k)) (h:PV P (n+1) t vs):∃ x,vs=[.int k x]∧(Lit.int k x).wf=true:=by simpa [PV,hu] using h
theorem pv_bool {vs:List V} (hu:P.underlying t=some .bool) (h:PV P (n+1) t vs):∃ b,vs=[.bool b]:=by simpa [PV,hu] using h
theorem pv_flt {vs:List V} (hu:P.underlying t=some (.float .f64)) (h:PV P (n+1) t vs):∃ b,vs=[.flt b]∧(Lit.float .f64 b).wf=true:=by simpa [PV,hu] using h
theorem pv_i64 {vs:List V} (hu:P.underlying t=some (.int .i64)) (h:PV P (n+1) t vs):∃ x,vs=[.int .i64 x]∧-9223372036854775808≤x∧x≤9223372036854775807:=by
 obtain ⟨x,h1,h2⟩:=pv_int hu h
 exact ⟨x,h1,bounds_i64 h2⟩
theorem pv_u64 {vs:List V} (hu:P.underlying t=some (.int .u64)) (h:PV P (n+1) t vs):∃ x:Nat,vs=[.int .u64 x]∧x<18446744073709551616:=by
 obtain ⟨x,h1,h2⟩:=pv_int hu h
 have:=bounds_u64 h2
 exact ⟨x.toNat,by rw [h1,Int.toNat_of_nonneg this.1],by omega⟩
theorem pv_u8 {vs:List V} (hu:P.underlying t=some (.int .u8)) (h:PV P (n+1) t vs):∃ x:Nat,vs=[.int .u8 x]∧x<256:=by
 obtain ⟨x,h1,h2⟩:=pv_int hu h
 have:=bounds_u8 h2
 exact ⟨x.toNat,by rw [h1,Int.toNat_of_nonneg this.1],by omega⟩
theorem pv_slice {vs:List V} (hu:P.underlying t=some (.slice e)) (h:PV P (n+1) t vs):vs=[.nils]∨∃ es:List (List V),vs=[.isl false es]∧es.length≤maxLen∧∀ q∈es,PV P n e q:=by simpa [PV,hu] using h
theorem pv_struct {fs:Array Field} {vs:List V} (hu:P.underlying t=some (.struct fs)) (h:PV P (n+1) t vs):PVs (PV P n) (fs.toList.map (·.type)) vs:=by simpa only [PV,hu] using h
theorem pv_array {k:Nat} {vs:List V} (hu:P.underlying t=some (.array k e)) (h:PV P (n+1) t vs):PVs (PV P n) (List.replicate k e) vs:=by simpa only [PV,hu] using h
theorem arg_u8 (hu:P.underlying t=some (.int .u8)) (h:ArgPV P (n+1) t v):∃ x:Nat,v=.int .u8 x∧x<256:=by
 simp only [ArgPV,hu] at h
 obtain ⟨x,h1,h2⟩:=pv_u8 hu h
 exact ⟨x,by simpa using h1,h2⟩
theorem arg_struct {fs:Array Field} (hu:P.underlying t=some (.struct fs)) (h:ArgPV P (n+1) t v):∃ vs,v=.agg vs∧PVs (PV P n) (fs.toList.map (·.type)) vs:=by
 simp only [ArgPV,hu] at h
 obtain ⟨vs,h1,h2⟩:=h
 exact ⟨vs,h1,pv_struct hu h2⟩
end
end Go.Vm
namespace Go.Vm
/-! ### slices, by their rows -/
inductive Sl:V→List (List V)→Prop
 | isl (t:Bool) (es:List (List V)):Sl (.isl t es) es
 | nils:Sl .nils []
 | emp:Sl .emp []
theorem Sl.ils (es:List (List V)):Sl (ils es) es:=by
 cases es with
 | nil=>exact .nils
 | cons e es=>exact .isl false (e :: es)
def tg:V→Bool
 | .isl t _=>t
 | _=>false
section
variable {v:V} {es:List (List V)}
theorem Sl.len (h:Sl v es):lenV v=some es.length:=by cases h<;>rfl
theorem Sl.src (h:Sl v es) (m:Mem):srcV m v=some es:=by cases h<;>rfl
theorem Sl.loc (h:Sl v es):v.loc=none:=by cases h<;>rfl
theorem Sl.slot (h:Sl v es) (k:Option Nat):slotV k v=some v:=by cases h<;>rfl
theorem Sl.exp (h:Sl v es):v.exp=some v:=by cases h<;>rfl
theorem Sl.flat (h:Sl v es):v.flat=true:=by cases h<;>rfl
theorem Sl.imm (h:Sl v es):v.imm=true:=by cases h<;>rfl
theorem Sl.cells (h:Sl v es):v.cells=[v]:=by cases h<;>rfl
theorem Sl.toImm (h:Sl v es) (m:Mem) (t:Bool) (d:Nat):toImm m t (d+1) v=some v:=by cases h<;>rfl
theorem Sl.kill (h:Sl v es) (kl:List (Bool × Nat)):killV kl v=v:=by unfold killV; rw [h.loc]
theorem Sl.fpR (h:Sl v es) (L:Nat):fpR L v=.no:=by cases h<;>rfl
theorem Sl.fpMp (h:Sl v es) (L:Nat):fpMp L v=.no:=by cases h<;>rfl
theorem asIx_nat {n i:Nat} {k:IntKind} (h:i<n):asIx n (.int k (i:Int))=some i:=by
 have h2:(0:Int)≤(i:Int)∧(i:Int)<(n:Int):=by omega
 simp [asIx,h2]
theorem asNat_nat {n i:Nat} {k:IntKind} (h:i≤n):asNat n (.int k (i:Int))=some i:=by
 have h2:(0:Int)≤(i:Int)∧(i:Int)≤(n:Int):=by omega
 simp [asNat,h2]
theorem Sl.ia (h:Sl v es) {sz i:Nat} (m:Mem) (k:IntKind) (hi:i<es.length) (hs:es[i].length=sz):iaSV sz m v (.int k (i:Int))=some (.ip (tg v) es[i] 0):=by
 cases h with
 | isl t=>simp only [iaSV,asIx_nat hi,List.getElem?_eq_getElem hi,hs,if_true,tg]
 | nils=>simp at hi
 | emp=>simp at hi
theorem bnd_lo {n c l:Nat} {a:IntKind} (h1:l≤n):bnd n c (some (.int a (l:Int))) none=some (l,n):=by
 simp only [bnd,asNat_nat h1]
theorem cut_some {sz:Nat} {es:List (List V)} (hs:∀ e∈es,e.length=sz) (l h:Nat):cut sz es l h=some ((es.take h).drop l):=by
 unfold cut
 cases hq:(es.take h).drop l with
 | nil=>rfl
 | cons e r=>
  have:e∈es:=List.mem_of_mem_take (List.mem_of_mem_drop (by rw [hq]; simp))
  simp [hs e this]
theorem Sl.slc (h:Sl v es) {sz:Nat} (m:Mem) (lo hi:Option V) {l k:Nat} (hz:sz≠0) (hs:∀ e∈es,e.length=sz) (hb:bnd es.length es.length lo hi=some (l,k)):
  ∃ u,slcV sz m v lo hi none=some u∧Sl u ((es.take k).drop l):=by
 cases h with
 | isl t=>exact ⟨.isl t ((es.take k).drop l),by simp [slcV,hz,hb,cut_some hs],.isl _ _⟩
 | nils=>exact ⟨.nils,by simp only [slcV,hz,if_false]; rw [show bnd 0 0 lo hi=some (l,k) from hb],by simpa using Sl.nils⟩
 | emp=>exact ⟨.emp,by simp only [slcV,hz,if_false]; rw [show bnd 0 0 lo hi=some (l,k) from hb],by simpa using Sl.emp⟩
end
def isS:V→Bool
 | .isl .. | .nils | .emp=>true
 | _=>false
def rows:V→List (List V)
 | .isl _ es=>es
 | _=>[]
section
variable {v:V} {es:List (List V)}
theorem Sl.is (h:Sl v es):isS v=true:=by cases h<;>rfl
theorem Sl.rows (h:Sl v es):rows v=es:=by cases h<;>rfl
theorem isS_sl (h:isS v=true):Sl v (Go.Vm.rows v):=by
 cases v<;>first | (simp [isS] at h; done) | exact .isl _ _ | exact .nils | exact .emp
theorem S_len (h:isS v=true):lenV v=some (Go.Vm.rows v).length:=(isS_sl h).len
theorem S_src (m:Mem) (h:isS v=true):srcV m v=some (Go.Vm.rows v):=(isS_sl h).src m
theorem S_loc (h:isS v=true):v.loc=none:=(isS_sl h).loc
theorem S_slot (k:Option Nat) (h:isS v=true):slotV k v=some v:=(isS_sl h).slot k
theorem S_exp (h:isS v=true):v.exp=some v:=(isS_sl h).exp
theorem S_flat (h:isS v=true):v.flat=true:=(isS_sl h).flat
theorem S_imm (h:isS v=true):v.imm=true:=(isS_sl h).imm
theorem S_cells (h:isS v=true):v.cells=[v]:=(isS_sl h).cells
theorem S_toImm (m:Mem) (t:Bool) (d:Nat) (h:isS v=true):toImm m t (d+1) v=some v:=(isS_sl h).toImm m t d
theorem S_kill (kl:List (Bool × Nat)) (h:isS v=true):killV kl v=v:=(isS_sl h).kill kl
theorem S_fpR (L:Nat) (h:isS v=true):fpR L v=.no:=(isS_sl h).fpR L
theorem S_fpMp (L:Nat) (h:isS v=true):fpMp L v=.no:=(isS_sl h).fpMp L
attribute [go_sem low] S_len S_src S_loc S_slot S_exp S_flat S_imm S_cells S_toImm S_kill S_fpR S_fpMp
end
theorem omap_same {f:V→Option V}:∀ {vs:List V},(∀ v∈vs,f v=some v)→omap f vs=some vs
 | [],_=>rfl
 | v :: vs,h=>by
  have ih:=omap_same (vs:=vs) fun x hx=>h x (List.mem_cons_of_mem _ hx)
  simp [omap,h v (by simp),ih]
theorem omap2_same {f:V→Option V}:∀ {vs:List (List V)},(∀ q∈vs,∀ v∈q,f v=some v)→omap2 f vs=some vs
 | [],_=>rfl
 | v :: vs,h=>by
  have ih:=omap2_same (vs:=vs) fun x hx=>h x (List.mem_cons_of_mem _ hx)
  simp [omap2,omap_same (h v (by simp)),ih]
/-! ### conditions -/
section
variable {P:Program} {hs:Nat→Option Hint} {gl:List (Nat × List V)}
theorem s_cond_b (b:Bool) (x y:C) (st:St):condC (pgOf P hs gl) (.bool b) x y st=if b=true then evCI (pgOf P hs gl) x st else evCI (pgOf P hs gl) y st:=by cases b<;>rfl
theorem s_then_if (p:Prop) [Decidable p] (x y:Option (Ex × St)) (b:C):thenC (pgOf P hs gl) (if p then x else y) b=if p then thenC (pgOf P hs gl) x b else thenC (pgOf P hs gl) y b:=by split<;>rfl
theorem s_block_if (p:Prop) [Decidable p] (id:Nat) (x y:Option (Ex × St)):blockC id (if p then x else y)=if p then blockC id x else blockC id y:=by split<;>rfl
theorem s_fin_if (p:Prop) [Decidable p] (md:Md) (rv:List RV) (x y:Option (Ex × St)):finC md rv (if p then x else y)=if p then finC md rv x else finC md rv y:=by split<;>rfl
theorem s_outs_if (p:Prop) [Decidable p] (ops:List Op) (prs:List (Nat × Nat)) (outs:List (Nat × Nat × Option Nat)) (ss:List V) (L:Nat) (x y:Option (List V × Mem)):
  outsC ops prs outs ss L (if p then x else y)=if p then outsC ops prs outs ss L x else outsC ops prs outs ss L y:=by split<;>rfl
theorem s_opv_if (call:CallT) (ss:List V) (ps:List Op) (rs:List V) (p:Prop) [Decidable p] (x y:Option (V × Mem)):
  opsV call ss ps rs (if p then x else y)=if p then opsV call ss ps rs x else opsV call ss ps rs y:=by split<;>rfl
theorem s_opg_b (call:CallT) (ss:List V) (ps:List Op) (rs:List V) (m:Mem) (o:O) (b:Bool):
  opsG call ss ps rs m o (some b)=if b=true then opsV call ss ps rs (evO call (lk rs ss) m o) else evOps call ss ps (rs ++ [.skp]) m:=by cases b<;>rfl
end
section
variable (d:Nat)
theorem e_clean_bool (b:Bool):clean (d+1) (.bool b)=true:=rfl
theorem e_clean_int (k:IntKind) (n:Int):clean (d+1) (.int k n)=true:=rfl
theorem e_clean_flt (b:Nat):clean (d+1) (.flt b)=true:=rfl
theorem e_clean_str (s:List UInt8):clean (d+1) (.str s)=true:=rfl
theorem e_clean_nilp:clean (d+1) .nilp=true:=rfl
theorem e_clean_nils:clean (d+1) .nils=true:=rfl
theorem e_clean_emp:clean (d+1) .emp=true:=rfl
theorem e_clean_isl (t:Bool) (es:List (List V)):clean (d+1) (.isl t es)=(!t && es.all fun e=>e.all (clean d)):=rfl
theorem e_clean_ip (t:Bool) (cs:List V) (o:Nat):clean (d+1) (.ip t cs o)=(!t && cs.all (clean d)):=rfl
theorem e_clean_agg (cs:List V):clean (d+1) (.agg cs)=cs.all (clean d):=rfl
theorem e_clean_tup (cs:List V):clean (d+1) (.tup cs)=cs.all (clean d):=rfl
theorem e_clean_ils (es:List (List V)) (h:(es.all fun e=>e.all (clean d))=true):clean (d+1) (ils es)=true:=by
 cases es with
 | nil=>rfl
 | cons e es=>simpa [ils,clean] using h
end
attribute [go_sem] e_clean_bool e_clean_int e_clean_flt e_clean_str e_clean_nilp e_clean_nils e_clean_emp e_clean_isl e_clean_ip e_clean_agg e_clean_tup
theorem e_flat_bool (b:Bool):V.flat (.bool b)=true:=rfl
theorem e_flat_int (k:IntKind) (n:Int):V.flat (.int k n)=true:=rfl
theorem e_flat_flt (b:Nat):V.flat (.flt b)=true:=rfl
theorem e_flat_str (s:List UInt8):V.flat (.str s)=true:=rfl
theorem e_flat_nilp:V.flat (.nilp)=true:=rfl
theorem e_flat_nils:V.flat (.nils)=true:=rfl
theorem e_flat_nilm:V.flat (.nilm)=true:=rfl
theorem e_flat_nilf:V.flat (.nilf)=true:=rfl
theorem e_flat_nili:V.flat (.nili)=true:=rfl
theorem e_flat_emp:V.flat (.emp)=true:=rfl
theorem e_flat_isl (t:Bool) (es:List (List V)):V.flat (.isl t es)=true:=rfl
theorem e_flat_ip (t:Bool) (cs:List V) (o:Nat):V.flat (.ip t cs o)=true:=rfl
theorem e_flat_rsl (id off len:Nat):V.flat (.rsl id off len)=true:=rfl
theorem e_flat_asl (id idx off len sz:Nat):V.flat (.asl id idx off len sz)=true:=rfl
theorem e_flat_ptr (id idx off:Nat):V.flat (.ptr id idx off)=true:=rfl
theorem e_flat_map (id:Nat):V.flat (.map id)=true:=rfl
theorem e_flat_fn (f:Nat) (fs cs:List V):V.flat (.fn f fs cs)=true:=rfl
theorem e_flat_iface (t:Nat) (v:V):V.flat (.iface t v)=true:=rfl
theorem e_flat_oslt (j:Nat) (es:List (List V)):V.flat (.osl true j es)=true:=rfl
theorem e_immv_bool (b:Bool):V.imm (.bool b)=true:=rfl
theorem e_immv_int (k:IntKind) (n:Int):V.imm (.int k n)=true:=rfl
theorem e_immv_flt (b:Nat):V.imm (.flt b)=true:=rfl
theorem e_immv_str (s:List UInt8):V.imm (.str s)=true:=rfl
theorem e_immv_nilp:V.imm (.nilp)=true:=rfl
theorem e_immv_nils:V.imm (.nils)=true:=rfl
theorem e_immv_nilm:V.imm (.nilm)=true:=rfl
theorem e_immv_nilf:V.imm (.nilf)=true:=rfl
theorem e_immv_nili:V.imm (.nili)=true:=rfl
theorem e_immv_emp:V.imm (.emp)=true:=rfl
theorem e_immv_isl (t:Bool) (es:List (List V)):V.imm (.isl t es)=true:=rfl
theorem e_immv_ip (t:Bool) (cs:List V) (o:Nat):V.imm (.ip t cs o)=true:=rfl
attribute [go_sem] e_flat_bool e_flat_int e_flat_flt e_flat_str e_flat_nilp e_flat_nils e_flat_nilm e_flat_nilf e_flat_nili e_flat_emp e_flat_isl e_flat_ip e_flat_rsl e_flat_asl e_flat_ptr e_flat_map e_flat_fn e_flat_iface e_flat_oslt e_immv_bool e_immv_int e_immv_flt e_immv_str e_immv_nilp e_immv_nils e_immv_nilm e_immv_nilf e_immv_nili e_immv_emp e_immv_isl e_immv_ip
theorem e_nil_p0:isNil .ptr .nilp=some true:=rfl
theorem e_nil_p1 (a b c:Nat):isNil .ptr (.ptr a b c)=some false:=rfl
theorem e_nil_p2 (t:Bool) (cs:List V) (o:Nat):isNil .ptr (.ip t cs o)=some false:=rfl
theorem e_nil_p3 (a b:Nat):isNil .ptr (.lp a b)=some false:=rfl
theorem e_nil_s0:isNil .slice .nils=some true:=rfl
theorem e_nil_s1:isNil .slice .emp=some false:=rfl
theorem e_nil_s2 (t:Bool) (es:List (List V)):isNil .slice (.isl t es)=some false:=rfl
theorem e_nil_s3 (a b c:Nat):isNil .slice (.rsl a b c)=some false:=rfl
theorem e_nil_s4 (es:List (List V)):isNil .slice (ils es)=some es.isEmpty:=by cases es<;>rfl
theorem e_nil_m0:isNil .map .nilm=some true:=rfl
theorem e_nil_m1 (a:Nat):isNil .map (.map a)=some false:=rfl
theorem e_nil_f0:isNil .func .nilf=some true:=rfl
theorem e_nil_f1 (f:Nat) (fs cs:List V):isNil .func (.fn f fs cs)=some false:=rfl
attribute [go_sem] eqnV e_nil_p0 e_nil_p1 e_nil_p2 e_nil_p3 e_nil_s0 e_nil_s1 e_nil_s2 e_nil_s3 e_nil_s4 e_nil_m0 e_nil_m1 e_nil_f0 e_nil_f1 fill splice evStore
theorem e_fpR_skp (L:Nat):fpR L .skp=.no:=rfl
theorem e_fpR_undef (L:Nat):fpR L .undef=.no:=rfl
theorem e_fpMp_skp (L:Nat):fpMp L .skp=.no:=rfl
theorem e_fpMp_undef (L:Nat):fpMp L .undef=.no:=rfl
attribute [go_sem] e_fpR_skp e_fpR_undef e_fpMp_skp e_fpMp_undef
theorem vb_if (p:Prop) [Decidable p] (a b:Bool):(if p then V.bool a else V.bool b)=V.bool (if p then a else b):=by split<;>rfl
theorem vi_if (p:Prop) [Decidable p] (k:IntKind) (a b:Int):(if p then V.int k a else V.int k b)=V.int k (if p then a else b):=by split<;>rfl
theorem nat_eq_int (a b:Nat):((a:Int)=(b:Int))↔a=b:=by omega
theorem nat_lt_int (a b:Nat):((a:Int)<(b:Int))↔a<b:=by omega
theorem nat_le_int (a b:Nat):((a:Int)≤(b:Int))↔a≤b:=by omega
attribute [go_sem] wrap_i64 vb_if vi_if s_cond_b s_then_if s_block_if s_fin_if s_outs_if s_opv_if s_opg_b nat_eq_int nat_lt_int nat_le_int
end Go.Vm
