/- The machine, part Vc: a small evaluation of the given code, and that the given code comes to what it says (no claim; lemmas). -/
import Derived.Test.YtimiademofajeaaGreatDoorPVb
import Derived.Laws.Build
set_option linter.unusedSimpArgs false
set_option linter.unusedVariables false
namespace Go.Vm
def agT {α:Type} (c:Tc) (a b:List α):Prop:=
 match c with
 | .no=>True
 | .rd | .wr=>a=b
 | .ra j | .at j=>a[j]?=b[j]?
 | .new=>a.length=b.length
def efT {α:Type} (c:Tc) (a a' b b':List α):Prop:=
 match c with
 | .no | .rd | .ra _=>a'=a∧b'=b
 | .wr=>b'=a'
 | .at j=>∃ x,a'=a.set j x∧b'=b.set j x
 | .new=>∃ x,a'=a ++ [x]∧b'=b ++ [x]
def agF (f:Fp) (m m2:Mem):Prop:=agT f.v m.vars m2.vars∧agT f.t m.tk m2.tk∧agT f.h m.H m2.H
def efF (f:Fp) (m m' m2 m2':Mem):Prop:=efT f.v m.vars m'.vars m2.vars m2'.vars∧efT f.t m.tk m'.tk m2.tk m2'.tk∧efT f.h m.H m'.H m2.H m2'.H
def bdT (L:Nat):Tc→Prop
 | .ra i | .at i=>i<L
 | _=>True
theorem comm_step {α:Type} {c d:Tc} {a a1 a2:List α} (hc:c.comm d=true) (L:Nat) (hL:L≤a.length) (h1:d=.new→bdT L c) (h2:c=.new→bdT L d)
  (e1:efT c a a1 a a1) (e2:efT d a1 a2 a1 a2):agT d a1 a∧∀ a',efT d a1 a2 a a'→agT c a a'∧∀ a'',efT c a a1 a' a''→a''=a2:=by
 cases c<;>cases d<;>simp only [Tc.comm,Bool.false_eq_true,Bool.not_eq_true',beq_eq_false_iff_ne,ne_eq] at hc <;>
  simp only [efT,agT,true_and,and_self,bdT,forall_const,reduceCtorEq,and_true] at e1 e2 h1 h2 ⊢
 all_goals first | grind | skip
 rename_i i j
 obtain ⟨x,rfl⟩:=e1
 obtain ⟨y,rfl⟩:=e2
 refine ⟨by grind,fun a' ⟨z,h3,h4⟩=>⟨by grind,fun a'' ⟨u,h5,h6⟩=>?_⟩⟩
 rw [h6,h4,List.set_comm _ _ (Ne.symm hc),← h5,h3]
def FrO (f:Fp) (m m' m2:Mem) (r:Option (V × Mem)) (v:V):Prop:=∃ m2',r=some (v,m2')∧efF f m m' m2 m2'
theorem FrO.same {f:Fp} {m m2:Mem} {r:Option (V × Mem)} {v:V} (hf:∀ c,c=f.v∨c=f.t∨c=f.h→c=.no∨c=.rd∨∃ j,c=.ra j) (hr:r=some (v,m2)):FrO f m m m2 r v:=by
 have one:∀ {α:Type} (c:Tc) (a b:List α),(c=.no∨c=.rd∨∃ j,c=.ra j)→efT c a a b b:=by
  intro α c a b h
  rcases h with rfl | rfl | ⟨j,rfl⟩<;>simp [efT]
 exact ⟨m2,hr,one _ _ _ (hf _ (.inl rfl)),one _ _ _ (hf _ (.inr (.inl rfl))),one _ _ _ (hf _ (.inr (.inr rfl)))⟩
theorem no_quiet:∀ c,c=Fp.no.v∨c=Fp.no.t∨c=Fp.no.h→c=.no∨c=.rd∨∃ j,c=.ra j:=by
 intro c h; left; rcases h with rfl | rfl | rfl<;>rfl
section
variable {call:Md→Nat→List V→List Obj→Option (V × List Obj)} {ρ:X→V} {m m' m2:Mem} {v:V} {L:Nat}
theorem evO_pure {o:O} (ht:touchy o=false) (h:evO call ρ m o=some (v,m')):m'=m∧∀ m2,evO call ρ m2 o=some (v,m2):=by
 cases o<;>simp only [touchy,Bool.true_eq_false,decide_eq_false_iff_not] at ht<;>simp only [evO,val] at h ⊢
 all_goals first
  | (cases h; exact ⟨rfl,fun _=>rfl⟩)
  | (repeat' split at h)<;>first | (cases h; done) | (cases h; refine ⟨rfl,fun m2=>?_⟩; simp [*]; done) | skip
 ·omega
 ·rename_i h1 h2; exact absurd (show _∨_ from by omega) (fun q:_=0∨_=1=>q.elim h1 h2)
 ·rename_i hc; cases h; exact ⟨rfl,fun m2=>if_pos hc⟩
theorem frSet {α:Type} {j:Nat} {a b:List α} (h:a[j]?=b[j]?):(j<a.length↔j<b.length):=by grind
theorem hr_ok {id:Nat} (ha:agF (Fp.hr L id) m m2):m.H[id]?=m2.H[id]?∧∀ {r:Option (V × Mem)} {v:V},(r=some (v,m2))→m'=m→FrO (Fp.hr L id) m m' m2 r v:=by
 by_cases hl:id<L
 ·have e:Fp.hr L id=⟨.no,.no,.ra id⟩:=if_pos hl
  rw [e] at ha ⊢
  refine ⟨ha.2.2,fun hr he=>?_⟩
  subst he
  exact ⟨m2,hr,⟨rfl,rfl⟩,⟨rfl,rfl⟩,⟨rfl,rfl⟩⟩
 ·have e:Fp.hr L id=⟨.no,.no,.wr⟩:=if_neg hl
  rw [e] at ha ⊢
  have:m.H=m2.H:=ha.2.2
  refine ⟨by rw [this],fun hr he=>?_⟩
  subst he
  exact ⟨m2,hr,⟨rfl,rfl⟩,⟨rfl,rfl⟩,this.symm⟩
theorem hw_ok {id:Nat} (ha:agF (Fp.hw L id) m m2):m.H[id]?=m2.H[id]?∧∀ {r:Option (V × Mem)} {v:V} (x:Obj),(r=some (v,{ m2 with H:=m2.H.set id x }))→m'={ m with H:=m.H.set id x }→FrO (Fp.hw L id) m m' m2 r v:=by
 by_cases hl:id<L
 ·have e:Fp.hw L id=⟨.no,.no,.at id⟩:=if_pos hl
  rw [e] at ha ⊢
  refine ⟨ha.2.2,fun x hr he=>?_⟩
  subst he
  exact ⟨_,hr,⟨rfl,rfl⟩,⟨rfl,rfl⟩,x,rfl,rfl⟩
 ·have e:Fp.hw L id=⟨.no,.no,.wr⟩:=if_neg hl
  rw [e] at ha ⊢
  have:m.H=m2.H:=ha.2.2
  refine ⟨by rw [this],fun x hr he=>?_⟩
  subst he
  exact ⟨_,hr,⟨rfl,rfl⟩,⟨rfl,rfl⟩,by simp [efT,this]⟩
theorem frame_load {sp n:Nat} {ag:Bool} {a:X} (h:evO call ρ m (.load sp ag n a)=some (v,m')) (ha:agF (fpO L ρ (.load sp ag n a)) m m2):FrO (fpO L ρ (.load sp ag n a)) m m' m2 (evO call ρ m2 (.load sp ag n a)) v:=by
 simp only [evO,fpO,fpL] at h ha ⊢
 split at h
 ·rename_i hs
  rw [if_pos hs]
  cases he:evLoad ag n m (ρ a) with
  | none=>simp [he,val] at h
  | some u=>
   simp only [he,val,Option.some.injEq,Prod.mk.injEq] at h
   obtain ⟨rfl,rfl⟩:=h
   generalize ρ a=q at *
   cases q with
   | ip t cs off=>exact .same no_quiet (by simp only [evLoad] at he ⊢; simp [he,val])
   | lp j off=>
    have:m.vars[j]?=m2.vars[j]?:=ha.1
    refine ⟨m2,?_,⟨rfl,rfl⟩,⟨rfl,rfl⟩,⟨rfl,rfl⟩⟩
    simp only [evLoad,this] at he ⊢; simp [he,val]
   | ptr id idx off=>
    obtain ⟨h1,h2⟩:=hr_ok (m':=m) ha
    refine h2 ?_ rfl
    simp only [evLoad,h1] at he ⊢; simp [he,val]
   | _=>simp [evLoad] at he
 ·cases h
theorem frame_store {sp n:Nat} {a x:X} (h:evO call ρ m (.store sp n a x)=some (v,m')) (ha:agF (fpO L ρ (.store sp n a x)) m m2):FrO (fpO L ρ (.store sp n a x)) m m' m2 (evO call ρ m2 (.store sp n a x)) v:=by
 simp only [evO,fpO,fpS] at h ha ⊢
 split at h
 ·rename_i hs
  rw [if_pos hs]
  cases he:(ρ x).exp with
  | none=>simp [he] at h
  | some u=>
   simp only [he] at h ⊢
   generalize ρ a=q at *
   cases q with
   | lp j off=>
    have hj:m.vars[j]?=m2.vars[j]?:=ha.1
    simp only [evStore] at h ⊢
    rw [hj] at h
    cases hc:m2.vars[j]? with
    | none=>simp [hc] at h
    | some c=>
     simp only [hc] at h ⊢
     split at h
     ·rename_i m'' hm''
      cases h
      split at hm''
      ·rename_i hcond
       rw [if_pos hcond]
       cases hm''
       exact ⟨_,rfl,⟨_,rfl,rfl⟩,⟨rfl,rfl⟩,⟨rfl,rfl⟩⟩
      ·cases hm''
     ·cases h
   | ptr id idx off=>
    obtain ⟨h1,h2⟩:=hw_ok (m':=m') ha
    simp only [evStore] at h ⊢
    rw [h1] at h
    split at h
    ·rename_i m'' hm''
     cases h
     split at hm''
     ·rename_i es hes
      split at hm''
      ·rename_i c hc
       split at hm''
       ·rename_i hcond
        cases hm''
        rw [if_pos hcond]
        exact h2 _ rfl rfl
       ·cases hm''
      ·cases hm''
     ·cases hm''
    ·cases h
   | _=>simp [evStore] at h
 ·cases h
theorem memH (he:m.H=m2.H):m2={ m with vars:=m2.vars,tk:=m2.tk }:=by cases m; cases m2; simp_all
theorem frame_iaS {sz:Nat} {x i:X} (h:evO call ρ m (.iaS sz x i)=some (v,m')) (ha:agF (fpO L ρ (.iaS sz x i)) m m2):FrO (fpO L ρ (.iaS sz x i)) m m' m2 (evO call ρ m2 (.iaS sz x i)) v:=by
 simp only [evO,fpO] at h ha ⊢
 cases he:iaSV sz m (ρ x) (ρ i) with
 | none=>simp [he,val] at h
 | some u=>
  simp only [he,val,Option.some.injEq,Prod.mk.injEq] at h
  obtain ⟨rfl,rfl⟩:=h
  generalize ρ x=q at *
  cases q with
  | rsl id off len=>
   obtain ⟨h1,h2⟩:=hr_ok (m':=m) ha
   refine h2 ?_ rfl
   simp only [iaSV,h1] at he ⊢; simp [he,val]
  | _=>first | (simp only [iaSV] at he; cases he; done) | exact .same no_quiet (by simp only [iaSV] at he ⊢; simp [he,val])
theorem frame_slc {sz:Nat} {x:X} {lo hi mx:Option X} (h:evO call ρ m (.slc sz x lo hi mx)=some (v,m')) (ha:agF (fpO L ρ (.slc sz x lo hi mx)) m m2):
  FrO (fpO L ρ (.slc sz x lo hi mx)) m m' m2 (evO call ρ m2 (.slc sz x lo hi mx)) v:=by
 simp only [evO,fpO] at h ha ⊢
 cases he:slcV sz m (ρ x) (lo.map ρ) (hi.map ρ) (mx.map ρ) with
 | none=>simp [he,val] at h
 | some u=>
  simp only [he,val,Option.some.injEq,Prod.mk.injEq] at h
  obtain ⟨rfl,rfl⟩:=h
  generalize ρ x=q at *
  generalize mx.map ρ=mx' at *
  have key:slcV sz m2 q (lo.map ρ) (hi.map ρ) mx'=some u:=by
   cases q with
   | rsl id off len=>
    obtain ⟨h1,h2⟩:=hr_ok (m':=m) ha
    cases mx'<;>simp only [slcV,h1] at he ⊢<;>exact he
   | _=>cases mx'<;>simp only [slcV] at he ⊢<;>exact he
  cases q with
  | rsl id off len=>exact (hr_ok (m':=m) ha).2 (by simp [key,val]) rfl
  | _=>exact .same no_quiet (by simp [key,val])
theorem frame_len {k:Nat} {x:X} (h:evO call ρ m (.len k x)=some (v,m')) (ha:agF (fpO L ρ (.len k x)) m m2):FrO (fpO L ρ (.len k x)) m m' m2 (evO call ρ m2 (.len k x)) v:=by
 simp only [evO,fpO] at h ha ⊢
 generalize ρ x=q at *
 split at h
 ·cases h; exact .same no_quiet rfl
 ·cases h; exact .same no_quiet rfl
 ·cases h; exact .same no_quiet rfl
 ·rename_i id
  obtain ⟨h1,h2⟩:=hr_ok (m':=m') ha
  simp only [h1] at h ⊢
  split at h
  ·cases h; exact h2 rfl rfl
  ·cases h
 ·split at h
  ·rename_i n hn
   cases h
   cases q<;>first | (simp [lenV] at hn; done) | (exact .same no_quiet (by simp only [hn]))
  ·cases h
 ·cases h
theorem frame_callF {md:Md} {f:Nat} {vs:List V} (h:callF call md f m vs=some (v,m')) (ha:agF (fpC md vs) m m2):FrO (fpC md vs) m m' m2 (callF call md f m2 vs) v:=by
 cases md with
 | val=>
  simp only [callF,fpC] at h ha ⊢
  cases he:omap (toImm ⟨[],[],[]⟩ false depth) vs with
  | some as=>
   simp only [he] at h ha ⊢
   split at h
   ·rename_i r x hr
    cases h
    exact .same no_quiet (by simp)
   ·cases h
  | none=>
   simp only [he] at h ha ⊢
   obtain ⟨a1,_,a2⟩:=ha
   have ht:∀ t d,toImm m t d=toImm m2 t d:=by
    intro t d
    funext u
    have:m2={ m with tk:=m2.tk }:=by
     simp only [agT] at a1 a2
     cases m; cases m2; simp_all
    rw [this]
    generalize m2.tk=tk
    revert u
    induction d with
    | zero=>intro u; rfl
    | succ d ih=>
     intro u
     have ih':toImm m t d=toImm { m with tk:=tk } t d:=funext ih
     cases u<;>simp only [toImm,ih']
   rw [← ht]
   split at h
   ·rename_i as has
    try simp only [has] at h ⊢
    split at h
    ·rename_i r x hr
     split at h
     ·rename_i hc
      cases h
      try simp only [hr]
      exact ⟨m2,if_pos hc,⟨rfl,rfl⟩,⟨rfl,rfl⟩,⟨rfl,rfl⟩⟩
     ·cases h
    ·cases h
   ·cases h
 | heap=>
  simp only [callF,fpC] at h ha ⊢
  have hH:m.H=m2.H:=ha.2.2
  rw [← hH]
  split at h
  ·rename_i as has
   split at h
   ·rename_i r H hr
    cases h
    exact ⟨_,rfl,⟨rfl,rfl⟩,⟨rfl,rfl⟩,rfl⟩
   ·cases h
  ·cases h
theorem srcV_vt (m:Mem) (a:List (List V)) (b:List Nat) (y:V):srcV { m with vars:=a,tk:=b } y=srcV m y:=by cases y<;>rfl
theorem srcV_H (he:m.H=m2.H) (y:V):srcV m2 y=srcV m y:=by rw [memH he]; exact srcV_vt _ _ _ _
theorem frame_appR {j sz by_:Nat} {x y:X} (h:evO call ρ m (.appR j sz by_ x y)=some (v,m')) (ha:agF (fpO L ρ (.appR j sz by_ x y)) m m2):
  FrO (fpO L ρ (.appR j sz by_ x y)) m m' m2 (evO call ρ m2 (.appR j sz by_ x y)) v:=by
 simp only [evO,fpO] at h ha ⊢
 have hs:=srcV_H (m2:=m2) ha.2.2 (ρ y)
 have hj:m.tk[j]?=m2.tk[j]?:=ha.2.1
 have hl:=frSet hj
 generalize ρ x=q at *
 simp only [appRV,hs] at h ⊢
 cases hn:srcV m (ρ y) with
 | none=>cases q<;>simp [hn] at h
 | some ns=>
  simp only [hn] at h ⊢
  cases ns<;>cases q<;>simp only [reduceCtorEq] at h ⊢<;>(
   split at h
   ·rename_i hc
    cases h
    rw [if_pos (by simpa [hl] using hc)]
    exact ⟨_,rfl,⟨rfl,rfl⟩,⟨_,rfl,rfl⟩,⟨rfl,rfl⟩⟩
   ·cases h)
theorem appV_fr {k sz by_:Nat} {q y:V} (hq:∀ j es,q≠.osl false j es) (he:m.H=m2.H) (h:appV k sz by_ m q y=some (v,m')):
  appV k sz by_ m2 q y=some (v,{ m2 with H:=m'.H })∧m'.vars=m.vars∧m'.tk=m.tk:=by
 have hs:=srcV_H (m2:=m2) he y
 obtain ⟨a,b,c⟩:=m2
 simp only at he
 subst he
 simp only [appV,hs] at h ⊢
 cases hn:srcV m y with
 | none=>simp [hn] at h
 | some ns=>
  simp only [hn] at h ⊢
  cases q with
  | osl hh j es=>
   cases hh with
   | false=>exact absurd rfl (hq j es)
   | true=>
    simp only [if_true] at h ⊢
    split at h
    ·rename_i hc
     rw [if_pos hc]
     split at h
     ·rename_i n hn'
      split at h
      ·rename_i hne; cases h; simp only [hn',if_pos hne]; first | exact ⟨rfl,rfl,rfl⟩ | simp
      ·cases h
     ·cases h
    ·cases h
  | rsl id off len=>
   simp only at h ⊢
   split at h
   ·rename_i es hes
    try simp only [hes]
    split at h
    ·cases h
    ·rename_i hc
     rw [if_neg hc]
     split at h
     ·rename_i h2; cases h; rw [if_pos h2]; first | exact ⟨rfl,rfl,rfl⟩ | simp
     ·rename_i h2
      rw [if_neg h2]
      split at h
      ·rename_i h3; cases h; rw [if_pos h3]; first | exact ⟨rfl,rfl,rfl⟩ | simp
      ·cases h
   ·cases h
  | nils=>
   simp only at h ⊢
   split at h
   ·rename_i hc; cases h; rw [if_pos hc]; first | exact ⟨rfl,rfl,rfl⟩ | simp
   ·rename_i hc
    rw [if_neg hc]
    split at h
    ·cases h
    ·rename_i h2
     rw [if_neg h2]
     split at h
     ·split at h
      ·rename_i h3; cases h; simp only [if_pos h3]; first | exact ⟨rfl,rfl,rfl⟩ | simp
      ·cases h
     ·split at h
      ·rename_i h3; cases h; simp only [if_pos h3]; first | exact ⟨rfl,rfl,rfl⟩ | simp
      ·cases h
     ·cases h
  | emp=>
   simp only at h ⊢
   split at h
   ·rename_i hc; cases h; rw [if_pos hc]; first | exact ⟨rfl,rfl,rfl⟩ | simp
   ·rename_i hc
    rw [if_neg hc]
    split at h
    ·cases h
    ·rename_i h2
     rw [if_neg h2]
     split at h
     ·split at h
      ·rename_i h3; cases h; simp only [if_pos h3]; first | exact ⟨rfl,rfl,rfl⟩ | simp
      ·cases h
     ·split at h
      ·rename_i h3; cases h; simp only [if_pos h3]; first | exact ⟨rfl,rfl,rfl⟩ | simp
      ·cases h
     ·cases h
  | _=>simp at h
theorem frame_app {k sz by_:Nat} {x y:X} (h:evO call ρ m (.app k sz by_ x y)=some (v,m')) (ha:agF (fpO L ρ (.app k sz by_ x y)) m m2):
  FrO (fpO L ρ (.app k sz by_ x y)) m m' m2 (evO call ρ m2 (.app k sz by_ x y)) v:=by
 simp only [evO,fpO] at h ha ⊢
 generalize ρ x=q at *
 generalize ρ y=p at *
 have wr:(∀ j es,q≠.osl false j es)→m.H=m2.H→FrO ⟨.no,.no,.wr⟩ m m' m2 (appV k sz by_ m2 q p) v:=fun hq he=>by
  obtain ⟨a,b,c⟩:=appV_fr (m2:=m2) hq he h
  exact ⟨_,a,⟨b,rfl⟩,⟨c,rfl⟩,rfl⟩
 have new:(q=.nils∨q=.emp)→(∀ m,srcV m p=srcV ⟨[],[],[]⟩ p)→(srcV m p≠some [])→m.H.length=m2.H.length→FrO ⟨.no,.no,.new⟩ m m' m2 (appV k sz by_ m2 q p) v:=by
  intro hq hs hne hl
  simp only [appV,hs m2] at h ⊢
  rw [hs m] at h hne
  rw [← hl]
  cases hn:srcV ⟨[],[],[]⟩ p with
  | none=>simp [hn] at h
  | some ns=>
   simp only [hn] at h hne ⊢
   have:ns.isEmpty=false:=by cases ns with
    | nil=>exact absurd rfl hne
    | cons=>rfl
   rcases hq with rfl | rfl<;>simp only [this,Bool.false_eq_true,if_false] at h ⊢<;>(
    split at h
    ·cases h
    ·rename_i hc
     rw [if_neg hc]
     split at h
     ·split at h
      ·rename_i hf; cases h; exact ⟨_,if_pos hf,⟨rfl,rfl⟩,⟨rfl,rfl⟩,_,rfl,rfl⟩
      ·cases h
     ·split at h
      ·rename_i hf; cases h; exact ⟨_,if_pos hf,⟨rfl,rfl⟩,⟨rfl,rfl⟩,_,rfl,rfl⟩
      ·cases h
     ·cases h)
 have own:∀ j es,q=.osl true j es→(∀ m,srcV m p=srcV ⟨[],[],[]⟩ p)→agF (Fp.hw L j) m m2→FrO (Fp.hw L j) m m' m2 (appV k sz by_ m2 q p) v:=by
  intro j es hq hs hb
  subst hq
  obtain ⟨h1,h2⟩:=hw_ok (m':=m') hb
  simp only [appV,hs m2] at h ⊢
  rw [hs m] at h
  rw [← h1]
  cases hn:srcV ⟨[],[],[]⟩ p with
  | none=>simp [hn] at h
  | some ns=>
   simp only [hn,if_true] at h ⊢
   split at h
   ·rename_i hc
    rw [if_pos hc]
    split at h
    ·rename_i n hn'
     split at h
     ·rename_i hne
      simp only [Option.some.injEq,Prod.mk.injEq] at h
      try simp only [hn',if_pos hne]
      exact h2 _ (by rw [h.1]) h.2.symm
     ·cases h
    ·cases h
   ·cases h
 split at ha
 ·rename_i j es
  have hs:=srcV_H (m2:=m2) ha.2.2 p
  have hj:m.tk[j]?=m2.tk[j]?:=ha.2.1
  simp only [appV,hs] at h ⊢
  rw [← hj]
  cases hn:srcV m p with
  | none=>simp [hn] at h
  | some ns=>
   simp only [hn] at h ⊢
   split at h
   ·rename_i hc
    rw [if_pos hc]
    simp only [Bool.false_eq_true,if_false] at h ⊢
    split at h
    ·rename_i n ht
     split at h
     ·rename_i hne
      cases h
      exact ⟨_,if_pos hne,⟨rfl,rfl⟩,⟨_,rfl,rfl⟩,⟨rfl,rfl⟩⟩
     ·cases h
    ·cases h
   ·cases h
 ·rename_i j es t es'
  exact own _ _ rfl (fun _=>rfl) ha
 ·exact own _ _ rfl (fun _=>rfl) ha
 ·exact new (.inl rfl) (fun _=>rfl) (by simp [srcV]) ha.2.2
 ·exact new (.inl rfl) (fun _=>rfl) (by simp [srcV]) ha.2.2
 ·exact new (.inr rfl) (fun _=>rfl) (by simp [srcV]) ha.2.2
 ·exact new (.inr rfl) (fun _=>rfl) (by simp [srcV]) ha.2.2
 ·rename_i hq _ _ _ _ _ _
  exact wr (fun j es e=>hq j es e) ha.2.2
theorem frame_look {ok ag:Bool} {z:List V} {x y:X} (h:evO call ρ m (.look ok ag z x y)=some (v,m')) (ha:agF (fpO L ρ (.look ok ag z x y)) m m2):
  FrO (fpO L ρ (.look ok ag z x y)) m m' m2 (evO call ρ m2 (.look ok ag z x y)) v:=by
 have hH:m.H=m2.H:=ha.2.2
 simp only [evO,fpO] at h ⊢
 have e:mapEs m2 (ρ x)=mapEs m (ρ x):=by cases ρ x<;>simp only [mapEs,hH]
 rw [e]
 cases hes:mapEs m (ρ x) with
 | none=>simp [hes] at h
 | some es=>
  simp only [hes] at h ⊢
  by_cases hk:(ρ y).isInt=true
  ·rw [if_pos hk] at h ⊢
   cases hl:lookV ok ag z es (ρ y) with
   | none=>simp [hl,val] at h
   | some u=>
    simp only [hl,val,Option.some.injEq,Prod.mk.injEq] at h
    obtain ⟨rfl,rfl⟩:=h
    exact ⟨m2,rfl,⟨rfl,rfl⟩,⟨rfl,rfl⟩,⟨rfl,rfl⟩⟩
  ·rw [if_neg hk] at h; cases h
theorem frame_wr {o:O} (hf:fpO L ρ o=⟨.no,.no,.wr⟩) (hq:∀ a b,evO call ρ { m with vars:=a,tk:=b } o=(evO call ρ m o).map fun p=>(p.1,{ p.2 with vars:=a,tk:=b }))
  (hs:m'.vars=m.vars∧m'.tk=m.tk) (h:evO call ρ m o=some (v,m')) (ha:agF (fpO L ρ o) m m2):FrO (fpO L ρ o) m m' m2 (evO call ρ m2 o) v:=by
 rw [hf] at ha ⊢
 have hH:m.H=m2.H:=ha.2.2
 have:=hq m2.vars m2.tk
 rw [← memH hH,h] at this
 exact ⟨_,this,⟨hs.1,rfl⟩,⟨hs.2,rfl⟩,rfl⟩
theorem frame_clr {z:List V} {x:X} (h:evO call ρ m (.clr z x)=some (v,m')) (ha:agF (fpO L ρ (.clr z x)) m m2):FrO (fpO L ρ (.clr z x)) m m' m2 (evO call ρ m2 (.clr z x)) v:=by
 refine frame_wr rfl ?_ ?_ h ha
 ·intro a b
  simp only [evO]
  cases ρ x<;>try rfl
  simp only
  repeat' split<;>try rfl
 ·simp only [evO] at h
  repeat' split at h
  all_goals first | (cases h; done) | (cases h; exact ⟨rfl,rfl⟩)
theorem frame_mput {x y z:X} (h:evO call ρ m (.mput x y z)=some (v,m')) (ha:agF (fpO L ρ (.mput x y z)) m m2):FrO (fpO L ρ (.mput x y z)) m m' m2 (evO call ρ m2 (.mput x y z)) v:=by
 refine frame_wr rfl ?_ ?_ h ha
 ·intro a b
  simp only [evO]
  repeat' split<;>try rfl
 ·simp only [evO] at h
  repeat' split at h
  all_goals first | (cases h; done) | (cases h; exact ⟨rfl,rfl⟩)
theorem frame_mdel {x y:X} (h:evO call ρ m (.mdel x y)=some (v,m')) (ha:agF (fpO L ρ (.mdel x y)) m m2):FrO (fpO L ρ (.mdel x y)) m m' m2 (evO call ρ m2 (.mdel x y)) v:=by
 refine frame_wr rfl ?_ ?_ h ha
 ·intro a b
  simp only [evO]
  repeat' split<;>try rfl
 ·simp only [evO] at h
  repeat' split at h
  all_goals first | (cases h; done) | (cases h; exact ⟨rfl,rfl⟩)
theorem frame_lit {k sz:Nat} {z:List (List V)} {ps:List (Nat × X)} (hk:2≤k) (h:evO call ρ m (.lit k sz z ps)=some (v,m')) (ha:agF (fpO L ρ (.lit k sz z ps)) m m2):
  FrO (fpO L ρ (.lit k sz z ps)) m m' m2 (evO call ρ m2 (.lit k sz z ps)) v:=by
 rcases Nat.lt_or_ge 2 k with h3 | h3
 ·have e:fpO L ρ (.lit k sz z ps)=⟨.no,.at (k - 3),.no⟩:=if_pos (show k ≥ 3 from h3)
  rw [e] at ha ⊢
  have hj:m.tk[k - 3]?=m2.tk[k - 3]?:=ha.2.1
  have hl:=frSet hj
  simp only [evO] at h ⊢
  split at h
  ·cases h
  ·split at h
   ·cases h
   ·rename_i hc
    rw [if_neg hc]
    rw [if_pos (show k ≥ 3 from h3)] at h ⊢
    split at h
    ·rename_i h5
     cases h
     rw [if_pos (by simpa [hl] using h5)]
     exact ⟨_,rfl,⟨rfl,rfl⟩,⟨_,rfl,rfl⟩,⟨rfl,rfl⟩⟩
    ·cases h
 ·obtain rfl:k=2:=by omega
  refine frame_wr (by simp [fpO]) ?_ ?_ h ha
  ·intro a b
   simp only [evO]
   repeat' split<;>try rfl
   all_goals first | omega | skip
  ·simp only [evO] at h
   repeat' split at h
   all_goals first | omega | (cases h; done) | (cases h; exact ⟨rfl,rfl⟩)
theorem evO_frame {o:O} (h:evO call ρ m o=some (v,m')) (ha:agF (fpO L ρ o) m m2):FrO (fpO L ρ o) m m' m2 (evO call ρ m2 o) v:=by
 by_cases ht:touchy o=false
 ·obtain ⟨rfl,h2⟩:=evO_pure ht h
  have:fpO L ρ o=.no:=by
   cases o<;>simp only [touchy,Bool.true_eq_false,decide_eq_false_iff_not] at ht<;>simp only [fpO]
   rw [if_neg (by omega),if_neg (by omega)]
  rw [this]
  exact .same no_quiet (h2 m2)
 ·cases o<;>simp only [touchy,Bool.true_eq_false,not_true_eq_false,not_false_eq_true,decide_eq_false_iff_not,Classical.not_not] at ht
  case onil j=>
   have hj:m.tk[j]?=m2.tk[j]?:=ha.2.1
   simp only [evO,fpO] at h ⊢
   split at h
   ·rename_i hc; cases h; exact ⟨_,if_pos ((frSet hj).1 hc),⟨rfl,rfl⟩,⟨_,rfl,rfl⟩,⟨rfl,rfl⟩⟩
   ·cases h
  case lalloc j z=>
   have hj:m.vars[j]?=m2.vars[j]?:=ha.1
   simp only [evO,fpO] at h ⊢
   split at h
   ·rename_i hc; cases h; exact ⟨_,if_pos ((frSet hj).1 hc),⟨_,rfl,rfl⟩,⟨rfl,rfl⟩,⟨rfl,rfl⟩⟩
   ·cases h
  case lbox j n x=>
   have hj:m.vars[j]?=m2.vars[j]?:=ha.1
   simp only [evO,fpO] at h ⊢
   split at h
   ·rename_i u hu
    try simp only [hu]
    split at h
    ·rename_i hc; cases h; exact ⟨_,if_pos ⟨(frSet hj).1 hc.1,hc.2⟩,⟨_,rfl,rfl⟩,⟨rfl,rfl⟩,⟨rfl,rfl⟩⟩
    ·cases h
   ·cases h
  case halloc z=>
   have hl:m.H.length=m2.H.length:=ha.2.2
   simp only [evO,fpO] at h ⊢
   cases h
   exact ⟨{ m2 with H:=m2.H ++ [_] },by rw [hl],⟨rfl,rfl⟩,⟨rfl,rfl⟩,_,rfl,rfl⟩
  case hbox n x=>
   have hl:m.H.length=m2.H.length:=ha.2.2
   simp only [evO,fpO] at h ⊢
   split at h
   ·rename_i u hu
    try simp only [hu]
    split at h
    ·rename_i hc; cases h; exact ⟨{ m2 with H:=m2.H ++ [_] },by rw [if_pos hc,hl],⟨rfl,rfl⟩,⟨rfl,rfl⟩,_,rfl,rfl⟩
    ·cases h
   ·cases h
  case mksl z by_ l c=>
   have hl:m.H.length=m2.H.length:=ha.2.2
   simp only [evO,fpO] at h ⊢
   split at h
   ·rename_i k1 a k2 b h1 h2
    try simp only [h1,h2]
    split at h
    ·rename_i hc; cases h; exact ⟨{ m2 with H:=m2.H ++ [_] },by rw [if_pos hc,hl],⟨rfl,rfl⟩,⟨rfl,rfl⟩,_,rfl,rfl⟩
    ·cases h
   ·cases h
  case mkmap=>
   have hl:m.H.length=m2.H.length:=ha.2.2
   simp only [evO,fpO] at h ⊢
   cases h
   exact ⟨{ m2 with H:=m2.H ++ [_] },by rw [hl],⟨rfl,rfl⟩,⟨rfl,rfl⟩,_,rfl,rfl⟩
  case lit=>exact frame_lit ht h ha
  case load=>exact frame_load h ha
  case store=>exact frame_store h ha
  case iaS=>exact frame_iaS h ha
  case slc=>exact frame_slc h ha
  case len=>exact frame_len h ha
  case clr=>exact frame_clr h ha
  case mput=>exact frame_mput h ha
  case mdel=>exact frame_mdel h ha
  case look=>exact frame_look h ha
  case app=>exact frame_app h ha
  case appR=>exact frame_appR h ha
  case call md f xs=>exact frame_callF h ha
  case callv md x xs=>
   simp only [evO,fpO] at h ha ⊢
   generalize ρ x=q at *
   cases q with
   | fn f fs cs=>exact frame_callF h ha
   | _=>cases h
end
end Go.Vm
namespace Go.Vm
section
variable {call:Md→Nat→List V→List Obj→Option (V × List Obj)} {ρ ρ':X→V} {m m' m2:Mem} {v:V} {L:Nat}
theorem optX {a:Option X} (h:∀ x∈oX a,ρ x=ρ' x):a.map ρ=a.map ρ':=by
 cases a with
 | none=>rfl
 | some x=>simp [h x (by simp [oX])]
theorem evO_congr {o:O} (h:∀ x∈xsO o,ρ x=ρ' x):evO call ρ m o=evO call ρ' m o:=by
 cases o<;>simp only [xsO,List.mem_cons,List.not_mem_nil,or_false,forall_eq_or_imp,forall_eq,List.mem_append,or_imp,forall_and] at h<;>simp only [evO]
 case build z ps=>
  have:(ps.map fun (o,n,x)=>(o,n,ρ x))=ps.map fun (o,n,x)=>(o,n,ρ' x):=List.map_congr_left fun p hp=>by
   obtain ⟨a,b,x⟩:=p
   simp only [h x (List.mem_map.2 ⟨_,hp,rfl⟩)]
  rw [this]
 case lit k sz z ps=>
  have:(ps.map fun (i,x)=>(i,ρ x))=ps.map fun (i,x)=>(i,ρ' x):=List.map_congr_left fun p hp=>by
   obtain ⟨a,x⟩:=p
   simp only [h x (List.mem_map.2 ⟨_,hp,rfl⟩)]
  rw [this]
 case slc sz x lo hi mx=>rw [h.1,optX h.2.1.1,optX h.2.1.2,optX h.2.2]
 case slcA n sz x lo hi mx=>rw [h.1,optX h.2.1.1,optX h.2.1.2,optX h.2.2]
 case call md f xs=>rw [List.map_congr_left h]
 case callv md x xs=>rw [h.1,List.map_congr_left h.2]
 case min xs=>rw [List.map_congr_left h]
 case max xs=>rw [List.map_congr_left h]
 case mkfn f a b=>rw [List.map_congr_left h.1,List.map_congr_left h.2]
 all_goals simp only [h]
theorem fpO_congr {o:O} (h:∀ x∈xsO o,ρ x=ρ' x):fpO L ρ o=fpO L ρ' o:=by
 cases o<;>simp only [xsO,List.mem_cons,List.not_mem_nil,or_false,forall_eq_or_imp,forall_eq,List.mem_append,or_imp,forall_and] at h<;>simp only [fpO]
 case slc sz x lo hi mx=>rw [h.1]
 case call md f xs=>rw [List.map_congr_left h]
 case callv md x xs=>rw [h.1,List.map_congr_left h.2]
 all_goals simp only [h]
theorem fpO_pure {o:O} (ht:touchy o=false):fpO L ρ o=.no:=by
 cases o<;>simp only [touchy,Bool.true_eq_false,decide_eq_false_iff_not] at ht<;>simp only [fpO]
 rw [if_neg (by omega),if_neg (by omega)]
/-! ### one step -/
def lkF (rs:Nat→V) (ss:List V):X→V
 | .r i=>rs i
 | .s i=>ss.getD i .undef
 | .c v=>v
def wantsF (rs:Nat→V):Option (Nat × Bool)→Option Bool
 | none=>some true
 | some (j,b)=>match rs j with
  | .bool c=>some (c == b)
  | .skp=>some false
  | _=>none
def upd (rs:Nat→V) (i:Nat) (v:V):Nat→V:=fun j=>if j=i then v else rs j
theorem upd_same (rs:Nat→V) (i:Nat) (v:V):upd rs i v i=v:=by simp [upd]
theorem upd_ne (rs:Nat→V) {i j:Nat} (v:V) (h:j≠i):upd rs i v j=rs j:=by simp [upd,h]
theorem upd_comm (rs:Nat→V) {i j:Nat} (u v:V) (h:i≠j):upd (upd rs i u) j v=upd (upd rs j v) i u:=by
 funext k
 by_cases h1:k=i
 ·subst h1; simp [upd,h]
 ·by_cases h2:k=j
  ·subst h2; simp [upd,h1]
  ·simp [upd,h1,h2]
variable (call) in
def stp (ss:List V) (rs:Nat→V) (m:Mem) (p:Op):Option (V × Mem):=
 match wantsF rs p.g with
 | none=>none
 | some false=>some (.skp,m)
 | some true=>evO call (lkF rs ss) m p.o
variable (call) in
def evIx (ss:List V) (ops:List Op):List Nat→(Nat→V)→Mem→Option ((Nat→V) × Mem)
 | [],rs,m=>some (rs,m)
 | i :: l,rs,m=>match ops[i]? with
  | none=>none
  | some p=>match stp call ss rs m p with
   | none=>none
   | some (v,m')=>evIx ss ops l (upd rs i v) m'
def usesR (p:Op) (j:Nat):Prop:=(.r j)∈xsO p.o∨∃ b,p.g=some (j,b)
theorem lkF_congr {rs rs':Nat→V} {ss:List V} {p:Op} (h:∀ j,usesR p j→rs j=rs' j):∀ x∈xsO p.o,lkF rs ss x=lkF rs' ss x:=by
 intro x hx
 cases x with
 | r j=>exact h j (.inl hx)
 | _=>rfl
theorem wantsF_congr {rs rs':Nat→V} {p:Op} (h:∀ j,usesR p j→rs j=rs' j):wantsF rs p.g=wantsF rs' p.g:=by
 cases hg:p.g with
 | none=>rfl
 | some q=>obtain ⟨j,b⟩:=q; simp only [wantsF,h j (.inr ⟨b,hg⟩)]
theorem stp_congr {rs rs':Nat→V} {ss:List V} {p:Op} (h:∀ j,usesR p j→rs j=rs' j):stp call ss rs m p=stp call ss rs' m p:=by
 unfold stp
 rw [wantsF_congr h,evO_congr (lkF_congr h)]
theorem stp_frame {ss:List V} {rs:Nat→V} {p:Op} (h:stp call ss rs m p=some (v,m')):∃ f:Fp,(f=.no∨f=fpO L (lkF rs ss) p.o)∧∀ m2,agF f m m2→FrO f m m' m2 (stp call ss rs m2 p) v:=by
 unfold stp at h ⊢
 split at h
 ·cases h
 ·cases h
  exact ⟨.no,.inl rfl,fun m2 _=>.same no_quiet rfl⟩
 ·exact ⟨_,.inr rfl,fun m2 ha=>evO_frame h ha⟩
def bdF (L:Nat) (f:Fp):Prop:=f.v≠.new∧f.t≠.new∧bdT L f.h
theorem bd_no (L:Nat):bdF L .no:=by refine ⟨?_,?_,?_⟩<;>simp [Fp.no,bdT]
theorem bd_hr (L id:Nat):bdF L (.hr L id):=by
 unfold Fp.hr; split<;>refine ⟨?_,?_,?_⟩<;>simp [bdT]; assumption
theorem bd_hw (L id:Nat):bdF L (.hw L id):=by
 unfold Fp.hw; split<;>refine ⟨?_,?_,?_⟩<;>simp [bdT]; assumption
theorem bd_fpC (L:Nat) (md:Md) (vs:List V):bdF L (fpC md vs):=by
 unfold fpC; split
 ·split
  ·exact bd_no L
  ·refine ⟨?_,?_,?_⟩<;>simp [bdT]
 ·refine ⟨?_,?_,?_⟩<;>simp [bdT]
theorem bd_fpO (L : Nat) (ρ : X → V) (o : O) : bdF L (fpO L ρ o) := by
  cases o <;> simp only [fpO] <;> first | exact bd_no L | (refine ⟨?_, ?_, ?_⟩ <;> simp [bdT]; done) | exact bd_fpC L _ _ | skip
  case lit => split
              · refine ⟨?_, ?_, ?_⟩ <;> simp [bdT]
              · split
                · refine ⟨?_, ?_, ?_⟩ <;> simp [bdT]
                · exact bd_no L
  case load => unfold fpL; split <;> first | exact bd_no L | exact bd_hr L _ | (refine ⟨?_, ?_, ?_⟩ <;> simp [bdT]; done)
  case store => unfold fpS; split <;> first | exact bd_no L | exact bd_hw L _ | (refine ⟨?_, ?_, ?_⟩ <;> simp [bdT]; done)
  all_goals (split <;> first | exact bd_no L | exact bd_hr L _ | exact bd_hw L _ | exact bd_fpC L _ _ | (refine ⟨?_, ?_, ?_⟩ <;> simp [bdT]; done))
theorem agF_refl (f:Fp) (m:Mem):agF f m m:=by
 have one:∀ {α:Type} (c:Tc) (a:List α),agT c a a:=by intro α c a; cases c<;>simp [agT]
 exact ⟨one _ _,one _ _,one _ _⟩
theorem stp_swap {ss:List V} {rs:Nat→V} {i j:Nat} {p q:Op} {u u':V} {m1:Mem} (hij:i≠j) (hL:L≤m.H.length)
  (hp:stp call ss rs m p=some (u,m1)) (hq:stp call ss (upd rs i u) m1 q=some (u',m2)) (h1:¬ usesR q i) (h2:¬ usesR p j)
  (hc:(fpO L (lkF rs ss) p.o).comm (fpO L (lkF rs ss) q.o)=true):
  ∃ m',stp call ss rs m q=some (u',m')∧stp call ss (upd rs j u') m' p=some (u,m2):=by
 have e1:∀ m,stp call ss (upd rs i u) m q=stp call ss rs m q:=fun m=>stp_congr fun k hk=>upd_ne _ _ (fun e=>h1 (e ▸ hk))
 have e2:∀ m,stp call ss (upd rs j u') m p=stp call ss rs m p:=fun m=>stp_congr fun k hk=>upd_ne _ _ (fun e=>h2 (e ▸ hk))
 rw [e1] at hq
 simp only [e2]
 obtain ⟨f,hf,F⟩:=stp_frame (L:=L) hp
 obtain ⟨g,hg,Gf⟩:=stp_frame (L:=L) hq
 have hcomm:f.comm g=true:=by
  have n1:∀ x:Fp,Fp.no.comm x=true:=fun x=>by simp [Fp.comm,Fp.no,Tc.comm]
  have n2:∀ x:Fp,x.comm Fp.no=true:=fun x=>by
   simp only [Fp.comm,Fp.no,Bool.and_eq_true]
   refine ⟨⟨?_,?_⟩,?_⟩
   ·cases x.v<;>rfl
   ·cases x.t<;>rfl
   ·cases x.h<;>rfl
  rcases hf with rfl | rfl
  ·exact n1 _
  ·rcases hg with rfl | rfl
   ·exact n2 _
   ·exact hc
 have bf:bdF L f:=by rcases hf with rfl | rfl; exact bd_no L; exact bd_fpO _ _ _
 have bg:bdF L g:=by rcases hg with rfl | rfl; exact bd_no L; exact bd_fpO _ _ _
 obtain ⟨m1',hm1,ef⟩:=F m (agF_refl f m)
 rw [hp] at hm1
 simp only [Option.some.injEq,Prod.mk.injEq,true_and] at hm1
 subst hm1
 obtain ⟨m2',hm2,eg⟩:=Gf m1 (agF_refl g m1)
 rw [hq] at hm2
 simp only [Option.some.injEq,Prod.mk.injEq,true_and] at hm2
 subst hm2
 simp only [Fp.comm,Bool.and_eq_true] at hcomm
 obtain ⟨⟨cv,ct⟩,ch⟩:=hcomm
 have V:=comm_step cv 0 (Nat.zero_le _) (fun e=>absurd e bg.1) (fun e=>absurd e bf.1) ef.1 eg.1
 have T:=comm_step ct 0 (Nat.zero_le _) (fun e=>absurd e bg.2.1) (fun e=>absurd e bf.2.1) ef.2.1 eg.2.1
 have H:=comm_step ch L hL (fun _=>bf.2.2) (fun _=>bg.2.2) ef.2.2 eg.2.2
 obtain ⟨m',r1,r2⟩:=Gf m ⟨V.1,T.1,H.1⟩
 have V':=V.2 _ r2.1
 have T':=T.2 _ r2.2.1
 have H':=H.2 _ r2.2.2
 obtain ⟨m'',r3,r4⟩:=F m' ⟨V'.1,T'.1,H'.1⟩
 refine ⟨m',r1,?_⟩
 rw [r3]
 have a1:=V'.2 _ r4.1
 have a2:=T'.2 _ r4.2.1
 have a3:=H'.2 _ r4.2.2
 cases m''; cases m2; simp_all
/-! ### memory grows -/
def CallMono (call:Md→Nat→List V→List Obj→Option (V × List Obj)):Prop:=∀ md f as H r H',call md f as H=some (r,H')→md=.heap→H.length≤H'.length
theorem evStore_len {n:Nat} {a:V} (h:evStore n m v a=some m'):m'.H.length=m.H.length:=by
 cases a<;>simp only [evStore,reduceCtorEq] at h
 all_goals (repeat' split at h)
 all_goals first | (cases h; done) | (cases h; simp)
theorem callF_len {md:Md} {f:Nat} {vs:List V} (hc:CallMono call) (h:callF call md f m vs=some (v,m')):m.H.length≤m'.H.length:=by
 cases md<;>simp only [callF] at h
 ·repeat' split at h
  all_goals first | (cases h; done) | (cases h; exact Nat.le_refl _)
 ·repeat' split at h
  all_goals first | (cases h; done) | skip
  rename_i as _ _ r H hr
  cases h
  exact hc _ _ _ _ _ _ hr rfl
theorem appV_len {k sz by_:Nat} {x y:V} (h:appV k sz by_ m x y=some (v,m')):m.H.length≤m'.H.length:=by
 simp only [appV] at h
 repeat' split at h
 all_goals first | (cases h; done) | (cases h; simp; done)
theorem evO_len {o:O} (hc:CallMono call) (h:evO call ρ m o=some (v,m')):m.H.length≤m'.H.length:=by
 by_cases ht:touchy o=false
 ·obtain ⟨rfl,_⟩:=evO_pure ht h; exact Nat.le_refl _
 ·cases o<;>simp only [touchy,Bool.true_eq_false,not_true_eq_false,not_false_eq_true,decide_eq_false_iff_not,Classical.not_not] at ht<;>simp only [evO] at h
  case app=>exact appV_len h
  case call=>exact callF_len hc h
  case callv=>
   split at h
   ·exact callF_len hc h
   ·cases h
  case store=>
   repeat' split at h
   all_goals first | (cases h; done) | skip
   rename_i m'' hm''
   cases h
   rw [evStore_len hm'']; exact Nat.le_refl _
  case appR=>
   simp only [appRV] at h
   repeat' split at h
   all_goals first | (cases h; done) | (cases h; exact Nat.le_refl _)
  all_goals (try simp only [val] at h)
  all_goals (repeat' split at h)
  all_goals first | (cases h; done) | (cases h; first | exact Nat.le_refl _ | (simp; done) | skip)
theorem stp_len {ss:List V} {rs:Nat→V} {p:Op} (hc:CallMono call) (h:stp call ss rs m p=some (v,m')):m.H.length≤m'.H.length:=by
 unfold stp at h
 split at h
 ·cases h
 ·cases h; exact Nat.le_refl _
 ·exact evO_len hc h
/-! ### one step first -/
theorem evIx_keeps {ss:List V} {ops:List Op}:∀ {l:List Nat} {rs rsF:Nat→V} {m mF:Mem},evIx call ss ops l rs m=some (rsF,mF)→∀ j,j ∉ l→rsF j=rs j
 | [],rs,rsF,m,mF,h,j,_=>by simp only [evIx,Option.some.injEq,Prod.mk.injEq] at h; rw [h.1]
 | i :: l,rs,rsF,m,mF,h,j,hj=>by
  simp only [evIx] at h
  split at h
  ·cases h
  ·split at h
   ·cases h
   ·simp only [List.mem_cons,not_or] at hj
    rw [evIx_keeps h j hj.2,upd_ne _ _ hj.1]
theorem evIx_front {ss:List V} {ops:List Op} {i:Nat} {p:Op} {rsF:Nat→V} {mF:Mem} (hcm:CallMono call) (hp:ops[i]?=some p):
  ∀ (l1 l2:List Nat) (rs:Nat→V) (m:Mem),L≤m.H.length→evIx call ss ops (l1 ++ i :: l2) rs m=some (rsF,mF)→(l1 ++ i :: l2).Pairwise (·<·) →
   (∀ k,usesR p k→k ∉ l1 ++ i :: l2)→(∀ j∈l1,∀ q,ops[j]?=some q→(∀ k,usesR q k→k<j)∧(fpO L (lkF rsF ss) q.o).comm (fpO L (lkF rsF ss) p.o)=true) →
   evIx call ss ops (i :: (l1 ++ l2)) rs m=some (rsF,mF)
 | [],l2,rs,m,_,h,_,_,_=>h
 | j :: l1,l2,rs,m,hL,h,hs,hu,hj=>by
  simp only [List.cons_append,evIx] at h
  split at h
  ·cases h
  ·rename_i q hq
   split at h
   ·cases h
   ·rename_i u m1 hu1
    have hs':=(List.pairwise_cons.1 (show (j :: (l1 ++ i :: l2)).Pairwise (·<·) from hs))
    have ih:=evIx_front hcm hp l1 l2 (upd rs j u) m1 (Nat.le_trans hL (stp_len hcm hu1)) h hs'.2 (fun k hk hm=>hu k hk (by simp only [List.cons_append,List.mem_cons]; exact .inr hm))
     (fun j' hj' q' hq'=>hj j' (List.mem_cons_of_mem _ hj') q' hq')
    simp only [evIx,hp] at ih
    split at ih
    ·cases ih
    ·rename_i u' m2 hu2
     have hij:j<i:=hs'.1 i (by simp)
     obtain ⟨hq1,hq2⟩:=hj j (List.mem_cons_self) q hq
     have uq:¬ usesR p j:=fun hk=>hu j hk (by simp)
     have up:¬ usesR q i:=fun hk=>absurd (hq1 i hk) (by omega)
     have f1:∀ k,k<j→rsF k=rs k:=fun k hk=>by
      rw [evIx_keeps h k (fun hm=>absurd (hs'.1 k hm) (by omega)),upd_ne _ _ (by omega)]
     have f2:∀ k,usesR p k→rsF k=rs k:=fun k hk=>by
      have h1:=hu k hk
      simp only [List.cons_append,List.mem_cons,not_or] at h1
      rw [evIx_keeps h k h1.2,upd_ne _ _ h1.1]
     have hc:(fpO L (lkF rs ss) q.o).comm (fpO L (lkF rs ss) p.o)=true:=by
      rw [fpO_congr (lkF_congr fun k hk=>(f1 k (hq1 k hk)).symm),fpO_congr (lkF_congr fun k hk=>(f2 k hk).symm)]
      exact hq2
     obtain ⟨m',r1,r2⟩:=stp_swap (by omega) hL hu1 hu2 uq up hc
     simp only [evIx,hp,r1,List.cons_append,hq,r2]
     rw [upd_comm rs u' u (by omega)]
     exact ih
end
end Go.Vm
namespace Go.Vm
section
variable {P:Program} {h:Hint} {ds:List (Option Nat)} {G:Gh} {w:World} {m:Mem} {ρ:X→V} {e:Operand→Value} {k:Bool→Nat→Prop}
theorem islOf {es:List (List V)} {b s c r:Nat} (hs:∀ q∈es,q.length=s) (hc:es.length≤c)
  (hx:∀ (i j:Nat) (q:List V) (v:V),es[i]?=some q→q[j]?=some v→v.flat=true∧G.E false b (i * s+j)∧∃ x,w.cell? ⟨b,i * s+j,none⟩=some x∧VR G w 0 v x):
  VR G w r (.isl false es) (.slice (some ⟨b,0,none⟩) es.length c):=by
 by_cases hne:es=[]
 ·subst hne; exact .isl0 _ _ _ _
 ·refine .isl r false es b 0 s c (fun i j=>(w.cell? ⟨b,0+i * s+j,none⟩).getD undef) hne hc hs (fun q hq v hv=>?_) (fun i j hi hj=>?_) (fun i j q v hq hv=>?_)
  ·obtain ⟨i,hi⟩:=List.getElem?_of_mem hq
   obtain ⟨j,hj⟩:=List.getElem?_of_mem hv
   exact (hx i j q v hi hj).1
  ·have h1:=List.getElem?_eq_getElem hi
   have hl:(es[i]).length=s:=hs _ (List.getElem_mem _)
   have h2:(es[i])[j]?=some ((es[i])[j]'(by omega)):=List.getElem?_eq_getElem _
   obtain ⟨_,e1,x,e2,_⟩:=hx i j _ _ h1 h2
   rw [Nat.zero_add]
   exact ⟨e1,by rw [e2]; rfl⟩
  ·obtain ⟨_,_,x,e2,e3⟩:=hx i j q v hq hv
   rw [Nat.zero_add,e2]
   exact e3
theorem isl_cells {t:Bool} {es:List (List V)} {b s c r n:Nat} {o:Option Nat} (hx:VR G w r (.isl t es) (.slice (some ⟨b,0,none⟩) n c)) (hs:∀ q∈es,q.length=s):
  n=es.length∧(es.length≤c)∧∀ (i j:Nat) (q:List V) (v:V),es[i]?=some q→q[j]?=some v→v.flat=true∧G.E t b (i * s+j)∧∃ x,w.cell? ⟨b,i * s+j,none⟩=some x∧VR G w 0 v x:=by
 cases hx with
 | isl0=>exact ⟨rfl,by simp,fun i j q v hq=>by simp at hq⟩
 | isl _ _ _ _ _ s' _ x hne hc hsz hf hx hv=>
  refine ⟨rfl,hc,fun i j q v hq hv'=>?_⟩
  have hq':=List.mem_of_getElem? hq
  have e1:s'=s:=by rw [← hsz q hq',hs q hq']
  subst e1
  have hj:j<s':=by rw [← hsz q hq']; exact (List.getElem?_eq_some_iff.1 hv').1
  obtain ⟨h1,h2⟩:=hx i j (List.getElem?_eq_some_iff.1 hq).1 hj
  rw [Nat.zero_add] at h1 h2
  exact ⟨hf q hq' v (List.mem_of_getElem? hv'),h1,_,h2,hv i j q v hq hv'⟩
theorem newNil {j:Nat} (hm:MR G w m) (hj:j<m.tk.length) (hk:k false j):
  ∃ G',Le G w G' w∧LeL G G' k∧MR G' w { m with tk:=m.tk.set j 0 }∧Fr G m w G' { m with tk:=m.tk.set j 0 } w∧VR G' w 2 (.osl false j []) (.slice none 0 0):=by
 let G':Gh:={ G with ob:=fun hh i=>if hh=false∧i=j then none else G.ob hh i,T:=fun hh i=>if hh=false∧i=j then some 0 else G.T hh i }
 have le:Le G w G' w:=⟨fun _ _ _ h=>h,fun _ _ _ _=>rfl,fun _ _ h=>h,fun i n h=>⟨n,by simpa [G'] using h,Nat.le_refl _,fun _=>by simp [G']⟩⟩
 have hsub:∀ a c,Own G' { m with tk:=m.tk.set j 0 } a c→Own G m a c:=by
  intro a c q
  cases a with
  | v i=>exact q
  | t i=>
   obtain ⟨x,y,q⟩:=q
   by_cases r:i=j
   ·simp [G',r] at q
   ·exact ⟨x,y,by simpa [G',r] using q⟩
  | h i=>simpa [Own,G'] using q
 refine ⟨G',le,⟨fun _ _ _ h=>h,fun i n hki h=>⟨n,?_,Nat.le_refl _,fun _=>?_⟩⟩,?_,?_,?_⟩
 ·have:i≠j:=fun q=>hki (by rw [q]; exact hk)
  simpa [G',this] using h
 ·have:i≠j:=fun q=>hki (by rw [q]; exact hk)
  simp [G',this]
 ·exact {
   T0:=fun i=>by
    by_cases q:i=j
    ·subst q; simp [G',hj]
    ·simp [G',q,List.getElem?_set,Ne.symm q,hm.T0 i]
   T1:=fun i=>by simpa [G'] using hm.T1 i
   Ef:=hm.Ef
   Elt:=hm.Elt
   vars:=fun i b q=>by
    obtain ⟨cs,h1,h2⟩:=hm.vars i b q
    exact ⟨cs,h1,h2.mono le rfl⟩
   toks:=fun i b c s q=>by
    by_cases r:i=j
    ·simp [G',r] at q
    ·obtain ⟨n,h1,h2⟩:=hm.toks i b c s (by simpa [G',r] using q)
     exact ⟨n,by simp [List.getElem?_set,Ne.symm r,h1],h2.mono rfl (fun _ _=>Iff.rfl)⟩
   arr:=fun id es q=>by
    obtain ⟨b,s,c,h1,h2⟩:=hm.arr id es q
    exact ⟨b,s,c,h1,h2.mono le rfl⟩
   mp:=hm.mp
   tok:=fun id n q=>by
    obtain ⟨b,c,s,h1,h2⟩:=hm.tok id n q
    exact ⟨b,c,s,by simpa [G'] using h1,h2.mono rfl (fun _ _=>Iff.rfl)⟩
   fresh:=fun id q=>by simpa [G'] using hm.fresh id q
   inj:=fun a b c h1 h2=>hm.inj a b c (hsub _ _ h1) (hsub _ _ h2)
   noV:=hm.noV
   noH:=hm.noH }
 ·exact {
   os:=rfl
   tape:=rfl
   output:=rfl
   size:=Nat.le_refl _
   kept:=fun _ _ _=>rfl
   sub:=fun a c q _=>⟨a,hsub a c q⟩
   E:=fun _ _ _ _ _=>Iff.rfl
   len:=Nat.le_refl _
   vl:=by simp }
 ·exact .osl _ false j [] _ 0 (by simp) (.nils _) (by simp [G']) (Nat.le_refl _) (fun _=>by simp [OwnS,G'])
theorem tokPut {hh:Bool} {j b c s:Nat} {es ns:List (List V)} {new:Array Value} {m':Mem} (hm:MR G w m) (hob:G.ob hh j=some (b,c,s)) (hes:∀ q∈es,q.length=s)
  (hi:VR G w 0 (.isl false es) (.slice (some ⟨b,0,none⟩) es.length c)) (hn:RelA G w s ns.length ns new) (him:immAll ns=true) (hle:es.length+ns.length≤c) (he0:es≠[])
  (hm':if hh then (m.H[j]?=some (.tok es.length)∧m'={ m with H:=m.H.set j (.tok (es.length+ns.length)) }) else (m.tk[j]?=some es.length∧m'={ m with tk:=m.tk.set j (es.length+ns.length) })):
  ∃ cb ty,w.heap[b]?=some (.cells cb ty (0,0))∧0+es.length * s+new.size≤cb.size∧(∀ v∈new.toList,v.oneCell'=true) ∧
  ∃ G',Le G w G' (w.setCells b (0+es.length * s) new.toList)∧LeL G G' k∧MR G' (w.setCells b (0+es.length * s) new.toList) m' ∧
   Fr G m w G' m' (w.setCells b (0+es.length * s) new.toList) ∧
   VR G' (w.setCells b (0+es.length * s) new.toList) 2 (.osl hh j (es ++ ns)) (.slice (some ⟨b,0,none⟩) (es.length+ns.length) c):=by
 rw [Nat.zero_add]
 obtain ⟨cb,ty,hb,hcs,hbE,hbn,hT⟩:∃ cb ty,w.heap[b]?=some (.cells cb ty (0,0))∧cb.size=c * s∧(∀ o,o<es.length * s→G.E false b o)∧(∀ t o,es.length * s≤o→¬ G.E t b o)∧G.T hh j=some es.length:=by
  cases hh with
  | true=>
   simp only [if_true] at hm'
   obtain ⟨b',c',s',q1,cb,ty,q2,q3,_,q4,q5⟩:=hm.tok j es.length hm'.1
   rw [hob] at q1
   obtain ⟨rfl,rfl,rfl⟩:b=b'∧c=c'∧s=s':=by simpa using q1
   exact ⟨cb,ty,q2,q3,q4,q5,by rw [hm.T1,hm'.1]⟩
  | false=>
   simp only [Bool.false_eq_true,if_false] at hm'
   obtain ⟨n,q1,cb,ty,q2,q3,_,q4,q5⟩:=hm.toks j b c s hob
   rw [hm'.1] at q1; cases q1
   exact ⟨cb,ty,q2,q3,q4,q5,by rw [hm.T0,hm'.1]⟩
 have hns:new.size=ns.length * s:=hn.1
 have hroom:es.length * s+new.size≤cb.size:=by
  rw [hns,← Nat.add_mul,hcs]; exact Nat.mul_le_mul_right s hle
 have hone:∀ v∈new.toList,v.oneCell'=true:=by
  intro v hv
  obtain ⟨q,hq⟩:=List.getElem?_of_mem hv
  have hql:q<ns.length * s:=by rw [← hns]; simpa using (List.getElem?_eq_some_iff.1 hq).1
  have hs0:0<s:=by
   rcases Nat.eq_zero_or_pos s with h0 | h0
   ·subst h0; simp at hql
   ·exact h0
  have hi':q / s<ns.length:=by rw [Nat.div_lt_iff_lt_mul hs0]; exact hql
  have hl:(ns[q / s]).length=s:=hn.2.2.1 _ (List.getElem_mem _)
  have hj':=Nat.mod_lt q hs0
  obtain ⟨f1,x,f2,f3⟩:=hn.2.2.2 (q / s) (q % s) _ _ (List.getElem?_eq_getElem hi') (List.getElem?_eq_getElem (by rw [hl]; exact hj'))
  have e1:q / s * s+q % s=q:=by have:=Nat.div_add_mod q s; rw [Nat.mul_comm] at this; exact this
  rw [e1] at f2
  simp at hq
  rw [f2] at hq; cases hq
  exact f3.oneCell f1
 refine ⟨cb,ty,hb,hroom,hone,?_⟩
 obtain ⟨c',q1,q2,q3,q4,q5,q6,q7,q8⟩:=setCells_spec b new.toList (es.length * s) w cb ty (0,0) hb (by simpa using hroom)
 generalize w.setCells b (es.length * s) new.toList=w' at *
 let G':Gh:={ G with
  E:=fun t b' o=>G.E t b' o∨(b'=b∧o<(es.length+ns.length) * s)
  T:=fun h' i=>if h'=hh∧i=j then some (es.length+ns.length) else G.T h' i }
 have hcell:∀ t b' o,G.E t b' o→w'.cell? ⟨b',o,none⟩=w.cell? ⟨b',o,none⟩:=by
  intro t b' o hE
  by_cases hbb:b'=b
  ·subst hbb
   have:¬ (es.length * s≤o):=fun h=>hbn t o h hE
   rw [cell?_at q1,cell?_at hb,q3,if_neg (by omega)]
  ·exact cell?_congr (q4 b' hbb)
 have le:Le G w G' w':=⟨fun _ _ _ h=>.inl h,hcell,fun _ _ h=>h,fun i n h=>by
  by_cases e1:hh=true∧i=j
  ·obtain ⟨rfl,rfl⟩:=e1
   rw [hT] at h; cases h
   exact ⟨es.length+ns.length,by simp [G'],by omega,fun _=>rfl⟩
  ·exact ⟨n,by simp only [G']; rw [if_neg (by rintro ⟨rfl,rfl⟩; exact e1 ⟨rfl,rfl⟩)]; exact h,Nat.le_refl _,fun _=>rfl⟩⟩
 have tokAt:TokAt G' w' b s c (es.length+ns.length):=by
  refine ⟨c',ty,q1,by rw [q2,hcs],hle,fun o ho=>.inr ⟨rfl,ho⟩,fun t o ho q=>?_⟩
  rcases q with q | ⟨_,q⟩
  ·exact hbn t o (Nat.le_trans (Nat.mul_le_mul_right s (Nat.le_add_right _ _)) ho) q
  ·omega
 have hown:Own G m (if hh then .h j else .t j) b:=by
  cases hh with
  | true=>simp only [if_true] at hm' ⊢; simp only [Own,hm'.1]; exact ⟨c,s,hob⟩
  | false=>exact ⟨c,s,hob⟩
 have u:Upd G w m G' w' m' (if hh then .h j else .t j) b:={
  le:=le
  hv:=fun i _=>⟨rfl,by cases hh<;>simp at hm'<;>rw [hm'.2]⟩
  ht:=fun i hi=>by
   cases hh with
   | true=>simp at hm'; rw [hm'.2]; exact ⟨rfl,rfl,by simp [G']⟩
   | false=>
    simp at hm' hi
    have:i≠j:=fun q=>hi q.symm
    rw [hm'.2]; exact ⟨rfl,by simp [List.getElem?_set,Ne.symm this],by simp [G',this]⟩
  hh:=fun i hi=>by
   cases hh with
   | false=>simp at hm'; rw [hm'.2]; exact ⟨rfl,rfl,rfl,by simp [G']⟩
   | true=>
    simp at hm' hi
    have:i≠j:=fun q=>hi q.symm
    rw [hm'.2]; exact ⟨rfl,rfl,by simp [List.getElem?_set,Ne.symm this],by simp [G',this]⟩
  hl:=by cases hh<;>simp at hm'<;>rw [hm'.2]<;>simp
  hf:=fun i hi q=>by
   cases hh with
   | false=>cases q
   | true=>
    simp at hm' q
    subst q
    have:=(List.getElem?_eq_some_iff.1 hm'.1).1
    rw [hm'.2] at hi; simp at hi; omega
  hvl:=by cases hh<;>simp at hm'<;>rw [hm'.2]<;>simp
  hE:=fun t b' o hb'=>⟨fun h=>h.resolve_right (fun q=>hb' q.1),.inl⟩
  Ef:=fun o q=>q.elim (fun q=>.inl (hm.Ef _ o q)) .inr
  heap:=fun b' hb' _=>q4 b' hb'
  size:=Nat.le_of_eq q5.symm
  hB:=by rw [q5]; exact (Array.getElem?_eq_some_iff.1 hb).1
  new:=.inr hown
  key:=by
   cases hh with
   | false=>
    simp only [Bool.false_eq_true,if_false] at hm' ⊢
    have hjl:=(List.getElem?_eq_some_iff.1 hm'.1).1
    refine ⟨by simp [G',hm'.2,hjl],fun b2 c2 s2 q=>?_⟩
    have q:G.ob false j=some (b2,c2,s2):=q
    rw [hob] at q; cases q
    exact ⟨rfl,_,by simp [hm'.2,hjl],tokAt⟩
   | true=>
    simp only [if_true] at hm' ⊢
    have hjl:=(List.getElem?_eq_some_iff.1 hm'.1).1
    exact .inr (.inl ⟨es.length+ns.length,s,c,by simp [hm'.2,hjl],by simp [G'],hob,tokAt⟩)
  os:=q6
  tape:=q7
  output:=q8 }
 refine ⟨G',le,⟨fun _ _ _ h=>h,fun i n hki q=>?_⟩,u.mr hm,u.fr hm,?_⟩
 ·by_cases e1:hh=false∧i=j
  ·obtain ⟨rfl,rfl⟩:=e1
   rw [hT] at q; cases q
   exact ⟨es.length+ns.length,by simp [G'],by omega,fun _=>rfl⟩
  ·exact ⟨n,by simp only [G']; rw [if_neg (by rintro ⟨rfl,rfl⟩; exact e1 ⟨rfl,rfl⟩)]; exact q,Nat.le_refl _,fun _=>rfl⟩
 ·have hrows:∀ q∈es ++ ns,q.length=s:=fun q hq=>(List.mem_append.1 hq).elim (hes q) (hn.2.2.1 q)
  obtain ⟨_,_,hold⟩:=isl_cells (o:=none) hi hes
  have hisl:VR G' w' 0 (.isl false (es ++ ns)) (.slice (some ⟨b,0,none⟩) (es ++ ns).length c):=by
   refine islOf hrows (by simpa using hle) fun i q r v hq hv=>?_
   have hr:=hrows r (List.mem_of_getElem? hq)
   have hqs:q<s:=by rw [← hr]; exact (List.getElem?_eq_some_iff.1 hv).1
   by_cases hil:i<es.length
   ·rw [List.getElem?_append_left hil] at hq
    obtain ⟨f1,f2,x,f3,f4⟩:=hold i q r v hq hv
    exact ⟨f1,.inl f2,x,by rw [hcell _ _ _ f2]; exact f3,f4.mono1 le (by omega)⟩
   ·rw [List.getElem?_append_right (by omega)] at hq
    obtain ⟨f1,x,f2,f3⟩:=hn.2.2.2 (i - es.length) q r v hq hv
    have hin:i - es.length<ns.length:=(List.getElem?_eq_some_iff.1 hq).1
    have e1:i * s+q=es.length * s+((i - es.length) * s+q):=by
     rw [← Nat.add_assoc,← Nat.add_mul]; congr 2; omega
    have hlt:(i - es.length) * s+q<new.size:=(Array.getElem?_eq_some_iff.1 f2).1
    refine ⟨f1,.inr ⟨rfl,?_⟩,x,?_,((f3.mono1 le (Nat.le_refl _)).imm0 (immAll_get him hq hv)).1⟩
    ·rw [e1,Nat.add_mul]; omega
    ·rw [cell?_at q1,q3,if_pos (by rw [e1]; simp; omega),e1,Nat.add_sub_cancel_left]
     simpa using f2
  rw [List.length_append] at hisl
  refine .osl 2 hh j (es ++ ns) _ (es.length+ns.length) (by split<;>omega) (ils_mk (by simp [he0]) hisl) (by simp [G']) (by simp) (fun _=>?_)
  have:G'.ob hh j=some (b,c,s):=hob
  unfold OwnS
  rw [this]
  exact ⟨by simp,hrows,by simp [he0]⟩
/-! ### elements that may be written -/
theorem deadArr {id:Nat} {es:List (List V)} (hm:MR G w m) (hes:m.H[id]?=some (.arr es)):MR G w { m with H:=m.H.set id .dead }∧Fr G m w G { m with H:=m.H.set id .dead } w:=by
 have hid:=(List.getElem?_eq_some_iff.1 hes).1
 have get:∀ (i:Nat) (ob:Obj),(m.H.set id .dead)[i]?=some ob→ob=.dead∨m.H[i]?=some ob:=by
  intro i ob h
  by_cases r:i=id
  ·subst r; simp [hid] at h; exact .inl h.symm
  ·rw [List.getElem?_set,if_neg (Ne.symm r)] at h
   exact .inr h
 have hsub:∀ a c,Own G { m with H:=m.H.set id .dead } a c→Own G m a c:=by
  intro a c q
  cases a with
  | v i=>exact q
  | t i=>exact q
  | h i=>
   simp only [Own] at q ⊢
   by_cases r:i=id
   ·subst r; simp [hid] at q
   ·rw [List.getElem?_set,if_neg (Ne.symm r)] at q; exact q
 refine ⟨{
  T0:=hm.T0
  T1:=fun i=>by
   by_cases r:i=id
   ·subst r; rw [hm.T1,hes]; simp [hid]
   ·rw [hm.T1]; simp [List.getElem?_set,Ne.symm r]
  Ef:=hm.Ef
  Elt:=hm.Elt
  vars:=hm.vars
  toks:=hm.toks
  arr:=fun i es' h=>by rcases get i _ h with h | h; cases h; exact hm.arr i es' h
  mp:=fun i es' h=>by rcases get i _ h with h | h; cases h; exact hm.mp i es' h
  tok:=fun i n h=>by rcases get i _ h with h | h; cases h; exact hm.tok i n h
  fresh:=fun i h=>hm.fresh i (by simpa using h)
  inj:=fun a b c h1 h2=>hm.inj a b c (hsub _ _ h1) (hsub _ _ h2)
  noV:=hm.noV
  noH:=fun i es' b s c t o h=>by rcases get i _ h with h | h; cases h; exact hm.noH i es' b s c t o h },{
  os:=rfl
  tape:=rfl
  output:=rfl
  size:=Nat.le_refl _
  kept:=fun _ _ _=>rfl
  sub:=fun a c q _=>⟨a,hsub a c q⟩
  E:=fun _ _ _ _ _=>Iff.rfl
  len:=by simp
  vl:=by simp }⟩
theorem moveArr {id b s c:Nat} {es:List (List V)} (hm:MR G w m) (hes:m.H[id]?=some (.arr es)) (hb:G.ha id=some (b,s,c)):
  ∃ G',Le G w G' w∧LeL G G' k∧MR G' w { m with H:=m.H.set id .dead ++ [.arr es] }∧Fr G m w G' { m with H:=m.H.set id .dead ++ [.arr es] } w∧G'.ha m.H.length=some (b,s,c):=by
 have hid:=(List.getElem?_eq_some_iff.1 hes).1
 have hfr:=hm.fresh m.H.length (Nat.le_refl _)
 let G':Gh:={ G with ha:=fun i=>if i=m.H.length then some (b,s,c) else G.ha i }
 have hne:∀ i,i<m.H.length→i≠m.H.length:=fun i h=>by omega
 have haN:G'.ha m.H.length=some (b,s,c):=by simp [G']
 have haO:∀ i,i≠m.H.length→G'.ha i=G.ha i:=fun i h=>by simp [G',h]
 have le:Le G w G' w:=⟨fun _ _ _ h=>h,fun _ _ _ _=>rfl,fun i q h=>by
  have:i≠m.H.length:=fun q'=>by rw [q',hfr.1] at h; cases h
  rw [haO i this]; exact h,fun i n h=>⟨n,h,Nat.le_refl _,fun _=>rfl⟩⟩
 have get:∀ i ob,(m.H.set id .dead ++ [.arr es])[i]?=some ob→ob=.dead∨(i=m.H.length∧ob=.arr es)∨(i≠m.H.length∧i≠id∧m.H[i]?=some ob):=by
  intro i ob h
  rcases Nat.lt_trichotomy i m.H.length with hl | hl | hl
  ·rw [List.getElem?_append_left (by simpa using hl)] at h
   by_cases r:i=id
   ·subst r; simp [hid] at h; exact .inl h.symm
   ·rw [List.getElem?_set,if_neg (Ne.symm r)] at h
    exact .inr (.inr ⟨by omega,r,h⟩)
  ·subst hl
   rw [List.getElem?_append_right (by simp)] at h
   simp at h
   exact .inr (.inl ⟨rfl,h.symm⟩)
  ·rw [List.getElem?_eq_none (by simp; omega)] at h; cases h
 have hown:Own G m (.h id) b:=by simp only [Own,hes]; exact ⟨s,c,hb⟩
 have hsub:∀ a d,Own G' { m with H:=m.H.set id .dead ++ [.arr es] } a d→(a=.h m.H.length∧d=b)∨(a≠.h m.H.length∧a≠.h id∧Own G m a d):=by
  intro a d q
  cases a with
  | v i=>exact .inr ⟨by simp,by simp,q⟩
  | t i=>exact .inr ⟨by simp,by simp,q⟩
  | h i=>
   simp only [Own] at q
   cases ho:(m.H.set id .dead ++ [.arr es])[i]? with
   | none=>simp only [ho] at q
   | some ob=>
    rcases get i ob ho with rfl | ⟨rfl,rfl⟩ | ⟨h1,h2,h3⟩
    ·simp only [ho] at q
    ·simp only [ho] at q
     obtain ⟨s',c',q⟩:=q
     rw [haN] at q; cases q
     exact .inl ⟨rfl,rfl⟩
    ·refine .inr ⟨by simpa using h1,by simpa using h2,?_⟩
     simp only [Own,h3]
     simp only [ho] at q
     cases ob<;>simp only at q ⊢
     ·rw [haO i h1] at q; exact q
     ·exact q
     ·rw [haO i h1] at q; exact q
 refine ⟨G',le,⟨fun _ _ _ h=>h,fun _ n _ h=>⟨n,h,Nat.le_refl _,fun _=>rfl⟩⟩,{
  T0:=hm.T0
  T1:=fun i=>by
   show G.T true i=_
   rw [hm.T1]
   rcases Nat.lt_trichotomy i m.H.length with hl | hl | hl
   ·rw [List.getElem?_append_left (by simpa using hl),List.getElem?_set]
    by_cases r:id=i
    ·subst r; rw [hes]; simp [hid]
    ·simp [r]
   ·subst hl; simp
   ·rw [List.getElem?_eq_none (by omega),List.getElem?_eq_none (by simp; omega)]
  Ef:=hm.Ef
  Elt:=hm.Elt
  vars:=fun i b q=>by
   obtain ⟨cs,h1,h2⟩:=hm.vars i b q
   exact ⟨cs,h1,h2.mono le rfl⟩
  toks:=fun i b c s q=>by
   obtain ⟨n,h1,h2⟩:=hm.toks i b c s q
   exact ⟨n,h1,h2.mono rfl (fun _ _=>Iff.rfl)⟩
  arr:=fun i es' q=>by
   rcases get i _ q with h1 | ⟨rfl,h1⟩ | ⟨h1,_,h3⟩
   ·cases h1
   ·cases h1
    obtain ⟨b',s',c',h4,h5⟩:=hm.arr id es hes
    rw [hb] at h4; cases h4
    exact ⟨_,_,_,haN,h5.mono le rfl⟩
   ·obtain ⟨b',s',c',h4,h5⟩:=hm.arr i es' h3
    exact ⟨b',s',c',by rw [haO i h1]; exact h4,h5.mono le rfl⟩
  mp:=fun i es' q=>by
   rcases get i _ q with h1 | ⟨rfl,h1⟩ | ⟨h1,_,h3⟩
   ·cases h1
   ·cases h1
   ·obtain ⟨b',h4,h5⟩:=hm.mp i es' h3
    exact ⟨b',by rw [haO i h1]; exact h4,h5⟩
  tok:=fun i n q=>by
   rcases get i _ q with h1 | ⟨rfl,h1⟩ | ⟨h1,_,h3⟩
   ·cases h1
   ·cases h1
   ·obtain ⟨b',s',c',h4,h5⟩:=hm.tok i n h3
    exact ⟨b',s',c',h4,h5.mono rfl (fun _ _=>Iff.rfl)⟩
  fresh:=fun i h=>by
   simp at h
   rw [haO i (by omega)]
   exact hm.fresh i (by omega)
  inj:=fun a d x h1 h2=>by
   rcases hsub _ _ h1 with ⟨rfl,rfl⟩ | ⟨_,n1,h3⟩
   ·rcases hsub _ _ h2 with ⟨rfl,_⟩ | ⟨_,n2,h4⟩
    ·rfl
    ·exact absurd (hm.inj _ _ _ h4 hown) n2
   ·rcases hsub _ _ h2 with ⟨rfl,rfl⟩ | ⟨_,n2,h4⟩
    ·exact absurd (hm.inj _ _ _ h3 hown) n1
    ·exact hm.inj _ _ _ h3 h4
  noV:=hm.noV
  noH:=fun i es' b' s' c' t o h h'=>by
   rcases get i _ h with h1 | ⟨rfl,h1⟩ | ⟨h1,_,h3⟩
   ·cases h1
   ·rw [haN] at h'; cases h'
    exact hm.noH id es b s c t o hes hb
   ·rw [haO i h1] at h'
    exact hm.noH i es' b' s' c' t o h3 h' },{
  os:=rfl
  tape:=rfl
  output:=rfl
  size:=Nat.le_refl _
  kept:=fun _ _ _=>rfl
  sub:=fun a d q _=>by
   rcases hsub _ _ q with ⟨rfl,rfl⟩ | ⟨_,_,h3⟩
   ·exact ⟨_,hown⟩
   ·exact ⟨_,h3⟩
  E:=fun _ _ _ _ _=>Iff.rfl
  len:=by simp
  vl:=by simp },haN⟩
theorem rows_one {s:Nat} {ns:List (List V)} {new:Array Value} (hn:RelA G w s ns.length ns new):∀ v∈new.toList,v.oneCell'=true:=by
 intro v hv
 obtain ⟨q,hq⟩:=List.getElem?_of_mem hv
 have hql:q<ns.length * s:=by rw [← hn.1]; simpa using (List.getElem?_eq_some_iff.1 hq).1
 have hs0:0<s:=by
  rcases Nat.eq_zero_or_pos s with h0 | h0
  ·subst h0; simp at hql
  ·exact h0
 have hi':q / s<ns.length:=by rw [Nat.div_lt_iff_lt_mul hs0]; exact hql
 have hl:(ns[q / s]).length=s:=hn.2.2.1 _ (List.getElem_mem _)
 have hj':=Nat.mod_lt q hs0
 obtain ⟨f1,x,f2,f3⟩:=hn.2.2.2 (q / s) (q % s) _ _ (List.getElem?_eq_getElem hi') (List.getElem?_eq_getElem (by rw [hl]; exact hj'))
 have e1:q / s * s+q % s=q:=by have:=Nat.div_add_mod q s; rw [Nat.mul_comm] at this; exact this
 rw [e1] at f2
 simp at hq
 rw [f2] at hq; cases hq
 exact f3.oneCell f1
theorem arrPut {id p b c s:Nat} {es ns:List (List V)} {new:Array Value} (hm:MR G w m) (hes:m.H[id]?=some (.arr es)) (hb:G.ha id=some (b,s,c)) (hn:RelA G w s ns.length ns new) (hp:p≤es.length) (hle:p+ns.length≤c):
  ∃ cb ty,w.heap[b]?=some (.cells cb ty (0,0))∧p * s+new.size≤cb.size∧(∀ v∈new.toList,v.oneCell'=true) ∧
   Le G w G (w.setCells b (p * s) new.toList)∧MR G (w.setCells b (p * s) new.toList) { m with H:=m.H.set id (.arr (es.take p ++ ns ++ es.drop (p+ns.length))) } ∧
   Fr G m w G { m with H:=m.H.set id (.arr (es.take p ++ ns ++ es.drop (p+ns.length))) } (w.setCells b (p * s) new.toList):=by
 obtain ⟨b',s',c',h1,h2⟩:=hm.arr id es hes
 rw [hb] at h1; cases h1
 have hlt:=h2.lt
 obtain ⟨cb,ty,g1,g2,g3,g4,g5⟩:=h2
 have hroom:p * s+new.size≤cb.size:=by
  rw [hn.1,← Nat.add_mul,g2]; exact Nat.mul_le_mul_right s hle
 refine ⟨cb,ty,g1,hroom,rows_one hn,?_⟩
 obtain ⟨cn,q1,q2,q3,q4,q5,q6,q7,q8⟩:=setCells_spec b new.toList (p * s) w cb ty (0,0) g1 (by simpa using hroom)
 generalize w.setCells b (p * s) new.toList=w' at *
 have hown:Own G m (.h id) b:=by simp only [Own,hes]; exact ⟨_,_,hb⟩
 have hnE:=fun t o=>hm.noH id es b s c t o hes hb
 have le:Le G w G w':=⟨fun _ _ _ h=>h,fun t b' o' hE=>cell?_congr (q4 b' (fun q=>by subst q; exact hnE t o' hE)),fun _ _ h=>h,fun _ n h=>⟨n,h,Nat.le_refl _,fun _=>rfl⟩⟩
 have hid:=(List.getElem?_eq_some_iff.1 hes).1
 have hlen:(es.take p ++ ns ++ es.drop (p+ns.length)).length≤c:=by simp; omega
 have hget:∀ i,(es.take p ++ ns ++ es.drop (p+ns.length))[i]?=if i<p then es[i]? else if i<p+ns.length then ns[i - p]? else es[i]?:=by
  intro i
  by_cases h1:i<p
  ·rw [if_pos h1,List.append_assoc,List.getElem?_append_left (by simp; omega),List.getElem?_take_of_lt h1]
  ·rw [if_neg h1]
   by_cases h2:i<p+ns.length
   ·rw [if_pos h2,List.append_assoc,List.getElem?_append_right (by simp; omega),List.getElem?_append_left (by simp; omega)]
    congr 1; simp; omega
   ·rw [if_neg h2,List.getElem?_append_right (by simp; omega),List.getElem?_drop]
    congr 1; simp; omega
 have arrAt:ArrAt G w' b s c (es.take p ++ ns ++ es.drop (p+ns.length)):=by
  refine ⟨cn,ty,q1,by rw [q2,g2],hlen,fun q hq=>?_,fun i j q v hq hv=>?_⟩
  ·rcases List.mem_append.1 hq with hq | hq
   ·rcases List.mem_append.1 hq with hq | hq
    ·exact g4 q (List.mem_of_mem_take hq)
    ·exact hn.2.2.1 q hq
   ·exact g4 q (List.mem_of_mem_drop hq)
  ·rw [hget] at hq
   have old:es[i]?=some q→(i<p∨p+ns.length≤i)→v.flat=true∧∃ x,cn[i * s+j]?=some x∧VR G w' 1 v x:=by
    intro hq hi
    obtain ⟨f1,x,f2,f3⟩:=g5 i j q v hq hv
    refine ⟨f1,x,?_,f3.mono1 le (Nat.le_refl _)⟩
    have hj:j<s:=by rw [← g4 q (List.mem_of_getElem? hq)]; exact (List.getElem?_eq_some_iff.1 hv).1
    rw [q3,if_neg,f2]
    have hns:new.toList.length=ns.length * s:=by simpa using hn.1
    rw [hns]
    rcases hi with hi | hi
    ·have:=Nat.mul_le_mul_right s (show i+1≤p by omega)
     rw [Nat.add_mul,Nat.one_mul] at this
     omega
    ·have:=Nat.mul_le_mul_right s hi
     rw [Nat.add_mul] at this
     omega
   split at hq
   ·rename_i h1; exact old hq (.inl h1)
   ·split at hq
    ·rename_i h1 h2
     obtain ⟨f1,x,f2,f3⟩:=hn.2.2.2 (i - p) j q v hq hv
     refine ⟨f1,x,?_,f3.mono1 le (Nat.le_refl _)⟩
     have hlt':(i - p) * s+j<new.size:=(Array.getElem?_eq_some_iff.1 f2).1
     have e1:i * s+j=p * s+((i - p) * s+j):=by
      rw [← Nat.add_assoc,← Nat.add_mul]; congr 2; omega
     rw [q3,if_pos (by rw [e1]; simp; omega),e1,Nat.add_sub_cancel_left]
     simpa using f2
    ·rename_i h1 h2; exact old hq (.inr (by omega))
 have u:Upd G w m G w' { m with H:=m.H.set id (.arr (es.take p ++ ns ++ es.drop (p+ns.length))) } (.h id) b:={
  le:=le
  hv:=fun _ _=>⟨rfl,rfl⟩
  ht:=fun _ _=>⟨rfl,rfl,rfl⟩
  hh:=fun i hi=>⟨rfl,rfl,by simp [List.getElem?_set,show ¬ id=i from fun q=>hi (by rw [q])],rfl⟩
  hl:=by simp
  hf:=fun i hi q=>by cases q; simp at hi; omega
  hvl:=⟨rfl,rfl⟩
  hE:=fun _ _ _ _=>Iff.rfl
  Ef:=fun o h=>hm.Ef b o h
  heap:=fun b' hb' _=>q4 b' hb'
  size:=Nat.le_of_eq q5.symm
  hB:=by rw [q5]; exact hlt
  new:=.inr hown
  key:=.inl ⟨_,s,c,by simp [hid],by rw [hm.T1 id,hes],hb,arrAt,hnE⟩
  os:=q6
  tape:=q7
  output:=q8 }
 exact ⟨le,u.mr hm,u.fr hm⟩
end
end Go.Vm
namespace Go.Vm
section
variable {P:Program} {h:Hint} {ds:List (Option Nat)} {G:Gh} {w:World} {m:Mem} {ρ:X→V} {e:Operand→Value} {k:Bool→Nat→Prop}
theorem app_exec {o:Oper} {cl:Call} {x y:Operand} (ho:o.op=.call cl) (hc:cl.callee=.builtin .append) (ha:cl.args.toList=[x,y]):
  (execOp e o).run P w=((Builtin.append_ cl.argTypes o.type #[e x,e y]).run P w).andThen fun v w'=>.ok (.value v) w':=by
 have h0:=args_two ha
 simp [execOp,ho,hc,resolve,invoke,builtin,h0]
structure AppT (P:Program) (ats:Array TypeId) (sz by_:Nat) (el:TypeId) (z:List V):Prop where
 ex:∃ t u d,ats[0]?=some t∧ats[1]?=some u∧P.underlying t=some (.slice el)∧P.underlying u=some d∧∀ k,d≠.int k
 hs:szOf P el=some sz
 hb:bytesT P el=some by_
 hz:zeroT P el=some z
 hzs:z.length=sz
def Grown (G:Gh) (w:World) (m:Mem) (k:Bool→Nat→Prop) (v:V) (m':Mem) (need sz:Nat) (es:List (List V)):Prop:=
 ∀ (c:Nat) (xs:Array Value) (ty:TypeId),need≤c→RelA G w sz c es xs→∃ G',Le G w G' (w.alloc (.cells xs ty))∧LeL G G' k∧MR G' (w.alloc (.cells xs ty)) m' ∧
  Fr G m w G' m' (w.alloc (.cells xs ty))∧VR G' (w.alloc (.cells xs ty)) 2 v (.slice (some ⟨w.heap.size,0,none⟩) need c)
theorem grow_res {o:Oper} {cl:Call} {x y:Operand} {el:TypeId} {z:List V} {sz by_ sLen sCap:Nat} {es ns:List (List V)} {base:Option Addr} {v:V} {m':Mem} (hm:MR G w m) (ho:o.op=.call cl)
  (hc:cl.callee=.builtin .append) (ha:cl.args.toList=[x,y]) (ht:AppT P cl.argTypes sz by_ el z) (hx:e x=.slice base sLen sCap) (hL:sLen=es.length)
  (hs1:Src P G w sz es (.slice base sLen sCap)) (hs2:Src P G w sz ns (e y)) (hg:sCap<sLen+ns.length) (hf:fits by_ (sLen+ns.length)=true)
  (hgr:∀ w1:World,w1.heap=w.heap→MR G w1 m→Grown G w1 m k v m' (sLen+ns.length) sz (es ++ ns)):Res ((execOp e o).run P w) G w m v m' k:=by
 obtain ⟨t,u,d,h0,h1,h2,h3,h4⟩:=ht.ex
 obtain ⟨_,old,o1,o2⟩:=hs1
 obtain ⟨l2,new,n1,n2⟩:=hs2
 rw [← hL] at o1
 obtain ⟨zs,z1,z2⟩:=app_grow_run (w:=w) (ty:=o.type) h0 h1 h2 h3 h4 ht.hs ht.hb ht.hz ht.hzs l2 (o1 w.drew rfl) (n1 w.drew rfl) hg hf
 have hge:sLen+ns.length≤grownCap w (sLen+ns.length) sCap el:=grownCap_ge w _ _ _
 have hr:=o2.grow n2 (c:=grownCap w (sLen+ns.length) sCap el) (zs:=zs) (by rw [z1,hL]) (by rw [← hL]; exact hge)
 have hr':RelA G w.drew sz (grownCap w (sLen+ns.length) sCap el) (es ++ ns) (old ++ new ++ zs):=by
  obtain ⟨a1,a2,a3,a4⟩:=hr
  refine ⟨a1,a2,a3,fun i j q v hq hv=>?_⟩
  obtain ⟨f1,x,f2,f3⟩:=a4 i j q v hq hv
  exact ⟨f1,x,f2,VR.heap (w:=w) (w':=w.drew) rfl f3⟩
 obtain ⟨G',q1,q2,q3,q4,q5⟩:=hgr w.drew rfl (MR.heap (w:=w) (w':=w.drew) rfl hm) _ _ el hge hr'
 refine ⟨_,_,G',.inl ?_,.trans (.heap (w':=w.drew) rfl) q1,q2,q3,q5,.trans (.heap (w':=w.drew) rfl rfl rfl rfl) q4⟩
 rw [app_exec ho hc ha,hx,z2]
 rfl
theorem in_nil {o:Oper} {cl:Call} {x y:Operand} {el:TypeId} {z:List V} {sz by_ sLen sCap:Nat} {base:Option Addr} (ho:o.op=.call cl)
  (hc:cl.callee=.builtin .append) (ha:cl.args.toList=[x,y]) (ht:AppT P cl.argTypes sz by_ el z) (hx:e x=.slice base sLen sCap) (hs2:Src P G w sz [] (e y)) (hle:sLen≤sCap):
  (execOp e o).run P w=.ok (.value (.slice base sLen sCap)) w:=by
 obtain ⟨t,u,d,h0,h1,h2,h3,h4⟩:=ht.ex
 obtain ⟨l2,new,n1,n2⟩:=hs2
 have hnew:new=#[]:=by have:=n2.1; simp at this; exact this
 subst hnew
 have:=app_in_nil (w:=w) (ty:=o.type) (base:=base) h0 h1 h2 h3 h4 ht.hs l2 (n1 w rfl) (show sLen+0≤sCap from hle)
 rw [app_exec ho hc ha,hx]
 simp at this
 rw [this]; rfl
theorem in_put {o:Oper} {cl:Call} {x y:Operand} {el:TypeId} {z:List V} {sz by_ sLen sCap b off n:Nat} {c:Array Value} {bt:TypeId} {new:Array Value} (ho:o.op=.call cl)
  (hc:cl.callee=.builtin .append) (ha:cl.args.toList=[x,y]) (ht:AppT P cl.argTypes sz by_ el z) (hx:e x=.slice (some ⟨b,off,none⟩) sLen sCap)
  (l2:∀ w':World,(Builtin.lenOf (e y)).run P w'=.ok n w') (n1:(Builtin.firstCells sz n (e y)).run P w=.ok new w)
  (hle:sLen+n≤sCap) (hbl:w.heap[b]?=some (.cells c bt (0,0))) (hro:off+sLen * sz+new.size≤c.size) (h1c:∀ v∈new.toList,v.oneCell'=true):
  (execOp e o).run P w=.ok (.value (.slice (some ⟨b,off,none⟩) (sLen+n) sCap)) (w.setCells b (off+sLen * sz) new.toList):=by
 obtain ⟨t,u,d,h0,h1,h2,h3,h4⟩:=ht.ex
 rw [app_exec ho hc ha,hx,app_in_run (w:=w) (ty:=o.type) h0 h1 h2 h3 h4 ht.hs l2 n1 hle hbl hro h1c]
 rfl
theorem x_app_osl {o:Oper} {cl:Call} {x y:Operand} {xx xy:X} {el:TypeId} {z:List V} {sz by_ j:Nat} {hh:Bool} {es ns:List (List V)} {m':Mem} (hρ:OpR h ds G w ρ e) (hm:MR G w m) (ho:o.op=.call cl)
  (hc:cl.callee=.builtin .append) (ha:cl.args.toList=[x,y]) (ht:AppT P cl.argTypes sz by_ el z) (hx:cX h ds x=some xx) (hy:cX h ds y=some xy) (hq:ρ xx=.osl hh j es)
  (hns:srcV m (ρ xy)=some ns) (hf:fits by_ (es.length+ns.length)=true) (hi':immAll (es ++ ns)=true) (hz:szAll sz (es ++ ns)=true)
  (hm':if hh then (m.H[j]?=some (.tok es.length)∧m'={ m with H:=m.H.set j (.tok (es.length+ns.length)) }) else (m.tk[j]?=some es.length∧m'={ m with tk:=m.tk.set j (es.length+ns.length) })):
  Res ((execOp e o).run P w) G w m (.osl hh j (es ++ ns)) m' k:=by
 have hX:=hρ _ _ hx
 rw [hq] at hX
 have hi:immAll ns=true:=by simp only [immAll,List.all_append,Bool.and_eq_true] at hi'; exact hi'.2
 have hze:szAll sz es=true:=by simp only [szAll,List.all_append,Bool.and_eq_true] at hz; exact hz.1
 have hzn:szAll sz ns=true:=by simp only [szAll,List.all_append,Bool.and_eq_true] at hz; exact hz.2
 have hs2:Src P G w sz ns (e y):=srcV_ok hm (hρ _ _ hy) hns hzn
 have hT:G.T hh j=some es.length:=by
  cases hh with
  | true=>simp only [if_true] at hm'; rw [hm.T1,hm'.1]
  | false=>simp only [Bool.false_eq_true,if_false] at hm'; rw [hm.T0,hm'.1]
 generalize hz':e x=zz at hX
 cases hX with
 | osl _ _ _ _ _ n hr hi0 hTn hn how=>
  rw [hT] at hTn; cases hTn
  have how:=how rfl
  by_cases hn0:ns=[]
  ·subst hn0
   have e1:m'=m:=by
    have set_self:∀ {α:Type} {l:List α} {x:α},l[j]?=some x→l.set j x=l:=fun {α l x} hl=>by
     apply List.ext_getElem?; intro i
     by_cases r:j=i
     ·subst r; rw [hl]; simp [(List.getElem?_eq_some_iff.1 hl).1]
     ·simp [r]
    cases hh<;>simp at hm'<;>obtain ⟨q1,rfl⟩:=hm'<;>rw [set_self q1]
   subst e1
   have hsl:∃ a c,zz=.slice a es.length c∧es.length≤c:=by
    rcases ils_cases hi0 with ⟨rfl,rfl⟩ | ⟨_,hi0⟩
    ·exact ⟨_,_,rfl,by simp⟩
    cases hi0 with
    | isl0=>exact ⟨_,_,rfl,by simp⟩
    | isl _ _ _ _ _ _ _ _ _ hc'=>exact ⟨_,_,rfl,hc'⟩
   obtain ⟨a,c,rfl,hc'⟩:=hsl
   rw [List.append_nil]
   exact .same hm (in_nil ho hc ha ht hz' hs2 hc') (.osl 2 hh j es _ es.length hr hi0 hT hn (fun _=>how))
  ·have hpos:0<ns.length:=List.length_pos_iff.2 hn0
   have grown:∀ (base:Option Addr) (sCap:Nat),zz=.slice base es.length sCap→sCap<es.length+ns.length→Res ((execOp e o).run P w) G w m (.osl hh j (es ++ ns)) m' k:=by
    intro base sCap hzz hlt
    subst hzz
    have hsrc:Src P G w sz es (.slice base es.length sCap):=by
     rcases ils_cases hi0 with ⟨rfl,_⟩ | ⟨_,hi0⟩
     ·exact .none _ _ _
     ·exact .isl hi0 hze
    refine grow_res hm ho hc ha ht hz' rfl hsrc hs2 hlt hf fun w1 hw1 hm1 c xs ty hcc hrel=>?_
    cases hh with
    | false=>
     simp only [Bool.false_eq_true,if_false] at hm'
     obtain ⟨q1,rfl⟩:=hm'
     have:=newTok (k:=k) (ty:=ty) hm1 (List.getElem?_eq_some_iff.1 q1).1 hrel hi' (by simp [hn0]) (.inr ⟨es.length,hT,by simp; omega⟩)
     simpa using this
    | true=>
     simp only [if_true] at hm'
     obtain ⟨q1,rfl⟩:=hm'
     have:=newTokH (k:=k) (ty:=ty) (id:=j) (H':=m.H.set j (.tok (es ++ ns).length)) hm1 hrel hi' (by simp [hn0]) (.inr ⟨es.length,q1,by simp; omega,rfl⟩)
     simpa using this
   unfold OwnS at how
   cases hob:G.ob hh j with
   | none=>
    simp only [hob] at how
    obtain ⟨rfl,rfl⟩:=how
    exact grown none 0 rfl (by simpa using hpos)
   | some q=>
    obtain ⟨b,c,s⟩:=q
    simp only [hob] at how
    obtain ⟨rfl,hrows,he0⟩:=how
    rcases Nat.lt_or_ge c (es.length+ns.length) with hlt | hle
    ·exact grown _ _ rfl hlt
    ·have hes:es≠[]:=he0
     have hi0:VR G w 0 (.isl false es) (.slice (some ⟨b,0,none⟩) es.length c):=by
      rcases ils_cases hi0 with ⟨q,_⟩ | ⟨_,hi0⟩
      ·exact absurd q hes
      ·exact hi0
     have hs:s=sz:=by
      obtain ⟨q,hq'⟩:=List.exists_mem_of_ne_nil es hes
      rw [← hrows q hq',szAll_mem hze q hq']
     subst hs
     obtain ⟨l2,new,n1,n2⟩:=hs2
     obtain ⟨cb,ty,g1,g2,g3,G',g4,g5,g6,g7,g8⟩:=tokPut (k:=k) hm hob hrows hi0 n2 hi hle he0 hm'
     exact ⟨_,_,G',.inl (in_put ho hc ha ht hz' l2 (n1 w rfl) hle g1 g2 g3),g4,g5,g6,g8,g7⟩
theorem x_app_nil {o:Oper} {cl:Call} {x y:Operand} {xx xy:X} {el:TypeId} {z:List V} {sz by_:Nat} {ns:List (List V)} {v:V} {m':Mem} (hρ:OpR h ds G w ρ e) (hm:MR G w m) (ho:o.op=.call cl)
  (hc:cl.callee=.builtin .append) (ha:cl.args.toList=[x,y]) (ht:AppT P cl.argTypes sz by_ el z) (hx:cX h ds x=some xx) (hy:cX h ds y=some xy) (hq:ρ xx=.nils∨ρ xx=.emp)
  (hns:srcV m (ρ xy)=some ns) (hz:szAll sz ns=true) (hf:ns≠[]→fits by_ ns.length=true)
  (hcase:(ns=[]∧v=ρ xx∧m'=m)∨(ns≠[]∧flatAll ns=true∧v=.rsl m.H.length 0 ns.length∧m'={ m with H:=m.H ++ [.arr ns] })∨(ns≠[]∧immAll ns=true∧v=.osl true m.H.length ns∧m'={ m with H:=m.H ++ [.tok ns.length] })
   ∨ (∃ j,immAll ns=true∧(ns=[]→ρ xx=.nils)∧j<m.tk.length∧k false j∧v=.osl false j ns∧m'={ m with tk:=m.tk.set j ns.length })
   ∨ (∃ j,ns=[]∧v=ρ xx∧j<m.tk.length∧k false j∧m'={ m with tk:=m.tk.set j 0 })):
  Res ((execOp e o).run P w) G w m v m' k:=by
 have hX:=hρ _ _ hx
 have hs2:Src P G w sz ns (e y):=srcV_ok hm (hρ _ _ hy) hns hz
 generalize hz':e x=zz at hX
 have hzz:∃ a,zz=.slice a 0 0∧(ρ xx=.nils→a=none):=by
  rcases hq with hq | hq<;>rw [hq] at hX<;>cases hX<;>first | exact ⟨_,rfl,fun _=>rfl⟩ | exact ⟨_,rfl,fun h=>by rw [hq] at h; cases h⟩
 obtain ⟨a,rfl,hnone⟩:=hzz
 by_cases hn0:ns=[]
 ·subst hn0
  have hr:=in_nil ho hc ha ht hz' hs2 (Nat.le_refl _)
  rcases hcase with ⟨_,rfl,rfl⟩ | ⟨h1,_⟩ | ⟨h1,_⟩ | ⟨j,_,hnn,hj,hk,rfl,rfl⟩ | ⟨j,_,rfl,hj,hk,rfl⟩
  ·exact .same hm hr hX
  ·exact absurd rfl h1
  ·exact absurd rfl h1
  ·obtain ⟨G',q1,q2,q3,q4,q5⟩:=newNil hm hj hk
   rw [hnone (hnn rfl)] at hr
   exact ⟨_,_,G',.inl hr,q1,q2,q3,q5,q4⟩
  ·obtain ⟨G',q1,q2,q3,q4,q5⟩:=newNil hm hj hk
   refine ⟨_,_,G',.inl hr,q1,q2,q3,?_,q4⟩
   rcases hq with hq | hq<;>rw [hq] at hX ⊢<;>cases hX
   ·exact .nils _
   ·exact .emp _ _
 ·have hpos:0<ns.length:=List.length_pos_iff.2 hn0
  refine grow_res (es:=[]) hm ho hc ha ht hz' rfl (.none _ _ _) hs2 (by simpa using hpos) (by simpa using hf hn0) fun w1 hw1 hm1 c xs ty hcc hrel=>?_
  simp only [List.nil_append,Nat.zero_add] at hrel hcc ⊢
  rcases hcase with ⟨h1,_⟩ | ⟨_,hfl,rfl,rfl⟩ | ⟨_,him,rfl,rfl⟩ | ⟨j,him,_,hj,hk,rfl,rfl⟩ | ⟨j,h1,_⟩
  ·exact absurd h1 hn0
  ·obtain ⟨G',q1,q2,q3,q4,q5⟩:=newArr (k:=k) (ty:=ty) hm1 hrel
   exact ⟨G',q1,q2,q3,q4,by simpa using VR.rsl (G:=G') (w:=w1.alloc (.cells xs ty)) 2 m.H.length 0 ns.length _ _ _ (by omega) q5 (by omega)⟩
  ·exact newTokH (k:=k) (ty:=ty) hm1 hrel him hn0 (.inl ⟨rfl,rfl⟩)
  ·exact newTok (k:=k) (ty:=ty) hm1 hj hrel him hn0 (.inl hk)
  ·exact absurd h1 hn0
theorem x_app_rsl {o:Oper} {cl:Call} {x y:Operand} {xx xy:X} {el:TypeId} {z:List V} {sz by_ id off len:Nat} {es ns:List (List V)} {v:V} {m':Mem} (hρ:OpR h ds G w ρ e) (hm:MR G w m) (ho:o.op=.call cl)
  (hc:cl.callee=.builtin .append) (ha:cl.args.toList=[x,y]) (ht:AppT P cl.argTypes sz by_ el z) (hx:cX h ds x=some xx) (hy:cX h ds y=some xy) (hq:ρ xx=.rsl id off len)
  (hns:srcV m (ρ xy)=some ns) (hes:m.H[id]?=some (.arr es)) (hf:fits by_ (len+ns.length)=true) (hz:szAll sz (es ++ ns)=true)
  (hcase:(off+len+ns.length≤es.length∧v=.rsl id off (len+ns.length)∧m'={ m with H:=m.H.set id (.arr (es.take (off+len) ++ ns ++ es.drop (off+len+ns.length))) }) ∨
   (off=0∧len=es.length∧0<len∧ns≠[]∧v=.rsl m.H.length 0 (len+ns.length)∧m'={ m with H:=m.H.set id .dead ++ [.arr (es ++ ns)] })):
  Res ((execOp e o).run P w) G w m v m' k:=by
 have hX:=hρ _ _ hx
 rw [hq] at hX
 have hze:szAll sz es=true:=by simp only [szAll,List.all_append,Bool.and_eq_true] at hz; exact hz.1
 have hzn:szAll sz ns=true:=by simp only [szAll,List.all_append,Bool.and_eq_true] at hz; exact hz.2
 have hs2:Src P G w sz ns (e y):=srcV_ok hm (hρ _ _ hy) hns hzn
 have hid:=(List.getElem?_eq_some_iff.1 hes).1
 obtain ⟨b',s',c',g1,hA⟩:=hm.arr id es hes
 have hlc:es.length≤c':=by obtain ⟨_,_,_,_,h,_⟩:=hA; exact h
 have set_self:m.H.set id (.arr es)=m.H:=by
  apply List.ext_getElem?; intro i
  by_cases r:id=i
  ·subst r; rw [hes]; simp [hid]
  ·simp [r]
 generalize hz':e x=zz at hX
 by_cases hn0:ns=[]
 ·subst hn0
  rcases hcase with ⟨h1,rfl,rfl⟩ | ⟨_,_,_,h1,_⟩
  ·have e1:m.H.set id (.arr (es.take (off+len) ++ [] ++ es.drop (off+len+([]:List (List V)).length)))=m.H:=by simpa using set_self
   rw [e1]
   cases hX with
   | rsl _ _ _ _ b s cap hr hb hle=>exact .same hm (in_nil ho hc ha ht hz' hs2 (by omega)) (.rsl 2 id off len b s cap hr hb hle)
   | rsl0 _ _ _ b s cap a hr hb hle=>exact .same hm (in_nil ho hc ha ht hz' hs2 (Nat.le_refl _)) (.rsl0 2 id off b s cap a hr hb hle)
  ·exact absurd rfl h1
 ·have hpos:0<ns.length:=List.length_pos_iff.2 hn0
  have size_eq:∀ {b s cap:Nat},G.ha id=some (b,s,cap)→es≠[]→s=sz:=by
   intro b s cap hb hne
   rw [hb] at g1; cases g1
   obtain ⟨_,_,_,_,_,h4,_⟩:=hA
   obtain ⟨q,hq'⟩:=List.exists_mem_of_ne_nil es hne
   rw [← h4 q hq',szAll_mem hze q hq']
  rcases hcase with ⟨h1,rfl,rfl⟩ | ⟨rfl,rfl,hl0,_,rfl,rfl⟩
  ·cases hX with
   | rsl _ _ _ _ b s cap hr hb hle=>
    have hbb:=hb
    obtain ⟨rfl,rfl,rfl⟩:b=b'∧s=s'∧cap=c':=by rw [hb] at g1; simpa using g1
    have hne:es≠[]:=fun h0=>by
     have h9:es.length=0:=by rw [h0]; rfl
     omega
    have:=size_eq hb hne
    subst this
    obtain ⟨l2,new,n1,n2⟩:=hs2
    obtain ⟨cb,ty,p1,p2,p3,p4,p5,p6⟩:=arrPut hm hes hb n2 (p:=off+len) (by omega) (by omega)
    have ea:off * s+len * s=(off+len) * s:=(Nat.add_mul _ _ _).symm
    have hr:=in_put ho hc ha ht hz' l2 (n1 w rfl) (by omega) p1 (by rw [ea]; exact p2) p3
    rw [ea] at hr
    exact ⟨_,_,G,.inl hr,p4,.refl _ _,p5,.rsl 2 id off (len+ns.length) b s cap (by omega) hb (by omega),p6⟩
   | rsl0 _ _ _ b s cap a hr hb hle=>
    obtain ⟨rfl,rfl,rfl⟩:b=b'∧s=s'∧cap=c':=by rw [hb] at g1; simpa using g1
    omega
  ·have hX':∃ b s cap,zz=.slice (some ⟨b,0 * s,none⟩) es.length (cap - 0)∧G.ha id=some (b,s,cap)∧es.length≤cap:=by
    generalize hel:es.length=n at hX hl0
    cases hX with
    | rsl _ _ _ _ b s cap hr hb hle=>exact ⟨b,s,cap,rfl,hb,by omega⟩
    | rsl0=>omega
   have grown:∀ (base:Option Addr) (sCap:Nat),zz=.slice base es.length sCap→sCap<es.length+ns.length→(∃ old:Array Value,RelA G w sz es.length es old∧∀ w':World,w'.heap=w.heap→(Builtin.firstCells sz es.length zz).run P w'=.ok old w') →
     Res ((execOp e o).run P w) G w m (.rsl m.H.length 0 (es.length+ns.length)) { m with H:=m.H.set id .dead ++ [.arr (es ++ ns)] } k:=by
    intro base sCap hzz hlt ⟨old,h5,h6⟩
    subst hzz
    have src:Src P G w sz es (.slice base es.length sCap):=⟨fun w'=>by simp [Builtin.lenOf],old,h6,h5⟩
    refine grow_res hm ho hc ha ht hz' rfl src hs2 hlt hf fun w1 hw1 hm1 c xs ty hcc hrel=>?_
    obtain ⟨d1,d2⟩:=deadArr hm1 hes
    obtain ⟨G',q1,q2,q3,q4,q5⟩:=newArr (k:=k) (ty:=ty) d1 hrel
    have hlen:(m.H.set id .dead).length=m.H.length:=by simp
    simp only [hlen] at q5
    exact ⟨G',q1,q2,q3,d2.trans q4,by simpa using VR.rsl (G:=G') (w:=w1.alloc (.cells xs ty)) 2 m.H.length 0 (es.length+ns.length) _ _ _ (by omega) q5 (by omega)⟩
   obtain ⟨b,s,cap,rfl,hb,hle⟩:=hX'
   ·rcases Nat.lt_or_ge cap (es.length+ns.length) with hlt | hge
    ·refine grown _ (cap - 0) rfl (by omega) ?_
     have hv:=VR.rsl (G:=G) (w:=w) 2 id 0 es.length b s cap (by omega) hb (by omega)
     obtain ⟨_,old,h5,h6⟩:=srcV_ok (P:=P) (sz:=sz) hm hv (ns:=es) (by simp [srcV,hes]) hze
     exact ⟨old,h6,h5⟩
    ·have hbb:=hb
     obtain ⟨rfl,rfl,rfl⟩:b=b'∧s=s'∧cap=c':=by rw [hb] at g1; simpa using g1
     have hne:es≠[]:=fun h0=>by subst h0; simp at hl0
     have:=size_eq hb hne
     subst this
     obtain ⟨l2,new,n1,n2⟩:=hs2
     obtain ⟨G1,t1,t2,t3,t4,t5⟩:=moveArr (k:=k) hm hes hb
     have hgetN:({ m with H:=m.H.set id .dead ++ [.arr es] }:Mem).H[m.H.length]?=some (.arr es):=by simp
     have n2':RelA G1 w s ns.length ns new:=⟨n2.1,n2.2.1,n2.2.2.1,fun i j q v hq hv=>by
      obtain ⟨f1,x,f2,f3⟩:=n2.2.2.2 i j q v hq hv
      exact ⟨f1,x,f2,f3.mono1 t1 (Nat.le_refl _)⟩⟩
     obtain ⟨cb,ty,p1,p2,p3,p4,p5,p6⟩:=arrPut t3 hgetN t5 n2' (p:=es.length) (Nat.le_refl _) hge
     have hr:=in_put ho hc ha ht hz' l2 (n1 w rfl) (by omega) p1 (by rw [Nat.zero_mul,Nat.zero_add]; exact p2) p3
     rw [Nat.zero_mul,Nat.zero_add] at hr
     have eH:(m.H.set id .dead ++ [Vm.Obj.arr es]).set m.H.length (Vm.Obj.arr (es.take es.length ++ ns ++ es.drop (es.length+ns.length)))=m.H.set id .dead ++ [Vm.Obj.arr (es ++ ns)]:=by
      rw [List.set_append_right _ _ (by simp)]
      simp
     simp only [eH] at p5 p6
     refine ⟨_,_,G1,.inl hr,t1.trans p4,t2,p5,?_,t4.trans p6⟩
     have:=VR.rsl (G:=G1) (w:=w.setCells b (es.length * s) new.toList) 2 m.H.length 0 (es.length+ns.length) b s cap (by omega) t5 (by omega)
     simpa using this
end
end Go.Vm
namespace Go.Vm
section
variable {P:Program} {h:Hint} {ds:List (Option Nat)} {G:Gh} {w:World} {m:Mem} {ρ:X→V} {e:Operand→Value} {k:Bool→Nat→Prop}
theorem x_app {o:Oper} {cl:Call} {x y:Operand} {xx xy:X} {el:TypeId} {z:List V} {kk sz by_:Nat} {v:V} {m':Mem} (hρ:OpR h ds G w ρ e) (hm:MR G w m) (ho:o.op=.call cl)
  (hc:cl.callee=.builtin .append) (ha:cl.args.toList=[x,y]) (ht:AppT P cl.argTypes sz by_ el z) (hx:cX h ds x=some xx) (hy:cX h ds y=some xy)
  (hv:appV kk sz by_ m (ρ xx) (ρ xy)=some (v,m')):Res ((execOp e o).run P w) G w m v m' k:=by
 unfold appV at hv
 cases hns:srcV m (ρ xy) with
 | none=>simp [hns] at hv
 | some ns=>
  simp only [hns] at hv
  have nil:(ρ xx=.nils∨ρ xx=.emp)→(if ns.isEmpty=true then some (ρ xx,m) else
   if (!(fits by_ ns.length && szAll sz ns))=true then none else
   match (generalizing:=false) kk with
   | 0=>if flatAll ns=true then some (V.rsl m.H.length 0 ns.length,{ m with H:=m.H ++ [.arr ns] }) else none
   | 2=>if immAll ns=true then some (V.osl true m.H.length ns,{ m with H:=m.H ++ [.tok ns.length] }) else none
   | _=>none)=some (v,m')→Res ((execOp e o).run P w) G w m v m' k:=by
   intro hq hv
   split at hv
   ·rename_i h0
    cases hv
    have:ns=[]:=by simpa using h0
    subst this
    exact x_app_nil hρ hm ho hc ha ht hx hy hq hns (by rfl) (fun h=>absurd rfl h) (.inl ⟨rfl,rfl,rfl⟩)
   ·rename_i h0
    have hne:ns≠[]:=by simpa using h0
    split at hv
    ·cases hv
    ·rename_i h1
     simp only [Bool.not_eq_true',Bool.not_eq_false,Bool.and_eq_true] at h1
     split at hv
     ·split at hv
      ·rename_i h2; cases hv
       exact x_app_nil hρ hm ho hc ha ht hx hy hq hns h1.2 (fun _=>h1.1) (.inr (.inl ⟨hne,h2,rfl,rfl⟩))
      ·cases hv
     ·split at hv
      ·rename_i h2; cases hv
       exact x_app_nil hρ hm ho hc ha ht hx hy hq hns h1.2 (fun _=>h1.1) (.inr (.inr (.inl ⟨hne,h2,rfl,rfl⟩)))
      ·cases hv
     ·cases hv
  cases hq:ρ xx with
  | osl hh j es=>
   simp only [hq] at hv
   split at hv
   ·rename_i hcond
    simp only [Bool.and_eq_true] at hcond
    cases hh with
    | true=>
     simp only [if_true] at hv
     split at hv
     ·rename_i n hn
      split at hv
      ·rename_i hne; cases hv; subst hne
       exact x_app_osl hρ hm ho hc ha ht hx hy hq hns hcond.1.1 hcond.1.2 hcond.2 ⟨hn,rfl⟩
      ·cases hv
     ·cases hv
    | false=>
     simp only [Bool.false_eq_true,if_false] at hv
     split at hv
     ·rename_i n hn
      split at hv
      ·rename_i hne; cases hv; subst hne
       exact x_app_osl hρ hm ho hc ha ht hx hy hq hns hcond.1.1 hcond.1.2 hcond.2 ⟨hn,rfl⟩
      ·cases hv
     ·cases hv
   ·cases hv
  | rsl id off len=>
   simp only [hq] at hv
   split at hv
   ·rename_i es hes
    split at hv
    ·cases hv
    ·rename_i h1
     simp only [Bool.not_eq_true',Bool.not_eq_false,Bool.and_eq_true] at h1
     split at hv
     ·rename_i h2; cases hv
      exact x_app_rsl hρ hm ho hc ha ht hx hy hq hns hes h1.1.1 h1.2 (.inl ⟨h2,rfl,rfl⟩)
     ·rename_i h2
      split at hv
      ·rename_i h3; cases hv
       refine x_app_rsl hρ hm ho hc ha ht hx hy hq hns hes h1.1.1 h1.2 (.inr ⟨h3.1,h3.2.1,h3.2.2,?_,rfl,rfl⟩)
       rintro rfl
       simp at h2; omega
      ·cases hv
   ·cases hv
  | nils=>simp only [hq] at hv; exact nil (.inl hq) (by rw [hq]; exact hv)
  | emp=>simp only [hq] at hv; exact nil (.inr hq) (by rw [hq]; exact hv)
  | _=>simp [hq] at hv
theorem x_appR {o:Oper} {cl:Call} {x y:Operand} {xx xy:X} {el:TypeId} {z:List V} {j sz by_:Nat} {v:V} {m':Mem} (hρ:OpR h ds G w ρ e) (hm:MR G w m) (ho:o.op=.call cl)
  (hc:cl.callee=.builtin .append) (ha:cl.args.toList=[x,y]) (ht:AppT P cl.argTypes sz by_ el z) (hx:cX h ds x=some xx) (hy:cX h ds y=some xy)
  (hv:appRV j sz by_ m (ρ xx) (ρ xy)=some (v,m')) (hk:k false j):Res ((execOp e o).run P w) G w m v m' k:=by
 unfold appRV at hv
 have main:∀ ns,(ρ xx=.nils∨ρ xx=.emp)→(ns=[]→ρ xx=.nils)→srcV m (ρ xy)=some ns→(if (fits by_ ns.length && szAll sz ns && immAll ns && decide (j<m.tk.length))=true then
   some (V.osl false j ns,{ m with tk:=m.tk.set j ns.length }) else none)=some (v,m')→Res ((execOp e o).run P w) G w m v m' k:=by
  intro ns hq hnn hns hv
  split at hv
  ·rename_i hcond
   simp only [Bool.and_eq_true,decide_eq_true_eq] at hcond
   cases hv
   exact x_app_nil hρ hm ho hc ha ht hx hy hq hns hcond.1.1.2 (fun _=>hcond.1.1.1) (.inr (.inr (.inr (.inl ⟨j,hcond.1.2,hnn,hcond.2,hk,rfl,rfl⟩))))
  ·cases hv
 split at hv
 ·rename_i hq hns
  split at hv
  ·rename_i hj
   cases hv
   exact x_app_nil hρ hm ho hc ha ht hx hy (.inr hq) hns (by rfl) (fun h=>absurd rfl h) (.inr (.inr (.inr (.inr ⟨j,rfl,hq.symm,hj,hk,rfl⟩))))
  ·cases hv
 ·rename_i ns hq hns; exact main ns (.inl hq) (fun _=>hq) hns hv
 ·rename_i ns hne hq hns; exact main ns (.inr hq) (fun h=>absurd h hne) hns hv
 ·cases hv
/-! ### pieces of arrays -/
theorem chunk_length (sz:Nat):∀ (n:Nat) (l:List V),(chunk sz n l).length=n
 | 0,_=>rfl
 | n+1,l=>by simp [chunk,chunk_length sz n]
theorem chunk_get (sz:Nat):∀ (n:Nat) (l:List V) (i:Nat),i<n→(chunk sz n l)[i]?=some ((l.drop (i * sz)).take sz)
 | 0,_,_,h=>by omega
 | n+1,l,0,_=>by simp [chunk]
 | n+1,l,i+1,h=>by
  simp only [chunk,List.getElem?_cons_succ]
  rw [chunk_get sz n (l.drop sz) i (by omega),List.drop_drop]
  congr 3; rw [Nat.add_mul]; omega
theorem ip_piece {t:Bool} {cs:List V} {off b o:Nat} {r n sz l hh:Nat} {x:Nat→Value} (hf:∀ v∈cs,v.flat=true)
  (hx:∀ j,j<cs.length→G.E t b (o+j)∧w.cell? ⟨b,o+j,none⟩=some (x j)) (hv:∀ j v,cs[j]?=some v→VR G w 0 v (x j))
  (hle:off+n * sz≤cs.length) (hl:l<hh) (hh':hh≤n):VR G w r (.isl t (chunk sz (hh - l) (cs.drop (off+l * sz)))) (.slice (some ⟨b,o+off+l * sz,none⟩) (hh - l) (n - l)):=by
 have hlen:(chunk sz (hh - l) (cs.drop (off+l * sz))).length=hh - l:=chunk_length _ _ _
 have room:∀ i,i<hh - l→off+l * sz+i * sz+sz≤cs.length:=by
  intro i hi
  have h1:=Nat.mul_le_mul_right sz (show l+i+1≤n by omega)
  rw [Nat.add_mul,Nat.add_mul,Nat.one_mul] at h1
  omega
 have hrow:∀ i q,(chunk sz (hh - l) (cs.drop (off+l * sz)))[i]?=some q→i<hh - l∧q.length=sz∧∀ j,j<sz→q[j]?=cs[off+l * sz+i * sz+j]?:=by
  intro i q hq
  have hi:i<hh - l:=by rw [← hlen]; exact (List.getElem?_eq_some_iff.1 hq).1
  rw [chunk_get sz _ _ i hi] at hq
  cases hq
  have:=room i hi
  refine ⟨hi,by simp; omega,fun j hj=>?_⟩
  rw [List.getElem?_take_of_lt hj,List.getElem?_drop,List.getElem?_drop]
  congr 1; omega
 have:=VR.isl (G:=G) (w:=w) r t (chunk sz (hh - l) (cs.drop (off+l * sz))) b (o+off+l * sz) sz (n - l) (fun i j=>x (off+l * sz+i * sz+j)) (by intro h0; rw [h0] at hlen; simp at hlen; omega) (by rw [hlen]; omega)
  (fun q hq=>by obtain ⟨i,hi⟩:=List.getElem?_of_mem hq; exact (hrow i q hi).2.1)
  (fun q hq v hv'=>by
   obtain ⟨i,hi⟩:=List.getElem?_of_mem hq
   obtain ⟨j,hj⟩:=List.getElem?_of_mem hv'
   obtain ⟨h1,h2,h3⟩:=hrow i q hi
   have hjs:j<sz:=by rw [← h2]; exact (List.getElem?_eq_some_iff.1 hj).1
   rw [h3 j hjs] at hj
   exact hf v (List.mem_of_getElem? hj))
  (fun i j hi hj=>by
   rw [hlen] at hi
   have:=hx (off+l * sz+i * sz+j) (by have:=room i hi; omega)
   have e1:o+off+l * sz+i * sz+j=o+(off+l * sz+i * sz+j):=by omega
   rw [e1]; exact this)
  (fun i j q v hq hv'=>by
   obtain ⟨h1,h2,h3⟩:=hrow i q hq
   have hjs:j<sz:=by rw [← h2]; exact (List.getElem?_eq_some_iff.1 hv').1
   rw [h3 j hjs] at hv'
   exact hv _ v hv')
 rwa [hlen] at this
theorem x_slcA {o:Oper} {t el:TypeId} {n sz:Nat} {x:Operand} {lo hi mx:Option Operand} {xx:X} {xlo xhi xmx:Option X} {v:V} (hρ:OpR h ds G w ρ e) (hm:MR G w m)
  (ho:o.op=.slice t x lo hi mx) (hu:P.underlying t=some (.array n el)) (hn:szOf P el=some sz) (hx:cX h ds x=some xx) (h1:cXo h ds lo=some xlo) (h2:cXo h ds hi=some xhi)
  (h3:cXo h ds mx=some xmx) (hv:slcAV n sz (ρ xx) (xlo.map ρ) (xhi.map ρ) (xmx.map ρ)=some v):Res ((execOp e o).run P w) G w m v m k:=by
 have r1:=cXo_ok hρ h1
 have r2:=cXo_ok hρ h2
 have r3:=cXo_ok hρ h3
 have hX:=hρ _ _ hx
 cases xmx with
 | some xm=>simp [slcAV] at hv
 | none=>
  cases mx with
  | some _=>exact r3.elim
  | none=>
   simp only [Option.map_none,slcAV] at hv
   split at hv
   ·cases hv
   ·rename_i l hh hb
    obtain ⟨b1,b2,b3⟩:=bnd_run (P:=P) (isSl:=false) r1 r2 (Nat.le_refl _) (Nat.le_refl _) hb w
    generalize hq:ρ xx=q at hX hv
    generalize hz:e x=z at hX
    have fin:∀ b o',z=.pointer (some ⟨b,o',none⟩)→VR G w 2 v (.slice (some (if n=l then ⟨b,o',none⟩ else ⟨b,o'+l * sz,none⟩)) (hh - l) (n - l))→Res ((execOp e o).run P w) G w m v m k:=by
     intro b o' hz' hr
     refine .same hm ?_ hr
     simp [execOp,ho,hz,hz',Instr.sliceAt,Instr.sureAddr,run_underlying hu,b1,szOf_run hn,add_plain]
    cases q with
    | ip tt cs off=>
     simp only at hv
     split at hv
     ·rename_i hle
      cases hv
      cases hX with
      | ip _ _ _ _ b o' x hf hx' hv'=>
       refine fin _ _ rfl ?_
       rcases Nat.lt_or_ge l hh with hl | hl
       ·rw [if_neg (by omega)]
        exact ip_piece hf hx' hv' hle hl b3
       ·have e0:hh - l=0:=by omega
        rw [e0]
        exact .isl0 _ _ _ _
     ·cases hv
    | ptr id idx off=>
     simp only [Option.some.injEq] at hv; subst hv
     cases hX with
     | ptr _ _ _ _ b s cap hr hb'=>
      refine fin _ _ rfl ?_
      by_cases hnl:n=l
      ·rw [if_pos hnl]
       have e0:hh - l=0:=by omega
       rw [e0]
       exact .asl0 2 id idx _ sz b s cap _ _ hr hb'
      ·rw [if_neg hnl,Nat.add_assoc]
       exact .asl 2 id idx _ (hh - l) sz b s cap (n - l) hr hb' (by omega)
    | lp j off=>
     simp only [Option.some.injEq] at hv; subst hv
     cases hX with
     | lp _ _ _ b hr hb'=>
      refine fin _ _ rfl ?_
      by_cases hnl:n=l
      ·rw [if_pos hnl]
       have e0:hh - l=0:=by omega
       rw [e0]
       exact .lsl0 2 j _ sz b _ _ hr hb'
      ·rw [if_neg hnl]
       exact .lsl 2 j _ (hh - l) sz b (n - l) hr hb' (by omega)
    | _=>simp at hv
/-! ### functions as values, interfaces -/
theorem omap_ok {f:V→Option V}:∀ {vs ws:List V},omap f vs=some ws→ws.length=vs.length∧∀ (i:Nat) (v:V),vs[i]?=some v→∃ u,f v=some u∧ws[i]?=some u
 | [],ws,h=>by simp [omap] at h; subst h; simp
 | v :: vs,ws,h=>by
  simp only [omap] at h
  split at h
  ·cases h
  ·rename_i u hu
   split at h
   ·cases h
   ·rename_i us hus
    cases h
    obtain ⟨h1,h2⟩:=omap_ok hus
    refine ⟨by simp [h1],fun i v' hi=>?_⟩
    cases i with
    | zero=>simp at hi; subst hi; exact ⟨u,hu,by simp⟩
    | succ i=>simpa using h2 i v' (by simpa using hi)
theorem x_mkfn {o:Oper} {f:Nat} {fs cs:Array Operand} {xs ys:List X} {as bs:List V} (hρ:OpR h ds G w ρ e) (hm:MR G w m) (ho:o.op=.makeFunc (.func f) fs cs)
  (hx:cXs h ds fs.toList=some xs) (hy:cXs h ds cs.toList=some ys) (ha:omap V.exp (xs.map ρ)=some as) (hb:omap V.exp (ys.map ρ)=some bs):
  Res ((execOp e o).run P w) G w m (.fn f as bs) m k:=by
 have key:∀ {fs:Array Operand} {xs:List X} {as:List V},cXs h ds fs.toList=some xs→omap V.exp (xs.map ρ)=some as →
   (fs.map e).size=as.length∧∀ j v,as[j]?=some v→VR G w 1 v ((fs.map e).getD j undef):=by
  intro fs xs as hx ha
  obtain ⟨h1,h2⟩:=OpR.list hρ hx
  obtain ⟨h3,h4⟩:=omap_ok ha
  refine ⟨by simp [h3,h1],fun j v hj=>?_⟩
  have hjl:j<xs.length:=by have:=(List.getElem?_eq_some_iff.1 hj).1; rw [h3] at this; simpa using this
  obtain ⟨y,hy⟩:∃ y,fs.toList[j]?=some y:=⟨_,List.getElem?_eq_getElem (by rw [← h1]; exact hjl)⟩
  obtain ⟨x,hx',hv⟩:=h2 j y hy
  obtain ⟨u,hu1,hu2⟩:=h4 j (ρ x) (by simp [hx'])
  rw [hj] at hu2; cases hu2
  have hy':fs[j]?=some y:=by simpa using hy
  have e1:(fs.map e).getD j undef=e y:=by simp [Array.getD_eq_getD_getElem?,hy']
  rw [e1]
  exact (exp_ok hu1 hv).1
 obtain ⟨a1,a2⟩:=key hx ha
 obtain ⟨b1,b2⟩:=key hy hb
 exact .same hm (by simp [execOp,ho,Instr.makeFunc]) (.fn 2 f as bs _ _ a1 b1 a2 b2)
theorem x_mkif {o:Oper} {t:TypeId} {d:TypeDesc} {x:Operand} {xx:X} {v:V} (hρ:OpR h ds G w ρ e) (hm:MR G w m) (ho:o.op=.makeInterface t x) (hu:P.underlying t=some d) (hd:∀ ms,d≠.interface ms)
  (hx:cX h ds x=some xx) (hv:(ρ xx).exp=some v):Res ((execOp e o).run P w) G w m (.iface t v) m k:=by
 have hc:P.concrete t=true:=by
  unfold Program.concrete
  rw [hu]
  cases d<;>first | rfl | exact absurd rfl (hd _)
 exact .same hm (by simp [execOp,ho,run_makeInterface w t (e x) hc]) (.iface 2 t v _ (exp_ok hv (hρ _ _ hx)).1)
/-! ### least and greatest -/
theorem fold_run {f:V→V→Option V} {g:Value→Value→Sem Value} (hfg:∀ u v x y r,VR G w 2 u x→VR G w 2 v y→f u v=some r→∃ z,VR G w 2 r z∧(g x y).run P w=.ok z w):
  ∀ {vs:List V} {ys:List Value} {v r:V} {y:Value},vs.length=ys.length→(∀ (i:Nat) (u:V) (z:Value),vs[i]?=some u→ys[i]?=some z→VR G w 2 u z)→VR G w 2 v y→foldV f v vs=some r →
   ∃ z,VR G w 2 r z∧(ys.foldlM g y).run P w=.ok z w
 | [],[],v,r,y,_,_,hv,hr=>by simp [foldV] at hr; subst hr; exact ⟨y,hv,by simp⟩
 | u :: vs,z :: ys,v,r,y,hl,hp,hv,hr=>by
  simp only [foldV] at hr
  split at hr
  ·rename_i x hx
   obtain ⟨q,hq1,hq2⟩:=hfg v u y z x hv (hp 0 u z rfl rfl) hx
   obtain ⟨t,ht1,ht2⟩:=fold_run hfg (by simpa using hl) (fun i a b ha hb=>hp (i+1) a b (by simpa using ha) (by simpa using hb)) hq1 hr
   exact ⟨t,ht1,by simp [List.foldlM_cons,hq2,ht2]⟩
  ·cases hr
 | [],_ :: _,_,_,_,h,_,_,_=>by simp at h
 | _ :: _,[],_,_,_,h,_,_,_=>by simp at h
theorem args_pics (hρ:OpR h ds G w ρ e) {ys:List Operand} {xs:List X} (hx:cXs h ds ys=some xs):(xs.map ρ).length=(ys.map e).length∧∀ (i:Nat) (u:V) (z:Value),(xs.map ρ)[i]?=some u→(ys.map e)[i]?=some z→VR G w 2 u z:=by
 obtain ⟨h1,h2⟩:=OpR.list hρ hx
 refine ⟨by simp [h1],fun i u z hu hz=>?_⟩
 simp only [List.getElem?_map,Option.map_eq_some_iff] at hu hz
 obtain ⟨x,hx1,rfl⟩:=hu
 obtain ⟨y,hy1,rfl⟩:=hz
 obtain ⟨x',hx2,hv⟩:=h2 i y hy1
 rw [hx1] at hx2; cases hx2
 exact hv
theorem x_max {o:Oper} {cl:Call} {xs:List X} {v r:V} {vs:List V} (hρ:OpR h ds G w ρ e) (hm:MR G w m) (ho:o.op=.call cl)
  (hc:cl.callee=.builtin .max) (hx:cXs h ds cl.args.toList=some xs) (hvs:xs.map ρ=v :: vs) (hr:foldV maxV v vs=some r):Res ((execOp e o).run P w) G w m r m k:=by
 obtain ⟨h1,h2⟩:=args_pics hρ hx
 rw [hvs] at h1 h2
 cases hy:cl.args.toList.map e with
 | nil=>rw [hy] at h1; simp at h1
 | cons y ys=>
  rw [hy] at h1 h2
  obtain ⟨z,hz1,hz2⟩:=fold_run (P:=P) (g:=Builtin.max2) (f:=maxV) (fun u v x y r hu hv hr=>by
   cases u<;>cases v<;>simp only [maxV,reduceCtorEq,Option.some.injEq] at hr
   subst hr
   rw [hu.int_inv,hv.int_inv]
   exact ⟨_,.int _ _ _,by simp [Builtin.max2]⟩) (by simpa using h1) (fun i a b ha hb=>h2 (i+1) a b (by simpa using ha) (by simpa using hb)) (h2 0 v y rfl rfl) hr
  refine .same hm ?_ hz1
  have e1:(cl.args.map e).toList=y :: ys:=by simpa using hy
  simp [execOp,ho,hc,resolve,invoke,builtin,Builtin.max_,hy,hz2]
theorem x_min {o:Oper} {cl:Call} {xs:List X} {v r:V} {vs:List V} (hρ:OpR h ds G w ρ e) (hm:MR G w m) (ho:o.op=.call cl)
  (hc:cl.callee=.builtin .min) (hx:cXs h ds cl.args.toList=some xs) (hvs:xs.map ρ=v :: vs) (hr:foldV minV v vs=some r):Res ((execOp e o).run P w) G w m r m k:=by
 obtain ⟨h1,h2⟩:=args_pics hρ hx
 rw [hvs] at h1 h2
 cases hy:cl.args.toList.map e with
 | nil=>rw [hy] at h1; simp at h1
 | cons y ys=>
  rw [hy] at h1 h2
  obtain ⟨z,hz1,hz2⟩:=fold_run (P:=P) (g:=Builtin.min2) (f:=minV) (fun u v x y r hu hv hr=>by
   cases u<;>cases v<;>simp only [minV,reduceCtorEq,Option.some.injEq] at hr
   subst hr
   rw [hu.int_inv,hv.int_inv]
   exact ⟨_,.int _ _ _,by simp [Builtin.min2]⟩) (by simpa using h1) (fun i a b ha hb=>h2 (i+1) a b (by simpa using ha) (by simpa using hb)) (h2 0 v y rfl rfl) hr
  refine .same hm ?_ hz1
  have e1:(cl.args.map e).toList=y :: ys:=by simpa using hy
  simp [execOp,ho,hc,resolve,invoke,builtin,Builtin.min_,hy,hz2]
/-! ### a made slice that nobody writes -/
theorem x_mksv {o:Oper} {t el:TypeId} {sz bytes:Nat} {l c:Operand} {xl xc:X} {z:List V} {kl kc:IntKind} {nl nc:Int} (hρ:OpR h ds G w ρ e) (hm:MR G w m)
  (ho:o.op=.makeSlice t l c) (hu:P.underlying t=some (.slice el)) (hn:szOf P el=some sz) (hby:bytesT P el=some bytes) (hz:zeroT P el=some z) (h0:sz≠0) (hzl:z.length=sz)
  (hl:cX h ds l=some xl) (hc:cX h ds c=some xc) (e1:ρ xl=.int kl nl) (e2:ρ xc=.int kc nc)
  (hb:0≤nl∧nl=nc∧nc≤9223372036854775807∧nc.toNat * bytes≤maxB∧z.all V.imm=true):
  Res ((execOp e o).run P w) G w m (.isl false (List.replicate nl.toNat z)) m k:=by
 obtain ⟨v,h1,h2⟩:=zeroT_rel hz G w
 have i1:=hρ _ _ hl
 have i2:=hρ _ _ hc
 rw [e1] at i1; rw [e2] at i2
 have j1:=i1.int_inv
 have j2:=i2.int_inv
 obtain ⟨b1,rfl,b3,b4,b5⟩:=hb
 have hrows:=zeroRows h2 nl.toNat nl.toNat (Nat.le_refl _)
 have hwl:IntKind.i64.wrap nl=nl:=wrap_in (by omega) (by omega)
 have hb':bytes * nl≤2 ^ 48:=by
  have h48:(2:Int) ^ 48=281474976710656:=by decide
  have hq:nl.toNat * bytes≤140737488355328:=b4
  have:((nl.toNat * bytes:Nat):Int)≤140737488355328:=by omega
  rw [Int.natCast_mul,Int.toNat_of_nonneg (by omega)] at this
  rw [h48,Int.mul_comm]; omega
 obtain ⟨i,hi,hib⟩:∃ i,P.info? el=some i∧i.bytes=bytes:=by
  simp only [bytesT,Option.map_eq_some_iff] at hby
  obtain ⟨i,h1,h2⟩:=hby
  exact ⟨i,h1,h2⟩
 have him:immAll (List.replicate nl.toNat z)=true:=by
  simp only [immAll,List.all_eq_true]
  intro q hq
  rw [List.eq_of_mem_replicate hq]; simpa using b5
 obtain ⟨G',q1,q2,q3,q4,q5,_⟩:=newIsl (k:=k) (ty:=el) hm (es:=List.replicate nl.toNat z) (s:=z.length) (xs:=(Array.range (nl.toNat * z.length)).map (v.cells[· % v.cells.size]!)) (by simpa using hrows)
 refine ⟨.slice (some ⟨w.heap.size,0,none⟩) nl.toNat nl.toNat,_,G',.inl ?_,q1,q2,q3,by simpa using q5 him 2,q4⟩
 have h48:(2:Int) ^ 48=281474976710656:=by decide
 have n1:¬ ((281474976710656:Int)<(bytes:Int) * nl):=by rw [h48] at hb'; omega
 have n2:¬ (nl<0):=by omega
 by_cases hz0:nl.toNat * sz=0
 ·have hc0:nl.toNat=0:=by
   rcases Nat.mul_eq_zero.1 hz0 with q | q
   ·exact q
   ·exact absurd q h0
  have f1:nl=0:=by omega
  have e3:∀ (f:Nat→Value),(Array.range 0).map f=#[]:=fun f=>by apply Array.ext'; simp
  have e4:(0:Nat) * z.length=0:=Nat.zero_mul _
  subst f1
  simp only [Int.toNat_zero,e4,e3]
  simp [execOp,ho,Instr.makeSlice,run_underlying hu,j1,j2,asInt,asIntOf,typeInfo,hi,hwl,hib,szOf_run hn,newRow,e3]
 ·simp [execOp,ho,Instr.makeSlice,run_underlying hu,j1,j2,asInt,asIntOf,typeInfo,hi,hwl,hib,szOf_run hn,n1,n2,hz0,h1,newRow,hzl]
/-! ### clearing -/
theorem x_clr {o:Oper} {cl:Call} {y:Operand} {xx:X} {t el:TypeId} {z:List V} {v:V} {m':Mem} {call:Md→Nat→List V→List Obj→Option (V × List Obj)} (hρ:OpR h ds G w ρ e) (hm:MR G w m) (ho:o.op=.call cl)
  (hc:cl.callee=.builtin .clear) (ha:cl.args.toList=[y]) (ht:cl.argTypes[0]?=some t) (hu:P.underlying t=some (.slice el)) (hz:zeroT P el=some z)
  (hx:cX h ds y=some xx) (hv:evO call ρ m (.clr z xx)=some (v,m')):Res ((execOp e o).run P w) G w m v m' k:=by
 have h0:=args_one ha
 have hX:=hρ _ _ hx
 simp only [evO] at hv
 generalize hq:ρ xx=q at hX hv
 generalize hy:e y=zz at hX
 have pic:∀ G w,VR G w 2 (.tup []) (.tuple #[]):=fun G w=>.tup 2 [] #[] rfl (by simp)
 have none_:∀ a c,zz=.slice a 0 c→(execOp e o).run P w=.ok (.value (.tuple #[])) w:=by
  intro a c hzz
  cases a<;>simp [execOp,ho,hc,resolve,invoke,builtin,Builtin.clear_,h0,ht,hy,hzz,run_underlying hu]
 have nil:(q=.nils∨q=.emp)→Res ((execOp e o).run P w) G w m (.tup []) m k:=by
  intro hqq
  refine .same hm ?_ (pic _ _)
  rcases hqq with rfl | rfl<;>cases hX<;>exact none_ _ _ rfl
 cases q with
 | rsl id off len=>
  simp only at hv
  split at hv
  ·rename_i es hes
   split at hv
   ·rename_i hcond
    cases hv
    have hid:=(List.getElem?_eq_some_iff.1 hes).1
    have set_self:m.H.set id (.arr es)=m.H:=by
     apply List.ext_getElem?; intro i
     by_cases r:id=i
     ·subst r; rw [hes]; simp [hid]
     ·simp [r]
    by_cases hl:len=0
    ·subst hl
     have e1:m.H.set id (.arr (es.take off ++ List.replicate 0 z ++ es.drop (off+0)))=m.H:=by simpa using set_self
     rw [e1]
     refine .same hm ?_ (pic _ _)
     cases hX<;>exact none_ _ _ rfl
    ·cases hX with
     | rsl _ _ _ _ b s cap hr hb hle=>
      obtain ⟨b',s',c',g1,hA⟩:=hm.arr id es hes
      obtain ⟨rfl,rfl,rfl⟩:b=b'∧s=s'∧cap=c':=by rw [hb] at g1; simpa using g1
      have hs:s=z.length:=by
       rw [hcond.2]
       obtain ⟨_,_,_,_,_,h4,_⟩:=hA
       cases es with
       | nil=>simp at hcond; omega
       | cons e1 es=>simp; exact (h4 e1 (by simp)).symm
      subst hs
      obtain ⟨zv,z1,z2⟩:=zeroT_rel hz G w
      have hrows:=zeroRows z2 len len (Nat.le_refl _)
      have hlen:(List.replicate len z).length=len:=by simp
      obtain ⟨cb,ty,p1,p2,p3,p4,p5,p6⟩:=arrPut (ns:=List.replicate len z) hm hes hb (by rw [hlen]; exact hrows) (p:=off) (by omega) (by rw [hlen]; omega)
      rw [hlen] at p5 p6
      refine ⟨_,_,G,.inl ?_,p4,.refl _ _,p5,pic _ _,p6⟩
      obtain ⟨len',rfl⟩:∃ l,len=l+1:=⟨len - 1,by omega⟩
      have ezc:Builtin.zeroCells zv.cells (len'+1)=(Array.range ((len'+1) * z.length)).map (zv.cells[· % zv.cells.size]!):=by
       have:zv.cells.size=z.length:=z2.1
       simp only [Builtin.zeroCells,this]
      have hst:=run_storeCells_cells (P:=P) b (off * z.length) (Builtin.zeroCells zv.cells (len'+1)).toList 0 w (fun j hj=>by
       rw [ezc] at hj
       rw [cell?_at p1]; simp at hj p2 ⊢; omega) (fun j hj=>frozen_at p1) (by rw [ezc]; exact p3)
      rw [ezc] at hst
      simp only [Array.toList_map,Array.toList_range,Nat.add_zero] at hst
      simp [execOp,ho,hc,resolve,invoke,builtin,Builtin.clear_,h0,ht,hy,run_underlying hu,z1,hst,ezc]
     | rsl0=>exact absurd rfl hl
   ·cases hv
  ·cases hv
 | nils=>cases hv; exact nil (.inl rfl)
 | emp=>cases hv; exact nil (.inr rfl)
 | _=>simp at hv
end
end Go.Vm
