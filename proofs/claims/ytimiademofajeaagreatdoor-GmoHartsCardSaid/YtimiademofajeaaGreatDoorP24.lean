/- Lemmas (no claim): K23w, K23x. -/
import Derived.Test.YtimiademofajeaaGreatDoorP23
import Derived.Test.YtimiademofajeaaGreatDoorP11
set_option linter.unusedSimpArgs false
set_option linter.unusedVariables false
set_option maxRecDepth 20000
namespace Go.Proofs.YtimiademofajeaaGreatDoor
open Go Go.Vm
theorem Cn.lk {v x0:V} {lv:Nat→V} {x4:V} {R:Nat→List Rt} {img:List Nat} {cv:List V} {co:List (List Int)} (c:Cn v x0 lv x4 R img cv co) (h:(∀ h,h<3→(R h).length≤60)∧img.length≤200∧cv.length≤300∧∀ l∈co,l.length≤100):
  Lk x0 lv x4 (ils (evR (evs R))) R img cv co:=by
 obtain ⟨h1,h2,h3,h4⟩:=h
 refine ⟨c.im,⟨c.ib.1,by omega⟩,fun h hh=>⟨(c.li h hh).1,(c.li h hh).2.1,?_⟩,c.co4,c.cs,by omega,fun l hl=>?_,.ils _⟩
 ·have:=h1 h hh; omega
 ·have:=h4 l hl; omega
def rls (R:Nat→List Rt):Nat→Nat→Bool:=pr (evs R) (anyR R (fA R) (fD R) (fC R) (evs R) 13)
section
variable {x0:V} {lv:Nat→V} {x4:V} {R:Nat→List Rt} {img:List Nat} {cv:List V} {co:List (List Int)} (w:Lk x0 lv x4 (ils (evR (evs R))) R img cv co) (h60:∀ h,h<3→(R h).length≤60)
include w h60
omit w in
theorem len512:(evs R).length≤512:=by
 have:=evs_len R
 have:=h60 0 (by omega)
 have:=h60 1 (by omega)
 have:=h60 2 (by omega)
 omega
theorem all_at:(∃ rv W,evI pg .val n_ppo_All [.agg [x0,lv 0,lv 1,lv 2,x4]] []=some (.ip false [rv] 0,[])∧clean 7 rv=true∧RelV rv (evs R).length W∧∀ i j,i<(evs R).length→j<(evs R).length→(W i).testBit j=rls R i j) ∧
  ∀ H:List Vm.Obj,∃ H' v T I U,evI pg .heap n_ppo_All [.agg [x0,lv 0,lv 1,lv 2,x4]] H=some (.ptr H.length 0 0,H')∧RelAt H' H.length v (evs R).length T I U∧(∀ i j,i<(evs R).length→j<(evs R).length→(U i).testBit j=rls R i j)∧(∀ q,q<H.length→H'[q]?=H[q]?)∧∀ q,mft (evs R).length T I q→H.length<q:=by
 have i0:=w.im.is
 have i4:=w.co4.is
 have j0:=(w.li 0 (by omega)).1.is
 have j1:=(w.li 1 (by omega)).1.is
 have j2:=(w.li 2 (by omega)).1.is
 have hc:Cd lv R:=⟨fun h hh=>⟨(w.li h hh).1,(w.li h hh).2.2,(w.li h hh).2.1.ok⟩⟩
 obtain ⟨av,dv,cv',hl,vw⟩:=view_ok hc i0 i4 (by have:=h60 0 (by omega); have:=h60 1 (by omega); have:=h60 2 (by omega); omega)
 exact ⟨All_ok2 vw (evs_sorted R) hl ⟨i0,j0,j1,j2,i4⟩,fun H=>All_heap vw (evs_sorted R) hl ⟨i0,j0,j1,j2,i4⟩ H⟩
theorem search_facts (h0 : chk R img cv.length co = 0) : Wf R co ∧ ∃ W2 ov, evI pg .val n_gmo_Search [.agg [x0, lv 0, lv 1, lv 2, x4]] [] = some (.tup [ov, .int .i64 ((srch (gmOf (evs R) co) W2 : Nat) : Int)], []) ∧
      (∀ c d, c < (evs R).length → d < (evs R).length → ((W2 c).testBit d = true ↔ rls R c d = true ∨ (gmOf (evs R) co).edg c d)) ∧ isS ov = true ∧ clean 7 ov = true ∧
      (srch (gmOf (evs R) co) W2 = 0 → ∃ o, kah (bitW W2) (evs R).length (evs R).length (fun _ => false) [] = some o ∧ Sl ov (iI o)) := by
  have wf := chk_wf (evs_bd fun h hh => (w.li h hh).2.1) w.cs.1 h0
  obtain ⟨W2, ov, s1, s2, s3, s4, s5, _⟩ := Search_ok w h0 wf (len512 h60) (all_at w h60).2
  exact ⟨wf, W2, ov, s1, s2, s3, s4, s5⟩
end
structure Sim (g g':Gm) (σ:Nat→Nat):Prop where
 n:g'.n=g.n
 bz:g'.bz=g.bz
 lt:∀ i,i<g.n→σ i<g.n
 inj:∀ i j,i<g.n→j<g.n→σ i=σ j→i=j
 sur:∀ j,j<g.n→∃ i,i<g.n∧σ i=j
 C:∀ x,x<g.bz→g'.C x=(g.C x).map σ
 st:∀ i x,i<g.n→g'.st (σ i) x=g.st i x
 ah:∀ i j,i<g.n→j<g.n→g'.ah (σ i) (σ j)=g.ah i j
 hart:∀ i j,i<g.n→j<g.n→(g'.hart (σ i)=g'.hart (σ j)↔g.hart i=g.hart j)
 ld:∀ i,i<g.n→g'.ld (σ i)=g.ld i
 sz:∀ i,i<g.n→g'.sz (σ i)=g.sz i
 ad:∀ i,i<g.n→g'.ad (σ i)=g.ad i
 tgt:∀ i,i<g.n→∀ k,g'.tgt (σ i) k=(g.tgt i k).map σ∨g.ld i=false∨g.sz i≤k
 pr:∀ i,i<g.n→g'.pr (σ i)=(g.pr i).map σ
theorem cpl_map {σ:Nat→Nat} {s:Nat}:∀ {l:List Nat},(∀ a∈l,σ a=σ s→a=s)→cpl (l.map σ) (σ s)=cpl l s
 | [],_=>rfl
 | a :: l,h=>by
  have ih:=cpl_map (s:=s) (l:=l) fun b hb=>h b (by simp [hb])
  rw [List.map_cons]
  unfold cpl
  rw [ih]
  by_cases c:a=s
  ·rw [if_pos c,if_pos (by rw [c])]
  ·rw [if_neg c,if_neg (fun e=>c (h a (by simp) e))]
section
variable {g g':Gm} {σ:Nat→Nat} (h:g.Ok) (m:Sim g g' σ)
include h m
theorem Sim.cop {x s:Nat} (hx:x<g.bz) (hs:s<g.n):g'.cop x (σ s)=g.cop x s:=by
 unfold Gm.cop
 rw [m.C x hx,cpl_map fun a ha e=>m.inj a s ((h.mem x hx a).1 ha).1 hs e]
omit h in
theorem Sim.tg {i k:Nat} (hi:i<g.n) (hl:g.ld i=true) (hk:k<g.sz i):g'.tgt (σ i) k=(g.tgt i k).map σ:=by
 rcases m.tgt i hi k with q | q | q
 ·exact q
 ·rw [hl] at q; cases q
 ·omega
theorem Sim.frm {i k:Nat} (hi:i<g.n) (hl:g.ld i=true) (hk:k<g.sz i):g'.frm (σ i) k=g.frm i k:=by
 have hx:=h.inb i hi k hk
 unfold Gm.frm
 rw [m.tg hi hl hk,m.ad i hi]
 cases t:g.tgt i k with
 | none=>rfl
 | some w=>
  have hw:=h.tg i hi hl k hk w t
  simp only [Option.map_some]
  rw [m.C _ hx,cpl_map fun a ha e=>m.inj a w ((h.mem _ hx a).1 ha).1 hw.1 e]
theorem Sim.stl {i k:Nat} (hi:i<g.n) (hl:g.ld i=true) (hk:k<g.sz i):g'.stl (σ i) k=g.stl i k:=by
 have hx:=h.inb i hi k hk
 unfold Gm.stl
 rw [m.frm h hi hl hk,m.ad i hi,m.C _ hx,← List.map_drop,List.any_map]
 have key:∀ l:List Nat,(∀ s∈l,s<g.n)→l.any ((fun s=>g'.ah s (σ i)) ∘ σ)=l.any fun s=>g.ah s i:=by
  intro l
  induction l with
  | nil=>intro _; rfl
  | cons a l ih=>
   intro hl2
   rw [List.any_cons,List.any_cons,ih fun s hs=>hl2 s (by simp [hs])]
   show (g'.ah (σ a) (σ i) || _)=_
   rw [m.ah a i (hl2 a (by simp)) hi]
 exact key _ fun s hs=>((h.mem _ hx s).1 (List.mem_of_mem_drop hs)).1
omit h in
theorem Sim.all {f f':Nat→Bool} (hf:∀ s,s<g.n→f' (σ s)=f s):(List.range g'.n).all f'=(List.range g.n).all f:=by
 rw [m.n,Bool.eq_iff_iff,List.all_eq_true,List.all_eq_true]
 constructor
 ·intro q s hs
  have hs:=List.mem_range.1 hs
  rw [← hf s hs]
  exact q _ (List.mem_range.2 (m.lt s hs))
 ·intro q s hs
  obtain ⟨i,hi,rfl⟩:=m.sur s (List.mem_range.1 hs)
  rw [hf i hi]
  exact q i (List.mem_range.2 hi)
omit h in
theorem Sim.any {f f':Nat→Bool} (hf:∀ s,s<g.n→f' (σ s)=f s):(List.range' 0 g'.n).any f'=(List.range' 0 g.n).any f:=by
 have key:(List.range' 0 g'.n).any f'=false↔(List.range' 0 g.n).any f=false:=by
  rw [any_r0,any_r0,m.n]
  constructor
  ·intro q s hs
   rw [← hf s hs]
   exact q _ (m.lt s hs)
  ·intro q s hs
   obtain ⟨i,hi,rfl⟩:=m.sur s hs
   rw [hf i hi]
   exact q i hi
 cases a:(List.range' 0 g'.n).any f'<;>cases b:(List.range' 0 g.n).any f<;>rw [a,b] at key<;>simp at key ⊢
theorem Sim.atm {i k:Nat} (hi:i<g.n) (hk:k<g.sz i):g'.atm g'.cop (σ i) k=g.atm g.cop i k:=by
 unfold Gm.atm
 rw [m.pr i hi]
 cases q:g.pr i with
 | none=>rfl
 | some r=>
  obtain ⟨hr,hl,had,hsz,hst⟩:=h.pr i hi r q
  have hx:=h.inb i hi k hk
  simp only [Option.map_some]
  rw [m.tg hr hl (by omega),m.ad i hi,m.cop h hx hi]
  have fin:∀ fr:Int,(List.range g'.n).all (fun s=>!(g'.st s (g.ad i+k) && (!decide (g'.hart s=g'.hart (σ i)) && (decide (fr<g'.cop (g.ad i+k) s) && decide (g'.cop (g.ad i+k) s<g.cop (g.ad i+k) i)))))=(List.range g.n).all fun s=>!(g.st s (g.ad i+k) && (!decide (g.hart s=g.hart i) && (decide (fr<g.cop (g.ad i+k) s) && decide (g.cop (g.ad i+k) s<g.cop (g.ad i+k) i)))):=fun fr=>by
   refine m.all fun s hs=>?_
   rw [m.st s _ hs,m.cop h hx hs]
   have:decide (g'.hart (σ s)=g'.hart (σ i))=decide (g.hart s=g.hart i):=by rw [decide_eq_decide]; exact m.hart s i hs hi
   rw [this]
  cases t:g.tgt r k with
  | none=>
   simp only [Option.map_none]
   rw [fin]
  | some w=>
   have hw:=h.tg r hr hl k (by omega) w t
   simp only [Option.map_some]
   rw [fin]
   simp only [m.cop h hx hw.1]
theorem Sim.mayc:mayc g'=mayc g:=by
 unfold Go.Proofs.YtimiademofajeaaGreatDoor.mayc
 have e1:(List.range' 0 g'.n).any (stlE g')=(List.range' 0 g.n).any (stlE g):=m.any fun s hs=>by
  unfold stlE
  rw [m.sz s hs,m.ld s hs]
  cases hl:g.ld s with
  | false=>simp
  | true=>
   have:∀ k,k<g.sz s→(true && g'.stl (σ s) k)=(true && g.stl s k):=fun k hk=>by rw [m.stl h hs hl hk]
   have key:(List.range' 0 (g.sz s)).any (fun k=>true && g'.stl (σ s) k)=false↔(List.range' 0 (g.sz s)).any (fun k=>true && g.stl s k)=false:=by
    rw [any_r0,any_r0]
    exact ⟨fun q k hk=>by rw [← this k hk]; exact q k hk,fun q k hk=>by rw [this k hk]; exact q k hk⟩
   cases a:(List.range' 0 (g.sz s)).any (fun k=>true && g'.stl (σ s) k)<;>cases b:(List.range' 0 (g.sz s)).any (fun k=>true && g.stl s k)<;>rw [a,b] at key<;>simp at key ⊢
 have e2:(List.range' 0 g'.n).any (atmE g' g'.cop)=(List.range' 0 g.n).any (atmE g g.cop):=m.any fun s hs=>by
  unfold atmE
  rw [m.sz s hs]
  have key:(List.range' 0 (g.sz s)).any (fun k=>!g'.atm g'.cop (σ s) k)=false↔(List.range' 0 (g.sz s)).any (fun k=>!g.atm g.cop s k)=false:=by
   rw [any_r0,any_r0]
   exact ⟨fun q k hk=>by rw [← m.atm h hs hk]; exact q k hk,fun q k hk=>by rw [m.atm h hs hk]; exact q k hk⟩
  cases a:(List.range' 0 (g.sz s)).any (fun k=>!g'.atm g'.cop (σ s) k)<;>cases b:(List.range' 0 (g.sz s)).any (fun k=>!g.atm g.cop s k)<;>rw [a,b] at key<;>simp at key ⊢
 rw [e1,e2]
theorem Sim.edg {a b:Nat} (ha:a<g.n) (hb:b<g.n):g'.edg (σ a) (σ b)↔g.edg a b:=by
 unfold Gm.edg
 constructor
 ·rintro (⟨x,hx,k,h1,h2⟩ | ⟨i,k,hi,hl,hk,hq⟩)
  ·rw [m.bz] at hx
   rw [m.C x hx,List.getElem?_map] at h1 h2
   obtain ⟨a',ha',e1⟩:=Option.map_eq_some_iff.1 h1
   obtain ⟨b',hb',e2⟩:=Option.map_eq_some_iff.1 h2
   have f1:=m.inj a' a ((h.mem x hx a').1 (List.mem_of_getElem? ha')).1 ha e1
   have f2:=m.inj b' b ((h.mem x hx b').1 (List.mem_of_getElem? hb')).1 hb e2
   exact .inl ⟨x,hx,k,by rw [← f1]; exact ha',by rw [← f2]; exact hb'⟩
  ·rw [m.n] at hi
   obtain ⟨j,hj,rfl⟩:=m.sur i hi
   rw [m.ld j hj] at hl
   rw [m.sz j hj] at hk
   have hx:=h.inb j hj k hk
   rw [m.tg hj hl hk,m.ad j hj,m.frm h hj hl hk,m.C _ hx,← List.map_drop] at hq
   refine .inr ⟨j,k,hj,hl,hk,?_⟩
   rcases hq with ⟨q1,q2,q3⟩ | ⟨q1,q2,q3⟩
   ·obtain ⟨w,hw,e1⟩:=Option.map_eq_some_iff.1 q1
    have f1:=m.inj w a (h.tg j hj hl k hk w hw).1 ha e1
    have f2:=m.inj b j hb hj q3
    refine .inl ⟨by rw [← f1]; exact hw,?_,f2⟩
    rw [m.ah a j ha hj] at q2
    exact q2
   ·have f1:=m.inj a j ha hj q1
    obtain ⟨b',hb',e2⟩:=List.mem_map.1 q3
    have f2:=m.inj b' b ((h.mem _ hx b').1 (List.mem_of_mem_drop hb')).1 hb e2
    exact .inr ⟨f1,fun e=>q2 (by rw [e]),by rw [← f2]; exact hb'⟩
 ·rintro (⟨x,hx,k,h1,h2⟩ | ⟨i,k,hi,hl,hk,hq⟩)
  ·refine .inl ⟨x,by rw [m.bz]; exact hx,k,?_,?_⟩
   ·rw [m.C x hx,List.getElem?_map,h1]; rfl
   ·rw [m.C x hx,List.getElem?_map,h2]; rfl
  ·have hx:=h.inb i hi k hk
   refine .inr ⟨σ i,k,by rw [m.n]; exact m.lt i hi,by rw [m.ld i hi]; exact hl,by rw [m.sz i hi]; exact hk,?_⟩
   rw [m.tg hi hl hk,m.ad i hi,m.frm h hi hl hk,m.C _ hx,← List.map_drop]
   rcases hq with ⟨q1,q2,q3⟩ | ⟨q1,q2,q3⟩
   ·refine .inl ⟨by rw [q1]; rfl,?_,by rw [q3]⟩
    rw [m.ah a i ha hi]; exact q2
   ·exact .inr ⟨by rw [q1],fun e=>q2 (m.inj b i hb hi e),List.mem_map_of_mem q3⟩
omit h in
theorem Sim.kah {W W':Nat→Nat} (hW:∀ a b,a<g.n→b<g.n→((W' (σ a)).testBit (σ b)=true↔(W a).testBit b=true)):(kah (bitW W') g.n g.n (fun _=>false) []).isSome=(kah (bitW W) g.n g.n (fun _=>false) []).isSome:=by
 have some_ac:∀ W:Nat→Nat,(Go.Proofs.YtimiademofajeaaGreatDoor.kah (bitW W) g.n g.n (fun _=>false) []).isSome=true↔∀ a,a<g.n→war (bitW W) g.n a a=false:=by
  intro W
  constructor
  ·intro q a ha
   obtain ⟨o,ho⟩:=Option.isSome_iff_exists.1 q
   have hol:=kah_len _ _ _ _ _ _ ho
   rw [List.length_nil,Nat.zero_add] at hol
   exact fit_acyc g.n W o (kah_fitP ho hol) a ha
  ·intro q
   obtain ⟨o,ho⟩:=acyc_kah (bitW W) g.n q g.n (fun _=>false) [] (by simp) List.nodup_nil (fun x=>by simp) (fun x hx=>by cases hx)
   rw [List.map_nil] at ho
   rw [ho]; rfl
 rw [Bool.eq_iff_iff,some_ac,some_ac]
 constructor
 ·intro q a ha
  cases hw:war (bitW W) g.n a a with
  | false=>rfl
  | true=>
   have:=war_least (bitW W) g.n (fun x y=>x<g.n→y<g.n→war (bitW W') g.n (σ x) (σ y)=true) (fun x y hx hy hR _ _=>war_sub (bitW W') _ _ ((hW x y hx hy).2 hR) g.n) (fun x z y hx hz hy h1 h2 _ _=>war_trans _ g.n (σ z) (σ x) (σ y) (m.lt z hz) (h1 hx hz) (h2 hz hy)) g.n (Nat.le_refl _) a a ha ha hw ha ha
   rw [q _ (m.lt a ha)] at this
   cases this
 ·intro q a' ha'
  cases hw:war (bitW W') g.n a' a' with
  | false=>rfl
  | true=>
   have:=war_least (bitW W') g.n (fun x' y'=>∀ x y,x<g.n→y<g.n→σ x=x'→σ y=y'→war (bitW W) g.n x y=true) (fun x' y' _ _ hR x y hx hy e1 e2=>war_sub (bitW W) _ _ ((hW x y hx hy).1 (by rw [e1,e2]; exact hR)) g.n) (fun x' z' y' _ hz _ h1 h2 x y hx hy e1 e2=>by
    obtain ⟨z,hz,e3⟩:=m.sur z' hz
    exact war_trans _ g.n z x y hz (h1 x z hx hz e1 e3) (h2 z y hz hy e3 e2)) g.n (Nat.le_refl _) a' a' ha' ha' hw
   obtain ⟨a,ha,e⟩:=m.sur a' ha'
   have:=this a a ha ha e e
   rw [q a ha] at this
   cases this
theorem Sim.srch {P P':Nat→Nat→Bool} (hP:∀ a b,a<g.n→b<g.n→P' (σ a) (σ b)=P a b) {W W':Nat→Nat} (h1:∀ c d,c<g.n→d<g.n→((W c).testBit d=true↔P c d=true∨g.edg c d)) (h2:∀ c d,c<g.n→d<g.n→((W' c).testBit d=true↔P' c d=true∨g'.edg c d)):srch g' W'=srch g W:=by
 have hk:=m.kah (W:=W) (W':=W') fun a b ha hb=>by
  rw [h1 a b ha hb,h2 _ _ (m.lt a ha) (m.lt b hb),hP a b ha hb,m.edg h ha hb]
 unfold Go.Proofs.YtimiademofajeaaGreatDoor.srch
 rw [m.mayc h,m.n]
 cases a:Go.Proofs.YtimiademofajeaaGreatDoor.kah (bitW W') g.n g.n (fun _=>false) []<;>cases b:Go.Proofs.YtimiademofajeaaGreatDoor.kah (bitW W) g.n g.n (fun _=>false) []<;>rw [a,b] at hk<;>simp at hk ⊢
end
end Go.Proofs.YtimiademofajeaaGreatDoor
