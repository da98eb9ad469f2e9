/- Lemmas (no claim): K19v, K23p. -/
import Derived.Test.YtimiademofajeaaGreatDoorP18
set_option linter.unusedSimpArgs false
set_option linter.unusedVariables false
set_option maxRecDepth 20000
namespace Go.Proofs.YtimiademofajeaaGreatDoor
open Go Go.Vm
theorem fitP_iff (n:Nat) (W:Nat→Nat) (l:List Int):fitP n W l=true↔l.length=n∧rfit (bitW W) n (fun _=>false) [] l=true:=by
 rw [fit_same,Bool.and_eq_true,decide_eq_true_eq]
theorem fit_acyc (n:Nat) (W:Nat→Nat) (l:List Int) (h:fitP n W l=true) (a:Nat) (ha:a<n):war (bitW W) n a a=false:=by
 unfold fitP at h
 rw [Bool.and_eq_true] at h
 obtain ⟨h1,h2⟩:=h
 cases hf:fitA n (fun _=>0) 0 l with
 | none=>rw [hf] at h2; cases h2
 | some p=>
  rw [hf] at h2
  simp only [List.all_eq_true,decide_eq_true_eq] at h2
  cases hw:war (bitW W) n a a with
  | false=>rfl
  | true=>
   have:=war_least (bitW W) n (fun x y=>p x<p y) (fun x y hx hy hR=>by
    have:=h2 _ (mem_prs hx hy hR)
    simpa using this) (fun x z y _ _ _ h1 h2=>by omega) n (Nat.le_refl _) a a ha ha hw
   omega
theorem kah_fit (R:Nat→Nat→Bool) (n:Nat):∀ (k:Nat) (gone:Nat→Bool) (out o:List Int),kah R n k gone out=some o→(∀ b∈out,∀ x,x<n→R x b.toNat=true→gone x=true)→∃ rest,o=out ++ rest∧rfit R n gone out rest=true
 | 0,gone,out,o,h,_=>⟨[],by simp only [kah,Option.some.injEq] at h; simp [h],rfl⟩
 | k+1,gone,out,o,h,hi=>by
  unfold kah at h
  split at h
  ·cases h
  ·rename_i a hf
   have ha:a<n:=List.mem_range.1 (List.mem_of_find?_eq_some hf)
   have hm:=List.find?_some hf
   unfold may at hm
   rw [Bool.and_eq_true] at hm
   obtain ⟨hg,hall⟩:=hm
   have hg':gone a=false:=by simpa using hg
   have hpre:∀ x,x<n→R x a=true→gone x=true:=fun x hx hR=>by
    have:=List.all_eq_true.1 hall x (List.mem_range.2 hx)
    rw [hR] at this
    simpa using this
   obtain ⟨rest,h1,h2⟩:=kah_fit R n k _ _ o h (fun b hb x hx hR=>by
    rcases List.mem_append.1 hb with hb | hb
    ·simp [hi b hb x hx hR]
    ·have:b=(a:Int):=by simpa using hb
     subst this
     simp [hpre x hx (by simpa using hR)])
   refine ⟨(a:Int) :: rest,by rw [h1]; simp,?_⟩
   unfold rfit
   rw [if_pos ⟨by omega,by omega,by simpa using hg'⟩,if_pos]
   ·exact h2
   ·rw [List.all_eq_true]
    intro b hb
    cases hR:R (a:Int).toNat b.toNat with
    | false=>rfl
    | true=>
     rw [Int.toNat_natCast] at hR
     have hgo:gone a=true:=by
      rcases List.mem_append.1 hb with hb | hb
      ·exact hi b hb a ha hR
      ·have:b=(a:Int):=by simpa using hb
       subst this
       exact hpre a ha (by simpa using hR)
     rw [hg'] at hgo; cases hgo
theorem acyc_kah (R:Nat→Nat→Bool) (n:Nat) (hac:∀ a,a<n→war R n a a=false):∀ (k:Nat) (gone:Nat→Bool) (out:List Nat),out.length+k=n→out.Nodup→(∀ x,gone x=true↔x∈out)→(∀ x∈out,x<n)→∃ o,kah R n k gone (out.map fun x:Nat=>(x:Int))=some o
 | 0,gone,out,_,_,_,_=>⟨_,rfl⟩
 | k+1,gone,out,hl,hd,hg,hlt=>by
  unfold kah
  cases hf:(List.range n).find? (may R n gone) with
  | some a=>
   have ha:a<n:=List.mem_range.1 (List.mem_of_find?_eq_some hf)
   have hm:=List.find?_some hf
   unfold may at hm
   rw [Bool.and_eq_true] at hm
   have hg':gone a=false:=by simpa using hm.1
   have hna:a ∉ out:=fun h=>by rw [(hg a).2 h] at hg'; cases hg'
   obtain ⟨o,ho⟩:=acyc_kah R n hac k (fun x=>gone x || decide (x=a)) (out ++ [a]) (by simp; omega) (by
    rw [List.nodup_append]
    refine ⟨hd,by simp,fun x hx y hy e=>?_⟩
    have:y=a:=by simpa using hy
    subst this; subst e; exact hna hx) (fun x=>by simp [hg x]) (fun x hx=>by
    rcases List.mem_append.1 hx with hx | hx
    ·exact hlt x hx
    ·have:x=a:=by simpa using hx
     omega)
   rw [List.map_append] at ho
   exact ⟨o,ho⟩
  | none=>
   exfalso
   have hpred:∀ a,a<n→gone a=false→∃ b,b<n∧gone b=false∧R b a=true:=by
    intro a ha hga
    have:=List.find?_eq_none.1 hf a (List.mem_range.2 ha)
    unfold may at this
    rw [hga] at this
    simp only [Bool.not_false,Bool.true_and,Bool.not_eq_true,List.all_eq_false] at this
    obtain ⟨b,hb,hq⟩:=this
    refine ⟨b,List.mem_range.1 hb,?_⟩
    cases h1:gone b<;>cases h2:R b a<;>simp_all
   have desc:∀ (m a:Nat),a<n→gone a=false→(List.range n).countP (fun b=>war R n b a)≤m→False:=by
    intro m
    induction m with
    | zero=>
     intro a ha hga hm
     obtain ⟨b,hb,_,hR⟩:=hpred a ha hga
     have:=List.countP_eq_zero.1 (Nat.le_zero.1 hm) b (List.mem_range.2 hb)
     exact this (war_sub R b a hR n)
    | succ m ih=>
     intro a ha hga hm
     obtain ⟨b,hb,hgb,hR⟩:=hpred a ha hga
     refine ih b hb hgb ?_
     have hba:=war_sub R b a hR n
     have key:∀ l:List Nat,(l.countP (fun x=>war R n x b)+if b∈l then 1 else 0)≤l.countP (fun x=>war R n x a):=by
      intro l
      induction l with
      | nil=>simp
      | cons x l ihl=>
       rw [List.countP_cons,List.countP_cons]
       have h1:war R n x b=true→war R n x a=true:=fun h=>war_trans R n b x a hb h hba
       by_cases e:b=x
       ·subst e
        rw [hac b hb,hba]
        simp only [List.mem_cons,true_or,if_true,Bool.false_eq_true,if_false]
        split at ihl<;>omega
       ·have:(b∈x :: l)↔(b∈l):=by simp [e]
        simp only [this]
        generalize (if b∈l then (1:Nat) else 0)=z at *
        cases h2:war R n x b with
        | true=>rw [h1 h2]; simp only [if_true]; omega
        | false=>simp only [Bool.false_eq_true,if_false]; split<;>omega
     have:=key (List.range n)
     rw [if_pos (List.mem_range.2 hb)] at this
     omega
   have hex:∃ a,a<n∧gone a=false:=by
    apply Classical.byContradiction
    intro hn
    have hall:∀ a,a<n→a∈out:=fun a ha=>by
     apply Classical.byContradiction
     intro h
     apply hn
     refine ⟨a,ha,?_⟩
     cases hq:gone a with
     | false=>rfl
     | true=>exact absurd ((hg a).1 hq) h
    have h1:(List.range n).length≤out.length:=List.Nodup.length_le_of_subset List.nodup_range (fun a ha=>hall a (List.mem_range.1 ha))
    simp only [List.length_range] at h1
    omega
   obtain ⟨a,ha,hga⟩:=hex
   exact desc _ a ha hga (Nat.le_refl _)
end Go.Proofs.YtimiademofajeaaGreatDoor
namespace Go.Proofs.YtimiademofajeaaGreatDoor
def gbst (c:Nat→Bool) (p:Nat→Int):Nat→Option Nat
 | 0=>none
 | k+1=>if c k then (match gbst c p k with
   | none=>some k
   | some m=>if p m<p k then some k else some m) else gbst c p k
theorem gbst_none {c:Nat→Bool} {p:Nat→Int}:∀ {n:Nat},gbst c p n=none↔∀ s,s<n→c s=false
 | 0=>⟨fun _ s h=>by omega,fun _=>rfl⟩
 | k+1=>by
  have ih:=gbst_none (c:=c) (p:=p) (n:=k)
  unfold gbst
  cases q:c k with
  | true=>
   rw [if_pos rfl]
   constructor
   ·intro h
    split at h
    ·cases h
    ·split at h<;>cases h
   ·intro h
    have:=h k (by omega)
    rw [q] at this
    cases this
  | false=>
   rw [if_neg (by simp),ih]
   constructor
   ·intro h s hs
    rcases Nat.lt_succ_iff_lt_or_eq.1 hs with hs | rfl
    ·exact h s hs
    ·exact q
   ·intro h s hs
    exact h s (by omega)
theorem gbst_some {c:Nat→Bool} {p:Nat→Int}:∀ {n b:Nat},gbst c p n=some b→b<n∧c b=true∧∀ s,s<n→c s=true→p s≤p b
 | 0,b,h=>by cases h
 | k+1,b,h=>by
  unfold gbst at h
  cases q:c k with
  | true=>
   rw [q,if_pos rfl] at h
   cases r:gbst c p k with
   | none=>
    rw [r] at h
    have hn:=gbst_none.1 r
    cases h
    refine ⟨by omega,q,fun s hs hc=>?_⟩
    rcases Nat.lt_succ_iff_lt_or_eq.1 hs with hs | rfl
    ·rw [hn s hs] at hc; cases hc
    ·exact Int.le_refl _
   | some m=>
    rw [r] at h
    obtain ⟨h1,h2,h3⟩:=gbst_some r
    simp only at h
    by_cases d:p m<p k
    ·rw [if_pos d] at h
     cases h
     refine ⟨by omega,q,fun s hs hc=>?_⟩
     rcases Nat.lt_succ_iff_lt_or_eq.1 hs with hs | rfl
     ·have:=h3 s hs hc
      omega
     ·exact Int.le_refl _
    ·rw [if_neg d] at h
     cases h
     refine ⟨by omega,h2,fun s hs hc=>?_⟩
     rcases Nat.lt_succ_iff_lt_or_eq.1 hs with hs | rfl
     ·exact h3 s hs hc
     ·omega
  | false=>
   rw [q,if_neg (by simp)] at h
   obtain ⟨h1,h2,h3⟩:=gbst_some h
   refine ⟨by omega,h2,fun s hs hc=>?_⟩
   rcases Nat.lt_succ_iff_lt_or_eq.1 hs with hs | rfl
   ·exact h3 s hs hc
   ·rw [q] at hc; cases hc
theorem gbst_iff {c:Nat→Bool} {p:Nat→Int} {n w:Nat} (hi:∀ a b,a<n→b<n→p a=p b→a=b):gbst c p n=some w↔w<n∧c w=true∧∀ s,s<n→c s=true→p s≤p w:=by
 constructor
 ·exact gbst_some
 ·rintro ⟨h1,h2,h3⟩
  cases q:gbst c p n with
  | none=>
   have:=gbst_none.1 q w h1
   rw [h2] at this
   cases this
  | some b=>
   obtain ⟨g1,g2,g3⟩:=gbst_some q
   have:=hi b w g1 h1 (by have:=h3 b g1 g2; have:=g3 w h1 h2; omega)
   rw [this]
def cpl:List Nat→Nat→Nat
 | [],_=>0
 | a :: l,s=>if a=s then 1 else match cpl l s with
  | 0=>0
  | k+1=>k+2
theorem cpl_pos {s:Nat}:∀ {l:List Nat},0<cpl l s↔s∈l
 | []=>by simp [cpl]
 | a :: l=>by
  have ih:=cpl_pos (s:=s) (l:=l)
  unfold cpl
  by_cases c:a=s
  ·simp [c]
  ·rw [if_neg c]
   have hc:¬ s=a:=fun e=>c e.symm
   simp only [List.mem_cons,hc,false_or]
   rw [← ih]
   split
   ·rename_i h; rw [h]
   ·rename_i k h; rw [h]; omega
theorem cpl_get {s:Nat}:∀ {l:List Nat} {k:Nat},cpl l s=k+1→l[k]?=some s
 | [],k,h=>by simp [cpl] at h
 | a :: l,k,h=>by
  unfold cpl at h
  by_cases c:a=s
  ·rw [if_pos c] at h
   obtain rfl:k=0:=by omega
   simp [c]
  ·rw [if_neg c] at h
   split at h
   ·omega
   ·rename_i j hj
    obtain rfl:k=j+1:=by omega
    rw [List.getElem?_cons_succ]
    exact cpl_get hj
theorem get_cpl {s:Nat}:∀ {l:List Nat} {k:Nat},l.Nodup→l[k]?=some s→cpl l s=k+1
 | [],k,_,h=>by simp at h
 | a :: l,0,hn,h=>by
  simp only [List.getElem?_cons_zero,Option.some.injEq] at h
  unfold cpl
  rw [if_pos h]
 | a :: l,k+1,hn,h=>by
  rw [List.getElem?_cons_succ] at h
  have hn:=List.nodup_cons.1 hn
  have ih:=get_cpl hn.2 h
  unfold cpl
  have hne:¬ a=s:=fun e=>hn.1 (by rw [e]; exact List.mem_of_getElem? h)
  rw [if_neg hne,ih]
theorem mem_drop {s n:Nat} {l:List Nat} (hn:l.Nodup):s∈l.drop n↔n<cpl l s:=by
 constructor
 ·intro h
  obtain ⟨k,hk⟩:=List.getElem?_of_mem h
  rw [List.getElem?_drop] at hk
  rw [get_cpl hn hk]
  omega
 ·intro h
  obtain ⟨k,hk⟩:∃ k,cpl l s=k+1:=⟨cpl l s - 1,by omega⟩
  have:=cpl_get hk
  refine List.mem_of_getElem? (i:=k - n) ?_
  rw [List.getElem?_drop,show n+(k - n)=k by omega]
  exact this
structure Gm where
 n:Nat
 bz:Nat
 C:Nat→List Nat
 st:Nat→Nat→Bool
 ah:Nat→Nat→Bool
 hart:Nat→Nat
 ld:Nat→Bool
 sz:Nat→Nat
 ad:Nat→Nat
 tgt:Nat→Nat→Option Nat
 pr:Nat→Option Nat
structure Gm.Ok (g:Gm):Prop where
 nd:∀ x,x<g.bz→(g.C x).Nodup
 mem:∀ x,x<g.bz→∀ s,s∈g.C x↔s<g.n∧g.st s x=true
 irr:∀ i,i<g.n→g.ah i i=false
 inb:∀ i,i<g.n→∀ k,k<g.sz i→g.ad i+k<g.bz
 tg:∀ i,i<g.n→g.ld i=true→∀ k,k<g.sz i→∀ w,g.tgt i k=some w→w<g.n∧g.st w (g.ad i+k)=true
 pr:∀ i,i<g.n→∀ r,g.pr i=some r→r<g.n∧g.ld r=true∧g.ad r=g.ad i∧g.sz r=g.sz i∧∀ k,k<g.sz i→g.st i (g.ad i+k)=true
def Gm.frm (g:Gm) (i k:Nat):Nat:=match g.tgt i k with
 | none=>0
 | some w=>cpl (g.C (g.ad i+k)) w
def Gm.cand (g:Gm) (p:Nat→Int) (i x s:Nat):Bool:=!decide (s=i) && (g.st s x && (decide (p s≤p i) || g.ah s i))
def Gm.lat (g:Gm) (p:Nat→Int) (i k:Nat):Bool:=match g.tgt i k with
 | none=>decide (gbst (g.cand p i (g.ad i+k)) p g.n=none)
 | some w=>decide (gbst (g.cand p i (g.ad i+k)) p g.n=some w)
def Gm.atm (g:Gm) (pl:Nat→Nat→Int) (i k:Nat):Bool:=match g.pr i with
 | none=>true
 | some r=>
  let from_:Int:=match g.tgt r k with
   | none=>0
   | some w=>pl (g.ad i+k) w
  !decide (pl (g.ad i+k) i<from_) && (List.range g.n).all fun s=>!(g.st s (g.ad i+k) && (!decide (g.hart s=g.hart i) && (decide (from_<pl (g.ad i+k) s) && decide (pl (g.ad i+k) s<pl (g.ad i+k) i))))
def Gm.stl (g:Gm) (i k:Nat):Bool:=((g.C (g.ad i+k)).drop (g.frm i k)).any fun s=>g.ah s i
def Gm.cop (g:Gm) (x s:Nat):Int:=(cpl (g.C x) s:Nat)
def Gm.edg (g:Gm) (a b:Nat):Prop:=
 (∃ x,x<g.bz∧∃ k,(g.C x)[k]?=some a∧(g.C x)[k+1]?=some b) ∨
 ∃ i k,i<g.n∧g.ld i=true∧k<g.sz i∧((g.tgt i k=some a∧g.ah a i=false∧b=i)∨(a=i∧b≠i∧b∈(g.C (g.ad i+k)).drop (g.frm i k)))
def Gm.ordd (g:Gm) (p:Nat→Int):Prop:=∀ x,x<g.bz→∀ k a b,(g.C x)[k]?=some a→(g.C x)[k+1]?=some b→p a≤p b
structure Pos (n:Nat) (p:Nat→Int):Prop where
 inj:∀ a b,a<n→b<n→p a=p b→a=b
 pos:∀ a,a<n→0<p a
section
variable {g:Gm} (h:g.Ok) {p:Nat→Int} (hp:Pos g.n p)
include h hp
theorem ord_mono (ho:g.ordd p) {x:Nat} (hx:x<g.bz):∀ (d j:Nat) (a b:Nat),(g.C x)[j]?=some a→(g.C x)[j+d+1]?=some b→p a<p b:=by
 have nx:∀ j a b,(g.C x)[j]?=some a→(g.C x)[j+1]?=some b→p a<p b:=by
  intro j a b h1 h2
  have h3:=ho x hx j a b h1 h2
  have ha:=((h.mem x hx a).1 (List.mem_of_getElem? h1)).1
  have hb:=((h.mem x hx b).1 (List.mem_of_getElem? h2)).1
  have hne:p a≠p b:=fun e=>by
   have e2:=hp.inj a b ha hb e
   subst e2
   have g1:=get_cpl (h.nd x hx) h1
   have g2:=get_cpl (h.nd x hx) h2
   omega
  omega
 intro d
 induction d with
 | zero=>exact fun j a b h1 h2=>nx j a b h1 h2
 | succ d ih=>
  intro j a b h1 h2
  obtain ⟨hlt,_⟩:=List.getElem?_eq_some_iff.1 h2
  have hm:j+d+1<(g.C x).length:=by omega
  have h3:=ih j a _ h1 (List.getElem?_eq_getElem hm)
  have h4:=nx (j+d+1) _ b (List.getElem?_eq_getElem hm) h2
  omega
theorem ord_cpl (ho:g.ordd p) {x:Nat} (hx:x<g.bz) {a b:Nat} (ha:a∈g.C x) (hb:b∈g.C x):p a<p b↔cpl (g.C x) a<cpl (g.C x) b:=by
 have ha':=cpl_pos.2 ha
 have hb':=cpl_pos.2 hb
 obtain ⟨i,hi⟩:∃ i,cpl (g.C x) a=i+1:=⟨cpl (g.C x) a - 1,by omega⟩
 obtain ⟨j,hj⟩:∃ j,cpl (g.C x) b=j+1:=⟨cpl (g.C x) b - 1,by omega⟩
 have gi:=cpl_get hi
 have gj:=cpl_get hj
 rw [hi,hj]
 rcases Nat.lt_trichotomy i j with c | c | c
 ·have:=ord_mono h hp ho hx (j - i - 1) i a b gi (by rw [show i+(j - i - 1)+1=j by omega]; exact gj)
  omega
 ·subst c
  rw [gi] at gj
  cases gj
  omega
 ·have:=ord_mono h hp ho hx (i - j - 1) j b a gj (by rw [show j+(i - j - 1)+1=i by omega]; exact gi)
  omega
omit hp in
theorem edg_ord (he:∀ a b,a<g.n→b<g.n→g.edg a b→p a<p b):g.ordd p:=by
 intro x hx k a b h1 h2
 have ha:=((h.mem x hx a).1 (List.mem_of_getElem? h1)).1
 have hb:=((h.mem x hx b).1 (List.mem_of_getElem? h2)).1
 have:=he a b ha hb (.inl ⟨x,hx,k,h1,h2⟩)
 omega
theorem atm_same (ho:g.ordd p) {i k:Nat} (hi:i<g.n) (hk:k<g.sz i):g.atm (fun _ s=>p s) i k=g.atm g.cop i k:=by
 unfold Gm.atm
 cases q:g.pr i with
 | none=>rfl
 | some r=>
  obtain ⟨hr,hl,had,hsz,hst⟩:=h.pr i hi r q
  have hx:=h.inb i hi k hk
  have hiC:i∈g.C (g.ad i+k):=(h.mem _ hx i).2 ⟨hi,hst k hk⟩
  simp only
  have key:∀ a b,a∈g.C (g.ad i+k)→b∈g.C (g.ad i+k)→(decide (p a<p b)=decide (g.cop (g.ad i+k) a<g.cop (g.ad i+k) b)):=by
   intro a b ha hb
   have:=ord_cpl h hp ho hx ha hb
   unfold Gm.cop
   rw [decide_eq_decide,this]
   omega
  have kpos:∀ a,a∈g.C (g.ad i+k)→(decide (0<p a)=decide (0<g.cop (g.ad i+k) a)):=by
   intro a ha
   have h1:=hp.pos a ((h.mem _ hx a).1 ha).1
   have h2:=cpl_pos.2 ha
   unfold Gm.cop
   rw [decide_eq_decide]
   omega
  have kneg:∀ a,a∈g.C (g.ad i+k)→(decide (p a<0)=decide (g.cop (g.ad i+k) a<0)):=by
   intro a ha
   have h1:=hp.pos a ((h.mem _ hx a).1 ha).1
   unfold Gm.cop
   rw [decide_eq_decide]
   omega
  have alls:∀ {f f':Nat→Bool},(∀ s,s<g.n→f s=f' s)→(List.range g.n).all f=(List.range g.n).all f':=by
   intro f f' hf
   rw [Bool.eq_iff_iff,List.all_eq_true,List.all_eq_true]
   exact ⟨fun q s hs=>by rw [← hf s (List.mem_range.1 hs)]; exact q s hs,fun q s hs=>by rw [hf s (List.mem_range.1 hs)]; exact q s hs⟩
  cases t:g.tgt r k with
  | none=>
   simp only
   rw [kneg i hiC]
   congr 1
   refine alls fun s hs=>?_
   cases c:g.st s (g.ad i+k) with
   | false=>rfl
   | true=>
    have hsC:s∈g.C (g.ad i+k):=(h.mem _ hx s).2 ⟨hs,c⟩
    rw [kpos s hsC,key s i hsC hiC]
  | some w=>
   have hw:=h.tg r hr hl k (by omega) w t
   rw [had] at hw
   have hwC:w∈g.C (g.ad i+k):=(h.mem _ hx w).2 hw
   simp only
   rw [key i w hiC hwC]
   congr 1
   refine alls fun s hs=>?_
   cases c:g.st s (g.ad i+k) with
   | false=>rfl
   | true=>
    have hsC:s∈g.C (g.ad i+k):=(h.mem _ hx s).2 ⟨hs,c⟩
    rw [key w s hwC hsC,key s i hsC hiC]
theorem lat_edg (ho:g.ordd p) (hl:∀ i,i<g.n→g.ld i=true→∀ k,k<g.sz i→g.lat p i k=true):
  (∀ a b,a<g.n→b<g.n→g.edg a b→p a<p b)∧∀ i,i<g.n→g.ld i=true→∀ k,k<g.sz i→g.stl i k=false:=by
 have step:∀ i,i<g.n→g.ld i=true→∀ k,k<g.sz i→(∀ w,g.tgt i k=some w→w≠i∧(g.ah w i=false→p w<p i))∧∀ s,s∈(g.C (g.ad i+k)).drop (g.frm i k)→s≠i→p i<p s∧g.ah s i=false:=by
  intro i hi hld k hk
  have hx:=h.inb i hi k hk
  have h1:=hl i hi hld k hk
  unfold Gm.lat at h1
  have hin:∀ s,s∈(g.C (g.ad i+k)).drop (g.frm i k)→s<g.n∧g.st s (g.ad i+k)=true:=fun s hs=>(h.mem _ hx s).1 (List.mem_of_mem_drop hs)
  cases t:g.tgt i k with
  | none=>
   rw [t] at h1
   simp only [decide_eq_true_eq] at h1
   have h2:=gbst_none.1 h1
   refine ⟨fun w hw=>(by cases hw),fun s hs hne=>?_⟩
   obtain ⟨hsn,hst⟩:=hin s hs
   have h3:=h2 s hsn
   unfold Gm.cand at h3
   rw [decide_eq_false hne,hst] at h3
   simp only [Bool.not_false,Bool.true_and,Bool.or_eq_false_iff,decide_eq_false_iff_not] at h3
   exact ⟨by omega,h3.2⟩
  | some w=>
   rw [t] at h1
   simp only [decide_eq_true_eq] at h1
   obtain ⟨g1,g2,g3⟩:=gbst_some h1
   unfold Gm.cand at g2
   simp only [Bool.and_eq_true,Bool.not_eq_true',decide_eq_false_iff_not,Bool.or_eq_true,decide_eq_true_eq] at g2
   have hwC:w∈g.C (g.ad i+k):=(h.mem _ hx w).2 ⟨g1,g2.2.1⟩
   refine ⟨fun w' hw'=>?_,fun s hs hne=>?_⟩
   ·cases hw'
    refine ⟨g2.1,fun hah=>?_⟩
    rcases g2.2.2 with q | q
    ·have:p w≠p i:=fun e=>g2.1 (hp.inj w i g1 hi e)
     omega
    ·rw [hah] at q; cases q
   ·obtain ⟨hsn,hst⟩:=hin s hs
    have hsC:s∈g.C (g.ad i+k):=List.mem_of_mem_drop hs
    have hf:g.frm i k=cpl (g.C (g.ad i+k)) w:=by unfold Gm.frm; rw [t]
    have h4:=(mem_drop (h.nd _ hx)).1 hs
    rw [hf] at h4
    have h5:=(ord_cpl h hp ho hx hwC hsC).2 h4
    have h6:¬ (g.cand p i (g.ad i+k) s=true):=fun c=>by
     have:=g3 s hsn c
     omega
    unfold Gm.cand at h6
    rw [decide_eq_false hne,hst] at h6
    simp only [Bool.not_false,Bool.true_and,Bool.or_eq_true,decide_eq_true_eq,not_or,Bool.not_eq_true] at h6
    exact ⟨by omega,h6.2⟩
 refine ⟨fun a b ha hb hab=>?_,fun i hi hld k hk=>?_⟩
 ·rcases hab with ⟨x,hx,k,h1,h2⟩ | ⟨i,k,hi,hld,hk,hq⟩
  ·exact ord_mono h hp ho hx 0 k a b h1 h2
  ·have:=step i hi hld k hk
   rcases hq with ⟨q1,q2,rfl⟩ | ⟨rfl,q2,q3⟩
   ·exact (this.1 a q1).2 q2
   ·exact (this.2 b q3 q2).1
 ·unfold Gm.stl
  rw [List.any_eq_false]
  intro s hs
  by_cases c:s=i
  ·rw [c,h.irr i hi]; simp
  ·rw [((step i hi hld k hk).2 s hs c).2]; simp
theorem edg_lat (he:∀ a b,a<g.n→b<g.n→g.edg a b→p a<p b) (hs:∀ i,i<g.n→g.ld i=true→∀ k,k<g.sz i→g.stl i k=false):
  ∀ i,i<g.n→g.ld i=true→∀ k,k<g.sz i→g.lat p i k=true:=by
 intro i hi hld k hk
 have ho:=edg_ord h he
 have hx:=h.inb i hi k hk
 have hst:=hs i hi hld k hk
 unfold Gm.stl at hst
 rw [List.any_eq_false] at hst
 have late:∀ s,s<g.n→s≠i→s∈(g.C (g.ad i+k)).drop (g.frm i k)→¬ (g.cand p i (g.ad i+k) s=true):=by
  intro s hsn hne hsd
  have h1:=he i s hi hsn (.inr ⟨i,k,hi,hld,hk,.inr ⟨rfl,hne,hsd⟩⟩)
  have h2:g.ah s i=false:=by simpa using hst s hsd
  unfold Gm.cand
  rw [h2,decide_eq_false (p:=p s≤p i) (by omega)]
  simp
 unfold Gm.lat
 cases t:g.tgt i k with
 | none=>
  simp only [decide_eq_true_eq]
  rw [gbst_none]
  intro s hsn
  by_cases c:s=i
  ·unfold Gm.cand
   rw [decide_eq_true c]
   rfl
  ·cases d:g.st s (g.ad i+k) with
   | false=>unfold Gm.cand; rw [d]; simp
   | true=>
    have hf:g.frm i k=0:=by unfold Gm.frm; rw [t]
    have:=late s hsn c (by rw [hf,List.drop_zero]; exact (h.mem _ hx s).2 ⟨hsn,d⟩)
    simpa using this
 | some w=>
  simp only [decide_eq_true_eq]
  obtain ⟨hw1,hw2⟩:=h.tg i hi hld k hk w t
  have hwC:w∈g.C (g.ad i+k):=(h.mem _ hx w).2 ⟨hw1,hw2⟩
  have hf:g.frm i k=cpl (g.C (g.ad i+k)) w:=by unfold Gm.frm; rw [t]
  have hwi:w≠i:=by
   intro e
   have:=he w i hw1 hi (.inr ⟨i,k,hi,hld,hk,.inl ⟨t,by rw [e]; exact h.irr i hi,rfl⟩⟩)
   rw [e] at this
   omega
  rw [gbst_iff hp.inj]
  refine ⟨hw1,?_,fun s hsn hc=>?_⟩
  ·unfold Gm.cand
   rw [decide_eq_false hwi,hw2]
   cases q:g.ah w i with
   | true=>simp
   | false=>
    have:=he w i hw1 hi (.inr ⟨i,k,hi,hld,hk,.inl ⟨t,q,rfl⟩⟩)
    rw [decide_eq_true (by omega)]
    rfl
  ·have hc2:=hc
   unfold Gm.cand at hc2
   simp only [Bool.and_eq_true,Bool.not_eq_true',decide_eq_false_iff_not] at hc2
   have hsC:s∈g.C (g.ad i+k):=(h.mem _ hx s).2 ⟨hsn,hc2.2.1⟩
   have hnd:¬ s∈(g.C (g.ad i+k)).drop (g.frm i k):=fun q=>late s hsn hc2.1 q hc
   rw [mem_drop (h.nd _ hx),hf] at hnd
   by_cases e:s=w
   ·rw [e]; exact Int.le_refl _
   ·have hle:¬ p w<p s:=fun q=>hnd ((ord_cpl h hp ho hx hwC hsC).1 q)
    omega
end
end Go.Proofs.YtimiademofajeaaGreatDoor
