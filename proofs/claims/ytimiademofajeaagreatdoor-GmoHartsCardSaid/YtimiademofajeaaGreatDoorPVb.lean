/- The machine, part Vb: a small evaluation of the given code, and that the given code comes to what it says (no claim; lemmas). -/
import Derived.Test.YtimiademofajeaaGreatDoorPVa
import Derived.Laws.Append
import Derived.Laws.Externs
import Derived.Laws.AppendOwn
set_option linter.unusedSimpArgs false
set_option linter.unusedVariables false
namespace Go.Vm
section
variable {P:Program} {h:Hint} {ds:List (Option Nat)} {G:Gh} {w:World} {m:Mem} {ρ:X→V} {e:Operand→Value} {k:Bool→Nat→Prop}
theorem VR.imm0 {v:V} {x:Value} {r:Nat} (hi:v.imm=true) (hr:VR G w r v x):VR G w 0 v x∧v.flat=true:=by
 cases hr<;>first
  | (simp [V.imm] at hi; done)
  | exact ⟨.bool _ _,rfl⟩ | exact ⟨.int _ _ _,rfl⟩ | exact ⟨.flt _ _,rfl⟩ | exact ⟨.str _ _,rfl⟩ | exact ⟨.nilp _,rfl⟩ | exact ⟨.nils _,rfl⟩ | exact ⟨.nilm _,rfl⟩
  | exact ⟨.nilf _,rfl⟩ | exact ⟨.nili _,rfl⟩ | exact ⟨.emp _ _,rfl⟩ | exact ⟨.isl0 _ _ _ _,rfl⟩
  | exact ⟨.isl _ _ _ _ _ _ _ _ ‹_› ‹_› ‹_› ‹_› ‹_› ‹_›,rfl⟩
  | exact ⟨.ip _ _ _ _ _ _ _ ‹_› ‹_› ‹_›,rfl⟩
  | skip
 rename_i f fs cs xs ys hs ht hx hy
 cases fs with
 | cons=>simp [V.imm] at hi
 | nil=>
  cases cs with
  | cons=>simp [V.imm] at hi
  | nil=>exact ⟨.fn _ _ [] [] xs ys hs ht (fun j v q=>by simp at q) (fun j v q=>by simp at q),rfl⟩
theorem immAll_get {es:List (List V)} (hi:immAll es=true) {i j:Nat} {q:List V} {v:V} (hq:es[i]?=some q) (hv:q[j]?=some v):v.imm=true:=
 List.all_eq_true.1 (List.all_eq_true.1 hi q (List.mem_of_getElem? hq)) v (List.mem_of_getElem? hv)
theorem RelA.flat {s c:Nat} {es:List (List V)} {xs:Array Value} (hr:RelA G w s c es xs):∀ q∈es,∀ v∈q,v.flat=true:=by
 intro q hq v hv
 obtain ⟨i,hi⟩:=List.getElem?_of_mem hq
 obtain ⟨j,hj⟩:=List.getElem?_of_mem hv
 exact (hr.2.2.2 i j q v hi hj).1
theorem exp_of_flat {v:V} (hf:v.cells.all V.flat=true):v.exp=some v:=by
 cases v with
 | agg cs=>rfl
 | osl h=>cases h<;>first | rfl | (simp [V.cells,V.flat] at hf; done)
 | _=>first | rfl | (simp [V.cells,V.flat] at hf; done)
theorem RelA.put {s c i:Nat} {es:List (List V)} {xs:Array Value} {v:V} {x:Value} {q:List V} (hr:RelA G w s c es xs) (hi:es[i]?=some q) (hl:v.cells.length=q.length)
  (hf:v.cells.all V.flat=true) (hx:VR G w 2 v x):x.cells.size=s∧i * s+s≤xs.size∧RelA G w s c (es.set i v.cells) (x.cells.zipIdx.foldl (fun cs (c,j)=>cs.setIfInBounds (i * s+j) c) xs):=by
 obtain ⟨h1,h2,h3,h4⟩:=hr
 have hq:q.length=s:=h3 q (List.mem_of_getElem? hi)
 have hlt:i<es.length:=(List.getElem?_eq_some_iff.1 hi).1
 obtain ⟨_,p2,p3,p4⟩:=exp_ok (exp_of_flat hf) hx
 have hmul:i * s+s≤c * s:=by
  have:=Nat.mul_le_mul_right s (show i+1≤c by omega)
  rwa [Nat.add_mul,Nat.one_mul] at this
 obtain ⟨q1,q2⟩:=put_ok (off:=i * s) x.cells xs (by omega)
 refine ⟨by omega,by omega,by rw [q1,h1],by simpa using h2,fun r hr=>?_,fun i' j r u hr' hu=>?_⟩
 ·rcases List.mem_or_eq_of_mem_set hr with hr | rfl
  ·exact h3 r hr
  ·omega
 ·rw [List.getElem?_set] at hr'
  by_cases ei:i=i'
  ·subst ei
   rw [if_pos rfl,if_pos hlt] at hr'
   cases hr'
   have hj:j<v.cells.length:=(List.getElem?_eq_some_iff.1 hu).1
   refine ⟨p3 u (List.mem_of_getElem? hu),x.cells.getD j undef,?_,p4 j u hu⟩
   rw [q2,if_pos (by omega),show i * s+j - i * s=j by omega]
   simp [Array.getD_eq_getD_getElem?,show j<x.cells.size by omega]
  ·rw [if_neg ei] at hr'
   obtain ⟨f1,y,f2,f3⟩:=h4 i' j r u hr' hu
   have hj:j<s:=by have:=h3 r (List.mem_of_getElem? hr'); rw [← this]; exact (List.getElem?_eq_some_iff.1 hu).1
   have:=mul_lt_of (s:=s) (Ne.symm ei) hj
   exact ⟨f1,y,by rw [q2,if_neg (by omega)]; exact f2,f3⟩
theorem litFill_ok (hρ:OpR h ds G w ρ e) {s c:Nat}:∀ (ps:List (Nat × Operand)) (qs:List (Nat × X)) (z z':List (List V)) (xs:Array Value),cLit h ds ps=some qs →
  litParts z (qs.map fun (i,x)=>(i,ρ x))=some z'→RelA G w s c z xs →
  ∃ xs',Instr.fill (fun i=>some (i * s,s)) xs (ps.map fun (i,x)=>(i,e x))=some xs'∧RelA G w s c z' xs'∧z'.length=z.length
 | [],qs,z,z',xs,hc,hf,hr=>by
  simp [cLit] at hc; subst hc
  simp [litParts] at hf; subst hf
  exact ⟨xs,rfl,hr,rfl⟩
 | (i,o) :: ps,qs,z,z',xs,hc,hf,hr=>by
  simp only [cLit] at hc
  split at hc
  ·rename_i x r h1 h2
   cases hc
   simp only [List.map_cons,litParts] at hf
   split at hf
   ·rename_i q hq
    split at hf
    ·rename_i hl
     obtain ⟨s1,s2,s3⟩:=hr.put hq hl.1 hl.2 (hρ _ _ h1)
     obtain ⟨xs',q1,q2,q3⟩:=litFill_ok hρ ps r _ z' _ h2 hf s3
     refine ⟨xs',?_,q2,by rw [q3]; simp⟩
     simp only [List.map_cons,Instr.fill]
     rw [if_neg]
     ·exact q1
     ·simp; omega
    ·cases hf
   ·cases hf
  ·cases hc
theorem zeroRows {z:List V} {v:Value} (hr:RelC G w z v.cells) (n c:Nat) (hn:n≤c):
  RelA G w z.length c (List.replicate n z) ((Array.range (c * z.length)).map (v.cells[· % v.cells.size]!)):=by
 obtain ⟨h1,h2,h3⟩:=hr
 refine ⟨by simp,by simpa using hn,fun q hq=>by rw [List.eq_of_mem_replicate hq],fun i j q u hq hu=>?_⟩
 have hi:i<n:=by have:=(List.getElem?_eq_some_iff.1 hq).1; simpa using this
 have:q=z:=by rw [List.getElem?_replicate] at hq; simp [hi] at hq; exact hq.symm
 subst this
 have hj:j<q.length:=(List.getElem?_eq_some_iff.1 hu).1
 have h4:=h3 j u hu
 refine ⟨h2 u (List.mem_of_getElem? hu),v.cells[j]'(by omega),?_,?_⟩
 ·have hmul:i * q.length+q.length≤c * q.length:=by
   have:=Nat.mul_le_mul_right q.length (show i+1≤c by omega)
   rwa [Nat.add_mul,Nat.one_mul] at this
  have hm:(i * q.length+j) % v.cells.size=j:=by
   rw [h1,Nat.add_comm,Nat.add_mul_mod_self_right,Nat.mod_eq_of_lt hj]
  rw [Array.getElem?_map,Array.getElem?_range,if_pos (by omega)]
  simp only [Option.map_some,hm]
  rw [getElem!_pos _ _ (by omega)]
 ·rw [Array.getD_eq_getD_getElem?] at h4
  simpa [show j<v.cells.size by omega] using h4
theorem newIsl {s:Nat} {es:List (List V)} {xs:Array Value} {ty:TypeId} (hm:MR G w m) (hr:RelA G w s es.length es xs):
  ∃ G',Le G w G' (w.alloc (.cells xs ty))∧LeL G G' k∧MR G' (w.alloc (.cells xs ty)) m∧Fr G m w G' m (w.alloc (.cells xs ty)) ∧
   (immAll es=true→∀ r,VR G' (w.alloc (.cells xs ty)) r (.isl false es) (.slice (some ⟨w.heap.size,0,none⟩) es.length es.length)) ∧
   (es≠[]→VR G' (w.alloc (.cells xs ty)) 2 (.els es) (.slice (some ⟨w.heap.size,0,none⟩) es.length es.length)):=by
 obtain ⟨q1,q2,q3,q4⟩:=newE hm xs ty xs.size
 have hcell:∀ o,(w.alloc (.cells xs ty)).cell? ⟨w.heap.size,o,none⟩=xs[o]?:=fun o=>World.cell?_alloc_new w xs ty o
 have hx:∀ i j,i<es.length→j<s→(G.newE w.heap.size xs.size).E false w.heap.size (0+i * s+j)∧(w.alloc (.cells xs ty)).cell? ⟨w.heap.size,0+i * s+j,none⟩=some (xs.getD (i * s+j) undef):=by
  intro i j hi hj
  have hmul:i * s+s≤es.length * s:=by
   have:=Nat.mul_le_mul_right s (show i+1≤es.length by omega)
   rwa [Nat.add_mul,Nat.one_mul] at this
  have hlt:i * s+j<xs.size:=by rw [hr.1]; omega
  refine ⟨.inr ⟨rfl,by omega⟩,?_⟩
  rw [hcell,Nat.zero_add]
  simp [Array.getD_eq_getD_getElem?,hlt]
 have hv:∀ (i j:Nat) (q:List V) (v:V),es[i]?=some q→q[j]?=some v→VR (G.newE w.heap.size xs.size) (w.alloc (.cells xs ty)) 1 v (xs.getD (i * s+j) undef):=by
  intro i j q v hq hv
  obtain ⟨_,x,f2,f3⟩:=hr.2.2.2 i j q v hq hv
  have:xs.getD (i * s+j) undef=x:=by rw [Array.getD_eq_getD_getElem?,f2]; rfl
  rw [this]
  exact f3.mono1 q1 (Nat.le_refl _)
 refine ⟨_,q1,⟨fun j b _=>q2.vb j b (fun h=>h),fun j n _=>q2.T j n (fun h=>h)⟩,q3,q4,fun hi r=>?_,fun hne=>?_⟩
 ·by_cases hne:es=[]
  ·subst hne; exact .isl0 _ _ _ _
  ·refine .isl r false es w.heap.size 0 s es.length (fun i j=>xs.getD (i * s+j) undef) hne (Nat.le_refl _) hr.2.2.1 hr.flat hx ?_
   intro i j q v hq hv'
   exact ((hv i j q v hq hv').imm0 (immAll_get hi hq hv')).1
 ·exact .els 2 es w.heap.size s (fun i j=>xs.getD (i * s+j) undef) (Nat.le_refl _) hne hr.2.2.1 hr.flat hx hv
theorem newTok {j s c:Nat} {es:List (List V)} {xs:Array Value} {ty:TypeId} (hm:MR G w m) (hj:j<m.tk.length) (hr:RelA G w s c es xs) (hi:immAll es=true) (he:es≠[])
  (hk:k false j∨∃ n,G.T false j=some n∧n<es.length):
  ∃ G',Le G w G' (w.alloc (.cells xs ty))∧LeL G G' k∧MR G' (w.alloc (.cells xs ty)) { m with tk:=m.tk.set j es.length } ∧
   Fr G m w G' { m with tk:=m.tk.set j es.length } (w.alloc (.cells xs ty))∧VR G' (w.alloc (.cells xs ty)) 2 (.osl false j es) (.slice (some ⟨w.heap.size,0,none⟩) es.length c):=by
 let b:=w.heap.size
 let G':Gh:={ G with
  E:=fun t b' o=>G.E t b' o∨(b'=b∧o<es.length * s)
  ob:=fun hh i=>if hh=false∧i=j then some (b,c,s) else G.ob hh i
  T:=fun hh i=>if hh=false∧i=j then some es.length else G.T hh i }
 have la:=Le.alloc hm (.cells xs ty)
 have le:Le G w G' (w.alloc (.cells xs ty)):=⟨fun _ _ _ h=>.inl h,la.c,fun _ _ h=>h,fun i n h=>⟨n,by simpa [G'] using h,Nat.le_refl _,fun _=>by simp [G']⟩⟩
 have hnE:∀ t o,¬ G.E t b o:=fun t o q=>absurd (hm.Elt t _ o q) (by simp [b])
 have hcell:∀ o,(w.alloc (.cells xs ty)).cell? ⟨b,o,none⟩=xs[o]?:=fun o=>World.cell?_alloc_new w xs ty o
 have u:Upd G w m G' (w.alloc (.cells xs ty)) { m with tk:=m.tk.set j es.length } (.t j) b:={
  le:=le
  hv:=fun _ _=>⟨rfl,rfl⟩
  ht:=fun i hi=>by
   have:i≠j:=fun q=>hi (by rw [q])
   exact ⟨by simp [G',this],by simp [List.getElem?_set,Ne.symm this],by simp [G',this]⟩
  hh:=fun _ _=>⟨rfl,by simp [G'],rfl,by simp [G']⟩
  hl:=Nat.le_refl _
  hf:=fun _ _ q=>by cases q
  hvl:=by simp
  hE:=fun t b' o hb=>⟨fun h=>h.resolve_right (fun q=>hb q.1),.inl⟩
  Ef:=fun o q=>q.elim (fun q=>.inl (hm.Ef _ o q)) .inr
  heap:=fun b' _ hb'=>heap_alloc_lt w _ hb'
  size:=by simp
  hB:=by simp [b]
  new:=.inl (Nat.le_refl _)
  key:=⟨by simp [G',hj],fun b' c' s' q=>by
   simp [G'] at q
   obtain ⟨rfl,rfl,rfl⟩:=q
   exact ⟨rfl,es.length,by simp [hj],xs,ty,heap_alloc_new w _,hr.1,hr.2.1,fun o ho=>.inr ⟨rfl,ho⟩,fun t o ho q=>q.elim (hnE t o) (fun q=>by omega)⟩⟩
  os:=rfl
  tape:=rfl
  output:=rfl }
 refine ⟨G',le,⟨fun _ _ _ h=>h,fun i n hki q=>?_⟩,u.mr hm,u.fr hm,?_⟩
 ·by_cases e1:i=j
  ·subst e1
   rcases hk with hk | ⟨n',hn',hlt⟩
   ·exact absurd hk hki
   ·rw [hn'] at q; cases q
    exact ⟨es.length,by simp [G'],by omega,fun q=>by omega⟩
  ·exact ⟨n,by simpa [G',e1] using q,Nat.le_refl _,fun _=>by simp [G',e1]⟩
 ·have hisl:VR G' (w.alloc (.cells xs ty)) 0 (.isl false es) (.slice (some ⟨b,0,none⟩) es.length c):=by
   by_cases hne:es=[]
   ·subst hne; exact .isl0 _ _ _ _
   ·refine .isl 0 false es b 0 s c (fun i j=>xs.getD (i * s+j) undef) hne hr.2.1 hr.2.2.1 hr.flat ?_ ?_
    ·intro i q hi' hq
     have hmul:i * s+s≤es.length * s:=by
      have:=Nat.mul_le_mul_right s (show i+1≤es.length by omega)
      rwa [Nat.add_mul,Nat.one_mul] at this
     have hmul2:es.length * s≤c * s:=Nat.mul_le_mul_right s hr.2.1
     have hlt:i * s+q<xs.size:=by rw [hr.1]; omega
     refine ⟨.inr ⟨rfl,by omega⟩,?_⟩
     rw [hcell,Nat.zero_add]
     simp [Array.getD_eq_getD_getElem?,hlt]
    ·intro i q r v hq hv
     obtain ⟨_,x,f2,f3⟩:=hr.2.2.2 i q r v hq hv
     have:xs.getD (i * s+q) undef=x:=by rw [Array.getD_eq_getD_getElem?,f2]; rfl
     rw [this]
     exact ((f3.mono1 le (Nat.le_refl _)).imm0 (immAll_get hi hq hv)).1
  exact .osl 2 false j es _ es.length (by simp) (ils_mk he hisl) (by simp [G']) (Nat.le_refl _) (fun _=>by simp [OwnS,G',b]; exact ⟨hr.2.2.1,he⟩)
theorem newTokH {id s c:Nat} {es:List (List V)} {xs:Array Value} {ty:TypeId} {H':List Obj} (hm:MR G w m) (hr:RelA G w s c es xs) (hi:immAll es=true) (he:es≠[])
  (hk:(id=m.H.length∧H'=m.H ++ [.tok es.length])∨∃ n,m.H[id]?=some (.tok n)∧n<es.length∧H'=m.H.set id (.tok es.length)):
  ∃ G',Le G w G' (w.alloc (.cells xs ty))∧LeL G G' k∧MR G' (w.alloc (.cells xs ty)) { m with H:=H' } ∧
   Fr G m w G' { m with H:=H' } (w.alloc (.cells xs ty))∧VR G' (w.alloc (.cells xs ty)) 2 (.osl true id es) (.slice (some ⟨w.heap.size,0,none⟩) es.length c):=by
 let b:=w.heap.size
 let G':Gh:={ G with
  E:=fun t b' o=>G.E t b' o∨(b'=b∧o<es.length * s)
  ob:=fun hh i=>if hh=true∧i=id then some (b,c,s) else G.ob hh i
  T:=fun hh i=>if hh=true∧i=id then some es.length else G.T hh i }
 have hH:H'[id]?=some (.tok es.length)∧m.H.length≤H'.length∧id<H'.length∧∀ i,i≠id→H'[i]?=m.H[i]?:=by
  rcases hk with ⟨rfl,rfl⟩ | ⟨n,h1,_,rfl⟩
  ·refine ⟨by simp,by simp,by simp,fun i hi=>?_⟩
   rcases Nat.lt_or_ge i m.H.length with hl | hl
   ·simp [List.getElem?_append_left hl]
   ·rw [List.getElem?_eq_none (by simp; omega),List.getElem?_eq_none hl]
  ·have:=(List.getElem?_eq_some_iff.1 h1).1
   exact ⟨by simp [this],by simp,by simpa using this,fun i hi=>by simp [List.getElem?_set,Ne.symm hi]⟩
 have hT:G.T true id=none∨∃ n,G.T true id=some n∧n<es.length:=by
  rcases hk with ⟨rfl,_⟩ | ⟨n,h1,h2,_⟩
  ·left; rw [hm.T1]; simp
  ·right; exact ⟨n,by rw [hm.T1,h1],h2⟩
 have la:=Le.alloc hm (.cells xs ty)
 have le:Le G w G' (w.alloc (.cells xs ty)):=⟨fun _ _ _ h=>.inl h,la.c,fun _ _ h=>h,fun i n h=>by
  by_cases e1:i=id
  ·subst e1
   rcases hT with hT | ⟨n',hn',hlt⟩
   ·rw [hT] at h; cases h
   ·rw [hn'] at h; cases h
    exact ⟨es.length,by simp [G'],by omega,fun q=>by omega⟩
  ·exact ⟨n,by simpa [G',e1] using h,Nat.le_refl _,fun _=>by simp [G',e1]⟩⟩
 have hnE:∀ t o,¬ G.E t b o:=fun t o q=>absurd (hm.Elt t _ o q) (by simp [b])
 have hcell:∀ o,(w.alloc (.cells xs ty)).cell? ⟨b,o,none⟩=xs[o]?:=fun o=>World.cell?_alloc_new w xs ty o
 have u:Upd G w m G' (w.alloc (.cells xs ty)) { m with H:=H' } (.h id) b:={
  le:=le
  hv:=fun _ _=>⟨rfl,rfl⟩
  ht:=fun _ _=>⟨by simp [G'],rfl,by simp [G']⟩
  hh:=fun i hi=>by
   have:i≠id:=fun q=>hi (by rw [q])
   exact ⟨rfl,by simp [G',this],hH.2.2.2 i this,by simp [G',this]⟩
  hl:=hH.2.1
  hf:=fun i hi q=>by cases q; have:=hH.2.2.1; simp at hi; omega
  hvl:=⟨rfl,rfl⟩
  hE:=fun t b' o hb=>⟨fun h=>h.resolve_right (fun q=>hb q.1),.inl⟩
  Ef:=fun o q=>q.elim (fun q=>.inl (hm.Ef _ o q)) .inr
  heap:=fun b' _ hb'=>heap_alloc_lt w _ hb'
  size:=by simp
  hB:=by simp [b]
  new:=.inl (Nat.le_refl _)
  key:=.inr (.inl ⟨es.length,s,c,hH.1,by simp [G'],by simp [G'],xs,ty,heap_alloc_new w _,hr.1,hr.2.1,fun o ho=>.inr ⟨rfl,ho⟩,fun t o ho q=>q.elim (hnE t o) (fun q=>by omega)⟩)
  os:=rfl
  tape:=rfl
  output:=rfl }
 refine ⟨G',le,⟨fun _ _ _ h=>h,fun i n _ q=>⟨n,by simpa [G'] using q,Nat.le_refl _,fun _=>by simp [G']⟩⟩,u.mr hm,u.fr hm,?_⟩
 ·have hisl:VR G' (w.alloc (.cells xs ty)) 0 (.isl false es) (.slice (some ⟨b,0,none⟩) es.length c):=by
   by_cases hne:es=[]
   ·subst hne; exact .isl0 _ _ _ _
   ·refine .isl 0 false es b 0 s c (fun i j=>xs.getD (i * s+j) undef) hne hr.2.1 hr.2.2.1 hr.flat ?_ ?_
    ·intro i q hi' hq
     have hmul:i * s+s≤es.length * s:=by
      have:=Nat.mul_le_mul_right s (show i+1≤es.length by omega)
      rwa [Nat.add_mul,Nat.one_mul] at this
     have hmul2:es.length * s≤c * s:=Nat.mul_le_mul_right s hr.2.1
     have hlt:i * s+q<xs.size:=by rw [hr.1]; omega
     refine ⟨.inr ⟨rfl,by omega⟩,?_⟩
     rw [hcell,Nat.zero_add]
     simp [Array.getD_eq_getD_getElem?,hlt]
    ·intro i q r v hq hv
     obtain ⟨_,x,f2,f3⟩:=hr.2.2.2 i q r v hq hv
     have:xs.getD (i * s+q) undef=x:=by rw [Array.getD_eq_getD_getElem?,f2]; rfl
     rw [this]
     exact ((f3.mono1 le (Nat.le_refl _)).imm0 (immAll_get hi hq hv)).1
  exact .osl 2 true id es _ es.length (by simp) (ils_mk he hisl) (by simp [G']) (Nat.le_refl _) (fun _=>by simp [OwnS,G',b]; exact ⟨hr.2.2.1,he⟩)
end
end Go.Vm
namespace Go.Vm
section
variable {P:Program} {h:Hint} {ds:List (Option Nat)} {G:Gh} {w:World} {m:Mem} {ρ:X→V} {e:Operand→Value} {k:Bool→Nat→Prop}
theorem lit_run {o:Oper} {t el:TypeId} {len sz:Nat} {ps:Array (Nat × Operand)} {qs:List (Nat × X)} {z:List V} {es:List (List V)} (hρ:OpR h ds G w ρ e)
  (ho:o.op=.buildSlice t len ps) (hu:P.underlying t=some (.slice el)) (hn:szOf P el=some sz) (hz:zeroT P el=some z) (h0:sz≠0) (hzl:z.length=sz) (hle:len * sz≤16777216)
  (hc:cLit h ds ps.toList=some qs) (hl:litParts (List.replicate len z) (qs.map fun (i,x)=>(i,ρ x))=some es):
  ∃ xs,RelA G w sz es.length es xs∧es.length=len∧(execOp e o).run P w=.ok (.value (.slice (some ⟨w.heap.size,0,none⟩) es.length es.length)) (w.alloc (.cells xs el)):=by
 obtain ⟨v,h1,h2⟩:=zeroT_rel hz G w
 subst hzl
 have hrows:=zeroRows h2 len len (Nat.le_refl _)
 obtain ⟨xs,q1,q2,q3⟩:=litFill_ok hρ ps.toList qs _ es _ hc hl hrows
 have hlen:es.length=len:=by rw [q3]; simp
 rw [← hlen] at q2
 refine ⟨xs,q2,hlen,?_⟩
 simp only [execOp,ho,Instr.buildSlice,Sem.run_bind,run_underlying hu,Result.andThen_ok,szOf_run hn]
 rw [if_neg (by omega)]
 by_cases hz0:len * z.length=0
 ·rw [hz0] at q1
  simp only [hz0,if_true,Sem.run_bind,Sem.run_pure,Result.andThen_ok,Array.toList_map]
  have e0:∀ (f:Nat→Value),(Array.range 0).map f=#[]:=fun f=>by apply Array.ext'; simp
  rw [e0] at q1
  rw [e0,q1]
  simp [newRow,hlen]
 ·simp only [hz0,if_false,Sem.run_bind,Sem.run_pure,Result.andThen_ok,Array.toList_map,h1]
  rw [q1]
  simp [newRow,hlen]
theorem emptyTok (P:Program) {j:Nat} (hm:MR G w m) (hj:j<m.tk.length) (hk:k false j):∃ G',Le G w G' w∧LeL G G' k∧MR G' w { m with tk:=m.tk.set j 0 }∧Fr G m w G' { m with tk:=m.tk.set j 0 } w:=by
 obtain ⟨x, w', G', hr, le, lel, hm', _, fr⟩ := x_onil (P := P) (e := fun _ => .slice none 0 0) (o := { op := .move (.const (.slice none 0 0)), dst := none, pos := "", after := #[], guard := none, type := 0 }) (y := .const (.slice none 0 0)) (k := k) hm (.inl rfl) rfl hj hk
 have hw:w'=w:=by
  rcases hr with hr | ⟨hr,_⟩
  ·simp [execOp] at hr; exact hr.2.symm
  ·simp [execOp] at hr
 subst hw
 exact ⟨G',le,lel,hm',fr⟩
theorem LeL.trans {G G1 G2:Gh} (h:LeL G G1 k) (h2:LeL G1 G2 k):LeL G G2 k where
 vb j b hk hb:=h2.vb j b hk (h.vb j b hk hb)
 T j n hk hn:=by
  obtain ⟨n1,e1,l1,o1⟩:=h.T j n hk hn
  obtain ⟨n2,e2,l2,o2⟩:=h2.T j n1 hk e1
  refine ⟨n2,e2,by omega,fun q=>?_⟩
  have:n1=n:=by omega
  rw [o2 (by omega),o1 this]
theorem x_lit {o:Oper} {t el:TypeId} {kk len sz:Nat} {ps:Array (Nat × Operand)} {qs:List (Nat × X)} {z:List V} {v:V} {m':Mem} {call:Md→Nat→List V→List Obj→Option (V × List Obj)}
  (hρ:OpR h ds G w ρ e) (hm:MR G w m)
  (ho:o.op=.buildSlice t len ps) (hu:P.underlying t=some (.slice el)) (hn:szOf P el=some sz) (hz:zeroT P el=some z) (h0:sz≠0) (hzl:z.length=sz) (hle:len * sz≤16777216)
  (hc:cLit h ds ps.toList=some qs) (hev:evO call ρ m (.lit kk sz (List.replicate len z) qs)=some (v,m')) (hk:3≤kk→k false (kk - 3)):
  Res ((execOp e o).run P w) G w m v m' k:=by
 simp only [evO] at hev
 split at hev
 ·cases hev
 ·rename_i es hl
  split at hev
  ·cases hev
  ·rename_i hall
   obtain ⟨xs,r1,r2,r3⟩:=lit_run hρ ho hu hn hz h0 hzl hle hc hl
   split at hev
   ·rename_i hk3
    split at hev
    ·rename_i hcond
     simp only [Bool.and_eq_true,decide_eq_true_eq] at hcond
     cases hev
     by_cases hemp:es=[]
     ·subst hemp
      obtain ⟨G1,a1,a2,a3,a4⟩:=emptyTok (k:=k) P hm hcond.2 (hk hk3)
      have r1':RelA G1 w sz ([]:List (List V)).length [] xs:=⟨r1.1,by simp,by simp,fun i j q v hq=>by simp at hq⟩
      obtain ⟨G',q1,q2,q3,q4,_,_⟩:=newIsl (k:=k) (ty:=el) a3 r1'
      exact ⟨_,_,G',.inl r3,a1.trans q1,a2.trans q2,q3,.emp _ _,a4.trans q4⟩
     ·obtain ⟨G',q1,q2,q3,q4,q5⟩:=newTok (k:=k) (ty:=el) hm hcond.2 r1 hcond.1 hemp (.inl (hk hk3))
      have:litT (kk - 3) es=.osl false (kk - 3) es:=by unfold litT; rw [if_neg (by simpa using hemp)]
      rw [this]
      exact ⟨_,_,G',.inl r3,q1,q2,q3,q5,q4⟩
    ·cases hev
   ·split at hev
    ·rename_i hemp
     cases hev
     have:es=[]:=by simpa using hemp
     subst this
     obtain ⟨G',q1,q2,q3,q4,_,_⟩:=newIsl (k:=k) (ty:=el) hm r1
     exact ⟨_,_,G',.inl r3,q1,q2,q3,.emp _ _,q4⟩
    ·rename_i hemp
     have hne:es≠[]:=by simpa using hemp
     split at hev
     ·split at hev
      ·rename_i himm
       cases hev
       obtain ⟨G',q1,q2,q3,q4,q5,_⟩:=newIsl (k:=k) (ty:=el) hm r1
       exact ⟨_,_,G',.inl r3,q1,q2,q3,q5 himm 2,q4⟩
      ·cases hev
     ·cases hev
      obtain ⟨G',q1,q2,q3,q4,_,q6⟩:=newIsl (k:=k) (ty:=el) hm r1
      exact ⟨_,_,G',.inl r3,q1,q2,q3,q6 hne,q4⟩
     ·cases hev
      obtain ⟨G',q1,q2,q3,q4,q5⟩:=newArr (k:=k) (ty:=el) hm r1
      refine ⟨_,_,G',.inl r3,q1,q2,q3,?_,q4⟩
      have:=VR.rsl (G:=G') (w:=w.alloc (.cells xs el)) 2 m.H.length 0 es.length _ _ _ (by omega) q5 (by omega)
      simpa using this
theorem wrap_in {n:Int} (h1:0≤n) (h2:n≤9223372036854775807):IntKind.i64.wrap n=n:=by
 have e1:(2:Int) ^ IntKind.i64.bits=18446744073709551616:=rfl
 have e2:(2:Int) ^ (IntKind.i64.bits - 1)=9223372036854775808:=rfl
 have e3:n % 18446744073709551616=n:=by omega
 unfold IntKind.wrap
 rw [e1,e2,e3]
 have e4:¬ (9223372036854775808≤n):=by omega
 simp [e4]
theorem x_mksl {o:Oper} {t el:TypeId} {sz bytes:Nat} {l c:Operand} {xl xc:X} {z:List V} {kl kc:IntKind} {nl nc:Int} (hρ:OpR h ds G w ρ e) (hm:MR G w m)
  (ho:o.op=.makeSlice t l c) (hu:P.underlying t=some (.slice el)) (hn:szOf P el=some sz) (hby:bytesT P el=some bytes) (hz:zeroT P el=some z) (h0:sz≠0) (hzl:z.length=sz)
  (hl:cX h ds l=some xl) (hc:cX h ds c=some xc) (e1:ρ xl=.int kl nl) (e2:ρ xc=.int kc nc)
  (hb:0≤nl∧nl≤nc∧nc≤9223372036854775807∧nc.toNat * bytes≤maxB):
  Res ((execOp e o).run P w) G w m (.rsl m.H.length 0 nl.toNat) { m with H:=m.H ++ [.arr (List.replicate nl.toNat z)] } k:=by
 obtain ⟨v,h1,h2⟩:=zeroT_rel hz G w
 have i1:=hρ _ _ hl
 have i2:=hρ _ _ hc
 rw [e1] at i1; rw [e2] at i2
 have j1:=i1.int_inv
 have j2:=i2.int_inv
 have hrows:=zeroRows h2 nl.toNat nc.toNat (by omega)
 have hwl:IntKind.i64.wrap nl=nl:=wrap_in (by omega) (by omega)
 have hwc:IntKind.i64.wrap nc=nc:=wrap_in (by omega) (by omega)
 have hb':bytes * nc≤2 ^ 48:=by
  have h48:(2:Int) ^ 48=281474976710656:=by decide
  have hq:nc.toNat * bytes≤140737488355328:=hb.2.2.2
  have:((nc.toNat * bytes:Nat):Int)≤140737488355328:=by omega
  rw [Int.natCast_mul,Int.toNat_of_nonneg (by omega)] at this
  rw [h48,Int.mul_comm]; omega
 obtain ⟨i,hi,hib⟩:∃ i,P.info? el=some i∧i.bytes=bytes:=by
  simp only [bytesT,Option.map_eq_some_iff] at hby
  obtain ⟨i,h1,h2⟩:=hby
  exact ⟨i,h1,h2⟩
 obtain ⟨G',q1,q2,q3,q4,q5⟩:=newArr (k:=k) (ty:=el) hm hrows
 refine ⟨.slice (some ⟨w.heap.size,0,none⟩) nl.toNat nc.toNat,_,G',.inl ?_,q1,q2,q3,?_,q4⟩
 ·have h48:(2:Int) ^ 48=281474976710656:=by decide
  have n1:¬ (nc<0∨(281474976710656:Int)<(bytes:Int) * nc):=by rw [h48] at hb'; omega
  have n2:¬ (nl<0):=by omega
  have n3:¬ (nc<nl):=by omega
  by_cases hz0:nc.toNat * sz=0
  ·have hc0:nc.toNat=0:=by
    rcases Nat.mul_eq_zero.1 hz0 with q | q
    ·exact q
    ·exact absurd q h0
   have f1:nc=0:=by omega
   have f2:nl=0:=by omega
   have e3:∀ (f:Nat→Value),(Array.range 0).map f=#[]:=fun f=>by apply Array.ext'; simp
   have e4:(0:Nat) * z.length=0:=Nat.zero_mul _
   subst f1; subst f2
   simp only [Int.toNat_zero,e4,e3]
   simp [execOp,ho,Instr.makeSlice,run_underlying hu,j1,j2,asInt,asIntOf,typeInfo,hi,hwl,hwc,hib,szOf_run hn,newRow,e3]
  ·simp [execOp,ho,Instr.makeSlice,run_underlying hu,j1,j2,asInt,asIntOf,typeInfo,hi,hwl,hwc,hib,szOf_run hn,n1,n2,n3,hz0,h1,newRow,hzl]
 ·have:=VR.rsl (G:=G') (w:=w.alloc (.cells ((Array.range (nc.toNat * z.length)).map (v.cells[· % v.cells.size]!)) el)) 2 m.H.length 0 nl.toNat _ _ _ (by omega) q5 (by omega)
  simpa using this
end
end Go.Vm
namespace Go.Vm
section
variable {P:Program} {h:Hint} {ds:List (Option Nat)} {G:Gh} {w:World} {m:Mem} {ρ:X→V} {e:Operand→Value} {k:Bool→Nat→Prop}
theorem isl_elem {t:Bool} {es:List (List V)} {x:Value} {r q:Nat} {c:List V} (hx:VR G w r (.isl t es) x) (hq:es[q]?=some c):
  ∃ b o cp,x=.slice (some ⟨b,o,none⟩) es.length cp∧∀ r',VR G w r' (.ip t c 0) (.pointer (some ⟨b,o+q * c.length,none⟩)):=by
 cases hx with
 | isl0=>simp at hq
 | isl _ _ _ b o sz cp x hne hc hsz hf hx hv=>
  have hlt:=(List.getElem?_eq_some_iff.1 hq).1
  have hcl:c.length=sz:=hsz c (List.mem_of_getElem? hq)
  refine ⟨b,o,cp,rfl,fun r'=>?_⟩
  have:=VR.ip (G:=G) (w:=w) r' t c 0 b (o+q * sz) (fun j=>x q j) (hf c (List.mem_of_getElem? hq)) (fun j hj=>hx q j hlt (by omega)) (fun j v hj=>hv q j c v hq hj)
  rw [hcl]
  simpa using this
theorem iaSV_ok {sz:Nat} {x i v:V} {a y:Value} (hm:MR G w m) (hx:VR G w 2 x a) (hi:VR G w 2 i y) (hv:iaSV sz m x i=some v):
  ∃ (ad:Addr) (n c:Nat) (kk:IntKind) (q:Nat),a=.slice (some ad) n c∧y=.int kk q∧q<n∧VR G w 2 v (.pointer (some (ad.add (q * sz)))):=by
 cases x with
 | isl t es=>
  simp only [iaSV] at hv
  split at hv
  ·rename_i q hq
   split at hv
   ·rename_i c hc
    split at hv
    ·rename_i hsz
     cases hv
     obtain ⟨hlt,kk,hy⟩:=asIx_ok hi hq
     obtain ⟨b,o,cp,rfl,hp⟩:=isl_elem hx hc
     exact ⟨_,_,_,kk,q,rfl,hy,hlt,by rw [add_plain,← hsz]; exact hp 2⟩
    ·cases hv
   ·cases hv
  ·cases hv
 | osl hh j es=>
  simp only [iaSV] at hv
  split at hv
  ·rename_i q hq
   split at hv
   ·rename_i c hc
    split at hv
    ·rename_i hsz
     cases hv
     obtain ⟨hlt,kk,hy⟩:=asIx_ok hi hq
     cases hx with
     | osl _ _ _ _ _ n _ hi'=>
      rcases ils_cases hi' with ⟨rfl,_⟩ | ⟨_,hi'⟩
      ·simp at hc
      obtain ⟨b,o,cp,rfl,hp⟩:=isl_elem hi' hc
      exact ⟨_,_,_,kk,q,rfl,hy,hlt,by rw [add_plain,← hsz]; exact hp 2⟩
    ·cases hv
   ·cases hv
  ·cases hv
 | rsl id off len=>
  simp only [iaSV] at hv
  split at hv
  ·rename_i q hq
   obtain ⟨hlt,kk,hy⟩:=asIx_ok hi hq
   split at hv
   ·rename_i es he
    split at hv
    ·rename_i c hc
     split at hv
     ·rename_i hsz
      cases hv
      cases hx with
      | rsl _ _ _ _ b s cap hr hb hle=>
       obtain ⟨b',s',c',h1,h2⟩:=hm.arr id es he
       rw [hb] at h1; cases h1
       obtain ⟨_,_,_,_,_,h4,_⟩:=h2
       have hs:s=sz:=by rw [← hsz]; exact (h4 c (List.mem_of_getElem? hc)).symm
       subst hs
       refine ⟨_,_,_,kk,q,rfl,hy,hlt,?_⟩
       rw [add_plain,← Nat.add_mul]
       exact .ptr 2 id (off+q) 0 b s cap (by omega) hb
      | rsl0=>omega
     ·cases hv
    ·cases hv
   ·cases hv
  ·cases hv
 | asl id idx off len sz'=>
  simp only [iaSV] at hv
  split at hv
  ·rename_i q hq
   obtain ⟨hlt,kk,hy⟩:=asIx_ok hi hq
   split at hv
   ·rename_i hsz
    subst hsz
    cases hv
    cases hx with
    | asl _ _ _ _ _ _ b s cap c hr hb hle=>
     refine ⟨_,_,_,kk,q,rfl,hy,hlt,?_⟩
     rw [add_plain,Nat.add_assoc]
     exact .ptr 2 id idx _ b s cap (by omega) hb
    | asl0=>omega
   ·cases hv
  ·cases hv
 | lsl j off len sz'=>
  simp only [iaSV] at hv
  split at hv
  ·rename_i q hq
   obtain ⟨hlt,kk,hy⟩:=asIx_ok hi hq
   split at hv
   ·rename_i hsz
    subst hsz
    cases hv
    cases hx with
    | lsl _ _ _ _ _ b c hr hb hle=>
     refine ⟨_,_,_,kk,q,rfl,hy,hlt,?_⟩
     rw [add_plain]
     exact .lp 2 j _ b (by omega) hb
    | lsl0=>omega
   ·cases hv
  ·cases hv
 | _=>simp [iaSV] at hv
theorem x_iaS {o:Oper} {t el:TypeId} {x i:Operand} {xx xi:X} {sz:Nat} {v:V} (hρ:OpR h ds G w ρ e) (hm:MR G w m) (ho:o.op=.indexAddr t x i)
  (hu:P.underlying t=some (.slice el)) (hn:szOf P el=some sz) (hx:cX h ds x=some xx) (hi:cX h ds i=some xi) (hv:iaSV sz m (ρ xx) (ρ xi)=some v):
  Res ((execOp e o).run P w) G w m v m k:=by
 obtain ⟨ad,n,c,kk,q,h1,h2,h3,h4⟩:=iaSV_ok hm (hρ _ _ hx) (hρ _ _ hi) hv
 refine .same hm ?_ h4
 simp [execOp,ho,h1,h2,Instr.indexAt,asIntOf,run_underlying hu,h3,szOf_run hn]
/-! ### lengths -/
theorem lenV_ok {x:V} {a:Value} {n:Nat} (hx:VR G w 2 x a) (hv:lenV x=some n):(∃ s,a=.string s∧s.size=n)∨∃ b c,a=.slice b n c:=by
 cases hx<;>simp only [lenV,reduceCtorEq,Option.some.injEq] at hv<;>first
  | (subst hv; exact .inr ⟨_,_,rfl⟩)
  | (subst hv; exact .inl ⟨_,rfl,rfl⟩)
  | skip
 rename_i hi _
 subst hv
 rcases ils_cases hi with ⟨rfl,rfl⟩ | ⟨_,hi⟩
 ·exact .inr ⟨_,_,rfl⟩
 cases hi with
 | isl0=>exact .inr ⟨_,_,rfl⟩
 | isl=>exact .inr ⟨_,_,rfl⟩
theorem args_one {a:Array Operand} {y:Operand} (ha:a.toList=[y]):a=#[y]:=by
 apply Array.ext'; simpa using ha
theorem args_two {a:Array Operand} {x y:Operand} (ha:a.toList=[x,y]):a=#[x,y]:=by
 apply Array.ext'; simpa using ha
theorem x_len {o:Oper} {cl:Call} {y:Operand} {xx:X} {t:TypeId} {d:TypeDesc} {n:Nat} (hρ:OpR h ds G w ρ e) (hm:MR G w m) (ho:o.op=.call cl)
  (hc:cl.callee=.builtin .len) (ha:cl.args.toList=[y]) (ht:cl.argTypes[0]?=some t) (hu:P.underlying t=some d) (hd:(d=.string)∨∃ el,d=.slice el)
  (hx:cX h ds y=some xx) (hv:lenV (ρ xx)=some n) (hk:d=.string↔∃ s,ρ xx=.str s):Res ((execOp e o).run P w) G w m (.int .i64 n) m k:=by
 refine .same hm ?_ (.int _ _ _)
 have h0:=args_one ha
 rcases lenV_ok (hρ _ _ hx) hv with ⟨s,h1,h2⟩ | ⟨b,c,h1⟩
 ·have:d=.string:=by
   rcases hd with hd | ⟨el,rfl⟩
   ·exact hd
   ·refine hk.2 ?_
    have hxx:=hρ _ _ hx
    rw [h1] at hxx
    generalize ρ xx=u at hxx hv
    cases hxx<;>first | exact ⟨_,rfl⟩ | (simp [lenV] at hv; done) | skip
    rename_i hi _
    rcases ils_cases hi with ⟨_,h⟩ | ⟨_,hi⟩
    ·cases h
    ·cases hi
  subst this
  simp [execOp,ho,hc,resolve,invoke,builtin,Builtin.len_,h0,ht,h1,run_underlying hu,h2,goInt]
 ·have:∃ el,d=.slice el:=by
   rcases hd with rfl | hd
   ·obtain ⟨s,hs⟩:=hk.1 rfl
    have hxx:=hρ _ _ hx
    rw [hs,h1] at hxx
    cases hxx
   ·exact hd
  obtain ⟨el,rfl⟩:=this
  simp [execOp,ho,hc,resolve,invoke,builtin,Builtin.len_,h0,ht,h1,run_underlying hu,goInt]
theorem x_lenA {o:Oper} {cl:Call} {y:Operand} {t:TypeId} {n:Nat} {el:TypeId} (hm:MR G w m) (ho:o.op=.call cl)
  (hc:cl.callee=.builtin .len) (ha:cl.args.toList=[y]) (ht:cl.argTypes[0]?=some t) (hu:P.underlying t=some (.array n el)):
  Res ((execOp e o).run P w) G w m (.int .i64 n) m k:=by
 refine .same hm ?_ (.int _ _ _)
 have h0:=args_one ha
 simp [execOp,ho,hc,resolve,invoke,builtin,Builtin.len_,h0,ht,run_underlying hu,goInt]
/-! ### nil -/
theorem eqGuard_nn {op:BinOp} {t:TypeId} {x y:Operand} {a b:Value} (h1:a≠.nilIface) (h2:∀ cs,a≠.agg cs) (w:World):(eqGuard op t x y a b).run P w=.ok () w:=by
 cases a<;>first | exact absurd rfl h1 | exact absurd rfl (h2 _) | (cases op<;>simp [eqGuard])
theorem isNil_ok {kk:NK} {x:V} {a:Value} {b:Bool} (hx:VR G w 2 x a) (hv:isNil kk x=some b):
  match kk,b with
  | .ptr,true=>a=.pointer none
  | .ptr,false=>∃ z,a=.pointer (some z)
  | .slice,true=>a=.slice none 0 0
  | .slice,false=>∃ z n c,a=.slice (some z) n c
  | .map,true=>a=.map none
  | .map,false=>∃ z,a=.map (some z)
  | .func,true=>a=.nilFunc
  | .func,false=>∃ f xs ys,a=.func f xs ys:=by
 cases kk<;>cases x<;>simp only [isNil,reduceCtorEq,Option.some.injEq] at hv<;>(try subst hv)<;>(try (cases hx; first | rfl | exact ⟨_,rfl⟩ | exact ⟨_,_,_,rfl⟩; done))
 all_goals try (cases hx<;>first | exact ⟨_,_,_,rfl⟩ | exact ⟨_,rfl⟩; done)
 ·rename_i hh j es
  cases es with
  | nil=>
   simp [isNil] at hv; subst hv
   cases hx with
   | osl _ _ _ _ _ n _ hi=>
    rcases ils_cases hi with ⟨_,rfl⟩ | ⟨h,_⟩
    ·rfl
    ·exact absurd rfl h
  | cons q es=>
   simp [isNil] at hv; subst hv
   cases hx with
   | osl _ _ _ _ _ n _ hi=>
    rcases ils_cases hi with ⟨h,_⟩ | ⟨_,hi⟩
    ·cases h
    ·cases hi; exact ⟨_,_,_,rfl⟩
end
end Go.Vm
namespace Go.Vm
section
variable {P:Program} {h:Hint} {ds:List (Option Nat)} {G:Gh} {w:World} {m:Mem} {ρ:X→V} {e:Operand→Value} {k:Bool→Nat→Prop}
theorem x_eqn {o:Oper} {op:BinOp} {t yt:TypeId} {x y:Operand} {xx xy:X} {kk:NK} {b:Bool} (hρ:OpR h ds G w ρ e) (hm:MR G w m) (ho:o.op=.binOp op t x y yt)
  (hop:op=.eql∨op=.neq) (hu:match kk with
   | .ptr=>∃ el,P.underlying t=some (.pointer el)
   | .slice=>∃ el,P.underlying t=some (.slice el)
   | .map=>∃ a b,P.underlying t=some (.map a b)
   | .func=>∃ a b c,P.underlying t=some (.func a b c)) (hx:cX h ds x=some xx) (hy:cX h ds y=some xy) (hb:eqnV kk (ρ xx) (ρ xy)=some b):
  Res ((execOp e o).run P w) G w m (.bool (if op=.neq then !b else b)) m k:=by
 have key:(e x≠.nilIface∧∀ cs,e x≠.agg cs)∧∀ w,(Op.equal t (e x) (e y)).run P w=.ok b w∧(∀ op',op'=.eql∨op'=.neq→binOp op' t (e x) (e y)=if op'=.neq then do pure (.bool (!(← Op.equal t (e x) (e y)))) else do pure (.bool (← Op.equal t (e x) (e y)))):=by
  unfold eqnV at hb
  have eqd:∀ (a c:Value) (r:Bool),(∀ (d:Nat) (w:World),(Op.equalIn (d+1) t a c).run P w=.ok r w)→∀ w,(Op.equal t a c).run P w=.ok r w:=fun a c r hh w=>hh 9999 w
  split at hb
  ·rename_i r h1 h2
   cases hb
   have i1:=isNil_ok (hρ _ _ hx) h1
   have i2:=isNil_ok (hρ _ _ hy) h2
   cases kk<;>cases b<;>simp only at i1 i2 hu<;>rw [i1]<;>(first | rw [i2] | (obtain ⟨z,i2⟩:=i2; rw [i2]) | (obtain ⟨z1,z2,z3,i2⟩:=i2; rw [i2]))
   all_goals (first
    | (obtain ⟨a,b,c,hu⟩:=hu; refine ⟨⟨by simp,by simp⟩,fun w=>⟨eqd _ _ _ (fun d w=>by simp [Op.equalIn,run_underlying hu]) w,fun op' ho'=>by rcases ho' with rfl | rfl<;>simp [binOp]⟩⟩)
    | (obtain ⟨a,b,hu⟩:=hu; refine ⟨⟨by simp,by simp⟩,fun w=>⟨eqd _ _ _ (fun d w=>by simp [Op.equalIn,run_underlying hu]) w,fun op' ho'=>by rcases ho' with rfl | rfl<;>simp [binOp]⟩⟩)
    | (obtain ⟨el,hu⟩:=hu; refine ⟨⟨by simp,by simp⟩,fun w=>⟨eqd _ _ _ (fun d w=>by simp [Op.equalIn,run_underlying hu]) w,fun op' ho'=>by rcases ho' with rfl | rfl<;>simp [binOp]⟩⟩))
  ·rename_i h1 h2
   cases hb
   have i1:=isNil_ok (hρ _ _ hx) h1
   have i2:=isNil_ok (hρ _ _ hy) h2
   cases kk<;>simp only at i1 i2 hu<;>rw [i2]<;>(first | (obtain ⟨z,i1⟩:=i1; rw [i1]) | (obtain ⟨z1,z2,z3,i1⟩:=i1; rw [i1]))
   all_goals (first
    | (obtain ⟨a,b,c,hu⟩:=hu; refine ⟨⟨by simp,by simp⟩,fun w=>⟨eqd _ _ _ (fun d w=>by simp [Op.equalIn,run_underlying hu]) w,fun op' ho'=>by rcases ho' with rfl | rfl<;>simp [binOp]⟩⟩)
    | (obtain ⟨a,b,hu⟩:=hu; refine ⟨⟨by simp,by simp⟩,fun w=>⟨eqd _ _ _ (fun d w=>by simp [Op.equalIn,run_underlying hu]) w,fun op' ho'=>by rcases ho' with rfl | rfl<;>simp [binOp]⟩⟩)
    | (obtain ⟨el,hu⟩:=hu; refine ⟨⟨by simp,by simp⟩,fun w=>⟨eqd _ _ _ (fun d w=>by simp [Op.equalIn,run_underlying hu]) w,fun op' ho'=>by rcases ho' with rfl | rfl<;>simp [binOp]⟩⟩))
  ·cases hb
 obtain ⟨⟨g1,g2⟩,hrun⟩:=key
 refine .same hm ?_ (.bool _ _)
 obtain ⟨r1,r2⟩:=hrun w
 have r2':=r2 op hop
 simp only [execOp,ho,Sem.run_bind,eqGuard_nn g1 g2,Result.andThen_ok]
 rw [r2']
 rcases hop with rfl | rfl<;>simp [r1]
/-! ### pieces -/
theorem asNat_ok {n q:Nat} {i:V} {x:Value} (hi:VR G w 2 i x) (hq:asNat n i=some q):q≤n∧∃ kk,x=.int kk q:=by
 cases i with
 | int kk z=>
  simp only [asNat] at hq
  split at hq
  ·rename_i hz
   cases hq
   refine ⟨by omega,kk,?_⟩
   rw [hi.int_inv]; congr 1; omega
  ·cases hq
 | _=>simp [asNat] at hq
def OptR (G:Gh) (w:World) (a:Option V) (x:Option Value):Prop:=
 match a,x with
 | none,none=>True
 | some v,some y=>VR G w 2 v y
 | _,_=>False
theorem cXo_ok (hρ:OpR h ds G w ρ e) {y:Option Operand} {x:Option X} (hx:cXo h ds y=some x):OptR G w (x.map ρ) (y.map e):=by
 cases y with
 | none=>simp [cXo] at hx; subst hx; trivial
 | some y=>
  simp only [cXo,Option.map_eq_some_iff] at hx
  obtain ⟨x',h1,rfl⟩:=hx
  exact hρ _ _ h1
theorem asNat_run {n q:Nat} {v:V} {y:Value} (hv:VR G w 2 v y) (hq:asNat n v=some q) (c:BoundsCode) (w':World):(Instr.sliceBound y n c).run P w'=.ok q w'∧q≤n:=by
 obtain ⟨a1,kk,rfl⟩:=asNat_ok hv hq
 refine ⟨?_,a1⟩
 have:(0:Int)≤q∧(q:Int)≤n:=by omega
 simp [Instr.sliceBound,asIntOf,this]
theorem bnd_run {isSl:Bool} {n c C l hh:Nat} {lo hi:Option V} {xlo xhi:Option Value} (h1:OptR G w lo xlo) (h2:OptR G w hi xhi) (hc:c≤C) (hn:n≤c) (hb:bnd n c lo hi=some (l,hh)) (w':World):
  (Instr.sliceBounds isSl n C xlo xhi none).run P w'=.ok (l,hh,C) w'∧l≤hh∧hh≤c:=by
 have up:∀ {q:Nat} {v:V} {y:Value},VR G w 2 v y→asNat c v=some q→∀ (b:BoundsCode),(Instr.sliceBound y C b).run P w'=.ok q w'∧q≤c:=by
  intro q v y hv hq b
  obtain ⟨a1,kk,rfl⟩:=asNat_ok hv hq
  refine ⟨?_,a1⟩
  have:(0:Int)≤q∧(q:Int)≤C:=by omega
  simp [Instr.sliceBound,asIntOf,this]
 unfold Instr.sliceBounds
 cases hi with
 | none=>
  cases xhi with
  | some _=>exact h2.elim
  | none=>
   cases lo with
   | none=>
    cases xlo with
    | some _=>exact h1.elim
    | none=>simp [bnd] at hb; obtain ⟨rfl,rfl⟩:=hb; simp; omega
   | some v=>
    cases xlo with
    | none=>exact h1.elim
    | some y=>
     cases hq:asNat n v with
     | none=>simp [bnd,hq] at hb
     | some q=>
      simp [bnd,hq] at hb; obtain ⟨rfl,rfl⟩:=hb
      obtain ⟨r1,r2⟩:=asNat_run (P:=P) (show VR G w 2 v y from h1) hq .sliceB w'
      simp [r1]; omega
 | some u=>
  cases xhi with
  | none=>exact h2.elim
  | some z=>
   cases hz:asNat c u with
   | none=>simp [bnd,hz] at hb
   | some H=>
    obtain ⟨e1,e2⟩:=up (show VR G w 2 u z from h2) hz (if isSl then .sliceAcap else .sliceAlen)
    cases lo with
    | none=>
     cases xlo with
     | some _=>exact h1.elim
     | none=>simp [bnd,hz] at hb; obtain ⟨rfl,rfl⟩:=hb; simp [e1]; omega
    | some v=>
     cases xlo with
     | none=>exact h1.elim
     | some y=>
      cases hq:asNat H v with
      | none=>simp [bnd,hz,hq] at hb
      | some q=>
       simp [bnd,hz,hq] at hb; obtain ⟨rfl,rfl⟩:=hb
       obtain ⟨r1,r2⟩:=asNat_run (P:=P) (show VR G w 2 v y from h1) hq .sliceB w'
       simp [e1,r1]; omega
theorem bnd3_run {n c C l hh:Nat} {lo:Option V} {u v:V} {xlo:Option Value} {z y:Value} (h1:OptR G w lo xlo) (h2:VR G w 2 u z) (h3:VR G w 2 v y) (hn:n≤C) (hc:asNat n v=some c)
  (hb:bnd c c lo (some u)=some (l,hh)) (w':World):(Instr.sliceBounds true n C xlo (some z) (some y)).run P w'=.ok (l,hh,c) w'∧l≤hh∧hh≤c:=by
 obtain ⟨a1,kk,rfl⟩:=asNat_ok h3 hc
 have up:(Instr.sliceBound (.int kk c) C .slice3Acap).run P w'=.ok c w':=by
  have:(0:Int)≤c∧(c:Int)≤C:=by omega
  simp [Instr.sliceBound,asIntOf,this]
 unfold Instr.sliceBounds
 cases hz:asNat c u with
 | none=>simp [bnd,hz] at hb
 | some H=>
  obtain ⟨e1,e2⟩:=asNat_run (P:=P) h2 hz .slice3B w'
  cases lo with
  | none=>
   cases xlo with
   | some _=>exact h1.elim
   | none=>simp [bnd,hz] at hb; obtain ⟨rfl,rfl⟩:=hb; simp [up,e1]; omega
  | some v'=>
   cases xlo with
   | none=>exact h1.elim
   | some y'=>
    cases hq:asNat H v' with
    | none=>simp [bnd,hz,hq] at hb
    | some q=>
     simp [bnd,hz,hq] at hb; obtain ⟨rfl,rfl⟩:=hb
     obtain ⟨r1,r2⟩:=asNat_run (P:=P) (show VR G w 2 v' y' from h1) hq .slice3C w'
     simp [up,e1,r1]; omega
theorem some_if {p:Prop} [Decidable p] {α:Type} (a:α) (f:α→α):(if p then some a else (some a).map f)=some (if p then a else f a):=by split<;>rfl
theorem isl_cut {t:Bool} {es r:List (List V)} {sz l hh n c:Nat} {b o:Nat} {lv:Nat} {a:Option Addr} (hx:VR G w lv (.isl t es) (.slice a n c)) (hl:l≤hh) (hh':hh≤es.length)
  (hcut:cut sz es l hh=some r):n=es.length∧es.length≤c∧∀ r',VR G w r' (.isl t r) (.slice (if c=l then a else a.map (·.add (l * sz))) (hh - l) (c - l)):=by
 have hlen:((es.take hh).drop l).length=hh - l:=by simp; omega
 unfold cut at hcut
 cases hx with
 | isl0=>
  simp at hh'
  subst hh'
  have:l=0:=by omega
  subst this
  simp at hcut; subst hcut
  exact ⟨rfl,by simp,fun r'=>by rw [some_if]; exact .isl0 _ _ _ _⟩
 | isl _ _ _ b o s cp x hne hc hsz hf hx hv=>
  refine ⟨rfl,hc,fun r'=>?_⟩
  split at hcut
  ·rename_i hnil
   cases hcut
   rw [hnil] at hlen
   have:hh - l=0:=by simpa using hlen.symm
   rw [this,some_if]
   exact .isl0 _ _ _ _
  ·rename_i e1 r1 hcons
   split at hcut
   ·rename_i he
    cases hcut
    have hpos:0<hh - l:=by rw [← hlen,hcons]; simp
    have hs:s=sz:=by
     rw [← he]
     refine (hsz e1 ?_).symm
     have:e1∈(es.take hh).drop l:=by rw [hcons]; simp
     exact List.mem_of_mem_take (List.mem_of_mem_drop this)
    subst hs
    rw [if_neg (by omega)]
    have hget:∀ i,i<hh - l→((e1 :: r1)[i]?=es[l+i]?):=by
     intro i hi
     rw [← hcons,List.getElem?_drop,List.getElem?_take_of_lt (by omega)]
    have hmem:∀ q∈(e1 :: r1),q∈es:=by
     intro q hq
     rw [← hcons] at hq
     exact List.mem_of_mem_take (List.mem_of_mem_drop hq)
    have hl2:(e1 :: r1).length=hh - l:=by rw [← hcons,hlen]
    have:=VR.isl (G:=G) (w:=w) r' t (e1 :: r1) b (o+l * s) s (c - l) (fun i j=>x (l+i) j) (by simp) (by rw [hl2]; omega) (fun q hq=>hsz q (hmem q hq)) (fun q hq=>hf q (hmem q hq))
     (fun i j hi hj=>by
      have h3:=hx (l+i) j (by rw [hl2] at hi; omega) hj
      rw [Nat.add_mul,← Nat.add_assoc] at h3
      exact h3)
     (fun i j q v hq hv'=>by
      have hi:i<hh - l:=by rw [← hl2]; exact (List.getElem?_eq_some_iff.1 hq).1
      rw [hget i hi] at hq
      exact hv (l+i) j q v hq hv')
    rw [hl2] at this
    simpa [add_plain] using this
   ·cases hcut
theorem x_slc {o:Oper} {t:TypeId} {el:TypeId} {x:Operand} {lo hi mx:Option Operand} {xx:X} {xlo xhi xmx:Option X} {sz:Nat} {v:V} (hρ:OpR h ds G w ρ e) (hm:MR G w m)
  (ho:o.op=.slice t x lo hi mx) (hu:P.underlying t=some (.slice el)) (hn:szOf P el=some sz) (hx:cX h ds x=some xx) (h1:cXo h ds lo=some xlo) (h2:cXo h ds hi=some xhi)
  (h3:cXo h ds mx=some xmx) (hsz0:sz≠0) (hv:slcV sz m (ρ xx) (xlo.map ρ) (xhi.map ρ) (xmx.map ρ)=some v):Res ((execOp e o).run P w) G w m v m k:=by
 have r1:=cXo_ok hρ h1
 have r2:=cXo_ok hρ h2
 have r3:=cXo_ok hρ h3
 have hX:=hρ _ _ hx
 generalize hq:ρ xx=q at hX hv
 generalize hz:e x=z at hX
 have fin:∀ (a:Option Addr) (n C l hh M:Nat),z=.slice a n C→(Instr.sliceBounds true n C (lo.map e) (hi.map e) (mx.map e)).run P w=.ok (l,hh,M) w →
   VR G w 2 v (.slice (if M=l then a else a.map (·.add (l * sz))) (hh - l) (M - l))→Res ((execOp e o).run P w) G w m v m k:=by
  intro a n C l hh M hz' hb hr
  refine .same hm ?_ hr
  simp [execOp,ho,hz,hz',Instr.sliceAt,Instr.slice,run_underlying hu,hb,szOf_run hn]
 cases xmx with
 | none=>
  cases mx with
  | some _=>exact r3.elim
  | none=>
   simp only [Option.map_none] at hv fin r3
   cases q with
   | isl tt es=>
    simp only [slcV,hsz0,if_false] at hv
    split at hv
    ·rename_i l hh hb
     simp only [Option.map_eq_some_iff] at hv
     obtain ⟨r,hcut,rfl⟩:=hv
     have hsl:∃ a C,z=.slice a es.length C∧es.length≤C:=by
      cases hX with
      | isl0=>exact ⟨_,_,rfl,by simp⟩
      | isl _ _ _ _ _ _ _ _ _ hc=>exact ⟨_,_,rfl,hc⟩
     obtain ⟨a,C,rfl,hC⟩:=hsl
     obtain ⟨b1,b2,b3⟩:=bnd_run (P:=P) (isSl:=true) r1 r2 hC (Nat.le_refl _) hb w
     obtain ⟨_,_,c3⟩:=isl_cut (b:=0) (o:=0) hX b2 b3 hcut
     exact fin a _ C l hh C rfl b1 (c3 2)
    ·cases hv
   | osl hf j es=>
    simp only [slcV,hsz0,if_false] at hv
    split at hv
    ·rename_i l hh hb
     cases hX with
     | osl _ _ _ _ _ n _ hi'=>
      rcases ils_cases hi' with ⟨rfl,rfl⟩ | ⟨hne,hi'⟩
      ·simp at hv
       subst hv
       obtain ⟨b1,b2,b3⟩:=bnd_run (P:=P) (isSl:=true) (C:=0) r1 r2 (by simp) (by simp) hb w
       simp at b3
       have e2:l=0:=by omega
       subst b3; subst e2
       exact fin _ _ _ _ _ _ rfl b1 (by simpa using VR.nils 2)
      have hemp:es.isEmpty=false:=by simpa using hne
      rw [hemp] at hv
      simp only [Bool.false_eq_true,if_false,Option.map_eq_some_iff] at hv
      obtain ⟨r,hcut,rfl⟩:=hv
      have hsl:∃ a C,z=.slice a es.length C∧es.length≤C:=by
       cases hi' with
       | isl0=>exact ⟨_,_,rfl,by simp⟩
       | isl _ _ _ _ _ _ _ _ _ hc=>exact ⟨_,_,rfl,hc⟩
      obtain ⟨a,C,rfl,hC⟩:=hsl
      obtain ⟨b1,b2,b3⟩:=bnd_run (P:=P) (isSl:=true) r1 r2 hC (Nat.le_refl _) hb w
      obtain ⟨_,_,c3⟩:=isl_cut (b:=0) (o:=0) hi' b2 b3 hcut
      exact fin a _ C l hh C rfl b1 (c3 2)
    ·cases hv
   | rsl id off n=>
    simp only [slcV,hsz0,if_false] at hv
    split at hv
    ·rename_i es he
     split at hv
     ·rename_i l hh hb
      split at hv
      ·rename_i hsz
       cases hv
       obtain ⟨b',s',c',g1,g2⟩:=hm.arr id es he
       obtain ⟨cs,ty,_,hcs,hec,hes,_⟩:=g2
       cases hX with
       | rsl _ _ _ _ b s cap hr hbb hle=>
        rw [hbb] at g1; obtain ⟨rfl,rfl,rfl⟩:b=b'∧s=s'∧cap=c':=by simpa using g1
        obtain ⟨b1,b2,b3⟩:=bnd_run (P:=P) (isSl:=true) (C:=cap - off) r1 r2 (by omega) (by omega) hb w
        refine fin _ _ _ _ _ _ rfl b1 ?_
        rcases Nat.eq_zero_or_pos l with hl | hl
        ·subst hl
         have:=VR.rsl (G:=G) (w:=w) 2 id off hh b s cap (by omega) hbb (by omega)
         by_cases q:cap - off=0<;>simp [q,add_plain]<;>simpa [q] using this
        ·have hs:s=sz:=by
          rcases hsz.2 with h0 | h0
          ·omega
          ·cases es with
           | nil=>simp at b3; omega
           | cons e1 es=>simp at h0; rw [← h0]; exact (hes e1 (by simp)).symm
         subst hs
         by_cases q:cap - off=l
         ·rw [if_pos q]
          have e1:hh - l=0:=by omega
          have e2:cap - off - l=0:=by omega
          rw [e1,e2]
          exact .rsl0 2 id (off+l) b s cap _ (by omega) hbb (by omega)
         ·rw [if_neg q]
          have:=VR.rsl (G:=G) (w:=w) 2 id (off+l) (hh - l) b s cap (by omega) hbb (by omega)
          rw [Nat.add_mul] at this
          simpa [add_plain,Nat.sub_sub] using this
       | rsl0 _ _ _ b s cap a hr hbb hle=>
        rw [hbb] at g1; obtain ⟨rfl,rfl,rfl⟩:b=b'∧s=s'∧cap=c':=by simpa using g1
        obtain ⟨b1,b2,b3⟩:=bnd_run (P:=P) (isSl:=true) (C:=0) r1 r2 (by omega) (by omega) hb w
        have e1:hh=0:=by omega
        have e2:l=0:=by omega
        subst e1; subst e2
        refine fin _ _ _ _ _ _ rfl b1 ?_
        simpa using VR.rsl0 (G:=G) (w:=w) 2 id off b s cap a (by omega) hbb hle
      ·cases hv
     ·cases hv
    ·cases hv
   | nils=>
    simp only [slcV,hsz0,if_false] at hv
    split at hv
    ·rename_i p hb
     obtain ⟨l,hh⟩:=p
     cases hv
     cases hX
     obtain ⟨b1,b2,b3⟩:=bnd_run (P:=P) (isSl:=true) (C:=0) r1 r2 (by omega) (by omega) hb w
     have e1:hh=0:=by omega
     have e2:l=0:=by omega
     subst e1; subst e2
     exact fin _ _ _ _ _ _ rfl b1 (by simpa using VR.nils 2)
    ·cases hv
   | emp=>
    simp only [slcV,hsz0,if_false] at hv
    split at hv
    ·rename_i p hb
     obtain ⟨l,hh⟩:=p
     cases hv
     cases hX
     obtain ⟨b1,b2,b3⟩:=bnd_run (P:=P) (isSl:=true) (C:=0) r1 r2 (by omega) (by omega) hb w
     have e1:hh=0:=by omega
     have e2:l=0:=by omega
     subst e1; subst e2
     exact fin _ _ _ _ _ _ rfl b1 (by simpa using VR.emp 2 _)
    ·cases hv
   | _=>simp [slcV,hsz0] at hv
 | some xm=>
  cases mx with
  | none=>exact r3.elim
  | some mx'=>
   cases xhi with
   | none=>simp [slcV,hsz0] at hv
   | some xh=>
    cases hi with
    | none=>exact r2.elim
    | some hi'=>
     simp only [Option.map_some] at hv fin r3 r2
     simp only [slcV,hsz0,if_false] at hv
     split at hv
     ·cases hv
     ·rename_i n hsl
      split at hv
      ·cases hv
      ·rename_i c hc
       split at hv
       ·rename_i p hb
        obtain ⟨l,hh⟩:=p
        have hz:∃ a C,z=.slice a n C∧n≤C:=by
         cases q<;>simp only [slLen,Option.some.injEq,reduceCtorEq] at hsl<;>subst hsl
         ·cases hX; exact ⟨_,_,rfl,Nat.le_refl _⟩
         ·cases hX; exact ⟨_,_,rfl,Nat.le_refl _⟩
         ·cases hX with
          | isl0=>exact ⟨_,_,rfl,by simp⟩
          | isl _ _ _ _ _ _ _ _ _ hc'=>exact ⟨_,_,rfl,hc'⟩
         ·cases hX with
          | osl _ _ _ _ _ n _ hi'=>
           rcases ils_cases hi' with ⟨rfl,rfl⟩ | ⟨_,hi'⟩
           ·exact ⟨_,_,rfl,by simp⟩
           cases hi' with
           | isl0=>exact ⟨_,_,rfl,by simp⟩
           | isl _ _ _ _ _ _ _ _ _ hc'=>exact ⟨_,_,rfl,hc'⟩
         ·cases hX with
          | rsl _ _ _ _ b s cap hr hbb hle=>exact ⟨_,_,rfl,by omega⟩
          | rsl0=>exact ⟨_,_,rfl,by omega⟩
        obtain ⟨a,C,hz',hC⟩:=hz
        obtain ⟨b1,b2,b3⟩:=bnd3_run (P:=P) r1 r2 r3 hC hc hb w
        refine fin a n C l hh c hz' b1 ?_
        split at hv
        ·rename_i h0
         cases hv
         subst h0
         have e1:hh=0:=by omega
         have e2:l=0:=by omega
         subst e1; subst e2
         have hnil:∃ bb,isNil .slice q=some bb:=by
          cases q<;>simp only [slLen,reduceCtorEq] at hsl<;>try exact ⟨_,rfl⟩
          rename_i es
          cases es<;>exact ⟨_,rfl⟩
         obtain ⟨bb,hbb⟩:=hnil
         have:=isNil_ok hX hbb
         rw [hz'] at this
         cases bb with
         | true=>
          simp only at this
          cases this
          rw [hbb]
          simpa using VR.nils 2
         | false=>
          simp only at this
          obtain ⟨z',n',c',he⟩:=this
          cases he
          rw [hbb]
          simpa using VR.emp 2 _
        ·cases hv; exact .undef _ _
       ·cases hv
/-! ### pieces of texts -/
theorem extract_str (l:List UInt8) (a b:Nat):(ByteArray.mk l.toArray).extract a b=ByteArray.mk ((l.take b).drop a).toArray:=by
 apply ByteArray.ext
 rw [ByteArray.data_extract]
 simp [List.extract_eq_take_drop,List.drop_take]
theorem x_slcS {o:Oper} {t:TypeId} {x:Operand} {lo hi mx:Option Operand} {xx:X} {xlo xhi xmx:Option X} {v:V} (hρ:OpR h ds G w ρ e) (hm:MR G w m)
  (ho:o.op=.slice t x lo hi mx) (hu:P.underlying t=some .string) (hx:cX h ds x=some xx) (h1:cXo h ds lo=some xlo) (h2:cXo h ds hi=some xhi)
  (h3:cXo h ds mx=some xmx) (hv:slcV 0 m (ρ xx) (xlo.map ρ) (xhi.map ρ) (xmx.map ρ)=some v):Res ((execOp e o).run P w) G w m v m k:=by
 have r1:=cXo_ok hρ h1
 have r2:=cXo_ok hρ h2
 have r3:=cXo_ok hρ h3
 have hX:=hρ _ _ hx
 cases xmx with
 | some xm=>simp [slcV] at hv
 | none=>
  cases mx with
  | some _=>exact r3.elim
  | none=>
   simp only [Option.map_none,slcV,if_true] at hv
   generalize hq:ρ xx=q at hX hv
   generalize hz:e x=z at hX
   cases q with
   | str s=>
    simp only at hv
    split at hv
    ·rename_i l hh hb
     cases hv
     cases hX
     obtain ⟨b1,b2,b3⟩:=bnd_run (P:=P) (isSl:=false) r1 r2 (Nat.le_refl _) (Nat.le_refl _) hb w
     refine .same hm ?_ (.str _ _)
     have hsz:(ByteArray.mk s.toArray).size=s.length:=by simp [ByteArray.size]
     simp [execOp,ho,hz,Instr.sliceAt,Instr.slice,run_underlying hu,hsz,b1,extract_str]
    ·cases hv
   | _=>simp at hv
end
end Go.Vm
namespace Go.Vm
section
variable {P:Program} {h:Hint} {ds:List (Option Nat)} {G:Gh} {w:World} {m:Mem} {ρ:X→V} {e:Operand→Value} {k:Bool→Nat→Prop}
theorem Le.heap {w':World} (hw:w'.heap=w.heap):Le G w G w':=
 ⟨fun _ _ _ h=>h,fun t b o _=>cell?_congr (by rw [hw]),fun _ _ h=>h,fun _ n h=>⟨n,h,Nat.le_refl _,fun _=>rfl⟩⟩
theorem MR.heap {w':World} (hw:w'.heap=w.heap) (hm:MR G w m):MR G w' m where
 T0:=hm.T0
 T1:=hm.T1
 Ef:=hm.Ef
 Elt t b o h:=by rw [hw]; exact hm.Elt t b o h
 vars j b h:=by
  obtain ⟨cs,h1,h2⟩:=hm.vars j b h
  exact ⟨cs,h1,h2.mono (.heap hw) (by rw [hw])⟩
 toks j b c s h:=by
  obtain ⟨n,h1,h2⟩:=hm.toks j b c s h
  exact ⟨n,h1,h2.mono (by rw [hw]) (fun _ _=>Iff.rfl)⟩
 arr id es h:=by
  obtain ⟨b,s,c,h1,h2⟩:=hm.arr id es h
  exact ⟨b,s,c,h1,h2.mono (.heap hw) (by rw [hw])⟩
 mp id es h:=by
  obtain ⟨b,h1,h2⟩:=hm.mp id es h
  exact ⟨b,h1,h2.mono (by rw [hw])⟩
 tok id n h:=by
  obtain ⟨b,c,s,h1,h2⟩:=hm.tok id n h
  exact ⟨b,c,s,h1,h2.mono (by rw [hw]) (fun _ _=>Iff.rfl)⟩
 fresh:=hm.fresh
 inj:=hm.inj
 noV:=hm.noV
 noH:=hm.noH
theorem Fr.heap {w':World} (hw:w'.heap=w.heap) (h1:w'.os=w.os) (h2:w'.tape=w.tape) (h3:w'.output=w.output):Fr G m w G m w':=
 ⟨h1,h2,h3,by rw [hw]; exact Nat.le_refl _,fun _ _ _=>by rw [hw],fun k _ h _=>⟨k,h⟩,fun _ _ _ _ _=>Iff.rfl,Nat.le_refl _,rfl,rfl⟩
theorem VR.heap {w':World} (hw:w'.heap=w.heap) {r:Nat} {v:V} {x:Value} (h:VR G w r v x):VR G w' r v x:=
 h.mono (k:=fun _ _=>False) (.heap hw) (.refl _ _) (fun _ _ h=>h)
/-! ### rows as cells -/
theorem rows_cells {b o s:Nat} {ns:List (List V)} (hs:∀ q∈ns,q.length=s) (hc:∀ (i j:Nat) (q:List V) (v:V),ns[i]?=some q→q[j]?=some v→v.flat=true∧∃ x,w.cell? ⟨b,o+i * s+j,none⟩=some x∧VR G w 1 v x):
  ∃ xs:List Value,xs.length=ns.length * s∧(∀ k v,xs[k]?=some v→w.cell? ⟨b,o+k,none⟩=some v)∧RelA G w s ns.length ns xs.toArray:=by
 let xs:=(List.range (ns.length * s)).map fun k=>(w.cell? ⟨b,o+k,none⟩).getD undef
 have key:∀ i j,i<ns.length→j<s→i * s+j<ns.length * s:=by
  intro i j hi hj
  have:=Nat.mul_le_mul_right s (show i+1≤ns.length by omega)
  rw [Nat.add_mul,Nat.one_mul] at this
  omega
 refine ⟨xs,by simp [xs],fun k v hk=>?_,by simp [xs],Nat.le_refl _,hs,fun i j q v hq hv=>?_⟩
 ·have hkl:k<ns.length * s:=by have:=(List.getElem?_eq_some_iff.1 hk).1; simpa [xs] using this
  have hs0:0<s:=by
   rcases Nat.eq_zero_or_pos s with h0 | h0
   ·subst h0; simp at hkl
   ·exact h0
  have hi:k / s<ns.length:=by rw [Nat.div_lt_iff_lt_mul hs0]; exact hkl
  have hj:=Nat.mod_lt k hs0
  have hq:(ns[k / s]'hi).length=s:=hs _ (List.getElem_mem _)
  obtain ⟨_,x,hx,_⟩:=hc (k / s) (k % s) _ _ (List.getElem?_eq_getElem hi) (List.getElem?_eq_getElem (by rw [hq]; exact hj))
  have e:o+k / s * s+k % s=o+k:=by have:=Nat.div_add_mod k s; rw [Nat.mul_comm] at this; omega
  rw [e] at hx
  rw [hx]
  simp [xs,hkl,hx] at hk
  rw [hk]
 ·obtain ⟨f1,x,hx,f3⟩:=hc i j q v hq hv
  refine ⟨f1,x,?_,f3⟩
  have hi:=(List.getElem?_eq_some_iff.1 hq).1
  have hj:j<s:=by have:=hs q (List.mem_of_getElem? hq); rw [← this]; exact (List.getElem?_eq_some_iff.1 hv).1
  have:=key i j hi hj
  rw [Nat.add_assoc] at hx
  simp [xs,this,hx]
def Src (P:Program) (G:Gh) (w:World) (sz:Nat) (ns:List (List V)) (a:Value):Prop:=
 (∀ w':World,(Builtin.lenOf a).run P w'=.ok ns.length w')∧∃ xs:Array Value,(∀ w':World,w'.heap=w.heap→(Builtin.firstCells sz ns.length a).run P w'=.ok xs w')∧RelA G w sz ns.length ns xs
theorem Src.slice {b o c s:Nat} {ns:List (List V)} (hs:∀ q∈ns,q.length=s) (hc:∀ (i j:Nat) (q:List V) (v:V),ns[i]?=some q→q[j]?=some v→v.flat=true∧∃ x,w.cell? ⟨b,o+i * s+j,none⟩=some x∧VR G w 1 v x):
  Src P G w s ns (.slice (some ⟨b,o,none⟩) ns.length c):=by
 obtain ⟨xs,h1,h2,h3⟩:=rows_cells hs hc
 refine ⟨fun w'=>by simp [Builtin.lenOf],xs.toArray,fun w' hw'=>?_,h3⟩
 refine run_firstCells_some w' s ns.length ⟨b,o,none⟩ _ c xs (by rw [h1]) (fun j v hj=>?_)
 rw [add_plain,cell?_congr (w:=w) (w':=w') (by rw [hw'])]
 exact h2 j v hj
theorem Src.none (sz:Nat) (a:Option Addr) (c:Nat):Src P G w sz [] (.slice a 0 c):=by
 refine ⟨fun w'=>by simp [Builtin.lenOf],#[],fun w' hw'=>?_,by simp,Nat.le_refl _,by simp,by simp⟩
 cases a with
 | none=>simp [run_firstCells_none]
 | some b=>simpa using run_firstCells_some (P:=P) w' sz 0 b 0 c [] (by simp) (by simp)
theorem szAll_mem {sz:Nat} {es:List (List V)} (h:szAll sz es=true):∀ q∈es,q.length=sz:=fun q hq=>by
 have:=List.all_eq_true.1 h q hq; simpa using this
theorem Src.isl {t:Bool} {es:List (List V)} {a:Value} {r sz:Nat} (hx:VR G w r (.isl t es) a) (hz:szAll sz es=true):Src P G w sz es a:=by
 cases hx with
 | isl0=>exact .none _ _ _
 | isl _ _ _ b o s c x hne hc hsz hf hx hv=>
  have hs:s=sz:=by
   obtain ⟨q,hq⟩:=List.exists_mem_of_ne_nil es hne
   rw [← hsz q hq,szAll_mem hz q hq]
  subst hs
  refine .slice hsz fun i j q v hq hv'=>⟨hf q (List.mem_of_getElem? hq) v (List.mem_of_getElem? hv'),x i j,?_,(hv i j q v hq hv').up (by omega)⟩
  have hi:=(List.getElem?_eq_some_iff.1 hq).1
  have hj:j<s:=by rw [← hsz q (List.mem_of_getElem? hq)]; exact (List.getElem?_eq_some_iff.1 hv').1
  exact (hx i j hi hj).2
theorem srcV_ok {y:V} {a:Value} {sz:Nat} {ns:List (List V)} (hm:MR G w m) (hy:VR G w 2 y a) (hs:srcV m y=some ns) (hz:szAll sz ns=true):Src P G w sz ns a:=by
 cases y with
 | isl t es=>simp only [srcV,Option.some.injEq] at hs; subst hs; exact .isl hy hz
 | osl hh j es=>
  simp only [srcV,Option.some.injEq] at hs; subst hs
  cases hy with
  | osl _ _ _ _ _ n _ hi=>
   rcases ils_cases hi with ⟨rfl,rfl⟩ | ⟨_,hi⟩
   ·exact .none _ _ _
   ·exact .isl hi hz
 | els es=>
  simp only [srcV,Option.some.injEq] at hs; subst hs
  cases hy with
  | els _ _ b s x hr hne hsz hf hx hv=>
   have hs:s=sz:=by
    obtain ⟨q,hq⟩:=List.exists_mem_of_ne_nil es hne
    rw [← hsz q hq,szAll_mem hz q hq]
   subst hs
   refine .slice hsz fun i j q v hq hv'=>⟨hf q (List.mem_of_getElem? hq) v (List.mem_of_getElem? hv'),x i j,?_,(hv i j q v hq hv').up (by omega)⟩
   have hi:=(List.getElem?_eq_some_iff.1 hq).1
   have hj:j<s:=by rw [← hsz q (List.mem_of_getElem? hq)]; exact (List.getElem?_eq_some_iff.1 hv').1
   exact (hx i j hi hj).2
 | nils=>simp only [srcV,Option.some.injEq] at hs; subst hs; cases hy; exact .none _ _ _
 | emp=>simp only [srcV,Option.some.injEq] at hs; subst hs; cases hy; exact .none _ _ _
 | rsl id off len=>
  simp only [srcV] at hs
  split at hs
  ·rename_i es hes
   split at hs
   ·rename_i hle
    cases hs
    obtain ⟨b',s',c',g1,cs,ty,g2,g3,g4,g5,g6⟩:=hm.arr id es hes
    have hl:((es.drop off).take len).length=len:=by simp; omega
    rcases Nat.eq_zero_or_pos len with h0 | h0
    ·subst h0
     simp only [List.take_zero]
     cases hy with
     | rsl=>exact .none _ _ _
     | rsl0=>exact .none _ _ _
    ·cases hy with
     | rsl _ _ _ _ b s cap hr hb hle'=>
      rw [hb] at g1
      obtain ⟨rfl,rfl,rfl⟩:b=b'∧s=s'∧cap=c':=by simpa using g1
      have hget:∀ i,i<len→((es.drop off).take len)[i]?=es[off+i]?:=fun i hi=>by rw [List.getElem?_take_of_lt hi,List.getElem?_drop]
      have hs:s=sz:=by
       have h1:es[off]?=some (es[off]'(by omega)):=List.getElem?_eq_getElem _
       have h2:(es[off]'(by omega))∈(es.drop off).take len:=List.mem_of_getElem? (i:=0) (by rw [hget 0 h0]; exact h1)
       rw [← szAll_mem hz _ h2]
       exact (g5 _ (List.mem_of_getElem? h1)).symm
      subst hs
      have:=Src.slice (P:=P) (G:=G) (w:=w) (b:=b) (o:=off * s) (c:=cap - off) (s:=s) (ns:=(es.drop off).take len) (szAll_mem hz) (fun i j q v hq hv=>by
       have hi:i<len:=by rw [← hl]; exact (List.getElem?_eq_some_iff.1 hq).1
       rw [hget i hi] at hq
       obtain ⟨f1,x,f2,f3⟩:=g6 (off+i) j q v hq hv
       refine ⟨f1,x,?_,f3⟩
       rw [cell?_at g2,← f2,Nat.add_mul])
      rwa [hl] at this
     | rsl0=>omega
   ·cases hs
  ·cases hs
 | _=>simp [srcV] at hs
/-! ### the growing -/
theorem zeroCells_size (z:Array Value) (n:Nat):(Builtin.zeroCells z n).size=n * z.size:=by simp [Builtin.zeroCells]
theorem RelA.grow {s c:Nat} {es ns:List (List V)} {xs ys zs:Array Value} (h1:RelA G w s es.length es xs) (h2:RelA G w s ns.length ns ys) (hz:zs.size=(c - (es.length+ns.length)) * s) (hc:es.length+ns.length≤c):
  RelA G w s c (es ++ ns) (xs ++ ys ++ zs):=by
 obtain ⟨a1,a2,a3,a4⟩:=h1
 obtain ⟨b1,b2,b3,b4⟩:=h2
 refine ⟨?_,by simpa using hc,fun q hq=>(List.mem_append.1 hq).elim (a3 q) (b3 q),fun i j q v hq hv=>?_⟩
 ·simp only [Array.size_append,a1,b1,hz,← Nat.add_mul]
  congr 1; omega
 ·by_cases hi:i<es.length
  ·rw [List.getElem?_append_left hi] at hq
   obtain ⟨f1,x,f2,f3⟩:=a4 i j q v hq hv
   refine ⟨f1,x,?_,f3⟩
   have:i * s+j<xs.size:=(Array.getElem?_eq_some_iff.1 f2).1
   rw [Array.append_assoc,Array.getElem?_append_left this,f2]
  ·rw [List.getElem?_append_right (by omega)] at hq
   obtain ⟨f1,x,f2,f3⟩:=b4 (i - es.length) j q v hq hv
   refine ⟨f1,x,?_,f3⟩
   have:(i - es.length) * s+j<ys.size:=(Array.getElem?_eq_some_iff.1 f2).1
   have e1:i * s+j=xs.size+((i - es.length) * s+j):=by
    rw [a1,← Nat.add_assoc,← Nat.add_mul]; congr 2; omega
   rw [Array.append_assoc,e1,Array.getElem?_append_right (by omega),Nat.add_sub_cancel_left,Array.getElem?_append_left this,f2]
theorem app_grow_run {ats:Array TypeId} {ty t u el:TypeId} {d:TypeDesc} {sz by_ sLen sCap n:Nat} {z:List V} {base:Option Addr} {a:Value} {old new:Array Value} (h0:ats[0]?=some t) (h1:ats[1]?=some u)
  (ht:P.underlying t=some (.slice el)) (hu:P.underlying u=some d) (hd:∀ k,d≠.int k) (hs:szOf P el=some sz) (hb:bytesT P el=some by_) (hz:zeroT P el=some z) (hzs:z.length=sz)
  (ha:∀ w':World,(Builtin.lenOf a).run P w'=.ok n w') (hold:(Builtin.firstCells sz sLen (.slice base sLen sCap)).run P w.drew=.ok old w.drew) (hnew:(Builtin.firstCells sz n a).run P w.drew=.ok new w.drew)
  (hg:sCap<sLen+n) (hf:fits by_ (sLen+n)=true):
  ∃ zs:Array Value,zs.size=(grownCap w (sLen+n) sCap el - (sLen+n)) * sz ∧
  (Builtin.append_ ats ty #[.slice base sLen sCap,a]).run P w=.ok (.slice (some ⟨w.heap.size,0,none⟩) (sLen+n) (grownCap w (sLen+n) sCap el)) (w.drew.alloc (.cells (old ++ new ++ zs) el)):=by
 obtain ⟨v,hv,hvz,_⟩:=zeroT_run hz ⟨fun _ _ _=>False,fun _=>none,fun _ _=>none,fun _=>none,fun _ _=>none⟩ w
 simp only [szOf,bytesT,Option.map_eq_some_iff] at hs hb
 obtain ⟨i,hi,hs⟩:=hs
 obtain ⟨i',hi',hb⟩:=hb
 rw [hi] at hi'; cases hi'
 have hf:0<by_∧(sLen+n) * by_≤140737488355328:=by
  unfold fits at hf
  rw [Bool.and_eq_true] at hf
  exact ⟨of_decide_eq_true hf.1,of_decide_eq_true hf.2⟩
 have h63:¬ (9223372036854775807<((sLen+n:Nat):Int)):=by
  have:sLen+n≤(sLen+n) * by_:=Nat.le_mul_of_pos_right _ hf.1
  omega
 have hfit:=growslice_fits (bytes:=by_) hg hf.2
 have h48:¬ (281474976710656<Builtin.nextslicecap (sLen+n) sCap * i.bytes):=by rw [hb]; omega
 have hdi:(match d with | .int _=>true | _=>false)=false:=by cases d<;>first | rfl | exact absurd rfl (hd _)
 have hn:¬ (sLen+n≤sCap):=by omega
 have hv':∀ w',(zeroValue el).run P w'=.ok v w':=hv
 refine ⟨Builtin.zeroCells v.cells (grownCap w (sLen+n) sCap el - (sLen+n)),by rw [zeroCells_size,← hvz,hzs],?_⟩
 have h63':¬ (9223372036854775807<((sLen:Int)+(n:Int))):=by omega
 have hty:∀ w',(typeInfo el).run P w'=.ok i w':=fun w'=>by simp [typeInfo,hi]
 have hso:∀ w',(sizeOf el).run P w'=.ok sz w':=fun w'=>by simp [sizeOf,typeInfo,hi,hs]
 simp [Builtin.append_,h0,h1,run_underlying ht,run_underlying hu,hso,hty,hv',ha,hn,h63,h63',h48,Question.forced,hold,hnew,newRow,grownCap,hdi]
theorem app_in_run {ats:Array TypeId} {ty t u el:TypeId} {d:TypeDesc} {sz sLen sCap n:Nat} {b o:Nat} {c:Array Value} {bt:TypeId} {a:Value} {new:Array Value} (h0:ats[0]?=some t) (h1:ats[1]?=some u)
  (ht:P.underlying t=some (.slice el)) (hu:P.underlying u=some d) (hd:∀ k,d≠.int k) (hs:szOf P el=some sz)
  (ha:∀ w':World,(Builtin.lenOf a).run P w'=.ok n w') (hnew:(Builtin.firstCells sz n a).run P w=.ok new w)
  (hg:sLen+n≤sCap) (hbl:w.heap[b]?=some (.cells c bt (0,0))) (hle:o+sLen * sz+new.size≤c.size) (h1c:∀ v∈new.toList,v.oneCell'=true):
  (Builtin.append_ ats ty #[.slice (some ⟨b,o,none⟩) sLen sCap,a]).run P w=.ok (.slice (some ⟨b,o,none⟩) (sLen+n) sCap) (w.setCells b (o+sLen * sz) new.toList):=by
 simp only [szOf,Option.map_eq_some_iff] at hs
 obtain ⟨i,hi,hs⟩:=hs
 have hdi:(match d with | .int _=>true | _=>false)=false:=by cases d<;>first | rfl | exact absurd rfl (hd _)
 have hso:∀ w',(sizeOf el).run P w'=.ok sz w':=fun w'=>by simp [sizeOf,typeInfo,hi,hs]
 have hst:=run_storeCells_cells (P:=P) b (o+sLen * sz) new.toList 0 w (fun j hj=>by
   rw [cell?_at hbl]; simp at hj ⊢; omega) (fun j hj=>frozen_at hbl) h1c
 simp [Builtin.append_,h0,h1,run_underlying ht,run_underlying hu,hso,ha,hg,hnew,hdi,add_plain,hst]
theorem app_in_nil {ats:Array TypeId} {ty t u el:TypeId} {d:TypeDesc} {sz sLen sCap n:Nat} {base:Option Addr} {a:Value} (h0:ats[0]?=some t) (h1:ats[1]?=some u)
  (ht:P.underlying t=some (.slice el)) (hu:P.underlying u=some d) (hd:∀ k,d≠.int k) (hs:szOf P el=some sz)
  (ha:∀ w':World,(Builtin.lenOf a).run P w'=.ok n w') (hnew:(Builtin.firstCells sz n a).run P w=.ok #[] w) (hg:sLen+n≤sCap):
  (Builtin.append_ ats ty #[.slice base sLen sCap,a]).run P w=.ok (.slice base (sLen+n) sCap) w:=by
 simp only [szOf,Option.map_eq_some_iff] at hs
 obtain ⟨i,hi,hs⟩:=hs
 have hdi:(match d with | .int _=>true | _=>false)=false:=by cases d<;>first | rfl | exact absurd rfl (hd _)
 have hso:∀ w',(sizeOf el).run P w'=.ok sz w':=fun w'=>by simp [sizeOf,typeInfo,hi,hs]
 cases base<;>simp [Builtin.append_,h0,h1,run_underlying ht,run_underlying hu,hso,ha,hg,hnew,hdi,storeCells]
end
end Go.Vm
