/- The machine, part Vd: a small evaluation of the given code, and that the given code comes to what it says (no claim; lemmas). -/
import Derived.Test.YtimiademofajeaaGreatDoorPVc
import Derived.Calls
import Derived.Laws.Externs
import Derived.MapKept
import Derived.Orders
set_option linter.unusedSimpArgs false
set_option linter.unusedVariables false
namespace Go.Vm
def Gh.imm (E:Bool→Nat→Nat→Prop):Gh:=⟨E,fun _=>none,fun _ _=>none,fun _=>none,fun _ _=>none⟩
section
variable {G G':Gh} {w w':World} {m:Mem}
theorem VR.mono0 (hE:∀ t b o,G.E t b o→G'.E t b o) (hc:∀ t b o,G.E t b o→w'.cell? ⟨b,o,none⟩=w.cell? ⟨b,o,none⟩) {r:Nat} {v:V} {x:Value} (h:VR G w r v x):r=0→VR G' w' 0 v x:=by
 induction h with
 | undef r x=>exact fun _=>.undef 0 x
 | skp r=>exact fun _=>.skp 0
 | bool r b=>exact fun _=>.bool 0 b
 | int r k n=>exact fun _=>.int 0 k n
 | flt r b=>exact fun _=>.flt 0 b
 | str r s=>exact fun _=>.str 0 s
 | nilp r=>exact fun _=>.nilp 0
 | nils r=>exact fun _=>.nils 0
 | nilm r=>exact fun _=>.nilm 0
 | nilf r=>exact fun _=>.nilf 0
 | nili r=>exact fun _=>.nili 0
 | emp r a=>exact fun _=>.emp 0 a
 | isl0 r t a c=>exact fun _=>.isl0 0 t a c
 | isl r t es b o sz c x hne hc' hsz hf hx hv ih=>
  exact fun _=>.isl 0 t es b o sz c x hne hc' hsz hf (fun i j hi hj=>⟨hE _ _ _ (hx i j hi hj).1,(hc _ _ _ (hx i j hi hj).1).trans (hx i j hi hj).2⟩) (fun i j e v he hv'=>ih i j e v he hv' rfl)
 | els r es b sz x hr hne hsz hf hx hv ih=>exact fun h1=>absurd hr (by omega)
 | ip r t cs off b o x hf hx hv ih=>
  exact fun _=>.ip 0 t cs off b o x hf (fun j hj=>⟨hE _ _ _ (hx j hj).1,(hc _ _ _ (hx j hj).1).trans (hx j hj).2⟩) (fun j v hv'=>ih j v hv' rfl)
 | osl r h j es x n hr hi hT hn how ih=>intro h1; subst h1; cases h<;>simp at hr
 | rsl r id off len b sz cap hr hb hle=>exact fun h1=>absurd hr (by omega)
 | rsl0 r id off b sz cap a hr hb hle=>exact fun h1=>absurd hr (by omega)
 | map r id b hr hb=>exact fun h1=>absurd hr (by omega)
 | asl r id idx off len sz' b sz cap c hr hb hle=>exact fun h1=>absurd hr (by omega)
 | asl0 r id idx off sz' b sz cap c a hr hb=>exact fun h1=>absurd hr (by omega)
 | ptr r id idx off b sz cap hr hb=>exact fun h1=>absurd hr (by omega)
 | lp r j off b hr hb=>exact fun h1=>absurd hr (by omega)
 | lsl r j off len sz b c hr hb hle=>exact fun h1=>absurd hr (by omega)
 | lsl0 r j off sz b c a hr hb=>exact fun h1=>absurd hr (by omega)
 | fn r f fs cs xs ys hs ht hx hy ihx ihy=>exact fun h0=>.fn 0 f fs cs xs ys hs ht (fun j v e=>ihx j v e (by omega)) (fun j v e=>ihy j v e (by omega))
 | iface r t v x hx ih=>exact fun h0=>.iface 0 t v x (ih (by omega))
 | agg r cs xs hs hf hx ih=>exact fun h0=>.agg 0 cs xs hs hf (fun j v e=>ih j v e (by omega))
 | tup r cs xs hs hx ih=>exact fun h0=>.tup 0 cs xs hs (fun j v e=>ih j v e (by omega))
theorem islT {t:Bool} {es:List (List V)} {b o s c r:Nat} (hs:∀ q∈es,q.length=s) (hc:es.length≤c)
  (hx:∀ (i j:Nat) (q:List V) (v:V),es[i]?=some q→q[j]?=some v→v.flat=true∧G.E t b (o+i * s+j)∧∃ x,w.cell? ⟨b,o+i * s+j,none⟩=some x∧VR G w 0 v x):
  VR G w r (.isl t es) (.slice (some ⟨b,o,none⟩) es.length c):=by
 by_cases hne:es=[]
 ·subst hne; exact .isl0 _ _ _ _
 ·refine .isl r t es b o s c (fun i j=>(w.cell? ⟨b,o+i * s+j,none⟩).getD undef) hne hc hs (fun q hq v hv=>?_) (fun i j hi hj=>?_) (fun i j q v hq hv=>?_)
  ·obtain ⟨i,hi⟩:=List.getElem?_of_mem hq
   obtain ⟨j,hj⟩:=List.getElem?_of_mem hv
   exact (hx i j q v hi hj).1
  ·have h1:=List.getElem?_eq_getElem hi
   have hl:(es[i]).length=s:=hs _ (List.getElem_mem _)
   have h2:(es[i])[j]?=some ((es[i])[j]'(by omega)):=List.getElem?_eq_getElem _
   obtain ⟨_,e1,x,e2,_⟩:=hx i j _ _ h1 h2
   exact ⟨e1,by rw [e2]; rfl⟩
  ·obtain ⟨_,_,x,e2,e3⟩:=hx i j q v hq hv
   rw [e2]
   exact e3
theorem ipT {t:Bool} {cs:List V} {b o off r:Nat} (hx:∀ (j:Nat) (v:V),cs[j]?=some v→v.flat=true∧G.E t b (o+j)∧∃ x,w.cell? ⟨b,o+j,none⟩=some x∧VR G w 0 v x):
  VR G w r (.ip t cs off) (.pointer (some ⟨b,o+off,none⟩)):=by
 refine .ip r t cs off b o (fun j=>(w.cell? ⟨b,o+j,none⟩).getD undef) (fun v hv=>?_) (fun j hj=>?_) (fun j v hv=>?_)
 ·obtain ⟨j,hj⟩:=List.getElem?_of_mem hv
  exact (hx j v hj).1
 ·obtain ⟨_,e1,x,e2,_⟩:=hx j _ (List.getElem?_eq_getElem hj)
  exact ⟨e1,by rw [e2]; rfl⟩
 ·obtain ⟨_,_,x,e2,e3⟩:=hx j v hv
  rw [e2]; exact e3
theorem toImm_flat {t:Bool} {d:Nat} {v u:V} (hf:v.flat=true) (h:toImm m t d v=some u):u.flat=true:=by
 cases d with
 | zero=>simp [toImm] at h
 | succ d=>
  cases v<;>simp only [toImm,Option.some.injEq,reduceCtorEq] at h<;>first
   | (subst h; exact hf)
   | (subst h; rfl)
   | (subst h; exact ils_flat _)
   | (simp [V.flat] at hf; done)
   | skip
  all_goals (repeat' split at h)
  all_goals first
   | (cases h; done)
   | (simp only [Option.map_eq_some_iff] at h; obtain ⟨_,_,rfl⟩:=h; rfl)
theorem omap2_ok {f:V→Option V}:∀ {vs ws:List (List V)},omap2 f vs=some ws→ws.length=vs.length∧∀ (i:Nat) (v:List V),vs[i]?=some v→∃ u,omap f v=some u∧ws[i]?=some u
 | [],ws,h=>by simp [omap2] at h; subst h; simp
 | v :: vs,ws,h=>by
  simp only [omap2] at h
  split at h
  ·cases h
  ·rename_i u hu
   split at h
   ·cases h
   ·rename_i us hus
    cases h
    obtain ⟨h1,h2⟩:=omap2_ok hus
    refine ⟨by simp [h1],fun i v' hi=>?_⟩
    cases i with
    | zero=>simp at hi; subst hi; exact ⟨u,hu,by simp⟩
    | succ i=>simpa using h2 i v' (by simpa using hi)
theorem omap_back {f:V→Option V} {vs ws:List V} (h:omap f vs=some ws) {i:Nat} {u:V} (hu:ws[i]?=some u):∃ v,vs[i]?=some v∧f v=some u:=by
 obtain ⟨h1,h2⟩:=omap_ok h
 have hi:i<vs.length:=by rw [← h1]; exact (List.getElem?_eq_some_iff.1 hu).1
 obtain ⟨u',e1,e2⟩:=h2 i _ (List.getElem?_eq_getElem hi)
 rw [hu] at e2; cases e2
 exact ⟨_,List.getElem?_eq_getElem hi,e1⟩
theorem omap2_back {f:V→Option V} {vs ws:List (List V)} (h:omap2 f vs=some ws) {i:Nat} {u:List V} (hu:ws[i]?=some u):∃ v,vs[i]?=some v∧omap f v=some u:=by
 obtain ⟨h1,h2⟩:=omap2_ok h
 have hi:i<vs.length:=by rw [← h1]; exact (List.getElem?_eq_some_iff.1 hu).1
 obtain ⟨u',e1,e2⟩:=h2 i _ (List.getElem?_eq_getElem hi)
 rw [hu] at e2; cases e2
 exact ⟨_,List.getElem?_eq_getElem hi,e1⟩
theorem toImm_ok {E':Bool→Nat→Nat→Prop} {tt:Bool} (hE:∀ t b o,G.E t b o→E' t b o)
  (hA:∀ id es b s c,m.H[id]?=some (.arr es)→G.ha id=some (b,s,c)→ArrAt G w b s c es∧∀ o,E' tt b o)
  (hB:∀ j b cs,G.vb j=some b→m.vars[j]?=some cs→ArrAt G w b cs.length 1 [cs]∧∀ o,E' tt b o):
  ∀ (d:Nat) {r:Nat} {v u:V} {x:Value},VR G w r v x→toImm m tt d v=some u→VR (Gh.imm E') w 0 u x:=by
 intro d
 induction d with
 | zero=>intro r v u x _ h; simp [toImm] at h
 | succ d ih=>
  intro r v u x hx h
  have m0:∀ {v:V} {x:Value},VR G w 0 v x→VR (Gh.imm E') w 0 v x:=fun hx=>hx.mono0 (G':=Gh.imm E') hE (fun _ _ _ _=>rfl) rfl
  have row:∀ {b s c:Nat} {es:List (List V)} {i:Nat} {q q':List V},ArrAt G w b s c es→es[i]?=some q→omap (toImm m tt d) q=some q'→(∀ o,E' tt b o)→∀ (j:Nat) (v:V),q'[j]?=some v →
    v.flat=true∧(Gh.imm E').E tt b (i * s+j)∧∃ x,w.cell? ⟨b,i * s+j,none⟩=some x∧VR (Gh.imm E') w 0 v x:=by
   intro b s c es i q q' ha hi hq hEb j v hv
   obtain ⟨cs,ty,g1,g2,g3,g4,g5⟩:=ha
   obtain ⟨v0,e1,e2⟩:=omap_back hq hv
   obtain ⟨f1,x,f2,f3⟩:=g5 i j q v0 hi e1
   exact ⟨toImm_flat f1 e2,hEb _,x,by rw [cell?_at g1]; exact f2,ih f3 e2⟩
  have part:∀ {b s c idx off len sz cc:Nat} {es:List (List V)} {q q':List V},ArrAt G w b s c es→es[idx]?=some q→off+len * sz≤q.length→omap (toImm m tt d) ((q.drop off).take (len * sz))=some q'→(∀ o,E' tt b o)→len≤cc →
    VR (Gh.imm E') w 0 (.isl tt (chunk sz len q')) (.slice (some ⟨b,idx * s+off,none⟩) len cc):=by
   intro b s c idx off len sz cc es q q' ha hi hle hq hEb hcc
   obtain ⟨cs,ty,g1,g2,g3,g4,g5⟩:=ha
   have hl:q'.length=len * sz:=by rw [(omap_ok hq).1]; simp; omega
   have hrow:∀ i p,(chunk sz len q')[i]?=some p→i<len∧p.length=sz∧∀ j,j<sz→p[j]?=q'[i * sz+j]?:=by
    intro i p hp
    have hi':i<len:=by have:=(List.getElem?_eq_some_iff.1 hp).1; rwa [chunk_length] at this
    rw [chunk_get sz _ _ i hi'] at hp
    cases hp
    have:=Nat.mul_le_mul_right sz (show i+1≤len by omega)
    rw [Nat.add_mul,Nat.one_mul] at this
    refine ⟨hi',by simp; omega,fun j hj=>?_⟩
    rw [List.getElem?_take_of_lt hj,List.getElem?_drop]
   have:=islT (G:=Gh.imm E') (w:=w) (r:=0) (t:=tt) (es:=chunk sz len q') (b:=b) (o:=idx * s+off) (s:=sz) (c:=cc) (fun p hp=>by
     obtain ⟨i,hi'⟩:=List.getElem?_of_mem hp
     exact (hrow i p hi').2.1) (by rw [chunk_length]; exact hcc) (fun i j p v hp hv=>by
     obtain ⟨h1,h2,h3⟩:=hrow i p hp
     have hj:j<sz:=by rw [← h2]; exact (List.getElem?_eq_some_iff.1 hv).1
     rw [h3 j hj] at hv
     obtain ⟨v0,e1,e2⟩:=omap_back hq hv
     have hlt:i * sz+j<len * sz:=by
      have:=Nat.mul_le_mul_right sz (show i+1≤len by omega)
      rw [Nat.add_mul,Nat.one_mul] at this
      omega
     rw [List.getElem?_take_of_lt hlt,List.getElem?_drop] at e1
     obtain ⟨f1,x,f2,f3⟩:=g5 idx (off+(i * sz+j)) q v0 hi e1
     have ea:idx * s+off+i * sz+j=idx * s+(off+(i * sz+j)):=by omega
     rw [ea]
     exact ⟨toImm_flat f1 e2,hEb _,x,by rw [cell?_at g1]; exact f2,ih f3 e2⟩)
   rwa [chunk_length] at this
  cases hx with
  | undef=>simp [toImm] at h
  | skp=>simp [toImm] at h
  | bool r b=>simp [toImm] at h; subst h; exact .bool _ _
  | int r k n=>simp [toImm] at h; subst h; exact .int _ _ _
  | flt r b=>simp [toImm] at h; subst h; exact .flt _ _
  | str r s=>simp [toImm] at h; subst h; exact .str _ _
  | nilp r=>simp [toImm] at h; subst h; exact .nilp _
  | nils r=>simp [toImm] at h; subst h; exact .nils _
  | nilm r=>simp [toImm] at h; subst h; exact .nilm _
  | nilf r=>simp [toImm] at h; subst h; exact .nilf _
  | nili r=>simp [toImm] at h; subst h; exact .nili _
  | emp r a=>simp [toImm] at h; subst h; exact .emp _ _
  | isl0 r t a c=>simp [toImm] at h; subst h; exact .isl0 _ _ _ _
  | isl r t es b o sz c x hne hc' hsz hf hx hv=>
   simp [toImm] at h; subst h
   exact m0 (.isl 0 t es b o sz c x hne hc' hsz hf hx hv)
  | els=>simp [toImm] at h
  | map=>simp [toImm] at h
  | ip r t cs off b o x hf hx hv=>
   simp [toImm] at h; subst h
   exact m0 (.ip 0 t cs off b o x hf hx hv)
  | osl r hh j es x n hr hi hT hn how=>
   simp [toImm] at h; subst h
   exact m0 hi
  | rsl r id off len b s cap hr hb hle=>
   simp only [toImm] at h
   split at h
   ·rename_i es hes
    split at h
    ·rename_i hle'
     simp only [Option.map_eq_some_iff] at h
     obtain ⟨rows,h1,rfl⟩:=h
     obtain ⟨ha,hEb⟩:=hA id es b s cap hes hb
     obtain ⟨cs,ty,g1,g2,g3,g4,g5⟩:=ha
     have hl:rows.length=len:=by rw [(omap2_ok h1).1]; simp; omega
     have hget:∀ i q',rows[i]?=some q'→∃ q,es[off+i]?=some q∧omap (toImm m tt d) q=some q':=by
      intro i q' hq'
      obtain ⟨q,e1,e2⟩:=omap2_back h1 hq'
      have hi:i<len:=by rw [← hl]; exact (List.getElem?_eq_some_iff.1 hq').1
      rw [List.getElem?_take_of_lt hi,List.getElem?_drop] at e1
      exact ⟨q,e1,e2⟩
     have:=islT (G:=Gh.imm E') (w:=w) (r:=0) (t:=tt) (es:=rows) (b:=b) (o:=off * s) (s:=s) (c:=cap - off) (fun q' hq'=>by
       obtain ⟨i,hi⟩:=List.getElem?_of_mem hq'
       obtain ⟨q,e1,e2⟩:=hget i q' hi
       rw [(omap_ok e2).1]; exact g4 q (List.mem_of_getElem? e1)) (by omega) (fun i j q' v hq' hv=>by
       obtain ⟨q,e1,e2⟩:=hget i q' hq'
       have:=row ⟨cs,ty,g1,g2,g3,g4,g5⟩ e1 e2 hEb j v hv
       rwa [Nat.add_mul] at this)
     rwa [hl] at this
    ·cases h
   ·cases h
  | rsl0 r id off b s cap a hr hb hle=>
   simp only [toImm] at h
   split at h
   ·split at h
    ·simp only [Nat.add_zero,List.take_zero,omap2,Option.map_some,Option.some.injEq] at h
     subst h; exact .isl0 _ _ _ _
    ·cases h
   ·cases h
  | asl r id idx off len sz' b s cap c hr hb hle=>
   simp only [toImm] at h
   split at h
   ·rename_i es hes
    split at h
    ·rename_i q hq
     split at h
     ·rename_i hle'
      simp only [Option.map_eq_some_iff] at h
      obtain ⟨q',h1,rfl⟩:=h
      obtain ⟨ha,hEb⟩:=hA id es b s cap hes hb
      exact part ha hq hle' h1 hEb hle
     ·cases h
    ·cases h
   ·cases h
  | asl0 r id idx off sz' b s cap c a hr hb=>
   simp only [toImm] at h
   split at h
   ·split at h
    ·split at h
     ·simp only [Option.map_eq_some_iff] at h
      obtain ⟨q',h1,rfl⟩:=h
      simp only [chunk]; exact .isl0 _ _ _ _
     ·cases h
    ·cases h
   ·cases h
  | ptr r id idx off b s cap hr hb=>
   simp only [toImm] at h
   split at h
   ·rename_i es hes
    split at h
    ·rename_i q hq
     simp only [Option.map_eq_some_iff] at h
     obtain ⟨q',h1,rfl⟩:=h
     obtain ⟨ha,hEb⟩:=hA id es b s cap hes hb
     exact ipT (row ha hq h1 hEb)
    ·cases h
   ·cases h
  | lp r j off b hr hb=>
   simp only [toImm] at h
   split at h
   ·rename_i q hq
    simp only [Option.map_eq_some_iff] at h
    obtain ⟨q',h1,rfl⟩:=h
    obtain ⟨ha,hEb⟩:=hB j b q hb hq
    have:=ipT (off:=off) (r:=0) (row ha (i:=0) (by simp) h1 hEb)
    simpa using this
   ·cases h
  | lsl r j off len sz b c hr hb hle=>
   simp only [toImm] at h
   split at h
   ·rename_i q hq
    split at h
    ·rename_i hle'
     simp only [Option.map_eq_some_iff] at h
     obtain ⟨q',h1,rfl⟩:=h
     obtain ⟨ha,hEb⟩:=hB j b q hb hq
     have:=part (idx:=0) ha (by simp) hle' h1 hEb hle
     simpa using this
    ·cases h
   ·cases h
  | lsl0 r j off sz b c a hr hb=>
   simp only [toImm] at h
   split at h
   ·split at h
    ·simp only [Option.map_eq_some_iff] at h
     obtain ⟨q',h1,rfl⟩:=h
     simp only [chunk]; exact .isl0 _ _ _ _
    ·cases h
   ·cases h
  | fn r f fs cs xs ys hs ht hx hy=>
   simp only [toImm] at h
   split at h
   ·rename_i fs' hfs
    simp only [Option.map_eq_some_iff] at h
    obtain ⟨cs',hcs,rfl⟩:=h
    refine .fn 0 f fs' cs' xs ys (by rw [(omap_ok hfs).1]; exact hs) (by rw [(omap_ok hcs).1]; exact ht) (fun j v hv=>?_) (fun j v hv=>?_)
    ·obtain ⟨v0,e1,e2⟩:=omap_back hfs hv
     exact ih (hx j v0 e1) e2
    ·obtain ⟨v0,e1,e2⟩:=omap_back hcs hv
     exact ih (hy j v0 e1) e2
   ·cases h
  | iface r t v x hx=>
   simp only [toImm,Option.map_eq_some_iff] at h
   obtain ⟨v',e2,rfl⟩:=h
   exact .iface 0 t v' x (ih hx e2)
  | agg r cs xs hs hf hx=>
   simp only [toImm,Option.map_eq_some_iff] at h
   obtain ⟨cs',hcs,rfl⟩:=h
   refine .agg 0 cs' xs (by rw [(omap_ok hcs).1]; exact hs) (fun v hv=>?_) (fun j v hv=>?_)
   ·obtain ⟨j,hj⟩:=List.getElem?_of_mem hv
    obtain ⟨v0,e1,e2⟩:=omap_back hcs hj
    exact toImm_flat (hf v0 (List.mem_of_getElem? e1)) e2
   ·obtain ⟨v0,e1,e2⟩:=omap_back hcs hv
    exact ih (hx j v0 e1) e2
  | tup r cs xs hs hx=>
   simp only [toImm,Option.map_eq_some_iff] at h
   obtain ⟨cs',hcs,rfl⟩:=h
   refine .tup 0 cs' xs (by rw [(omap_ok hcs).1]; exact hs) (fun j v hv=>?_)
   obtain ⟨v0,e1,e2⟩:=omap_back hcs hv
   exact ih (hx j v0 e1) e2
end
end Go.Vm
namespace Go.Vm
def extE (E:Bool→Nat→Nat→Prop) (w w':World):Bool→Nat→Nat→Prop:=fun t b o=>E t b o∨(w.heap.size≤b∧b<w'.heap.size)
structure FrI (w w':World):Prop where
 os:w'.os=w.os
 tape:w'.tape=w.tape
 output:w'.output=w.output
 size:w.heap.size≤w'.heap.size
 kept:∀ b,b<w.heap.size→w'.heap[b]?=w.heap[b]?
abbrev CallT:=Md→Nat→List V→List Obj→Option (V × List Obj)
def SndV (P:Program) (gl:List (Nat × List V)) (call:CallT):Prop:=∀ f args r H',call .val f args []=some (r,H')→∀ (E:Bool→Nat→Nat→Prop) (w:World) (xs:Array Value),
 (∀ b o,E false b o→E true b o)→(∀ t b o,E t b o→b<w.heap.size)→GI gl (Gh.imm E) w→xs.size=args.length→(∀ i v,args[i]?=some v→VR (Gh.imm E) w 0 v (xs.getD i undef)) →
 Calls P f xs w fun e w'=>∃ x,e=.returned x∧VR (Gh.imm (extE E w w')) w' 0 r x∧FrI w w'
def SndH (P:Program) (gl:List (Nat × List V)) (call:CallT):Prop:=∀ f args H r H',call .heap f args H=some (r,H')→∀ (G:Gh) (w:World) (xs:Array Value),
 MR G w ⟨[],[],H⟩→GI gl G w→xs.size=args.length→(∀ i v,args[i]?=some v→VR G w 1 v (xs.getD i undef)) →
 Calls P f xs w fun e w'=>∃ x G',e=.returned x∧Le G w G' w'∧MR G' w' ⟨[],[],H'⟩∧VR G' w' 1 r x∧Fr G ⟨[],[],H⟩ w G' ⟨[],[],H'⟩ w'
section
variable {P:Program} {gl:List (Nat × List V)} {call:CallT} {G:Gh} {w w':World} {m:Mem} {k:Bool→Nat→Prop}
theorem clean_ok {E1 E2:Bool→Nat→Nat→Prop} (hE:∀ b o,E1 false b o→E2 false b o):∀ (d:Nat) {v:V} {x:Value},VR (Gh.imm E1) w 0 v x→clean d v=true→VR (Gh.imm E2) w 0 v x:=by
 intro d
 induction d with
 | zero=>intro v x _ h; simp [clean] at h
 | succ d ih=>
  intro v x hx h
  have all:∀ {l:List V},l.all (clean d)=true→∀ (j:Nat) (u:V),l[j]?=some u→clean d u=true:=fun h j u hu=>List.all_eq_true.1 h u (List.mem_of_getElem? hu)
  cases hx with
  | undef=>exact .undef _ _
  | skp=>exact .skp _
  | bool=>exact .bool _ _
  | int=>exact .int _ _ _
  | flt=>exact .flt _ _
  | str=>exact .str _ _
  | nilp=>exact .nilp _
  | nils=>exact .nils _
  | nilm=>exact .nilm _
  | nilf=>exact .nilf _
  | nili=>exact .nili _
  | emp=>exact .emp _ _
  | isl0=>exact .isl0 _ _ _ _
  | isl _ t es b o sz c x hne hc hsz hf hx hv=>
   simp only [clean,Bool.and_eq_true,Bool.not_eq_true'] at h
   obtain ⟨rfl,h⟩:=h
   exact .isl 0 false es b o sz c x hne hc hsz hf (fun i j hi hj=>⟨hE _ _ (hx i j hi hj).1,(hx i j hi hj).2⟩)
    (fun i j e v he hv'=>ih (hv i j e v he hv') (all (List.all_eq_true.1 h e (List.mem_of_getElem? he)) j v hv'))
  | els _ _ _ _ _ hr=>omega
  | ip _ t cs off b o x hf hx hv=>
   simp only [clean,Bool.and_eq_true,Bool.not_eq_true'] at h
   obtain ⟨rfl,h⟩:=h
   exact .ip 0 false cs off b o x hf (fun j hj=>⟨hE _ _ (hx j hj).1,(hx j hj).2⟩) (fun j v hv'=>ih (hv j v hv') (all h j v hv'))
  | osl _ hh _ _ _ _ hr=>cases hh<;>simp at hr
  | rsl _ _ _ _ _ _ _ hr=>omega
  | rsl0 _ _ _ _ _ _ _ hr=>omega
  | map _ _ _ hr=>omega
  | asl _ _ _ _ _ _ _ _ _ _ hr=>omega
  | asl0 _ _ _ _ _ _ _ _ _ _ hr=>omega
  | ptr _ _ _ _ _ _ _ hr=>omega
  | lp _ _ _ _ hr=>omega
  | lsl _ _ _ _ _ _ _ hr=>omega
  | lsl0 _ _ _ _ _ _ _ hr=>omega
  | fn _ f fs cs xs ys hs ht hx hy=>
   simp only [clean,Bool.and_eq_true] at h
   exact .fn 0 f fs cs xs ys hs ht (fun j v e=>ih (hx j v e) (all h.1 j v e)) (fun j v e=>ih (hy j v e) (all h.2 j v e))
  | iface _ t v x hx=>simp only [clean] at h; exact .iface 0 t v x (ih hx h)
  | agg _ cs xs hs hf hx=>simp only [clean] at h; exact .agg 0 cs xs hs hf (fun j v e=>ih (hx j v e) (all h j v e))
  | tup _ cs xs hs hx=>simp only [clean] at h; exact .tup 0 cs xs hs (fun j v e=>ih (hx j v e) (all h j v e))
theorem extMem (hm:MR G w m) (hf:FrI w w'):let G':Gh:={ G with E:=extE G.E w w' }
  Le G w G' w'∧LeL G G' k∧MR G' w' m∧Fr G m w G' m w':=by
 intro G'
 have le:Le G w G' w':=⟨fun _ _ _ h=>.inl h,fun t b o h=>cell?_congr (hf.kept b (hm.Elt t b o h)),fun _ _ h=>h,fun _ n h=>⟨n,h,Nat.le_refl _,fun _=>rfl⟩⟩
 have hE:∀ b,b<w.heap.size→∀ t o,(G'.E t b o↔G.E t b o):=fun b hb t o=>⟨fun h=>h.resolve_right (fun q=>by omega),.inl⟩
 refine ⟨le,⟨fun _ _ _ h=>h,fun _ n _ h=>⟨n,h,Nat.le_refl _,fun _=>rfl⟩⟩,?_,?_⟩
 ·exact {
   T0:=hm.T0
   T1:=hm.T1
   Ef:=fun b o h=>h.imp (hm.Ef b o) (fun q=>q)
   Elt:=fun t b o h=>h.elim (fun h=>Nat.lt_of_lt_of_le (hm.Elt t b o h) hf.size) (fun q=>q.2)
   vars:=fun j b h=>by
    obtain ⟨cs,h1,h2⟩:=hm.vars j b h
    exact ⟨cs,h1,h2.mono le (hf.kept b h2.lt)⟩
   toks:=fun j b c s h=>by
    obtain ⟨n,h1,h2⟩:=hm.toks j b c s h
    exact ⟨n,h1,h2.mono (hf.kept b h2.lt) (hE b h2.lt)⟩
   arr:=fun id es h=>by
    obtain ⟨b,s,c,h1,h2⟩:=hm.arr id es h
    exact ⟨b,s,c,h1,h2.mono le (hf.kept b h2.lt)⟩
   mp:=fun id es h=>by
    obtain ⟨b,h1,h2⟩:=hm.mp id es h
    exact ⟨b,h1,h2.mono (hf.kept b h2.lt)⟩
   tok:=fun id n h=>by
    obtain ⟨b,c,s,h1,h2⟩:=hm.tok id n h
    exact ⟨b,c,s,h1,h2.mono (hf.kept b h2.lt) (hE b h2.lt)⟩
   fresh:=hm.fresh
   inj:=hm.inj
   noV:=fun j b t o h e=>hm.noV j b t o h ((hE b ((show Own G m (.v j) b from h).lt hm) t o).1 e)
   noH:=fun id es b s c t o h h' e=>hm.noH id es b s c t o h h' ((hE b ((show Own G m (.h id) b by simp only [Own,h]; exact ⟨s,c,h'⟩).lt hm) t o).1 e) }
 ·exact {
   os:=hf.os
   tape:=hf.tape
   output:=hf.output
   size:=hf.size
   kept:=fun b hb _=>hf.kept b hb
   sub:=fun k b h _=>⟨k,h⟩
   E:=fun b o hb _ t=>hE b hb t o
   len:=Nat.le_refl _
   vl:=⟨rfl,rfl⟩ }
def CallOut (P:Program) (f:Nat) (xs:Array Value) (G:Gh) (w:World) (m:Mem) (v:V) (m':Mem) (k:Bool→Nat→Prop):Prop:=
 Calls P f xs w fun e w'=>∃ x G',e=.returned x∧Le G w G' w'∧LeL G G' k∧MR G' w' m'∧VR G' w' 2 v x∧Fr G m w G' m' w'
def Pics (G:Gh) (w:World) (r:Nat) (vs:List V) (xs:Array Value):Prop:=xs.size=vs.length∧∀ i v,vs[i]?=some v→VR G w r v (xs.getD i undef)
theorem GI.imm {E:Bool→Nat→Nat→Prop} (hE:∀ t b o,G.E t b o→E t b o) (h:GI gl G w):GI gl (Gh.imm E) w:=fun q hq=>VR.mono0 (G:=G) (G':=Gh.imm E) hE (fun _ _ _ _=>rfl) (h q hq) rfl
theorem callV_ok {f : Nat} {vs : List V} {xs : Array Value} {v : V} {m' : Mem} (hV : SndV P gl call) (hg : GI gl G w) (hm : MR G w m) (hp : Pics G w 2 vs xs) (h : callF call .val f m vs = some (v, m')) : CallOut P f xs G w m v m' k := by
  have fin : ∀ {x : Value} {w' : World}, VR (Gh.imm (extE G.E w w')) w' 0 v x → FrI w w' → m' = m → ∃ G', Le G w G' w' ∧ LeL G G' k ∧ MR G' w' m' ∧ VR G' w' 2 v x ∧ Fr G m w G' m' w' := by
    intro x w' hx hf he
    subst he
    obtain ⟨a1, a2, a3, a4⟩ := extMem (k := k) hm hf
    exact ⟨_, a1, a2, a3, (VR.mono0 (G := Gh.imm (extE G.E w w')) (w := w') (G' := { G with E := extE G.E w w' }) (fun _ _ _ h => h) (fun _ _ _ _ => rfl) hx rfl).up (by omega), a4⟩
  simp only [callF] at h
  split at h
  · rename_i as has
    split at h
    · rename_i r H' hr
      cases h
      refine (hV _ _ _ _ hr G.E w xs hm.Ef hm.Elt (hg.imm fun _ _ _ h => h) (by rw [hp.1, (omap_ok has).1]) (fun i u hu => ?_)).mono fun e w' ⟨x, h1, h2, h3⟩ => ?_
      · obtain ⟨v0, e1, e2⟩ := omap_back has hu
        exact toImm_ok (m := ⟨[], [], []⟩) (E' := G.E) (tt := false) (fun _ _ _ h => h) (fun id es b s c h => by simp at h) (fun j b cs _ h => by simp at h) depth (hp.2 i v0 e1) e2
      · obtain ⟨G', g⟩ := fin h2 h3 rfl
        exact ⟨x, G', h1, g⟩
    · cases h
  · split at h
    · rename_i as has
      split at h
      · rename_i r H' hr
        split at h
        · rename_i hcl
          cases h
          let E1 : Bool → Nat → Nat → Prop := fun t b o => G.E t b o ∨ (t = true ∧ b < w.heap.size)
          refine (hV _ _ _ _ hr E1 w xs (fun b o h => .inr ⟨rfl, by rcases h with h | h; exact hm.Elt _ _ _ h; exact h.2⟩) (fun t b o h => by rcases h with h | h; exact hm.Elt _ _ _ h; exact h.2)
            (hg.imm fun _ _ _ h => .inl h) (by rw [hp.1, (omap_ok has).1]) (fun i u hu => ?_)).mono fun e w' ⟨x, h1, h2, h3⟩ => ?_
          · obtain ⟨v0, e1, e2⟩ := omap_back has hu
            exact toImm_ok (E' := E1) (tt := true) (fun _ _ _ h => .inl h) (fun id es b s c h1 h2 => by
                obtain ⟨b', s', c', g1, g2⟩ := hm.arr id es h1
                rw [h2] at g1; cases g1
                exact ⟨g2, fun o => .inr ⟨rfl, g2.lt⟩⟩)
              (fun j b cs h1 h2 => by
                obtain ⟨cs', g1, g2⟩ := hm.vars j b h1
                rw [h2] at g1; cases g1
                exact ⟨g2, fun o => .inr ⟨rfl, g2.lt⟩⟩) depth (hp.2 i v0 e1) e2
          · have h2' := clean_ok (E2 := extE G.E w w') (fun b o h => by
                rcases h with (h | h) | h
                · exact .inl h
                · exact absurd h.1 (by simp)
                · exact .inr h) depth h2 hcl
            obtain ⟨G', g⟩ := fin h2' h3 rfl
            exact ⟨x, G', h1, g⟩
        · cases h
      · cases h
    · cases h
def Gh.glob (G:Gh):Gh:={ G with vb:=fun _=>none,ob:=fun h j=>if h then G.ob true j else none,T:=fun h j=>if h then G.T true j else none }
theorem glob_le (G:Gh) (w:World):Le G w G.glob w:=⟨fun _ _ _ h=>h,fun _ _ _ _=>rfl,fun _ _ h=>h,fun _ n h=>⟨n,by simpa [Gh.glob] using h,Nat.le_refl _,fun _=>by simp [Gh.glob]⟩⟩
theorem glob_own {H:List Obj} {κ:Key} {b:Nat} (h:Own G.glob ⟨[],[],H⟩ κ b):∃ id,κ=.h id∧∀ m:Mem,m.H=H→Own G m (.h id) b:=by
 cases κ with
 | v j=>simp [Own,Gh.glob] at h
 | t j=>simp [Own,Gh.glob] at h
 | h id=>
  refine ⟨id,rfl,fun m hm=>?_⟩
  simp only [Own,hm] at h ⊢
  cases hid:H[id]? with
  | none=>simp [hid] at h
  | some ob=>cases ob<;>(simp [hid,Gh.glob] at h ⊢<;>exact h)
theorem glob_mr (hm:MR G w m):MR G.glob w ⟨[],[],m.H⟩ where
 T0 j:=by simp [Gh.glob]
 T1 j:=by simpa [Gh.glob] using hm.T1 j
 Ef:=hm.Ef
 Elt:=hm.Elt
 vars j b h:=by simp [Gh.glob] at h
 toks j b c s h:=by simp [Gh.glob] at h
 arr id es h:=by
  obtain ⟨b,s,c,h1,h2⟩:=hm.arr id es h
  exact ⟨b,s,c,h1,h2.mono (glob_le G w) rfl⟩
 mp:=hm.mp
 tok id n h:=by
  obtain ⟨b,c,s,h1,h2⟩:=hm.tok id n h
  exact ⟨b,c,s,by simpa [Gh.glob] using h1,h2.mono rfl (fun _ _=>Iff.rfl)⟩
 fresh id h:=by simpa [Gh.glob] using hm.fresh id h
 inj k k' b h h':=by
  obtain ⟨i,rfl,h1⟩:=glob_own h
  obtain ⟨j,rfl,h2⟩:=glob_own h'
  exact hm.inj _ _ _ (h1 m rfl) (h2 m rfl)
 noV j b t o h:=by simp [Gh.glob] at h
 noH:=hm.noH
theorem callH_ok {f:Nat} {vs:List V} {xs:Array Value} {v:V} {m':Mem} (hH:SndH P gl call) (hg:GI gl G w) (hm:MR G w m) (hp:Pics G w 2 vs xs) (h:callF call .heap f m vs=some (v,m')):CallOut P f xs G w m v m' k:=by
 simp only [callF] at h
 split at h
 ·rename_i as has
  split at h
  ·rename_i r H hr
   cases h
   refine (hH _ _ _ _ _ hr G.glob w xs (glob_mr hm) (hg.mono (glob_le G w)) (by rw [hp.1,(omap_ok has).1]) (fun i u hu=>?_)).mono fun e w' ⟨x,G1,h1,h2,h3,h4,h5⟩=>?_
   ·obtain ⟨v0,e1,e2⟩:=omap_back has hu
    exact (exp_ok e2 (hp.2 i v0 e1)).1.mono1 (glob_le G w) (Nat.le_refl _)
   ·let G':Gh:={ G1 with vb:=G.vb,ob:=fun h j=>if h then G1.ob true j else G.ob false j,T:=fun h j=>if h then G1.T true j else G.T false j }
    have notG:∀ {κ:Key} {b:Nat},Own G m κ b→(∀ id,κ≠.h id)→∀ q,¬ Own G.glob ⟨[],[],m.H⟩ q b:=by
     intro κ b ho hκ q hq
     obtain ⟨id,rfl,h⟩:=glob_own hq
     exact hκ id (hm.inj _ _ _ ho (h m rfl))
    have kept:∀ {κ:Key} {b:Nat},Own G m κ b→(∀ id,κ≠.h id)→w'.heap[b]?=w.heap[b]?∧∀ t o,(G1.E t b o↔G.E t b o):=by
     intro κ b ho hκ
     exact ⟨h5.kept b (ho.lt hm) (notG ho hκ),fun t o=>h5.E b o (ho.lt hm) (notG ho hκ) t⟩
    have le:Le G w G' w':=⟨h2.E,h2.c,h2.ha,fun j n h=>by
     obtain ⟨n',e1,e2,e3⟩:=h2.T j n (by simpa [Gh.glob] using h)
     exact ⟨n',by simpa [G'] using e1,e2,fun q=>by simpa [G',Gh.glob] using e3 q⟩⟩
    have le1:Le G1 w' G' w':=⟨fun _ _ _ h=>h,fun _ _ _ _=>rfl,fun _ _ h=>h,fun j n h=>⟨n,by simpa [G'] using h,Nat.le_refl _,fun _=>by simp [G']⟩⟩
    have ownH:∀ {id b:Nat},Own G' { m with H:=H } (.h id) b→Own G1 ⟨[],[],H⟩ (.h id) b:=by
     intro id b ho
     simp only [Own] at ho ⊢
     cases hid:H[id]? with
     | none=>simp [hid] at ho
     | some ob=>cases ob<;>(simp [hid,G'] at ho ⊢<;>exact ho)
    have subH:∀ {id b:Nat},Own G1 ⟨[],[],H⟩ (.h id) b→b<w.heap.size→∃ id',Own G m (.h id') b:=by
     intro id b ho hb
     obtain ⟨q,hq⟩:=h5.sub _ b ho hb
     obtain ⟨id',rfl,h⟩:=glob_own hq
     exact ⟨id',h m rfl⟩
    have loc:∀ {κ:Key} {b:Nat},(∀ id,κ≠.h id)→Own G' { m with H:=H } κ b→Own G m κ b:=by
     intro κ b hκ ho
     cases κ with
     | v j=>exact ho
     | t j=>simpa [Own,G'] using ho
     | h id=>exact absurd rfl (hκ id)
    refine ⟨x,G',h1,le,⟨fun _ _ _ h=>h,fun j n _ h=>⟨n,by simpa [G'] using h,Nat.le_refl _,fun _=>by simp [G']⟩⟩,?_,(h4.mono1 le1 (Nat.le_refl _)).up (by omega),?_⟩
    ·exact {
      T0:=fun j=>by simpa [G'] using hm.T0 j
      T1:=fun j=>by simpa [G'] using h3.T1 j
      Ef:=h3.Ef
      Elt:=h3.Elt
      vars:=fun j b h=>by
       obtain ⟨cs,g1,g2⟩:=hm.vars j b h
       exact ⟨cs,g1,g2.mono le (kept (κ:=.v j) h (by simp)).1⟩
      toks:=fun j b c s h=>by
       have h':G.ob false j=some (b,c,s):=by simpa [G'] using h
       obtain ⟨n,g1,g2⟩:=hm.toks j b c s h'
       obtain ⟨k1,k2⟩:=kept (κ:=.t j) ⟨c,s,h'⟩ (by simp)
       exact ⟨n,g1,g2.mono k1 k2⟩
      arr:=fun id es h=>by
       obtain ⟨b,s,c,g1,g2⟩:=h3.arr id es h
       exact ⟨b,s,c,g1,g2.mono le1 rfl⟩
      mp:=fun id es h=>h3.mp id es h
      tok:=fun id n h=>by
       obtain ⟨b,c,s,g1,g2⟩:=h3.tok id n h
       exact ⟨b,c,s,by simpa [G'] using g1,g2.mono rfl (fun _ _=>Iff.rfl)⟩
      fresh:=fun id h=>by simpa [G'] using h3.fresh id h
      inj:=fun a c b ha hc=>by
       by_cases q1:∃ id,a=.h id
       ·obtain ⟨i,rfl⟩:=q1
        by_cases q2:∃ id,c=.h id
        ·obtain ⟨j,rfl⟩:=q2
         exact h3.inj _ _ _ (ownH ha) (ownH hc)
        ·have q2':∀ id,c≠.h id:=fun id h=>q2 ⟨id,h⟩
         have hc':=loc q2' hc
         obtain ⟨id',h'⟩:=subH (ownH ha) (hc'.lt hm)
         exact absurd (hm.inj _ _ _ hc' h') (q2' id')
       ·have q1':∀ id,a≠.h id:=fun id h=>q1 ⟨id,h⟩
        have ha':=loc q1' ha
        by_cases q2:∃ id,c=.h id
        ·obtain ⟨j,rfl⟩:=q2
         obtain ⟨id',h'⟩:=subH (ownH hc) (ha'.lt hm)
         exact absurd (hm.inj _ _ _ ha' h') (q1' id')
        ·exact hm.inj _ _ _ ha' (loc (fun id h=>q2 ⟨id,h⟩) hc)
      noV:=fun j b t o h e=>hm.noV j b t o h (((kept (κ:=.v j) h (by simp)).2 t o).1 e)
      noH:=fun id es b s c t o h h'=>h3.noH id es b s c t o h h' }
    ·exact {
      os:=h5.os
      tape:=h5.tape
      output:=h5.output
      size:=h5.size
      kept:=fun b hb hn=>h5.kept b hb (fun q hq=>by obtain ⟨id,rfl,h⟩:=glob_own hq; exact hn _ (h m rfl))
      sub:=fun q b hq hb=>by
       by_cases q1:∃ id,q=.h id
       ·obtain ⟨i,rfl⟩:=q1
        obtain ⟨id',h'⟩:=subH (ownH hq) hb
        exact ⟨_,h'⟩
       ·exact ⟨q,loc (fun id h=>q1 ⟨id,h⟩) hq⟩
      E:=fun b o hb hn t=>h5.E b o hb (fun q hq=>by obtain ⟨id,rfl,h⟩:=glob_own hq; exact hn _ (h m rfl)) t
      len:=h5.len
      vl:=⟨rfl,rfl⟩ }
  ·cases h
 ·cases h
end
end Go.Vm
namespace Go.Vm
structure TgOK (P:Program) (tg:Nat→Option Tg):Prop where
 enter:∀ f j,tg f=some (.enter j)→∀ args w,(callFunc f args).run P w=.ok (.enter j args) w
 prim:∀ f k,tg f=some (.prim k)→∀ v u w,primV k v=some u→(callFunc f #[sc v]).run P w=.ok (.value (sc u)) w
def EntOK (P:Program) (call:CallT):Prop:=∀ md f as H r,call md f as H=some r→∀ args w,(callFunc f args).run P w=.ok (.enter f args) w
def Out (P:Program) (o:Oper) (e:Operand→Value) (w:World) (K:Value→World→Prop):Prop:=
 match (execOp e o).run P w with
 | .ok (.value x) w'=>K x w'
 | .ok .skip w'=>K undef w'
 | .ok (.enter f args) w'=>Calls P f args w' fun e w''=>∃ x,e=.returned x∧K x w''
 | _=>False
def Post (G:Gh) (w:World) (m:Mem) (v:V) (m':Mem) (k:Bool→Nat→Prop) (x:Value) (w':World):Prop:=
 ∃ G',Le G w G' w'∧LeL G G' k∧MR G' w' m'∧VR G' w' 2 v x∧Fr G m w G' m' w'
section
variable {P:Program} {gl:List (Nat × List V)} {tg:Nat→Option Tg} {h:Hint} {ds:List (Option Nat)} {G:Gh} {w:World} {m:Mem} {ρ:X→V} {e:Operand→Value} {k:Bool→Nat→Prop} {call:CallT}
theorem Res.out {o:Oper} {v:V} {m':Mem} (h:Res ((execOp e o).run P w) G w m v m' k):Out P o e w (Post G w m v m' k):=by
 obtain ⟨x,w',G',hr,h1,h2,h3,h4,h5⟩:=h
 unfold Out
 rcases hr with hr | ⟨hr,rfl⟩<;>rw [hr]<;>exact ⟨G',h1,h2,h3,h4,h5⟩
theorem CallOut.out {o:Oper} {f:Nat} {xs:Array Value} {v:V} {m':Mem} (hr:(execOp e o).run P w=.ok (.enter f xs) w) (h:CallOut P f xs G w m v m' k):Out P o e w (Post G w m v m' k):=by
 unfold Out
 rw [hr]
 exact Calls.mono h fun e w' ⟨x,G',h1,h2⟩=>⟨x,h1,G',h2⟩
theorem callF_ok {md:Md} {f:Nat} {vs:List V} {xs:Array Value} {v:V} {m':Mem} (hV:SndV P gl call) (hH:SndH P gl call) (hg:GI gl G w) (hm:MR G w m) (hp:Pics G w 2 vs xs) (h:callF call md f m vs=some (v,m')):CallOut P f xs G w m v m' k:=by
 cases md with
 | val=>exact callV_ok hV hg hm hp h
 | heap=>exact callH_ok hH hg hm hp h
theorem callF_ent {md:Md} {f:Nat} {vs:List V} {v:V} {m':Mem} (hE:EntOK P call) (h:callF call md f m vs=some (v,m')) (args:Array Value) (w:World):(callFunc f args).run P w=.ok (.enter f args) w:=by
 cases md<;>simp only [callF] at h
 ·repeat' split at h
  all_goals first | (cases h; done) | (rename_i hr; exact hE _ _ _ _ _ hr args w) | (rename_i hr _; exact hE _ _ _ _ _ hr args w)
 ·repeat' split at h
  all_goals first | (cases h; done) | (rename_i hr; exact hE _ _ _ _ _ hr args w)
theorem args_pic {ys:Array Operand} {xs:List X} (hρ:OpR h ds G w ρ e) (hx:cXs h ds ys.toList=some xs):Pics G w 2 (xs.map ρ) (ys.map e):=by
 obtain ⟨h1,h2⟩:=OpR.list hρ hx
 refine ⟨by simp [h1],fun i v hv=>?_⟩
 simp only [List.getElem?_map,Option.map_eq_some_iff] at hv
 obtain ⟨x,hx1,rfl⟩:=hv
 have hi:i<ys.toList.length:=by rw [← h1]; exact (List.getElem?_eq_some_iff.1 hx1).1
 obtain ⟨x',hx2,hv⟩:=h2 i _ (List.getElem?_eq_getElem hi)
 rw [hx1] at hx2; cases hx2
 have hi':i<ys.size:=by simpa using hi
 have e1:(ys.map e).getD i undef=e (ys.toList[i]):=by simp [Array.getD_eq_getD_getElem?,hi']
 rw [e1]; exact hv
theorem x_call {o:Oper} {cl:Call} {md:Md} {f j:Nat} {xs:List X} {v:V} {m':Mem} (hT:TgOK P tg) (hV:SndV P gl call) (hH:SndH P gl call) (hg:GI gl G w) (hef:∀ f,e (.func f)=.func (.func f) #[] #[]) (hρ:OpR h ds G w ρ e) (hm:MR G w m)
  (ho:o.op=.call cl) (hc:cl.callee=.value (.func f)) (ht:tg f=some (.enter j)) (hx:cXs h ds cl.args.toList=some xs) (hv:callF call md j m (xs.map ρ)=some (v,m')):
  Out P o e w (Post G w m v m' k):=by
 refine CallOut.out (f:=j) (xs:=cl.args.map e) ?_ (callF_ok hV hH hg hm (args_pic hρ hx) hv)
 have:=hT.enter f j ht (cl.args.map e) w
 simp [execOp,ho,hc,resolve,hef,Deferred.ofValue,invoke,this]
theorem x_callv {o:Oper} {cl:Call} {md:Md} {y:Operand} {xx:X} {f:Nat} {fs cs:List V} {xs:List X} {v:V} {m':Mem} (hE:EntOK P call) (hV:SndV P gl call) (hH:SndH P gl call) (hg:GI gl G w) (hρ:OpR h ds G w ρ e) (hm:MR G w m)
  (ho:o.op=.call cl) (hc:cl.callee=.value y) (hy:cX h ds y=some xx) (hq:ρ xx=.fn f fs cs) (hx:cXs h ds cl.args.toList=some xs) (hv:callF call md f m (fs ++ xs.map ρ ++ cs)=some (v,m')):
  Out P o e w (Post G w m v m' k):=by
 have hY:=hρ _ _ hy
 rw [hq] at hY
 generalize hz:e y=z at hY
 cases hY with
 | fn _ _ _ _ as bs hs ht ha hb=>
  obtain ⟨p1,p2⟩:=args_pic hρ hx
  refine CallOut.out (f:=f) (xs:=as ++ cl.args.map e ++ bs) ?_ (callF_ok hV hH hg hm ⟨by simp [hs,ht] at p1 ⊢; omega,fun i u hu=>?_⟩ hv)
  ·have:=callF_ent hE hv (as ++ cl.args.map e ++ bs) w
   simp [execOp,ho,hc,resolve,hz,Deferred.ofValue,invoke] at this ⊢
   rw [this]
  ·have p1':(cl.args.map e).size=(xs.map ρ).length:=p1
   by_cases h1:i<fs.length
   ·rw [List.append_assoc,List.getElem?_append_left h1] at hu
    have:=(ha i u hu).up (r':=2) (by omega)
    have e1:(as ++ cl.args.map e ++ bs).getD i undef=as.getD i undef:=by
     simp only [Array.getD_eq_getD_getElem?]
     rw [Array.append_assoc,Array.getElem?_append_left (by omega)]
    rw [e1]; exact this
   ·by_cases h2:i<fs.length+(xs.map ρ).length
    ·rw [List.append_assoc,List.getElem?_append_right (by omega),List.getElem?_append_left (by omega)] at hu
     have:=p2 _ u hu
     have e1:(as ++ cl.args.map e ++ bs).getD i undef=(cl.args.map e).getD (i - fs.length) undef:=by
      simp only [Array.getD_eq_getD_getElem?]
      rw [Array.append_assoc,Array.getElem?_append_right (by omega),Array.getElem?_append_left (by omega),hs]
     rw [e1]; exact this
    ·rw [List.getElem?_append_right (by simp at h2 ⊢; omega)] at hu
     have:=(hb _ u hu).up (r':=2) (by omega)
     have e1:(as ++ cl.args.map e ++ bs).getD i undef=bs.getD (i - (fs ++ xs.map ρ).length) undef:=by
      simp only [Array.getD_eq_getD_getElem?]
      rw [Array.getElem?_append_right (by simp at h2 p1' ⊢; omega)]
      congr 2
      simp [hs,p1']
     rw [e1]; exact this
theorem primV_sc {kk:PK} {v u:V} (h:primV kk v=some u):isSc v=true∧isSc u=true:=by
 cases v<;>simp only [primV,reduceCtorEq] at h
 ·rename_i k n
  cases k<;>simp only [reduceCtorEq] at h
  cases kk<;>simp only [reduceCtorEq,Option.some.injEq] at h
  subst h; exact ⟨rfl,rfl⟩
 ·refine ⟨rfl,?_⟩
  cases kk<;>simp only [reduceCtorEq,Option.some.injEq,integral] at h
  ·subst h; rfl
  ·split at h
   ·cases h
   ·cases h; rfl
  ·split at h
   ·cases h
   ·cases h; rfl
theorem x_prim {o:Oper} {cl:Call} {f:Nat} {kk:PK} {y:Operand} {xx:X} {u:V} (hT:TgOK P tg) (hef:∀ f,e (.func f)=.func (.func f) #[] #[]) (hρ:OpR h ds G w ρ e) (hm:MR G w m)
  (ho:o.op=.call cl) (hc:cl.callee=.value (.func f)) (ht:tg f=some (.prim kk)) (ha:cl.args.toList=[y]) (hx:cX h ds y=some xx) (hv:primV kk (ρ xx)=some u):
  Res ((execOp e o).run P w) G w m u m k:=by
 have h0:=args_one ha
 obtain ⟨s1,s2⟩:=primV_sc hv
 have e1:=(hρ _ _ hx).is_sc s1
 have:=hT.prim f kk ht _ _ w hv
 refine .same hm ?_ (.of_sc 2 s2)
 simp [execOp,ho,hc,resolve,hef,Deferred.ofValue,invoke,h0,e1,this]
end
end Go.Vm
namespace Go.Vm
section
variable {P:Program} {tg:Nat→Option Tg} {h:Hint} {ds:List (Option Nat)} {G:Gh} {w:World} {m:Mem} {ρ:X→V} {e:Operand→Value} {k:Bool→Nat→Prop} {call:CallT}
theorem mapT_ok {t el:TypeId} (hm:mapT P t=some el):∃ kt kk,P.underlying t=some (.map kt el)∧P.underlying kt=some (.int kk):=by
 unfold mapT und at hm
 split at hm
 ·rename_i kt e' h1
  split at hm
  ·rename_i kk h2
   cases hm
   exact ⟨kt,kk,h1,h2⟩
  ·cases hm
 ·cases hm
theorem chk_run {kt:TypeId} {kk k:IntKind} {n:Int} (hu:P.underlying kt=some (.int kk)) (b:Bool) (w':World):(Instr.checkKey b 10000 kt (.int k n)).run P w'=.ok () w':=by
 show (Instr.checkKey b (9999+1) kt (.int k n)).run P w'=.ok () w'
 unfold Instr.checkKey
 simp [run_underlying hu,Result.andThen]
theorem stays_run {k:IntKind} {n:Int} (w':World):(Instr.keyThatStays (.int k n) (.int k n)).run P w'=.ok (.int k n) w':=by
 have:Instr.sameBits 10000 (.int k n) (.int k n)=true:=by
  show Instr.sameBits (9999+1) (.int k n) (.int k n)=true
  simp [Instr.sameBits]
 simp [Instr.keyThatStays,this]
def EntsR (ents:List Go.MapEntry) (es:List (List V)):Prop:=
 ents.length=es.length∧∀ (i:Nat) (r:List V),es[i]?=some r→∃ (k:IntKind) (n:Int) (v:V),r=[.int k n,v]∧isSc v=true∧∃ q:Go.MapEntry,ents[i]?=some q∧q.key=.int k n∧q.val=sc v
theorem EntsR.tail {q:Go.MapEntry} {r:List V} {ents:List Go.MapEntry} {es:List (List V)} (h:EntsR (q :: ents) (r :: es)):EntsR ents es:=
 ⟨by have:=h.1; simpa using this,fun i r' hr=>by
  obtain ⟨k,n,v,h1,h2,q',h3,h4⟩:=h.2 (i+1) r' (by simpa using hr)
  exact ⟨k,n,v,h1,h2,q',by simpa using h3,h4⟩⟩
theorem find_ok {kk k:IntKind} {n:Int}:∀ (es:List (List V)) (ents:List Go.MapEntry) (i:Nat),EntsR ents es→∀ p,keyAt (.int k n) es i=some p →
  (p=none∧Instr.findNow (.int kk) (.int k n) ents i=some none) ∨
  ∃ (j:Nat) (v:V),p=some (i+j)∧es[j]?=some [.int k n,v]∧isSc v=true∧(∃ q:Go.MapEntry,ents[j]?=some q∧q.key=.int k n∧q.val=sc v)∧Instr.findNow (.int kk) (.int k n) ents i=some (some (i+j,sc v))
 | [],[],i,_,p,h=>by
  simp only [keyAt,Option.some.injEq] at h
  exact .inl ⟨h.symm,rfl⟩
 | [],q :: ents,i,hE,p,h=>by have:=hE.1; simp at this
 | r :: es,[],i,hE,p,h=>by have:=hE.1; simp at this
 | r :: es,q :: ents,i,hE,p,h=>by
  obtain ⟨k',n',v,rfl,hsc,q',hq,hk',hv'⟩:=hE.2 0 r rfl
  simp only [List.getElem?_cons_zero,Option.some.injEq] at hq
  subst hq
  simp only [keyAt,keyEq] at h
  by_cases ek:k=k'
  ·subst ek
   rw [if_pos rfl] at h
   simp only [Instr.findNow,hk',Instr.sameNow,if_true]
   by_cases en:n=n'
   ·subst en
    simp only [beq_self_eq_true,Option.some.injEq] at h ⊢
    exact .inr ⟨0,v,h.symm,rfl,hsc,⟨q,rfl,hk',hv'⟩,by rw [hv']; rfl⟩
   ·have e1:(n == n')=false:=by simpa using en
    simp only [e1] at h ⊢
    rcases find_ok es ents (i+1) hE.tail p h with ⟨h1,h2⟩ | ⟨j,v',h1,h2,h3,h4,h5⟩
    ·exact .inl ⟨h1,h2⟩
    ·refine .inr ⟨j+1,v',by rw [h1]; congr 1; omega,by simpa using h2,h3,by simpa using h4,?_⟩
     rw [h5,show i+1+j=i+(j+1) by omega]
  ·rw [if_neg ek] at h; cases h
theorem MapAt.ents {b:Nat} {es:List (List V)} (h:MapAt w b es):∃ (ents:Array Go.MapEntry) (ck:Nat),w.heap[b]?=some (.map ents ck)∧EntsR ents.toList es:=by
 obtain ⟨ents,ck,h1,h2,h3⟩:=h
 refine ⟨ents,ck,h1,by simpa using h2,fun i r hr=>?_⟩
 obtain ⟨k,n,v,h4,h5,q,h6,h7⟩:=h3 i r hr
 exact ⟨k,n,v,h4,h5,q,by simpa using h6,h7⟩
theorem EntsR.mapAt {b:Nat} {es:List (List V)} {ents:Array Go.MapEntry} {ck:Nat} (hb:w.heap[b]?=some (.map ents ck)) (h:EntsR ents.toList es):MapAt w b es:=
 ⟨ents,ck,hb,by have:=h.1; simpa using this,fun i r hr=>by
  obtain ⟨k,n,v,h4,h5,q,h6,h7⟩:=h.2 i r hr
  exact ⟨k,n,v,h4,h5,q,by simpa using h6,h7⟩⟩
theorem isInt_inv {v:V} (h:v.isInt=true):∃ k n,v=.int k n:=by
 cases v<;>first | exact ⟨_,_,rfl⟩ | (simp [V.isInt] at h)
theorem x_mkmap {o:Oper} {t:TypeId} (hm:MR G w m) (ho:o.op=.makeMap t none):Res ((execOp e o).run P w) G w m (.map m.H.length) { m with H:=m.H ++ [.mp []] } k:=by
 let id:=m.H.length
 let G':Gh:={ G with ha:=fun i=>if i=id then some (w.heap.size,0,0) else G.ha i }
 let w':=w.alloc (.map #[] 0)
 have la:=Le.alloc hm (.map #[] 0)
 have hfr:=hm.fresh id (Nat.le_refl _)
 have le:Le G w G' w':=⟨fun _ _ _ h=>h,la.c,fun i q h=>by
  have:i≠id:=fun q'=>by rw [q',hfr.1] at h; cases h
  simpa [G',this] using h,fun _ n h=>⟨n,h,Nat.le_refl _,fun _=>rfl⟩⟩
 have u:Upd G w m G' w' { m with H:=m.H ++ [.mp []] } (.h id) w.heap.size:={
  le:=le
  hv:=fun _ _=>⟨rfl,rfl⟩
  ht:=fun _ _=>⟨rfl,rfl,rfl⟩
  hh:=fun i hi=>by
   have:i≠id:=fun q=>hi (by rw [q])
   refine ⟨by simp [G',this],rfl,?_,rfl⟩
   rcases Nat.lt_or_ge i m.H.length with hl | hl
   ·simp [List.getElem?_append_left hl]
   ·have:m.H.length<i:=by omega
    rw [List.getElem?_eq_none (by simp; omega),List.getElem?_eq_none hl]
  hl:=by simp
  hf:=fun i hi q=>by cases q; simp [id] at hi; omega
  hvl:=⟨rfl,rfl⟩
  hE:=fun _ _ _ _=>Iff.rfl
  Ef:=fun o q=>hm.Ef _ o q
  heap:=fun b _ hb'=>heap_alloc_lt w _ hb'
  size:=by simp [w']
  hB:=by simp [w']
  new:=.inl (Nat.le_refl _)
  key:=.inr (.inr (.inr ⟨[],by simp [id],by show G.T true id=none; rw [hm.T1 id]; simp [id],by simp [G'],EntsR.mapAt (ents:=#[]) (ck:=0) (heap_alloc_new w _) ⟨rfl,fun i r hr=>by simp at hr⟩⟩))
  os:=rfl
  tape:=rfl
  output:=rfl }
 exact ⟨.map (some w.heap.size),w',G',.inl (by simp only [execOp,ho,Instr.makeMap,newObj,Sem.run_bind,Option.map_none,Sem.run,Result.andThen,Sem.run_pure]; rfl),le,⟨fun _ _ _ h=>h,fun _ n _ h=>⟨n,h,Nat.le_refl _,fun _=>rfl⟩⟩,u.mr hm,VR.map 2 id _ (by omega) (by simp [G']),u.fr hm⟩
theorem map_es {xx:X} {a:Value} {es:List (List V)} (hv:VR G w 2 (ρ xx) a) (hm:MR G w m) (he:mapEs m (ρ xx)=some es):
  (a=.map none∧es=[])∨∃ id b,ρ xx=.map id∧a=.map (some b)∧G.ha id=some (b,0,0)∧m.H[id]?=some (.mp es)∧MapAt w b es:=by
 generalize ρ xx=v at hv he
 cases hv<;>simp only [mapEs,Option.some.injEq,reduceCtorEq] at he
 ·exact .inl ⟨rfl,he.symm⟩
 ·rename_i id b hb hr
  split at he
  ·rename_i hes
   cases he
   obtain ⟨b',h1,h2⟩:=hm.mp _ _ hes
   rw [hb] at h1
   cases h1
   exact .inr ⟨id,b,rfl,rfl,hb,hes,h2⟩
  ·cases he
theorem mapZ_run {t:TypeId} {z:V} (h:mapZ P t=some z) (w':World):(zeroValue t).run P w'=.ok (sc z) w'∧isSc z=true:=by
 unfold mapZ at h
 split at h
 ·rename_i i hi
  split at h
  ·rename_i hz
   cases h
   exact ⟨by simp [zeroValue,typeInfo,hi,hz,sc],rfl⟩
  ·rename_i hz
   cases h
   exact ⟨by simp [zeroValue,typeInfo,hi,hz,sc],rfl⟩
  ·cases h
 ·cases h
theorem x_look {o:Oper} {t el:TypeId} {x i:Operand} {xx xi:X} {ok:Bool} {z:V} {es:List (List V)} {v:V} (hρ:OpR h ds G w ρ e) (hm:MR G w m) (ho:o.op=.lookup t x i ok)
  (ht:mapT P t=some el) (hz:mapZ P el=some z) (hx:cX h ds x=some xx) (hi:cX h ds i=some xi)
  (he:mapEs m (ρ xx)=some es) (hk:(ρ xi).isInt=true) (hv:lookV ok false [z] es (ρ xi)=some v):Res ((execOp e o).run P w) G w m v m k:=by
 obtain ⟨kt,kk,ht1,ht2⟩:=mapT_ok ht
 obtain ⟨kq,n,hkn⟩:=isInt_inv hk
 have hxi:=hρ _ _ hi
 rw [hkn] at hxi hv
 have hei:=hxi.int_inv
 obtain ⟨hz1,hz2⟩:=mapZ_run hz w
 have pic:∀ (u:V),isSc u=true→∀ b:Bool,v=(if ok then .tup [u,.bool b] else u)→VR G w 2 v (if ok then .tuple #[sc u,.bool b] else sc u):=by
  rintro u hu b rfl
  cases ok
  ·exact VR.of_sc 2 hu
  ·refine .tup 2 [u,.bool b] #[sc u,.bool b] rfl fun j v' hj=>?_
   match j with
   | 0=>cases hj; exact VR.of_sc _ hu
   | 1=>cases hj; exact .bool _ b
   | j+2=>cases hj
 have key:∀ (ents:List Go.MapEntry),EntsR ents es→∃ (u:V) (b:Bool),isSc u=true∧v=(if ok then .tup [u,.bool b] else u) ∧
   (match (Instr.findNow (.int kk) (.int kq n) ents 0) with
    | some (some (_,q))=>some (q,true)
    | some none=>some (sc z,false)
    | none=>none)=some (sc u,b)∧(Instr.findNow (.int kk) (.int kq n) ents 0).isSome=true:=by
  intro ents hE
  simp only [lookV] at hv
  split at hv
  ·cases hv
  ·rename_i p hp
   rcases find_ok (kk:=kk) es ents 0 hE p hp with ⟨rfl,h2⟩ | ⟨j,u,rfl,h2,h3,h4,h5⟩
   ·simp only [loadAt] at hv
    refine ⟨z,false,hz2,?_,by rw [h2],by rw [h2]; rfl⟩
    cases ok<;>simpa using hv.symm
   ·have e0:0+j=j:=Nat.zero_add j
    rw [e0] at hv h5
    simp only [h2,Option.getD_some,loadAt,Bool.false_eq_true,if_false,List.drop_one,List.tail_cons,List.getElem?_cons_zero,Option.isSome_some] at hv
    refine ⟨u,true,h3,?_,by rw [h5],by rw [h5]; rfl⟩
    cases ok<;>simpa using hv.symm
 rcases map_es (hρ _ _ hx) hm he with ⟨h1,rfl⟩ | ⟨id,b,h0,h1,h2,h3,h4⟩
 ·obtain ⟨u,b,hu,hvu,hf,_⟩:=key [] ⟨rfl,fun i r hr=>by simp at hr⟩
  refine .same hm ?_ (pic u hu b hvu)
  simp only [Instr.findNow,Option.some.injEq,Prod.mk.injEq] at hf
  obtain ⟨hf1,rfl⟩:=hf
  simp only [execOp,ho,h1,hei,Instr.lookup,Sem.run_bind,run_underlying ht1,Result.andThen,Sem.run_pure,chk_run ht2,Instr.findKey,run_underlying ht2,Instr.findNow,hz1]
  rw [← hf1]
 ·obtain ⟨ents,ck,g1,g2⟩:=h4.ents
  obtain ⟨u,bb,hu,hvu,hf,hs⟩:=key ents.toList g2
  refine .same hm ?_ (pic u hu bb hvu)
  simp only [execOp,ho,h1,hei,Instr.lookup,Sem.run_bind,run_underlying ht1,Result.andThen,Sem.run_pure,MapKept.run_getObj_map g1,chk_run ht2,Instr.findKey,run_underlying ht2]
  generalize Instr.findNow (.int kk) (.int kq n) ents.toList 0=r at *
  cases r with
  | none=>cases hs
  | some r=>
   cases r with
   | none=>
    simp only [Option.some.injEq,Prod.mk.injEq] at hf
    obtain ⟨hf1,rfl⟩:=hf
    simp only [Sem.run_pure,hz1,Sem.run_bind,Result.andThen]
    rw [← hf1]
   | some q=>
    obtain ⟨j,q⟩:=q
    simp only [Option.some.injEq,Prod.mk.injEq] at hf
    obtain ⟨rfl,rfl⟩:=hf
    simp only [Sem.run_pure,Sem.run_bind,Result.andThen]
theorem putMap {id b:Nat} {es es':List (List V)} {ents ents':Array Go.MapEntry} {ck ck':Nat} (hm:MR G w m) (hes:m.H[id]?=some (.mp es)) (hb:G.ha id=some (b,0,0)) (hh:w.heap[b]?=some (.map ents ck)) (hE:EntsR ents'.toList es'):
  let w':World:={ w with heap:=w.heap.setIfInBounds b (.map ents' ck') }
  Le G w G w'∧MR G w' { m with H:=m.H.set id (.mp es') }∧Fr G m w G { m with H:=m.H.set id (.mp es') } w':=by
 intro w'
 have hlt:b<w.heap.size:=(Array.getElem?_eq_some_iff.1 hh).1
 have hidl:id<m.H.length:=(List.getElem?_eq_some_iff.1 hes).1
 have hown:Own G m (.h id) b:=by simp only [Own,hes]; exact hb
 have hne:∀ b',b'≠b→w'.heap[b']?=w.heap[b']?:=fun b' hb'=>by simp [w',Array.getElem?_setIfInBounds,Ne.symm hb']
 have heq:w'.heap[b]?=some (.map ents' ck'):=by simp [w',hlt]
 have hsz:w'.heap.size=w.heap.size:=by simp [w']
 have hc:∀ b' o,w'.cell? ⟨b',o,none⟩=w.cell? ⟨b',o,none⟩:=fun b' o=>by
  by_cases q:b'=b
  ·subst q
   simp [World.cell?,heq,hh]
  ·exact cell?_congr (hne b' q)
 have le:Le G w G w':=⟨fun _ _ _ h=>h,fun t b' o _=>hc b' o,fun _ _ h=>h,fun _ n h=>⟨n,h,Nat.le_refl _,fun _=>rfl⟩⟩
 have u:Upd G w m G w' { m with H:=m.H.set id (.mp es') } (.h id) b:={
  le:=le
  hv:=fun _ _=>⟨rfl,rfl⟩
  ht:=fun _ _=>⟨rfl,rfl,rfl⟩
  hh:=fun i hi=>⟨rfl,rfl,by simp [List.getElem?_set,show ¬ id=i from fun q=>hi (by rw [q])],rfl⟩
  hl:=by simp
  hf:=fun i hi q=>by cases q; simp at hi; omega
  hvl:=⟨rfl,rfl⟩
  hE:=fun _ _ _ _=>Iff.rfl
  Ef:=fun o h=>hm.Ef b o h
  heap:=fun b' hb' _=>hne b' hb'
  size:=Nat.le_of_eq hsz.symm
  hB:=by rw [hsz]; exact hlt
  new:=.inr hown
  key:=.inr (.inr (.inr ⟨es',by simp [hidl],by rw [hm.T1 id,hes],hb,hE.mapAt heq⟩))
  os:=rfl
  tape:=rfl
  output:=rfl }
 exact ⟨le,u.mr hm,u.fr hm⟩
theorem sc_of {v:V} (h:v.isScV=true):isSc v=true:=by
 cases v<;>first | rfl | (simp [V.isScV] at h)
theorem EntsR.set {ents:List Go.MapEntry} {es:List (List V)} {i:Nat} {k:IntKind} {n:Int} {v:V} {q:Go.MapEntry} (h:EntsR ents es) (hv:isSc v=true) (h1:q.key=.int k n) (h2:q.val=sc v):EntsR (ents.set i q) (es.set i [.int k n,v]):=
 ⟨by simpa using h.1,fun j r hr=>by
  by_cases e:i=j
  ·subst e
   have hlt:i<es.length:=by
    have:=(List.getElem?_eq_some_iff.1 hr).1
    simpa using this
   have hlt2:i<ents.length:=by rw [h.1]; exact hlt
   simp [hlt] at hr
   subst hr
   exact ⟨k,n,v,rfl,hv,q,by simp [hlt2],h1,h2⟩
  ·rw [List.getElem?_set_ne e] at hr
   obtain ⟨k',n',v',h3,h4,q',h5,h6⟩:=h.2 j r hr
   exact ⟨k',n',v',h3,h4,q',by rw [List.getElem?_set_ne e]; exact h5,h6⟩⟩
theorem EntsR.push {ents:List Go.MapEntry} {es:List (List V)} {k:IntKind} {n:Int} {v:V} {q:Go.MapEntry} (h:EntsR ents es) (hv:isSc v=true) (h1:q.key=.int k n) (h2:q.val=sc v):EntsR (ents ++ [q]) (es ++ [[.int k n,v]]):=
 ⟨by simp [h.1],fun j r hr=>by
  rcases Nat.lt_trichotomy j es.length with hj | hj | hj
  ·rw [List.getElem?_append_left hj] at hr
   obtain ⟨k',n',v',h3,h4,q',h5,h6⟩:=h.2 j r hr
   exact ⟨k',n',v',h3,h4,q',by rw [List.getElem?_append_left (by rw [h.1]; exact hj)]; exact h5,h6⟩
  ·subst hj
   rw [List.getElem?_append_right (Nat.le_refl _)] at hr
   simp at hr
   subst hr
   exact ⟨k,n,v,rfl,hv,q,by rw [List.getElem?_append_right (by rw [h.1]; exact Nat.le_refl _)]; simp [h.1],h1,h2⟩
  ·rw [List.getElem?_eq_none (by simp; omega)] at hr; cases hr⟩
theorem EntsR.erase {ents:List Go.MapEntry} {es:List (List V)} (i:Nat) (h:EntsR ents es):EntsR (ents.eraseIdx i) (es.eraseIdx i):=
 ⟨by simp [List.length_eraseIdx,h.1],fun j r hr=>by
  rw [List.getElem?_eraseIdx] at hr ⊢
  split at hr
  ·rename_i hji
   obtain ⟨k',n',v',h3,h4,q',h5,h6⟩:=h.2 j r hr
   exact ⟨k',n',v',h3,h4,q',by simp only [hji,if_true]; exact h5,h6⟩
  ·rename_i hji
   obtain ⟨k',n',v',h3,h4,q',h5,h6⟩:=h.2 (j+1) r hr
   exact ⟨k',n',v',h3,h4,q',by simp only [hji,if_false]; exact h5,h6⟩⟩
def mpPut (m:Mem) (id:Nat) (es:List (List V)) (kv v:V):Option Nat→Mem
 | some i=>{ m with H:=m.H.set id (.mp (es.set i [kv,v])) }
 | none=>{ m with H:=m.H.set id (.mp (es ++ [[kv,v]])) }
def mpDel (m:Mem) (id:Nat) (es:List (List V)):Option Nat→Mem
 | some i=>{ m with H:=m.H.set id (.mp (es.eraseIdx i)) }
 | none=>m
theorem x_mput {o:Oper} {t el:TypeId} {x i y:Operand} {xx xi xy:X} {id:Nat} {es:List (List V)} {p:Option Nat} (hρ:OpR h ds G w ρ e) (hm:MR G w m) (ho:o.op=.mapUpdate t x i y)
  (ht:mapT P t=some el) (hx:cX h ds x=some xx) (hi:cX h ds i=some xi) (hy:cX h ds y=some xy)
  (h1:ρ xx=.map id) (hes:m.H[id]?=some (.mp es)) (hk:(ρ xi).isInt=true) (hs:(ρ xy).isScV=true) (hp:keyAt (ρ xi) es 0=some p):
  Res ((execOp e o).run P w) G w m .undef (mpPut m id es (ρ xi) (ρ xy) p) k:=by
 obtain ⟨kt,kk,ht1,ht2⟩:=mapT_ok ht
 obtain ⟨kq,n,hkn⟩:=isInt_inv hk
 have hxi:=hρ _ _ hi
 rw [hkn] at hxi hp ⊢
 have hei:=hxi.int_inv
 have hsy:=sc_of hs
 have hey:=(hρ _ _ hy).is_sc hsy
 generalize ρ xy=v at *
 have hxx:=hρ _ _ hx
 rw [h1] at hxx
 obtain ⟨b,hex,hb⟩:∃ b,e x=.map (some b)∧G.ha id=some (b,0,0):=by
  generalize e x=a at hxx
  cases hxx
  exact ⟨_,rfl,‹_›⟩
 obtain ⟨b',q1,q2⟩:=hm.mp id es hes
 rw [hb] at q1
 cases q1
 obtain ⟨ents,ck,g1,g2⟩:=q2.ents
 rcases find_ok (kk:=kk) es ents.toList 0 g2 p hp with ⟨rfl,f2⟩ | ⟨j,u,rfl,f2,f3,⟨q,f4,f5,f6⟩,f7⟩
 ·obtain ⟨r1,r2,r3⟩:=putMap (es':=es ++ [[.int kq n,v]]) (ents':=ents.push { key:=.int kq n,val:=sc v,born:=ck }) (ck':=ck+1) hm hes hb g1 (by rw [Array.toList_push]; exact g2.push hsy rfl rfl)
  refine ⟨undef,_,G,.inr ⟨?_,rfl⟩,r1,.refl _ _,r2,.undef _ _,r3⟩
  simp only [execOp,ho,hex,hei,hey,Instr.mapUpdate,Sem.run_bind,run_underlying ht1,Result.andThen,MapKept.run_getObj_map g1,chk_run ht2,MapKept.run_findKey ht2 f2,MapKept.run_setObj_map _ g1]
  rfl
 ·have e0:0+j=j:=Nat.zero_add j
  rw [e0] at f7 ⊢
  have hsome:ents[j]?=some q:=by rw [← Array.getElem?_toList]; exact f4
  have hmod:(ents.modify j fun e=>{ e with key:=.int kq n,val:=sc v }).toList=ents.toList.set j { q with key:=.int kq n,val:=sc v }:=by
   apply List.ext_getElem?
   intro i'
   rw [Array.getElem?_toList,Array.getElem?_modify,List.getElem?_set,Array.getElem?_toList]
   by_cases e:j=i'
   ·subst e
    obtain ⟨hlt,hqq⟩:=Array.getElem?_eq_some_iff.1 hsome
    simp [hlt,hqq]
   ·simp [e]
  obtain ⟨r1,r2,r3⟩:=putMap (es':=es.set j [.int kq n,v]) (ents':=ents.modify j fun e=>{ e with key:=.int kq n,val:=sc v }) (ck':=ck) hm hes hb g1 (by rw [hmod]; exact g2.set hsy rfl rfl)
  refine ⟨undef,_,G,.inr ⟨?_,rfl⟩,r1,.refl _ _,r2,.undef _ _,r3⟩
  simp only [execOp,ho,hex,hei,hey,Instr.mapUpdate,Sem.run_bind,run_underlying ht1,Result.andThen,MapKept.run_getObj_map g1,chk_run ht2,MapKept.run_findKey ht2 f7,hsome,Option.map_some,Option.getD_some,f5,stays_run,MapKept.run_setObj_map _ g1]
  rfl
theorem x_mdel {o:Oper} {cl:Call} {t el:TypeId} {x i:Operand} {xx xi:X} {id:Nat} {es:List (List V)} {p:Option Nat} (hρ:OpR h ds G w ρ e) (hm:MR G w m) (ho:o.op=.call cl)
  (hc:cl.callee=.builtin .delete) (ha:cl.args.toList=[x,i]) (hat:cl.argTypes[0]?=some t)
  (ht:mapT P t=some el) (hx:cX h ds x=some xx) (hi:cX h ds i=some xi)
  (h1:ρ xx=.map id) (hes:m.H[id]?=some (.mp es)) (hk:(ρ xi).isInt=true) (hp:keyAt (ρ xi) es 0=some p):
  Res ((execOp e o).run P w) G w m (.tup []) (mpDel m id es p) k:=by
 obtain ⟨kt,kk,ht1,ht2⟩:=mapT_ok ht
 obtain ⟨kq,n,hkn⟩:=isInt_inv hk
 have hxi:=hρ _ _ hi
 rw [hkn] at hxi hp
 have hei:=hxi.int_inv
 have h0:=args_two ha
 have hxx:=hρ _ _ hx
 rw [h1] at hxx
 obtain ⟨b,hex,hb⟩:∃ b,e x=.map (some b)∧G.ha id=some (b,0,0):=by
  generalize e x=a at hxx
  cases hxx
  exact ⟨_,rfl,‹_›⟩
 obtain ⟨b',q1,q2⟩:=hm.mp id es hes
 rw [hb] at q1
 cases q1
 obtain ⟨ents,ck,g1,g2⟩:=q2.ents
 have tup0:∀ w',VR G w' 2 (.tup []) (.tuple #[]):=fun w'=>.tup 2 [] #[] rfl fun j v hj=>by simp at hj
 rcases find_ok (kk:=kk) es ents.toList 0 g2 p hp with ⟨rfl,f2⟩ | ⟨j,u,rfl,f2,f3,⟨q,f4,f5,f6⟩,f7⟩
 ·obtain ⟨r1,r2,r3⟩:=putMap (es':=es) (ents':=ents) (ck':=ck) hm hes hb g1 g2
  have hsame:{ m with H:=m.H.set id (.mp es) }=m:=by
   have:m.H.set id (.mp es)=m.H:=by
    apply List.ext_getElem?
    intro i'
    rw [List.getElem?_set]
    by_cases e:id=i'
    ·subst e
     have hlt:=(List.getElem?_eq_some_iff.1 hes).1
     rw [if_pos rfl,if_pos hlt,hes]
    ·simp [e]
   rw [this]
  rw [hsame] at r2 r3
  refine ⟨.tuple #[],_,G,.inl ?_,r1,.refl _ _,r2,tup0 _,r3⟩
  simp only [execOp,ho,hc,resolve,invoke,builtin,Builtin.delete_,h0,hat,hex,hei,Sem.run_bind,run_underlying ht1,Result.andThen,MapKept.run_getObj_map g1,chk_run ht2,MapKept.run_findKey ht2 f2,MapKept.run_setObj_map _ g1]
  simp [hat,hex,hei,run_underlying ht1,MapKept.run_getObj_map g1,chk_run ht2,MapKept.run_findKey ht2 f2,MapKept.run_setObj_map _ g1]
 ·have e0:0+j=j:=Nat.zero_add j
  rw [e0] at f7 ⊢
  have her:(ents.eraseIdxIfInBounds j).toList=ents.toList.eraseIdx j:=by simp
  obtain ⟨r1,r2,r3⟩:=putMap (es':=es.eraseIdx j) (ents':=ents.eraseIdxIfInBounds j) (ck':=ck) hm hes hb g1 (by rw [her]; exact g2.erase j)
  refine ⟨.tuple #[],_,G,.inl ?_,r1,.refl _ _,r2,tup0 _,r3⟩
  simp [execOp,ho,hc,resolve,invoke,builtin,Builtin.delete_,h0,hat,hex,hei,run_underlying ht1,MapKept.run_getObj_map g1,chk_run ht2,MapKept.run_findKey ht2 f7,MapKept.run_setObj_map _ g1]
theorem x_lenM {o:Oper} {cl:Call} {y:Operand} {xx:X} {t a b:TypeId} {es:List (List V)} (hρ:OpR h ds G w ρ e) (hm:MR G w m) (ho:o.op=.call cl)
  (hc:cl.callee=.builtin .len) (ha:cl.args.toList=[y]) (ht:cl.argTypes[0]?=some t) (hu:P.underlying t=some (.map a b))
  (hx:cX h ds y=some xx) (hv:mapEs m (ρ xx)=some es):Res ((execOp e o).run P w) G w m (.int .i64 es.length) m k:=by
 refine .same hm ?_ (.int _ _ _)
 have h0:=args_one ha
 rcases map_es (hρ _ _ hx) hm hv with ⟨h1,rfl⟩ | ⟨id,b,h0',h1,h2,h3,h4⟩
 ·simp [execOp,ho,hc,resolve,invoke,builtin,Builtin.len_,h0,ht,h1,run_underlying hu,goInt]
 ·obtain ⟨ents,ck,g1,g2⟩:=h4.ents
  have hl:ents.size=es.length:=by have:=g2.1; simpa using this
  simp [execOp,ho,hc,resolve,invoke,builtin,Builtin.len_,h0,ht,h1,run_underlying hu,goInt,MapKept.run_getObj_map g1,hl]
end
end Go.Vm
namespace Go.Vm
section
variable {P:Program} {tg:Nat→Option Tg} {h:Hint} {ds:List (Option Nat)} {G:Gh} {w:World} {m:Mem} {ρ:X→V} {e:Operand→Value} {k:Bool→Nat→Prop} {call:CallT}
theorem slEl_ok {t el:TypeId} (h:slEl P t=some el):P.underlying t=some (.slice el):=by
 unfold slEl und at h
 split at h
 ·rename_i hu; cases h; exact hu
 ·cases h
theorem x_lenS {o:Oper} {cl:Call} {y:Operand} {xx:X} {t:TypeId} {s:List UInt8} (hρ:OpR h ds G w ρ e) (hm:MR G w m) (ho:o.op=.call cl)
  (hc:cl.callee=.builtin .len) (ha:cl.args.toList=[y]) (ht:cl.argTypes[0]?=some t) (hu:P.underlying t=some .string)
  (hx:cX h ds y=some xx) (hv:ρ xx=.str s):Res ((execOp e o).run P w) G w m (.int .i64 s.length) m k:=by
 refine .same hm ?_ (.int _ _ _)
 have h0:=args_one ha
 have h1:=hρ _ _ hx
 rw [hv] at h1
 have h2:=h1.str_inv
 generalize hb:(⟨s.toArray⟩:ByteArray)=b at h2
 have h3:b.size=s.length:=by rw [← hb]; simp [ByteArray.size]
 simp [execOp,ho,hc,resolve,invoke,builtin,Builtin.len_,h0,ht,h2,run_underlying hu,goInt,h3]
theorem x_lenL {o:Oper} {cl:Call} {y:Operand} {xx:X} {t el:TypeId} {n:Nat} (hρ:OpR h ds G w ρ e) (hm:MR G w m) (ho:o.op=.call cl)
  (hc:cl.callee=.builtin .len) (ha:cl.args.toList=[y]) (ht:cl.argTypes[0]?=some t) (hu:P.underlying t=some (.slice el))
  (hx:cX h ds y=some xx) (hv:lenV (ρ xx)=some n):Res ((execOp e o).run P w) G w m (.int .i64 n) m k:=by
 refine x_len hρ hm ho hc ha ht hu (.inr ⟨el,rfl⟩) hx hv ⟨fun h=>(by cases h),fun ⟨s,hs⟩=>(by rw [hs] at hv; simp [lenV] at hv)⟩
theorem cXs_one {ys:List Operand} {xs:List X} {x:X} (hx:cXs h ds ys=some xs) (he:xs=[x]):∃ y,ys=[y]∧cX h ds y=some x:=by
 subst he
 cases ys with
 | nil=>simp [cXs] at hx
 | cons y ys=>
  simp only [cXs] at hx
  split at hx
  ·cases hx
  ·rename_i x' hx'
   split at hx
   ·cases hx
   ·rename_i xs' hxs
    cases hx
    cases ys with
    | nil=>exact ⟨y,rfl,hx'⟩
    | cons z zs=>
     simp only [cXs] at hxs
     split at hxs
     ·cases hxs
     ·split at hxs
      ·cases hxs
      ·cases hxs
theorem cXs_two {ys:List Operand} {xs:List X} {x x':X} (hx:cXs h ds ys=some xs) (he:xs=[x,x']):∃ y y',ys=[y,y']∧cX h ds y=some x∧cX h ds y'=some x':=by
 subst he
 cases ys with
 | nil=>simp [cXs] at hx
 | cons y ys=>
  simp only [cXs] at hx
  split at hx
  ·cases hx
  ·rename_i x1 hx1
   split at hx
   ·cases hx
   ·rename_i xs' hxs
    cases hx
    obtain ⟨y',rfl,hy'⟩:=cXs_one hxs rfl
    exact ⟨y,y',rfl,hx1,hy'⟩
def KR (o:O) (b:Bool) (j:Nat):Prop:=resets o=some (b,j)
theorem op_mv {o:Oper} {x:Operand} {c:Nat} {oo:O} {v:V} {m':Mem} (hec:∀ v,e (.const v)=v) (hρ:OpR h ds G w ρ e) (hm:MR G w m) (ho:o.op=.move x∨o.op=.assign x)
  (hc:(if c > 0 && isNilSlice x then some (.onil (c - 1)) else (cX h ds x).map .mv)=some oo) (hev:evO call ρ m oo=some (v,m')):Res ((execOp e o).run P w) G w m v m' (KR oo):=by
 split at hc
 ·rename_i hcond
  cases hc
  simp only [Bool.and_eq_true,decide_eq_true_eq] at hcond
  have hx:e x=.slice none 0 0:=by
   have:=hcond.2
   unfold isNilSlice at this
   split at this
   ·exact hec _
   ·cases this
  simp only [evO] at hev
  split at hev
  ·rename_i hj; cases hev; exact x_onil hm ho hx hj rfl
  ·cases hev
 ·simp only [Option.map_eq_some_iff] at hc
  obtain ⟨xx,hx,rfl⟩:=hc
  simp only [evO] at hev
  cases hev
  exact x_mv hρ hm ho hx
theorem val_ok {u:Option V} {v:V} {m':Mem} (h:val m u=some (v,m')):u=some v∧m'=m:=by
 cases u with
 | none=>simp [val] at h
 | some x=>simp [val] at h; exact ⟨by rw [h.1],h.2.symm⟩
theorem evLen0 {x:X} {v:V} {m':Mem} (h:evO call ρ m (.len 0 x)=some (v,m')):∃ s,ρ x=.str s∧v=.int .i64 s.length∧m'=m:=by
 simp only [evO] at h
 cases hq:ρ x<;>simp only [hq,reduceCtorEq,Option.some.injEq,Prod.mk.injEq] at h
 exact ⟨_,rfl,h.1.symm,h.2.symm⟩
theorem evLen1 {x:X} {v:V} {m':Mem} (h:evO call ρ m (.len 1 x)=some (v,m')):∃ n:Nat,lenV (ρ x)=some n∧v=.int .i64 n∧m'=m:=by
 simp only [evO] at h
 cases hq:ρ x<;>simp only [hq] at h<;>(
  split at h
  ·rename_i n hn; cases h; exact ⟨n,hn,rfl,rfl⟩
  ·cases h)
theorem evLen2 {x:X} {v:V} {m':Mem} (h:evO call ρ m (.len 2 x)=some (v,m')):∃ es,mapEs m (ρ x)=some es∧v=.int .i64 (es.length:Nat)∧m'=m:=by
 simp only [evO] at h
 cases hq:ρ x<;>simp only [hq,reduceCtorEq,Option.some.injEq,Prod.mk.injEq] at h
 ·exact ⟨[],rfl,h.1.symm,h.2.symm⟩
 ·exact ⟨_,rfl,h.1.symm,h.2.symm⟩
 ·split at h
  ·rename_i es hes
   cases h
   exact ⟨es,by simp only [mapEs,hes],rfl,rfl⟩
  ·cases h
def EqShape (P:Program) (t:TypeId) (b:BinOp) (ne:Bool) (xx xy:X) (d:TypeDesc) (oo:O):Prop:=
 match d with
 | .int _ | .float _ | .string=>oo=.bin b xx xy
 | .bool=>oo=.eqb ne xx xy
 | .pointer _=>oo=.eqn .ptr ne xx xy
 | .slice _=>oo=.eqn .slice ne xx xy
 | .map ..=>oo=.eqn .map ne xx xy
 | .func ..=>oo=.eqn .func ne xx xy
 | .struct _ | .array _ _=>∃ ks,P.eqGuardType P.depth t=false∧cksT P 8 t=some ks∧oo=.eqa ne ks xx xy
 | _=>False
theorem op_ok {o : Oper} {c : Nat} {oo : O} {v : V} {m' : Mem} (hT : TgOK P tg) {gl : List (Nat × List V)} (hE : EntOK P call) (hV : SndV P gl call) (hH : SndH P gl call) (hg : GI gl G w) (hef : ∀ f, e (.func f) = .func (.func f) #[] #[]) (hec : ∀ v, e (.const v) = v)
    (hρc : ∀ v, ρ (.c v) = v) (hρ : OpR h ds G w ρ e) (hm : MR G w m) (hc : cOp P tg h ds c o = some oo) (hev : evO call ρ m oo = some (v, m')) : Out P o e w (Post G w m v m' (KR oo)) := by
  cases hop : o.op with
  | move x => exact (op_mv hec hρ hm (.inl hop) (by simpa [cOp, hop] using hc) hev).out
  | assign x => exact (op_mv hec hρ hm (.inr hop) (by simpa [cOp, hop] using hc) hev).out
  | pick x a b =>
    simp only [cOp, hop, Option.bind_eq_bind, Option.bind_eq_some_iff, Option.some.injEq] at hc
    obtain ⟨xc, h1, xa, h2, xb, h3, rfl⟩ := hc
    simp only [evO] at hev
    split at hev
    · rename_i t ht; cases hev; exact (x_pick hρ hm hop h1 h2 h3 ht).out
    · cases hev
  | alloc t =>
    simp only [cOp, hop, Option.bind_eq_bind, Option.bind_eq_some_iff, Option.some.injEq] at hc
    obtain ⟨z, h1, rfl⟩ := hc
    by_cases hc0 : c > 0
    · simp only [hc0, if_true, evO] at hev ⊢
      split at hev
      · rename_i hj; cases hev; exact (x_lalloc hm hop h1 hj rfl).out
      · cases hev
    · simp only [hc0, if_false, evO] at hev ⊢
      cases hev; exact (x_halloc hm hop h1).out
  | box t x =>
    simp only [cOp, hop, Option.bind_eq_bind, Option.bind_eq_some_iff, Option.some.injEq] at hc
    obtain ⟨n, h1, xx, h2, rfl⟩ := hc
    by_cases hc0 : c > 0
    · simp only [hc0, if_true, evO] at hev ⊢
      split at hev
      · rename_i u hu
        split at hev
        · rename_i hj; cases hev; exact (x_lbox hρ hm hop h2 hu hj.1 rfl).out
        · cases hev
      · cases hev
    · simp only [hc0, if_false, evO] at hev ⊢
      split at hev
      · rename_i u hu
        split at hev
        · cases hev; exact (x_hbox hρ hm hop h2 hu).out
        · cases hev
      · cases hev
  | build t ps =>
    simp only [cOp, hop, Option.bind_eq_bind, Option.bind_eq_some_iff, Option.some.injEq] at hc
    obtain ⟨z, h1, d, h2, hc⟩ := hc
    cases d <;> simp only [reduceCtorEq] at hc
    · rename_i nn el
      simp only [Option.bind_eq_some_iff, Option.some.injEq] at hc
      obtain ⟨n, h3, qs, h4, rfl⟩ := hc
      simp only [evO] at hev
      obtain ⟨h5, rfl⟩ := val_ok hev
      simp only [Option.map_eq_some_iff] at h5
      obtain ⟨z', h6, rfl⟩ := h5
      exact (x_build_array hρ hm hop h2 h1 h3 h4 h6).out
    · rename_i fs
      split at hc
      · cases hc
      · rename_i hall
        simp only [Option.bind_eq_some_iff, Option.some.injEq] at hc
        obtain ⟨qs, h4, rfl⟩ := hc
        simp only [evO] at hev
        obtain ⟨h5, rfl⟩ := val_ok hev
        simp only [Option.map_eq_some_iff] at h5
        obtain ⟨z', h6, rfl⟩ := h5
        exact (x_build_struct hρ hm hop h2 h1 (by revert hall; cases fs.toList.all (fun f => (szOf P f.type).isSome) <;> simp) h4 h6).out
  | buildSlice t len ps =>
    simp only [cOp, hop, Option.bind_eq_bind, Option.bind_eq_some_iff] at hc
    obtain ⟨el, h1, n, h2, z, h3, hc⟩ := hc
    split at hc
    · cases hc
    · rename_i hcond
      simp only [Option.bind_eq_some_iff, Option.some.injEq] at hc
      obtain ⟨qs, h4, rfl⟩ := hc
      simp only [not_or, Nat.not_lt, Classical.not_not, gt_iff_lt] at hcond
      refine (x_lit hρ hm hop (slEl_ok h1) h2 h3 hcond.1 hcond.2.2 hcond.2.1 h4 hev fun hk => ?_).out
      simp only [KR, resets]
      rw [if_pos hk]
  | load t a =>
    simp only [cOp, hop, Option.bind_eq_bind, Option.bind_eq_some_iff, Option.some.injEq] at hc
    obtain ⟨ag, h1, n, h2, xa, h3, rfl⟩ := hc
    simp only [evO] at hev
    split at hev
    · obtain ⟨h4, rfl⟩ := val_ok hev
      exact (x_load hρ hm hop h1 h2 h3 h4).out
    · cases hev
  | store t a x =>
    simp only [cOp, hop, Option.bind_eq_bind, Option.bind_eq_some_iff, Option.some.injEq] at hc
    obtain ⟨n, h1, xa, h2, xx, h3, rfl⟩ := hc
    simp only [evO] at hev
    split at hev
    · split at hev
      · rename_i u hu
        split at hev
        · rename_i m1 hm1; cases hev; exact (x_store hρ hm hop h1 h3 h2 hu hm1).out
        · cases hev
      · cases hev
    · cases hev
  | nilCheck x =>
    simp only [cOp, hop, Option.bind_eq_bind, Option.bind_eq_some_iff, Option.some.injEq] at hc
    obtain ⟨xx, h1, rfl⟩ := hc
    simp only [evO] at hev
    split at hev
    · rename_i a b c' hq; cases hev; exact (x_nilck hρ hm hop h1 hq (.inl ⟨_, _, _, rfl⟩)).out
    · rename_i a b c' hq; cases hev; exact (x_nilck hρ hm hop h1 hq (.inr (.inl ⟨_, _, _, rfl⟩))).out
    · rename_i a b hq; cases hev; exact (x_nilck hρ hm hop h1 hq (.inr (.inr (.inl ⟨_, _, rfl⟩)))).out
    · rename_i a b c' hq; cases hev; exact (x_nilck hρ hm hop h1 hq (.inr (.inr (.inr ⟨_, _, _, rfl⟩)))).out
    · cases hev
  | binOp b t x y yt =>
    simp only [cOp, hop, Option.bind_eq_bind, Option.bind_eq_some_iff] at hc
    obtain ⟨xx, h1, xy, h2, hc⟩ := hc
    have plain : oo = .bin b xx xy → Out P o e w (Post G w m v m' (KR oo)) := by
      rintro rfl
      simp only [evO] at hev
      obtain ⟨h3, rfl⟩ := val_ok hev
      exact (x_bin hρ hm hop h1 h2 h3).out
    have eqs : ∀ ne : Bool, (b = .eql ∧ ne = false) ∨ (b = .neq ∧ ne = true) → (∃ d, P.underlying t = some d ∧ EqShape P t b ne xx xy d oo) → Out P o e w (Post G w m v m' (KR oo)) := by
      rintro ne hne ⟨d, hu, hc⟩
      have hop' : b = .eql ∨ b = .neq := hne.imp (·.1) (·.1)
      have hneb : ∀ r : Bool, (if ne then !r else r) = (if b = .neq then !r else r) := by
        intro r; rcases hne with ⟨rfl, rfl⟩ | ⟨rfl, rfl⟩ <;> simp
      have eqn : ∀ nk : NK, (match nk with
          | .ptr => ∃ el, P.underlying t = some (.pointer el)
          | .slice => ∃ el, P.underlying t = some (.slice el)
          | .map => ∃ a b, P.underlying t = some (.map a b)
          | .func => ∃ a b c, P.underlying t = some (.func a b c)) → oo = .eqn nk ne xx xy → Out P o e w (Post G w m v m' (KR oo)) := by
        rintro nk hnk rfl
        simp only [evO] at hev
        split at hev
        · rename_i r hr
          cases hev
          rw [hneb]
          exact (x_eqn hρ hm hop hop' hnk h1 h2 hr).out
        · cases hev
      cases d <;> simp only [EqShape] at hc
      case bool =>
        subst hc
        simp only [evO] at hev
        split at hev
        · rename_i p q hp hq
          cases hev
          have : (if ne then p != q else p == q) = (if b = .neq then p != q else p == q) := by
            rcases hne with ⟨rfl, rfl⟩ | ⟨rfl, rfl⟩ <;> simp
          rw [this]
          exact (x_eqb hρ hm hop hop' hu h1 h2 hp hq).out
        · cases hev
      case int => exact plain hc
      case float => exact plain hc
      case string => exact plain hc
      case pointer el => exact eqn .ptr ⟨el, hu⟩ hc
      case slice el => exact eqn .slice ⟨el, hu⟩ hc
      case map a b => exact eqn .map ⟨a, b, hu⟩ hc
      case func a b c => exact eqn .func ⟨a, b, c, hu⟩ hc
      all_goals
        obtain ⟨ks, hg, hk, rfl⟩ := hc
        simp only [evO] at hev
        split at hev
        · rename_i p q hp hq
          split at hev
          · rename_i r hr
            cases hev
            rw [hneb]
            exact (x_eqa hρ hm hop hop' hu (by first | exact .inl ⟨_, rfl⟩ | exact .inr ⟨_, _, rfl⟩) hg hk h1 h2 hp hq hr).out
          · cases hev
        · cases hev
    cases b <;> simp only [Option.some.injEq] at hc
    case eql =>
      simp only [Option.bind_eq_some_iff] at hc
      obtain ⟨d, h3, hc⟩ := hc
      exact eqs false (.inl ⟨rfl, rfl⟩) ⟨d, h3, by
        cases d <;> simp only [Option.some.injEq, reduceCtorEq] at hc <;> first
          | exact hc.symm
          | (split at hc
             · cases hc
             · rename_i hg
               simp only [Option.map_eq_some_iff] at hc
               obtain ⟨ks, hk, rfl⟩ := hc
               exact ⟨ks, by simpa using hg, hk, rfl⟩)⟩
    case neq =>
      simp only [Option.bind_eq_some_iff] at hc
      obtain ⟨d, h3, hc⟩ := hc
      exact eqs true (.inr ⟨rfl, rfl⟩) ⟨d, h3, by
        cases d <;> simp only [Option.some.injEq, reduceCtorEq] at hc <;> first
          | exact hc.symm
          | (split at hc
             · cases hc
             · rename_i hg
               simp only [Option.map_eq_some_iff] at hc
               obtain ⟨ks, hk, rfl⟩ := hc
               exact ⟨ks, by simpa using hg, hk, rfl⟩)⟩
    all_goals exact plain hc.symm
  | unOp u t x =>
    simp only [cOp, hop, Option.bind_eq_bind, Option.bind_eq_some_iff, Option.some.injEq] at hc
    obtain ⟨xx, h1, rfl⟩ := hc
    simp only [evO] at hev
    obtain ⟨h3, rfl⟩ := val_ok hev
    exact (x_un hρ hm hop h1 h3).out
  | convert s t x =>
    simp only [cOp, hop, Option.bind_eq_bind, Option.bind_eq_some_iff] at hc
    obtain ⟨xx, h1, d1, h2, d2, h3, hc⟩ := hc
    split at hc
    · cases hc
      simp only [evO] at hev
      split at hev
      · rename_i hq; cases hev; exact (x_i2i hρ hm hop h2 h3 h1 hq).out
      · cases hev
    · cases hc
      simp only [evO] at hev
      split at hev
      · rename_i hq; cases hev; exact (x_i2f hρ hm hop h2 h3 h1 hq).out
      · cases hev
    · cases hc
      simp only [evO] at hev
      split at hev
      · rename_i hq
        split at hev
        · rename_i n hn
          split at hev
          · rename_i hr; cases hev; exact (x_f2i hρ hm hop h2 h3 h1 hq hn hr).out
          · cases hev
        · cases hev
      · cases hev
    · cases hc
      simp only [evO] at hev
      split at hev
      · rename_i hq; cases hev; exact (x_same hρ hm hop h2 h3 h1 hq).out
      · cases hev
    · cases hc
  | makeInterface t x =>
    simp only [cOp, hop, Option.bind_eq_bind, Option.bind_eq_some_iff] at hc
    obtain ⟨d, h1, hc⟩ := hc
    have hd : (∀ ms, d ≠ .interface ms) ∧ ∃ xx, cX h ds x = some xx ∧ oo = .mkif t xx := by
      cases d <;> simp only [Option.bind_eq_some_iff, Option.some.injEq, reduceCtorEq] at hc <;> (obtain ⟨xx, h2, rfl⟩ := hc; exact ⟨fun ms h => (by cases h), xx, h2, rfl⟩)
    obtain ⟨hd, xx, h2, rfl⟩ := hd
    simp only [evO] at hev
    split at hev
    · rename_i u hu; cases hev; exact (x_mkif hρ hm hop h1 hd h2 hu).out
    · cases hev
  | makeFunc fn a b =>
    cases fn with
    | func f =>
      simp only [cOp, hop, Option.bind_eq_bind, Option.bind_eq_some_iff, Option.some.injEq] at hc
      obtain ⟨xs, h1, ys, h2, rfl⟩ := hc
      simp only [evO] at hev
      split at hev
      · rename_i as has
        split at hev
        · rename_i bs hbs; cases hev; exact (x_mkfn hρ hm hop h1 h2 has hbs).out
        · cases hev
      · cases hev
    | _ => simp [cOp, hop] at hc
  | makeSlice t l cp =>
    simp only [cOp, hop, Option.bind_eq_bind, Option.bind_eq_some_iff] at hc
    obtain ⟨el, h1, n, h2, z, h3, hc⟩ := hc
    split at hc
    · cases hc
    · rename_i hcond
      simp only [Option.bind_eq_some_iff, Option.some.injEq] at hc
      obtain ⟨by_, h4, xl, h5, xc, h6, rfl⟩ := hc
      simp only [not_or, Classical.not_not] at hcond
      by_cases hc0 : c = 0
      · simp only [hc0, if_true, evO] at hev ⊢
        split at hev
        · rename_i hq1 hq2
          split at hev
          · rename_i hb; cases hev; exact (x_mksl hρ hm hop (slEl_ok h1) h2 h4 h3 hcond.1 hcond.2 h5 h6 hq1 hq2 hb).out
          · cases hev
        · cases hev
      · simp only [hc0, if_false, evO] at hev ⊢
        split at hev
        · rename_i hq1 hq2
          split at hev
          · rename_i hb; cases hev; exact (x_mksv hρ hm hop (slEl_ok h1) h2 h4 h3 hcond.1 hcond.2 h5 h6 hq1 hq2 hb).out
          · cases hev
        · cases hev
  | makeMap t r =>
    cases r with
    | none =>
      simp only [cOp, hop, Option.some.injEq] at hc
      subst hc
      simp only [evO] at hev
      cases hev
      exact (x_mkmap hm hop).out
    | some r => simp [cOp, hop] at hc
  | lookup t x i ok =>
    simp only [cOp, hop, Option.bind_eq_bind, Option.bind_eq_some_iff, Option.some.injEq] at hc
    obtain ⟨el, h1, z, h2, xx, h3, xi, h4, rfl⟩ := hc
    simp only [evO] at hev
    split at hev
    · cases hev
    · rename_i es hes
      split at hev
      · rename_i hk
        obtain ⟨h5, rfl⟩ := val_ok hev
        exact (x_look hρ hm hop h1 h2 h3 h4 hes hk h5).out
      · cases hev
  | mapUpdate t x i y =>
    simp only [cOp, hop, Option.bind_eq_bind, Option.bind_eq_some_iff, Option.some.injEq] at hc
    obtain ⟨el, h1, xx, h2, xi, h3, xy, h4, rfl⟩ := hc
    simp only [evO] at hev
    split at hev
    · rename_i id hq
      split at hev
      · rename_i es hes
        split at hev
        · rename_i hk
          split at hev
          · rename_i i hp; cases hev; exact (x_mput hρ hm hop h1 h2 h3 h4 hq hes hk.1 hk.2 hp).out
          · rename_i hp; cases hev; exact (x_mput hρ hm hop h1 h2 h3 h4 hq hes hk.1 hk.2 hp).out
          · cases hev
        · cases hev
      · cases hev
    · cases hev
  | slice t x lo hi mx =>
    simp only [cOp, hop, Option.bind_eq_bind, Option.bind_eq_some_iff] at hc
    obtain ⟨xx, h1, xlo, h2, xhi, h3, xmx, h4, d, h5, hc⟩ := hc
    have hu : P.underlying t = some d := h5
    cases d <;> simp only [reduceCtorEq, Option.some.injEq] at hc
    case string =>
      subst hc
      simp only [evO] at hev
      obtain ⟨h6, rfl⟩ := val_ok hev
      exact (x_slcS hρ hm hop hu h1 h2 h3 h4 h6).out
    case array n el =>
      simp only [Option.bind_eq_some_iff] at hc
      obtain ⟨sz, h6, hc⟩ := hc
      split at hc
      · cases hc
      · cases hc
        simp only [evO] at hev
        obtain ⟨h7, rfl⟩ := val_ok hev
        exact (x_slcA hρ hm hop hu h6 h1 h2 h3 h4 h7).out
    case slice el =>
      simp only [Option.bind_eq_some_iff] at hc
      obtain ⟨sz, h6, hc⟩ := hc
      split at hc
      · cases hc
      · rename_i hz
        cases hc
        simp only [evO] at hev
        obtain ⟨h7, rfl⟩ := val_ok hev
        exact (x_slc hρ hm hop hu h6 h1 h2 h3 h4 hz h7).out
  | fieldAddr t x i =>
    simp only [cOp, hop, Option.bind_eq_bind, Option.bind_eq_some_iff] at hc
    obtain ⟨⟨d, ft⟩, h1, n, h2, hc⟩ := hc
    split at hc
    · cases hc
    · rename_i hn
      simp only [Option.bind_eq_some_iff, Option.some.injEq] at hc
      obtain ⟨xx, h3, rfl⟩ := hc
      simp only [evO] at hev
      obtain ⟨h4, rfl⟩ := val_ok hev
      exact (x_off hρ hm hop h1 h2 hn h3 h4).out
  | field t x i =>
    simp only [cOp, hop, Option.bind_eq_bind, Option.bind_eq_some_iff, Option.some.injEq] at hc
    obtain ⟨⟨d, ft⟩, h1, ag, h2, n, h3, xx, h4, rfl⟩ := hc
    simp only [evO] at hev
    split at hev
    · rename_i cs hq
      obtain ⟨h5, rfl⟩ := val_ok hev
      exact (x_fld hρ hm hop h1 h2 h3 h4 hq h5).out
    · cases hev
  | indexAddr t x i =>
    simp only [cOp, hop, Option.bind_eq_bind, Option.bind_eq_some_iff] at hc
    obtain ⟨xx, h1, xi, h2, d, h3, hc⟩ := hc
    have hu : P.underlying t = some d := h3
    cases d <;> simp only [reduceCtorEq] at hc
    case array n el =>
      simp only [Option.bind_eq_some_iff, Option.some.injEq] at hc
      obtain ⟨sz, h4, rfl⟩ := hc
      simp only [evO] at hev
      split at hev
      · rename_i q hq
        obtain ⟨h5, rfl⟩ := val_ok hev
        exact (x_iaA hρ hm hop hu h4 h1 h2 hq h5).out
      · cases hev
    case slice el =>
      simp only [Option.bind_eq_some_iff, Option.some.injEq] at hc
      obtain ⟨sz, h4, rfl⟩ := hc
      simp only [evO] at hev
      obtain ⟨h5, rfl⟩ := val_ok hev
      exact (x_iaS hρ hm hop hu h4 h1 h2 h5).out
  | index t x i =>
    simp only [cOp, hop, Option.bind_eq_bind, Option.bind_eq_some_iff] at hc
    obtain ⟨xx, h1, xi, h2, d, h3, hc⟩ := hc
    have hu : P.underlying t = some d := h3
    cases d <;> simp only [reduceCtorEq, Option.some.injEq] at hc
    case array n el =>
      simp only [Option.bind_eq_some_iff, Option.some.injEq] at hc
      obtain ⟨sz, h4, ag, h5, rfl⟩ := hc
      simp only [evO] at hev
      split at hev
      · rename_i q hq
        split at hev
        · rename_i cs hcs
          obtain ⟨h6, rfl⟩ := val_ok hev
          exact (x_ixA hρ hm hop hu h4 h5 h1 h2 hq hcs h6).out
        · cases hev
      · cases hev
    case string =>
      subst hc
      simp only [evO] at hev
      split at hev
      · rename_i s hs
        split at hev
        · rename_i q hq
          split at hev
          · rename_i b hb; cases hev; exact (x_ixS hρ hm hop hu h1 h2 hs hq hb).out
          · cases hev
        · cases hev
      · cases hev
  | extract x i =>
    simp only [cOp, hop, Option.bind_eq_bind, Option.bind_eq_some_iff, Option.some.injEq] at hc
    obtain ⟨xx, h1, rfl⟩ := hc
    simp only [evO] at hev
    split at hev
    · rename_i vs hvs
      obtain ⟨h2, rfl⟩ := val_ok hev
      exact (x_ext hρ hm hop h1 hvs h2).out
    · cases hev
  | call cl =>
    simp only [cOp, hop, Option.bind_eq_bind, Option.bind_eq_some_iff] at hc
    obtain ⟨xs, h1, hc⟩ := hc
    cases hcal : cl.callee with
    | value y =>
      have other : (∃ xx, cX h ds y = some xx ∧ oo = .callv (mdOf c) xx xs) → Out P o e w (Post G w m v m' (KR oo)) := by
        rintro ⟨xx, h2, rfl⟩
        simp only [evO] at hev
        split at hev
        · rename_i f fs cs hq
          exact x_callv hE hV hH hg hρ hm hop hcal h2 hq h1 hev
        · cases hev
      cases y with
      | func f =>
        simp only [hcal, Option.bind_eq_some_iff] at hc
        obtain ⟨t, h2, hc⟩ := hc
        cases t with
        | enter j =>
          simp only [Option.some.injEq] at hc
          subst hc
          exact x_call hT hV hH hg hef hρ hm hop hcal h2 h1 hev
        | prim kk =>
          simp only at hc
          split at hc
          · rename_i x
            cases hc
            obtain ⟨y, ha, hy⟩ := cXs_one h1 rfl
            simp only [evO] at hev
            obtain ⟨h3, rfl⟩ := val_ok hev
            exact (x_prim hT hef hρ hm hop hcal h2 ha hy h3).out
          · cases hc
      | tmp t =>
        simp only [hcal, Option.bind_eq_some_iff, Option.some.injEq] at hc
        obtain ⟨xx, h2, rfl⟩ := hc
        exact other ⟨xx, h2, rfl⟩
      | const t =>
        simp only [hcal, Option.bind_eq_some_iff, Option.some.injEq] at hc
        obtain ⟨xx, h2, rfl⟩ := hc
        exact other ⟨xx, h2, rfl⟩
      | global t =>
        simp only [hcal, Option.bind_eq_some_iff, Option.some.injEq] at hc
        obtain ⟨xx, h2, rfl⟩ := hc
        exact other ⟨xx, h2, rfl⟩
    | invoke r n => simp [hcal] at hc
    | builtin b =>
      simp only [hcal] at hc
      split at hc
      · rename_i x
        obtain ⟨y, ha, hy⟩ := cXs_one h1 rfl
        simp only [Option.bind_eq_some_iff] at hc
        obtain ⟨t, h2, d, h3, hc⟩ := hc
        have hu : P.underlying t = some d := h3
        cases d <;> simp only [reduceCtorEq, Option.some.injEq] at hc <;> subst hc
        case string =>
          obtain ⟨s, hs, rfl, rfl⟩ := evLen0 hev
          exact (x_lenS hρ hm hop hcal ha h2 hu hy hs).out
        case array n el =>
          simp only [evO, hρc] at hev
          cases hev
          exact (x_lenA hm hop hcal ha h2 hu).out
        case slice el =>
          obtain ⟨n, hn, rfl, rfl⟩ := evLen1 hev
          exact (x_lenL hρ hm hop hcal ha h2 hu hy hn).out
        case map a b =>
          obtain ⟨es, hes, rfl, rfl⟩ := evLen2 hev
          exact (x_lenM hρ hm hop hcal ha h2 hu hy hes).out
      · rename_i x y
        obtain ⟨y1, y2, ha, hy1, hy2⟩ := cXs_two h1 rfl
        simp only [Option.bind_eq_some_iff] at hc
        obtain ⟨t, h2, el, h3, n, h4, z, h5, hc⟩ := hc
        split at hc
        · cases hc
        · rename_i hcond
          simp only [not_or, Classical.not_not] at hcond
          simp only [Option.bind_eq_some_iff] at hc
          obtain ⟨u, h6, hc⟩ := hc
          split at hc
          · cases hc
          · cases hc
          · rename_i hn1 hn2
            simp only [Option.bind_eq_some_iff] at hc
            obtain ⟨by_, h7, hc⟩ := hc
            have hud : ∃ d, P.underlying u = some d ∧ ∀ k, d ≠ .int k := by
              cases hq : und P u with
              | none => exact absurd hq hn2
              | some d => exact ⟨d, hq, fun k hk => hn1 k (by rw [hq, hk])⟩
            obtain ⟨d, hd1, hd2⟩ := hud
            have ht : AppT P cl.argTypes n by_ el z := ⟨⟨t, u, d, h2, h6, slEl_ok h3, hd1, hd2⟩, h4, h7, h5, hcond.2⟩
            split at hc
            · cases hc
              simp only [evO] at hev
              exact (x_app hρ hm hop hcal ha ht hy1 hy2 hev).out
            · cases hc
              simp only [evO] at hev
              exact (x_appR hρ hm hop hcal ha ht hy1 hy2 hev rfl).out
      · cases hc
        simp only [evO] at hev
        split at hev
        · rename_i hvs
          obtain ⟨h3, rfl⟩ := val_ok hev
          exact (x_min hρ hm hop hcal h1 hvs h3).out
        · cases hev
      · cases hc
        simp only [evO] at hev
        split at hev
        · rename_i hvs
          obtain ⟨h3, rfl⟩ := val_ok hev
          exact (x_max hρ hm hop hcal h1 hvs h3).out
        · cases hev
      · rename_i x y
        obtain ⟨y1, y2, ha, hy1, hy2⟩ := cXs_two h1 rfl
        simp only [Option.bind_eq_some_iff, Option.some.injEq] at hc
        obtain ⟨t, h2, el, h3, rfl⟩ := hc
        simp only [evO] at hev
        split at hev
        · rename_i id hq
          split at hev
          · rename_i es hes
            split at hev
            · rename_i hk
              split at hev
              · rename_i i hp; cases hev; exact (x_mdel hρ hm hop hcal ha h2 h3 hy1 hy2 hq hes hk hp).out
              · rename_i hp; cases hev; exact (x_mdel hρ hm hop hcal ha h2 h3 hy1 hy2 hq hes hk hp).out
              · cases hev
            · cases hev
          · cases hev
        · cases hev
      · rename_i x
        obtain ⟨y, ha, hy⟩ := cXs_one h1 rfl
        simp only [Option.bind_eq_some_iff, Option.some.injEq] at hc
        obtain ⟨t, h2, el, h3, z, h4, rfl⟩ := hc
        exact (x_clr hρ hm hop hcal ha h2 (slEl_ok h3) h4 hy hev).out
      · cases hc
  | _ => simp [cOp, hop] at hc
end
end Go.Vm
namespace Go.Vm
/-! ### the last that writes a place -/
theorem lastIx_none {t:Nat}:∀ {ds:List (Option Nat)} {k:Nat},lastIx t ds k=none→∀ j:Nat,ds[j]?≠some (some t)
 | [],_,_,j=>by simp
 | d :: ds,k,h,j=>by
  simp only [lastIx] at h
  cases h1:lastIx t ds (k+1) with
  | some j'=>simp [h1] at h
  | none=>
   simp only [h1] at h
   split at h
   ·cases h
   ·rename_i hd
    cases j with
    | zero=>simpa using hd
    | succ j=>simpa using lastIx_none h1 j
theorem lastIx_some {t:Nat}:∀ {ds:List (Option Nat)} {k j:Nat},lastIx t ds k=some j→k≤j∧j<k+ds.length∧ds[j - k]?=some (some t)∧∀ j',j<j'→j'<k+ds.length→ds[j' - k]?≠some (some t)
 | [],k,j,h=>by simp [lastIx] at h
 | d :: ds,k,j,h=>by
  simp only [lastIx] at h
  cases h1:lastIx t ds (k+1) with
  | some j'=>
   simp only [h1,Option.some.injEq] at h
   subst h
   obtain ⟨a,b,c,d'⟩:=lastIx_some h1
   refine ⟨by omega,by simp; omega,?_,fun i h2 h3=>?_⟩
   ·rw [show j' - k=(j' - (k+1))+1 by omega]; simpa using c
   ·rw [show i - k=(i - (k+1))+1 by omega]
    simpa using d' i h2 (by simp at h3; omega)
  | none=>
   simp only [h1] at h
   split at h
   ·rename_i hd
    cases h
    refine ⟨Nat.le_refl _,by simp,by simp [hd],fun i h2 h3 he=>?_⟩
    have:=lastIx_none h1 (i - (k+1))
    rw [show i - k=(i - (k+1))+1 by omega] at he
    exact this (by simpa using he)
   ·cases h
theorem posIn_some {t:Nat}:∀ {us:List Nat} {k s:Nat},posIn t us k=some s→k≤s∧us[s - k]?=some t
 | [],_,_,h=>by simp [posIn] at h
 | u :: us,k,s,h=>by
  simp only [posIn] at h
  split at h
  ·rename_i hu; cases h; simp [hu]
  ·obtain ⟨a,b⟩:=posIn_some h
   refine ⟨by omega,?_⟩
   rw [show s - k=(s - (k+1))+1 by omega]; simpa using b
/-! ### variables that values hold -/
theorem VR.loc1 {G:Gh} {w:World} {r:Nat} {v:V} {x:Value} (h:VR G w r v x) (hr:r≤1):v.loc=none:=by
 cases h with
 | osl _ hh j es x n hr'=>
  cases hh
  ·exact absurd hr' (by simp; omega)
  ·rfl
 | _=>first | rfl | omega
def CallNL (call:CallT):Prop:=∀ md f as H r H',call md f as H=some (r,H')→r.loc=none
theorem exp_loc {v u:V} (h:v.exp=some u):u.loc=none:=by
 cases v<;>(try simp only [V.exp,reduceCtorEq,Option.some.injEq] at h)<;>(try subst h)<;>first | rfl | skip
 rename_i hh j es
 cases hh<;>(try simp only [V.exp,Option.some.injEq] at h)<;>subst h<;>first | rfl | exact ils_loc _
theorem flat_loc {v:V} (h:v.flat=true):v.loc=none:=by
 cases v<;>first | rfl | (simp [V.flat] at h; done) | skip
 rename_i hh j es
 cases hh<;>first | rfl | (simp [V.flat] at h; done)
section
variable {call:CallT} {ρ:X→V} {m m':Mem} {v:V}
theorem callF_loc {md:Md} {f:Nat} {vs:List V} (hN:CallNL call) (h:callF call md f m vs=some (v,m')):v.loc=none:=by
 cases md<;>simp only [callF] at h
 ·repeat' split at h
  all_goals first | (cases h; done) | (rename_i hr; cases h; exact hN _ _ _ _ _ _ hr) | (rename_i hr _; cases h; exact hN _ _ _ _ _ _ hr)
 ·repeat' split at h
  all_goals first | (cases h; done) | (rename_i hr; cases h; exact hN _ _ _ _ _ _ hr)
theorem binV_loc {o:BinOp} {a b:V} (h:binV o a b=some v):v.loc=none:=by
 cases a<;>cases b<;>simp only [binV,reduceCtorEq] at h
 ·split at h
  ·simp only [shV] at h
   repeat' split at h
   all_goals first | (cases h; done) | (cases h; rfl)
  ·split at h
   ·simp only [intV,andI,orI,xorI,andNotI,notI] at h
    repeat' split at h
    all_goals first | (cases h; done) | (cases h; rfl)
   ·cases h
 ·simp only [fltV] at h
  repeat' split at h
  all_goals first | (cases h; done) | (cases h; rfl) | (simp only [Option.map_eq_some_iff] at h; obtain ⟨_,_,rfl⟩:=h; rfl)
 ·simp only [strV] at h
  repeat' split at h
  all_goals first | (cases h; done) | (cases h; rfl)
theorem unV_loc {o:UnOp} {a:V} (h:unV o a=some v):v.loc=none:=by
 cases a<;>simp only [unV,andI,orI,xorI,andNotI,notI,reduceCtorEq] at h
 all_goals (repeat' split at h)
 all_goals first | (cases h; done) | (cases h; rfl)
theorem primV_loc {o:PK} {a:V} (h:primV o a=some v):v.loc=none:=by
 simp only [primV,integral] at h
 repeat' split at h
 all_goals first | (cases h; done) | (cases h; rfl)
theorem fold_loc {f:V→V→Option V} (hf:∀ a b c,f a b=some c→c.loc=none):∀ {vs:List V} {u:V},u.loc=none→foldV f u vs=some v→v.loc=none
 | [],u,hu,h=>by simp only [foldV,Option.some.injEq] at h; subst h; exact hu
 | w :: vs,u,hu,h=>by
  simp only [foldV] at h
  split at h
  ·rename_i x hx; exact fold_loc hf (hf _ _ _ hx) h
  ·cases h
theorem slcV_loc {sz:Nat} {x:V} {lo hi mx:Option V} (h:slcV sz m x lo hi mx=some v):v.loc=none:=by
 simp only [slcV] at h
 repeat' split at h
 all_goals first | (cases h; done) | (cases h; rfl) | (simp only [Option.map_eq_some_iff] at h; obtain ⟨_,_,rfl⟩:=h; rfl)
theorem loadAt_loc {ag:Bool} {n off:Nat} {cs:List V} (h:loadAt ag n cs off=some v) (hc:∀ u∈cs,u.loc=none):v.loc=none:=by
 unfold loadAt at h
 split at h
 ·split at h
  ·cases h; rfl
  ·cases h
 ·exact hc v (List.mem_of_getElem? h)
theorem val_loc {u:Option V} (h:val m u=some (v,m')) (hu:∀ x,u=some x→x.loc=none):v.loc=none:=by
 obtain ⟨h1,rfl⟩:=val_ok h
 exact hu v h1
theorem offV_loc {d:Nat} {a:V} (h:offV d a=some v):v.loc=a.loc:=by
 cases a<;>simp only [offV,reduceCtorEq,Option.some.injEq] at h<;>subst h<;>rfl
theorem ArrAt.locs {G:Gh} {w:World} {b s c i:Nat} {es:List (List V)} {cs:List V} (h:ArrAt G w b s c es) (hi:es[i]?=some cs):∀ u∈cs,u.loc=none:=by
 obtain ⟨_,_,_,_,_,_,h5⟩:=h
 intro u hu
 obtain ⟨j,hj⟩:=List.getElem?_of_mem hu
 exact flat_loc (h5 i j cs u hi hj).1
theorem evLoad_loc {G:Gh} {w:World} {ag:Bool} {n:Nat} {a:V} {y:Value} (hm:MR G w m) (hy:VR G w 2 a y) (h:evLoad ag n m a=some v):v.loc=none:=by
 cases hy with
 | ip _ _ _ _ _ _ _ hf=>exact loadAt_loc h fun u hu=>flat_loc (hf u hu)
 | lp _ _ _ _ _ hb=>
  simp only [evLoad] at h
  split at h
  ·rename_i cs hcs
   obtain ⟨cs',h1,h2⟩:=hm.vars _ _ hb
   rw [hcs] at h1; cases h1
   exact loadAt_loc h (h2.locs (i:=0) rfl)
  ·cases h
 | ptr _ _ _ _ _ _ _ _ hb=>
  simp only [evLoad] at h
  split at h
  ·rename_i es hes
   split at h
   ·rename_i cs hcs
    obtain ⟨b,s,c,_,h2⟩:=hm.arr _ _ hes
    exact loadAt_loc h (h2.locs hcs)
   ·cases h
  ·cases h
 | _=>simp [evLoad] at h
theorem appV_loc {k sz by_:Nat} {x y:V} {q:Bool × Nat} (h:appV k sz by_ m x y=some (v,m')) (hq:v.loc=some q):x.loc=some q:=by
 simp only [appV] at h
 split at h
 ·cases h
 ·split at h
  ·rename_i hh j es
   split at h
   ·split at h
    ·rename_i hb
     split at h
     ·split at h
      ·cases h; simp [V.loc] at hq
      ·cases h
     ·cases h
    ·rename_i hb
     have:hh=false:=by cases hh<;>simp_all
     subst this
     split at h
     ·split at h
      ·cases h; exact hq
      ·cases h
     ·cases h
   ·cases h
  all_goals (repeat' split at h)
  all_goals first | (cases h; done) | (cases h; simp [V.loc] at hq; done) | skip
theorem evO_loc {G:Gh} {w:World} {o:O} {q:Bool × Nat} (hN:CallNL call) (hnl:∀ a b z d e,o=.look a b z d e→z.all V.flat=true) (hm:MR G w m) (hp:∀ x∈xsO o,∃ y,VR G w 2 (ρ x) y) (h:evO call ρ m o=some (v,m')) (hq:v.loc=some q):
  resets o=some q∨∃ x∈xsO o,(ρ x).loc=some q:=by
 have no:v.loc=none→resets o=some q∨∃ x∈xsO o,(ρ x).loc=some q:=fun h=>by rw [h] at hq; cases hq
 cases o<;>simp only [evO] at h
 case look a b z mp kk=>
  obtain ⟨y,hy⟩:=hp mp (by simp [xsO])
  have hz:=hnl _ _ _ _ _ rfl
  split at h
  ·cases h
  ·rename_i es hes
   split at h
   ·have hall:∀ r∈es,∀ u∈r,u.flat=true:=by
     rcases map_es hy hm hes with ⟨_,rfl⟩ | ⟨id,bb,_,_,_,_,ents,ck,_,_,hE⟩
     ·intro r hr; cases hr
     ·intro r hr u hu
      obtain ⟨i,hi⟩:=List.getElem?_of_mem hr
      obtain ⟨k,n,v',rfl,hs,_⟩:=hE i r hi
      rcases List.mem_cons.1 hu with rfl | hu
      ·rfl
      ·rw [List.mem_singleton.1 hu]
       cases v'<;>first | rfl | (simp [isSc] at hs)
    refine no (val_loc h fun x hx=>?_)
    simp only [lookV] at hx
    split at hx
    ·cases hx
    ·rename_i p hp
     split at hx
     ·rename_i u hu
      cases hx
      have:=loadAt_loc hu fun u hu=>by
       cases p with
       | some i=>
        simp only at hu
        cases hg:es[i]? with
        | none=>rw [hg] at hu; simp at hu
        | some r=>
         rw [hg] at hu
         exact flat_loc (hall r (List.mem_of_getElem? hg) u (List.mem_of_mem_drop hu))
       | none=>exact flat_loc (List.all_eq_true.1 hz u hu)
      cases a
      ·exact this
      ·rfl
     ·cases hx
   ·cases h
 case mv x=>cases h; exact .inr ⟨x,by simp [xsO],hq⟩
 case pick c a b=>
  split at h
  ·rename_i t ht
   cases h
   cases t
   ·exact .inr ⟨b,by simp [xsO],hq⟩
   ·exact .inr ⟨a,by simp [xsO],hq⟩
  ·cases h
 case onil j=>
  split at h
  ·cases h; exact .inl hq
  ·cases h
 case lalloc j z=>
  split at h
  ·cases h; exact .inl hq
  ·cases h
 case lbox j n x=>
  split at h
  ·split at h
   ·cases h; exact .inl hq
   ·cases h
  ·cases h
 case lit k sz z ps=>
  split at h
  ·cases h
  ·split at h
   ·cases h
   ·split at h
    ·rename_i hk
     split at h
     ·cases h
      left
      simp only [resets]
      rw [if_pos hk]
      unfold litT at hq
      split at hq
      ·simp [V.loc] at hq
      ·exact hq
     ·cases h
    ·repeat' split at h
     all_goals first | (cases h; done) | (cases h; exact no rfl)
 case load sp ag n a=>
  split at h
  ·obtain ⟨y,hy⟩:=hp a (by simp [xsO])
   exact no (val_loc h fun x hx=>evLoad_loc hm hy hx)
  ·cases h
 case build z ps=>
  obtain ⟨h1,_⟩:=val_ok h
  simp only [Option.map_eq_some_iff] at h1
  obtain ⟨c,_,rfl⟩:=h1
  exact no rfl
 case nilck x=>
  repeat' split at h
  all_goals first | (cases h; done) | skip
  all_goals (rename_i hx; cases h; exact .inr ⟨x,by simp [xsO],by rw [hx]; exact hq⟩)
 case off d x=>
  refine .inr ⟨x,by simp [xsO],?_⟩
  obtain ⟨h1,_⟩:=val_ok h
  rw [← offV_loc h1]; exact hq
 case fld d ag n x=>
  obtain ⟨y,hy⟩:=hp x (by simp [xsO])
  split at h
  ·rename_i cs hcs
   rw [hcs] at hy
   cases hy with
   | agg _ _ _ hs hf hx=>exact no (val_loc h fun x hx=>loadAt_loc hx fun u hu=>flat_loc (hf u hu))
  ·cases h
 case iaA len sz x i=>
  split at h
  ·refine .inr ⟨x,by simp [xsO],?_⟩
   obtain ⟨h1,_⟩:=val_ok h
   rw [← offV_loc h1]; exact hq
  ·cases h
 case iaS sz x i=>
  obtain ⟨h1,_⟩:=val_ok h
  simp only [iaSV] at h1
  split at h1
  case h_5 hx=>
   repeat' split at h1
   all_goals first | (cases h1; done) | (cases h1; exact .inr ⟨x,by simp [xsO],by rw [hx]; exact hq⟩)
  all_goals (repeat' split at h1)
  all_goals first | (cases h1; done) | (cases h1; exact no rfl)
 case ixA len sz ag x i=>
  obtain ⟨y,hy⟩:=hp x (by simp [xsO])
  split at h
  ·split at h
   ·rename_i cs hcs
    rw [hcs] at hy
    cases hy with
    | agg _ _ _ hs hf hx=>exact no (val_loc h fun x hx=>loadAt_loc hx fun u hu=>flat_loc (hf u hu))
   ·cases h
  ·cases h
 case slc sz x lo hi mx=>exact no (val_loc h fun x hx=>slcV_loc hx)
 case slcA n sz x lo hi mx=>
  obtain ⟨h1,_⟩:=val_ok h
  simp only [slcAV] at h1
  repeat' split at h1
  all_goals first | (cases h1; done) | (cases h1; exact no rfl) | skip
  rename_i hx
  cases h1; exact .inr ⟨x,by simp [xsO],by rw [hx]; exact hq⟩
 case ext x i=>
  obtain ⟨y,hy⟩:=hp x (by simp [xsO])
  split at h
  ·rename_i vs hvs
   rw [hvs] at hy
   cases hy with
   | tup _ _ _ hs hx=>exact no (val_loc h fun x hi=>(hx i x hi).loc1 (Nat.min_le_right _ _))
  ·cases h
 case call=>exact no (callF_loc hN h)
 case callv=>
  split at h
  ·exact no (callF_loc hN h)
  ·cases h
 case app k sz by_ x y=>exact .inr ⟨x,by simp [xsO],appV_loc h hq⟩
 case appR j sz by_ x y=>
  simp only [appRV] at h
  repeat' split at h
  all_goals first | (cases h; done) | (cases h; simp [V.loc] at hq; done) | (cases h; exact .inl hq)
 case min xs=>
  split at h
  ·rename_i u us hu
   obtain ⟨hx,_⟩:=val_ok h
   cases us with
   | nil=>
    simp only [foldV,Option.some.injEq] at hx
    subst hx
    have:u∈xs.map ρ:=by rw [hu]; simp
    obtain ⟨x,h1,h2⟩:=List.mem_map.1 this
    exact .inr ⟨x,h1,by rw [h2]; exact hq⟩
   | cons u' us=>
    have hf:∀ a b c,minV a b=some c→c.loc=none:=by
     intro a b c hc
     unfold minV at hc
     split at hc
     ·cases hc; rfl
     ·cases hc
    simp only [foldV] at hx
    split at hx
    ·rename_i h1; exact no (fold_loc hf (hf _ _ _ h1) hx)
    ·cases hx
  ·cases h
 case max xs=>
  split at h
  ·rename_i u us hu
   obtain ⟨hx,_⟩:=val_ok h
   cases us with
   | nil=>
    simp only [foldV,Option.some.injEq] at hx
    subst hx
    have:u∈xs.map ρ:=by rw [hu]; simp
    obtain ⟨x,h1,h2⟩:=List.mem_map.1 this
    exact .inr ⟨x,h1,by rw [h2]; exact hq⟩
   | cons u' us=>
    have hf:∀ a b c,maxV a b=some c→c.loc=none:=by
     intro a b c hc
     unfold maxV at hc
     split at hc
     ·cases hc; rfl
     ·cases hc
    simp only [foldV] at hx
    split at hx
    ·rename_i h1; exact no (fold_loc hf (hf _ _ _ h1) hx)
    ·cases hx
  ·cases h
 all_goals try exact no (val_loc h fun x hx=>binV_loc hx)
 all_goals try exact no (val_loc h fun x hx=>unV_loc hx)
 all_goals try exact no (val_loc h fun x hx=>primV_loc hx)
 all_goals try simp only [val,Option.map] at h
 all_goals (repeat' split at h)
 all_goals first | (cases h; done) | (cases h; exact no rfl)
end
end Go.Vm
