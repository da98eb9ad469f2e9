/- Lemmas (no claim): K19q, K19r, K19s, K19t, K19u, K19v, K23p. -/
import Derived.Test.YtimiademofajeaaGreatDoorP17
set_option linter.unusedSimpArgs false
set_option linter.unusedVariables false
set_option maxRecDepth 20000
namespace Go.Proofs.YtimiademofajeaaGreatDoor
open Go Go.Vm
section
variable (t:Bool) (rv:V) (n:Nat) (W:Nat→Nat) (hr:RelV rv n W) (vs:List V)
include hr
theorem Order_l3 (k:Nat) (gone:Nat→Bool) (out:List Int) (hk:out.length+k=n) (a18 a19 a20 a21:V):
  ∃ H',evCI pg (.loop ir_rel_Rel_Orderl3) ⟨[.ip t [rv] 0,.undef,.undef,.rsl 0 0 n,.undef,.rsl 1 0 n,.osl false 0 (iI out),.undef,.undef,.undef,.undef,.undef,.undef,.undef,.undef,.undef,.undef,.undef,a18,a19,a20,a21],⟨[vs],[out.length],[.arr (nR n fun b=>(cntG (bitW W) n gone b:Int)),.arr (bR n gone)]⟩⟩ =
   some (match kah (bitW W) n k gone out with
    | some o=>(.exit 2,⟨[.ip t [rv] 0,.undef,.undef,.rsl 0 0 n,.undef,.rsl 1 0 n,.osl false 0 (iI o),.undef,.undef,.undef,.undef,.undef,.undef,.bool false,.undef,.undef,.undef,.undef,.undef,.undef,.undef,.undef],⟨[vs],[o.length],H'⟩⟩)
    | none=>(.ret,⟨[.undef,.nils,.bool false,.undef,.undef,.undef,.undef,.undef,.undef,.undef,.undef,.undef,.undef,.undef,.undef,.undef,.undef,.undef,.undef,.undef,.undef,.undef],⟨[vs],[0],H'⟩⟩)):=by
 obtain ⟨B,hB⟩:∃ B,B=Vm.C.loop ir_rel_Rel_Orderl3:=⟨_,rfl⟩
 have hL:=Len_ok (t:=t) hr
 have hle:=hr.le
 cases k with
 | zero=>
  have hn:out.length=n:=by omega
  refine ⟨[.arr (nR n fun b=>(cntG (bitW W) n gone b:Int)),.arr (bR n gone)],?_⟩
  rw [← hB,s_loop_at hB]
  simp [ir_rel_Rel_Orderl3,go_sem,iI_len,hL,hn,kah]
 | succ k=>
  have hlt:out.length<n:=by omega
  obtain ⟨h1,h2⟩:=Order_l2 t rv n W hr vs gone out (by omega) 0 (by omega)
  rw [Nat.sub_zero,← List.range_eq_range',Int.natCast_zero] at h1 h2
  unfold kah
  cases hf:(List.range n).find? (may (bitW W) n gone) with
  | none=>
   refine ⟨[.arr (nR n fun b=>(cntG (bitW W) n gone b:Int)),.arr (bR n gone)],?_⟩
   have h1:=h1 hf
   rw [← hB,s_loop_at hB]
   generalize nR n (fun b=>(cntG (bitW W) n gone b:Int))=ar at *
   generalize bR n gone=br at *
   simp [ir_rel_Rel_Orderl3,go_sem,iI_len,hL,hlt,h1]
  | some a=>
   obtain ⟨u,x,y,z,h2⟩:=h2 a hf
   obtain ⟨H',ih⟩:=Order_l3 k (goneA gone a) (out ++ [(a:Int)]) (by simp; omega) u x y z
   refine ⟨H',?_⟩
   have hga:(fun x=>gone x || decide (x=a))=goneA gone a:=rfl
   simp only [hga]
   rw [← ih,← hB]
   conv=>lhs; rw [s_loop_at hB]
   generalize nR n (fun b=>(cntG (bitW W) n gone b:Int))=ar at *
   generalize nR n (fun b=>(cntG (bitW W) n (goneA gone a) b:Int))=ar2 at *
   generalize bR n gone=br at *
   generalize bR n (goneA gone a)=br2 at *
   generalize hoa:out ++ [(a:Int)]=oa at *
   simp [ir_rel_Rel_Orderl3,go_sem,iI_len,hL,hlt,h2]
def ordV:Option (List Int)→V
 | some o=>.tup [ils (iI o),.bool true]
 | none=>.tup [.nils,.bool false]
omit vs in
theorem Order_ok : evI pg .val n_rel_Rel_Order [.ip t [rv] 0] [] = some (ordV (kah (bitW W) n n (fun _ => false) []), []) := by
  have hL := Len_ok (t := t) hr
  have hP := Pairs_ok (t := t) hr
  have hle := hr.le
  have hlen : (prs n W 0).length ≤ 300000 := by
    have key : ∀ d i, i + d = n → (prs n W i).length ≤ 512 * d := by
      intro d
      induction d with
      | zero => intro i hi; obtain rfl : i = n := by omega
                rw [prs_end]; simp
      | succ d ih =>
        intro i hi
        have := ih (i + 1) (by omega)
        have h2 := rt_len n (W i)
        rw [prs_step W (by omega), List.length_append, List.length_map]
        omega
    have := key n 0 (by omega)
    omega
  have hbnd : ∀ q ∈ prs n W 0, 0 ≤ q.2 ∧ q.2 < n := by
    intro q hq
    unfold prs at hq
    obtain ⟨a, _, hq⟩ := List.mem_flatMap.1 hq
    obtain ⟨b, hb, rfl⟩ := List.mem_map.1 hq
    obtain ⟨j, hj, rfl⟩ := List.mem_map.1 hb
    have := List.mem_range.1 (List.mem_filter.1 hj).1
    simp only
    omega
  have hsl := Sl.ils (pR (prs n W 0))
  obtain ⟨vs', h0⟩ := Order_l0 t rv (ils (pR (prs n W 0))) n hle (prs n W 0) hlen hsl hbnd [] 0 0 (by omega) (fun _ => 0) (fun b => by omega)
  have e0 : nR n (fun b => (0 : Int) + (((prs n W 0).drop 0).countP (fun q => decide (q.2 = (b : Int))) : Nat)) = nR n (fun b => (cntG (bitW W) n (fun _ => false) b : Int)) := by
    apply nR_congr
    intro b hb
    rw [List.drop_zero, prs_count n W b hb, Int.zero_add]
  rw [e0, nR_rep, Int.natCast_zero] at h0
  obtain ⟨H', h3⟩ := Order_l3 t rv n W hr vs' n (fun _ => false) [] (by simp) .undef .undef .undef .undef
  have ei : iI [] = [] := rfl
  rw [ei, List.length_nil, bR_rep] at h3
  have hk4 : n * 8 ≤ maxB := by unfold maxB; omega
  have hk1 : n ≤ maxB := by unfold maxB; omega
  have hk5 : (n : Int) ≤ 9223372036854775807 := by omega
  rw [s_fn fn_rel_Rel_Order]
  generalize nR n (fun b => (cntG (bitW W) n (fun _ => false) b : Int)) = ar at *
  cases hkk : kah (bitW W) n n (fun _ => false) [] with
  | none =>
    rw [hkk] at h3
    simp [ir_rel_Rel_Order, go_sem, hL, hP, hk4, hk1, hk5, hsl.is, hsl.rows, pR_len, h0, h3, ordV]
  | some o =>
    rw [hkk] at h3
    simp [ir_rel_Rel_Order, go_sem, hL, hP, hk4, hk1, hk5, hsl.is, hsl.rows, pR_len, h0, h3, ordV]
end
section
variable (tv:V) (n:Nat) (hn:n≤512) (R:Nat→Nat→Bool) (ht:TabV tv n R)
include hn ht
end
def fitA (n:Nat):(Nat→Int)→Nat→List Int→Option (Nat→Int)
 | h,_,[]=>some h
 | h,i,a :: l=>if 0≤a∧a<n∧h a.toNat≤0 then fitA n (fun b=>if b=a.toNat then (i:Int)+1 else h b) (i+1) l else none
section
variable (t:Bool) (rv:V) (n:Nat) (W:Nat→Nat) (hr:RelV rv n W)
include hr
def fitP (n:Nat) (W:Nat→Nat) (l:List Int):Bool:=decide (l.length=n) && match fitA n (fun _=>0) 0 l with
 | none=>false
 | some h=>(prs n W 0).all fun q=>decide (h q.1.toNat<h q.2.toNat)
end
def rfit (R:Nat→Nat→Bool) (n:Nat) (g:Nat→Bool) (pre:List Int):List Int→Bool
 | []=>true
 | a :: l=>if 0≤a∧a<n∧g a.toNat=false then (if ((pre ++ [a]).all fun b=>!R a.toNat b.toNat)=true then rfit R n (goneA g a.toNat) (pre ++ [a]) l else false) else false
section
variable (tv:V) (n:Nat) (hn:n≤512) (R:Nat→Nat→Bool) (ht:TabV tv n R) (u:V) (l:List Int) (hu:Sl u (iI l)) (hl:l.length=n)
include hn ht hu hl
end
theorem pig:∀ (n:Nat) (l:List Nat),l.Nodup→(∀ x∈l,x<n)→l.length≤n
 | 0,l,_,h=>by
  cases l with
  | nil=>simp
  | cons x l=>have:=h x (by simp); omega
 | n+1,l,hd,h=>by
  by_cases hm:n∈l
  ·have h1:=pig n (l.erase n) (hd.erase n) (fun x hx=>by
    have h2:=(List.Nodup.mem_erase_iff hd).1 hx
    have:=h x h2.2
    have h3:=h2.1
    omega)
   rw [List.length_erase_of_mem hm] at h1
   omega
  ·have h1:=pig n l hd (fun x hx=>by
    have:=h x hx
    have h3:x≠n:=fun e=>hm (by rw [← e]; exact hx)
    omega)
   omega
theorem mem_prs {n:Nat} {W:Nat→Nat} {a b:Nat} (ha:a<n) (hb:b<n) (h:(W a).testBit b=true):((a:Int),(b:Int))∈prs n W 0:=by
 unfold prs rt
 refine List.mem_flatMap.2 ⟨a,List.mem_range'_1.2 (by omega),List.mem_map.2 ⟨(b:Int),List.mem_map.2 ⟨b,List.mem_filter.2 ⟨List.mem_range.2 hb,h⟩,rfl⟩,rfl⟩⟩
theorem prs_mem {n:Nat} {W:Nat→Nat} {q:Int × Int} (h:q∈prs n W 0):∃ a b:Nat,q=((a:Int),(b:Int))∧a<n∧b<n∧(W a).testBit b=true:=by
 unfold prs rt at h
 obtain ⟨a,ha,h⟩:=List.mem_flatMap.1 h
 obtain ⟨c,hc,rfl⟩:=List.mem_map.1 h
 obtain ⟨b,hb,rfl⟩:=List.mem_map.1 hc
 have h1:=List.mem_filter.1 hb
 have h2:=List.mem_range'_1.1 ha
 exact ⟨a,b,rfl,by omega,List.mem_range.1 h1.1,h1.2⟩
def noBack (R:Nat→Nat→Bool) (L:List Int) (s:Nat):Prop:=∀ i k x y,s≤i→k≤i→L[i]?=some x→L[k]?=some y→R x.toNat y.toNat=false
theorem fit_gen (R:Nat→Nat→Bool) (n:Nat):∀ (l:List Int) (pre:List Int) (h:Nat→Int) (g:Nat→Bool),(∀ b,g b=decide (0<h b))→(∀ (k:Nat) x,pre[k]?=some x→0≤x∧x<n∧h x.toNat=(k:Int)+1) →
  (fitA n h pre.length l=none→rfit R n g pre l=false) ∧
  (∀ h',fitA n h pre.length l=some h'→(rfit R n g pre l=true↔noBack R (pre ++ l) pre.length)∧∀ (k:Nat) x,(pre ++ l)[k]?=some x→0≤x∧x<n∧h' x.toNat=(k:Int)+1)
 | [],pre,h,g,hg,hp=>by
  refine ⟨fun hc=>by simp [fitA] at hc,fun h' hc=>?_⟩
  simp only [fitA,Option.some.injEq] at hc
  subst hc
  rw [List.append_nil]
  refine ⟨⟨fun _ i k x y hi hk hx hy=>?_,fun _=>rfl⟩,hp⟩
  have:=(List.getElem?_eq_some_iff.1 hx).1
  omega
 | a :: l,pre,h,g,hg,hp=>by
  unfold fitA rfit
  have hga:(g a.toNat=false)↔h a.toNat≤0:=by
   rw [hg]
   simp
  by_cases hc:0≤a∧a<n∧h a.toNat≤0
  ·have hc':0≤a∧a<n∧g a.toNat=false:=⟨hc.1,hc.2.1,hga.2 hc.2.2⟩
   rw [if_pos hc,if_pos hc']
   have hpl:(pre ++ [a]).length=pre.length+1:=by simp
   have hnew:∀ (k:Nat) x,(pre ++ [a])[k]?=some x→0≤x∧x<n∧(if x.toNat=a.toNat then (pre.length:Int)+1 else h x.toNat)=(k:Int)+1:=by
    intro k x hk
    by_cases ck:k<pre.length
    ·rw [List.getElem?_append_left ck] at hk
     obtain ⟨h1,h2,h3⟩:=hp k x hk
     have hne:¬ x.toNat=a.toNat:=fun e=>by rw [e] at h3; omega
     rw [if_neg hne]
     exact ⟨h1,h2,h3⟩
    ·rw [List.getElem?_append_right (by omega)] at hk
     have hk0:k - pre.length=0:=by
      cases hq:k - pre.length with
      | zero=>rfl
      | succ m=>rw [hq] at hk; simp at hk
     rw [hk0] at hk
     simp only [List.getElem?_cons_zero,Option.some.injEq] at hk
     subst hk
     rw [if_pos rfl]
     exact ⟨hc.1,hc.2.1,by omega⟩
   obtain ⟨i1,i2⟩:=fit_gen R n l (pre ++ [a]) (fun b=>if b=a.toNat then (pre.length:Int)+1 else h b) (goneA g a.toNat) (fun b=>by
    unfold goneA
    by_cases e:b=a.toNat
    ·simp [e]
    ·simp [e,hg b]) hnew
   rw [hpl] at i1 i2
   have happ:pre ++ a :: l=pre ++ [a] ++ l:=by simp
   refine ⟨fun hn=>?_,fun h' hs=>?_⟩
   ·rw [i1 hn]; simp
   ·obtain ⟨j1,j2⟩:=i2 h' hs
    rw [happ]
    refine ⟨?_,j2⟩
    have hat:(pre ++ [a] ++ l)[pre.length]?=some a:=by
     rw [List.getElem?_append_left (by simp),List.getElem?_append_right (by omega)]; simp
    constructor
    ·intro hr
     split at hr
     ·rename_i hall
      have hnb:=j1.1 hr
      intro i k x y hi hk hx hy
      by_cases ci:i=pre.length
      ·subst ci
       rw [hat] at hx
       cases hx
       have hky:(pre ++ [a])[k]?=some y:=by
        rw [List.getElem?_append_left (by simp; omega)] at hy; exact hy
       have:=List.all_eq_true.1 hall y (List.mem_of_getElem? hky)
       simpa using this
      ·exact hnb i k x y (by omega) hk hx hy
     ·cases hr
    ·intro hnb
     rw [if_pos]
     ·exact j1.2 fun i k x y hi hk hx hy=>hnb i k x y (by omega) hk hx hy
     ·rw [List.all_eq_true]
      intro y hy
      obtain ⟨k,hk⟩:=List.getElem?_of_mem hy
      have hkl:=(List.getElem?_eq_some_iff.1 hk).1
      have:=hnb pre.length k a y (Nat.le_refl _) (by omega) hat (by rw [List.getElem?_append_left hkl]; exact hk)
      simp [this]
  ·have hc':¬ (0≤a∧a<n∧g a.toNat=false):=fun q=>hc ⟨q.1,q.2.1,hga.1 q.2.2⟩
   rw [if_neg hc,if_neg hc']
   exact ⟨fun _=>rfl,fun h' hs=>by cases hs⟩
theorem fit_same (n:Nat) (W:Nat→Nat) (l:List Int):fitP n W l=(decide (l.length=n) && rfit (bitW W) n (fun _=>false) [] l):=by
 unfold fitP
 by_cases c:l.length=n
 ·obtain ⟨g1,g2⟩:=fit_gen (bitW W) n l [] (fun _=>0) (fun _=>false) (fun b=>by simp) (fun k x hk=>by simp at hk)
  rw [List.nil_append] at g2
  simp only [c,decide_true,Bool.true_and]
  cases hf:fitA n (fun _=>0) 0 l with
  | none=>exact (g1 hf).symm
  | some h=>
   obtain ⟨g3,g4⟩:=g2 h hf
   simp only
   rw [Bool.eq_iff_iff,g3,List.all_eq_true]
   have hnd:(l.map Int.toNat).Nodup:=by
    rw [List.nodup_iff_pairwise_ne,List.pairwise_iff_getElem]
    intro i j hi hj hij e
    simp only [List.length_map] at hi hj
    simp only [List.getElem_map] at e
    have h1:=g4 i l[i] (List.getElem?_eq_getElem hi)
    have h2:=g4 j l[j] (List.getElem?_eq_getElem hj)
    rw [e] at h1
    omega
   have hall:∀ a,a<n→∃ k:Nat,l[k]?=some (a:Int):=by
    intro a ha
    have hm:a∈l.map Int.toNat:=by
     apply Classical.byContradiction
     intro hm
     have:=pig n (a :: l.map Int.toNat) (List.nodup_cons.2 ⟨hm,hnd⟩) (fun x hx=>by
      rcases List.mem_cons.1 hx with rfl | hx
      ·exact ha
      ·obtain ⟨y,hy,rfl⟩:=List.mem_map.1 hx
       obtain ⟨k,hk⟩:=List.getElem?_of_mem hy
       have:=g4 k y hk
       omega)
     simp only [List.length_cons,List.length_map] at this
     omega
    obtain ⟨y,hy,hya⟩:=List.mem_map.1 hm
    obtain ⟨k,hk⟩:=List.getElem?_of_mem hy
    have:=g4 k y hk
    exact ⟨k,by rw [hk]; congr 1; omega⟩
   constructor
   ·intro hp i k x y _ hki hx hy
    have h1:=g4 i x hx
    have h2:=g4 k y hy
    cases hR:bitW W x.toNat y.toNat with
    | false=>rfl
    | true=>
     have:=hp _ (mem_prs (n:=n) (by omega) (by omega) hR)
     simp only [Int.toNat_natCast,decide_eq_true_eq] at this
     omega
   ·intro hnb q hq
    obtain ⟨a,b,rfl,ha,hb,hbit⟩:=prs_mem hq
    obtain ⟨i,hi⟩:=hall a ha
    obtain ⟨k,hk⟩:=hall b hb
    have h1:=g4 i _ hi
    have h2:=g4 k _ hk
    simp only [Int.toNat_natCast] at h1 h2
    simp only [Int.toNat_natCast,decide_eq_true_eq]
    apply Classical.byContradiction
    intro hc
    have:=hnb i k _ _ (Nat.zero_le _) (by omega) hi hk
    simp only [Int.toNat_natCast] at this
    have hb2:bitW W a b=true:=hbit
    rw [hb2] at this
    cases this
 ·simp [c]
theorem fitP_iff (n:Nat) (W:Nat→Nat) (l:List Int):fitP n W l=true↔l.length=n∧rfit (bitW W) n (fun _=>false) [] l=true:=by
 rw [fit_same,Bool.and_eq_true,decide_eq_true_eq]
theorem fit_acyc (n:Nat) (W:Nat→Nat) (l:List Int) (h:fitP n W l=true) (a:Nat) (ha:a<n):war (bitW W) n a a=false:=by
 unfold fitP at h
 rw [Bool.and_eq_true] at h
 obtain ⟨h1,h2⟩:=h
 cases hf:fitA n (fun _=>0) 0 l with
 | none=>rw [hf] at h2; cases h2
 | some p=>
  rw [hf] at h2
  simp only [List.all_eq_true,decide_eq_true_eq] at h2
  cases hw:war (bitW W) n a a with
  | false=>rfl
  | true=>
   have:=war_least (bitW W) n (fun x y=>p x<p y) (fun x y hx hy hR=>by
    have:=h2 _ (mem_prs hx hy hR)
    simpa using this) (fun x z y _ _ _ h1 h2=>by omega) n (Nat.le_refl _) a a ha ha hw
   omega
theorem kah_fit (R:Nat→Nat→Bool) (n:Nat):∀ (k:Nat) (gone:Nat→Bool) (out o:List Int),kah R n k gone out=some o→(∀ b∈out,∀ x,x<n→R x b.toNat=true→gone x=true)→∃ rest,o=out ++ rest∧rfit R n gone out rest=true
 | 0,gone,out,o,h,_=>⟨[],by simp only [kah,Option.some.injEq] at h; simp [h],rfl⟩
 | k+1,gone,out,o,h,hi=>by
  unfold kah at h
  split at h
  ·cases h
  ·rename_i a hf
   have ha:a<n:=List.mem_range.1 (List.mem_of_find?_eq_some hf)
   have hm:=List.find?_some hf
   unfold may at hm
   rw [Bool.and_eq_true] at hm
   obtain ⟨hg,hall⟩:=hm
   have hg':gone a=false:=by simpa using hg
   have hpre:∀ x,x<n→R x a=true→gone x=true:=fun x hx hR=>by
    have:=List.all_eq_true.1 hall x (List.mem_range.2 hx)
    rw [hR] at this
    simpa using this
   obtain ⟨rest,h1,h2⟩:=kah_fit R n k _ _ o h (fun b hb x hx hR=>by
    rcases List.mem_append.1 hb with hb | hb
    ·simp [hi b hb x hx hR]
    ·have:b=(a:Int):=by simpa using hb
     subst this
     simp [hpre x hx (by simpa using hR)])
   refine ⟨(a:Int) :: rest,by rw [h1]; simp,?_⟩
   unfold rfit
   rw [if_pos ⟨by omega,by omega,by simpa using hg'⟩,if_pos]
   ·exact h2
   ·rw [List.all_eq_true]
    intro b hb
    cases hR:R (a:Int).toNat b.toNat with
    | false=>rfl
    | true=>
     rw [Int.toNat_natCast] at hR
     have hgo:gone a=true:=by
      rcases List.mem_append.1 hb with hb | hb
      ·exact hi b hb a ha hR
      ·have:b=(a:Int):=by simpa using hb
       subst this
       exact hpre a ha (by simpa using hR)
     rw [hg'] at hgo; cases hgo
theorem acyc_kah (R:Nat→Nat→Bool) (n:Nat) (hac:∀ a,a<n→war R n a a=false):∀ (k:Nat) (gone:Nat→Bool) (out:List Nat),out.length+k=n→out.Nodup→(∀ x,gone x=true↔x∈out)→(∀ x∈out,x<n)→∃ o,kah R n k gone (out.map fun x:Nat=>(x:Int))=some o
 | 0,gone,out,_,_,_,_=>⟨_,rfl⟩
 | k+1,gone,out,hl,hd,hg,hlt=>by
  unfold kah
  cases hf:(List.range n).find? (may R n gone) with
  | some a=>
   have ha:a<n:=List.mem_range.1 (List.mem_of_find?_eq_some hf)
   have hm:=List.find?_some hf
   unfold may at hm
   rw [Bool.and_eq_true] at hm
   have hg':gone a=false:=by simpa using hm.1
   have hna:a ∉ out:=fun h=>by rw [(hg a).2 h] at hg'; cases hg'
   obtain ⟨o,ho⟩:=acyc_kah R n hac k (fun x=>gone x || decide (x=a)) (out ++ [a]) (by simp; omega) (by
    rw [List.nodup_append]
    refine ⟨hd,by simp,fun x hx y hy e=>?_⟩
    have:y=a:=by simpa using hy
    subst this; subst e; exact hna hx) (fun x=>by simp [hg x]) (fun x hx=>by
    rcases List.mem_append.1 hx with hx | hx
    ·exact hlt x hx
    ·have:x=a:=by simpa using hx
     omega)
   rw [List.map_append] at ho
   exact ⟨o,ho⟩
  | none=>
   exfalso
   have hpred:∀ a,a<n→gone a=false→∃ b,b<n∧gone b=false∧R b a=true:=by
    intro a ha hga
    have:=List.find?_eq_none.1 hf a (List.mem_range.2 ha)
    unfold may at this
    rw [hga] at this
    simp only [Bool.not_false,Bool.true_and,Bool.not_eq_true,List.all_eq_false] at this
    obtain ⟨b,hb,hq⟩:=this
    refine ⟨b,List.mem_range.1 hb,?_⟩
    cases h1:gone b<;>cases h2:R b a<;>simp_all
   have desc:∀ (m a:Nat),a<n→gone a=false→(List.range n).countP (fun b=>war R n b a)≤m→False:=by
    intro m
    induction m with
    | zero=>
     intro a ha hga hm
     obtain ⟨b,hb,_,hR⟩:=hpred a ha hga
     have:=List.countP_eq_zero.1 (Nat.le_zero.1 hm) b (List.mem_range.2 hb)
     exact this (war_sub R b a hR n)
    | succ m ih=>
     intro a ha hga hm
     obtain ⟨b,hb,hgb,hR⟩:=hpred a ha hga
     refine ih b hb hgb ?_
     have hba:=war_sub R b a hR n
     have key:∀ l:List Nat,(l.countP (fun x=>war R n x b)+if b∈l then 1 else 0)≤l.countP (fun x=>war R n x a):=by
      intro l
      induction l with
      | nil=>simp
      | cons x l ihl=>
       rw [List.countP_cons,List.countP_cons]
       have h1:war R n x b=true→war R n x a=true:=fun h=>war_trans R n b x a hb h hba
       by_cases e:b=x
       ·subst e
        rw [hac b hb,hba]
        simp only [List.mem_cons,true_or,if_true,Bool.false_eq_true,if_false]
        split at ihl<;>omega
       ·have:(b∈x :: l)↔(b∈l):=by simp [e]
        simp only [this]
        generalize (if b∈l then (1:Nat) else 0)=z at *
        cases h2:war R n x b with
        | true=>rw [h1 h2]; simp only [if_true]; omega
        | false=>simp only [Bool.false_eq_true,if_false]; split<;>omega
     have:=key (List.range n)
     rw [if_pos (List.mem_range.2 hb)] at this
     omega
   have hex:∃ a,a<n∧gone a=false:=by
    apply Classical.byContradiction
    intro hn
    have hall:∀ a,a<n→a∈out:=fun a ha=>by
     apply Classical.byContradiction
     intro h
     apply hn
     refine ⟨a,ha,?_⟩
     cases hq:gone a with
     | false=>rfl
     | true=>exact absurd ((hg a).1 hq) h
    have h1:(List.range n).length≤out.length:=List.Nodup.length_le_of_subset List.nodup_range (fun a ha=>hall a (List.mem_range.1 ha))
    simp only [List.length_range] at h1
    omega
   obtain ⟨a,ha,hga⟩:=hex
   exact desc _ a ha hga (Nat.le_refl _)
end Go.Proofs.YtimiademofajeaaGreatDoor
namespace Go.Proofs.YtimiademofajeaaGreatDoor
def gbst (c:Nat→Bool) (p:Nat→Int):Nat→Option Nat
 | 0=>none
 | k+1=>if c k then (match gbst c p k with
   | none=>some k
   | some m=>if p m<p k then some k else some m) else gbst c p k
def cpl:List Nat→Nat→Nat
 | [],_=>0
 | a :: l,s=>if a=s then 1 else match cpl l s with
  | 0=>0
  | k+1=>k+2
theorem cpl_pos {s:Nat}:∀ {l:List Nat},0<cpl l s↔s∈l
 | []=>by simp [cpl]
 | a :: l=>by
  have ih:=cpl_pos (s:=s) (l:=l)
  unfold cpl
  by_cases c:a=s
  ·simp [c]
  ·rw [if_neg c]
   have hc:¬ s=a:=fun e=>c e.symm
   simp only [List.mem_cons,hc,false_or]
   rw [← ih]
   split
   ·rename_i h; rw [h]
   ·rename_i k h; rw [h]; omega
structure Gm where
 n:Nat
 bz:Nat
 C:Nat→List Nat
 st:Nat→Nat→Bool
 ah:Nat→Nat→Bool
 hart:Nat→Nat
 ld:Nat→Bool
 sz:Nat→Nat
 ad:Nat→Nat
 tgt:Nat→Nat→Option Nat
 pr:Nat→Option Nat
structure Gm.Ok (g:Gm):Prop where
 nd:∀ x,x<g.bz→(g.C x).Nodup
 mem:∀ x,x<g.bz→∀ s,s∈g.C x↔s<g.n∧g.st s x=true
 irr:∀ i,i<g.n→g.ah i i=false
 inb:∀ i,i<g.n→∀ k,k<g.sz i→g.ad i+k<g.bz
 tg:∀ i,i<g.n→g.ld i=true→∀ k,k<g.sz i→∀ w,g.tgt i k=some w→w<g.n∧g.st w (g.ad i+k)=true
 pr:∀ i,i<g.n→∀ r,g.pr i=some r→r<g.n∧g.ld r=true∧g.ad r=g.ad i∧g.sz r=g.sz i∧∀ k,k<g.sz i→g.st i (g.ad i+k)=true
def Gm.frm (g:Gm) (i k:Nat):Nat:=match g.tgt i k with
 | none=>0
 | some w=>cpl (g.C (g.ad i+k)) w
def Gm.atm (g:Gm) (pl:Nat→Nat→Int) (i k:Nat):Bool:=match g.pr i with
 | none=>true
 | some r=>
  let from_:Int:=match g.tgt r k with
   | none=>0
   | some w=>pl (g.ad i+k) w
  !decide (pl (g.ad i+k) i<from_) && (List.range g.n).all fun s=>!(g.st s (g.ad i+k) && (!decide (g.hart s=g.hart i) && (decide (from_<pl (g.ad i+k) s) && decide (pl (g.ad i+k) s<pl (g.ad i+k) i))))
def Gm.stl (g:Gm) (i k:Nat):Bool:=((g.C (g.ad i+k)).drop (g.frm i k)).any fun s=>g.ah s i
def Gm.cop (g:Gm) (x s:Nat):Int:=(cpl (g.C x) s:Nat)
def Gm.edg (g:Gm) (a b:Nat):Prop:=
 (∃ x,x<g.bz∧∃ k,(g.C x)[k]?=some a∧(g.C x)[k+1]?=some b) ∨
 ∃ i k,i<g.n∧g.ld i=true∧k<g.sz i∧((g.tgt i k=some a∧g.ah a i=false∧b=i)∨(a=i∧b≠i∧b∈(g.C (g.ad i+k)).drop (g.frm i k)))
structure Pos (n:Nat) (p:Nat→Int):Prop where
 inj:∀ a b,a<n→b<n→p a=p b→a=b
 pos:∀ a,a<n→0<p a
section
variable {g:Gm} (h:g.Ok) {p:Nat→Int} (hp:Pos g.n p)
include h hp
omit hp in
end
end Go.Proofs.YtimiademofajeaaGreatDoor
