/- Lemmas (no claim): K19q, K19r, K19s, K19t, K19u. -/
import Derived.Test.YtimiademofajeaaGreatDoorP17
set_option linter.unusedSimpArgs false
set_option linter.unusedVariables false
set_option maxRecDepth 20000
namespace Go.Proofs.YtimiademofajeaaGreatDoor
open Go Go.Vm
section
variable (t:Bool) (rv:V) (n:Nat) (W:Nat→Nat) (hr:RelV rv n W) (vs:List V)
include hr
theorem Order_l3 (k:Nat) (gone:Nat→Bool) (out:List Int) (hk:out.length+k=n) (a18 a19 a20 a21:V):
  ∃ H',evCI pg (.loop ir_rel_Rel_Orderl3) ⟨[.ip t [rv] 0,.undef,.undef,.rsl 0 0 n,.undef,.rsl 1 0 n,.osl false 0 (iI out),.undef,.undef,.undef,.undef,.undef,.undef,.undef,.undef,.undef,.undef,.undef,a18,a19,a20,a21],⟨[vs],[out.length],[.arr (nR n fun b=>(cntG (bitW W) n gone b:Int)),.arr (bR n gone)]⟩⟩ =
   some (match kah (bitW W) n k gone out with
    | some o=>(.exit 2,⟨[.ip t [rv] 0,.undef,.undef,.rsl 0 0 n,.undef,.rsl 1 0 n,.osl false 0 (iI o),.undef,.undef,.undef,.undef,.undef,.undef,.bool false,.undef,.undef,.undef,.undef,.undef,.undef,.undef,.undef],⟨[vs],[o.length],H'⟩⟩)
    | none=>(.ret,⟨[.undef,.nils,.bool false,.undef,.undef,.undef,.undef,.undef,.undef,.undef,.undef,.undef,.undef,.undef,.undef,.undef,.undef,.undef,.undef,.undef,.undef,.undef],⟨[vs],[0],H'⟩⟩)):=by
 obtain ⟨B,hB⟩:∃ B,B=Vm.C.loop ir_rel_Rel_Orderl3:=⟨_,rfl⟩
 have hL:=Len_ok (t:=t) hr
 have hle:=hr.le
 cases k with
 | zero=>
  have hn:out.length=n:=by omega
  refine ⟨[.arr (nR n fun b=>(cntG (bitW W) n gone b:Int)),.arr (bR n gone)],?_⟩
  rw [← hB,s_loop_at hB]
  simp [ir_rel_Rel_Orderl3,go_sem,iI_len,hL,hn,kah]
 | succ k=>
  have hlt:out.length<n:=by omega
  obtain ⟨h1,h2⟩:=Order_l2 t rv n W hr vs gone out (by omega) 0 (by omega)
  rw [Nat.sub_zero,← List.range_eq_range',Int.natCast_zero] at h1 h2
  unfold kah
  cases hf:(List.range n).find? (may (bitW W) n gone) with
  | none=>
   refine ⟨[.arr (nR n fun b=>(cntG (bitW W) n gone b:Int)),.arr (bR n gone)],?_⟩
   have h1:=h1 hf
   rw [← hB,s_loop_at hB]
   generalize nR n (fun b=>(cntG (bitW W) n gone b:Int))=ar at *
   generalize bR n gone=br at *
   simp [ir_rel_Rel_Orderl3,go_sem,iI_len,hL,hlt,h1]
  | some a=>
   obtain ⟨u,x,y,z,h2⟩:=h2 a hf
   obtain ⟨H',ih⟩:=Order_l3 k (goneA gone a) (out ++ [(a:Int)]) (by simp; omega) u x y z
   refine ⟨H',?_⟩
   have hga:(fun x=>gone x || decide (x=a))=goneA gone a:=rfl
   simp only [hga]
   rw [← ih,← hB]
   conv=>lhs; rw [s_loop_at hB]
   generalize nR n (fun b=>(cntG (bitW W) n gone b:Int))=ar at *
   generalize nR n (fun b=>(cntG (bitW W) n (goneA gone a) b:Int))=ar2 at *
   generalize bR n gone=br at *
   generalize bR n (goneA gone a)=br2 at *
   generalize hoa:out ++ [(a:Int)]=oa at *
   simp [ir_rel_Rel_Orderl3,go_sem,iI_len,hL,hlt,h2]
def ordV:Option (List Int)→V
 | some o=>.tup [ils (iI o),.bool true]
 | none=>.tup [.nils,.bool false]
omit vs in
theorem Order_ok : evI pg .val n_rel_Rel_Order [.ip t [rv] 0] [] = some (ordV (kah (bitW W) n n (fun _ => false) []), []) := by
  have hL := Len_ok (t := t) hr
  have hP := Pairs_ok (t := t) hr
  have hle := hr.le
  have hlen : (prs n W 0).length ≤ 300000 := by
    have key : ∀ d i, i + d = n → (prs n W i).length ≤ 512 * d := by
      intro d
      induction d with
      | zero => intro i hi; obtain rfl : i = n := by omega
                rw [prs_end]; simp
      | succ d ih =>
        intro i hi
        have := ih (i + 1) (by omega)
        have h2 := rt_len n (W i)
        rw [prs_step W (by omega), List.length_append, List.length_map]
        omega
    have := key n 0 (by omega)
    omega
  have hbnd : ∀ q ∈ prs n W 0, 0 ≤ q.2 ∧ q.2 < n := by
    intro q hq
    unfold prs at hq
    obtain ⟨a, _, hq⟩ := List.mem_flatMap.1 hq
    obtain ⟨b, hb, rfl⟩ := List.mem_map.1 hq
    obtain ⟨j, hj, rfl⟩ := List.mem_map.1 hb
    have := List.mem_range.1 (List.mem_filter.1 hj).1
    simp only
    omega
  have hsl := Sl.ils (pR (prs n W 0))
  obtain ⟨vs', h0⟩ := Order_l0 t rv (ils (pR (prs n W 0))) n hle (prs n W 0) hlen hsl hbnd [] 0 0 (by omega) (fun _ => 0) (fun b => by omega)
  have e0 : nR n (fun b => (0 : Int) + (((prs n W 0).drop 0).countP (fun q => decide (q.2 = (b : Int))) : Nat)) = nR n (fun b => (cntG (bitW W) n (fun _ => false) b : Int)) := by
    apply nR_congr
    intro b hb
    rw [List.drop_zero, prs_count n W b hb, Int.zero_add]
  rw [e0, nR_rep, Int.natCast_zero] at h0
  obtain ⟨H', h3⟩ := Order_l3 t rv n W hr vs' n (fun _ => false) [] (by simp) .undef .undef .undef .undef
  have ei : iI [] = [] := rfl
  rw [ei, List.length_nil, bR_rep] at h3
  have hk4 : n * 8 ≤ maxB := by unfold maxB; omega
  have hk1 : n ≤ maxB := by unfold maxB; omega
  have hk5 : (n : Int) ≤ 9223372036854775807 := by omega
  rw [s_fn fn_rel_Rel_Order]
  generalize nR n (fun b => (cntG (bitW W) n (fun _ => false) b : Int)) = ar at *
  cases hkk : kah (bitW W) n n (fun _ => false) [] with
  | none =>
    rw [hkk] at h3
    simp [ir_rel_Rel_Order, go_sem, hL, hP, hk4, hk1, hk5, hsl.is, hsl.rows, pR_len, h0, h3, ordV]
  | some o =>
    rw [hkk] at h3
    simp [ir_rel_Rel_Order, go_sem, hL, hP, hk4, hk1, hk5, hsl.is, hsl.rows, pR_len, h0, h3, ordV]
end
end Go.Proofs.YtimiademofajeaaGreatDoor
namespace Go.Proofs.YtimiademofajeaaGreatDoor
open Go Go.Vm
section
variable (tv:V) (n:Nat) (hn:n≤512) (R:Nat→Nat→Bool) (ht:TabV tv n R)
include hn ht
end
end Go.Proofs.YtimiademofajeaaGreatDoor
namespace Go.Proofs.YtimiademofajeaaGreatDoor
open Go Go.Vm
def fitA (n:Nat):(Nat→Int)→Nat→List Int→Option (Nat→Int)
 | h,_,[]=>some h
 | h,i,a :: l=>if 0≤a∧a<n∧h a.toNat≤0 then fitA n (fun b=>if b=a.toNat then (i:Int)+1 else h b) (i+1) l else none
section
variable (t:Bool) (rv:V) (n:Nat) (W:Nat→Nat) (hr:RelV rv n W)
include hr
theorem Fits_l0 (u:V) (l:List Int) (hu:Sl u (iI l)) (hl:l.length≤512) (vs:List V) (j:Nat) (hj:j≤l.length) (h:Nat→Int):
  ∃ H',evCI pg (.loop ir_rel_Rel_Fitsl0) ⟨[.ip t [rv] 0,.undef,.undef,.rsl 0 0 n,.undef,.undef,.undef,.undef,u,.int .i64 (l.length:Int),.int .i64 (j:Int),.undef,.undef,.undef,.undef,.undef,.undef,.undef],⟨[vs],[],[.arr (nR n h)]⟩⟩ =
   some (match fitA n h j (l.drop j) with
   | some h'=>(.exit 0,⟨[.ip t [rv] 0,.undef,.undef,.rsl 0 0 n,.undef,.undef,.undef,.undef,u,.int .i64 (l.length:Int),.int .i64 (l.length:Int),.bool false,.undef,.undef,.undef,.undef,.undef,.undef],⟨[vs],[],[.arr (nR n h')]⟩⟩)
   | none=>(.ret,⟨[.undef,.undef,.bool false,.undef,.undef,.undef,.undef,.undef,.undef,.undef,.undef,.undef,.undef,.undef,.undef,.undef,.undef,.undef],⟨[vs],[],H'⟩⟩)):=by
 obtain ⟨B,hB⟩:∃ B,B=Vm.C.loop ir_rel_Rel_Fitsl0:=⟨_,rfl⟩
 have hle:=hr.le
 by_cases c:j<l.length
 ·have e3:=succ_i64 c (by omega)
  have e1:=fun m=>hu.ia (sz:=1) m .i64 (i:=j) (by rw [iI_len]; exact c) (by simp [iI])
  simp only [iI_el] at e1
  rw [List.drop_eq_getElem_cons c]
  generalize l[j]=a at *
  have hi:=is_ok (t:=t) hr a
  unfold fitA
  by_cases h1:0≤a∧a<n
  ·simp only [h1,and_self,decide_true] at hi
   obtain ⟨a,rfl⟩:∃ k:Nat,a=k:=⟨a.toNat,by omega⟩
   have ha:a<n:=by omega
   have hgl:=nR_len n h
   have hgg:=nR_get h ha
   have hal:a<(nR n h).length:=by omega
   have hae:=nR_el n h a hal
   by_cases h2:h a≤0
   ·have hc:(0≤(a:Int)∧(a:Int)<n∧h (a:Int).toNat≤0):=⟨h1.1,h1.2,h2⟩
    obtain ⟨H',ih⟩:=Fits_l0 u l hu hl vs (j+1) (by omega) (fun b=>if b=(a:Int).toNat then (j:Int)+1 else h b)
    refine ⟨H',?_⟩
    rw [if_pos hc,← ih,← hB]
    conv=>lhs; rw [s_loop_at hB]
    have h3:¬ 0<h a:=by omega
    have hjj:(j:Int)+1=((j+1:Nat):Int):=by omega
    rw [Int.toNat_natCast,hjj,← nR_set n h a ((j+1:Nat):Int)]
    generalize nR n h=ar at *
    generalize h a=v at *
    simp [ir_rel_Rel_Fitsl0,go_sem,hu.is,c,e1,e3,hi,hgl,hgg,hal,hae,h3,ha,asIx_nat,-Int.natCast_add]
   ·have hc:¬ (0≤(a:Int)∧(a:Int)<n∧h (a:Int).toNat≤0):=fun h=>h2 h.2.2
    refine ⟨[.arr (nR n h)],?_⟩
    rw [if_neg hc,← hB,s_loop_at hB]
    have h3:0<h a:=by omega
    generalize nR n h=ar at *
    generalize h a=v at *
    simp [ir_rel_Rel_Fitsl0,go_sem,hu.is,c,e1,e3,hi,hgl,hgg,hal,hae,h3,ha,asIx_nat,-Int.natCast_add]
  ·have hc:¬ (0≤a∧a<n∧h a.toNat≤0):=fun h=>h1 ⟨h.1,h.2.1⟩
   simp only [h1,decide_false] at hi
   refine ⟨[.arr (nR n h)],?_⟩
   rw [if_neg hc,← hB,s_loop_at hB]
   simp [ir_rel_Rel_Fitsl0,go_sem,hu.is,c,e1,e3,hi,-Int.natCast_add]
 ·obtain rfl:j=l.length:=by omega
  refine ⟨[],?_⟩
  rw [← hB,s_loop_at hB,List.drop_length]
  simp [ir_rel_Rel_Fitsl0,go_sem,hu.is,fitA]
termination_by l.length - j
omit hr in
theorem Fits_l1 (u:V) (l:List (Int × Int)) (hu:Sl u (pR l)) (hl:l.length≤300000) (hb:∀ q∈l,(0≤q.1∧q.1<n)∧0≤q.2∧q.2<n) (h:Nat→Int) (vs:List V) (j:Nat) (hj:j≤l.length):
  ∃ vs',evCI pg (.loop ir_rel_Rel_Fitsl1) ⟨[.undef,.undef,.undef,.rsl 0 0 n,.undef,.undef,.undef,.undef,.undef,.undef,.undef,.undef,.undef,u,.int .i64 (l.length:Int),.int .i64 (j:Int),.undef,.undef],⟨[vs],[],[.arr (nR n h)]⟩⟩ =
   some (if ((l.drop j).all fun q=>decide (h q.1.toNat<h q.2.toNat))=true then (.exit 2,⟨[.undef,.undef,.undef,.rsl 0 0 n,.undef,.undef,.undef,.undef,.undef,.undef,.undef,.undef,.undef,u,.int .i64 (l.length:Int),.int .i64 (l.length:Int),.bool false,.undef],⟨[vs'],[],[.arr (nR n h)]⟩⟩)
   else (.ret,⟨[.undef,.undef,.bool false,.undef,.undef,.undef,.undef,.undef,.undef,.undef,.undef,.undef,.undef,.undef,.undef,.undef,.undef,.undef],⟨[vs'],[],[.arr (nR n h)]⟩⟩)):=by
 obtain ⟨B,hB⟩:∃ B,B=Vm.C.loop ir_rel_Rel_Fitsl1:=⟨_,rfl⟩
 have hpl:=pR_len l
 by_cases c:j<l.length
 ·have e3:=succ_i64 c (by omega)
  have e1:=fun m=>hu.ia (sz:=2) m .i64 (i:=j) (by omega) (by simp [pR])
  simp only [pR_el] at e1
  have hbj:=hb l[j] (List.getElem_mem _)
  rw [List.drop_eq_getElem_cons c,List.all_cons]
  generalize l[j]=q at *
  obtain ⟨x,y⟩:=q
  simp only at hbj e1 ⊢
  obtain ⟨x,rfl⟩:∃ k:Nat,x=k:=⟨x.toNat,by omega⟩
  obtain ⟨y,rfl⟩:∃ k:Nat,y=k:=⟨y.toNat,by omega⟩
  have hx:x<n:=by omega
  have hy:y<n:=by omega
  simp only [Int.toNat_natCast]
  have hgl:=nR_len n h
  have hgx:=nR_get h hx
  have hgy:=nR_get h hy
  have hxl:x<(nR n h).length:=by omega
  have hyl:y<(nR n h).length:=by omega
  have hxe:=nR_el n h x hxl
  have hye:=nR_el n h y hyl
  by_cases h1:h x<h y
  ·obtain ⟨vs',ih⟩:=Fits_l1 u l hu hl hb h [] (j+1) (by omega)
   refine ⟨vs',?_⟩
   simp only [h1,decide_true,Bool.true_and]
   rw [← ih,← hB]
   conv=>lhs; rw [s_loop_at hB]
   have h2:¬ h y≤h x:=by omega
   generalize nR n h=ar at *
   generalize h x=a at *
   generalize h y=b at *
   simp [ir_rel_Rel_Fitsl1,go_sem,hu.is,c,e1,e3,hgl,hgx,hgy,hxl,hyl,hxe,hye,h2,hx,hy,asIx_nat,-Int.natCast_add]
  ·refine ⟨[],?_⟩
   simp only [h1,decide_false,Bool.false_and,Bool.false_eq_true,if_false]
   rw [← hB,s_loop_at hB]
   have h2:h y≤h x:=by omega
   generalize nR n h=ar at *
   generalize h x=a at *
   generalize h y=b at *
   simp [ir_rel_Rel_Fitsl1,go_sem,hu.is,c,e1,e3,hgl,hgx,hgy,hxl,hyl,hxe,hye,h2,hx,hy,asIx_nat,-Int.natCast_add]
 ·obtain rfl:j=l.length:=by omega
  refine ⟨vs,?_⟩
  rw [← hB,s_loop_at hB,List.drop_length]
  simp [ir_rel_Rel_Fitsl1,go_sem,hu.is]
termination_by l.length - j
def fitP (n:Nat) (W:Nat→Nat) (l:List Int):Bool:=decide (l.length=n) && match fitA n (fun _=>0) 0 l with
 | none=>false
 | some h=>(prs n W 0).all fun q=>decide (h q.1.toNat<h q.2.toNat)
theorem Fits_ok (u : V) (l : List Int) (hu : Sl u (iI l)) (hlm : l.length ≤ maxLen) : evI pg .val n_rel_Rel_Fits [.ip t [rv] 0, u] [] = some (.bool (fitP n W l), []) := by
  have hL := Len_ok (t := t) hr
  have hP := Pairs_ok (t := t) hr
  have hle := hr.le
  unfold fitP
  rw [s_fn fn_rel_Rel_Fits]
  by_cases c : l.length = n
  · have hlen : (prs n W 0).length ≤ 300000 := by
      have key : ∀ d i, i + d = n → (prs n W i).length ≤ 512 * d := by
        intro d
        induction d with
        | zero => intro i hi; obtain rfl : i = n := by omega
                  rw [prs_end]; simp
        | succ d ih =>
          intro i hi
          have := ih (i + 1) (by omega)
          have h2 := rt_len n (W i)
          rw [prs_step W (by omega), List.length_append, List.length_map]
          omega
      have := key n 0 (by omega)
      omega
    have hbnd : ∀ q ∈ prs n W 0, (0 ≤ q.1 ∧ q.1 < n) ∧ 0 ≤ q.2 ∧ q.2 < n := by
      intro q hq
      unfold prs at hq
      obtain ⟨a, ha, hq⟩ := List.mem_flatMap.1 hq
      obtain ⟨b, hb, rfl⟩ := List.mem_map.1 hq
      obtain ⟨j, hj, rfl⟩ := List.mem_map.1 hb
      have h1 := List.mem_range.1 (List.mem_filter.1 hj).1
      have h2 := List.mem_range'_1.1 ha
      simp only
      omega
    have hsl := Sl.ils (pR (prs n W 0))
    obtain ⟨H', h0⟩ := Fits_l0 t rv n W hr u l hu (by omega) [] 0 (by omega) (fun _ => 0)
    rw [List.drop_zero, nR_rep, Int.natCast_zero] at h0
    have hk1 : n * 8 ≤ maxB := by unfold maxB; omega
    have hk5 : (n : Int) ≤ 9223372036854775807 := by omega
    rw [c] at h0
    cases hf : fitA n (fun _ => 0) 0 l with
    | none =>
      rw [hf] at h0
      simp [ir_rel_Rel_Fits, go_sem, hu.is, hu.rows, iI_len, hL, c, hk1, hk5, h0]
    | some h =>
      rw [hf] at h0
      obtain ⟨vs', h1⟩ := Fits_l1 n (ils (pR (prs n W 0))) (prs n W 0) hsl hlen hbnd h [] 0 (by omega)
      rw [List.drop_zero, Int.natCast_zero] at h1
      simp only
      cases ha : (prs n W 0).all fun q => decide (h q.1.toNat < h q.2.toNat) with
      | true =>
        rw [ha] at h1
        simp [ir_rel_Rel_Fits, go_sem, hu.is, hu.rows, iI_len, hL, hP, c, hk1, hk5, h0, hsl.is, hsl.rows, pR_len, h1]
      | false =>
        rw [ha] at h1
        simp [ir_rel_Rel_Fits, go_sem, hu.is, hu.rows, iI_len, hL, hP, c, hk1, hk5, h0, hsl.is, hsl.rows, pR_len, h1]
  · simp [ir_rel_Rel_Fits, go_sem, hu.is, hu.rows, iI_len, hL, c]
end
end Go.Proofs.YtimiademofajeaaGreatDoor
namespace Go.Proofs.YtimiademofajeaaGreatDoor
open Go Go.Vm
def rfit (R:Nat→Nat→Bool) (n:Nat) (g:Nat→Bool) (pre:List Int):List Int→Bool
 | []=>true
 | a :: l=>if 0≤a∧a<n∧g a.toNat=false then (if ((pre ++ [a]).all fun b=>!R a.toNat b.toNat)=true then rfit R n (goneA g a.toNat) (pre ++ [a]) l else false) else false
section
variable (tv:V) (n:Nat) (hn:n≤512) (R:Nat→Nat→Bool) (ht:TabV tv n R) (u:V) (l:List Int) (hu:Sl u (iI l)) (hl:l.length=n)
include hn ht hu hl
end
end Go.Proofs.YtimiademofajeaaGreatDoor
namespace Go.Proofs.YtimiademofajeaaGreatDoor
open Go Go.Vm
theorem pig:∀ (n:Nat) (l:List Nat),l.Nodup→(∀ x∈l,x<n)→l.length≤n
 | 0,l,_,h=>by
  cases l with
  | nil=>simp
  | cons x l=>have:=h x (by simp); omega
 | n+1,l,hd,h=>by
  by_cases hm:n∈l
  ·have h1:=pig n (l.erase n) (hd.erase n) (fun x hx=>by
    have h2:=(List.Nodup.mem_erase_iff hd).1 hx
    have:=h x h2.2
    have h3:=h2.1
    omega)
   rw [List.length_erase_of_mem hm] at h1
   omega
  ·have h1:=pig n l hd (fun x hx=>by
    have:=h x hx
    have h3:x≠n:=fun e=>hm (by rw [← e]; exact hx)
    omega)
   omega
theorem mem_prs {n:Nat} {W:Nat→Nat} {a b:Nat} (ha:a<n) (hb:b<n) (h:(W a).testBit b=true):((a:Int),(b:Int))∈prs n W 0:=by
 unfold prs rt
 refine List.mem_flatMap.2 ⟨a,List.mem_range'_1.2 (by omega),List.mem_map.2 ⟨(b:Int),List.mem_map.2 ⟨b,List.mem_filter.2 ⟨List.mem_range.2 hb,h⟩,rfl⟩,rfl⟩⟩
theorem prs_mem {n:Nat} {W:Nat→Nat} {q:Int × Int} (h:q∈prs n W 0):∃ a b:Nat,q=((a:Int),(b:Int))∧a<n∧b<n∧(W a).testBit b=true:=by
 unfold prs rt at h
 obtain ⟨a,ha,h⟩:=List.mem_flatMap.1 h
 obtain ⟨c,hc,rfl⟩:=List.mem_map.1 h
 obtain ⟨b,hb,rfl⟩:=List.mem_map.1 hc
 have h1:=List.mem_filter.1 hb
 have h2:=List.mem_range'_1.1 ha
 exact ⟨a,b,rfl,by omega,List.mem_range.1 h1.1,h1.2⟩
def noBack (R:Nat→Nat→Bool) (L:List Int) (s:Nat):Prop:=∀ i k x y,s≤i→k≤i→L[i]?=some x→L[k]?=some y→R x.toNat y.toNat=false
theorem fit_gen (R:Nat→Nat→Bool) (n:Nat):∀ (l:List Int) (pre:List Int) (h:Nat→Int) (g:Nat→Bool),(∀ b,g b=decide (0<h b))→(∀ (k:Nat) x,pre[k]?=some x→0≤x∧x<n∧h x.toNat=(k:Int)+1) →
  (fitA n h pre.length l=none→rfit R n g pre l=false) ∧
  (∀ h',fitA n h pre.length l=some h'→(rfit R n g pre l=true↔noBack R (pre ++ l) pre.length)∧∀ (k:Nat) x,(pre ++ l)[k]?=some x→0≤x∧x<n∧h' x.toNat=(k:Int)+1)
 | [],pre,h,g,hg,hp=>by
  refine ⟨fun hc=>by simp [fitA] at hc,fun h' hc=>?_⟩
  simp only [fitA,Option.some.injEq] at hc
  subst hc
  rw [List.append_nil]
  refine ⟨⟨fun _ i k x y hi hk hx hy=>?_,fun _=>rfl⟩,hp⟩
  have:=(List.getElem?_eq_some_iff.1 hx).1
  omega
 | a :: l,pre,h,g,hg,hp=>by
  unfold fitA rfit
  have hga:(g a.toNat=false)↔h a.toNat≤0:=by
   rw [hg]
   simp
  by_cases hc:0≤a∧a<n∧h a.toNat≤0
  ·have hc':0≤a∧a<n∧g a.toNat=false:=⟨hc.1,hc.2.1,hga.2 hc.2.2⟩
   rw [if_pos hc,if_pos hc']
   have hpl:(pre ++ [a]).length=pre.length+1:=by simp
   have hnew:∀ (k:Nat) x,(pre ++ [a])[k]?=some x→0≤x∧x<n∧(if x.toNat=a.toNat then (pre.length:Int)+1 else h x.toNat)=(k:Int)+1:=by
    intro k x hk
    by_cases ck:k<pre.length
    ·rw [List.getElem?_append_left ck] at hk
     obtain ⟨h1,h2,h3⟩:=hp k x hk
     have hne:¬ x.toNat=a.toNat:=fun e=>by rw [e] at h3; omega
     rw [if_neg hne]
     exact ⟨h1,h2,h3⟩
    ·rw [List.getElem?_append_right (by omega)] at hk
     have hk0:k - pre.length=0:=by
      cases hq:k - pre.length with
      | zero=>rfl
      | succ m=>rw [hq] at hk; simp at hk
     rw [hk0] at hk
     simp only [List.getElem?_cons_zero,Option.some.injEq] at hk
     subst hk
     rw [if_pos rfl]
     exact ⟨hc.1,hc.2.1,by omega⟩
   obtain ⟨i1,i2⟩:=fit_gen R n l (pre ++ [a]) (fun b=>if b=a.toNat then (pre.length:Int)+1 else h b) (goneA g a.toNat) (fun b=>by
    unfold goneA
    by_cases e:b=a.toNat
    ·simp [e]
    ·simp [e,hg b]) hnew
   rw [hpl] at i1 i2
   have happ:pre ++ a :: l=pre ++ [a] ++ l:=by simp
   refine ⟨fun hn=>?_,fun h' hs=>?_⟩
   ·rw [i1 hn]; simp
   ·obtain ⟨j1,j2⟩:=i2 h' hs
    rw [happ]
    refine ⟨?_,j2⟩
    have hat:(pre ++ [a] ++ l)[pre.length]?=some a:=by
     rw [List.getElem?_append_left (by simp),List.getElem?_append_right (by omega)]; simp
    constructor
    ·intro hr
     split at hr
     ·rename_i hall
      have hnb:=j1.1 hr
      intro i k x y hi hk hx hy
      by_cases ci:i=pre.length
      ·subst ci
       rw [hat] at hx
       cases hx
       have hky:(pre ++ [a])[k]?=some y:=by
        rw [List.getElem?_append_left (by simp; omega)] at hy; exact hy
       have:=List.all_eq_true.1 hall y (List.mem_of_getElem? hky)
       simpa using this
      ·exact hnb i k x y (by omega) hk hx hy
     ·cases hr
    ·intro hnb
     rw [if_pos]
     ·exact j1.2 fun i k x y hi hk hx hy=>hnb i k x y (by omega) hk hx hy
     ·rw [List.all_eq_true]
      intro y hy
      obtain ⟨k,hk⟩:=List.getElem?_of_mem hy
      have hkl:=(List.getElem?_eq_some_iff.1 hk).1
      have:=hnb pre.length k a y (Nat.le_refl _) (by omega) hat (by rw [List.getElem?_append_left hkl]; exact hk)
      simp [this]
  ·have hc':¬ (0≤a∧a<n∧g a.toNat=false):=fun q=>hc ⟨q.1,q.2.1,hga.1 q.2.2⟩
   rw [if_neg hc,if_neg hc']
   exact ⟨fun _=>rfl,fun h' hs=>by cases hs⟩
theorem fit_same (n:Nat) (W:Nat→Nat) (l:List Int):fitP n W l=(decide (l.length=n) && rfit (bitW W) n (fun _=>false) [] l):=by
 unfold fitP
 by_cases c:l.length=n
 ·obtain ⟨g1,g2⟩:=fit_gen (bitW W) n l [] (fun _=>0) (fun _=>false) (fun b=>by simp) (fun k x hk=>by simp at hk)
  rw [List.nil_append] at g2
  simp only [c,decide_true,Bool.true_and]
  cases hf:fitA n (fun _=>0) 0 l with
  | none=>exact (g1 hf).symm
  | some h=>
   obtain ⟨g3,g4⟩:=g2 h hf
   simp only
   rw [Bool.eq_iff_iff,g3,List.all_eq_true]
   have hnd:(l.map Int.toNat).Nodup:=by
    rw [List.nodup_iff_pairwise_ne,List.pairwise_iff_getElem]
    intro i j hi hj hij e
    simp only [List.length_map] at hi hj
    simp only [List.getElem_map] at e
    have h1:=g4 i l[i] (List.getElem?_eq_getElem hi)
    have h2:=g4 j l[j] (List.getElem?_eq_getElem hj)
    rw [e] at h1
    omega
   have hall:∀ a,a<n→∃ k:Nat,l[k]?=some (a:Int):=by
    intro a ha
    have hm:a∈l.map Int.toNat:=by
     apply Classical.byContradiction
     intro hm
     have:=pig n (a :: l.map Int.toNat) (List.nodup_cons.2 ⟨hm,hnd⟩) (fun x hx=>by
      rcases List.mem_cons.1 hx with rfl | hx
      ·exact ha
      ·obtain ⟨y,hy,rfl⟩:=List.mem_map.1 hx
       obtain ⟨k,hk⟩:=List.getElem?_of_mem hy
       have:=g4 k y hk
       omega)
     simp only [List.length_cons,List.length_map] at this
     omega
    obtain ⟨y,hy,hya⟩:=List.mem_map.1 hm
    obtain ⟨k,hk⟩:=List.getElem?_of_mem hy
    have:=g4 k y hk
    exact ⟨k,by rw [hk]; congr 1; omega⟩
   constructor
   ·intro hp i k x y _ hki hx hy
    have h1:=g4 i x hx
    have h2:=g4 k y hy
    cases hR:bitW W x.toNat y.toNat with
    | false=>rfl
    | true=>
     have:=hp _ (mem_prs (n:=n) (by omega) (by omega) hR)
     simp only [Int.toNat_natCast,decide_eq_true_eq] at this
     omega
   ·intro hnb q hq
    obtain ⟨a,b,rfl,ha,hb,hbit⟩:=prs_mem hq
    obtain ⟨i,hi⟩:=hall a ha
    obtain ⟨k,hk⟩:=hall b hb
    have h1:=g4 i _ hi
    have h2:=g4 k _ hk
    simp only [Int.toNat_natCast] at h1 h2
    simp only [Int.toNat_natCast,decide_eq_true_eq]
    apply Classical.byContradiction
    intro hc
    have:=hnb i k _ _ (Nat.zero_le _) (by omega) hi hk
    simp only [Int.toNat_natCast] at this
    have hb2:bitW W a b=true:=hbit
    rw [hb2] at this
    cases this
 ·simp [c]
end Go.Proofs.YtimiademofajeaaGreatDoor
