/- Lemmas (no claim): K20k, K20l. -/
import Derived.Test.YtimiademofajeaaGreatDoorP13
set_option linter.unusedSimpArgs false
set_option linter.unusedVariables false
set_option maxRecDepth 20000
namespace Go.Proofs.YtimiademofajeaaGreatDoor
open Go Go.Vm
section
variable {x0:V} {lv:Nat→V} {x4 u:V} {R:Nat→List Rt} {img:List Nat} {cv:List V} {co:List (List Int)} (w:Lk x0 lv x4 u R img cv co) {mid:Nat}
include w
theorem tags_l2 (xc:List V) (h:Nat) (hh:h≤3) (H:List Vm.Obj):
  ∃ X,evCI pg (.loop ir_cand_look_tagsl2) ⟨[.undef,.lp 0 0,.undef,.undef,.undef,.undef,.undef,.undef,.undef,.undef,.undef,.undef,.agg (ls3 lv),.int .i64 (h:Int),.undef,.undef,.undef,.undef,.undef,.undef,.undef,.undef,.undef,.undef,.undef,.undef,.undef,.undef,.undef,.undef,.undef,.undef,.undef,.undef],⟨[xc,[],[]],[],H⟩⟩ =
   some (if ((List.range' h (3 - h)).flatMap fun k=>R k).any tagsR=true then (.ret,⟨[.undef,.undef,.bool true,.undef,.undef,.undef,.undef,.undef,.undef,.undef,.undef,.undef,.undef,.undef,.undef,.undef,.undef,.undef,.undef,.undef,.undef,.undef,.undef,.undef,.undef,.undef,.undef,.undef,.undef,.undef,.undef,.undef,.undef,.undef],⟨[[],[],[]],[],H ++ X⟩⟩)
    else (.exit 0,⟨[.undef,.lp 0 0,.undef,.undef,.undef,.undef,.undef,.undef,.undef,.undef,.undef,.undef,.agg (ls3 lv),.int .i64 3,.bool false,.undef,.undef,.undef,.undef,.undef,.undef,.undef,.undef,.undef,.undef,.undef,.undef,.undef,.undef,.undef,.undef,.undef,.undef,.undef],⟨[xc,[],[]],[],H ++ X⟩⟩)):=by
 obtain ⟨B,hB⟩:∃ B,B=Vm.C.loop ir_cand_look_tagsl2:=⟨_,rfl⟩
 by_cases c:h<3
 ·have e3:=succ_i64 c (by omega)
  have hd:List.range' h (3 - h)=h :: List.range' (h+1) (3 - (h+1)):=by
   have:3 - h=(3 - (h+1))+1:=by omega
   rw [this,List.range'_succ]
  have hv:=(w.li h c).1
  have hrl:(rows (lv h)).length=(R h).length:=by rw [hv.rows,rwR_len]
  have hi:=hv.is
  have c2:(h:Int)<3:=by omega
  obtain ⟨hg,hg2⟩:=ls3_get lv c
  have hll:=ls3_len lv
  have hg':∀ q:h<(ls3 lv).length,(ls3 lv)[h]=lv h:=fun q=>by
   rw [List.getElem?_eq_getElem q] at hg
   exact Option.some.inj hg
  have c3:h≤2:=by omega
  obtain ⟨X1,hl0⟩:=tags_l1 w xc (ls3 lv) h c 0 (Nat.zero_le _) H
  rw [List.drop_zero,Int.natCast_zero] at hl0
  rw [hd,List.flatMap_cons,List.any_append]
  cases q:(R h).any tagsR with
  | true=>
   rw [q,if_pos rfl] at hl0
   refine ⟨X1,?_⟩
   rw [Bool.true_or,if_pos rfl,← hB,s_loop_at hB]
   generalize ls3 lv=ls at *
   simp [ir_cand_look_tagsl2,go_sem,c,c2,c3,hg,hg',hg2,hll,hi,hrl,hl0,-Int.natCast_add]
  | false=>
   rw [q,if_neg (by simp)] at hl0
   obtain ⟨X2,ih⟩:=tags_l2 xc (h+1) (by omega) (H ++ X1)
   refine ⟨X1 ++ X2,?_⟩
   rw [Bool.false_or,← List.append_assoc,← ih,← hB]
   conv=>lhs; rw [s_loop_at hB]
   clear ih hd
   generalize ls3 lv=ls at *
   simp [ir_cand_look_tagsl2,go_sem,c,c2,c3,e3,hg,hg',hg2,hll,hi,hrl,hl0,-Int.natCast_add]
 ·obtain rfl:h=3:=by omega
  refine ⟨[],?_⟩
  rw [← hB,s_loop_at hB,List.append_nil]
  simp [ir_cand_look_tagsl2,go_sem]
termination_by 3 - h
variable {H:List Vm.Obj} {l:List (Int × V)} (hm:H[mid]?=some (.mp (kvR l))) (hat:AtL l (evs R))
include hm hat
def tgB (E:List Ev) (e:Ev) (k:Nat):Bool:=lod e.r.ins.op && (decide (e.r.tg k≠-1) && !wrB E (e.r.tg k) (adE e.r+k))
theorem tags_l3 (e:Ev) (hb:Bd e.r) (i:Nat) (k:Nat) (hk:k≤szO e.r.ins.op):
  evCI pg (.loop ir_cand_look_tagsl3) ⟨[.undef,.lp 0 0,.undef,.undef,.undef,.undef,.undef,.bool false,.lp 1 0,.undef,.undef,.undef,.undef,.undef,.undef,.undef,.undef,.undef,.undef,.undef,.undef,.undef,.undef,.undef,.undef,u,.int .i64 ((evs R).length:Int),.int .i64 (i:Int),.undef,.int .i64 (szO e.r.ins.op:Nat),.int .i64 (k:Int),.undef,.undef,.undef],⟨[xC x0 lv x4 u mid,evC e,[]],[],H⟩⟩ =
   some (if (List.range' k (szO e.r.ins.op - k)).any (tgB (evs R) e)=true then (.exit 6,⟨[.undef,.undef,.undef,.undef,.undef,.undef,.undef,.bool true,.undef,.undef,.undef,.undef,.undef,.undef,.undef,.undef,.undef,.undef,.undef,.undef,.undef,.undef,.undef,.undef,.undef,.undef,.undef,.undef,.undef,.undef,.undef,.undef,.undef,.undef],⟨[[],[],[]],[],H⟩⟩)
    else (.exit 8,⟨[.undef,.lp 0 0,.undef,.undef,.undef,.undef,.undef,.bool false,.lp 1 0,.undef,.undef,.undef,.undef,.undef,.undef,.undef,.undef,.undef,.undef,.undef,.undef,.undef,.undef,.undef,.undef,u,.int .i64 ((evs R).length:Int),.int .i64 (i:Int),.undef,.int .i64 (szO e.r.ins.op:Nat),.int .i64 (szO e.r.ins.op:Nat),.bool false,.undef,.undef],⟨[xC x0 lv x4 u mid,evC e,[]],[],H⟩⟩)):=by
 obtain ⟨B,hB⟩:∃ B,B=Vm.C.loop ir_cand_look_tagsl3:=⟨_,rfl⟩
 have h8:=szO_le e.r.ins.op
 have iu:=w.ev.is
 by_cases c:k<szO e.r.ins.op
 ·have e3:=succ_i64 c (by omega)
  have hd:List.range' k (szO e.r.ins.op - k)=k :: List.range' (k+1) (szO e.r.ins.op - (k+1)):=by
   have:szO e.r.ins.op - k=(szO e.r.ins.op - (k+1))+1:=by omega
   rw [this,List.range'_succ]
  have ht:=evC_tgq e (k:=k) (by omega)
  have ht':∀ q:20+k<(evC e).length,(evC e)[20+k]=.int .i64 (e.r.tg k):=fun q=>by rw [List.getElem?_eq_getElem q] at ht; exact Option.some.inj ht
  have c8:(k:Int)<((szO e.r.ins.op:Nat):Int):=by omega
  have k8:(k:Int)<8:=by omega
  have k7:k≤7:=by omega
  have k7':k<8:=by omega
  have k33:20+k<33:=by omega
  have had:=adE_le hb.ad.1
  have ew:IntKind.i64.wrap (adE e.r+(k:Int))=adE e.r+k:=wrap_i64 (by omega) (by omega)
  have hwr:=writer_ok w hm hat (e.r.tg k) (adE e.r+k) (by omega)
  have hx7:(xC x0 lv x4 u mid).take 7=xC x0 lv x4 u mid:=rfl
  have hxl:(xC x0 lv x4 u mid).length=7:=rfl
  have wl:=wrC_len (evs R) (e.r.tg k)
  have wt:=wrC_take (evs R) (e.r.tg k)
  have wd:=wrC_drop (evs R) (e.r.tg k)
  have wf:=eq_true (wrC_flat (evs R) (e.r.tg k))
  rw [hd,List.any_cons]
  have hdef:tgB (evs R) e k=(lod e.r.ins.op && (decide (e.r.tg k≠-1) && !wrB (evs R) (e.r.tg k) (adE e.r+k))):=rfl
  cases q:tgB (evs R) e k with
  | true=>
   rw [Bool.true_or,if_pos rfl,← hB,s_loop_at hB]
   rw [q] at hdef
   simp only [Bool.true_eq,Bool.and_eq_true,decide_eq_true_eq,Bool.not_eq_true'] at hdef
   obtain ⟨q1,q2,q3⟩:=hdef
   rw [q3] at hwr
   clear hd
   generalize wrC (evs R) (e.r.tg k)=wc at *
   generalize xC x0 lv x4 u mid=xc at *
   generalize (evs R).length=N at *
   simp [ir_cand_look_tagsl3,go_sem,c,c8,k8,k7,k7',k33,iu,ht,ht',q1,q2,ew,hwr,hx7,hxl,wl,wt,wd,wf,evStore,splice,-Int.natCast_add]
  | false=>
   have ih:=tags_l3 e hb i (k+1) (by omega)
   rw [Bool.false_or,← ih,← hB]
   conv=>lhs; rw [s_loop_at hB]
   rw [q] at hdef
   clear ih hd
   generalize wrC (evs R) (e.r.tg k)=wc at *
   generalize xC x0 lv x4 u mid=xc at *
   generalize (evs R).length=N at *
   cases q1:lod e.r.ins.op with
   | false=>simp [ir_cand_look_tagsl3,go_sem,c,c8,e3,k8,k7,k7',k33,iu,ht,ht',q1,-Int.natCast_add]
   | true=>
    by_cases q2:e.r.tg k=-1
    ·simp [ir_cand_look_tagsl3,go_sem,c,c8,e3,k8,k7,k7',k33,iu,ht,ht',q1,q2,-Int.natCast_add]
    ·have q3:wrB (evs R) (e.r.tg k) (adE e.r+k)=true:=by
      rw [q1] at hdef
      simpa [q2] using hdef
     rw [q3] at hwr
     simp [ir_cand_look_tagsl3,go_sem,c,c8,e3,k8,k7,k7',k33,iu,ht,ht',q1,q2,ew,hwr,hx7,hxl,wl,wt,wd,wf,evStore,splice,-Int.natCast_add]
 ·obtain rfl:k=szO e.r.ins.op:=by omega
  rw [← hB,s_loop_at hB,Nat.sub_self]
  simp [ir_cand_look_tagsl3,go_sem,iu]
termination_by szO e.r.ins.op - k
def tgE (E:List Ev) (e:Ev):Bool:=(List.range' 0 (szO e.r.ins.op)).any (tgB E e)
theorem tags_l4 (i:Nat) (hi:i≤(evs R).length) (hE:(evs R).length≤100000):
  evCI pg (.loop ir_cand_look_tagsl4) ⟨[.undef,.lp 0 0,.undef,.undef,.undef,.undef,.undef,.bool false,.undef,.undef,.undef,.undef,.undef,.undef,.undef,.undef,.undef,.undef,.undef,.undef,.undef,.undef,.undef,.undef,.undef,u,.int .i64 ((evs R).length:Int),.int .i64 (i:Int),.undef,.undef,.undef,.undef,.undef,.undef],⟨[xC x0 lv x4 u mid,[],[]],[],H⟩⟩ =
   some (if ((evs R).drop i).any (tgE (evs R))=true then (.exit 6,⟨[.undef,.undef,.undef,.undef,.undef,.undef,.undef,.bool true,.undef,.undef,.undef,.undef,.undef,.undef,.undef,.undef,.undef,.undef,.undef,.undef,.undef,.undef,.undef,.undef,.undef,.undef,.undef,.undef,.undef,.undef,.undef,.undef,.undef,.undef],⟨[[],[],[]],[],H⟩⟩)
    else (.exit 6,⟨[.undef,.lp 0 0,.undef,.undef,.undef,.undef,.undef,.bool false,.undef,.undef,.undef,.undef,.undef,.undef,.undef,.undef,.undef,.undef,.undef,.undef,.undef,.undef,.undef,.undef,.undef,u,.int .i64 ((evs R).length:Int),.int .i64 ((evs R).length:Int),.bool false,.undef,.undef,.undef,.undef,.undef],⟨[xC x0 lv x4 u mid,[],[]],[],H⟩⟩)):=by
 obtain ⟨B,hB⟩:∃ B,B=Vm.C.loop ir_cand_look_tagsl4:=⟨_,rfl⟩
 have hb:=evs_bd (R:=R) fun h hh=>(w.li h hh).2.1
 have iu:=w.ev.is
 have hur:=w.ev.fpR
 by_cases c:i<(evs R).length
 ·have e3:=succ_i64 c (by omega)
  have e1:=fun m=>w.ev.ia (sz:=33) m .i64 (i:=i) (by rw [evR_len]; exact c) (evR_sz _ _ (List.getElem_mem _))
  simp only [evR_el] at e1
  have hd:(evs R).drop i=(evs R)[i] :: (evs R).drop (i+1):=List.drop_eq_getElem_cons c
  have hl3:=tags_l3 w hm hat (evs R)[i] (hb _ (List.getElem_mem _)) i 0 (Nat.zero_le _)
  have htr:(List.range' 0 (szO ((evs R)[i]).r.ins.op)).any (tgB (evs R) (evs R)[i])=tgE (evs R) (evs R)[i]:=rfl
  rw [Nat.sub_zero,htr,Int.natCast_zero] at hl3
  have hfl:=eq_true (evC_flat (evs R)[i])
  rw [hd,List.any_cons]
  cases q:tgE (evs R) (evs R)[i] with
  | true=>
   rw [q,if_pos rfl] at hl3
   rw [Bool.true_or,if_pos rfl,← hB,s_loop_at hB]
   clear hd htr
   generalize (evs R)[i]=e at *
   generalize xC x0 lv x4 u mid=xc at *
   generalize (evs R).length=N at *
   simp [ir_cand_look_tagsl4,go_sem,c,iu,hur,e1,hl3,hfl,evStore,splice,-Int.natCast_add]
  | false=>
   rw [q,if_neg (by simp)] at hl3
   have ih:=tags_l4 (i+1) (by omega) hE
   rw [Bool.false_or,← ih,← hB]
   conv=>lhs; rw [s_loop_at hB]
   clear hd htr ih
   generalize (evs R)[i]=e at *
   generalize xC x0 lv x4 u mid=xc at *
   generalize (evs R).length=N at *
   simp [ir_cand_look_tagsl4,go_sem,c,iu,hur,e1,e3,hl3,hfl,evStore,splice,-Int.natCast_add]
 ·obtain rfl:i=(evs R).length:=by omega
  rw [← hB,s_loop_at hB,List.drop_length]
  simp [ir_cand_look_tagsl4,go_sem,iu]
termination_by (evs R).length - i
def tagB (R:Nat→List Rt):Bool:=(R 0 ++ (R 1 ++ R 2)).any tagsR || (evs R).any (tgE (evs R))
end
theorem get_app {H X:List Vm.Obj} {i:Nat} {o:Vm.Obj} (h:H[i]?=some o):(H ++ X)[i]?=some o:=by
 rw [List.getElem?_append_left (List.getElem?_eq_some_iff.1 h).1]
 exact h
section
variable {x0:V} {lv:Nat→V} {x4 u:V} {R:Nat→List Rt} {img:List Nat} {cv:List V} {co:List (List Int)} (w:Lk x0 lv x4 u R img cv co) {mid:Nat} {H:List Vm.Obj} {l:List (Int × V)} (hm:H[mid]?=some (.mp (kvR l))) (hat:AtL l (evs R))
include w hm hat
theorem tags_ok:∃ X,evI pg .heap n_cand_look_tags [.agg (xC x0 lv x4 u mid)] H=some (.bool (tagB R),H ++ X):=by
 have hE:(evs R).length≤100000:=by
  have:=evs_len R
  have h0:=(w.li 0 (by omega)).2.2
  have h1:=(w.li 1 (by omega)).2.2
  have h2:=(w.li 2 (by omega)).2.2
  omega
 obtain ⟨X,hl2⟩:=tags_l2 w (xC x0 lv x4 u mid) 0 (by omega) H
 have hl4:=tags_l4 w (get_app (X:=X) hm) hat 0 (Nat.zero_le _) hE
 have e:(List.range' 0 (3 - 0)).flatMap (fun k=>R k)=R 0 ++ (R 1 ++ R 2):=by simp [List.range'_succ]
 rw [e,Int.natCast_zero] at hl2
 rw [List.drop_zero,Int.natCast_zero] at hl4
 refine ⟨X,?_⟩
 have i0:=w.im.is
 have i4:=w.co4.is
 have iu:=w.ev.is
 have hur:(rows u).length=(evs R).length:=by rw [w.ev.rows,evR_len]
 have j0:=(w.li 0 (by omega)).1.is
 have j1:=(w.li 1 (by omega)).1.is
 have j2:=(w.li 2 (by omega)).1.is
 unfold tagB
 unfold ls3 at hl2
 unfold xC at *
 rw [s_fn fn_cand_look_tags]
 cases q:(R 0 ++ (R 1 ++ R 2)).any tagsR with
 | true=>
  rw [q,if_pos rfl] at hl2
  simp [ir_cand_look_tags,go_sem,i0,i4,iu,j0,j1,j2,hl2]
 | false=>
  rw [q,if_neg (by simp)] at hl2
  cases q2:(evs R).any (tgE (evs R)) with
  | true=>
   rw [q2,if_pos rfl] at hl4
   simp [ir_cand_look_tags,go_sem,i0,i4,iu,hur,j0,j1,j2,hl2,hl4]
  | false=>
   rw [q2,if_neg (by simp)] at hl4
   simp [ir_cand_look_tags,go_sem,i0,i4,iu,hur,j0,j1,j2,hl2,hl4]
end
def wrVl (E:List Ev) (n at_:Int):Nat:=match lix E n with
 | some i=>match E[i]? with
  | some e=>bytE e at_
  | none=>0
 | none=>0
theorem ByteZ (at_:Int):evI pg .val n_cand_Byte [.agg evZ,.int .i64 at_] []=some (.tup [.int .u8 0,.bool false],[]):=by
 rw [s_fn fn_cand_Byte]
 simp [ir_cand_Byte,go_sem,evZ,V.cells,V.exp]
theorem ByteW {E:List Ev} (hb:∀ e∈E,Bd e.r) (n at_:Int) (ha:-100000≤at_∧at_≤100000):evI pg .val n_cand_Byte [.agg (wrC E n),.int .i64 at_] []=some (.tup [.int .u8 (wrVl E n at_:Nat),.bool (wrB E n at_)],[]):=by
 unfold wrC wrVl wrB
 cases q:lix E n with
 | none=>exact ByteZ at_
 | some i=>
  obtain ⟨hi,_⟩:=lix_some q
  simp only [List.getElem?_eq_getElem hi]
  exact Byte_ok E[i] (hb _ (List.getElem_mem _)) at_ ha
def wantB (img:List Nat) (E:List Ev) (e:Ev) (k:Nat):Nat:=if e.r.tg k=-1 then img.getD (adE e.r+k).toNat 0 else wrVl E (e.r.tg k) (adE e.r+k)
def bytK (img:List Nat) (E:List Ev) (e:Ev) (k:Nat):Bool:=decide ((byl e.r.rdd.toNat (szO e.r.ins.op)).getD k 0≠wantB img E e k)
theorem wrC_imm (E:List Ev) (n:Int) (m:Mem) (t:Bool):omap (toImm m t 7) (wrC E n)=some (wrC E n):=by
 unfold wrC
 have hz:omap (toImm m t 7) evZ=some evZ:=rfl
 split
 ·split
  ·exact evC_imm _ m t
  ·exact hz
 ·exact hz
section
variable {x0:V} {lv:Nat→V} {x4 u:V} {R:Nat→List Rt} {img:List Nat} {cv:List V} {co:List (List Int)} (w:Lk x0 lv x4 u R img cv co) {mid:Nat} {H:List Vm.Obj} {l:List (Int × V)} (hm:H[mid]?=some (.mp (kvR l))) (hat:AtL l (evs R))
include w hm hat
theorem bytes_l0 (e:Ev) (hb:Bd e.r) (hin:0≤adE e.r∧adE e.r+(szO e.r.ins.op:Nat)≤(img.length:Int)) (i:Nat) (k:Nat) (hk:k≤szO e.r.ins.op):
  evCI pg (.loop ir_cand_look_bytesl0) ⟨[.undef,.lp 0 0,.undef,.lp 1 0,.undef,.undef,.undef,.undef,.undef,u,.int .i64 ((evs R).length:Int),.int .i64 (i:Int),.undef,.undef,.undef,ils (byV (byl e.r.rdd.toNat (szO e.r.ins.op))),.int .i64 (szO e.r.ins.op:Nat),.int .i64 (k:Int),.undef,.undef,.undef],⟨[xC x0 lv x4 u mid,evC e,[]],[],H⟩⟩ =
   some (if (List.range' k (szO e.r.ins.op - k)).any (bytK img (evs R) e)=true then (.ret,⟨[.undef,.undef,.bool true,.undef,.undef,.undef,.undef,.undef,.undef,.undef,.undef,.undef,.undef,.undef,.undef,.undef,.undef,.undef,.undef,.undef,.undef],⟨[[],[],[]],[],H⟩⟩)
    else (.exit 2,⟨[.undef,.lp 0 0,.undef,.lp 1 0,.undef,.undef,.undef,.undef,.undef,u,.int .i64 ((evs R).length:Int),.int .i64 (i:Int),.undef,.undef,.undef,ils (byV (byl e.r.rdd.toNat (szO e.r.ins.op))),.int .i64 (szO e.r.ins.op:Nat),.int .i64 (szO e.r.ins.op:Nat),.bool false,.undef,.undef],⟨[xC x0 lv x4 u mid,evC e,[]],[],H⟩⟩)):=by
 obtain ⟨B,hB⟩:∃ B,B=Vm.C.loop ir_cand_look_bytesl0:=⟨_,rfl⟩
 have hbE:=evs_bd (R:=R) fun h hh=>(w.li h hh).2.1
 have h8:=szO_le e.r.ins.op
 have iu:=w.ev.is
 have i0:=w.im.is
 have hbl:=byl_len e.r.rdd.toNat (szO e.r.ins.op)
 have hsb:=Sl.ils (byV (byl e.r.rdd.toNat (szO e.r.ins.op)))
 have hsi:=hsb.is
 have hsf:=hsb.fpR
 have hif:=w.im.fpR
 by_cases c:k<szO e.r.ins.op
 ·have e3:=succ_i64 c (by omega)
  have hd:List.range' k (szO e.r.ins.op - k)=k :: List.range' (k+1) (szO e.r.ins.op - (k+1)):=by
   have:szO e.r.ins.op - k=(szO e.r.ins.op - (k+1))+1:=by omega
   rw [this,List.range'_succ]
  have ht:=evC_tgq e (k:=k) (by omega)
  have ht':∀ q:20+k<(evC e).length,(evC e)[20+k]=.int .i64 (e.r.tg k):=fun q=>by rw [List.getElem?_eq_getElem q] at ht; exact Option.some.inj ht
  have c8:(k:Int)<((szO e.r.ins.op:Nat):Int):=by omega
  have k8:(k:Int)<8:=by omega
  have k7:k≤7:=by omega
  have k7':k<8:=by omega
  have k33:20+k<33:=by omega
  have had:=adE_le hb.ad.1
  obtain ⟨a,haN⟩:∃ a:Nat,adE e.r=(a:Int):=⟨(adE e.r).toNat,(Int.toNat_of_nonneg hin.1).symm⟩
  have ew:IntKind.i64.wrap ((a:Int)+(k:Int))=((a+k:Nat):Int):=by rw [wrap_i64 (by omega) (by omega)]; rfl
  have hwr:=writer_ok w hm hat (e.r.tg k) ((a+k:Nat):Int) (by omega)
  have hBW:=ByteW hbE (e.r.tg k) ((a+k:Nat):Int) (by omega)
  have hx7:(xC x0 lv x4 u mid).take 7=xC x0 lv x4 u mid:=rfl
  have hxl:(xC x0 lv x4 u mid).length=7:=rfl
  have hx0:(xC x0 lv x4 u mid)[0]?=some x0:=rfl
  have hx0':∀ q:0<(xC x0 lv x4 u mid).length,(xC x0 lv x4 u mid)[0]=x0:=fun _=>rfl
  have wl:=wrC_len (evs R) (e.r.tg k)
  have wt:=wrC_take (evs R) (e.r.tg k)
  have wd:=wrC_drop (evs R) (e.r.tg k)
  have wf:=eq_true (wrC_flat (evs R) (e.r.tg k))
  have wi:=wrC_imm (evs R) (e.r.tg k)
  have kl:k<(byl e.r.rdd.toNat (szO e.r.ins.op)).length:=by omega
  have e1:=fun m=>hsb.ia (sz:=1) m .i64 (i:=k) (by rw [byV_len]; exact kl) (by simp [byV])
  simp only [byV_el] at e1
  have gb:(byl e.r.rdd.toNat (szO e.r.ins.op)).getD k 0=(byl e.r.rdd.toNat (szO e.r.ins.op))[k]:=by rw [List.getD_eq_getElem?_getD,List.getElem?_eq_getElem kl]; rfl
  have al:a+k<img.length:=by omega
  have e2:=fun m=>w.im.ia (sz:=1) m .i64 (i:=a+k) (by rw [byV_len]; exact al) (by simp [byV])
  simp only [byV_el] at e2
  have gi:img.getD (a+k) 0=img[a+k]:=by rw [List.getD_eq_getElem?_getD,List.getElem?_eq_getElem al]; rfl
  have hat':(adE e.r+(k:Int)).toNat=a+k:=by omega
  have hak:adE e.r+(k:Int)=((a+k:Nat):Int):=by omega
  rw [hd,List.any_cons]
  have hdef:bytK img (evs R) e k=decide ((byl e.r.rdd.toNat (szO e.r.ins.op)).getD k 0≠wantB img (evs R) e k):=rfl
  have hwd:wantB img (evs R) e k=if e.r.tg k=-1 then img[a+k] else wrVl (evs R) (e.r.tg k) ((a+k:Nat):Int):=by
   unfold wantB
   rw [hat',hak,gi]
  rw [gb] at hdef
  cases q:bytK img (evs R) e k with
  | true=>
   rw [Bool.true_or,if_pos rfl,← hB,s_loop_at hB]
   rw [q] at hdef
   simp only [Bool.true_eq,decide_eq_true_eq] at hdef
   clear hd
   generalize wrC (evs R) (e.r.tg k)=wc at *
   generalize xC x0 lv x4 u mid=xc at *
   generalize (evs R).length=N at *
   generalize (byl e.r.rdd.toNat (szO e.r.ins.op))[k]=bv at *
   generalize ils (byV (byl e.r.rdd.toNat (szO e.r.ins.op)))=bs at *
   by_cases q2:e.r.tg k=-1
   ·rw [if_pos q2] at hwd
    rw [hwd] at hdef
    have hdi:¬ (bv:Int)=(img[a+k]:Int):=by omega
    simp [ir_cand_look_bytesl0,go_sem,c,c8,k8,k7,k7',k33,iu,i0,hsi,hsf,hif,ht,ht',e1,e2,haN,q2,ew,hx7,hxl,hx0,hx0',hdi,evStore,splice,-Int.natCast_add]
   ·rw [if_neg q2] at hwd
    rw [hwd] at hdef
    generalize wrVl (evs R) (e.r.tg k) ((a+k:Nat):Int)=wv at *
    have hdi:¬ (bv:Int)=(wv:Int):=by omega
    simp [ir_cand_look_bytesl0,go_sem,c,c8,k8,k7,k7',k33,iu,i0,hsi,hsf,hif,ht,ht',e1,e2,haN,q2,ew,hwr,hBW,hx7,hxl,hx0,hx0',wl,wt,wd,wf,wi,hdi,evStore,splice,-Int.natCast_add]
  | false=>
   have ih:=bytes_l0 e hb hin i (k+1) (by omega)
   rw [Bool.false_or,← ih,← hB]
   conv=>lhs; rw [s_loop_at hB]
   rw [q] at hdef
   simp only [Bool.false_eq,decide_eq_false_iff_not,Decidable.not_not] at hdef
   clear ih hd
   generalize wrC (evs R) (e.r.tg k)=wc at *
   generalize xC x0 lv x4 u mid=xc at *
   generalize (evs R).length=N at *
   generalize (byl e.r.rdd.toNat (szO e.r.ins.op))[k]=bv at *
   generalize ils (byV (byl e.r.rdd.toNat (szO e.r.ins.op)))=bs at *
   by_cases q2:e.r.tg k=-1
   ·rw [if_pos q2] at hwd
    rw [hwd] at hdef
    subst hdef
    simp [ir_cand_look_bytesl0,go_sem,c,c8,e3,k8,k7,k7',k33,iu,i0,hsi,hsf,hif,ht,ht',e1,e2,haN,q2,ew,hx7,hxl,hx0,hx0',evStore,splice,-Int.natCast_add]
   ·rw [if_neg q2] at hwd
    rw [hwd] at hdef
    subst hdef
    generalize wrVl (evs R) (e.r.tg k) ((a+k:Nat):Int)=wv at *
    simp [ir_cand_look_bytesl0,go_sem,c,c8,e3,k8,k7,k7',k33,iu,i0,hsi,hsf,hif,ht,ht',e1,e2,haN,q2,ew,hwr,hBW,hx7,hxl,hx0,hx0',wl,wt,wd,wf,wi,evStore,splice,-Int.natCast_add]
 ·obtain rfl:k=szO e.r.ins.op:=by omega
  rw [← hB,s_loop_at hB,Nat.sub_self]
  simp [ir_cand_look_bytesl0,go_sem,iu]
termination_by szO e.r.ins.op - k
def bytE' (img:List Nat) (E:List Ev) (e:Ev):Bool:=lod e.r.ins.op && (decide (zx e.r.rdd.toNat ((8 * szO e.r.ins.op:Nat):Int)≠e.r.rdd.toNat) || (List.range' 0 (szO e.r.ins.op)).any (bytK img E e))
theorem bytes_l1 (hin:∀ e∈evs R,lod e.r.ins.op=true→0≤adE e.r∧adE e.r+(szO e.r.ins.op:Nat)≤(img.length:Int)) (hE:(evs R).length≤100000) (i:Nat) (hi:i≤(evs R).length):
  evCI pg (.loop ir_cand_look_bytesl1) ⟨[.undef,.lp 0 0,.undef,.undef,.undef,.undef,.undef,.undef,.undef,u,.int .i64 ((evs R).length:Int),.int .i64 (i:Int),.undef,.undef,.undef,.undef,.undef,.undef,.undef,.undef,.undef],⟨[xC x0 lv x4 u mid,[],[]],[],H⟩⟩ =
   some (if ((evs R).drop i).any (bytE' img (evs R))=true then (.ret,⟨[.undef,.undef,.bool true,.undef,.undef,.undef,.undef,.undef,.undef,.undef,.undef,.undef,.undef,.undef,.undef,.undef,.undef,.undef,.undef,.undef,.undef],⟨[[],[],[]],[],H⟩⟩)
    else (.exit 0,⟨[.undef,.lp 0 0,.undef,.undef,.undef,.undef,.undef,.undef,.undef,u,.int .i64 ((evs R).length:Int),.int .i64 ((evs R).length:Int),.bool false,.undef,.undef,.undef,.undef,.undef,.undef,.undef,.undef],⟨[xC x0 lv x4 u mid,[],[]],[],H⟩⟩)):=by
 obtain ⟨B,hB⟩:∃ B,B=Vm.C.loop ir_cand_look_bytesl1:=⟨_,rfl⟩
 have hb:=evs_bd (R:=R) fun h hh=>(w.li h hh).2.1
 have iu:=w.ev.is
 have hur:=w.ev.fpR
 by_cases c:i<(evs R).length
 ·have e3:=succ_i64 c (by omega)
  have e1:=fun m=>w.ev.ia (sz:=33) m .i64 (i:=i) (by rw [evR_len]; exact c) (evR_sz _ _ (List.getElem_mem _))
  simp only [evR_el] at e1
  have hd:(evs R).drop i=(evs R)[i] :: (evs R).drop (i+1):=List.drop_eq_getElem_cons c
  have hbe:=hb _ (List.getElem_mem c)
  have hfl:=eq_true (evC_flat (evs R)[i])
  have hdef:bytE' img (evs R) (evs R)[i]=(lod ((evs R)[i]).r.ins.op && (decide (zx ((evs R)[i]).r.rdd.toNat ((8 * szO ((evs R)[i]).r.ins.op:Nat):Int)≠((evs R)[i]).r.rdd.toNat) || (List.range' 0 (szO ((evs R)[i]).r.ins.op)).any (bytK img (evs R) (evs R)[i]))):=rfl
  have hl0:=fun (hl:lod ((evs R)[i]).r.ins.op=true)=>bytes_l0 w hm hat (evs R)[i] hbe (hin _ (List.getElem_mem c) hl) i 0 (Nat.zero_le _)
  simp only [Nat.sub_zero,Int.natCast_zero] at hl0
  have h8:=szO_le ((evs R)[i]).r.ins.op
  have em:IntKind.i64.wrap (8 * ((szO ((evs R)[i]).r.ins.op:Nat):Int))=((8 * szO ((evs R)[i]).r.ins.op:Nat):Int):=by rw [wrap_i64 (by omega) (by omega)]; rfl
  obtain ⟨xn,hxn⟩:∃ xn:Nat,((evs R)[i]).r.rdd=(xn:Int):=⟨_,(Int.toNat_of_nonneg hbe.rd.1).symm⟩
  have hxlt:xn<18446744073709551616:=by have:=hbe.rd.2; omega
  have hZx:=Zext_ok xn ((8 * szO ((evs R)[i]).r.ins.op:Nat):Int) hxlt
  have hBs:=Bytes_ok xn ((szO ((evs R)[i]).r.ins.op:Nat):Int) hxlt
  have hcl:clm ((szO ((evs R)[i]).r.ins.op:Nat):Int)=szO ((evs R)[i]).r.ins.op:=by unfold clm; omega
  rw [hcl] at hBs
  have hbl:=byl_len xn (szO ((evs R)[i]).r.ins.op)
  have hsb:=Sl.ils (byV (byl xn (szO ((evs R)[i]).r.ins.op)))
  have hsi:=hsb.is
  have hsr:(rows (ils (byV (byl xn (szO ((evs R)[i]).r.ins.op))))).length=szO ((evs R)[i]).r.ins.op:=by rw [hsb.rows,byV_len,hbl]
  rw [hd,List.any_cons]
  rw [hxn,Int.toNat_natCast] at hdef
  simp only [hxn,Int.toNat_natCast] at hl0
  have ih:=bytes_l1 hin hE (i+1) (by omega)
  rw [← hB] at ih
  rw [← hB,s_loop_at hB]
  clear hd hin
  generalize (evs R)[i]=e at *
  generalize xC x0 lv x4 u mid=xc at *
  generalize (evs R).length=N at *
  generalize ils (byV (byl xn (szO e.r.ins.op)))=bs at *
  cases q1:lod e.r.ins.op with
  | false=>
   rw [q1,Bool.false_and] at hdef
   rw [hdef,Bool.false_or,← ih]
   simp [ir_cand_look_bytesl1,go_sem,c,iu,hur,e1,e3,q1,hfl,evStore,splice,-Int.natCast_add]
  | true=>
   have hl0:=hl0 q1
   rw [q1,Bool.true_and] at hdef
   by_cases q2:zx xn ((8 * szO e.r.ins.op:Nat):Int)=xn
   ·rw [q2] at hZx
    rw [decide_eq_false (by simpa using q2),Bool.false_or] at hdef
    rw [hdef]
    cases q3:(List.range' 0 (szO e.r.ins.op)).any (bytK img (evs R) e) with
    | true=>
     rw [q3,if_pos rfl] at hl0
     rw [Bool.true_or,if_pos rfl]
     simp [ir_cand_look_bytesl1,go_sem,c,iu,hur,e1,q1,hxn,hfl,em,hZx,hBs,hsi,hsr,hl0,evStore,splice,-Int.natCast_add,-Int.natCast_mul]
    | false=>
     rw [q3,if_neg (by simp)] at hl0
     rw [Bool.false_or,← ih]
     simp [ir_cand_look_bytesl1,go_sem,c,iu,hur,e1,e3,q1,hxn,hfl,em,hZx,hBs,hsi,hsr,hl0,evStore,splice,-Int.natCast_add,-Int.natCast_mul]
   ·rw [decide_eq_true (by simpa using q2),Bool.true_or] at hdef
    rw [hdef,Bool.true_or,if_pos rfl]
    have q2':¬ ((zx xn ((8 * szO e.r.ins.op:Nat):Int):Nat):Int)=(xn:Int):=by omega
    generalize zx xn ((8 * szO e.r.ins.op:Nat):Int)=zz at *
    simp [ir_cand_look_bytesl1,go_sem,c,iu,hur,e1,q1,hxn,hfl,em,hZx,q2,q2',evStore,splice,-Int.natCast_add,-Int.natCast_mul]
 ·obtain rfl:i=(evs R).length:=by omega
  rw [← hB,s_loop_at hB,List.drop_length]
  simp [ir_cand_look_bytesl1,go_sem,iu]
termination_by (evs R).length - i
def bytB (R:Nat→List Rt) (img:List Nat):Bool:=(evs R).any (bytE' img (evs R))
theorem bytes_ok (hin:∀ e∈evs R,lod e.r.ins.op=true→0≤adE e.r∧adE e.r+(szO e.r.ins.op:Nat)≤(img.length:Int)):evI pg .heap n_cand_look_bytes [.agg (xC x0 lv x4 u mid)] H=some (.bool (bytB R img),H):=by
 have hE:(evs R).length≤100000:=by
  have:=evs_len R
  have h0:=(w.li 0 (by omega)).2.2
  have h1:=(w.li 1 (by omega)).2.2
  have h2:=(w.li 2 (by omega)).2.2
  omega
 have hl1:=bytes_l1 w hm hat hin hE 0 (Nat.zero_le _)
 rw [List.drop_zero,Int.natCast_zero] at hl1
 have i0:=w.im.is
 have i4:=w.co4.is
 have iu:=w.ev.is
 have hur:(rows u).length=(evs R).length:=by rw [w.ev.rows,evR_len]
 have j0:=(w.li 0 (by omega)).1.is
 have j1:=(w.li 1 (by omega)).1.is
 have j2:=(w.li 2 (by omega)).1.is
 unfold bytB
 unfold xC at *
 rw [s_fn fn_cand_look_bytes]
 cases q:(evs R).any (bytE' img (evs R)) with
 | true=>
  rw [q,if_pos rfl] at hl1
  simp [ir_cand_look_bytes,go_sem,i0,i4,iu,hur,j0,j1,j2,hl1]
 | false=>
  rw [q,if_neg (by simp)] at hl1
  simp [ir_cand_look_bytes,go_sem,i0,i4,iu,hur,j0,j1,j2,hl1]
end
end Go.Proofs.YtimiademofajeaaGreatDoor
