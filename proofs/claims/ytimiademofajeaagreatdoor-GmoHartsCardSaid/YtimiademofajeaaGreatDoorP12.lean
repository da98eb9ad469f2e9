/- Lemmas (no claim): K20d, K20f, K20g. -/
import Derived.Test.YtimiademofajeaaGreatDoorP11
set_option linter.unusedSimpArgs false
set_option linter.unusedVariables false
set_option maxRecDepth 20000
namespace Go.Proofs.YtimiademofajeaaGreatDoor
open Go Go.Vm
def kvR (l:List (Int × V)):List (List V):=l.map fun q=>[.int .i64 q.1,q.2]
def kix:List (Int × V)→Int→Option Nat
 | [],_=>none
 | q :: l,n=>if q.1=n then some 0 else (kix l n).map (·+1)
def kget:List (Int × V)→Int→Option V
 | [],_=>none
 | q :: l,n=>if q.1=n then some q.2 else kget l n
def kput:List (Int × V)→Int→V→List (Int × V)
 | [],n,v=>[(n,v)]
 | q :: l,n,v=>if q.1=n then (n,v) :: l else q :: kput l n v
def kdel:List (Int × V)→Int→List (Int × V)
 | [],_=>[]
 | q :: l,n=>if q.1=n then l else q :: kdel l n
theorem keyAt_kv (n:Int):∀ (l:List (Int × V)) (i:Nat),keyAt (.int .i64 n) (kvR l) i=some ((kix l n).map (·+i))
 | [],i=>rfl
 | q :: l,i=>by
  have ih:=keyAt_kv n l (i+1)
  show (match keyEq (.int .i64 n) (.int .i64 q.1) with
   | some true=>some (some i)
   | some false=>keyAt (.int .i64 n) (kvR l) (i+1)
   | none=>none)=_
  unfold kix
  by_cases c:q.1=n
  ·have e:keyEq (.int .i64 n) (.int .i64 q.1)=some true:=by simp [keyEq,c]
   rw [e,if_pos c]
   simp
  ·have e:keyEq (.int .i64 n) (.int .i64 q.1)=some false:=by simp [keyEq]; exact fun h=>c h.symm
   rw [e,if_neg c]
   simp only
   rw [ih]
   cases kix l n with
   | none=>rfl
   | some j=>simp; omega
theorem keyAt0 (n:Int) (l:List (Int × V)):keyAt (.int .i64 n) (kvR l) 0=some (kix l n):=by
 rw [keyAt_kv]
 cases kix l n<;>rfl
theorem kix_none {n:Int}:∀ {l:List (Int × V)},kix l n=none→kget l n=none∧(∀ v,kput l n v=l ++ [(n,v)])∧kdel l n=l
 | [],_=>⟨rfl,fun _=>rfl,rfl⟩
 | q :: l,h=>by
  unfold kix at h
  by_cases c:q.1=n
  ·rw [if_pos c] at h; cases h
  ·rw [if_neg c] at h
   obtain ⟨h1,h2,h3⟩:=kix_none (l:=l) (by cases q':kix l n with | none=>rfl | some j=>rw [q'] at h; cases h)
   exact ⟨by unfold kget; rw [if_neg c,h1],fun v=>by unfold kput; rw [if_neg c,h2]; rfl,by unfold kdel; rw [if_neg c,h3]⟩
theorem kix_some {n:Int}:∀ {l:List (Int × V)} {i:Nat},kix l n=some i→(∃ v,l[i]?=some (n,v)∧kget l n=some v)∧(∀ v,kput l n v=l.set i (n,v))∧kdel l n=l.eraseIdx i
 | [],i,h=>by cases h
 | q :: l,i,h=>by
  unfold kix at h
  by_cases c:q.1=n
  ·rw [if_pos c] at h
   cases h
   refine ⟨⟨q.2,by rw [← c]; rfl,by unfold kget; rw [if_pos c]⟩,fun v=>by unfold kput; rw [if_pos c]; rfl,by unfold kdel; rw [if_pos c]; rfl⟩
  ·rw [if_neg c] at h
   obtain ⟨j,hj,rfl⟩:=Option.map_eq_some_iff.1 h
   obtain ⟨⟨v,h1,h2⟩,h3,h4⟩:=kix_some hj
   refine ⟨⟨v,by simpa using h1,by unfold kget; rw [if_neg c,h2]⟩,fun v=>by unfold kput; rw [if_neg c,h3]; rfl,by unfold kdel; rw [if_neg c,h4]; rfl⟩
theorem kvR_el {l:List (Int × V)} {i:Nat} {n:Int} {v:V} (h:l[i]?=some (n,v)):(kvR l)[i]?=some [.int .i64 n,v]:=by
 unfold kvR
 rw [List.getElem?_map,h]; rfl
theorem kvR_set (l:List (Int × V)) (i:Nat) (n:Int) (v:V):(kvR l).set i [.int .i64 n,v]=kvR (l.set i (n,v)):=by simp [kvR,List.map_set]
theorem kvR_app (l:List (Int × V)) (n:Int) (v:V):kvR l ++ [[.int .i64 n,v]]=kvR (l ++ [(n,v)]):=by simp [kvR]
theorem kvR_erase (l:List (Int × V)) (i:Nat):(kvR l).eraseIdx i=kvR (l.eraseIdx i):=by
 induction l generalizing i with
 | nil=>rfl
 | cons q l ih=>
  cases i with
  | zero=>rfl
  | succ i=>
   have:=ih i
   simp only [kvR,List.map_cons,List.eraseIdx_cons_succ] at this ⊢
   rw [this]
theorem kvR_len (l:List (Int × V)):(kvR l).length=l.length:=by simp [kvR]
/-! ### what the operations come to -/
def lookM (m:Mem) (ok ag:Bool) (z:List V) (mp k:V):Option (V × Mem):=match mapEs m mp with
 | none=>none
 | some es=>if k.isInt=true then val m (lookV ok ag z es k) else none
def mputM (m:Mem) (mp k v:V):Option (V × Mem):=match mp with
 | .map id=>match m.H[id]? with
  | some (.mp es)=>if k.isInt=true∧v.isScV=true then match keyAt k es 0 with
   | some (some i)=>some (.undef,{ m with H:=m.H.set id (.mp (es.set i [k,v])) })
   | some none=>some (.undef,{ m with H:=m.H.set id (.mp (es ++ [[k,v]])) })
   | none=>none
   else none
  | _=>none
 | _=>none
def mdelM (m:Mem) (mp k:V):Option (V × Mem):=match mp with
 | .map id=>match m.H[id]? with
  | some (.mp es)=>if k.isInt=true then match keyAt k es 0 with
   | some (some i)=>some (.tup [],{ m with H:=m.H.set id (.mp (es.eraseIdx i)) })
   | some none=>some (.tup [],m)
   | none=>none
   else none
  | _=>none
 | _=>none
section
variable (call:CallT) (ρ:X→V) (m:Mem)
theorem e_look (ok ag:Bool) (z:List V) (mp k:X):evO call ρ m (.look ok ag z mp k)=lookM m ok ag z (ρ mp) (ρ k):=rfl
theorem e_mput (mp k v:X):evO call ρ m (.mput mp k v)=mputM m (ρ mp) (ρ k) (ρ v):=rfl
theorem e_mdel (mp k:X):evO call ρ m (.mdel mp k)=mdelM m (ρ mp) (ρ k):=rfl
end
attribute [go_sem ↓] e_look e_mput e_mdel
section
variable {H:List Vm.Obj} {id:Nat} {l:List (Int × V)} (h:H[id]?=some (.mp (kvR l))) (vs:List (List V)) (tk:List Nat)
include h
theorem look_kv (ok:Bool) (z:V) (n:Int):lookM ⟨vs,tk,H⟩ ok false [z] (.map id) (.int .i64 n)=some (if ok then .tup [(kget l n).getD z,.bool (kget l n).isSome] else (kget l n).getD z,⟨vs,tk,H⟩):=by
 unfold lookM
 simp only [mapEs,h,V.isInt,if_true,lookV,keyAt0]
 cases q:kix l n with
 | none=>
  rw [(kix_none q).1]
  cases ok<;>simp [loadAt,val]
 | some i=>
  obtain ⟨⟨v,h1,h2⟩,_⟩:=kix_some q
  rw [h2]
  cases ok<;>simp [loadAt,val,kvR_el h1]
theorem mput_kv (n:Int) (v:V) (hv:v.isScV=true):mputM ⟨vs,tk,H⟩ (.map id) (.int .i64 n) v=some (.undef,⟨vs,tk,H.set id (.mp (kvR (kput l n v)))⟩):=by
 unfold mputM
 simp only [h,V.isInt,hv,and_self,if_true,keyAt0]
 cases q:kix l n with
 | none=>rw [(kix_none q).2.1]; simp only [kvR_app]
 | some i=>rw [(kix_some q).2.1]; simp only [kvR_set]
theorem mdel_kv (n:Int):mdelM ⟨vs,tk,H⟩ (.map id) (.int .i64 n)=some (.tup [],⟨vs,tk,H.set id (.mp (kvR (kdel l n)))⟩):=by
 unfold mdelM
 simp only [h,V.isInt,if_true,keyAt0]
 cases q:kix l n with
 | none=>
  rw [(kix_none q).2.2]
  have:H.set id (.mp (kvR l))=H:=by
   apply List.ext_getElem?
   intro i'
   rw [List.getElem?_set]
   by_cases e:id=i'
   ·subst e
    have hlt:=(List.getElem?_eq_some_iff.1 h).1
    rw [if_pos rfl,if_pos hlt,h]
   ·rw [if_neg e]
  rw [this]
 | some i=>rw [(kix_some q).2.2]; simp only [kvR_erase]
end
theorem kget_put (l:List (Int × V)) (n m:Int) (v:V):kget (kput l n v) m=if m=n then some v else kget l m:=by
 induction l with
 | nil=>
  show (if n=m then some v else none)=if m=n then some v else none
  by_cases c:n=m
  ·rw [if_pos c,if_pos c.symm]
  ·rw [if_neg c,if_neg (Ne.symm c)]
 | cons q l ih=>
  unfold kput
  by_cases c:q.1=n
  ·rw [if_pos c]
   unfold kget
   by_cases d:n=m
   ·rw [if_pos d,if_pos d.symm]
   ·rw [if_neg d,if_neg (Ne.symm d),if_neg (by rw [c]; exact d)]
  ·rw [if_neg c]
   unfold kget
   by_cases d:q.1=m
   ·rw [if_pos d,if_pos d,if_neg (by rw [← d]; exact c)]
   ·rw [if_neg d,if_neg d,ih]
/-! ### sets of numbers -/
def tl (s:List Int):List (Int × V):=s.map fun n=>(n,.bool true)
theorem tl_len (s:List Int):(tl s).length=s.length:=by simp [tl]
theorem kget_tl (s:List Int) (n:Int):(kget (tl s) n).getD (.bool false)=.bool (decide (n∈s)):=by
 induction s with
 | nil=>rfl
 | cons q s ih=>
  show (if q=n then some (V.bool true) else kget (tl s) n).getD (.bool false)=_
  by_cases c:q=n
  ·rw [if_pos c]; subst c; simp
  ·rw [if_neg c,ih]
   simp [Ne.symm c]
theorem kput_tl (s:List Int) (n:Int):kput (tl s) n (.bool true)=tl (if n∈s then s else s ++ [n]):=by
 induction s with
 | nil=>rfl
 | cons q s ih=>
  show (if q=n then (n,V.bool true) :: tl s else (q,V.bool true) :: kput (tl s) n (.bool true))=_
  by_cases c:q=n
  ·rw [if_pos c]; subst c; simp [tl]
  ·rw [if_neg c,ih]
   by_cases d:n∈s
   ·rw [if_pos d,if_pos (List.mem_cons_of_mem _ d)]; rfl
   ·rw [if_neg d,if_neg (by simp [d,Ne.symm c])]; rfl
theorem kdel_tl (s:List Int) (n:Int):kdel (tl s) n=tl (s.erase n):=by
 induction s with
 | nil=>rfl
 | cons q s ih=>
  show (if q=n then tl s else (q,V.bool true) :: kdel (tl s) n)=_
  by_cases c:q=n
  ·rw [if_pos c]; subst c; simp [tl]
  ·rw [if_neg c,ih,List.erase_cons_tail (by simpa using c)]; rfl
def hasB (e:Ev) (at_:Int):Bool:=decide (0≤adE e.r) && (decide (adE e.r≤at_) && decide (at_ - adE e.r<(szO e.r.ins.op:Nat)))
def bh (e:Ev) (at_:Int):Bool:=sto e.r.ins.op && hasB e at_
def bytE (e:Ev) (at_:Int):Nat:=if bh e at_ then e.r.wro.toNat / 2 ^ (8 * (at_ - adE e.r).toNat) % 256 else 0
theorem adE_le {r:Rt} (h:0≤r.addr):-1≤adE r∧adE r≤1024:=by unfold adE; split<;>omega
theorem chas_ok (e:Ev) (hb:Bd e.r) (at_:Int) (ha:-100000≤at_∧at_≤100000):evI pg .val n_cand_has [.agg (evC e),.int .i64 at_] []=some (.bool (hasB e at_),[]):=by
 have had:=adE_le hb.ad.1
 have hw:IntKind.i64.wrap (at_ - adE e.r)=at_ - adE e.r:=wrap_i64 (by omega) (by omega)
 unfold hasB
 rw [s_fn fn_cand_has]
 by_cases c:0≤adE e.r
 ·by_cases d:adE e.r≤at_
  ·by_cases f:at_ - adE e.r<(szO e.r.ins.op:Nat)
   ·simp [ir_cand_has,go_sem,c,d,f,hw,V.cells,V.exp,loadAt]
   ·simp [ir_cand_has,go_sem,c,d,f,hw,V.cells,V.exp,loadAt]
  ·simp [ir_cand_has,go_sem,c,d,V.cells,V.exp,loadAt]
 ·simp [ir_cand_has,go_sem,c,V.cells,V.exp,loadAt]
theorem hasB_pos {e:Ev} {at_:Int} (h:hasB e at_=true):0≤adE e.r∧∃ d:Nat,d<8∧at_=adE e.r+d:=by
 unfold hasB at h
 simp only [Bool.and_eq_true,decide_eq_true_eq] at h
 have:=szO_le e.r.ins.op
 exact ⟨h.1,(at_ - adE e.r).toNat,by omega,by omega⟩
theorem evC_wro (e:Ev) (h:16<(evC e).length):(evC e)[16]=.int .u64 e.r.wro:=rfl
theorem evCq_wro (e:Ev):(evC e)[16]?=some (.int .u64 e.r.wro):=rfl
theorem evC_rdd (e:Ev) (h:15<(evC e).length):(evC e)[15]=.int .u64 e.r.rdd:=rfl
theorem evCq_rdd (e:Ev):(evC e)[15]?=some (.int .u64 e.r.rdd):=rfl
theorem evC_addr (e:Ev) (h:14<(evC e).length):(evC e)[14]=.int .u64 e.r.addr:=rfl
theorem evCq_addr (e:Ev):(evC e)[14]?=some (.int .u64 e.r.addr):=rfl
theorem evCq_op2 (e:Ev):(evC e)[3]?=some (.int .i64 e.r.ins.op):=rfl
attribute [go_sem] evC_wro evCq_wro evC_rdd evCq_rdd evC_addr evCq_addr evCq_op2
theorem Byte_ok (e:Ev) (hb:Bd e.r) (at_:Int) (ha:-100000≤at_∧at_≤100000):evI pg .val n_cand_Byte [.agg (evC e),.int .i64 at_] []=some (.tup [.int .u8 (bytE e at_:Nat),.bool (bh e at_)],[]):=by
 have hh:=chas_ok e hb at_ ha
 have had:=adE_le hb.ad.1
 have hfl:=eq_true (evC_flat e)
 unfold bytE bh
 rw [s_fn fn_cand_Byte]
 cases s:sto e.r.ins.op with
 | false=>simp [ir_cand_Byte,go_sem,s,V.cells,V.exp]
 | true=>
  cases q:hasB e at_ with
  | false=>
   rw [q] at hh
   simp [ir_cand_Byte,go_sem,s,hh,V.cells,V.exp]
  | true=>
   rw [q] at hh
   obtain ⟨h0,d,hd,rfl⟩:=hasB_pos q
   obtain ⟨wn,hwn⟩:∃ wn:Nat,e.r.wro=(wn:Int):=⟨e.r.wro.toNat,(Int.toNat_of_nonneg hb.wr.1).symm⟩
   have e1:IntKind.i64.wrap (adE e.r+(d:Int) - adE e.r)=(d:Int):=by rw [show adE e.r+(d:Int) - adE e.r=(d:Int) by omega]; exact wrap_i64 (by omega) (by omega)
   have e2:IntKind.i64.wrap (8 * (d:Int))=((8 * d:Nat):Int):=by rw [wrap_i64 (by omega) (by omega)]; rfl
   have e3:(adE e.r+(d:Int) - adE e.r).toNat=d:=by omega
   have e4:¬ ((8 * d:Nat):Int)<0:=by omega
   have e5:Nat.min (8 * d) 64=8 * d:=Nat.min_eq_left (by omega)
   have e5':min (8 * d) 64=8 * d:=Nat.min_eq_left (by omega)
   have e6:=shr_nat wn (8 * d)
   have e7:IntKind.u8.wrap ((wn / 2 ^ (8 * d):Nat):Int)=((wn / 2 ^ (8 * d) % 256:Nat):Int):=by
    generalize wn / 2 ^ (8 * d)=x
    rw [wrap_u8]
   have e8:IntKind.u64.bits=64:=rfl
   rw [e3,hwn,Int.toNat_natCast]
   simp [ir_cand_Byte,go_sem,s,hh,hwn,e1,e2,e4,e5,e5',e6,e7,e8,V.cells,V.exp,-Int.natCast_mul,-Int.natCast_ediv,-Int.natCast_emod,-Int.natCast_pow]
/-! ### places -/
def whr (op addr:Int) (len:Nat):Nat:=if szO op=0 then 0 else if addr.toNat % szO op≠0 then 4 else if len<szO op∨len - szO op<addr.toNat then 3 else 0
theorem Where_ok (op addr:Int) (ha:0≤addr∧addr<18446744073709551616) (len:Nat) (hl:len≤100000):evI pg .val n_alu_Where [.int .i64 op,.int .u64 addr,.int .i64 (len:Int)] []=some (.int .i64 (whr op addr len:Nat),[]):=by
 have hZ:=SizeO op
 have h8:=szO_le op
 unfold whr
 rw [s_fn fn_alu_Where]
 generalize szO op=z at *
 obtain ⟨a,rfl⟩:∃ a:Nat,addr=(a:Int):=⟨addr.toNat,(Int.toNat_of_nonneg ha.1).symm⟩
 have w1:IntKind.u64.wrap (z:Int)=(z:Int):=wrap_u64' (by omega)
 have w2:IntKind.i64.wrap (z:Int)=(z:Int):=wrap_i64 (by omega) (by omega)
 rw [Int.toNat_natCast]
 by_cases c:z=0
 ·subst c
  have z0:IntKind.u64.wrap 0=0:=rfl
  simp [ir_alu_Where,go_sem,hZ,z0]
 ·have c':¬ (z:Int)=0:=by omega
  have t1:((a:Int)).tmod (z:Int)=((a % z:Nat):Int):=by rw [Int.tmod_eq_emod_of_nonneg (by omega)]; rfl
  have w3:IntKind.u64.wrap ((a % z:Nat):Int)=((a % z:Nat):Int):=wrap_u64' (by have:=Nat.mod_lt a (show 0<z by omega); omega)
  by_cases d:a % z=0
  ·by_cases f:len<z
   ·have f':(len:Int)<(z:Int):=by omega
    simp [ir_alu_Where,go_sem,hZ,w1,w2,w3,c,c',t1,d,f,f',-Int.natCast_emod]
   ·have f':¬ (len:Int)<(z:Int):=by omega
    have w4:IntKind.u64.wrap (len:Int)=(len:Int):=wrap_u64' (by omega)
    have w5:IntKind.u64.wrap ((len:Int) - (z:Int))=((len - z:Nat):Int):=by
     rw [show (len:Int) - (z:Int)=((len - z:Nat):Int) by omega]
     exact wrap_u64' (by omega)
    by_cases g:len - z<a
    ·have g':((len - z:Nat):Int)<(a:Int):=by omega
     simp [ir_alu_Where,go_sem,hZ,w1,w2,w3,w4,w5,c,c',t1,d,f,f',g,g',-Int.natCast_emod]
    ·have g':¬ ((len - z:Nat):Int)<(a:Int):=by omega
     have g2:(a:Int)≤((len - z:Nat):Int):=by omega
     simp [ir_alu_Where,go_sem,hZ,w1,w2,w3,w4,w5,c,c',t1,d,f,f',g,g',g2,-Int.natCast_emod]
  ·have d':¬ ((a % z:Nat):Int)=0:=by omega
   simp [ir_alu_Where,go_sem,hZ,w1,w2,w3,c,c',t1,d,d',-Int.natCast_emod]
structure Lk (x0:V) (lv:Nat→V) (x4 u:V) (R:Nat→List Rt) (img:List Nat) (cv:List V) (co:List (List Int)):Prop where
 im:Sl x0 (byV img)
 ib:(∀ b∈img,b<256)∧img.length≤100000
 li:∀ h,h<3→Sl (lv h) (rwR (R h))∧bdL (R h)∧(R h).length≤512
 co4:Sl x4 (slR cv)
 cs:SlI cv co
 cl:cv.length≤100000
 ol:∀ l∈co,l.length≤100000
 ev:Sl u (evR (evs R))
def xC (x0:V) (lv:Nat→V) (x4 u:V) (mid:Nat):List V:=[x0,lv 0,lv 1,lv 2,x4,u,.map mid]
theorem evs_bd {R:Nat→List Rt} (h:∀ h,h<3→bdL (R h)):∀ e∈evs R,Bd e.r:=fun e he=>by
 obtain ⟨h1,h2,_⟩:=evs_mem he
 exact h _ h1 _ (List.mem_of_getElem? h2)
section
variable {x0:V} {lv:Nat→V} {x4 u:V} {R:Nat→List Rt} {img:List Nat} {cv:List V} {co:List (List Int)} (w:Lk x0 lv x4 u R img cv co) (mid:Nat) (H:List Vm.Obj)
include w
/-! ### the image, and how many -/
def imgB (img:List Nat) (n:Nat):Bool:=decide (1024<img.length) || decide (n≠img.length)
theorem image_ok:evI pg .heap n_cand_look_image [.agg (xC x0 lv x4 u mid)] H=some (.bool (imgB img cv.length),H):=by
 have i0:=w.im.is
 have i4:=w.co4.is
 have iu:=w.ev.is
 have j0:=(w.li 0 (by omega)).1.is
 have j1:=(w.li 1 (by omega)).1.is
 have j2:=(w.li 2 (by omega)).1.is
 have hr0:(rows x0).length=img.length:=by rw [w.im.rows,byV_len]
 have hr4:(rows x4).length=cv.length:=by rw [w.co4.rows,slR_len]
 unfold imgB xC
 rw [s_fn fn_cand_look_image]
 by_cases c:1024<img.length
 ·have c':(1024:Int)<(img.length:Int):=by omega
  simp [ir_cand_look_image,go_sem,i0,i4,iu,j0,j1,j2,hr0,hr4,c,c',V.cells,V.exp]
 ·have c':¬ (1024:Int)<(img.length:Int):=by omega
  have c2:(img.length:Int)≤1024:=by omega
  by_cases d:cv.length=img.length
  ·simp [ir_cand_look_image,go_sem,i0,i4,iu,j0,j1,j2,hr0,hr4,c,c',c2,d,V.cells,V.exp]
  ·have d':¬ (cv.length:Int)=(img.length:Int):=by omega
   simp [ir_cand_look_image,go_sem,i0,i4,iu,j0,j1,j2,hr0,hr4,c,c',c2,d,d',V.cells,V.exp]
def manB (R:Nat→List Rt):Bool:=decide (512<(R 0).length+(R 1).length+(R 2).length)
theorem many_l0 (h:Nat) (hh:h≤3) (n:Nat) (hn:n≤1000 * h):
  evCI pg (.loop ir_cand_look_manyl0) ⟨[.undef,.undef,.undef,.int .i64 (n:Nat),.undef,.agg (ls3 lv),.int .i64 (h:Int),.undef],⟨[[]],[],H⟩⟩ =
   some (.exit 0,⟨[.undef,.undef,.undef,.int .i64 (n+((List.range' h (3 - h)).map fun k=>(R k).length).sum:Nat),.undef,.agg (ls3 lv),.int .i64 (3:Int),.bool false],⟨[[]],[],H⟩⟩):=by
 obtain ⟨B,hB⟩:∃ B,B=Vm.C.loop ir_cand_look_manyl0:=⟨_,rfl⟩
 by_cases c:h<3
 ·have e3:=succ_i64 c (by omega)
  obtain ⟨h1,h2,h3⟩:=w.li h c
  have ih:=many_l0 (h+1) (by omega) (n+(R h).length) (by omega)
  have hd:List.range' h (3 - h)=h :: List.range' (h+1) (3 - (h+1)):=by
   have:3 - h=(3 - (h+1))+1:=by omega
   rw [this,List.range'_succ]
  rw [hd,List.map_cons,List.sum_cons,← Nat.add_assoc,← ih,← hB]
  conv=>lhs; rw [s_loop_at hB]
  have hrl:(rows (lv h)).length=(R h).length:=by rw [h1.rows,rwR_len]
  have hi:=h1.is
  clear ih hd
  have c2:(h:Int)<3:=by omega
  obtain ⟨hg,hg2⟩:=ls3_get lv c
  have hll:=ls3_len lv
  have hg':∀ q:h<(ls3 lv).length,(ls3 lv)[h]=lv h:=fun q=>by
   rw [List.getElem?_eq_getElem q] at hg
   exact Option.some.inj hg
  generalize ls3 lv=ls at *
  have c3:h≤2:=by omega
  have ew:IntKind.i64.wrap ((n:Int)+((R h).length:Int))=((n+(R h).length:Nat):Int):=by rw [i64_small (by omega)]; rfl
  simp [ir_cand_look_manyl0,go_sem,c,c2,c3,e3,hg,hg',hg2,hll,hi,hrl,ew,-Int.natCast_add]
 ·obtain rfl:h=3:=by omega
  rw [← hB,s_loop_at hB]
  simp [ir_cand_look_manyl0,go_sem]
termination_by 3 - h
theorem many_ok:evI pg .heap n_cand_look_many [.agg (xC x0 lv x4 u mid)] H=some (.bool (manB R),H):=by
 have i0:=w.im.is
 have i4:=w.co4.is
 have iu:=w.ev.is
 have j0:=(w.li 0 (by omega)).1.is
 have j1:=(w.li 1 (by omega)).1.is
 have j2:=(w.li 2 (by omega)).1.is
 have hl:=many_l0 w H 0 (by omega) 0 (by omega)
 have e:0+((List.range' 0 (3 - 0)).map fun k=>(R k).length).sum=(R 0).length+(R 1).length+(R 2).length:=by simp [List.range'_succ]; omega
 rw [e,Int.natCast_zero] at hl
 unfold ls3 at hl
 unfold manB xC
 rw [s_fn fn_cand_look_many]
 generalize (R 0).length+(R 1).length+(R 2).length=n at *
 by_cases c:512<n
 ·have c':(512:Int)<(n:Int):=by omega
  simp [ir_cand_look_many,go_sem,i0,i4,iu,j0,j1,j2,hl,c,c',V.cells,V.exp]
 ·have c':¬ (512:Int)<(n:Int):=by omega
  have c2:(n:Int)≤512:=by omega
  simp [ir_cand_look_many,go_sem,i0,i4,iu,j0,j1,j2,hl,c,c',c2,V.cells,V.exp]
end
end Go.Proofs.YtimiademofajeaaGreatDoor
