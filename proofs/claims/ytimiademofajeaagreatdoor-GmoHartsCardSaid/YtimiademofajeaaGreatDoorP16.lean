/- Lemmas (no claim): K20o, K20p. -/
import Derived.Test.YtimiademofajeaaGreatDoorP15
set_option linter.unusedSimpArgs false
set_option linter.unusedVariables false
set_option maxRecDepth 20000
namespace Go.Proofs.YtimiademofajeaaGreatDoor
open Go Go.Vm
def atl (E:List Ev):Nat→List (Int × V)
 | 0=>[]
 | k+1=>match E[k]? with
  | some e=>kput (atl E k) e.r.id (.int .i64 (k:Int))
  | none=>atl E k
theorem atl_get (E:List Ev) (n:Int):∀ k,k≤E.length→kget (atl E k) n=(lixTo E n k).map fun (i:Nat)=>V.int .i64 ((i:Nat):Int)
 | 0,_=>rfl
 | k+1,hk=>by
  have ih:=atl_get E n k (by omega)
  have hk':k<E.length:=by omega
  unfold atl lixTo
  rw [List.getElem?_eq_getElem hk']
  simp only [Option.map_some,Option.some.injEq]
  rw [kget_put]
  by_cases c:(E[k]).r.id=n
  ·rw [if_pos c.symm,if_pos c]; rfl
  ·rw [if_neg (Ne.symm c),if_neg c,ih]
theorem atl_at (E:List Ev):AtL (atl E E.length) E:=fun n=>atl_get E n E.length (Nat.le_refl _)
def fvR:List (List V):=[[.fn (n_cand_look_image+0) [] []],[.fn (n_cand_look_image+1) [] []],[.fn (n_cand_look_image+2) [] []],[.fn (n_cand_look_image+3) [] []],[.fn (n_cand_look_image+4) [] []],[.fn (n_cand_look_image+5) [] []],[.fn (n_cand_look_image+6) [] []],[.fn (n_cand_look_image+7) [] []]]
theorem faults_ok:evI pg .val n_cand_faults [] []=some (.isl false fvR,[]):=closed irL_ok 60 (by kernel_rfl)
theorem fvR_el {i:Nat} (h:i<fvR.length):fvR[i]=[.fn (n_cand_look_image+i) [] []]:=by
 have h8:i<8:=h
 match i,h8 with
 | 0,_=>rfl
 | 1,_=>rfl
 | 2,_=>rfl
 | 3,_=>rfl
 | 4,_=>rfl
 | 5,_=>rfl
 | 6,_=>rfl
 | 7,_=>rfl
theorem fvR_len:fvR.length=8:=rfl
def mpA (l:List (Int × V)):List Vm.Obj:=[.mp (kvR l)]
theorem mpA_put (l:List (Int × V)) (vs:List (List V)) (tk:List Nat) (n:Int) (k:Nat):mputM ⟨vs,tk,mpA l⟩ (.map 0) (.int .i64 n) (.int .i64 (k:Int))=some (.undef,⟨vs,tk,mpA (kput l n (.int .i64 (k:Int)))⟩):=by
 rw [mput_kv (H:=mpA l) (id:=0) (l:=l) rfl vs tk n _ rfl]
 rfl
section
variable {x0:V} {lv:Nat→V} {x4 u:V} {R:Nat→List Rt} {img:List Nat} {cv:List V} {co:List (List Int)} (w:Lk x0 lv x4 u R img cv co)
include w
theorem Chk_l0 (hE:(evs R).length≤100000) (i:Nat) (hi:i≤(evs R).length):
  evCI pg (.loop ir_cand_Checkl0) ⟨[.undef,.undef,.undef,.lp 1 0,.undef,.undef,.undef,.undef,u,.int .i64 ((evs R).length:Int),.int .i64 (i:Int),.undef,.undef,.undef,.undef,.undef,.undef],⟨[[],xC x0 lv x4 u 0,[],[]],[],mpA (atl (evs R) i)⟩⟩ =
   some (.exit 0,⟨[.undef,.undef,.undef,.lp 1 0,.undef,.undef,.undef,.undef,u,.int .i64 ((evs R).length:Int),.int .i64 ((evs R).length:Int),.bool false,.undef,.undef,.undef,.undef,.undef],⟨[[],xC x0 lv x4 u 0,[],[]],[],mpA (atl (evs R) (evs R).length)⟩⟩):=by
 obtain ⟨B,hB⟩:∃ B,B=Vm.C.loop ir_cand_Checkl0:=⟨_,rfl⟩
 have iu:=w.ev.is
 have hur:=w.ev.fpR
 by_cases c:i<(evs R).length
 ·have e3:=succ_i64 c (by omega)
  have e1:=fun m=>w.ev.ia (sz:=33) m .i64 (i:=i) (by rw [evR_len]; exact c) (evR_sz _ _ (List.getElem_mem _))
  simp only [evR_el] at e1
  have hfl:=eq_true (evC_flat (evs R)[i])
  have hpt:=fun vs tk=>mpA_put (atl (evs R) i) vs tk ((evs R)[i]).r.id i
  have hst:atl (evs R) (i+1)=kput (atl (evs R) i) ((evs R)[i]).r.id (.int .i64 (i:Int)):=by
   conv=>lhs; unfold atl
   rw [List.getElem?_eq_getElem c]
  rw [← hst] at hpt
  have hx6:(xC x0 lv x4 u 0)[6]?=some (.map 0):=rfl
  have hx6':∀ q:6<(xC x0 lv x4 u 0).length,(xC x0 lv x4 u 0)[6]=.map 0:=fun _=>rfl
  have hxl:(xC x0 lv x4 u 0).length=7:=rfl
  have ih:=Chk_l0 hE (i+1) (by omega)
  rw [← ih,← hB]
  conv=>lhs; rw [s_loop_at hB]
  clear ih hst
  generalize (evs R)[i]=e at *
  generalize atl (evs R) (i+1)=l1 at *
  generalize atl (evs R) i=l0 at *
  generalize xC x0 lv x4 u 0=xc at *
  generalize (evs R).length=N at *
  simp [ir_cand_Checkl0,go_sem,c,iu,hur,e1,e3,hfl,hpt,hx6,hx6',hxl,evStore,splice,-Int.natCast_add]
 ·obtain rfl:i=(evs R).length:=by omega
  rw [← hB,s_loop_at hB]
  simp [ir_cand_Checkl0,go_sem,iu]
termination_by (evs R).length - i
omit w in
theorem Chk_step (xc:List V) (hxl:xc.length=7) (hxt:xc.take 7=xc) (hxf:∀ v∈xc,v.flat=true) (i:Nat) (hi:i<8) (H H':List Vm.Obj) (b:Bool) (hf:evI pg .heap (n_cand_look_image+i) [.agg xc] H=some (.bool b,H')):
  evCI pg (.loop ir_cand_Checkl1) ⟨[.undef,.undef,.undef,.lp 1 0,.undef,.undef,.undef,.undef,.undef,.undef,.undef,.undef,.isl false fvR,.int .i64 8,.int .i64 (i:Int),.undef,.undef],⟨[[],xc,[],[]],[],H⟩⟩ =
   if b=true then some (.ret,⟨[.undef,.undef,.int .i64 ((i+1:Nat):Int),.undef,.undef,.undef,.undef,.undef,.undef,.undef,.undef,.undef,.undef,.undef,.undef,.undef,.undef],⟨[[],[],[],[]],[],H'⟩⟩)
    else evCI pg (.loop ir_cand_Checkl1) ⟨[.undef,.undef,.undef,.lp 1 0,.undef,.undef,.undef,.undef,.undef,.undef,.undef,.undef,.isl false fvR,.int .i64 8,.int .i64 ((i+1:Nat):Int),.undef,.undef],⟨[[],xc,[],[]],[],H'⟩⟩:=by
 obtain ⟨B,hB⟩:∃ B,B=Vm.C.loop ir_cand_Checkl1:=⟨_,rfl⟩
 have e3:IntKind.i64.wrap ((i:Int)+1)=((i+1:Nat):Int):=by rw [wrap_i64 (by omega) (by omega)]; rfl
 have hs:Sl (.isl false fvR) fvR:=.isl _ _
 have e1:=fun m=>hs.ia (sz:=1) m .i64 (i:=i) (by rw [fvR_len]; exact hi) (by rw [fvR_el]; rfl)
 simp only [fvR_el] at e1
 have hsi:=hs.is
 have hsf:=hs.fpR
 have hi8:(i:Int)<8:=by omega
 generalize V.isl false fvR=fv at *
 rw [← hB]
 conv=>lhs; rw [s_loop_at hB]
 cases b with
 | true=>
  rw [if_pos rfl]
  simp [ir_cand_Checkl1,go_sem,hi,hi8,hsi,hsf,e1,e3,hf,hxl,hxt,eq_true hxf,evStore,splice,-Int.natCast_add]
 | false=>
  rw [if_neg (by simp)]
  simp [ir_cand_Checkl1,go_sem,hi,hi8,hsi,hsf,e1,e3,hf,hxl,hxt,eq_true hxf,evStore,splice,-Int.natCast_add]
omit w in
theorem Chk_end (xc:List V) (H:List Vm.Obj):evCI pg (.loop ir_cand_Checkl1) ⟨[.undef,.undef,.undef,.lp 1 0,.undef,.undef,.undef,.undef,.undef,.undef,.undef,.undef,.isl false fvR,.int .i64 8,.int .i64 8,.undef,.undef],⟨[[],xc,[],[]],[],H⟩⟩=some (.exit 2,⟨[.undef,.undef,.undef,.lp 1 0,.undef,.undef,.undef,.undef,.undef,.undef,.undef,.undef,.isl false fvR,.int .i64 8,.int .i64 8,.bool false,.undef],⟨[[],xc,[],[]],[],H⟩⟩):=by
 rw [s_loop]
 have hs:Sl (.isl false fvR) fvR:=.isl _ _
 have hsi:=hs.is
 generalize V.isl false fvR=fv at *
 simp [ir_cand_Checkl1,go_sem,hsi]
def chk (R:Nat→List Rt) (img:List Nat) (n:Nat) (co:List (List Int)):Nat:=
 if imgB img n then 1 else if manB R then 2 else if idsB R then 3 else if plcB R img.length then 4 else if tagB R then 5 else if bytB R img then 6 else if ordB R co then 7 else if prB R then 8 else 0
omit w in
theorem plc_in (hb:∀ e∈evs R,Bd e.r) (h1:img.length≤1024) (h2:plcB R img.length=false):∀ e∈evs R,0≤adE e.r∧adE e.r+(szO e.r.ins.op:Nat)≤(img.length:Int):=by
 intro e he
 unfold plcB at h2
 rw [List.any_eq_false] at h2
 have h3:=h2 e he
 unfold plcP whr at h3
 have hE:=(evs_mem he).2.2
 have hz:szO e.r.ins.op≠0:=by
  unfold isE at hE
  rw [memO_sz] at hE
  simp only [Bool.and_eq_true,decide_eq_true_eq] at hE
  omega
 rw [if_neg hz] at h3
 have ha:=(hb e he).ad
 have h3':(if e.r.addr.toNat % szO e.r.ins.op≠0 then 4 else if img.length<szO e.r.ins.op∨img.length - szO e.r.ins.op<e.r.addr.toNat then 3 else 0)=0:=by simpa using h3
 split at h3'
 ·cases h3'
 ·split at h3'
  ·cases h3'
  ·rename_i h5
   have:¬ img.length<szO e.r.ins.op∧¬ img.length - szO e.r.ins.op<e.r.addr.toNat:=by
    constructor
    ·intro q; exact h5 (.inl q)
    ·intro q; exact h5 (.inr q)
   unfold adE
   rw [if_pos (by omega)]
   omega
theorem Chk_run:∃ H,evCI pg (.loop ir_cand_Checkl1) ⟨[.undef,.undef,.undef,.lp 1 0,.undef,.undef,.undef,.undef,.undef,.undef,.undef,.undef,.isl false fvR,.int .i64 8,.int .i64 0,.undef,.undef],⟨[[],xC x0 lv x4 u 0,[],[]],[],mpA (atl (evs R) (evs R).length)⟩⟩ =
  some (if chk R img cv.length co=0 then (.exit 2,⟨[.undef,.undef,.undef,.lp 1 0,.undef,.undef,.undef,.undef,.undef,.undef,.undef,.undef,.isl false fvR,.int .i64 8,.int .i64 8,.bool false,.undef],⟨[[],xC x0 lv x4 u 0,[],[]],[],H⟩⟩)
   else (.ret,⟨[.undef,.undef,.int .i64 ((chk R img cv.length co:Nat):Int),.undef,.undef,.undef,.undef,.undef,.undef,.undef,.undef,.undef,.undef,.undef,.undef,.undef,.undef],⟨[[],[],[],[]],[],H⟩⟩)):=by
 have hb:=evs_bd (R:=R) fun h hh=>(w.li h hh).2.1
 have hm:(mpA (atl (evs R) (evs R).length))[0]?=some (.mp (kvR (atl (evs R) (evs R).length))):=rfl
 have hat:=atl_at (evs R)
 generalize atl (evs R) (evs R).length=l at *
 have i0:=w.im.is
 have i4:=w.co4.is
 have iu:=w.ev.is
 have j0:=(w.li 0 (by omega)).1.is
 have j1:=(w.li 1 (by omega)).1.is
 have j2:=(w.li 2 (by omega)).1.is
 have sf:∀ v,isS v=true→v.flat=true:=fun v hv=>by
  cases v<;>first | rfl | (simp [isS] at hv)
 have hxf:∀ v∈xC x0 lv x4 u 0,v.flat=true:=by
  intro v hv
  simp only [xC,List.mem_cons,List.not_mem_nil,or_false] at hv
  rcases hv with rfl | rfl | rfl | rfl | rfl | rfl | rfl
  ·exact sf _ i0
  ·exact sf _ j0
  ·exact sf _ j1
  ·exact sf _ j2
  ·exact sf _ i4
  ·exact sf _ iu
  ·rfl
 have st:=fun i hi H H' b hf=>Chk_step (xC x0 lv x4 u 0) rfl rfl hxf i hi H H' b hf
 have f0:=image_ok w 0 (mpA l)
 have s0:=st 0 (by omega) _ _ _ f0
 unfold chk
 rw [Int.natCast_zero] at s0
 rw [s0]
 cases q0:imgB img cv.length with
 | true=>exact ⟨_,rfl⟩
 | false=>
 have h1024:img.length≤1024:=by
  unfold imgB at q0
  simp only [Bool.or_eq_false_iff,decide_eq_false_iff_not] at q0
  omega
 simp only [Bool.false_eq_true,if_false]
 have f1:=many_ok w 0 (mpA l)
 rw [st 1 (by omega) _ _ _ f1]
 cases q1:manB R with
 | true=>exact ⟨_,rfl⟩
 | false=>
 simp only [Bool.false_eq_true,if_false]
 obtain ⟨X2,f2⟩:=ids_ok w 0 (mpA l)
 rw [st 2 (by omega) _ _ _ f2]
 cases q2:idsB R with
 | true=>exact ⟨_,rfl⟩
 | false=>
 simp only [Bool.false_eq_true,if_false]
 have hm2:=get_app (X:=X2) hm
 generalize mpA l ++ X2=H2 at *
 obtain ⟨X3,f3⟩:=places_ok w 0 H2
 rw [st 3 (by omega) _ _ _ f3]
 cases q3:plcB R img.length with
 | true=>exact ⟨_,rfl⟩
 | false=>
 simp only [Bool.false_eq_true,if_false]
 have hm3:=get_app (X:=X3) hm2
 generalize H2 ++ X3=H3 at *
 obtain ⟨X4,f4⟩:=tags_ok w hm3 hat
 rw [st 4 (by omega) _ _ _ f4]
 cases q4:tagB R with
 | true=>exact ⟨_,rfl⟩
 | false=>
 simp only [Bool.false_eq_true,if_false]
 have hm4:=get_app (X:=X4) hm3
 generalize H3 ++ X4=H4 at *
 have hin:=plc_in hb h1024 q3
 have f5:=bytes_ok w hm4 hat (fun e he _=>hin e he)
 rw [st 5 (by omega) _ _ _ f5]
 cases q5:bytB R img with
 | true=>exact ⟨_,rfl⟩
 | false=>
 simp only [Bool.false_eq_true,if_false]
 obtain ⟨X6,f6⟩:=corders_ok w (mid:=0) H4
 rw [st 6 (by omega) _ _ _ f6]
 cases q6:ordB R co with
 | true=>exact ⟨_,rfl⟩
 | false=>
 simp only [Bool.false_eq_true,if_false]
 have f7:=pairs_ok w (mid:=0) (H4 ++ X6)
 rw [st 7 (by omega) _ _ _ f7]
 cases q7:prB R with
 | true=>exact ⟨_,rfl⟩
 | false=>
 simp only [Bool.false_eq_true,if_false]
 exact ⟨_,Chk_end _ _⟩
end
section
variable {x0:V} {lv:Nat→V} {x4:V} {R:Nat→List Rt} {img:List Nat} {cv:List V} {co:List (List Int)} (w:Lk x0 lv x4 (ils (evR (evs R))) R img cv co)
include w
theorem Check_ok:evI pg .val n_cand_Check [.agg [x0,lv 0,lv 1,lv 2,x4]] []=some (.int .i64 (chk R img cv.length co:Nat),[]):=by
 have hc:Cd lv R:=⟨fun h hh=>⟨(w.li h hh).1,(w.li h hh).2.2,(w.li h hh).2.1.ok⟩⟩
 have hE:(evs R).length≤100000:=by
  have:=evs_len R
  have h0:=(w.li 0 (by omega)).2.2
  have h1:=(w.li 1 (by omega)).2.2
  have h2:=(w.li 2 (by omega)).2.2
  omega
 have hl0:=Chk_l0 w hE 0 (Nat.zero_le _)
 obtain ⟨H,hl1⟩:=Chk_run w
 rw [Int.natCast_zero] at hl0
 have i0:=w.im.is
 have i4:=w.co4.is
 have iu:=w.ev.is
 have hur:(rows (ils (evR (evs R)))).length=(evs R).length:=by rw [w.ev.rows,evR_len]
 have j0:=(w.li 0 (by omega)).1.is
 have j1:=(w.li 1 (by omega)).1.is
 have j2:=(w.li 2 (by omega)).1.is
 have hEv:=Events_ok hc i0 i4
 have hF:=faults_ok
 have hm0:[Vm.Obj.mp []]=mpA (atl (evs R) 0):=rfl
 have hs:Sl (.isl false fvR) fvR:=.isl _ _
 have hsi:=hs.is
 have hsr:(rows (.isl false fvR)).length=8:=by rw [hs.rows]; rfl
 generalize V.isl false fvR=fv at *
 generalize ils (evR (evs R))=u at *
 generalize chk R img cv.length co=ch at *
 unfold xC at hl0 hl1
 rw [s_fn fn_cand_Check]
 by_cases c:ch=0
 ·subst c
  rw [if_pos rfl] at hl1
  simp [ir_cand_Check,go_sem,i0,i4,iu,hur,j0,j1,j2,hEv,hF,hm0,hsi,hsr,hl0,hl1]
 ·rw [if_neg c] at hl1
  simp [ir_cand_Check,go_sem,i0,i4,iu,hur,j0,j1,j2,hEv,hF,hm0,hsi,hsr,hl0,hl1]
end
def e0 (r:Rt):Ev:=⟨0,0,r⟩
theorem evH_r (h:Nat):∀ (l:List Rt) (i:Nat),(evH h l i).map Ev.r=l.filter isE
 | [],_=>rfl
 | r :: l,i=>by
  have ih:=evH_r h l (i+1)
  unfold evH
  rw [List.filter_cons]
  split
  ·rw [List.map_cons,ih]
  ·exact ih
def allR (R:Nat→List Rt):List Rt:=R 0 ++ (R 1 ++ R 2)
theorem evs_r (R:Nat→List Rt):(evs R).map Ev.r=(allR R).filter isE:=by
 unfold evs allR
 simp only [List.map_append,evH_r,List.filter_append]
theorem idsR_all (R:Nat→List Rt):idsR R 0 ++ (idsR R 1 ++ idsR R 2)=(allR R).map Rt.id:=by simp [idsR,allR]
theorem idw_iff:∀ (l s:List Int),(idw l s).isSome=true↔(∀ n∈l,0≤n)∧l.Nodup∧∀ n∈l,n ∉ s
 | [],s=>by simp [idw]
 | n :: l,s=>by
  unfold idw
  by_cases c:n<0∨n∈s
  ·rw [if_pos c]
   simp only [Option.isSome_none,Bool.false_eq_true,List.mem_cons,false_iff,not_and]
   intro h1 h2 h3
   rcases c with c | c
   ·have:=h1 n (.inl rfl); omega
   ·exact h3 n (.inl rfl) c
  ·rw [if_neg c,idw_iff l (s ++ [n])]
   simp only [not_or,Int.not_lt] at c
   simp only [List.mem_cons,List.mem_append,List.not_mem_nil,or_false,not_or,List.nodup_cons,forall_eq_or_imp]
   constructor
   ·rintro ⟨h1,h2,h3⟩
    exact ⟨⟨c.1,h1⟩,⟨fun h=>(h3 n h).2 rfl,h2⟩,c.2,fun m hm=>(h3 m hm).1⟩
   ·rintro ⟨⟨_,h1⟩,⟨h2,h3⟩,h4,h5⟩
    exact ⟨h1,h3,fun m hm=>⟨h5 m hm,fun e=>h2 (e ▸ hm)⟩⟩
theorem idsB_iff (R:Nat→List Rt):idsB R=false↔(∀ r∈allR R,0≤r.id)∧((allR R).map Rt.id).Nodup:=by
 unfold idsB
 rw [idsR_all]
 have h:=idw_iff ((allR R).map Rt.id) []
 constructor
 ·intro q
  have:(idw ((allR R).map Rt.id) []).isSome=true:=by
   cases e:idw ((allR R).map Rt.id) [] with
   | none=>rw [e] at q; cases q
   | some t=>rfl
  obtain ⟨h1,h2,_⟩:=h.1 this
  exact ⟨fun r hr=>h1 _ (List.mem_map_of_mem hr),h2⟩
 ·rintro ⟨h1,h2⟩
  have:=h.2 ⟨fun n hn=>by obtain ⟨r,hr,rfl⟩:=List.mem_map.1 hn; exact h1 r hr,h2,fun n _=>by simp⟩
  cases e:idw ((allR R).map Rt.id) [] with
  | none=>rw [e] at this; cases this
  | some t=>rfl
/-! ### who wrote it -/
theorem lixTo_none {E:List Ev} {n:Int}:∀ {k:Nat},lixTo E n k=none→∀ j,j<k→(E[j]?).map (fun e=>e.r.id)≠some n
 | 0,_,j,hj=>by omega
 | k+1,h,j,hj=>by
  unfold lixTo at h
  split at h
  ·cases h
  ·rename_i hne
   rcases Nat.lt_succ_iff_lt_or_eq.1 hj with hj | rfl
   ·exact lixTo_none h j hj
   ·exact hne
theorem find_iff {T:List Rt} (hn:(T.map Rt.id).Nodup) {n:Int} {r:Rt}:T.find? (fun r=>decide (r.id=n))=some r↔r∈T∧r.id=n:=by
 constructor
 ·intro h
  exact ⟨List.mem_of_find?_eq_some h,by simpa using List.find?_some h⟩
 ·rintro ⟨h1,rfl⟩
  induction T with
  | nil=>cases h1
  | cons q T ih=>
   rw [List.map_cons,List.nodup_cons] at hn
   rw [List.find?_cons]
   rcases List.mem_cons.1 h1 with rfl | h1
   ·simp
   ·have:¬ q.id=r.id:=fun e=>hn.1 (e ▸ List.mem_map_of_mem h1)
    simp only [this,decide_false]
    exact ih hn.2 h1
theorem find_perm {T T':List Rt} (hp:T.Perm T') (hn:(T.map Rt.id).Nodup) (n:Int):T.find? (fun r=>decide (r.id=n))=T'.find? (fun r=>decide (r.id=n)):=by
 have hn':(T'.map Rt.id).Nodup:=(hp.map Rt.id).nodup_iff.1 hn
 cases h:T'.find? (fun r=>decide (r.id=n)) with
 | some r=>
  obtain ⟨h1,h2⟩:=(find_iff hn').1 h
  exact (find_iff hn).2 ⟨hp.mem_iff.2 h1,h2⟩
 | none=>
  cases g:T.find? (fun r=>decide (r.id=n)) with
  | none=>rfl
  | some r=>
   obtain ⟨h1,h2⟩:=(find_iff hn).1 g
   rw [(find_iff hn').2 ⟨hp.mem_iff.1 h1,h2⟩] at h
   cases h
theorem lix_find {E:List Ev} (hn:((E.map Ev.r).map Rt.id).Nodup) (n:Int):
  (lix E n=none∧(E.map Ev.r).find? (fun r=>decide (r.id=n))=none) ∨
  ∃ i e,lix E n=some i∧E[i]?=some e∧(E.map Ev.r).find? (fun r=>decide (r.id=n))=some e.r:=by
 cases q:lix E n with
 | none=>
  left
  refine ⟨rfl,?_⟩
  rw [List.find?_eq_none]
  intro r hr hc
  obtain ⟨e,he,rfl⟩:=List.mem_map.1 hr
  obtain ⟨j,hj⟩:=List.getElem?_of_mem he
  have hlt:=(List.getElem?_eq_some_iff.1 hj).1
  have:=lixTo_none q j hlt
  rw [hj] at this
  exact this (by simpa using hc)
 | some i=>
  right
  obtain ⟨hi,hid⟩:=lix_some q
  exact ⟨i,E[i],rfl,List.getElem?_eq_getElem hi,(find_iff hn).2 ⟨List.mem_map_of_mem (List.getElem_mem hi),hid⟩⟩
def wrBr (T:List Rt) (n at_:Int):Bool:=match T.find? (fun r=>decide (r.id=n)) with
 | some r=>bh (e0 r) at_
 | none=>false
def wrVr (T:List Rt) (n at_:Int):Nat:=match T.find? (fun r=>decide (r.id=n)) with
 | some r=>bytE (e0 r) at_
 | none=>0
theorem wrB_r {E:List Ev} (hn:((E.map Ev.r).map Rt.id).Nodup) (n at_:Int):wrB E n at_=wrBr (E.map Ev.r) n at_:=by
 unfold wrB wrBr
 rcases lix_find hn n with ⟨h1,h2⟩ | ⟨i,e,h1,h2,h3⟩
 ·rw [h1,h2]
 ·rw [h1,h3]
  simp only [h2]
  rfl
theorem wrV_r {E:List Ev} (hn:((E.map Ev.r).map Rt.id).Nodup) (n at_:Int):wrVl E n at_=wrVr (E.map Ev.r) n at_:=by
 unfold wrVl wrVr
 rcases lix_find hn n with ⟨h1,h2⟩ | ⟨i,e,h1,h2,h3⟩
 ·rw [h1,h2]
 ·rw [h1,h3]
  simp only [h2]
  rfl
def tgEr (T:List Rt) (r:Rt):Bool:=(List.range' 0 (szO r.ins.op)).any fun k=>lod r.ins.op && (decide (r.tg k≠-1) && !wrBr T (r.tg k) (adE r+k))
theorem tgE_r {E:List Ev} (hn:((E.map Ev.r).map Rt.id).Nodup) (e:Ev):tgE E e=tgEr (E.map Ev.r) e.r:=by
 unfold tgE tgEr tgB
 simp only [wrB_r hn]
def wantr (img:List Nat) (T:List Rt) (r:Rt) (k:Nat):Nat:=if r.tg k=-1 then img.getD (adE r+k).toNat 0 else wrVr T (r.tg k) (adE r+k)
def bytEr (img:List Nat) (T:List Rt) (r:Rt):Bool:=lod r.ins.op && (decide (zx r.rdd.toNat ((8 * szO r.ins.op:Nat):Int)≠r.rdd.toNat) || (List.range' 0 (szO r.ins.op)).any fun k=>decide ((byl r.rdd.toNat (szO r.ins.op)).getD k 0≠wantr img T r k))
theorem bytE_r {img:List Nat} {E:List Ev} (hn:((E.map Ev.r).map Rt.id).Nodup) (e:Ev):bytE' img E e=bytEr img (E.map Ev.r) e.r:=by
 unfold bytE' bytEr bytK wantB wantr
 simp only [wrV_r hn]
/-! ### orders -/
def lftr (a:Int) (T:List Rt):List Int:=(T.filter fun r=>bh (e0 r) a).map Rt.id
theorem lft_r (a:Int):∀ (E:List Ev) (s:List Int),(s ++ (E.map Ev.r).map Rt.id).Nodup→lft a E s=s ++ lftr a (E.map Ev.r)
 | [],s,_=>by simp [lft,lftr]
 | e :: E,s,h=>by
  have hb:bh (e0 e.r) a=bh e a:=rfl
  unfold lft lftr
  rw [List.map_cons,List.filter_cons,hb]
  simp only [List.map_cons] at h
  have hns:e.r.id ∉ s:=by
   intro hm
   rw [List.nodup_append] at h
   exact h.2.2 _ hm _ (by simp) rfl
  cases q:bh e a with
  | true=>
   simp only [if_true,List.map_cons]
   have hi:insF s e.r.id=s ++ [e.r.id]:=by unfold insF; rw [if_neg hns]
   rw [hi,lft_r a E (s ++ [e.r.id]) (by rw [List.append_assoc]; exact h)]
   simp [lftr]
  | false=>
   simp only [Bool.false_eq_true,if_false]
   rw [lft_r a E s (by
    rw [List.nodup_append] at h ⊢
    exact ⟨h.1,(List.nodup_cons.1 h.2.1).2,fun x hx y hy=>h.2.2 x hx y (List.mem_cons_of_mem _ hy)⟩)]
   rfl
theorem odw_perm:∀ (l:List Int) {s s':List Int},s.Perm s'→(odw l s=none∧odw l s'=none)∨∃ t t',odw l s=some t∧odw l s'=some t'∧t.Perm t'
 | [],s,s',h=>.inr ⟨s,s',rfl,rfl,h⟩
 | n :: l,s,s',h=>by
  unfold odw
  by_cases c:n∈s
  ·rw [if_pos c,if_pos (h.mem_iff.1 c)]
   exact odw_perm l (h.erase n)
  ·rw [if_neg c,if_neg (fun q=>c (h.mem_iff.2 q))]
   exact .inl ⟨rfl,rfl⟩
def ordKr (T:List Rt) (a:Nat) (l:List Int):Bool:=match odw l (lftr (a:Int) T) with
 | none=>true
 | some t=>decide (t≠[])
theorem ordK_r {E:List Ev} (hn:((E.map Ev.r).map Rt.id).Nodup) (a:Nat) (l:List Int):ordK E a l=ordKr (E.map Ev.r) a l:=by
 unfold ordK ordKr
 rw [lft_r (a:Int) E [] (by simpa using hn),List.nil_append]
 rfl
theorem ordKr_perm {T T':List Rt} (hp:T.Perm T') (a:Nat) (l:List Int):ordKr T a l=ordKr T' a l:=by
 unfold ordKr
 have h:(lftr (a:Int) T).Perm (lftr (a:Int) T'):=(hp.filter _).map _
 rcases odw_perm l h with ⟨h1,h2⟩ | ⟨t,t',h1,h2,h3⟩
 ·rw [h1,h2]
 ·rw [h1,h2]
  simp only
  cases t with
  | nil=>
   cases t' with
   | nil=>rfl
   | cons y t'=>have:=h3.length_eq; simp at this
  | cons x t=>
   cases t' with
   | nil=>have:=h3.length_eq; simp at this
   | cons y t'=>rfl
theorem ordF_congr {E E':List Ev} (h:∀ a l,ordK E a l=ordK E' a l):∀ (co:List (List Int)) (a:Nat),ordF E a co=ordF E' a co
 | [],_=>rfl
 | l :: co,a=>by
  unfold ordF
  rw [h,ordF_congr h co]
theorem any_perm {α:Type} {p:α→Bool} {l l':List α} (h:l.Perm l'):l.any p=l'.any p:=by
 rw [Bool.eq_iff_iff,List.any_eq_true,List.any_eq_true]
 exact ⟨fun ⟨x,hx,hp⟩=>⟨x,h.mem_iff.1 hx,hp⟩,fun ⟨x,hx,hp⟩=>⟨x,h.mem_iff.2 hx,hp⟩⟩
theorem any_r {E:List Ev} {p:Ev→Bool} {q:Rt→Bool} (h:∀ e,p e=q e.r):E.any p=(E.map Ev.r).any q:=by
 rw [List.any_map]
 congr 1
 funext e
 exact h e
theorem chk_perm {R R':Nat→List Rt} (hp:(allR R').Perm (allR R)) (hpr:prB R'=prB R) (img:List Nat) (n:Nat) (co:List (List Int)):chk R' img n co=chk R img n co∧(evs R').length=(evs R).length:=by
 have hT:((evs R').map Ev.r).Perm ((evs R).map Ev.r):=by rw [evs_r,evs_r]; exact hp.filter _
 have hlen:(evs R').length=(evs R).length:=by simpa using hT.length_eq
 refine ⟨?_,hlen⟩
 have hman:manB R'=manB R:=by
  have:=hp.length_eq
  unfold allR at this
  simp only [List.length_append] at this
  unfold manB
  rw [Nat.add_assoc,this,Nat.add_assoc]
 have hids:idsB R'=idsB R:=by
  rw [Bool.eq_iff_iff]
  have h1:=idsB_iff R
  have h2:=idsB_iff R'
  have h3:(∀ r∈allR R',0≤r.id)∧((allR R').map Rt.id).Nodup↔(∀ r∈allR R,0≤r.id)∧((allR R).map Rt.id).Nodup:=
   and_congr ⟨fun h r hr=>h r (hp.mem_iff.2 hr),fun h r hr=>h r (hp.mem_iff.1 hr)⟩ (hp.map Rt.id).nodup_iff
  cases a:idsB R<;>cases b:idsB R'<;>simp_all
 have hplc:plcB R' img.length=plcB R img.length:=by
  unfold plcB
  have e:∀ E:List Ev,E.any (plcP img.length)=(E.map Ev.r).any fun r=>plcP img.length (e0 r):=fun E=>any_r fun e=>rfl
  rw [e,e]
  exact any_perm hT
 unfold chk
 rw [hman,hids,hplc,hpr]
 cases q:idsB R with
 | true=>simp
 | false=>
  have hnd:=((idsB_iff R).1 q).2
  have hnd':((allR R').map Rt.id).Nodup:=(hp.map Rt.id).nodup_iff.2 hnd
  have hn:(((evs R).map Ev.r).map Rt.id).Nodup:=by
   rw [evs_r]
   exact hnd.sublist ((List.filter_sublist).map _)
  have hn':(((evs R').map Ev.r).map Rt.id).Nodup:=by
   rw [evs_r]
   exact hnd'.sublist ((List.filter_sublist).map _)
  have hfind:=fun n=>find_perm hT hn' n
  have hWB:∀ n a,wrBr ((evs R').map Ev.r) n a=wrBr ((evs R).map Ev.r) n a:=fun n a=>by unfold wrBr; rw [hfind]
  have hWV:∀ n a,wrVr ((evs R').map Ev.r) n a=wrVr ((evs R).map Ev.r) n a:=fun n a=>by unfold wrVr; rw [hfind]
  have htag:tagB R'=tagB R:=by
   unfold tagB
   have ea:(R' 0 ++ (R' 1 ++ R' 2)).any tagsR=(R 0 ++ (R 1 ++ R 2)).any tagsR:=any_perm hp
   rw [any_r (tgE_r hn'),any_r (tgE_r hn),ea]
   have:tgEr ((evs R').map Ev.r)=tgEr ((evs R).map Ev.r):=by
    funext r
    unfold tgEr
    simp only [hWB]
   rw [this,any_perm hT]
  have hbyt:bytB R' img=bytB R img:=by
   unfold bytB
   rw [any_r (bytE_r hn'),any_r (bytE_r hn)]
   have:bytEr img ((evs R').map Ev.r)=bytEr img ((evs R).map Ev.r):=by
    funext r
    unfold bytEr wantr
    simp only [hWV]
   rw [this,any_perm hT]
  have hord:ordB R' co=ordB R co:=by
   unfold ordB
   exact ordF_congr (fun a l=>by rw [ordK_r hn',ordK_r hn,ordKr_perm hT]) co 0
  rw [htag,hbyt,hord]
end Go.Proofs.YtimiademofajeaaGreatDoor
