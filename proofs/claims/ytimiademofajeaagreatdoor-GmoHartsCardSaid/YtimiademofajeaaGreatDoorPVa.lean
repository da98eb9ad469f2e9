/- The machine, part Va: a small evaluation of the given code, and that the given code comes to what it says (no claim; lemmas). -/
import Derived.Tactics
import Derived.Laws.World
import Derived.Laws.Sem
import Derived.Laws.Cells
import Derived.Laws.IdiomCopy
import Derived.Below
import Derived.Laws.Entries
import Derived.Laws.FloatArith
import Derived.Laws.Strings
import Derived.Laws.Slices
import Derived.Laws.StructEq
set_option linter.unusedSimpArgs false
set_option linter.unusedVariables false
namespace Go.Vm
inductive V where
 | undef
 | skp
 | bool (b:Bool)
 | int (k:IntKind) (n:Int)
 | flt (b:Nat)
 | str (s:List UInt8)
 | nilp | nils | nilm | nilf | nili | emp
 | isl (t:Bool) (es:List (List V))
 | ip (t:Bool) (cs:List V) (off:Nat)
 | imap (t:Bool) (es:List (List V))
 | osl (h:Bool) (j:Nat) (es:List (List V))
 | rsl (id off len:Nat)
 | asl (id idx off len sz:Nat)
 | ptr (id idx off:Nat)
 | lp (j off:Nat)
 | lsl (j off len sz:Nat)
 | els (es:List (List V))
 | map (id:Nat)
 | fn (f:Nat) (fs cs:List V)
 | iface (t:Nat) (v:V)
 | agg (cs:List V)
 | tup (vs:List V)
 deriving Inhabited,Repr
inductive Obj where
 | arr (es:List (List V))
 | tok (n:Nat)
 | mp (es:List (List V))
 | dead
 deriving Inhabited,Repr
structure Mem where
 vars:List (List V)
 tk:List Nat
 H:List Obj
 deriving Inhabited,Repr
inductive X where
 | r (i:Nat)
 | s (i:Nat)
 | c (v:V)
 deriving Inhabited,Repr
inductive Md where
 | val | heap
 deriving Inhabited,Repr,DecidableEq
inductive CK where
 | int | bool | flt | str | skip
 deriving Inhabited,Repr,DecidableEq
inductive NK where
 | ptr | slice | map | func
 deriving Inhabited,Repr,DecidableEq
inductive PK where
 | bits | frombits | floor | trunc
 deriving Inhabited,Repr,DecidableEq
inductive O where
 | mv (x:X)
 | onil (j:Nat)
 | pick (c a b:X)
 | lalloc (j:Nat) (z:List V)
 | lbox (j n:Nat) (x:X)
 | halloc (z:List V)
 | hbox (n:Nat) (x:X)
 | build (z:List V) (ps:List (Nat × Nat × X))
 | lit (k:Nat) (sz:Nat) (z:List (List V)) (ps:List (Nat × X))
 | load (sp:Nat) (ag:Bool) (n:Nat) (a:X)
 | store (sp:Nat) (n:Nat) (a x:X)
 | nilck (x:X)
 | bin (o:BinOp) (x y:X)
 | eqb (ne:Bool) (x y:X)
 | eqn (k:NK) (ne:Bool) (x y:X)
 | eqa (ne:Bool) (ks:List CK) (x y:X)
 | un (o:UnOp) (x:X)
 | i2i (k:IntKind) (x:X)
 | i2f (x:X)
 | f2i (k:IntKind) (x:X)
 | same (x:X)
 | prim (k:PK) (x:X)
 | bad
 | clr (z:List V) (x:X)
 | off (d:Nat) (x:X)
 | fld (d:Nat) (ag:Bool) (n:Nat) (x:X)
 | iaA (len sz:Nat) (x i:X)
 | iaS (sz:Nat) (x i:X)
 | ixA (len sz:Nat) (ag:Bool) (x i:X)
 | ixS (x i:X)
 | mksl (z:List V) (bytes:Nat) (l c:X)
 | mksv (z:List V) (bytes:Nat) (l c:X)
 | slc (sz:Nat) (x:X) (lo hi mx:Option X)
 | slcA (n sz:Nat) (x:X) (lo hi mx:Option X)
 | ext (x:X) (i:Nat)
 | call (m:Md) (f:Nat) (xs:List X)
 | callv (m:Md) (x:X) (xs:List X)
 | app (k sz bytes:Nat) (x y:X)
 | appR (j sz bytes:Nat) (x y:X)
 | len (k:Nat) (x:X)
 | cpy (x y:X)
 | min (xs:List X)
 | max (xs:List X)
 | mkfn (f:Nat) (fs cs:List X)
 | mkif (t:Nat) (x:X)
 | mkmap
 | look (ok:Bool) (ag:Bool) (z:List V) (m k:X)
 | mput (m k v:X)
 | mdel (m k:X)
 deriving Inhabited,Repr
structure Op where
 o:O
 g:Option (Nat × Bool)
 deriving Inhabited,Repr
inductive C where
 | skip
 | reg (ops:List Op) (kl:List (Bool × Nat)) (prs:List (Nat × Nat)) (outs:List (Nat × Nat × Option Nat))
 | seq (a b:C)
 | cond (x:X) (a b:C)
 | block (id:Nat) (c:C)
 | loop (c:C)
 | exit (id:Nat)
 | ret
 | drop (ss:List Nat) (kl:List (Bool × Nat))
 deriving Inhabited,Repr
inductive RV where
 | slot (s:Nat)
 | cell (s:Nat) (ag:Bool) (n:Nat)
 deriving Inhabited,Repr
structure Fn where
 slots:List Nat
 nv:Nat
 nt:Nat
 res:List RV
 body:C
 deriving Inhabited,Repr
structure St where
 s:List V
 m:Mem
 deriving Inhabited,Repr
inductive Ex where
 | nrm | exit (id:Nat) | ret
 deriving Inhabited,Repr,DecidableEq
structure Pg where
 fn:Nat→Option Fn
 ext:Nat→List V→Option V
/-! ### lists -/
def omap (f:V→Option V):List V→Option (List V)
 | []=>some []
 | v :: vs=>match f v with
  | none=>none
  | some w=>match omap f vs with
   | none=>none
   | some ws=>some (w :: ws)
def omap2 (f:V→Option V):List (List V)→Option (List (List V))
 | []=>some []
 | v :: vs=>match omap f v with
  | none=>none
  | some w=>match omap2 f vs with
   | none=>none
   | some ws=>some (w :: ws)
def splice (c:List V) (off:Nat) (cs:List V):List V:=c.take off ++ cs ++ c.drop (off+cs.length)
def chunk (sz:Nat):Nat→List V→List (List V)
 | 0,_=>[]
 | n+1,l=>l.take sz :: chunk sz n (l.drop sz)
def V.cells:V→List V
 | .agg cs=>cs
 | v=>[v]
def ils:List (List V)→V
 | []=>.nils
 | e :: es=>.isl false (e :: es)
def V.exp:V→Option V
 | .osl false _ es=>some (ils es)
 | .lp .. | .lsl .. | .els _ | .undef | .skp | .tup _=>none
 | v=>some v
def V.flat:V→Bool
 | .osl false .. | .lp .. | .lsl .. | .els _ | .undef | .skp | .tup _ | .agg _=>false
 | _=>true
def V.loc:V→Option (Bool × Nat)
 | .lp j _ | .lsl j _ _ _=>some (true,j)
 | .osl false j _=>some (false,j)
 | _=>none
def V.imm:V→Bool
 | .bool _ | .int .. | .flt _ | .str _ | .nilp | .nils | .nilm | .nilf | .nili | .emp | .isl .. | .ip .. | .imap .. | .fn _ [] []=>true
 | _=>false
/-! ### memory -/
def loadAt (ag:Bool) (n:Nat) (cs:List V) (off:Nat):Option V:=
 if ag then (if off+n≤cs.length then some (.agg ((cs.drop off).take n)) else none) else cs[off]?
def evLoad (ag:Bool) (n:Nat) (m:Mem):V→Option V
 | .ip _ cs off=>loadAt ag n cs off
 | .lp j off=>match m.vars[j]? with
  | some cs=>loadAt ag n cs off
  | none=>none
 | .ptr id idx off=>match m.H[id]? with
  | some (.arr es)=>match es[idx]? with
   | some cs=>loadAt ag n cs off
   | none=>none
  | _=>none
 | _=>none
def evStore (n:Nat) (m:Mem) (v:V):V→Option Mem
 | .lp j off=>match m.vars[j]? with
  | some c=>if v.cells.length=n∧off+n≤c.length then some { m with vars:=m.vars.set j (splice c off v.cells) } else none
  | none=>none
 | .ptr id idx off=>match m.H[id]? with
  | some (.arr es)=>match es[idx]? with
   | some c=>if v.cells.length=n∧off+n≤c.length then some { m with H:=m.H.set id (.arr (es.set idx (splice c off v.cells))) } else none
   | none=>none
  | _=>none
 | _=>none
def spOK (sp:Nat) (a:V):Bool:=
 match sp,a with
 | 0,_=>true
 | 1,.ip .. | 2,.ip .. | 2,.lp .. | 3,.ip .. | 3,.ptr ..=>true
 | _,_=>false
def toImm (m:Mem) (t:Bool):Nat→V→Option V
 | 0,_=>none
 | d+1,v=>match v with
  | .undef | .skp | .els _=>none
  | .osl _ _ es=>some (ils es)
  | .rsl id off len=>match m.H[id]? with
   | some (.arr es)=>if off+len≤es.length then (omap2 (toImm m t d) ((es.drop off).take len)).map (.isl t) else none
   | _=>none
  | .asl id idx off len sz=>match m.H[id]? with
   | some (.arr es)=>match es[idx]? with
    | some cs=>if off+len * sz≤cs.length then (omap (toImm m t d) ((cs.drop off).take (len * sz))).map fun c=>.isl t (chunk sz len c) else none
    | none=>none
   | _=>none
  | .ptr id idx off=>match m.H[id]? with
   | some (.arr es)=>match es[idx]? with
    | some cs=>(omap (toImm m t d) cs).map fun c=>.ip t c off
    | none=>none
   | _=>none
  | .lp j off=>match m.vars[j]? with
   | some cs=>(omap (toImm m t d) cs).map fun c=>.ip t c off
   | none=>none
  | .lsl j off len sz=>match m.vars[j]? with
   | some cs=>if off+len * sz≤cs.length then (omap (toImm m t d) ((cs.drop off).take (len * sz))).map fun c=>.isl t (chunk sz len c) else none
   | none=>none
  | .map _=>none
  | .fn f fs cs=>match omap (toImm m t d) fs with
   | some fs'=>(omap (toImm m t d) cs).map fun cs'=>.fn f fs' cs'
   | none=>none
  | .iface ty v=>(toImm m t d v).map (.iface ty)
  | .agg cs=>(omap (toImm m t d) cs).map .agg
  | .tup cs=>(omap (toImm m t d) cs).map .tup
  | v=>some v
def clean:Nat→V→Bool
 | 0,_=>false
 | d+1,v=>match v with
  | .isl t es=>!t && es.all fun e=>e.all (clean d)
  | .ip t cs _=>!t && cs.all (clean d)
  | .imap t es=>!t && es.all fun e=>e.all (clean d)
  | .fn _ fs cs=>fs.all (clean d) && cs.all (clean d)
  | .iface _ v=>clean d v
  | .agg cs | .tup cs=>cs.all (clean d)
  | .osl ..=>false
  | _=>true
def depth:Nat:=8
/-! ### operations on numbers and the like -/
def andI (k:IntKind) (a b:Int):Int:=k.wrap ((BitVec.ofInt k.bits a &&& BitVec.ofInt k.bits b).toNat:Nat)
def orI (k:IntKind) (a b:Int):Int:=k.wrap ((BitVec.ofInt k.bits a ||| BitVec.ofInt k.bits b).toNat:Nat)
def xorI (k:IntKind) (a b:Int):Int:=k.wrap ((BitVec.ofInt k.bits a ^^^ BitVec.ofInt k.bits b).toNat:Nat)
def andNotI (k:IntKind) (a b:Int):Int:=k.wrap ((BitVec.ofInt k.bits a &&& ~~~(BitVec.ofInt k.bits b)).toNat:Nat)
def notI (k:IntKind) (a:Int):Int:=k.wrap ((BitVec.ofInt k.bits (if k.signed then -1 else k.max) ^^^ BitVec.ofInt k.bits a).toNat:Nat)
def intV (o:BinOp) (k:IntKind) (a b:Int):Option V:=
 match o with
 | .add=>some (.int k (k.wrap (a+b)))
 | .sub=>some (.int k (k.wrap (a - b)))
 | .mul=>some (.int k (k.wrap (a * b)))
 | .quo=>if b=0 then none else some (.int k (k.wrap (a.tdiv b)))
 | .rem=>if b=0 then none else some (.int k (a.tmod b))
 | .and=>some (.int k (andI k a b))
 | .or=>some (.int k (orI k a b))
 | .xor=>some (.int k (xorI k a b))
 | .andNot=>some (.int k (andNotI k a b))
 | .eql=>some (.bool (decide (a=b)))
 | .neq=>some (.bool (!decide (a=b)))
 | .lss=>some (.bool (decide (a<b)))
 | .leq=>some (.bool (decide (a≤b)))
 | .gtr=>some (.bool (decide (a > b)))
 | .geq=>some (.bool (decide (a ≥ b)))
 | _=>none
def shV (o:BinOp) (k:IntKind) (a b:Int):Option V:=
 if b<0 then none else
 match o with
 | .shl=>some (.int k (k.wrap (a * 2 ^ (Nat.min b.toNat k.bits))))
 | .shr=>some (.int k (a.fdiv (2 ^ (Nat.min b.toNat k.bits))))
 | _=>none
def fltV (o:BinOp) (a b:Nat):Option V:=
 match o with
 | .add=>(Ieee.double.add a b).map .flt
 | .sub=>(Ieee.double.sub a b).map .flt
 | .mul=>(Ieee.double.mul a b).map .flt
 | .quo=>(Ieee.double.div a b).map .flt
 | .eql=>some (.bool (Ieee.double.order a b == some .eq))
 | .neq=>some (.bool (Ieee.double.order a b != some .eq))
 | .lss=>some (.bool (Ieee.double.order a b == some .lt))
 | .leq=>some (.bool (Ieee.double.order a b == some .lt || Ieee.double.order a b == some .eq))
 | .gtr=>some (.bool (Ieee.double.order a b == some .gt))
 | .geq=>some (.bool (Ieee.double.order a b == some .gt || Ieee.double.order a b == some .eq))
 | _=>none
def strV (o:BinOp) (a b:List UInt8):Option V:=
 match o with
 | .add=>if a.length+b.length≤9223372036854775807 then some (.str (a ++ b)) else none
 | .eql=>some (.bool (a == b))
 | .neq=>some (.bool !(a == b))
 | .lss=>some (.bool (Go.Op.bytesLess a b))
 | .leq=>some (.bool (Go.Op.bytesLess a b || a == b))
 | .gtr=>some (.bool !(Go.Op.bytesLess a b || a == b))
 | .geq=>some (.bool !(Go.Op.bytesLess a b))
 | _=>none
def isSh:BinOp→Bool
 | .shl | .shr=>true
 | _=>false
def binV (o:BinOp):V→V→Option V
 | .int k a,.int k' b=>if isSh o then shV o k a b else if k=k' then intV o k a b else none
 | .flt a,.flt b=>fltV o a b
 | .str a,.str b=>strV o a b
 | _,_=>none
def unV (o:UnOp):V→Option V
 | .int k n=>match o with
  | .neg=>some (.int k (k.wrap (0 - n)))
  | .xor=>some (.int k (notI k n))
  | _=>none
 | .flt b=>match o with
  | .neg=>some (.flt (b ^^^ 2 ^ 63))
  | _=>none
 | .bool b=>match o with
  | .not=>some (.bool !b)
  | _=>none
 | _=>none
def integral (way:Ieee.Toward) (b:Nat):Option V:=
 match FloatKind.f64.decode b with
 | .nan ..=>none
 | d=>some (.flt (FloatKind.f64.encode (d.integral way)))
def primV (k:PK):V→Option V
 | .flt b=>match k with
  | .bits=>some (.int .u64 b)
  | .floor=>integral .down b
  | .trunc=>integral .zero b
  | .frombits=>none
 | .int .u64 n=>match k with
  | .frombits=>some (.flt n.toNat)
  | _=>none
 | _=>none
def isNil:NK→V→Option Bool
 | .ptr,.nilp | .slice,.nils | .map,.nilm | .func,.nilf | .slice,.osl _ _ []=>some true
 | .ptr,.ptr .. | .ptr,.ip .. | .ptr,.lp .. | .slice,.rsl .. | .func,.fn .. | .map,.map _=>some false
 | .slice,.isl _ _ | .slice,.osl _ _ (_ :: _) | .slice,.emp=>some false
 | _,_=>none
def eqnV (k:NK) (x y:V):Option Bool:=
 match isNil k x,isNil k y with
 | some true,some b=>some b
 | some false,some true=>some false
 | _,_=>none
def eqcV:CK→V→V→Option Bool
 | .skip,_,_=>some true
 | .int,.int k a,.int k' b=>if k=k' then some (a == b) else none
 | .bool,.bool a,.bool b=>some (a == b)
 | .flt,.flt a,.flt b=>some (Ieee.double.order a b == some .eq)
 | .str,.str a,.str b=>some (a == b)
 | _,_,_=>none
def eqaV:List CK→List V→List V→Option Bool
 | [],[],[]=>some true
 | k :: ks,x :: xs,y :: ys=>match eqcV k x y with
  | some b=>match eqaV ks xs ys with
   | some c=>some (b && c)
   | none=>none
  | none=>none
 | _,_,_=>none
def fill (c:List V):List (Nat × Nat × V)→Option (List V)
 | []=>some c
 | (off,n,v) :: ps=>match v.exp with
  | some w=>if w.cells.length=n∧off+n≤c.length then fill (splice c off w.cells) ps else none
  | none=>none
def asNat (n:Nat):V→Option Nat
 | .int _ i=>if 0≤i∧i≤n then some i.toNat else none
 | _=>none
def asIx (n:Nat):V→Option Nat
 | .int _ i=>if 0≤i∧i<n then some i.toNat else none
 | _=>none
def iaSV (sz:Nat) (m:Mem) (x i:V):Option V:=
 match x with
 | .isl t es=>match asIx es.length i with
  | some k=>match es[k]? with
   | some c=>if c.length=sz then some (.ip t c 0) else none
   | none=>none
  | none=>none
 | .osl _ _ es=>match asIx es.length i with
  | some k=>match es[k]? with
   | some c=>if c.length=sz then some (.ip false c 0) else none
   | none=>none
  | none=>none
 | .rsl id off len=>match asIx len i with
  | some k=>match m.H[id]? with
   | some (.arr es)=>match es[off+k]? with
    | some c=>if c.length=sz then some (.ptr id (off+k) 0) else none
    | none=>none
   | _=>none
  | none=>none
 | .asl id idx off len sz'=>match asIx len i with
  | some k=>if sz'=sz then some (.ptr id idx (off+k * sz)) else none
  | none=>none
 | .lsl j off len sz'=>match asIx len i with
  | some k=>if sz'=sz then some (.lp j (off+k * sz)) else none
  | none=>none
 | _=>none
def offV (d:Nat):V→Option V
 | .ip t cs o=>some (.ip t cs (o+d))
 | .ptr id idx o=>some (.ptr id idx (o+d))
 | .lp j o=>some (.lp j (o+d))
 | _=>none
def lenV:V→Option Nat
 | .isl _ es | .osl _ _ es | .els es=>some es.length
 | .rsl _ _ n | .asl _ _ _ n _ | .lsl _ _ n _=>some n
 | .nils | .emp=>some 0
 | _=>none
def slLen:V→Option Nat
 | .isl _ es | .osl _ _ es=>some es.length
 | .rsl _ _ n=>some n
 | .nils | .emp=>some 0
 | _=>none
def bnd (n c:Nat) (lo hi:Option V):Option (Nat × Nat):=
 match (match hi with | some v=>asNat c v | none=>some n) with
 | none=>none
 | some h=>match (match lo with | some v=>asNat h v | none=>some 0) with
  | none=>none
  | some l=>some (l,h)
def cut (sz:Nat) (es:List (List V)) (l h:Nat):Option (List (List V)):=
 match (es.take h).drop l with
 | []=>some []
 | e :: r=>if e.length=sz then some (e :: r) else none
def slcV (sz:Nat) (m:Mem) (x:V) (lo hi mx:Option V):Option V:=
 match mx with
 | none=>if sz=0 then match x with
  | .str s=>match bnd s.length s.length lo hi with
   | some (l,h)=>some (.str ((s.take h).drop l))
   | none=>none
  | _=>none
  else match x with
  | .isl t es=>match bnd es.length es.length lo hi with
   | some (l,h)=>(cut sz es l h).map (.isl t)
   | none=>none
  | .osl _ _ es=>match bnd es.length es.length lo hi with
   | some (l,h)=>if es.isEmpty then some .nils else (cut sz es l h).map (.isl false)
   | none=>none
  | .rsl id off n=>match m.H[id]? with
   | some (.arr es)=>match bnd n (es.length - off) lo hi with
    | some (l,h)=>if off+n≤es.length∧(l=0∨(es.headD []).length=sz) then some (.rsl id (off+l) (h - l)) else none
    | none=>none
   | _=>none
  | .nils=>match bnd 0 0 lo hi with
   | some _=>some .nils
   | none=>none
  | .emp=>match bnd 0 0 lo hi with
   | some _=>some .emp
   | none=>none
  | _=>none
 | some v=>if sz=0 then none else match hi with   -- three bounds: of use alone where nothing is left,or the piece isn't used
  | none=>none
  | some hv=>match slLen x with
   | none=>none
   | some n=>match asNat n v with
    | none=>none
    | some c=>match bnd c c lo (some hv) with
     | some _=>if c=0 then some (if isNil .slice x=some true then .nils else .emp) else some .undef
     | none=>none
def slcAV (n sz:Nat) (x:V) (lo hi mx:Option V):Option V:=
 match mx with
 | some _=>none
 | none=>match bnd n n lo hi with
  | none=>none
  | some (l,h)=>match x with
   | .ip t cs o=>if o+n * sz≤cs.length then some (.isl t (chunk sz (h - l) (cs.drop (o+l * sz)))) else none
   | .ptr id idx o=>some (.asl id idx (o+l * sz) (h - l) sz)
   | .lp j o=>some (.lsl j (o+l * sz) (h - l) sz)
   | _=>none
def srcV (m:Mem):V→Option (List (List V))
 | .isl _ es | .osl _ _ es | .els es=>some es
 | .nils | .emp=>some []
 | .rsl id off len=>match m.H[id]? with
  | some (.arr es)=>if off+len≤es.length then some ((es.drop off).take len) else none
  | _=>none
 | _=>none
def flatAll (es:List (List V)):Bool:=es.all fun e=>e.all V.flat
def immAll (es:List (List V)):Bool:=es.all fun e=>e.all V.imm
def szAll (sz:Nat) (es:List (List V)):Bool:=es.all fun e=>e.length == sz
def maxB:Nat:=140737488355328
def fits (bytes n:Nat):Bool:=decide (0<bytes) && decide (n * bytes≤maxB)
def appV (k sz bytes:Nat) (m:Mem) (x y:V):Option (V × Mem):=
 match srcV m y with
 | none=>none
 | some ns=>match x with
  | .osl h j es=>
   if fits bytes (es.length+ns.length) && immAll (es ++ ns) && szAll sz (es ++ ns) then
    if h then match m.H[j]? with
     | some (.tok n)=>if n=es.length then some (.osl true j (es ++ ns),{ m with H:=m.H.set j (.tok (es.length+ns.length)) }) else none
     | _=>none
    else match m.tk[j]? with
     | some n=>if n=es.length then some (.osl false j (es ++ ns),{ m with tk:=m.tk.set j (es.length+ns.length) }) else none
     | none=>none
   else none
  | .rsl id off len=>match m.H[id]? with
   | some (.arr es)=>
    if !(fits bytes (len+ns.length) && flatAll ns && szAll sz (es ++ ns)) then none
    else if off+len+ns.length≤es.length then
     some (.rsl id off (len+ns.length),{ m with H:=m.H.set id (.arr (es.take (off+len) ++ ns ++ es.drop (off+len+ns.length))) })
    else if off=0∧len=es.length∧0<len then
     some (.rsl m.H.length 0 (len+ns.length),{ m with H:=m.H.set id .dead ++ [.arr (es ++ ns)] })
    else none
   | _=>none
  | .nils | .emp=>
   if ns.isEmpty then some (x,m) else
   if !(fits bytes ns.length && szAll sz ns) then none else
   match k with
   | 0=>if flatAll ns then some (.rsl m.H.length 0 ns.length,{ m with H:=m.H ++ [.arr ns] }) else none
   | 2=>if immAll ns then some (.osl true m.H.length ns,{ m with H:=m.H ++ [.tok ns.length] }) else none
   | _=>none
  | _=>none
def appRV (j sz bytes:Nat) (m:Mem) (x y:V):Option (V × Mem):=
 match x,srcV m y with
 | .emp,some []=>if j<m.tk.length then some (.emp,{ m with tk:=m.tk.set j 0 }) else none
 | .nils,some ns | .emp,some ns=>
  if fits bytes ns.length && szAll sz ns && immAll ns && decide (j<m.tk.length) then
   some (.osl false j ns,{ m with tk:=m.tk.set j ns.length })
  else none
 | _,_=>none
def minV:V→V→Option V
 | .int k a,.int _ b=>some (.int k (if b<a then b else a))
 | _,_=>none
def maxV:V→V→Option V
 | .int k a,.int _ b=>some (.int k (if b > a then b else a))
 | _,_=>none
def foldV (f:V→V→Option V):V→List V→Option V
 | v,[]=>some v
 | v,w :: ws=>match f v w with
  | some x=>foldV f x ws
  | none=>none
def litParts (z:List (List V)):List (Nat × V)→Option (List (List V))
 | []=>some z
 | (i,v) :: ps=>match z[i]? with
  | some e=>if v.cells.length=e.length∧v.cells.all V.flat=true then litParts (z.set i v.cells) ps else none
  | none=>none
def keyEq:V→V→Option Bool
 | .int k a,.int k' b=>if k=k' then some (a == b) else none
 | _,_=>none
def V.isScV:V→Bool
 | .bool _ | .int .. | .flt _ | .str _=>true
 | _=>false
def V.isInt:V→Bool
 | .int ..=>true
 | _=>false
def keyAt (k:V):List (List V)→Nat→Option (Option Nat)
 | [],_=>some none
 | e :: es,i=>match e with
  | []=>none
  | q :: _=>match keyEq k q with
   | some true=>some (some i)
   | some false=>keyAt k es (i+1)
   | none=>none
def mapEs (m:Mem):V→Option (List (List V))
 | .nilm=>some []
 | .imap _ es=>some es
 | .map id=>match m.H[id]? with
  | some (.mp es)=>some es
  | _=>none
 | _=>none
def lookV (ok ag:Bool) (z:List V) (es:List (List V)) (k:V):Option V:=
 match keyAt k es 0 with
 | none=>none
 | some p=>match loadAt ag z.length (match p with
   | some i=>((es[i]?).getD []).drop 1
   | none=>z) 0 with
  | some v=>some (if ok then .tup [v,.bool p.isSome] else v)
  | none=>none
def litT (j:Nat) (es:List (List V)):V:=if es.isEmpty then .emp else .osl false j es
/-! ### what an operation comes to -/
section
variable (call:Md→Nat→List V→List Obj→Option (V × List Obj))
def lk (rs ss:List V):X→V
 | .r i=>rs.getD i .undef
 | .s i=>ss.getD i .undef
 | .c v=>v
def val (m:Mem):Option V→Option (V × Mem)
 | some v=>some (v,m)
 | none=>none
def callF (md:Md) (f:Nat) (m:Mem) (vs:List V):Option (V × Mem):=
 match md with
 | .val=>match omap (toImm ⟨[],[],[]⟩ false depth) vs with
  | some as=>match call .val f as [] with
   | some (r,_)=>some (r,m)
   | none=>none
  | none=>match omap (toImm m true depth) vs with
   | some as=>match call .val f as [] with
    | some (r,_)=>if clean depth r then some (r,m) else none
    | none=>none
   | none=>none
 | .heap=>match omap V.exp vs with
  | some as=>match call .heap f as m.H with
   | some (r,H)=>some (r,{ m with H:=H })
   | none=>none
  | none=>none
def evO (ρ:X→V) (m:Mem):O→Option (V × Mem)
 | .mv x=>some (ρ x,m)
 | .onil j=>if j<m.tk.length then some (.osl false j [],{ m with tk:=m.tk.set j 0 }) else none
 | .pick c a b=>match ρ c with
  | .bool t=>some (if t then ρ a else ρ b,m)
  | _=>none
 | .lalloc j z=>if j<m.vars.length then some (.lp j 0,{ m with vars:=m.vars.set j z }) else none
 | .lbox j n x=>match (ρ x).exp with
  | some v=>if j<m.vars.length∧v.cells.length=n then some (.lp j 0,{ m with vars:=m.vars.set j v.cells }) else none
  | none=>none
 | .halloc z=>some (.ptr m.H.length 0 0,{ m with H:=m.H ++ [.arr [z]] })
 | .hbox n x=>match (ρ x).exp with
  | some v=>if v.cells.length=n then some (.ptr m.H.length 0 0,{ m with H:=m.H ++ [.arr [v.cells]] }) else none
  | none=>none
 | .build z ps=>val m ((fill z (ps.map fun (o,n,x)=>(o,n,ρ x))).map .agg)
 | .lit k sz z ps=>match litParts z (ps.map fun (i,x)=>(i,ρ x)) with
  | none=>none
  | some es=>
   if !(es.all fun e=>e.length == sz) then none else
   if k ≥ 3 then (if immAll es && decide (k - 3<m.tk.length) then some (litT (k - 3) es,{ m with tk:=m.tk.set (k - 3) es.length }) else none) else
   if es.isEmpty then some (.emp,m) else
   match k with
   | 0=>if immAll es then some (.isl false es,m) else none
   | 1=>some (.els es,m)
   | _=>some (.rsl m.H.length 0 es.length,{ m with H:=m.H ++ [.arr es] })
 | .load sp ag n a=>if spOK sp (ρ a) then val m (evLoad ag n m (ρ a)) else none
 | .store sp n a x=>if spOK sp (ρ a) then match (ρ x).exp with
   | some v=>match evStore n m v (ρ a) with
    | some m'=>some (.undef,m')
    | none=>none
   | none=>none
  else none
 | .nilck x=>match ρ x with
  | .ptr a b c=>some (.ptr a b c,m)
  | .ip a b c=>some (.ip a b c,m)
  | .lp a b=>some (.lp a b,m)
  | .fn a b c=>some (.fn a b c,m)
  | _=>none
 | .bin o x y=>val m (binV o (ρ x) (ρ y))
 | .eqb ne x y=>match ρ x,ρ y with
  | .bool a,.bool b=>some (.bool (if ne then a != b else a == b),m)
  | _,_=>none
 | .eqn k ne x y=>match eqnV k (ρ x) (ρ y) with
  | some b=>some (.bool (if ne then !b else b),m)
  | none=>none
 | .eqa ne ks x y=>match ρ x,ρ y with
  | .agg a,.agg b=>match eqaV ks a b with
   | some b=>some (.bool (if ne then !b else b),m)
   | none=>none
  | _,_=>none
 | .un o x=>val m (unV o (ρ x))
 | .i2i k x=>match ρ x with
  | .int _ n=>some (.int k (k.wrap n),m)
  | _=>none
 | .i2f x=>match ρ x with
  | .int _ n=>some (.flt (FloatKind.f64.nearest n),m)
  | _=>none
 | .f2i k x=>match ρ x with
  | .flt b=>match (FloatKind.f64.decode b).toInt .zero with
   | some n=>if k.min≤n∧n≤k.max then some (.int k n,m) else none
   | none=>none
  | _=>none
 | .same x=>match ρ x with
  | .str s=>some (.str s,m)
  | _=>none
 | .prim k x=>val m (primV k (ρ x))
 | .bad=>none
 | .clr z x=>match ρ x with
  | .rsl id off len=>match m.H[id]? with
   | some (.arr es)=>if off+len≤es.length∧z.length=((es.headD []).length) then
     some (.tup [],{ m with H:=m.H.set id (.arr (es.take off ++ List.replicate len z ++ es.drop (off+len))) }) else none
   | _=>none
  | .nils | .emp=>some (.tup [],m)
  | _=>none
 | .off d x=>val m (offV d (ρ x))
 | .fld d ag n x=>match ρ x with
  | .agg cs=>val m (loadAt ag n cs d)
  | _=>none
 | .iaA len sz x i=>match asIx len (ρ i) with
  | some k=>val m (offV (k * sz) (ρ x))
  | none=>none
 | .iaS sz x i=>val m (iaSV sz m (ρ x) (ρ i))
 | .ixA len sz ag x i=>match asIx len (ρ i) with
  | some k=>match ρ x with
   | .agg cs=>val m (loadAt ag sz cs (k * sz))
   | _=>none
  | none=>none
 | .ixS x i=>match ρ x with
  | .str s=>match asIx s.length (ρ i) with
   | some k=>match s[k]? with
    | some b=>some (.int .u8 b.toNat,m)
    | none=>none
   | none=>none
  | _=>none
 | .mksl z bytes l c=>match ρ l,ρ c with
  | .int _ l,.int _ c=>
   if 0≤l∧l≤c∧c≤9223372036854775807∧(c.toNat * bytes)≤maxB then
    some (.rsl m.H.length 0 l.toNat,{ m with H:=m.H ++ [.arr (List.replicate l.toNat z)] })
   else none
  | _,_=>none
 | .mksv z bytes l c=>match ρ l,ρ c with
  | .int _ l,.int _ c=>
   if 0≤l∧l=c∧c≤9223372036854775807∧(c.toNat * bytes)≤maxB∧z.all V.imm=true then some (.isl false (List.replicate l.toNat z),m) else none
  | _,_=>none
 | .slc sz x lo hi mx=>val m (slcV sz m (ρ x) (lo.map ρ) (hi.map ρ) (mx.map ρ))
 | .slcA n sz x lo hi mx=>val m (slcAV n sz (ρ x) (lo.map ρ) (hi.map ρ) (mx.map ρ))
 | .ext x i=>match ρ x with
  | .tup vs=>val m vs[i]?
  | _=>none
 | .call md f xs=>callF call md f m (xs.map ρ)
 | .callv md x xs=>match ρ x with
  | .fn f fs cs=>callF call md f m (fs ++ xs.map ρ ++ cs)
  | _=>none
 | .app k sz bytes x y=>appV k sz bytes m (ρ x) (ρ y)
 | .appR j sz bytes x y=>appRV j sz bytes m (ρ x) (ρ y)
 | .len k x=>match k,ρ x with
  | 0,.str s=>some (.int .i64 s.length,m)
  | 2,.nilm=>some (.int .i64 0,m)
  | 2,.imap _ es=>some (.int .i64 es.length,m)
  | 2,.map id=>match m.H[id]? with
   | some (.mp es)=>some (.int .i64 es.length,m)
   | _=>none
  | 1,v=>match lenV v with
   | some n=>some (.int .i64 n,m)
   | none=>none
  | _,_=>none
 | .cpy _ _=>none
 | .min xs=>match xs.map ρ with
  | v :: vs=>val m (foldV minV v vs)
  | []=>none
 | .max xs=>match xs.map ρ with
  | v :: vs=>val m (foldV maxV v vs)
  | []=>none
 | .mkfn f fs cs=>match omap V.exp (fs.map ρ) with
  | some a=>match omap V.exp (cs.map ρ) with
   | some b=>some (.fn f a b,m)
   | none=>none
  | none=>none
 | .mkif t x=>match (ρ x).exp with
  | some v=>some (.iface t v,m)
  | none=>none
 | .mkmap=>some (.map m.H.length,{ m with H:=m.H ++ [.mp []] })
 | .look ok ag z mp k=>match mapEs m (ρ mp) with
  | none=>none
  | some es=>if (ρ k).isInt=true then val m (lookV ok ag z es (ρ k)) else none
 | .mput mp k v=>match ρ mp with
  | .map id=>match m.H[id]? with
   | some (.mp es)=>if (ρ k).isInt=true∧(ρ v).isScV=true then match keyAt (ρ k) es 0 with
    | some (some i)=>some (.undef,{ m with H:=m.H.set id (.mp (es.set i [ρ k,ρ v])) })
    | some none=>some (.undef,{ m with H:=m.H.set id (.mp (es ++ [[ρ k,ρ v]])) })
    | none=>none
    else none
   | _=>none
  | _=>none
 | .mdel mp k=>match ρ mp with
  | .map id=>match m.H[id]? with
   | some (.mp es)=>if (ρ k).isInt=true then match keyAt (ρ k) es 0 with
    | some (some i)=>some (.tup [],{ m with H:=m.H.set id (.mp (es.eraseIdx i)) })
    | some none=>some (.tup [],m)
    | none=>none
    else none
   | _=>none
  | _=>none
/-! ### what operations touch -/
inductive Tc where
 | no | rd | ra (j:Nat) | wr | at (j:Nat) | new
 deriving Inhabited,Repr,DecidableEq
def Tc.comm:Tc→Tc→Bool
 | .no,_ | _,.no=>true
 | .rd,.rd | .rd,.ra _ | .ra _,.rd | .ra _,.ra _=>true
 | .ra i,.at j | .at i,.ra j | .at i,.at j=>!(i == j)
 | .ra _,.new | .new,.ra _ | .at _,.new | .new,.at _=>true
 | _,_=>false
structure Fp where
 v:Tc
 t:Tc
 h:Tc
 deriving Inhabited,Repr
def Fp.comm (a b:Fp):Bool:=a.v.comm b.v && a.t.comm b.t && a.h.comm b.h
def Fp.no:Fp:=⟨.no,.no,.no⟩
def Fp.hr (L id:Nat):Fp:=if id<L then ⟨.no,.no,.ra id⟩ else ⟨.no,.no,.wr⟩
def Fp.hw (L id:Nat):Fp:=if id<L then ⟨.no,.no,.at id⟩ else ⟨.no,.no,.wr⟩
def fpL (L:Nat):V→Fp
 | .lp j _=>⟨.ra j,.no,.no⟩
 | .ptr id _ _=>.hr L id
 | _=>.no
def fpS (L:Nat):V→Fp
 | .lp j _=>⟨.at j,.no,.no⟩
 | .ptr id _ _=>.hw L id
 | _=>.no
def fpC (md:Md) (vs:List V):Fp:=
 match md with
 | .val=>match omap (toImm ⟨[],[],[]⟩ false depth) vs with
  | some _=>.no
  | none=>⟨.rd,.no,.rd⟩
 | .heap=>⟨.no,.no,.wr⟩
def fpO (L:Nat) (ρ:X→V):O→Fp
 | .onil j=>⟨.no,.at j,.no⟩
 | .lalloc j _ | .lbox j _ _=>⟨.at j,.no,.no⟩
 | .halloc _ | .hbox _ _ | .mksl .. | .mkmap=>⟨.no,.no,.new⟩
 | .clr .. | .mput .. | .mdel ..=>⟨.no,.no,.wr⟩
 | .lit k _ _ _=>if k ≥ 3 then ⟨.no,.at (k - 3),.no⟩ else if k=2 then ⟨.no,.no,.wr⟩ else .no
 | .load _ _ _ a=>fpL L (ρ a)
 | .store _ _ a _=>fpS L (ρ a)
 | .iaS _ x _ | .slc _ x _ _ _=>match ρ x with
  | .rsl id _ _=>.hr L id
  | _=>.no
 | .len _ x=>match ρ x with
  | .map id=>.hr L id
  | _=>.no
 | .call md _ xs=>fpC md (xs.map ρ)
 | .callv md x xs=>match ρ x with
  | .fn _ fs cs=>fpC md (fs ++ xs.map ρ ++ cs)
  | _=>.no
 | .app _ _ _ x y=>match ρ x,ρ y with
  | .osl false j _,_=>⟨.no,.at j,.rd⟩
  | .osl true j _,.isl .. | .osl true j _,.els _=>.hw L j
  | .nils,.isl _ (_ :: _) | .nils,.els (_ :: _) | .emp,.isl _ (_ :: _) | .emp,.els (_ :: _)=>⟨.no,.no,.new⟩
  | _,_=>⟨.no,.no,.wr⟩
 | .appR j _ _ _ _=>⟨.no,.at j,.rd⟩
 | .look ..=>⟨.no,.no,.rd⟩
 | _=>.no
def touchy:O→Bool
 | .onil .. | .lalloc .. | .lbox .. | .halloc .. | .hbox .. | .mksl .. | .mkmap | .clr .. | .mput .. | .mdel .. | .load .. | .store .. | .iaS .. | .slc .. | .len .. | .call .. | .callv .. | .app .. | .appR .. | .look ..=>true
 | .lit k _ _ _=>decide (k ≥ 2)
 | _=>false
def resets:O→Option (Bool × Nat)
 | .onil j | .appR j _ _ _ _=>some (false,j)
 | .lalloc j _ | .lbox j _ _=>some (true,j)
 | .lit k _ _ _=>if k ≥ 3 then some (false,k - 3) else none
 | _=>none
def oX:Option X→List X
 | some x=>[x]
 | none=>[]
def xsO:O→List X
 | .mv x | .lbox _ _ x | .hbox _ x | .load _ _ _ x | .nilck x | .un _ x | .i2i _ x | .i2f x | .f2i _ x | .same x | .prim _ x | .clr _ x | .off _ x | .fld _ _ _ x | .ext x _ | .len _ x | .mkif _ x=>[x]
 | .pick a b c=>[a,b,c]
 | .build _ ps=>ps.map fun (_,_,x)=>x
 | .lit _ _ _ ps=>ps.map fun (_,x)=>x
 | .store _ _ x y | .bin _ x y | .eqb _ x y | .eqn _ _ x y | .eqa _ _ x y | .iaA _ _ x y | .iaS _ x y | .ixA _ _ _ x y | .ixS x y | .mksl _ _ x y | .mksv _ _ x y | .app _ _ _ x y | .appR _ _ _ x y | .cpy x y | .mdel x y | .look _ _ _ x y=>[x,y]
 | .slc _ x a b c | .slcA _ _ x a b c=>x :: (oX a ++ oX b ++ oX c)
 | .call _ _ xs | .min xs | .max xs=>xs
 | .callv _ x xs=>x :: xs
 | .mkfn _ a b=>a ++ b
 | .mput x y z=>[x,y,z]
 | .onil _ | .lalloc .. | .halloc _ | .bad | .mkmap=>[]
/-! ### code -/
def wants (rs:List V):Option (Nat × Bool)→Option Bool
 | none=>some true
 | some (j,b)=>match rs[j]? with
  | some (.bool c)=>some (c == b)
  | some .skp=>some false
  | _=>none
def evOps (ss:List V):List Op→List V→Mem→Option (List V × Mem)
 | [],rs,m=>some (rs,m)
 | p :: ps,rs,m=>match wants rs p.g with
  | none=>none
  | some false=>evOps ss ps (rs ++ [.skp]) m
  | some true=>match evO call (lk rs ss) m p.o with
   | some (v,m')=>evOps ss ps (rs ++ [v]) m'
   | none=>none
def slotV (keep:Option Nat):V→Option V
 | .osl false j es=>if keep=some (2 * j) then some (.osl false j es) else some (ils es)
 | .lp j o=>if keep=some (2 * j+1)∧o=0 then some (.lp j 0) else none
 | .lsl .. | .els _=>none
 | v=>some v
def evOuts (rs:List V):List (Nat × Nat × Option Nat)→List V→Option (List V)
 | [],ss=>some ss
 | (s,i,keep) :: os,ss=>match slotV keep (rs.getD i .undef) with
  | some v=>evOuts rs os (ss.set s v)
  | none=>none
def killV (kl:List (Bool × Nat)) (v:V):V:=
 match v.loc with
 | some q=>if kl.contains q then .undef else v
 | none=>v
def killS:List (Bool × Nat)→List V→List V
 | [],ss=>ss
 | kl,ss=>ss.map (killV kl)
def apart (L:Nat) (ops:List Op) (ρ:X→V) (p:Nat × Nat):Bool:=
 match ops[p.1]?,ops[p.2]? with
 | some a,some b=>(fpO L ρ a.o).comm (fpO L ρ b.o)
 | _,_=>false
def evReg (ops:List Op) (kl:List (Bool × Nat)) (prs:List (Nat × Nat)) (outs:List (Nat × Nat × Option Nat)) (st:St):Option St:=
 match evOps call (killS kl st.s) ops [] st.m with
 | none=>none
 | some (rs,m)=>if prs.all (apart st.m.H.length ops (lk rs (killS kl st.s))) then match evOuts rs outs (killS kl st.s) with
  | none=>none
  | some ss=>some ⟨ss,m⟩
  else none
def undS:List Nat→List V→List V
 | [],s=>s
 | i :: is,s=>undS is (s.set i .undef)
def emptyM:List (Bool × Nat)→Mem→Mem
 | [],m=>m
 | (true,j) :: kl,m=>emptyM kl { m with vars:=m.vars.set j [] }
 | (false,j) :: kl,m=>emptyM kl { m with tk:=m.tk.set j 0 }
def evLoop (f:St→Option (Ex × St)):Nat→St→Option (Ex × St)
 | 0,_=>none
 | n+1,st=>match f st with
  | some (.nrm,st')=>evLoop f n st'
  | r=>r
def evC (n:Nat):C→St→Option (Ex × St)
 | .skip,st=>some (.nrm,st)
 | .reg ops kl prs outs,st=>match evReg call ops kl prs outs st with
  | some st'=>some (.nrm,st')
  | none=>none
 | .seq a b,st=>match evC n a st with
  | some (.nrm,st')=>evC n b st'
  | r=>r
 | .cond x a b,st=>match lk [] st.s x with
  | .bool true=>evC n a st
  | .bool false=>evC n b st
  | _=>none
 | .block id c,st=>match evC n c st with
  | some (.exit j,st')=>if j=id then some (.nrm,st') else some (.exit j,st')
  | r=>r
 | .loop c,st=>evLoop (evC n c) n st
 | .exit id,st=>some (.exit id,st)
 | .ret,st=>some (.ret,st)
 | .drop ss kl,st=>some (.nrm,⟨undS ss st.s,emptyM kl st.m⟩)
end
def resV (st:St):List RV→Option (List V)
 | []=>some []
 | r :: rs=>match (match r with
   | .slot s=>some (st.s.getD s .undef)
   | .cell s ag n=>evLoad ag n st.m (st.s.getD s .undef)) with
  | none=>none
  | some v=>match resV st rs with
   | some vs=>some (v :: vs)
   | none=>none
def one:List V→V
 | [v]=>v
 | vs=>.tup vs
def fin (md:Md) (st:St) (rs:List RV):Option (V × List Obj):=
 match resV st rs with
 | none=>none
 | some vs=>match md with
  | .heap=>match omap V.exp vs with
   | some ws=>some (one ws,st.m.H)
   | none=>none
  | _=>match omap (toImm st.m false depth) vs with
   | some ws=>some (one ws,[])
   | none=>none
def ini (fn:Fn) (args:List V) (H:List Obj):St:=
 ⟨fn.slots.map fun t=>args.getD t .undef,⟨List.replicate fn.nv [],List.replicate fn.nt 0,H⟩⟩
def evF (p:Pg):Nat→Md→Nat→List V→List Obj→Option (V × List Obj)
 | 0,_,_,_,_=>none
 | k+1,md,f,args,H=>match p.ext f args with
  | some v=>some (v,H)
  | none=>match p.fn f with
   | none=>none
   | some fn=>match evC (evF p k) k fn.body (ini fn args H) with
    | some (.exit _,_)=>none
    | some (_,st)=>fin md st fn.res
    | none=>none
end Go.Vm
namespace Go.Vm
def cv0:Value→Option V
 | .bool b=>some (.bool b)
 | .int k n=>some (.int k n)
 | .float .f64 b=>some (.flt b)
 | .string ⟨⟨s⟩⟩=>some (.str s)
 | .pointer none=>some .nilp
 | .slice none 0 0=>some .nils
 | .map none=>some .nilm
 | .nilFunc=>some .nilf
 | .nilIface=>some .nili
 | _=>none
def cvL:List Value→Option (List V)
 | []=>some []
 | v :: vs=>match cv0 v with
  | none=>none
  | some w=>match cvL vs with
   | none=>none
   | some ws=>some (w :: ws)
def cvV:Value→Option V
 | .agg ⟨l⟩=>(cvL l).map .agg
 | v=>cv0 v
inductive Tg where
 | enter (f:Nat)
 | prim (k:PK)
 deriving Inhabited,Repr,DecidableEq
structure Hint where
 slots:List Nat
 vars:List Nat
 toks:List Nat
 opc:List (List Nat)
 dead:List (List Nat × List (Bool × Nat))
 gl:List (Nat × List V):=[]
 deriving Inhabited,Repr
def lastIx (t:Nat):List (Option Nat)→Nat→Option Nat
 | [],_=>none
 | d :: ds,i=>match lastIx t ds (i+1) with
  | some j=>some j
  | none=>if d=some t then some i else none
def posIn (t:Nat):List Nat→Nat→Option Nat
 | [],_=>none
 | u :: us,i=>if u=t then some i else posIn t us (i+1)
section
variable (P:Program) (tg:Nat→Option Tg) (h:Hint)
def und (t:TypeId):Option TypeDesc:=P.underlying t
def szOf (t:TypeId):Option Nat:=(P.info? t).map (·.size)
def bytesT (t:TypeId):Option Nat:=(P.info? t).map (·.bytes)
def aggT (t:TypeId):Option Bool:=(und P t).map fun
 | .struct _ | .array _ _=>true
 | _=>false
def zeroT (t:TypeId):Option (List V):=match P.info? t with
 | some i=>match i.zero with
  | some v=>match cvV v with
   | some w=>some w.cells
   | none=>none
  | none=>none
 | none=>none
def cX (ds:List (Option Nat)):Operand→Option X
 | .tmp t=>match lastIx t ds 0 with
  | some i=>some (.r i)
  | none=>match posIn t h.slots 0 with
   | some s=>some (.s s)
   | none=>none
 | .const v=>match cvV v with
  | some w=>some (.c w)
  | none=>none
 | .func f=>some (.c (.fn f [] []))
 | .global g=>match h.gl.find? (fun q=>q.1 == g) with
  | some q=>some (.c (.ip false q.2 0))
  | none=>none
def cXs (ds:List (Option Nat)):List Operand→Option (List X)
 | []=>some []
 | o :: os=>match cX h ds o with
  | none=>none
  | some x=>match cXs ds os with
   | none=>none
   | some xs=>some (x :: xs)
def cXo (ds:List (Option Nat)):Option Operand→Option (Option X)
 | none=>some none
 | some o=>(cX h ds o).map some
def isNilSlice:Operand→Bool
 | .const (.slice none 0 0)=>true
 | _=>false
def cksF (ck:TypeId→Option (List CK)):Nat→List Field→Option (List CK)
 | _,[]=>some []
 | off,f :: fs=>match ck f.type with
  | none=>none
  | some c=>match cksF ck (off+c.length) fs with
   | none=>none
   | some r => if f.name ≠ "_" ∧ f.offset = off ∧ szOf P f.type = some c.length ∧ (aggT P f.type).isSome then some (c ++ r) else none
def cksT:Nat→TypeId→Option (List CK)
 | 0,_=>none
 | d+1,t=>match und P t with
  | some .bool=>some [.bool]
  | some (.int _)=>some [.int]
  | some (.float .f64)=>some [.flt]
  | some .string=>some [.str]
  | some (.struct fs)=>if P.stoodInHeld t then none else cksF P (cksT d) 0 fs.toList
  | some (.array n e)=>match cksT d e with
   | some c=>if szOf P e=some c.length∧(aggT P e).isSome then some (List.replicate n c).flatten else none
   | none=>none
  | _=>none
def cParts (ds:List (Option Nat)) (place:Nat→Option (Nat × Nat)):List (Nat × Operand)→Option (List (Nat × Nat × X))
 | []=>some []
 | (i,o) :: ps=>match place i,cX h ds o,cParts ds place ps with
  | some (a,n),some x,some r=>some ((a,n,x) :: r)
  | _,_,_=>none
def cLit (ds:List (Option Nat)):List (Nat × Operand)→Option (List (Nat × X))
 | []=>some []
 | (i,o) :: ps=>match cX h ds o,cLit ds ps with
  | some x,some r=>some ((i,x) :: r)
  | _,_=>none
def mdOf:Nat→Md
 | 0=>.val
 | _=>.heap
def slEl (t:TypeId):Option TypeId:=match und P t with
 | some (.slice e)=>some e
 | _=>none
def mapT (t:TypeId):Option TypeId:=match und P t with
 | some (.map k e)=>match und P k with
  | some (.int _)=>some e
  | _=>none
 | _=>none
def mapZ (t:TypeId):Option V:=match P.info? t with
 | some i=>match i.zero with
  | some (.int k n)=>some (.int k n)
  | some (.bool b)=>some (.bool b)
  | _=>none
 | none=>none
def fieldT (t:TypeId) (i:Nat):Option (Nat × TypeId):=match und P t with
 | some (.struct fs)=>match fs.toList[i]? with
  | some f=>some (f.offset,f.type)
  | none=>none
 | _=>none
def cOp (ds:List (Option Nat)) (c:Nat) (o:Oper):Option O:=
 match o.op with
 | .move x | .assign x=>if c > 0 && isNilSlice x then some (.onil (c - 1)) else (cX h ds x).map .mv
 | .pick x a b=>do some (.pick (← cX h ds x) (← cX h ds a) (← cX h ds b))
 | .alloc e=>do
  let z ← zeroT P e
  some (if c > 0 then .lalloc (c - 1) z else .halloc z)
 | .box e x=>do
  let n ← szOf P e
  let x ← cX h ds x
  some (if c > 0 then .lbox (c - 1) n x else .hbox n x)
 | .build t ps=>do
  let z ← zeroT P t
  match ← und P t with
  | .struct fs=>if !(fs.toList.all fun f=>(szOf P f.type).isSome) then none else do
   let ps ← cParts h ds (fun i=>match fs.toList[i]? with
    | some f=>(szOf P f.type).map fun n=>(f.offset,n)
    | none=>none) ps.toList
   some (.build z ps)
  | .array _ e=>do
   let n ← szOf P e
   let ps ← cParts h ds (fun i=>some (i * n,n)) ps.toList
   some (.build z ps)
  | _=>none
 | .buildSlice t len ps=>do
  let e ← slEl P t
  let n ← szOf P e
  let z ← zeroT P e
  if n=0∨len * n > 16777216∨z.length≠n then none else
  let ps ← cLit h ds ps.toList
  some (.lit c n (List.replicate len z) ps)
 | .load t a=>do some (.load c (← aggT P t) (← szOf P t) (← cX h ds a))
 | .store t a x=>do some (.store c (← szOf P t) (← cX h ds a) (← cX h ds x))
 | .nilCheck x=>do some (.nilck (← cX h ds x))
 | .binOp b t x y _=>do
  let x ← cX h ds x
  let y ← cX h ds y
  match b with
  | .eql | .neq=>
   let ne:=match b with | .neq=>true | _=>false
   match ← und P t with
   | .int _ | .float _ | .string=>some (.bin b x y)
   | .bool=>some (.eqb ne x y)
   | .pointer _=>some (.eqn .ptr ne x y)
   | .slice _=>some (.eqn .slice ne x y)
   | .map ..=>some (.eqn .map ne x y)
   | .func ..=>some (.eqn .func ne x y)
   | .struct _ | .array _ _=>if P.eqGuardType P.depth t then none else (cksT P 8 t).map fun ks=>.eqa ne ks x y
   | _=>none
  | _=>some (.bin b x y)
 | .unOp u _ x=>do some (.un u (← cX h ds x))
 | .convert s t x=>do
  let x ← cX h ds x
  match ← und P s,← und P t with
  | .int _,.int k=>some (.i2i k x)
  | .int _,.float .f64=>some (.i2f x)
  | .float .f64,.int k=>some (.f2i k x)
  | .string,.string=>some (.same x)
  | _,_=>none
 | .makeInterface t x=>do
  match ← und P t with
  | .interface _=>none
  | _=>some (.mkif t (← cX h ds x))
 | .makeFunc (.func f) a b=>do some (.mkfn f (← cXs h ds a.toList) (← cXs h ds b.toList))
 | .makeSlice t l cp=>do
  let e ← slEl P t
  let n ← szOf P e
  let z ← zeroT P e
  if n=0∨z.length≠n then none else
  let by_ ← bytesT P e
  let l ← cX h ds l
  let cp ← cX h ds cp
  some (if c=0 then .mksl z by_ l cp else .mksv z by_ l cp)
 | .makeMap _ none=>some .mkmap
 | .lookup t x k ok=>do
  let e ← mapT P t
  let z ← mapZ P e
  let x ← cX h ds x
  let k ← cX h ds k
  some (.look ok false [z] x k)
 | .mapUpdate t x k y=>do
  let _ ← mapT P t
  let x ← cX h ds x
  let k ← cX h ds k
  let y ← cX h ds y
  some (.mput x k y)
 | .slice t x lo hi mx=>do
  let x ← cX h ds x
  let lo ← cXo h ds lo
  let hi ← cXo h ds hi
  let mx ← cXo h ds mx
  match ← und P t with
  | .string=>some (.slc 0 x lo hi mx)
  | .slice e=>do
   let z ← szOf P e
   if z=0 then none else some (.slc z x lo hi mx)
  | .array n e=>do
   let z ← szOf P e
   if z=0 then none else some (.slcA n z x lo hi mx)
  | _=>none
 | .fieldAddr t x i=>do
  let (d,ft) ← fieldT P t i
  let n ← szOf P ft
  if n=0 then none else some (.off d (← cX h ds x))
 | .field t x i=>do
  let (d,ft) ← fieldT P t i
  some (.fld d (← aggT P ft) (← szOf P ft) (← cX h ds x))
 | .indexAddr t x i=>do
  let x ← cX h ds x
  let i ← cX h ds i
  match ← und P t with
  | .array n e=>do some (.iaA n (← szOf P e) x i)
  | .slice e=>do some (.iaS (← szOf P e) x i)
  | _=>none
 | .index t x i=>do
  let x ← cX h ds x
  let i ← cX h ds i
  match ← und P t with
  | .array n e=>do some (.ixA n (← szOf P e) (← aggT P e) x i)
  | .string=>some (.ixS x i)
  | _=>none
 | .extract x i=>do some (.ext (← cX h ds x) i)
 | .call cl=>do
  let xs ← cXs h ds cl.args.toList
  match cl.callee with
  | .value (.func f)=>do
   match ← tg f with
   | .enter j=>some (.call (mdOf c) j xs)
   | .prim k=>match xs with | [x]=>some (.prim k x) | _=>none
  | .value x=>do some (.callv (mdOf c) (← cX h ds x) xs)
  | .builtin b=>
   match b,xs with
   | .len,[x]=>do
    match ← und P (← cl.argTypes[0]?) with
    | .array n _=>some (.mv (.c (.int .i64 n)))
    | .string=>some (.len 0 x)
    | .slice _=>some (.len 1 x)
    | .map _ _=>some (.len 2 x)
    | _=>none
   | .append,[x,y]=>do
    let e ← slEl P (← cl.argTypes[0]?)
    let n ← szOf P e
    let z ← zeroT P e
    if n=0∨z.length≠n then none else
    match und P (← cl.argTypes[1]?) with
    | some (.int _) | none=>none
    | _=>
     let by_ ← bytesT P e
     if c<3 then some (.app c n by_ x y) else some (.appR (c - 3) n by_ x y)
   | .min,xs=>some (.min xs)
   | .max,xs=>some (.max xs)
   | .delete,[x,k]=>do
    let _ ← mapT P (← cl.argTypes[0]?)
    some (.mdel x k)
   | .clear,[x]=>do
    let e ← slEl P (← cl.argTypes[0]?)
    some (.clr (← zeroT P e) x)
   | _,_=>none
  | _=>none
 | _=>none
def cGuard (ds:List (Option Nat)):Option (Nat × Bool)→Bool
 | none=>true
 | some (g,_)=>match ds[g]? with
  | some (some t)=>lastIx t ds 0 == some g
  | _=>false
def cOps (codes:List Nat):List Oper→Nat→List (Option Nat)→Option (List Op)
 | [],_,_=>some []
 | o :: os,i,ds=>match cOps codes os (i+1) (ds ++ [o.dst]) with
  | none=>none
  | some r=>some ((if cGuard ds o.guard then ⟨(cOp P tg h ds (codes.getD i 0) o).getD .bad,o.guard⟩ else ⟨.bad,none⟩) :: r)
def befL:List Oper→List Nat→List Nat
 | [],acc=>acc
 | o :: os,acc=>befL os (acc ++ [o.after.toList.foldl (fun s e=>if Region.binds .any e then s ||| 2 ^ e.on ||| acc.getD e.on 0 else s) 0])
def namesO (ds:List (Option Nat)) (i:Nat) (p:Op):List Nat:=
 (ds.getD i none).toList ++ (xsO p.o).filterMap (fun x=>match x with
  | .r j=>ds.getD j none
  | .s s=>h.slots[s]?
  | .c _=>none) ++ (match p.g with
  | some (g,_)=>(ds.getD g none).toList
  | none=>[])
def refsO (p:Op):List Nat:=
 (xsO p.o).filterMap (fun x=>match x with
  | .r j=>some j
  | _=>none) ++ (match p.g with
  | some (g,_)=>[g]
  | none=>[])
def regOK (ops:List Oper) (ds:List (Option Nat)) (b:List Nat) (ps:List Op):Bool:=
 (ops.zipIdx.all fun (o,i)=>o.after.all fun e=>!Region.binds .any e || decide (e.on<i)) &&
 ps.zipIdx.all fun (p,j)=>
  ((refsO p).all fun i=>decide (i<j) && (b.getD j 0).testBit i) &&
  (namesO h ds j p).all fun t=>ds.zipIdx.all fun (d,i)=>d != some t || i == j || (b.getD (max i j) 0).testBit (min i j)
def noR:X→Bool
 | .r _=>false
 | _=>true
def twoNew (b:List Nat):List Op→Bool
 | ⟨.mksl _ _ l c,none⟩ :: ⟨.mksl _ _ l' c',none⟩ :: ps=>noR l && noR c && noR l' && noR c' && (List.range' 2 ps.length).all fun i=>(b.getD i 0).testBit 0
 | _=>false
def prsO (b:List Nat) (ps:List Op):List (Nat × Nat):=
 ((ps.zipIdx.filter fun (p,_)=>touchy p.o).flatMap fun (_,i)=>(ps.zipIdx.filter fun (p,_)=>touchy p.o).filterMap fun (_,j)=>
  if i<j && !(b.getD j 0).testBit i && !(i == 0 && j == 1 && twoNew b ps) then some (i,j) else none)
def V.cst1:V→Bool
 | .bool _ | .int .. | .flt _ | .str _ | .nilp | .nils | .nilm | .nilf | .nili=>true
 | _=>false
def V.cst:V→Bool
 | .agg cs=>cs.all V.cst1
 | .fn _ [] []=>true
 | v=>v.cst1
def intsEq:List V→List V→Bool
 | [],[]=>true
 | .int k n :: vs,.int k' n' :: ws=>decide (k=k') && n == n' && intsEq vs ws
 | _,_=>false
def V.isGl (gl:List (Nat × List V)):V→Bool
 | .ip false cs 0=>gl.any fun q=>intsEq cs q.2
 | _=>false
def ckOps (ps:List Op):Bool:=
 ps.zipIdx.all fun (p,i)=>((refsO p).all fun j=>decide (j<i)) && ((xsO p.o).all fun x=>match x with
  | .c v=>v.cst || v.isGl h.gl
  | _=>true) && (match p.o with
  | .look _ _ z _ _=>z.all V.flat
  | _=>true)
def dupFree:List (Bool × Nat)→Bool
 | []=>true
 | q :: qs=>!qs.contains q && dupFree qs
def keepT (t:Nat):Option Nat:=match posIn t h.toks 0 with
 | some j=>some (2 * j)
 | none=>match posIn t h.vars 0 with
  | some j=>some (2 * j+1)
  | none=>none
def cOuts (ds:List (Option Nat)):List Nat→Nat→List (Nat × Nat × Option Nat)
 | [],_=>[]
 | t :: ts,s=>match lastIx t ds 0 with
  | some i=>(s,i,keepT h t) :: cOuts ds ts (s+1)
  | none=>cOuts ds ts (s+1)
def dropOK (ss:List Nat) (kl:List (Bool × Nat)):Bool:=
 kl.all fun q=>(h.slots.zipIdx).all fun (t,s)=>keepT h t != some (2 * q.2+if q.1 then 1 else 0) || ss.contains s
def withDrop (id:Nat) (c:C):Option C:=match h.dead[id]? with
 | none | some ([],[])=>some c
 | some (ss,kl)=>if dropOK h ss kl then some (.seq c (.drop ss kl)) else none
def cC (nt:Nat):Code→Option C
 | .skip=>some .skip
 | .region id ops dr=>match cOps P tg h ((h.opc[id]?).getD []) ops.toList 0 [] with
  | some r=>
   let ds:=ops.toList.map (·.dst)
   let kl:=r.filterMap fun p=>resets p.o
   let b:=befL ops.toList []
   if ckOps h r && dupFree kl && (ds.all fun d=>match d with | some t=>decide (t<nt) | none=>true) && (!dr || regOK h ops.toList ds b r) then
    withDrop h id (.reg r kl (if dr then prsO b r else []) (cOuts h ds h.slots 0))
   else none
  | none=>none
 | .seq a b=>match cC nt a with
  | none=>none
  | some x=>match cC nt b with
   | none=>none
   | some y=>match x,y with
    | .skip,y=>some y
    | x,.skip=>some x
    | x,y=>some (.seq x y)
 | .cond c a b=>match cX h [] c with
  | none=>none
  | some x=>match cC nt a with
   | none=>none
   | some a=>match cC nt b with
    | none=>none
    | some b=>some (.cond x a b)
 | .block id c=>(cC nt c).map (.block id)
 | .loop c=>(cC nt c).map .loop
 | .exit id=>some (.exit id)
 | .scope c=>cC nt c
 | .label _=>some .skip
 | .ret=>some .ret
 | _=>none
def cRes:List ResultVar→Option (List RV)
 | []=>some []
 | r :: rs=>match cRes rs with
  | none=>none
  | some q=>match r with
   | .tmp t=>match posIn t h.slots 0 with
    | some s=>some (.slot s :: q)
    | none=>none
   | .cell a t=>match posIn a h.slots 0,aggT P t,szOf P t with
    | some s,some ag,some n=>some (.cell s ag n :: q)
    | _,_,_=>none
def cFn (fn:Func):Option Fn:=
 if fn.name == "runtime.NumGoroutine" then none else
 match fn.body with
 | none=>none
 | some b=>match cC P tg h fn.ntmps b with
  | none=>none
  | some c=>match cRes P h fn.results.toList with
   | none=>none
   | some r=>some ⟨h.slots,h.vars.length,h.toks.length,r,c⟩
end
end Go.Vm
namespace Go.Vm
structure Gh where
 E:Bool→Nat→Nat→Prop
 vb:Nat→Option Nat
 ob:Bool→Nat→Option (Nat × Nat × Nat)
 ha:Nat→Option (Nat × Nat × Nat)
 T:Bool→Nat→Option Nat
def OwnS (G:Gh) (h:Bool) (j:Nat) (es:List (List V)) (x:Value):Prop:=
 match G.ob h j with
 | none=>es=[]∧x=.slice none 0 0
 | some (b,c,s)=>x=.slice (some ⟨b,0,none⟩) es.length c∧(∀ e∈es,e.length=s)∧es≠[]
inductive VR (G:Gh) (w:World):Nat→V→Value→Prop
 | undef (r:Nat) (x:Value):VR G w r .undef x
 | skp (r:Nat):VR G w r .skp undef
 | bool (r:Nat) (b:Bool):VR G w r (.bool b) (.bool b)
 | int (r:Nat) (k:IntKind) (n:Int):VR G w r (.int k n) (.int k n)
 | flt (r:Nat) (b:Nat):VR G w r (.flt b) (.float .f64 b)
 | str (r:Nat) (l:List UInt8):VR G w r (.str l) (.string ⟨l.toArray⟩)
 | nilp (r:Nat):VR G w r .nilp (.pointer none)
 | nils (r:Nat):VR G w r .nils (.slice none 0 0)
 | nilm (r:Nat):VR G w r .nilm (.map none)
 | nilf (r:Nat):VR G w r .nilf .nilFunc
 | nili (r:Nat):VR G w r .nili .nilIface
 | emp (r:Nat) (a:Addr):VR G w r .emp (.slice (some a) 0 0)
 | isl0 (r:Nat) (t:Bool) (a:Addr) (c:Nat):VR G w r (.isl t []) (.slice (some a) 0 c)
 | isl (r:Nat) (t:Bool) (es:List (List V)) (b o sz c:Nat) (x:Nat→Nat→Value) (hne:es≠[]) (hc:es.length≤c)
   (hsz:∀ e∈es,e.length=sz) (hf:∀ e∈es,∀ v∈e,v.flat=true)
   (hx:∀ i j,i<es.length→j<sz→G.E t b (o+i * sz+j)∧w.cell? ⟨b,o+i * sz+j,none⟩=some (x i j))
   (hv:∀ i j e v,es[i]?=some e→e[j]?=some v→VR G w 0 v (x i j)):VR G w r (.isl t es) (.slice (some ⟨b,o,none⟩) es.length c)
 | els (r:Nat) (es:List (List V)) (b sz:Nat) (x:Nat→Nat→Value) (hr:2≤r) (hne:es≠[])
   (hsz:∀ e∈es,e.length=sz) (hf:∀ e∈es,∀ v∈e,v.flat=true)
   (hx:∀ i j,i<es.length→j<sz→G.E false b (0+i * sz+j)∧w.cell? ⟨b,0+i * sz+j,none⟩=some (x i j))
   (hv:∀ i j e v,es[i]?=some e→e[j]?=some v→VR G w 1 v (x i j)):VR G w r (.els es) (.slice (some ⟨b,0,none⟩) es.length es.length)
 | ip (r:Nat) (t:Bool) (cs:List V) (off b o:Nat) (x:Nat→Value) (hf:∀ v∈cs,v.flat=true)
   (hx:∀ j,j<cs.length→G.E t b (o+j)∧w.cell? ⟨b,o+j,none⟩=some (x j))
   (hv:∀ j v,cs[j]?=some v→VR G w 0 v (x j)):VR G w r (.ip t cs off) (.pointer (some ⟨b,o+off,none⟩))
 | osl (r:Nat) (h:Bool) (j:Nat) (es:List (List V)) (x:Value) (n:Nat) (hr:(if h then 1 else 2)≤r) (hi:VR G w 0 (ils es) x)
   (hT:G.T h j=some n) (hn:es.length≤n) (how:es.length=n→OwnS G h j es x):VR G w r (.osl h j es) x
 | rsl (r id off len b sz cap:Nat) (hr:1≤r) (hb:G.ha id=some (b,sz,cap)) (hle:off+len≤cap):
   VR G w r (.rsl id off len) (.slice (some ⟨b,off * sz,none⟩) len (cap - off))
 | rsl0 (r id off b sz cap:Nat) (a:Addr) (hr:1≤r) (hb:G.ha id=some (b,sz,cap)) (hle:off=cap):
   VR G w r (.rsl id off 0) (.slice (some a) 0 0)
 | asl (r id idx off len sz' b sz cap c:Nat) (hr:1≤r) (hb:G.ha id=some (b,sz,cap)) (hle:len≤c):
   VR G w r (.asl id idx off len sz') (.slice (some ⟨b,idx * sz+off,none⟩) len c)
 | asl0 (r id idx off sz' b sz cap c:Nat) (a:Addr) (hr:1≤r) (hb:G.ha id=some (b,sz,cap)):
   VR G w r (.asl id idx off 0 sz') (.slice (some a) 0 c)
 | map (r id b:Nat) (hr:1≤r) (hb:G.ha id=some (b,0,0)):VR G w r (.map id) (.map (some b))
 | ptr (r id idx off b sz cap:Nat) (hr:1≤r) (hb:G.ha id=some (b,sz,cap)):VR G w r (.ptr id idx off) (.pointer (some ⟨b,idx * sz+off,none⟩))
 | lp (r j off b:Nat) (hr:2≤r) (hb:G.vb j=some b):VR G w r (.lp j off) (.pointer (some ⟨b,off,none⟩))
 | lsl (r j off len sz b c:Nat) (hr:2≤r) (hb:G.vb j=some b) (hle:len≤c):VR G w r (.lsl j off len sz) (.slice (some ⟨b,off,none⟩) len c)
 | lsl0 (r j off sz b c:Nat) (a:Addr) (hr:2≤r) (hb:G.vb j=some b):VR G w r (.lsl j off 0 sz) (.slice (some a) 0 c)
 | fn (r f:Nat) (fs cs:List V) (xs ys:Array Value) (hs:xs.size=fs.length) (ht:ys.size=cs.length)
   (hx:∀ j v,fs[j]?=some v→VR G w (min r 1) v (xs.getD j undef)) (hy:∀ j v,cs[j]?=some v→VR G w (min r 1) v (ys.getD j undef)):
   VR G w r (.fn f fs cs) (.func (.func f) xs ys)
 | iface (r t:Nat) (v:V) (x:Value) (hx:VR G w (min r 1) v x):VR G w r (.iface t v) (.iface t x)
 | agg (r:Nat) (cs:List V) (xs:Array Value) (hs:xs.size=cs.length) (hf:∀ v∈cs,v.flat=true)
   (hx:∀ j v,cs[j]?=some v→VR G w (min r 1) v (xs.getD j undef)):VR G w r (.agg cs) (.agg xs)
 | tup (r:Nat) (cs:List V) (xs:Array Value) (hs:xs.size=cs.length)
   (hx:∀ j v,cs[j]?=some v→VR G w (min r 1) v (xs.getD j undef)):VR G w r (.tup cs) (.tuple xs)
structure Le (G:Gh) (w:World) (G':Gh) (w':World):Prop where
 E:∀ t b o,G.E t b o→G'.E t b o
 c:∀ t b o,G.E t b o→w'.cell? ⟨b,o,none⟩=w.cell? ⟨b,o,none⟩
 ha:∀ id q,G.ha id=some q→G'.ha id=some q
 T:∀ j n,G.T true j=some n→∃ n',G'.T true j=some n'∧n≤n'∧(n'=n→G'.ob true j=G.ob true j)
theorem Le.refl (G:Gh) (w:World):Le G w G w:=⟨fun _ _ _ h=>h,fun _ _ _ _=>rfl,fun _ _ h=>h,fun _ n h=>⟨n,h,Nat.le_refl _,fun _=>rfl⟩⟩
theorem Le.trans {G G1 G2:Gh} {w w1 w2:World} (h:Le G w G1 w1) (k:Le G1 w1 G2 w2):Le G w G2 w2 where
 E t b o e:=k.E t b o (h.E t b o e)
 c t b o e:=(k.c t b o (h.E t b o e)).trans (h.c t b o e)
 ha id q e:=k.ha id q (h.ha id q e)
 T j n e:=by
  obtain ⟨n1,e1,l1,o1⟩:=h.T j n e
  obtain ⟨n2,e2,l2,o2⟩:=k.T j n1 e1
  refine ⟨n2,e2,Nat.le_trans l1 l2,fun q=>?_⟩
  have:n1=n:=by omega
  rw [o2 (by omega),o1 this]
theorem OwnS.congr {G G':Gh} {h:Bool} {j:Nat} {es:List (List V)} {x:Value} (e:G'.ob h j=G.ob h j) (k:OwnS G h j es x):OwnS G' h j es x:=by
 unfold OwnS at *; rw [e]; exact k
theorem VR.mono1 {G G':Gh} {w w':World} (l:Le G w G' w') {r:Nat} {v:V} {x:Value} (h:VR G w r v x):r≤1→VR G' w' r v x:=by
 induction h with
 | undef r x=>exact fun _=>.undef r x
 | skp r=>exact fun _=>.skp r
 | bool r b=>exact fun _=>.bool r b
 | int r k n=>exact fun _=>.int r k n
 | flt r b=>exact fun _=>.flt r b
 | str r s=>exact fun _=>.str r s
 | nilp r=>exact fun _=>.nilp r
 | nils r=>exact fun _=>.nils r
 | nilm r=>exact fun _=>.nilm r
 | nilf r=>exact fun _=>.nilf r
 | nili r=>exact fun _=>.nili r
 | emp r a=>exact fun _=>.emp r a
 | isl0 r t a c=>exact fun _=>.isl0 r t a c
 | isl r t es b o sz c x hne hc hsz hf hx hv ih=>
  exact fun _=>.isl r t es b o sz c x hne hc hsz hf (fun i j hi hj=>⟨l.E _ _ _ (hx i j hi hj).1,(l.c _ _ _ (hx i j hi hj).1).trans (hx i j hi hj).2⟩)
   (fun i j e v he hv'=>ih i j e v he hv' (by omega))
 | els r es b sz x hr hne hsz hf hx hv ih=>exact fun h1=>absurd h1 (by omega)
 | ip r t cs off b o x hf hx hv ih=>
  exact fun _=>.ip r t cs off b o x hf (fun j hj=>⟨l.E _ _ _ (hx j hj).1,(l.c _ _ _ (hx j hj).1).trans (hx j hj).2⟩) (fun j v hv'=>ih j v hv' (by omega))
 | osl r h j es x n hr hi hT hn how ih=>
  intro h1
  cases h with
  | false=>simp at hr; omega
  | true=>
   obtain ⟨n',hT',hl,ho⟩:=l.T j n hT
   exact .osl r true j es x n' hr (ih (by omega)) hT' (by omega) (fun e=>by
    have:n'=n:=by omega
    subst this
    exact (how e).congr (ho rfl))
 | rsl r id off len b sz cap hr hb hle=>exact fun _=>.rsl r id off len b sz cap hr (l.ha _ _ hb) hle
 | rsl0 r id off b sz cap a hr hb hle=>exact fun _=>.rsl0 r id off b sz cap a hr (l.ha _ _ hb) hle
 | asl r id idx off len sz' b sz cap c hr hb hle=>exact fun _=>.asl r id idx off len sz' b sz cap c hr (l.ha _ _ hb) hle
 | asl0 r id idx off sz' b sz cap c a hr hb=>exact fun _=>.asl0 r id idx off sz' b sz cap c a hr (l.ha _ _ hb)
 | map r id b hr hb=>exact fun _=>.map r id b hr (l.ha _ _ hb)
 | ptr r id idx off b sz cap hr hb=>exact fun _=>.ptr r id idx off b sz cap hr (l.ha _ _ hb)
 | lp r j off b hr hb=>exact fun h1=>absurd h1 (by omega)
 | lsl r j off len sz b c hr hb hle=>exact fun h1=>absurd h1 (by omega)
 | lsl0 r j off sz b c a hr hb=>exact fun h1=>absurd h1 (by omega)
 | fn r f fs cs xs ys hs ht hx hy ihx ihy=>exact fun _=>.fn r f fs cs xs ys hs ht (fun j v e=>ihx j v e (by omega)) (fun j v e=>ihy j v e (by omega))
 | iface r t v x hx ih=>exact fun _=>.iface r t v x (ih (by omega))
 | agg r cs xs hs hf hx ih=>exact fun _=>.agg r cs xs hs hf (fun j v e=>ih j v e (by omega))
 | tup r cs xs hs hx ih=>exact fun _=>.tup r cs xs hs (fun j v e=>ih j v e (by omega))
structure LeL (G G':Gh) (k:Bool→Nat→Prop):Prop where
 vb:∀ j b,¬ k true j→G.vb j=some b→G'.vb j=some b
 T:∀ j n,¬ k false j→G.T false j=some n→∃ n',G'.T false j=some n'∧n≤n'∧(n'=n→G'.ob false j=G.ob false j)
theorem LeL.refl (G:Gh) (k:Bool→Nat→Prop):LeL G G k:=⟨fun _ _ _ h=>h,fun _ n _ h=>⟨n,h,Nat.le_refl _,fun _=>rfl⟩⟩
theorem VR.mono {G G':Gh} {w w':World} {k:Bool→Nat→Prop} (l:Le G w G' w') (m:LeL G G' k) {r:Nat} {v:V} {x:Value} (h:VR G w r v x)
  (hk:∀ q,v.loc=some q→¬ k q.1 q.2):VR G' w' r v x:=by
 cases h with
 | undef r x=>exact .undef r x
 | skp r=>exact .skp r
 | bool r b=>exact .bool r b
 | int r k n=>exact .int r k n
 | flt r b=>exact .flt r b
 | str r s=>exact .str r s
 | nilp r=>exact .nilp r
 | nils r=>exact .nils r
 | nilm r=>exact .nilm r
 | nilf r=>exact .nilf r
 | nili r=>exact .nili r
 | emp r a=>exact .emp r a
 | isl0 r t a c=>exact .isl0 r t a c
 | isl r t es b o sz c x hne hc hsz hf hx hv=>
  exact .isl r t es b o sz c x hne hc hsz hf (fun i j hi hj=>⟨l.E _ _ _ (hx i j hi hj).1,(l.c _ _ _ (hx i j hi hj).1).trans (hx i j hi hj).2⟩)
   (fun i j e v he hv'=>(hv i j e v he hv').mono1 l (by omega))
 | els r es b sz x hr hne hsz hf hx hv=>
  exact .els r es b sz x hr hne hsz hf (fun i j hi hj=>⟨l.E _ _ _ (hx i j hi hj).1,(l.c _ _ _ (hx i j hi hj).1).trans (hx i j hi hj).2⟩)
   (fun i j e v he hv'=>(hv i j e v he hv').mono1 l (by omega))
 | ip r t cs off b o x hf hx hv=>
  exact .ip r t cs off b o x hf (fun j hj=>⟨l.E _ _ _ (hx j hj).1,(l.c _ _ _ (hx j hj).1).trans (hx j hj).2⟩) (fun j v hv'=>(hv j v hv').mono1 l (by omega))
 | osl r h j es x n hr hi hT hn how=>
  cases h with
  | true=>
   obtain ⟨n',hT',hl,ho⟩:=l.T j n hT
   exact .osl r true j es x n' hr (hi.mono1 l (by omega)) hT' (by omega) (fun e=>by
    have:n'=n:=by omega
    subst this
    exact (how e).congr (ho rfl))
  | false=>
   obtain ⟨n',hT',hl,ho⟩:=m.T j n (hk (false,j) rfl) hT
   exact .osl r false j es x n' hr (hi.mono1 l (by omega)) hT' (by omega) (fun e=>by
    have:n'=n:=by omega
    subst this
    exact (how e).congr (ho rfl))
 | rsl r id off len b sz cap hr hb hle=>exact .rsl r id off len b sz cap hr (l.ha _ _ hb) hle
 | rsl0 r id off b sz cap a hr hb hle=>exact .rsl0 r id off b sz cap a hr (l.ha _ _ hb) hle
 | asl r id idx off len sz' b sz cap c hr hb hle=>exact .asl r id idx off len sz' b sz cap c hr (l.ha _ _ hb) hle
 | asl0 r id idx off sz' b sz cap c a hr hb=>exact .asl0 r id idx off sz' b sz cap c a hr (l.ha _ _ hb)
 | map r id b hr hb=>exact .map r id b hr (l.ha _ _ hb)
 | ptr r id idx off b sz cap hr hb=>exact .ptr r id idx off b sz cap hr (l.ha _ _ hb)
 | lp r j off b hr hb=>exact .lp r j off b hr (m.vb _ _ (hk (true,j) rfl) hb)
 | lsl r j off len sz b c hr hb hle=>exact .lsl r j off len sz b c hr (m.vb _ _ (hk (true,j) rfl) hb) hle
 | lsl0 r j off sz b c a hr hb=>exact .lsl0 r j off sz b c a hr (m.vb _ _ (hk (true,j) rfl) hb)
 | fn r f fs cs xs ys hs ht hx hy=>exact .fn r f fs cs xs ys hs ht (fun j v e=>(hx j v e).mono1 l (by omega)) (fun j v e=>(hy j v e).mono1 l (by omega))
 | iface r t v x hx=>exact .iface r t v x (hx.mono1 l (by omega))
 | agg r cs xs hs hf hx=>exact .agg r cs xs hs hf (fun j v e=>(hx j v e).mono1 l (by omega))
 | tup r cs xs hs hx=>exact .tup r cs xs hs (fun j v e=>(hx j v e).mono1 l (by omega))
theorem VR.up {G:Gh} {w:World} {r:Nat} {v:V} {x:Value} (h:VR G w r v x):∀ {r':Nat},r≤r'→VR G w r' v x:=by
 induction h with
 | undef r x=>exact fun _=>.undef _ x
 | skp r=>exact fun _=>.skp _
 | bool r b=>exact fun _=>.bool _ b
 | int r k n=>exact fun _=>.int _ k n
 | flt r b=>exact fun _=>.flt _ b
 | str r s=>exact fun _=>.str _ s
 | nilp r=>exact fun _=>.nilp _
 | nils r=>exact fun _=>.nils _
 | nilm r=>exact fun _=>.nilm _
 | nilf r=>exact fun _=>.nilf _
 | nili r=>exact fun _=>.nili _
 | emp r a=>exact fun _=>.emp _ a
 | isl0 r t a c=>exact fun _=>.isl0 _ t a c
 | isl r t es b o sz c x hne hc hsz hf hx hv ih=>exact fun _=>.isl _ t es b o sz c x hne hc hsz hf hx hv
 | els r es b sz x hr hne hsz hf hx hv ih=>exact fun h=>.els _ es b sz x (by omega) hne hsz hf hx hv
 | ip r t cs off b o x hf hx hv ih=>exact fun _=>.ip _ t cs off b o x hf hx hv
 | osl r h j es x n hr hi hT hn how ih=>exact fun h'=>.osl _ h j es x n (by omega) hi hT hn how
 | rsl r id off len b sz cap hr hb hle=>exact fun _=>.rsl _ id off len b sz cap (by omega) hb hle
 | rsl0 r id off b sz cap a hr hb hle=>exact fun _=>.rsl0 _ id off b sz cap a (by omega) hb hle
 | asl r id idx off len sz' b sz cap c hr hb hle=>exact fun _=>.asl _ id idx off len sz' b sz cap c (by omega) hb hle
 | asl0 r id idx off sz' b sz cap c a hr hb=>exact fun _=>.asl0 _ id idx off sz' b sz cap c a (by omega) hb
 | map r id b hr hb=>exact fun _=>.map _ id b (by omega) hb
 | ptr r id idx off b sz cap hr hb=>exact fun _=>.ptr _ id idx off b sz cap (by omega) hb
 | lp r j off b hr hb=>exact fun _=>.lp _ j off b (by omega) hb
 | lsl r j off len sz b c hr hb hle=>exact fun _=>.lsl _ j off len sz b c (by omega) hb hle
 | lsl0 r j off sz b c a hr hb=>exact fun _=>.lsl0 _ j off sz b c a (by omega) hb
 | fn r f fs cs xs ys hs ht hx hy ihx ihy=>exact fun _=>.fn _ f fs cs xs ys hs ht (fun j v e=>ihx j v e (by omega)) (fun j v e=>ihy j v e (by omega))
 | iface r t v x hx ih=>exact fun _=>.iface _ t v x (ih (by omega))
 | agg r cs xs hs hf hx ih=>exact fun _=>.agg _ cs xs hs hf (fun j v e=>ih j v e (by omega))
 | tup r cs xs hs hx ih=>exact fun _=>.tup _ cs xs hs (fun j v e=>ih j v e (by omega))
def GI (gl:List (Nat × List V)) (G:Gh) (w:World):Prop:=∀ q∈gl,VR G w 0 (.ip false q.2 0) (.pointer (some ⟨q.1,0,none⟩))
theorem GI.mono {gl:List (Nat × List V)} {G G':Gh} {w w':World} (l:Le G w G' w') (h:GI gl G w):GI gl G' w':=fun q hq=>(h q hq).mono1 l (by omega)
theorem ils_cases {G:Gh} {w:World} {r:Nat} {es:List (List V)} {x:Value} (h:VR G w r (ils es) x):(es=[]∧x=.slice none 0 0)∨(es≠[]∧VR G w r (.isl false es) x):=by
 cases es with
 | nil=>change VR G w r .nils x at h; cases h; exact .inl ⟨rfl,rfl⟩
 | cons e es=>exact .inr ⟨by simp,h⟩
theorem ils_mk {G:Gh} {w:World} {r:Nat} {es:List (List V)} {x:Value} (hne:es≠[]) (h:VR G w r (.isl false es) x):VR G w r (ils es) x:=by
 cases es with
 | nil=>exact absurd rfl hne
 | cons e es=>exact h
theorem ils_loc (es:List (List V)):(ils es).loc=none:=by cases es<;>rfl
theorem ils_flat (es:List (List V)):(ils es).flat=true:=by cases es<;>rfl
theorem ils_imm (es:List (List V)):(ils es).imm=true:=by cases es<;>rfl
theorem VR.oneCell {G:Gh} {w:World} {r:Nat} {v:V} {x:Value} (h:VR G w r v x) (hf:v.flat=true):x.oneCell'=true:=by
 cases h<;>first | rfl | (simp [V.flat] at hf; done) | skip
 rename_i hi _
 rcases ils_cases hi with ⟨_,rfl⟩ | ⟨_,hi⟩
 ·rfl
 ·cases hi<;>rfl
theorem VR.lower {G:Gh} {w:World} {r:Nat} {v:V} {x:Value} (h:VR G w r v x) (h0:v.loc=none) (he:∀ es,v≠.els es):VR G w (min r 1) v x:=by
 cases h with
 | els r es b sz x hr=>exact absurd rfl (he es)
 | undef r x=>exact .undef _ x
 | skp r=>exact .skp _
 | bool r b=>exact .bool _ b
 | int r k n=>exact .int _ k n
 | flt r b=>exact .flt _ b
 | str r s=>exact .str _ s
 | nilp r=>exact .nilp _
 | nils r=>exact .nils _
 | nilm r=>exact .nilm _
 | nilf r=>exact .nilf _
 | nili r=>exact .nili _
 | emp r a=>exact .emp _ a
 | isl0 r t a c=>exact .isl0 _ t a c
 | isl r t es b o sz c x hne hc hsz hf hx hv=>exact .isl _ t es b o sz c x hne hc hsz hf hx hv
 | ip r t cs off b o x hf hx hv=>exact .ip _ t cs off b o x hf hx hv
 | osl r h j es x n hr hi hT hn how=>
  cases h with
  | false=>simp [V.loc] at h0
  | true=>exact .osl _ true j es x n (by simp at hr ⊢; omega) hi hT hn how
 | rsl r id off len b sz cap hr hb hle=>exact .rsl _ id off len b sz cap (by omega) hb hle
 | rsl0 r id off b sz cap a hr hb hle=>exact .rsl0 _ id off b sz cap a (by omega) hb hle
 | asl r id idx off len sz' b sz cap c hr hb hle=>exact .asl _ id idx off len sz' b sz cap c (by omega) hb hle
 | asl0 r id idx off sz' b sz cap c a hr hb=>exact .asl0 _ id idx off sz' b sz cap c a (by omega) hb
 | map r id b hr hb=>exact .map _ id b (by omega) hb
 | ptr r id idx off b sz cap hr hb=>exact .ptr _ id idx off b sz cap (by omega) hb
 | lp r j off b hr hb=>simp [V.loc] at h0
 | lsl r j off len sz b c hr hb hle=>simp [V.loc] at h0
 | lsl0 r j off sz b c a hr hb=>simp [V.loc] at h0
 | fn r f fs cs xs ys hs ht hx hy=>exact .fn _ f fs cs xs ys hs ht (fun j v e=>(hx j v e).up (by omega)) (fun j v e=>(hy j v e).up (by omega))
 | iface r t v x hx=>exact .iface _ t v x (hx.up (by omega))
 | agg r cs xs hs hf hx=>exact .agg _ cs xs hs hf (fun j v e=>(hx j v e).up (by omega))
 | tup r cs xs hs hx=>exact .tup _ cs xs hs (fun j v e=>(hx j v e).up (by omega))
end Go.Vm
namespace Go.Vm
inductive Key where
 | v (j:Nat) | t (j:Nat) | h (id:Nat)
 deriving DecidableEq
def Own (G:Gh) (m:Mem):Key→Nat→Prop
 | .v j,b=>G.vb j=some b
 | .t j,b=>∃ c s,G.ob false j=some (b,c,s)
 | .h id,b=>match m.H[id]? with
  | some (.arr _)=>∃ s c,G.ha id=some (b,s,c)
  | some (.mp _)=>G.ha id=some (b,0,0)
  | some (.tok _)=>∃ c s,G.ob true id=some (b,c,s)
  | _=>False
def sc:V→Value
 | .bool b=>.bool b
 | .int k n=>.int k n
 | .flt b=>.float .f64 b
 | .str l=>.string ⟨l.toArray⟩
 | _=>undef
def isSc:V→Bool
 | .bool _ | .int .. | .flt _ | .str _=>true
 | _=>false
def MapAt (w:World) (b:Nat) (es:List (List V)):Prop:=
 ∃ (ents:Array Go.MapEntry) (ck:Nat),w.heap[b]?=some (.map ents ck)∧ents.size=es.length ∧
  ∀ (i:Nat) (e:List V),es[i]?=some e→∃ (k:IntKind) (n:Int) (v:V),e=[.int k n,v]∧isSc v=true∧∃ q:Go.MapEntry,ents[i]?=some q∧q.key=.int k n∧q.val=sc v
def ArrAt (G:Gh) (w:World) (b s c:Nat) (es:List (List V)):Prop:=
 ∃ cs ty,w.heap[b]?=some (.cells cs ty (0,0))∧cs.size=c * s∧es.length≤c∧(∀ e∈es,e.length=s) ∧
  ∀ i j e v,es[i]?=some e→e[j]?=some v→v.flat=true∧∃ x,cs[i * s+j]?=some x∧VR G w 1 v x
def TokAt (G:Gh) (w:World) (b s c n:Nat):Prop:=
 ∃ cs ty,w.heap[b]?=some (.cells cs ty (0,0))∧cs.size=c * s∧n≤c∧(∀ o,o<n * s→G.E false b o)∧∀ t o,n * s≤o→¬ G.E t b o
structure MR (G:Gh) (w:World) (m:Mem):Prop where
 T0:∀ j,G.T false j=m.tk[j]?
 T1:∀ j,G.T true j=match m.H[j]? with
  | some (.tok n)=>some n
  | _=>none
 Ef:∀ b o,G.E false b o→G.E true b o
 Elt:∀ t b o,G.E t b o→b<w.heap.size
 vars:∀ j b,G.vb j=some b→∃ cs,m.vars[j]?=some cs∧ArrAt G w b cs.length 1 [cs]
 toks:∀ j b c s,G.ob false j=some (b,c,s)→∃ n,m.tk[j]?=some n∧TokAt G w b s c n
 arr:∀ id es,m.H[id]?=some (.arr es)→∃ b s c,G.ha id=some (b,s,c)∧ArrAt G w b s c es
 mp:∀ id es,m.H[id]?=some (.mp es)→∃ b,G.ha id=some (b,0,0)∧MapAt w b es
 tok:∀ id n,m.H[id]?=some (.tok n)→∃ b c s,G.ob true id=some (b,c,s)∧TokAt G w b s c n
 fresh:∀ id,m.H.length≤id→G.ha id=none∧G.ob true id=none
 inj:∀ k k' b,Own G m k b→Own G m k' b→k=k'
 noV:∀ j b t o,G.vb j=some b→¬ G.E t b o
 noH:∀ id es b s c t o,m.H[id]?=some (.arr es)→G.ha id=some (b,s,c)→¬ G.E t b o
structure Fr (G:Gh) (m:Mem) (w:World) (G':Gh) (m':Mem) (w':World):Prop where
 os:w'.os=w.os
 tape:w'.tape=w.tape
 output:w'.output=w.output
 size:w.heap.size≤w'.heap.size
 kept:∀ b,b<w.heap.size→(∀ k,¬ Own G m k b)→w'.heap[b]?=w.heap[b]?
 sub:∀ k b,Own G' m' k b→b<w.heap.size→∃ k',Own G m k' b
 E:∀ b o,b<w.heap.size→(∀ k,¬ Own G m k b)→∀ t,(G'.E t b o↔G.E t b o)
 len:m.H.length≤m'.H.length
 vl:m'.vars.length=m.vars.length∧m'.tk.length=m.tk.length
theorem Fr.refl (G:Gh) (m:Mem) (w:World):Fr G m w G m w:=
 ⟨rfl,rfl,rfl,Nat.le_refl _,fun _ _ _=>rfl,fun k _ h _=>⟨k,h⟩,fun _ _ _ _ _=>Iff.rfl,Nat.le_refl _,rfl,rfl⟩
theorem Fr.trans {G G1 G2:Gh} {m m1 m2:Mem} {w w1 w2:World} (h:Fr G m w G1 m1 w1) (k:Fr G1 m1 w1 G2 m2 w2):Fr G m w G2 m2 w2 where
 os:=k.os.trans h.os
 tape:=k.tape.trans h.tape
 output:=k.output.trans h.output
 size:=Nat.le_trans h.size k.size
 kept b hb hn:=by
  rw [k.kept b (Nat.lt_of_lt_of_le hb h.size) (fun q hq=>by obtain ⟨q',h'⟩:=h.sub q b hq hb; exact hn q' h'),h.kept b hb hn]
 sub q b hq hb:=by
  obtain ⟨q1,h1⟩:=k.sub q b hq (Nat.lt_of_lt_of_le hb h.size)
  exact h.sub q1 b h1 hb
 E b o hb hn t:=by
  rw [k.E b o (Nat.lt_of_lt_of_le hb h.size) (fun q hq=>by obtain ⟨q',h'⟩:=h.sub q b hq hb; exact hn q' h') t,h.E b o hb hn t]
 len:=Nat.le_trans h.len k.len
 vl:=⟨k.vl.1.trans h.vl.1,k.vl.2.trans h.vl.2⟩
def Res (r:Result Next) (G:Gh) (w:World) (m:Mem) (v:V) (m':Mem) (k:Bool→Nat→Prop):Prop:=
 ∃ x w' G',(r=.ok (.value x) w'∨(r=.ok .skip w'∧x=undef))∧Le G w G' w'∧LeL G G' k∧MR G' w' m'∧VR G' w' 2 v x∧Fr G m w G' m' w'
theorem Res.same {r:Result Next} {G:Gh} {w:World} {m:Mem} {v:V} {x:Value} {k:Bool→Nat→Prop} (hm:MR G w m) (hr:r=.ok (.value x) w) (hv:VR G w 2 v x):
  Res r G w m v m k:=⟨x,w,G,.inl hr,.refl _ _,.refl _ _,hm,hv,.refl _ _ _⟩
/-! ### operands -/
theorem cells_single {v:V} (h:∀ cs,v≠.agg cs):v.cells=[v]:=by
 cases v<;>first | rfl | exact absurd rfl (h _)
section
variable {P:Program} {tg:Nat→Option Tg} {h:Hint} {ds:List (Option Nat)} {G:Gh} {w:World} {m:Mem} {ρ:X→V} {e:Operand→Value}
variable {call:Md→Nat→List V→List Obj→Option (V × List Obj)} {kl:Bool→Nat→Prop}
def OpR (h:Hint) (ds:List (Option Nat)) (G:Gh) (w:World) (ρ:X→V) (e:Operand→Value):Prop:=
 ∀ y x,cX h ds y=some x→VR G w 2 (ρ x) (e y)
theorem OpR.list (hρ:OpR h ds G w ρ e):∀ {ys:List Operand} {xs:List X},cXs h ds ys=some xs →
  xs.length=ys.length∧∀ (i:Nat) (y:Operand),ys[i]?=some y→∃ x,xs[i]?=some x∧VR G w 2 (ρ x) (e y)
 | [],xs,hx=>by simp [cXs] at hx; subst hx; simp
 | y :: ys,xs,hx=>by
  simp only [cXs] at hx
  cases h1:cX h ds y with
  | none=>simp [h1] at hx
  | some x=>
   cases h2:cXs h ds ys with
   | none=>simp [h1,h2] at hx
   | some xs'=>
    simp [h1,h2] at hx
    subst hx
    obtain ⟨hl,hp⟩:=OpR.list hρ h2
    refine ⟨by simp [hl],fun i y' hi=>?_⟩
    cases i with
    | zero=>simp at hi; subst hi; exact ⟨x,by simp,hρ _ _ h1⟩
    | succ i=>simpa using hp i y' (by simpa using hi)
/-! ### numbers -/
theorem VR.int_inv {r:Nat} {k:IntKind} {n:Int} {x:Value} (h:VR G w r (.int k n) x):x=.int k n:=by cases h; rfl
theorem VR.bool_inv {r:Nat} {b:Bool} {x:Value} (h:VR G w r (.bool b) x):x=.bool b:=by cases h; rfl
theorem VR.flt_inv {r:Nat} {b:Nat} {x:Value} (h:VR G w r (.flt b) x):x=.float .f64 b:=by cases h; rfl
theorem VR.str_inv {r:Nat} {l:List UInt8} {x:Value} (h:VR G w r (.str l) x):x=.string ⟨l.toArray⟩:=by cases h; rfl
theorem toList_mk (l:List UInt8):(ByteArray.mk l.toArray).toList=l:=by
 rw [ByteArray.toList_eq]
theorem VR.is_sc {r:Nat} {v:V} {x:Value} (h:VR G w r v x) (hs:isSc v=true):x=Go.Vm.sc v:=by
 cases v<;>first | (simp [isSc] at hs; done) | (cases h; rfl)
theorem VR.of_sc (r:Nat) {v:V} (hs:isSc v=true):VR G w r v (Go.Vm.sc v):=by
 cases v<;>first | (simp [isSc] at hs; done) | exact .bool _ _ | exact .int _ _ _ | exact .flt _ _ | exact .str _ _
theorem min_eq (a b:Nat):Nat.min a b=min a b:=rfl
theorem int_beq (a b:Int):(a == b)=decide (a=b):=by rw [Bool.eq_iff_iff]; simp
theorem int_bne (a b:Int):(a != b)=!decide (a=b):=by rw [← int_beq]; rfl
theorem binV_run {o : BinOp} {t : TypeId} {x y v : V} (hv : binV o x y = some v) (w' : World) :
    isSc x = true ∧ isSc y = true ∧ isSc v = true ∧ (binOp o t (sc x) (sc y)).run P w' = .ok (sc v) w' := by
  cases x with
  | int k i =>
    cases y with
    | int k' j =>
      simp only [binV] at hv
      cases hs : isSh o with
      | true =>
        simp only [hs, if_true, shV] at hv
        by_cases hj : j < 0
        · simp [hj] at hv
        · rw [if_neg hj] at hv
          cases o <;> simp only [isSh, Bool.false_eq_true] at hs <;> (simp only [Option.some.injEq] at hv; subst hv; simp [isSc, sc, binOp, Op.shift, hj, min_eq])
      | false =>
        simp only [hs, Bool.false_eq_true, if_false] at hv
        by_cases hk : k = k'
        · subst hk
          simp only [if_true] at hv
          cases o <;> simp only [isSh, intV, Bool.true_eq_false, reduceCtorEq] at hv hs <;> first
            | (by_cases hz : j = 0
               · simp [hz] at hv
               · simp only [hz, if_false, Option.some.injEq] at hv; subst hv; simp [isSc, sc, binOp, Op.intDiv, hz])
            | (simp only [Option.some.injEq] at hv; subst hv; simp [isSc, sc, binOp, Op.intArith, Op.intBits, Op.intCmp, int_beq, int_bne, andI, orI, xorI, andNotI, notI])
        · simp [hk] at hv
    | _ => simp [binV] at hv
  | flt i =>
    cases y with
    | flt j =>
      simp only [binV] at hv
      cases o <;> simp only [fltV, Option.map_eq_some_iff, Option.some.injEq, reduceCtorEq] at hv <;> first
        | (obtain ⟨r, hr, rfl⟩ := hv; simp [isSc, sc, binOp, Op.floatArith, FloatKind.format, hr])
        | (subst hv; simp [isSc, sc, binOp, Op.floatCmp, FloatKind.format])
    | _ => simp [binV] at hv
  | str i =>
    cases y with
    | str j =>
      simp only [binV] at hv
      cases o <;> simp only [strV, Option.some.injEq, reduceCtorEq] at hv <;> first
        | (subst hv; simp [isSc, sc, binOp, Op.stringOp, toList_mk]; done)
        | skip
      by_cases hl : i.length + j.length ≤ 9223372036854775807
      · simp only [hl, if_true, Option.some.injEq] at hv
        subst hv
        have e : (ByteArray.mk i.toArray ++ ByteArray.mk j.toArray) = ByteArray.mk (i ++ j).toArray := by
          apply ByteArray.ext; simp
        have e2 : IntKind.i64.max = 9223372036854775807 := rfl
        have e3 : ¬ ((((ByteArray.mk i.toArray).size + (ByteArray.mk j.toArray).size : Nat) : Int) > IntKind.i64.max) := by
          rw [e2]; simp [ByteArray.size]; omega
        refine ⟨rfl, rfl, rfl, ?_⟩
        simp only [sc, binOp, Op.stringOp]
        rw [if_neg e3, e]; rfl
      · simp [hl] at hv
    | _ => simp [binV] at hv
  | _ => simp [binV] at hv
end
end Go.Vm
namespace Go.Vm
section
variable {G G':Gh} {w w':World} {m:Mem}
theorem ArrAt.mono (l:Le G w G' w') {b s c:Nat} {es:List (List V)} (hb:w'.heap[b]?=w.heap[b]?) (h:ArrAt G w b s c es):ArrAt G' w' b s c es:=by
 obtain ⟨cs,ty,h1,h2,h3,h4,h5⟩:=h
 refine ⟨cs,ty,hb.trans h1,h2,h3,h4,fun i j e v he hv=>?_⟩
 obtain ⟨hf,x,hx,hr⟩:=h5 i j e v he hv
 exact ⟨hf,x,hx,hr.mono1 l (Nat.le_refl _)⟩
theorem MapAt.mono {b:Nat} {es:List (List V)} (hb:w'.heap[b]?=w.heap[b]?) (h:MapAt w b es):MapAt w' b es:=by
 obtain ⟨ents,ck,h1,h2⟩:=h
 exact ⟨ents,ck,hb.trans h1,h2⟩
theorem MapAt.lt {b:Nat} {es:List (List V)} (h:MapAt w b es):b<w.heap.size:=by
 obtain ⟨ents,ck,h1,_⟩:=h
 exact (Array.getElem?_eq_some_iff.1 h1).1
theorem TokAt.mono {b s c n:Nat} (hb:w'.heap[b]?=w.heap[b]?) (hE:∀ t o,G'.E t b o↔G.E t b o) (h:TokAt G w b s c n):TokAt G' w' b s c n:=by
 obtain ⟨cs,ty,h1,h2,h3,h4,h5⟩:=h
 exact ⟨cs,ty,hb.trans h1,h2,h3,fun o ho=>(hE false o).2 (h4 o ho),fun t o ho e=>h5 t o ho ((hE t o).1 e)⟩
theorem heap_alloc_lt (w:World) (o:Go.Obj) {b:Nat} (h:b<w.heap.size):(w.alloc o).heap[b]?=w.heap[b]?:=by
 simp only [World.alloc,Array.getElem?_push]
 rw [if_neg (by omega)]
theorem heap_alloc_new (w:World) (o:Go.Obj):(w.alloc o).heap[w.heap.size]?=some o:=by
 show (w.heap.push o)[w.heap.size]?=some o
 simp
theorem ArrAt.lt {b s c:Nat} {es:List (List V)} (h:ArrAt G w b s c es):b<w.heap.size:=by
 obtain ⟨cs,ty,h1,_⟩:=h
 exact (Array.getElem?_eq_some_iff.1 h1).1
theorem TokAt.lt {b s c n:Nat} (h:TokAt G w b s c n):b<w.heap.size:=by
 obtain ⟨cs,ty,h1,_⟩:=h
 exact (Array.getElem?_eq_some_iff.1 h1).1
theorem Own.lt (hm:MR G w m) {k:Key} {b:Nat} (h:Own G m k b):b<w.heap.size:=by
 cases k with
 | v j=>obtain ⟨cs,_,ha⟩:=hm.vars j b h; exact ha.lt
 | t j=>obtain ⟨c,s,h⟩:=h; obtain ⟨n,_,ha⟩:=hm.toks j b c s h; exact ha.lt
 | h id=>
  simp only [Own] at h
  split at h
  ·rename_i es he
   obtain ⟨s,c,h⟩:=h
   obtain ⟨b',s',c',h',ha⟩:=hm.arr id es he
   rw [h] at h'; simp only [Option.some.injEq,Prod.mk.injEq] at h'; obtain ⟨rfl,rfl,rfl⟩:=h'
   exact ha.lt
  ·rename_i es he
   obtain ⟨b',h',ha⟩:=hm.mp id es he
   rw [h] at h'; simp only [Option.some.injEq,Prod.mk.injEq] at h'; obtain ⟨rfl,_⟩:=h'
   exact ha.lt
  ·rename_i n he
   obtain ⟨c,s,h⟩:=h
   obtain ⟨b',c',s',h',ha⟩:=hm.tok id n he
   rw [h] at h'; simp only [Option.some.injEq,Prod.mk.injEq] at h'; obtain ⟨rfl,rfl,rfl⟩:=h'
   exact ha.lt
  ·exact h.elim
theorem Le.alloc (hm:MR G w m) (o:Go.Obj):Le G w G (w.alloc o):=
 ⟨fun _ _ _ h=>h,fun t b _ h=>by rw [World.cell?_alloc_lt]; exact hm.Elt t b _ h,fun _ _ h=>h,fun _ n h=>⟨n,h,Nat.le_refl _,fun _=>rfl⟩⟩
theorem MR.alloc (hm:MR G w m) (o:Go.Obj):MR G (w.alloc o) m where
 T0:=hm.T0
 T1:=hm.T1
 Ef:=hm.Ef
 Elt t b o' h:=by have:=hm.Elt t b o' h; simp; omega
 vars j b h:=by
  obtain ⟨cs,h1,h2⟩:=hm.vars j b h
  exact ⟨cs,h1,h2.mono (.alloc hm o) (heap_alloc_lt w o h2.lt)⟩
 toks j b c s h:=by
  obtain ⟨n,h1,h2⟩:=hm.toks j b c s h
  exact ⟨n,h1,h2.mono (heap_alloc_lt w o h2.lt) (fun _ _=>Iff.rfl)⟩
 arr id es h:=by
  obtain ⟨b,s,c,h1,h2⟩:=hm.arr id es h
  exact ⟨b,s,c,h1,h2.mono (.alloc hm o) (heap_alloc_lt w o h2.lt)⟩
 mp id es h:=by
  obtain ⟨b,h1,h2⟩:=hm.mp id es h
  exact ⟨b,h1,h2.mono (heap_alloc_lt w o h2.lt)⟩
 tok id n h:=by
  obtain ⟨b,c,s,h1,h2⟩:=hm.tok id n h
  exact ⟨b,c,s,h1,h2.mono (heap_alloc_lt w o h2.lt) (fun _ _=>Iff.rfl)⟩
 fresh:=hm.fresh
 inj:=hm.inj
 noV:=hm.noV
 noH:=hm.noH
/-! ### one owner's block is new, or is written -/
def KeyOK (G:Gh) (w:World) (m:Mem) (B:Nat):Key→Prop
 | .v j=>G.vb j=some B∧(∃ cs,m.vars[j]?=some cs∧ArrAt G w B cs.length 1 [cs])∧∀ t o,¬ G.E t B o
 | .t j=>G.T false j=m.tk[j]?∧∀ b c s,G.ob false j=some (b,c,s)→b=B∧∃ n,m.tk[j]?=some n∧TokAt G w B s c n
 | .h id=>(∃ es s c,m.H[id]?=some (.arr es)∧G.T true id=none∧G.ha id=some (B,s,c)∧ArrAt G w B s c es∧∀ t o,¬ G.E t B o) ∨
   (∃ n s c,m.H[id]?=some (.tok n)∧G.T true id=some n∧G.ob true id=some (B,c,s)∧TokAt G w B s c n) ∨
   (m.H[id]?=some .dead∧G.T true id=none) ∨
   (∃ es,m.H[id]?=some (.mp es)∧G.T true id=none∧G.ha id=some (B,0,0)∧MapAt w B es)
structure Upd (G:Gh) (w:World) (m:Mem) (G':Gh) (w':World) (m':Mem) (κ:Key) (B:Nat):Prop where
 le:Le G w G' w'
 hv:∀ j,κ≠.v j→G'.vb j=G.vb j∧m'.vars[j]?=m.vars[j]?
 ht:∀ j,κ≠.t j→G'.ob false j=G.ob false j∧m'.tk[j]?=m.tk[j]?∧G'.T false j=G.T false j
 hh:∀ id,κ≠.h id→G'.ha id=G.ha id∧G'.ob true id=G.ob true id∧m'.H[id]?=m.H[id]?∧G'.T true id=G.T true id
 hl:m.H.length≤m'.H.length
 hf:∀ id,m'.H.length≤id→κ≠.h id
 hvl:m'.vars.length=m.vars.length∧m'.tk.length=m.tk.length
 hE:∀ t b o,b≠B→(G'.E t b o↔G.E t b o)
 Ef:∀ o,G'.E false B o→G'.E true B o
 heap:∀ b,b≠B→b<w.heap.size→w'.heap[b]?=w.heap[b]?
 size:w.heap.size≤w'.heap.size
 hB:B<w'.heap.size
 new:w.heap.size≤B∨Own G m κ B
 key:KeyOK G' w' m' B κ
 os:w'.os=w.os
 tape:w'.tape=w.tape
 output:w'.output=w.output
theorem Upd.own {m':Mem} {κ:Key} {B:Nat} (u:Upd G w m G' w' m' κ B) {k:Key} {b:Nat} (h:Own G' m' k b):(k=κ∧b=B)∨(k≠κ∧Own G m k b):=by
 by_cases e:k=κ
 ·left
  subst e
  refine ⟨rfl,?_⟩
  have key:=u.key
  cases k with
  | v j=>simp only [KeyOK] at key; simp only [Own] at h; rw [key.1] at h; exact (Option.some.inj h).symm
  | t j=>simp only [KeyOK] at key; obtain ⟨c,s,h⟩:=h; exact (key.2 b c s h).1
  | h id=>
   simp only [KeyOK] at key
   rcases key with ⟨es,s,c,h1,_,h2,_⟩ | ⟨n,s,c,h1,_,h2,_⟩ | ⟨h1,_⟩ | ⟨es,h1,_,h2,_⟩
   ·simp only [Own,h1] at h; obtain ⟨s',c',h⟩:=h; rw [h2] at h; simp at h; exact h.1.symm
   ·simp only [Own,h1] at h; obtain ⟨s',c',h⟩:=h; rw [h2] at h; simp at h; exact h.1.symm
   ·simp only [Own,h1] at h
   ·simp only [Own,h1] at h; rw [h2] at h; simp at h; exact h.symm
 ·right
  refine ⟨e,?_⟩
  cases k with
  | v j=>simp only [Own] at h ⊢; rw [(u.hv j (Ne.symm e)).1] at h; exact h
  | t j=>simp only [Own] at h ⊢; rw [(u.ht j (Ne.symm e)).1] at h; exact h
  | h id=>
   obtain ⟨h1,h2,h3,_⟩:=u.hh id (Ne.symm e)
   simp only [Own,h1,h2,h3] at h ⊢
   exact h
theorem Upd.ne {m':Mem} {κ:Key} {B:Nat} (hm:MR G w m) (u:Upd G w m G' w' m' κ B) {k:Key} {b:Nat} (hk:k≠κ) (h:Own G m k b):b≠B:=by
 rintro rfl
 rcases u.new with h1 | h1
 ·exact absurd (h.lt hm) (by omega)
 ·exact hk (hm.inj _ _ _ h h1)
theorem Upd.mr {m':Mem} {κ:Key} {B:Nat} (hm:MR G w m) (u:Upd G w m G' w' m' κ B):MR G' w' m' where
 T0 j:=by
  by_cases e:κ=.t j
  ·have:=u.key; rw [e] at this; exact this.1
  ·obtain ⟨_,h2,h3⟩:=u.ht j e; rw [h2,h3]; exact hm.T0 j
 T1 j:=by
  by_cases e:κ=.h j
  ·have:=u.key
   rw [e] at this
   rcases this with ⟨es,s,c,h1,h2,_⟩ | ⟨n,s,c,h1,h2,_⟩ | ⟨h1,h2⟩ | ⟨es,h1,h2,_⟩<;>rw [h2,h1]
  ·obtain ⟨_,_,h2,h3⟩:=u.hh j e; rw [h2,h3]; exact hm.T1 j
 Ef b o h:=by
  by_cases e:b=B
  ·subst e; exact u.Ef o h
  ·exact (u.hE true b o e).2 (hm.Ef b o ((u.hE false b o e).1 h))
 Elt t b o h:=by
  by_cases e:b=B
  ·subst e; exact u.hB
  ·exact Nat.lt_of_lt_of_le (hm.Elt t b o ((u.hE t b o e).1 h)) u.size
 vars j b h:=by
  by_cases e:κ=.v j
  ·have key:=u.key
   rw [e] at key
   simp only [KeyOK] at key
   rw [key.1] at h; cases h
   exact key.2.1
  ·obtain ⟨h1,h2⟩:=u.hv j e
   rw [h1] at h
   obtain ⟨cs,h3,h4⟩:=hm.vars j b h
   exact ⟨cs,h2.trans h3,h4.mono u.le (u.heap b (u.ne hm (Ne.symm e) (show Own G m (.v j) b from h)) h4.lt)⟩
 toks j b c s h:=by
  by_cases e:κ=.t j
  ·have key:=u.key
   rw [e] at key
   obtain ⟨rfl,n,h1,h2⟩:=key.2 b c s h
   exact ⟨n,h1,h2⟩
  ·obtain ⟨h1,h2,_⟩:=u.ht j e
   rw [h1] at h
   obtain ⟨n,h3,h4⟩:=hm.toks j b c s h
   have hb:=u.ne hm (Ne.symm e) (show Own G m (.t j) b from ⟨c,s,h⟩)
   exact ⟨n,h2.trans h3,h4.mono (u.heap b hb h4.lt) (fun t o=>u.hE t b o hb)⟩
 arr id es h:=by
  by_cases e:κ=.h id
  ·have key:=u.key
   rw [e] at key
   rcases key with ⟨es',s,c,h1,h2,h3,h4,_⟩ | ⟨n,s,c,h1,_⟩ | ⟨h1,_⟩ | ⟨es',h1,_⟩
   ·rw [h1] at h; cases h; exact ⟨B,s,c,h3,h4⟩
   ·rw [h1] at h; cases h
   ·rw [h1] at h; cases h
   ·rw [h1] at h; cases h
  ·obtain ⟨h1,h2,h3,_⟩:=u.hh id e
   rw [h3] at h
   obtain ⟨b,s,c,h4,h5⟩:=hm.arr id es h
   exact ⟨b,s,c,h1.trans h4,h5.mono u.le (u.heap b (u.ne hm (Ne.symm e) (show Own G m (.h id) b by simp only [Own,h]; exact ⟨s,c,h4⟩)) h5.lt)⟩
 mp id es h:=by
  by_cases e:κ=.h id
  ·have key:=u.key
   rw [e] at key
   rcases key with ⟨es',s,c,h1,_⟩ | ⟨n,s,c,h1,_⟩ | ⟨h1,_⟩ | ⟨es',h1,_,h3,h4⟩
   ·rw [h1] at h; cases h
   ·rw [h1] at h; cases h
   ·rw [h1] at h; cases h
   ·rw [h1] at h; cases h; exact ⟨B,h3,h4⟩
  ·obtain ⟨h1,h2,h3,_⟩:=u.hh id e
   rw [h3] at h
   obtain ⟨b,h4,h5⟩:=hm.mp id es h
   exact ⟨b,h1.trans h4,h5.mono (u.heap b (u.ne hm (Ne.symm e) (show Own G m (.h id) b by simp only [Own,h]; exact h4)) h5.lt)⟩
 tok id n h:=by
  by_cases e:κ=.h id
  ·have key:=u.key
   rw [e] at key
   rcases key with ⟨es',s,c,h1,_⟩ | ⟨n',s,c,h1,h2,h3,h4⟩ | ⟨h1,_⟩ | ⟨es',h1,_⟩
   ·rw [h1] at h; cases h
   ·rw [h1] at h; cases h; exact ⟨B,c,s,h3,h4⟩
   ·rw [h1] at h; cases h
   ·rw [h1] at h; cases h
  ·obtain ⟨h1,h2,h3,_⟩:=u.hh id e
   rw [h3] at h
   obtain ⟨b,c,s,h4,h5⟩:=hm.tok id n h
   have hb:=u.ne hm (Ne.symm e) (show Own G m (.h id) b by simp only [Own,h]; exact ⟨c,s,h4⟩)
   exact ⟨b,c,s,h2.trans h4,h5.mono (u.heap b hb h5.lt) (fun t o=>u.hE t b o hb)⟩
 fresh id h:=by
  obtain ⟨h1,h2,_⟩:=u.hh id (u.hf id h)
  rw [h1,h2]
  exact hm.fresh id (Nat.le_trans u.hl h)
 inj k k' b h h':=by
  rcases u.own h with ⟨rfl,rfl⟩ | ⟨h1,h2⟩
  ·rcases u.own h' with ⟨rfl,_⟩ | ⟨h3,h4⟩
   ·rfl
   ·exact absurd rfl (u.ne hm h3 h4)
  ·rcases u.own h' with ⟨rfl,rfl⟩ | ⟨h3,h4⟩
   ·exact absurd rfl (u.ne hm h1 h2)
   ·exact hm.inj k k' b h2 h4
 noV j b t o h e:=by
  by_cases q:κ=.v j
  ·have key:=u.key
   rw [q] at key
   simp only [KeyOK] at key
   rw [key.1] at h; cases h
   exact key.2.2 t o e
  ·rw [(u.hv j q).1] at h
   have hb:=u.ne hm (Ne.symm q) (show Own G m (.v j) b from h)
   exact hm.noV j b t o h ((u.hE t b o hb).1 e)
 noH id es b s c t o h h' e:=by
  by_cases q:κ=.h id
  ·have key:=u.key
   rw [q] at key
   rcases key with ⟨es',s',c',h1,_,h3,_,h5⟩ | ⟨n,s,c,h1,_⟩ | ⟨h1,_⟩ | ⟨es',h1,_⟩
   ·rw [h3] at h'; cases h'; exact h5 t o e
   ·rw [h1] at h; cases h
   ·rw [h1] at h; cases h
   ·rw [h1] at h; cases h
  ·obtain ⟨h1,h2,h3,_⟩:=u.hh id q
   rw [h3] at h; rw [h1] at h'
   have hb:=u.ne hm (Ne.symm q) (show Own G m (.h id) b by simp only [Own,h]; exact ⟨s,c,h'⟩)
   exact hm.noH id es b s c t o h h' ((u.hE t b o hb).1 e)
theorem Upd.fr {m':Mem} {κ:Key} {B:Nat} (hm:MR G w m) (u:Upd G w m G' w' m' κ B):Fr G m w G' m' w' where
 os:=u.os
 tape:=u.tape
 output:=u.output
 size:=u.size
 kept b hb hn:=by
  refine u.heap b (fun e=>?_) hb
  subst e
  rcases u.new with h | h
  ·omega
  ·exact hn _ h
 sub k b h hb:=by
  rcases u.own h with ⟨rfl,rfl⟩ | ⟨_,h2⟩
  ·rcases u.new with h | h
   ·omega
   ·exact ⟨_,h⟩
  ·exact ⟨_,h2⟩
 E b o hb hn t:=by
  refine u.hE t b o (fun e=>?_)
  subst e
  rcases u.new with h | h
  ·omega
  ·exact hn _ h
 len:=u.hl
 vl:=u.hvl
def Gh.newE (G:Gh) (b n:Nat):Gh:={ G with E:=fun t b' o=>G.E t b' o∨(b'=b∧o<n) }
theorem newE (hm:MR G w m) (xs:Array Value) (ty:TypeId) (n:Nat):
  let w':=w.alloc (.cells xs ty)
  let G':=G.newE w.heap.size n
  Le G w G' w'∧LeL G G' (fun _ _=>False)∧MR G' w' m∧Fr G m w G' m w':=by
 intro w' G'
 have la:Le G w G w':=.alloc hm _
 have ma:MR G w' m:=hm.alloc _
 have l:Le G w G' w':=⟨fun _ _ _ h=>.inl h,la.c,fun _ _ h=>h,fun _ n h=>⟨n,h,Nat.le_refl _,fun _=>rfl⟩⟩
 have ln:Le G w' G' w':=⟨fun _ _ _ h=>.inl h,fun _ _ _ _=>rfl,fun _ _ h=>h,fun _ n h=>⟨n,h,Nat.le_refl _,fun _=>rfl⟩⟩
 have hE:∀ b,b<w.heap.size→∀ t o,(G'.E t b o↔G.E t b o):=by
  intro b hb t o
  refine ⟨fun h=>h.resolve_right (fun q=>by omega),.inl⟩
 refine ⟨l,⟨fun _ _ _ h=>h,fun _ n _ h=>⟨n,h,Nat.le_refl _,fun _=>rfl⟩⟩,?_,?_⟩
 ·exact {
   T0:=hm.T0
   T1:=hm.T1
   Ef:=fun b o h=>h.elim (fun h=>.inl (hm.Ef b o h)) .inr
   Elt:=fun t b o h=>h.elim (fun h=>ma.Elt t b o h) (fun h=>by rw [h.1]; simp [w'])
   vars:=fun j b h=>by
    obtain ⟨cs,h1,h2⟩:=ma.vars j b h
    exact ⟨cs,h1,h2.mono ln rfl⟩
   toks:=fun j b c s h=>by
    obtain ⟨n,h1,h2⟩:=ma.toks j b c s h
    have:=(show Own G m (.t j) b from ⟨c,s,h⟩).lt hm
    exact ⟨n,h1,h2.mono rfl (hE b this)⟩
   arr:=fun id es h=>by
    obtain ⟨b,s,c,h1,h2⟩:=ma.arr id es h
    exact ⟨b,s,c,h1,h2.mono ln rfl⟩
   mp:=fun id es h=>by
    obtain ⟨b,h1,h2⟩:=ma.mp id es h
    exact ⟨b,h1,h2⟩
   tok:=fun id n h=>by
    obtain ⟨b,c,s,h1,h2⟩:=ma.tok id n h
    have:=(show Own G m (.h id) b by simp only [Own,h]; exact ⟨c,s,h1⟩).lt hm
    exact ⟨b,c,s,h1,h2.mono rfl (hE b this)⟩
   fresh:=hm.fresh
   inj:=hm.inj
   noV:=fun j b t o h e=>hm.noV j b t o h ((hE b ((show Own G m (.v j) b from h).lt hm) t o).1 e)
   noH:=fun id es b s c t o h h' e=>hm.noH id es b s c t o h h' ((hE b ((show Own G m (.h id) b by simp only [Own,h]; exact ⟨s,c,h'⟩).lt hm) t o).1 e) }
 ·exact {
   os:=rfl
   tape:=rfl
   output:=rfl
   size:=by simp [w']
   kept:=fun b hb _=>heap_alloc_lt w _ hb
   sub:=fun k b h hb=>⟨k,h⟩
   E:=fun b o hb _ t=>hE b hb t o
   len:=Nat.le_refl _
   vl:=⟨rfl,rfl⟩ }
end
end Go.Vm
namespace Go.Vm
section
variable {P:Program} {h:Hint} {ds:List (Option Nat)} {G:Gh} {w:World} {m:Mem} {ρ:X→V} {e:Operand→Value} {k:Bool→Nat→Prop}
/-! ### constants and types -/
theorem cv0_ok {x:Value} {u:V} (hx:cv0 x=some u):u.flat=true∧(∀ r,VR G w r u x)∧x.cells=#[x]:=by
 unfold cv0 at hx
 split at hx<;>first
  | (cases hx; refine ⟨rfl,fun r=>?_,rfl⟩; first | exact .bool _ _ | exact .int _ _ _ | exact .flt _ _ | exact .str _ _ | exact .nilp _ | exact .nils _ | exact .nilm _ | exact .nilf _ | exact .nili _)
  | cases hx
theorem cvL_ok:∀ {l:List Value} {us:List V},cvL l=some us→us.length=l.length∧(∀ v∈us,v.flat=true) ∧
  ∀ (i:Nat) (u:V),us[i]?=some u→∀ r,VR G w r u (l.toArray.getD i undef)
 | [],us,hx=>by simp [cvL] at hx; subst hx; simp
 | v :: vs,us,hx=>by
  simp only [cvL] at hx
  cases h1:cv0 v with
  | none=>simp [h1] at hx
  | some a=>
   cases h2:cvL vs with
   | none=>simp [h1,h2] at hx
   | some as=>
    simp [h1,h2] at hx
    subst hx
    obtain ⟨hl,hf,hp⟩:=cvL_ok h2
    have ha:=cv0_ok (G:=G) (w:=w) h1
    refine ⟨by simp [hl],fun v hv=>?_,fun i u hi r=>?_⟩
    ·rcases List.mem_cons.1 hv with rfl | hv
     ·exact ha.1
     ·exact hf v hv
    ·cases i with
     | zero=>simp at hi; subst hi; simpa using ha.2.1 r
     | succ i=>simpa using hp i u (by simpa using hi) r
theorem cvV_ok {x:Value} {u:V} (hx:cvV x=some u):(∀ r,VR G w r u x)∧u.cells.length=x.cells.size∧(∀ v∈u.cells,v.flat=true) ∧
  ∀ (i:Nat) (v:V),u.cells[i]?=some v→∀ r,VR G w r v (x.cells.getD i undef):=by
 unfold cvV at hx
 split at hx
 ·rename_i l
  simp only [Option.map_eq_some_iff] at hx
  obtain ⟨us,h1,rfl⟩:=hx
  obtain ⟨hl,hf,hp⟩:=cvL_ok (G:=G) (w:=w) h1
  refine ⟨fun r=>.agg r us _ (by simp [hl]) hf (fun j v hj=>hp j v hj _),?_,?_,?_⟩
  ·simpa [V.cells,Value.cells] using hl
  ·simpa [V.cells] using hf
  ·intro i v hi r
   simpa [Value.cells] using hp i v (by simpa [V.cells] using hi) r
 ·obtain ⟨hf,hr,hc⟩:=cv0_ok (G:=G) (w:=w) hx
  have hu:u.cells=[u]:=cells_single (fun cs e=>by subst e; simp [V.flat] at hf)
  refine ⟨hr,by simp [hu,hc],by simp [hu,hf],fun i v hi r=>?_⟩
  rw [hu] at hi
  cases i with
  | zero=>simp at hi; subst hi; simpa [hc] using hr r
  | succ i=>simp at hi
theorem szOf_run {t:TypeId} {n:Nat} (ht:szOf P t=some n) (w:World):(sizeOf t).run P w=.ok n w:=by
 simp only [szOf,Option.map_eq_some_iff] at ht
 obtain ⟨i,hi,rfl⟩:=ht
 simp [sizeOf,typeInfo,hi]
theorem aggT_run {t:TypeId} {b:Bool} (ht:aggT P t=some b) (w:World):(isAgg t).run P w=.ok b w:=by
 simp only [aggT,Option.map_eq_some_iff,und] at ht
 obtain ⟨d,hd,rfl⟩:=ht
 simp only [isAgg,Sem.run_bind,run_underlying hd,Result.andThen_ok]
 cases d<;>rfl
theorem zeroT_run {t:TypeId} {z:List V} (ht:zeroT P t=some z) (G:Gh) (w:World):∃ v,(∀ w',(zeroValue t).run P w'=.ok v w')∧z.length=v.cells.size∧(∀ u∈z,u.flat=true) ∧
  ∀ (i:Nat) (u:V),z[i]?=some u→∀ r,VR G w r u (v.cells.getD i undef):=by
 unfold zeroT at ht
 split at ht
 ·rename_i i hi
  split at ht
  ·rename_i v hv
   split at ht
   ·rename_i u hu
    cases ht
    obtain ⟨_,h1,h2,h3⟩:=cvV_ok (G:=G) (w:=w) hu
    exact ⟨v,fun w'=>by simp [zeroValue,typeInfo,hi,hv],h1,h2,h3⟩
   ·cases ht
  ·cases ht
 ·cases ht
/-! ### the operations -/
theorem x_mv {o:Oper} {y:Operand} {x:X} (hρ:OpR h ds G w ρ e) (hm:MR G w m) (ho:o.op=.move y∨o.op=.assign y) (hx:cX h ds y=some x):
  Res ((execOp e o).run P w) G w m (ρ x) m k:=by
 refine .same hm ?_ (hρ _ _ hx)
 rcases ho with ho | ho<;>simp [execOp,ho]
theorem x_pick {o:Oper} {a b c:Operand} {xa xb xc:X} {t:Bool} (hρ:OpR h ds G w ρ e) (hm:MR G w m) (ho:o.op=.pick c a b) (hc:cX h ds c=some xc)
  (ha:cX h ds a=some xa) (hb:cX h ds b=some xb) (ht:ρ xc=.bool t):Res ((execOp e o).run P w) G w m (if t then ρ xa else ρ xb) m k:=by
 have h1:=hρ _ _ hc
 rw [ht] at h1
 have h2:=h1.bool_inv
 refine .same hm (x:=if t then e a else e b) ?_ ?_
 ·simp [execOp,ho,h2,asBool]
 ·cases t
  ·exact hρ _ _ hb
  ·exact hρ _ _ ha
theorem eqGuard_sc {op:BinOp} {t:TypeId} {x y:Operand} {u:V} (hu:isSc u=true) (b:Value) (w:World):(eqGuard op t x y (sc u) b).run P w=.ok () w:=by
 cases u<;>simp [isSc] at hu<;>cases op<;>simp [eqGuard,sc]
theorem x_bin {o:Oper} {op:BinOp} {t yt:TypeId} {x y:Operand} {xx xy:X} {v:V} (hρ:OpR h ds G w ρ e) (hm:MR G w m) (ho:o.op=.binOp op t x y yt)
  (hx:cX h ds x=some xx) (hy:cX h ds y=some xy) (hv:binV op (ρ xx) (ρ xy)=some v):Res ((execOp e o).run P w) G w m v m k:=by
 obtain ⟨h1,h2,h3,h4⟩:=binV_run (P:=P) (t:=t) hv w
 have hx':=(hρ _ _ hx).is_sc h1
 have hy':=(hρ _ _ hy).is_sc h2
 refine .same hm (x:=sc v) ?_ (.of_sc _ h3)
 simp only [execOp,ho,Sem.run_bind,hx',hy',eqGuard_sc h1,h4,Result.andThen_ok]
 rfl
theorem x_eqb {o:Oper} {op:BinOp} {t yt:TypeId} {x y:Operand} {xx xy:X} {a b:Bool} (hρ:OpR h ds G w ρ e) (hm:MR G w m) (ho:o.op=.binOp op t x y yt)
  (hop:op=.eql∨op=.neq) (hu:P.underlying t=some .bool) (hx:cX h ds x=some xx) (hy:cX h ds y=some xy) (ha:ρ xx=.bool a) (hb:ρ xy=.bool b):
  Res ((execOp e o).run P w) G w m (.bool (if op=.neq then a != b else a == b)) m k:=by
 have h1:=hρ _ _ hx
 have h2:=hρ _ _ hy
 rw [ha] at h1; rw [hb] at h2
 have e1:=h1.bool_inv
 have e2:=h2.bool_inv
 refine .same hm ?_ (.bool _ _)
 have heq:∀ w,(Op.equal t (.bool a) (.bool b)).run P w=.ok (a == b) w:=by
  intro w
  have h:∀ d,(Op.equalIn (d+1) t (.bool a) (.bool b)).run P w=.ok (a == b) w:=fun d=>by simp [Op.equalIn,run_underlying hu]
  exact h 9999
 rcases hop with rfl | rfl<;>(simp only [execOp,ho,e1,e2,eqGuard,binOp,Sem.run_bind,heq,Result.andThen_ok]; simp [bne])
theorem x_un {o:Oper} {op:UnOp} {t:TypeId} {x:Operand} {xx:X} {v:V} (hρ:OpR h ds G w ρ e) (hm:MR G w m) (ho:o.op=.unOp op t x)
  (hx:cX h ds x=some xx) (hv:unV op (ρ xx)=some v):Res ((execOp e o).run P w) G w m v m k:=by
 have h1:=hρ _ _ hx
 cases hu:ρ xx with
 | int kk n=>
  rw [hu] at h1 hv
  have e1:=h1.int_inv
  simp only [unV] at hv
  cases op<;>simp at hv
  ·subst hv
   exact .same hm (by simp [execOp,ho,e1,Op.unary,Op.intArith]) (.int _ _ _)
  ·subst hv
   exact .same hm (by simp [execOp,ho,e1,Op.unary,Op.intBits,notI]) (.int _ _ _)
 | flt b=>
  rw [hu] at h1 hv
  have e1:=h1.flt_inv
  simp only [unV] at hv
  cases op<;>simp at hv
  subst hv
  exact .same hm (by simp [execOp,ho,e1,Op.unary,Op.negFloat,FloatKind.format,Ieee.double]) (.flt _ _)
 | bool b=>
  rw [hu] at h1 hv
  have e1:=h1.bool_inv
  simp only [unV] at hv
  cases op<;>simp at hv
  subst hv
  exact .same hm (by simp [execOp,ho,e1,Op.unary]) (.bool _ _)
 | _=>rw [hu] at hv; simp [unV] at hv
theorem x_i2i {o:Oper} {s t:TypeId} {x:Operand} {xx:X} {kk kd:IntKind} {sd:IntKind} {n:Int} (hρ:OpR h ds G w ρ e) (hm:MR G w m) (ho:o.op=.convert s t x)
  (hs:P.underlying s=some (.int sd)) (ht:P.underlying t=some (.int kd)) (hx:cX h ds x=some xx) (hv:ρ xx=.int kk n):
  Res ((execOp e o).run P w) G w m (.int kd (kd.wrap n)) m k:=by
 have h1:=hρ _ _ hx
 rw [hv] at h1
 exact .same hm (by simp [execOp,ho,h1.int_inv,convert,run_underlying hs,run_underlying ht,Conv.intToInt]) (.int _ _ _)
theorem x_i2f {o:Oper} {s t:TypeId} {x:Operand} {xx:X} {kk:IntKind} {sd:IntKind} {n:Int} (hρ:OpR h ds G w ρ e) (hm:MR G w m) (ho:o.op=.convert s t x)
  (hs:P.underlying s=some (.int sd)) (ht:P.underlying t=some (.float .f64)) (hx:cX h ds x=some xx) (hv:ρ xx=.int kk n):
  Res ((execOp e o).run P w) G w m (.flt (FloatKind.f64.nearest n)) m k:=by
 have h1:=hρ _ _ hx
 rw [hv] at h1
 exact .same hm (by simp [execOp,ho,h1.int_inv,convert,run_underlying hs,run_underlying ht,Conv.intToFloat]) (.flt _ _)
theorem x_f2i {o:Oper} {s t:TypeId} {x:Operand} {xx:X} {kd:IntKind} {b:Nat} {n:Int} (hρ:OpR h ds G w ρ e) (hm:MR G w m) (ho:o.op=.convert s t x)
  (hs:P.underlying s=some (.float .f64)) (ht:P.underlying t=some (.int kd)) (hx:cX h ds x=some xx) (hv:ρ xx=.flt b)
  (hn:(FloatKind.f64.decode b).toInt .zero=some n) (hr:kd.min≤n∧n≤kd.max):Res ((execOp e o).run P w) G w m (.int kd n) m k:=by
 have h1:=hρ _ _ hx
 rw [hv] at h1
 exact .same hm (by simp [execOp,ho,h1.flt_inv,convert,run_underlying hs,run_underlying ht,Conv.floatToInt,hn,hr]) (.int _ _ _)
theorem x_same {o:Oper} {s t:TypeId} {x:Operand} {xx:X} {l:List UInt8} (hρ:OpR h ds G w ρ e) (hm:MR G w m) (ho:o.op=.convert s t x)
  (hs:P.underlying s=some .string) (ht:P.underlying t=some .string) (hx:cX h ds x=some xx) (hv:ρ xx=.str l):
  Res ((execOp e o).run P w) G w m (.str l) m k:=by
 have h1:=hρ _ _ hx
 rw [hv] at h1
 exact .same hm (by simp [execOp,ho,h1.str_inv,convert,run_underlying hs,run_underlying ht]) (.str _ _)
theorem add_plain (b o n:Nat):(⟨b,o,none⟩:Addr).add n=⟨b,o+n,none⟩:=by unfold Addr.add; split<;>simp_all
theorem offV_ok {d:Nat} {u v:V} {x:Value} (hu:VR G w 2 u x) (hv:offV d u=some v):∃ b o,x=.pointer (some ⟨b,o,none⟩)∧VR G w 2 v (.pointer (some ⟨b,o+d,none⟩)):=by
 cases hu with
 | ip r t cs off b o x hf hx hv'=>
  simp [offV] at hv; subst hv
  exact ⟨b,o+off,rfl,by rw [Nat.add_assoc]; exact .ip _ t cs (off+d) b o x hf hx hv'⟩
 | ptr r id idx off b sz cap hr hb=>
  simp [offV] at hv; subst hv
  exact ⟨b,idx * sz+off,rfl,by rw [Nat.add_assoc]; exact .ptr _ id idx (off+d) b sz cap hr hb⟩
 | lp r j off b hr hb=>
  simp [offV] at hv; subst hv
  exact ⟨b,off,rfl,.lp _ j (off+d) b hr hb⟩
 | _=>simp [offV] at hv
theorem fieldT_ok {t ft:TypeId} {i d:Nat} (hf:fieldT P t i=some (d,ft)):∃ (fs:Array Field) (f:Field),P.underlying t=some (.struct fs)∧fs[i]?=some f∧f.offset=d∧f.type=ft:=by
 unfold fieldT und at hf
 split at hf
 ·rename_i fs hu
  split at hf
  ·rename_i f he
   cases hf
   exact ⟨fs,f,hu,by simpa using he,rfl,rfl⟩
  ·cases hf
 ·cases hf
theorem x_off {o:Oper} {t ft:TypeId} {x:Operand} {xx:X} {i d n:Nat} {v:V} (hρ:OpR h ds G w ρ e) (hm:MR G w m) (ho:o.op=.fieldAddr t x i)
  (hf:fieldT P t i=some (d,ft)) (hn:szOf P ft=some n) (hn0:n≠0) (hx:cX h ds x=some xx) (hv:offV d (ρ xx)=some v):
  Res ((execOp e o).run P w) G w m v m k:=by
 obtain ⟨b,q,h1,h2⟩:=offV_ok (hρ _ _ hx) hv
 obtain ⟨fs,f,hu,hi,rfl,rfl⟩:=fieldT_ok hf
 refine .same hm ?_ h2
 simp [execOp,ho,h1,Instr.fieldAt,run_underlying hu,hi,Instr.sureAddr,fieldPlace,szOf_run hn,hn0,add_plain]
theorem part_ok {cs:List V} {xs:Array Value} {t:TypeId} {ag:Bool} {n d:Nat} {v:V} (hs:xs.size=cs.length) (hf:∀ v∈cs,v.flat=true)
  (hx:∀ (j:Nat) v,cs[j]?=some v→VR G w 1 v (xs.getD j undef)) (ha:aggT P t=some ag) (hn:szOf P t=some n) (hv:loadAt ag n cs d=some v) (w':World):
  ∃ x,(part t xs d).run P w'=.ok x w'∧VR G w 2 v x:=by
 unfold loadAt at hv
 cases ag with
 | true=>
  simp only [if_true] at hv
  split at hv
  ·rename_i hle
   cases hv
   refine ⟨.agg (xs.extract d (d+n)),by simp [part,aggT_run ha,szOf_run hn],.agg _ _ _ (by simp; omega) (fun v hv=>hf v (List.mem_of_mem_drop (List.mem_of_mem_take hv))) ?_⟩
   intro j v hj
   have hjn:j<n:=by
    have:=(List.getElem?_eq_some_iff.1 hj).1
    simp at this; omega
   rw [List.getElem?_take_of_lt hjn,List.getElem?_drop] at hj
   have:=hx _ _ hj
   have hlt:d+j<xs.size:=by rw [hs]; exact (List.getElem?_eq_some_iff.1 hj).1
   simpa [Array.getD_eq_getD_getElem?,Array.getElem?_extract,hjn,hlt,show j<min (d+n) xs.size - d by omega] using this
  ·cases hv
 | false=>
  simp at hv
  have hlt:d<xs.size:=by rw [hs]; exact (List.getElem?_eq_some_iff.1 hv).1
  have h1:=hx _ _ hv
  refine ⟨xs[d],by simp [part,aggT_run ha,hlt],?_⟩
  simpa [Array.getD_eq_getD_getElem?,hlt] using h1.up (by omega)
theorem x_fld {o:Oper} {t ft:TypeId} {x:Operand} {xx:X} {i d n:Nat} {ag:Bool} {cs:List V} {v:V} (hρ:OpR h ds G w ρ e) (hm:MR G w m) (ho:o.op=.field t x i)
  (hf:fieldT P t i=some (d,ft)) (ha:aggT P ft=some ag) (hn:szOf P ft=some n) (hx:cX h ds x=some xx) (hc:ρ xx=.agg cs) (hv:loadAt ag n cs d=some v):
  Res ((execOp e o).run P w) G w m v m k:=by
 obtain ⟨fs,f,hu,hi,rfl,rfl⟩:=fieldT_ok hf
 have h1:=hρ _ _ hx
 rw [hc] at h1
 generalize hq:e x=q at h1
 cases h1 with
 | agg r cs xs hs hfl hx'=>
  obtain ⟨z,hz,hr⟩:=part_ok hs hfl (fun j v hj=>hx' j v hj) ha hn hv w
  exact .same hm (by simp [execOp,ho,hq,Instr.field,run_underlying hu,hi,asAgg,hz]) hr
theorem asIx_ok {n q:Nat} {i:V} {x:Value} (hi:VR G w 2 i x) (hq:asIx n i=some q):q<n∧∃ kk,x=.int kk q:=by
 cases i with
 | int kk z=>
  simp only [asIx] at hq
  split at hq
  ·rename_i hz
   cases hq
   refine ⟨by omega,kk,?_⟩
   rw [hi.int_inv]; congr 1; omega
  ·cases hq
 | _=>simp [asIx] at hq
theorem x_iaA {o:Oper} {t el:TypeId} {x i:Operand} {xx xi:X} {len sz q:Nat} {v:V} (hρ:OpR h ds G w ρ e) (hm:MR G w m) (ho:o.op=.indexAddr t x i)
  (hu:P.underlying t=some (.array len el)) (hn:szOf P el=some sz) (hx:cX h ds x=some xx) (hi:cX h ds i=some xi) (hq:asIx len (ρ xi)=some q)
  (hv:offV (q * sz) (ρ xx)=some v):Res ((execOp e o).run P w) G w m v m k:=by
 obtain ⟨b,z,h1,h2⟩:=offV_ok (hρ _ _ hx) hv
 obtain ⟨hlt,kk,h3⟩:=asIx_ok (hρ _ _ hi) hq
 refine .same hm ?_ h2
 simp [execOp,ho,h1,h3,Instr.indexAt,asIntOf,run_underlying hu,Instr.sureAddr,hlt,szOf_run hn,add_plain]
theorem x_ixA {o:Oper} {t el:TypeId} {x i:Operand} {xx xi:X} {len sz q:Nat} {ag:Bool} {cs:List V} {v:V} (hρ:OpR h ds G w ρ e) (hm:MR G w m) (ho:o.op=.index t x i)
  (hu:P.underlying t=some (.array len el)) (hn:szOf P el=some sz) (ha:aggT P el=some ag) (hx:cX h ds x=some xx) (hi:cX h ds i=some xi) (hq:asIx len (ρ xi)=some q)
  (hc:ρ xx=.agg cs) (hv:loadAt ag sz cs (q * sz)=some v):Res ((execOp e o).run P w) G w m v m k:=by
 obtain ⟨hlt,kk,h3⟩:=asIx_ok (hρ _ _ hi) hq
 have h1:=hρ _ _ hx
 rw [hc] at h1
 generalize hqq:e x=z at h1
 cases h1 with
 | agg r cs xs hs hfl hx'=>
  obtain ⟨y,hy,hr⟩:=part_ok hs hfl (fun j v hj=>hx' j v hj) ha hn hv w
  exact .same hm (by simp [execOp,ho,hqq,h3,Instr.index,asIntOf,run_underlying hu,hlt,szOf_run hn,hy]) hr
theorem x_ixS {o:Oper} {t:TypeId} {x i:Operand} {xx xi:X} {q:Nat} {s:List UInt8} {b:UInt8} (hρ:OpR h ds G w ρ e) (hm:MR G w m) (ho:o.op=.index t x i)
  (hu:P.underlying t=some .string) (hx:cX h ds x=some xx) (hi:cX h ds i=some xi) (hs:ρ xx=.str s) (hq:asIx s.length (ρ xi)=some q)
  (hb:s[q]?=some b):Res ((execOp e o).run P w) G w m (.int .u8 b.toNat) m k:=by
 obtain ⟨hlt,kk,h3⟩:=asIx_ok (hρ _ _ hi) hq
 have h1:=hρ _ _ hx
 rw [hs] at h1
 have h4:(ByteArray.mk s.toArray)[q]?=some b:=by
  show (if h:q<(ByteArray.mk s.toArray).size then some (ByteArray.mk s.toArray)[q] else none)=some b
  have hq':q<(ByteArray.mk s.toArray).size:=by simpa [ByteArray.size] using hlt
  rw [dif_pos hq']
  obtain ⟨hl,he⟩:=List.getElem?_eq_some_iff.1 hb
  simp [ByteArray.getElem_eq_getElem_data,he]
 exact .same hm (by simp [execOp,ho,h1.str_inv,h3,Instr.index,asIntOf,run_underlying hu,h4]) (.int _ _ _)
theorem x_ext {o:Oper} {x:Operand} {xx:X} {i:Nat} {vs:List V} {v:V} (hρ:OpR h ds G w ρ e) (hm:MR G w m) (ho:o.op=.extract x i)
  (hx:cX h ds x=some xx) (hs:ρ xx=.tup vs) (hv:vs[i]?=some v):Res ((execOp e o).run P w) G w m v m k:=by
 have h1:=hρ _ _ hx
 rw [hs] at h1
 generalize hq:e x=z at h1
 cases h1 with
 | tup r cs xs hs' hx'=>
  have hlt:i<xs.size:=by rw [hs']; exact (List.getElem?_eq_some_iff.1 hv).1
  have h2:=hx' _ _ hv
  refine .same hm (x:=xs[i]) (by simp [execOp,ho,hq,Instr.extract,hlt]) ?_
  simpa [Array.getD_eq_getD_getElem?,hlt] using h2.up (by omega)
theorem x_nilck {o:Oper} {x:Operand} {xx:X} {v:V} (hρ:OpR h ds G w ρ e) (hm:MR G w m) (ho:o.op=.nilCheck x)
  (hx:cX h ds x=some xx) (hs:ρ xx=v) (hv:(∃ a b c,v=.ptr a b c)∨(∃ a b c,v=.ip a b c)∨(∃ a b,v=.lp a b)∨∃ a b c,v=.fn a b c):
  Res ((execOp e o).run P w) G w m v m k:=by
 have h1:=hρ _ _ hx
 rw [hs] at h1
 refine .same hm (x:=e x) ?_ h1
 generalize hz:e x=z at h1
 rcases hv with ⟨a,b,c,rfl⟩ | ⟨a,b,c,rfl⟩ | ⟨a,b,rfl⟩ | ⟨a,b,c,rfl⟩<;>cases h1<;>simp [execOp,ho,hz]
end
section
variable {P:Program} {G:Gh} {w:World}
/-! ### structs and arrays, compared -/
theorem forIn_stop {α:Type} (g:α→Option Bool × Unit→Sem (ForInStep (Option Bool × Unit))) (w:World):∀ (l:List α) (bs:List Bool),bs.length=l.length →
  (∀ (i:Nat) (a:α) (b:Bool),l[i]?=some a→bs[i]?=some b→(g a (none,())).run P w=.ok (if b then .yield (none,()) else .done (some false,())) w) →
  (forIn l (none,()) g).run P w=.ok (if bs.all id then (none,()) else (some false,())) w
 | [],[],_,_=>by simp
 | a :: l,b :: bs,hl,h=>by
  have h0:=h 0 a b rfl rfl
  have ih:=forIn_stop g w l bs (by simpa using hl) fun i a b h1 h2=>h (i+1) a b (by simpa using h1) (by simpa using h2)
  rw [List.forIn_cons]
  cases b with
  | true=>
   simp only [if_true] at h0
   simp only [Sem.run_bind,h0,Result.andThen_ok,List.all_cons,id,Bool.true_and]
   exact ih
  | false=>
   simp only [Bool.false_eq_true,if_false] at h0
   simp [Sem.run_bind,h0,Result.andThen_ok]
theorem eqaV_len:∀ {ks:List CK} {l r:List V} {b:Bool},eqaV ks l r=some b→l.length=ks.length∧r.length=ks.length
 | [],[],[],_,_=>by simp
 | k :: ks,x :: l,y :: r,b,h=>by
  simp only [eqaV] at h
  split at h
  ·split at h
   ·rename_i h2
    have:=eqaV_len h2
    simp [this.1,this.2]
   ·cases h
  ·cases h
 | [],_ :: _,_,_,h=>by simp [eqaV] at h
 | [],[],_ :: _,_,h=>by simp [eqaV] at h
 | _ :: _,[],_,_,h=>by simp [eqaV] at h
 | _ :: _,_ :: _,[],_,h=>by simp [eqaV] at h
theorem eqaV_append:∀ {k1 k2:List CK} {l r:List V} {b:Bool},eqaV (k1 ++ k2) l r=some b→∃ b1 b2,eqaV k1 (l.take k1.length) (r.take k1.length)=some b1∧eqaV k2 (l.drop k1.length) (r.drop k1.length)=some b2∧b=(b1 && b2)
 | [],k2,l,r,b,h=>⟨true,b,by simp [eqaV],by simpa using h,by simp⟩
 | k :: k1,k2,l,r,b,h=>by
  match l,r,h with
  | [],_,h=>simp [eqaV] at h
  | _ :: _,[],h=>simp [eqaV] at h
  | x :: l,y :: r,h=>
   simp only [List.cons_append,eqaV] at h
   split at h
   ·rename_i c hc
    split at h
    ·rename_i d hd
     cases h
     obtain ⟨b1,b2,e1,e2,rfl⟩:=eqaV_append hd
     exact ⟨c && b1,b2,by simp [eqaV,hc,e1],by simpa using e2,by simp [Bool.and_assoc]⟩
    ·cases h
   ·cases h
theorem eqcV_one {k:CK} {u v:V} {b:Bool} (h:eqaV [k] [u] [v]=some b):eqcV k u v=some b:=by
 simp only [eqaV] at h
 split at h
 ·rename_i c hc; rw [hc]; simpa using h
 ·cases h
def Shp (P:Program) (t:TypeId) (u:V):Prop:=∀ ag,aggT P t=some ag→if ag then ∃ cs,u=.agg cs else u.cells=[u]
theorem flat_cells {v:V} (h:v.flat=true):v.cells=[v]:=by cases v<;>first | rfl | simp [V.flat] at h
theorem piece_eq {t:TypeId} {ag:Bool} {n off:Nat} {cs:List V} {xs:Array Value} (hs:xs.size=cs.length) (hf:∀ v∈cs,v.flat=true) (hx:∀ (j:Nat) v,cs[j]?=some v→VR G w 1 v (xs.getD j undef))
  (ha:aggT P t=some ag) (hn:szOf P t=some n) (hag:ag=false→n=1) (hle:off+n≤cs.length):
  ∃ v x,(part t xs off).run P w=.ok x w∧VR G w 2 v x∧v.cells=(cs.drop off).take n∧Shp P t v:=by
 cases ag with
 | true=>
  obtain ⟨x,h4,h5⟩:=part_ok (d:=off) (v:=.agg ((cs.drop off).take n)) hs hf hx ha hn (by simp [loadAt,hle]) w
  refine ⟨_,x,h4,h5,rfl,fun ag h=>?_⟩
  rw [ha] at h; cases h
  exact ⟨_,rfl⟩
 | false=>
  have:=hag rfl
  subst this
  obtain ⟨x,h4,h5⟩:=part_ok (d:=off) (v:=cs[off]) hs hf hx ha hn (by simp [loadAt]) w
  have hc:=flat_cells (hf cs[off] (List.getElem_mem _))
  refine ⟨_,x,h4,h5,?_,fun ag h=>?_⟩
  ·rw [hc,List.drop_eq_getElem_cons (by omega)]; rfl
  ·rw [ha] at h; cases h
   exact hc
theorem cks_one {d:Nat} {t:TypeId} {c:List CK} (h:cksT P d t=some c) (ha:aggT P t=some false):c.length=1:=by
 cases d with
 | zero=>simp [cksT] at h
 | succ d=>
  simp only [cksT] at h
  simp only [aggT,Option.map_eq_some_iff] at ha
  obtain ⟨dd,h1,h2⟩:=ha
  rw [h1] at h
  cases dd<;>simp only [reduceCtorEq,Bool.true_eq_false,Option.some.injEq] at h h2<;>first
   | (subst h; rfl)
   | (split at h<;>first
    | (cases h; done)
    | (rename_i hq; cases hq; done)
    | (cases h; rfl)
    | (simp only [Option.some.injEq,reduceCtorEq] at *; done))
theorem Shp.one {t:TypeId} {u:V} (h:Shp P t u) {d:TypeDesc} (hd:P.underlying t=some d) (h1:∀ fs,d≠.struct fs) (h2:∀ n e,d≠.array n e):u.cells=[u]:=by
 have:aggT P t=some false:=by
  unfold aggT und
  rw [hd]
  cases d<;>first | rfl | exact absurd rfl (h1 _) | exact absurd rfl (h2 _ _)
 simpa using h false this
theorem Shp.agg {t:TypeId} {u:V} (h:Shp P t u) {d:TypeDesc} (hd:P.underlying t=some d) (h1:(∃ fs,d=.struct fs)∨∃ n e,d=.array n e):∃ cs,u=.agg cs:=by
 have:aggT P t=some true:=by
  unfold aggT und
  rw [hd]
  rcases h1 with ⟨fs,rfl⟩ | ⟨n,e,rfl⟩<;>rfl
 simpa using h true this
theorem equal_ok:∀ (d:Nat) (t:TypeId) (ks:List CK),cksT P d t=some ks→∀ (n:Nat),d≤n→∀ (u v:V) (x y:Value) (b:Bool),VR G w 2 u x→VR G w 2 v y→Shp P t u→Shp P t v →
  eqaV ks u.cells v.cells=some b→(Op.equalIn n t x y).run P w=.ok b w
 | 0,t,ks,h,n,hn,u,v,x,y,b,hx,hy,hu,hv,he=>by simp [cksT] at h
 | d+1,t,ks,h,n,hn,u,v,x,y,b,hx,hy,hu,hv,he=>by
  obtain ⟨n,rfl⟩:∃ k,n=k+1:=⟨n - 1,by omega⟩
  have sub:=equal_ok d
  simp only [cksT] at h
  split at h
  ·rename_i hd
   have hp:P.underlying t=_:=hd
   cases h
   rw [hu.one hp (by simp) (by simp),hv.one hp (by simp) (by simp)] at he
   have he:=eqcV_one he
   cases u<;>cases v<;>simp only [eqcV,reduceCtorEq] at he
   cases hx; cases hy; cases he
   simp [Op.equalIn,run_underlying hp]
  ·rename_i hd
   have hp:P.underlying t=_:=hd
   cases h
   rw [hu.one hp (by simp) (by simp),hv.one hp (by simp) (by simp)] at he
   have he:=eqcV_one he
   cases u<;>cases v<;>simp only [eqcV,reduceCtorEq] at he
   split at he
   ·rename_i hk
    cases hx; cases hy; cases he
    subst hk
    simp [Op.equalIn,run_underlying hp]
   ·cases he
  ·rename_i hd
   have hp:P.underlying t=_:=hd
   cases h
   rw [hu.one hp (by simp) (by simp),hv.one hp (by simp) (by simp)] at he
   have he:=eqcV_one he
   cases u<;>cases v<;>simp only [eqcV,reduceCtorEq] at he
   cases hx; cases hy; cases he
   simp [Op.equalIn,run_underlying hp,Op.floatEq,FloatKind.format]
  ·rename_i hd
   have hp:P.underlying t=_:=hd
   cases h
   rw [hu.one hp (by simp) (by simp),hv.one hp (by simp) (by simp)] at he
   have he:=eqcV_one he
   cases u<;>cases v<;>simp only [eqcV,reduceCtorEq] at he
   cases hx; cases hy; cases he
   have eb:∀ a b:List UInt8,((⟨a.toArray⟩:ByteArray) == ⟨b.toArray⟩)=(a == b):=by
    intro a b
    rw [beq_toListBytes,toList_mk,toList_mk]
   simp [Op.equalIn,run_underlying hp,eb]
  ·rename_i fs hd
   have hp:P.underlying t=_:=hd
   split at h
   ·cases h
   ·rename_i hst
    obtain ⟨cs,rfl⟩:=hu.agg hp (.inl ⟨_,rfl⟩)
    obtain ⟨ds,rfl⟩:=hv.agg hp (.inl ⟨_,rfl⟩)
    cases hx with
    | agg _ _ xs hs1 hf1 hx1=>
    cases hy with
    | agg _ _ ys hs2 hf2 hx2=>
    simp only [V.cells] at he
    have hl:=eqaV_len he
    have key:∀ (l:List Field) (off:Nat) (ks:List CK) (b:Bool),cksF P (cksT P d) off l=some ks→off≤cs.length→off≤ds.length→eqaV ks (cs.drop off) (ds.drop off)=some b →
      ∃ bs : List Bool, bs.length = l.length ∧ bs.all id = b ∧ ∀ (i : Nat) (f : Field) (c : Bool), l[i]? = some f → bs[i]? = some c → f.name ≠ "_" ∧ ∃ p q, (part f.type xs f.offset).run P w = .ok p w ∧ (part f.type ys f.offset).run P w = .ok q w ∧ (Op.equalIn n f.type p q).run P w = .ok c w := by
     intro l
     induction l with
     | nil=>
      intro off ks b hk h1 h2 hb
      simp only [cksF,Option.some.injEq] at hk
      subst hk
      have:=eqaV_len hb
      simp at this
      refine ⟨[],rfl,?_,by simp⟩
      rw [List.drop_of_length_le (by omega),List.drop_of_length_le (by omega)] at hb
      simpa [eqaV] using hb
     | cons f l ih=>
      intro off ks b hk h1 h2 hb
      simp only [cksF] at hk
      split at hk
      ·cases hk
      ·rename_i c hc
       split at hk
       ·cases hk
       ·rename_i r hr
        split at hk
        ·rename_i hcond
         obtain ⟨n1,n2,n3,n4⟩:=hcond
         cases hk
         have hbl:=eqaV_len hb
         simp at hbl
         obtain ⟨b1,b2,e1,e2,rfl⟩:=eqaV_append hb
         rw [List.drop_drop,List.drop_drop] at e2
         obtain ⟨bs,l1,l2,l3⟩:=ih (off+c.length) r b2 hr (by omega) (by omega) e2
         obtain ⟨ag,hag⟩:=Option.isSome_iff_exists.1 n4
         have hag1:ag=false→c.length=1:=fun q=>cks_one hc (by rw [hag,q])
         obtain ⟨p1,x1,a1,a2,a3,a4⟩:=piece_eq (off:=off) hs1 hf1 (fun j v hj=>hx1 j v hj) hag n3 hag1 (by omega)
         obtain ⟨p2,x2,c1,c2,c3,c4⟩:=piece_eq (off:=off) hs2 hf2 (fun j v hj=>hx2 j v hj) hag n3 hag1 (by omega)
         refine ⟨b1 :: bs,by simp [l1],by simp [l2],fun i g q hi hq=>?_⟩
         cases i with
         | zero=>
          simp at hi hq
          subst hi; subst hq
          rw [n2]
          exact ⟨n1,x1,x2,a1,c1,sub f.type c hc n (by omega) p1 p2 x1 x2 b1 a2 c2 a4 c4 (by rw [a3,c3]; exact e1)⟩
         | succ i=>exact l3 i g q (by simpa using hi) (by simpa using hq)
        ·cases hk
    obtain ⟨bs,l1,l2,l3⟩:=key fs.toList 0 ks b h (by omega) (by omega) (by simpa using he)
    have hst':P.stoodInHeld t=false:=by simpa using hst
    simp only [Op.equalIn,Sem.run_bind,run_underlying hp,Result.andThen_ok,run_program,hst',Bool.false_eq_true,if_false]
    rw [← Array.forIn_toList,forIn_stop _ _ fs.toList bs l1]
    ·simp only [Result.andThen_ok,l2]
     cases b<;>simp
    ·intro i f c hi hc
     obtain ⟨m1,p,q,m2,m3,m4⟩:=l3 i f c hi hc
     rw [if_pos m1]
     simp only [Sem.run_bind,m2,m3,m4,Result.andThen_ok]
     cases c<;>simp
  ·rename_i k el hd
   have hp:P.underlying t=_:=hd
   split at h
   ·rename_i c hc
    split at h
    ·rename_i hcond
     obtain ⟨n3,n4⟩:=hcond
     cases h
     obtain ⟨cs,rfl⟩:=hu.agg hp (.inr ⟨_,_,rfl⟩)
     obtain ⟨ds,rfl⟩:=hv.agg hp (.inr ⟨_,_,rfl⟩)
     cases hx with
     | agg _ _ xs hs1 hf1 hx1=>
     cases hy with
     | agg _ _ ys hs2 hf2 hx2=>
     simp only [V.cells] at he
     obtain ⟨ag,hag⟩:=Option.isSome_iff_exists.1 n4
     have hag1:ag=false→c.length=1:=fun q=>cks_one hc (by rw [hag,q])
     have key:∀ (l s:Nat) (b:Bool),s * c.length≤cs.length→s * c.length≤ds.length→eqaV (List.replicate l c).flatten (cs.drop (s * c.length)) (ds.drop (s * c.length))=some b →
       ∃ bs:List Bool,bs.length=l∧bs.all id=b∧∀ (i:Nat) (q:Bool),bs[i]?=some q→∃ p z,(part el xs ((s+i) * c.length)).run P w=.ok p w∧(part el ys ((s+i) * c.length)).run P w=.ok z w∧(Op.equalIn n el p z).run P w=.ok q w:=by
      intro l
      induction l with
      | zero=>
       intro s b h1 h2 hb
       have:=eqaV_len hb
       simp at this
       refine ⟨[],rfl,?_,by simp⟩
       rw [List.drop_of_length_le (by omega),List.drop_of_length_le (by omega)] at hb
       simpa [eqaV] using hb
      | succ l ih=>
       intro s b h1 h2 hb
       rw [List.replicate_succ,List.flatten_cons] at hb
       have hbl:=eqaV_len hb
       simp at hbl
       obtain ⟨b1,b2,e1,e2,rfl⟩:=eqaV_append hb
       rw [List.drop_drop,List.drop_drop] at e2
       have es:s * c.length+c.length=(s+1) * c.length:=by rw [Nat.succ_mul]
       rw [es] at e2
       have le1:s * c.length+c.length≤cs.length:=by omega
       have le2:s * c.length+c.length≤ds.length:=by omega
       obtain ⟨bs,l1,l2,l3⟩:=ih (s+1) b2 (by omega) (by omega) e2
       obtain ⟨p1,x1,a1,a2,a3,a4⟩:=piece_eq (off:=s * c.length) hs1 hf1 (fun j v hj=>hx1 j v hj) hag n3 hag1 le1
       obtain ⟨p2,x2,c1,c2,c3,c4⟩:=piece_eq (off:=s * c.length) hs2 hf2 (fun j v hj=>hx2 j v hj) hag n3 hag1 le2
       refine ⟨b1 :: bs,by simp [l1],by simp [l2],fun i q hq=>?_⟩
       cases i with
       | zero=>
        simp at hq
        subst hq
        exact ⟨x1,x2,a1,c1,sub el c hc n (by omega) p1 p2 x1 x2 b1 a2 c2 a4 c4 (by rw [a3,c3]; exact e1)⟩
       | succ i=>
        rw [show s+(i+1)=s+1+i by omega]
        exact l3 i q (by simpa using hq)
     obtain ⟨bs,l1,l2,l3⟩:=key k 0 b (by omega) (by omega) (by simpa using he)
     simp only [Op.equalIn,Sem.run_bind,run_underlying hp,Result.andThen_ok,szOf_run n3]
     rw [Std.Legacy.Range.forIn_eq_forIn_range',forIn_stop _ _ _ bs (by simp [l1])]
     ·simp only [Result.andThen_ok,l2]
      cases b<;>simp
     ·intro i f q hi hq
      obtain ⟨p,z,m2,m3,m4⟩:=l3 i q hq
      have:f=i:=by
       have:=List.getElem?_eq_some_iff.1 hi
       obtain ⟨h1,h2⟩:=this
       simpa using h2.symm
      subst this
      rw [Nat.zero_add] at m2 m3
      simp only [Sem.run_bind,m2,m3,m4,Result.andThen_ok]
      cases q<;>simp
    ·cases h
   ·cases h
  ·cases h
theorem x_eqa {h:Hint} {ds:List (Option Nat)} {m:Mem} {ρ:X→V} {e:Operand→Value} {k:Bool→Nat→Prop} {o:Oper} {op:BinOp} {t yt:TypeId} {x y:Operand} {xx xy:X} {a c:List V} {b:Bool} {ks:List CK} {dd:TypeDesc}
  (hρ:OpR h ds G w ρ e) (hm:MR G w m) (ho:o.op=.binOp op t x y yt) (hop:op=.eql∨op=.neq) (hu:P.underlying t=some dd) (hd:(∃ fs,dd=.struct fs)∨∃ n e,dd=.array n e)
  (hg:P.eqGuardType P.depth t=false) (hk:cksT P 8 t=some ks) (hx:cX h ds x=some xx) (hy:cX h ds y=some xy) (ha:ρ xx=.agg a) (hc:ρ xy=.agg c) (hb:eqaV ks a c=some b):
  Res ((execOp e o).run P w) G w m (.bool (if op=.neq then !b else b)) m k:=by
 have h1:=hρ _ _ hx
 have h2:=hρ _ _ hy
 rw [ha] at h1; rw [hc] at h2
 have sh:∀ q,Shp P t (.agg q):=by
  intro q ag hag
  unfold aggT und at hag
  rw [hu] at hag
  rcases hd with ⟨fs,rfl⟩ | ⟨n,e,rfl⟩<;>(simp at hag; subst hag; exact ⟨q,rfl⟩)
 have he:(Op.equal t (e x) (e y)).run P w=.ok b w:=equal_ok 8 t ks hk Op.maxDepth (by decide) _ _ _ _ _ h1 h2 (sh _) (sh _) hb
 refine .same hm ?_ (.bool _ _)
 generalize hex:e x=p at h1 he
 generalize hey:e y=q at h2 he
 cases h1 with
 | agg _ _ xs hs1 hf1 hx1=>
 cases h2 with
 | agg _ _ ys hs2 hf2 hx2=>
 have hgd:∀ op,(eqGuard op t x y (.agg xs) (.agg ys)).run P w=.ok () w:=by
  intro op
  cases op<;>simp [eqGuard,hg]
 rcases hop with rfl | rfl<;>(simp only [execOp,ho,hex,hey,Sem.run_bind,hgd,Result.andThen_ok,binOp,he]; simp [bne])
end
end Go.Vm
namespace Go.Vm
section
variable {P:Program} {h:Hint} {ds:List (Option Nat)} {G:Gh} {w:World} {m:Mem} {ρ:X→V} {e:Operand→Value} {k:Bool→Nat→Prop}
/-! ### cells of the world -/
theorem cell?_congr {w w':World} {b o:Nat} (h:w'.heap[b]?=w.heap[b]?):w'.cell? ⟨b,o,none⟩=w.cell? ⟨b,o,none⟩:=by
 simp only [World.cell?,h]
theorem cell?_at {w:World} {b o:Nat} {c:Array Value} {ty:TypeId} {fr:Nat × Nat} (h:w.heap[b]?=some (.cells c ty fr)):w.cell? ⟨b,o,none⟩=c[o]?:=by
 simp only [World.cell?,h]; rfl
theorem frozen_at {w:World} {b o:Nat} {c:Array Value} {ty:TypeId} (h:w.heap[b]?=some (.cells c ty (0,0))):w.frozen? ⟨b,o,none⟩=false:=by
 simp only [World.frozen?,h]; simp
theorem setCells_spec (b:Nat):∀ (vs:List Value) (o:Nat) (w:World) (c:Array Value) (ty:TypeId) (fr:Nat × Nat),w.heap[b]?=some (.cells c ty fr)→o+vs.length≤c.size →
  ∃ c':Array Value,(w.setCells b o vs).heap[b]?=some (.cells c' ty fr)∧c'.size=c.size∧(∀ i,c'[i]?=if o≤i∧i<o+vs.length then vs[i - o]? else c[i]?) ∧
   (∀ b',b'≠b→(w.setCells b o vs).heap[b']?=w.heap[b']?)∧(w.setCells b o vs).heap.size=w.heap.size∧(w.setCells b o vs).os=w.os ∧
   (w.setCells b o vs).tape=w.tape∧(w.setCells b o vs).output=w.output
 | [],o,w,c,ty,fr,hb,_=>⟨c,hb,rfl,fun i=>by rw [if_neg (fun h=>by simp at h; omega)],fun _ _=>rfl,rfl,rfl,rfl,rfl⟩
 | v :: vs,o,w,c,ty,fr,hb,ho=>by
  have hb1:(w.setCell ⟨b,o,none⟩ v).heap[b]?=some (.cells (c.setIfInBounds o v) ty fr):=by
   simp [World.setCell,Array.getElem?_modify,hb]
  simp at ho
  obtain ⟨c',h1,h2,h3,h4,h5,h6,h7,h8⟩:=setCells_spec b vs (o+1) (w.setCell ⟨b,o,none⟩ v) _ ty fr hb1 (by simp; omega)
  refine ⟨c',h1,by simpa using h2,fun i=>?_,fun b' hb'=>?_,by rw [World.setCells,h5]; simp,by rw [World.setCells,h6]; rfl,by rw [World.setCells,h7]; rfl,by rw [World.setCells,h8]; rfl⟩
  ·rw [h3 i]
   by_cases e1:i=o
   ·subst e1
    rw [if_neg (by omega),if_pos (by simp)]
    simp [show i<c.size by omega]
   ·by_cases e2:o+1≤i∧i<o+1+vs.length
    ·rw [if_pos e2,if_pos (by simp; omega)]
     rw [show i - o=(i - (o+1))+1 by omega]; simp
    ·rw [if_neg e2,if_neg (by simp; omega)]
     simp [Array.getElem?_setIfInBounds,Ne.symm e1]
  ·rw [World.setCells,h4 b' hb']
   simp [World.setCell,Array.getElem?_modify,Ne.symm hb']
theorem splice_get {c cs:List V} {off:Nat} (hle:off+cs.length≤c.length) (j:Nat):(splice c off cs)[j]?=if off≤j∧j<off+cs.length then cs[j - off]? else c[j]?:=by
 unfold splice
 by_cases h1:j<off
 ·rw [if_neg (by omega),List.append_assoc,List.getElem?_append_left (by simp; omega),List.getElem?_take_of_lt h1]
 ·by_cases h2:j<off+cs.length
  ·rw [if_pos (by omega),List.append_assoc,List.getElem?_append_right (by simp; omega),List.getElem?_append_left (by simp; omega)]
   congr 1; simp; omega
  ·rw [if_neg (by omega),List.getElem?_append_right (by simp; omega),List.getElem?_drop]
   congr 1; simp; omega
theorem splice_length {c cs:List V} {off:Nat} (hle:off+cs.length≤c.length):(splice c off cs).length=c.length:=by
 unfold splice; simp; omega
theorem mem_splice {c cs:List V} {off:Nat} {v:V} (hv:v∈splice c off cs):v∈c∨v∈cs:=by
 unfold splice at hv
 rcases List.mem_append.1 hv with hv | hv
 ·rcases List.mem_append.1 hv with hv | hv
  ·exact .inl (List.mem_of_mem_take hv)
  ·exact .inr hv
 ·exact .inl (List.mem_of_mem_drop hv)
/-! ### what may stand in memory -/
theorem exp_ok {v u:V} {x:Value} {r:Nat} (he:v.exp=some u) (hr:VR G w r v x):VR G w 1 u x∧u.cells.length=x.cells.size∧(∀ c∈u.cells,c.flat=true) ∧
  ∀ (j:Nat) (c:V),u.cells[j]?=some c→VR G w 1 c (x.cells.getD j undef):=by
 have h0:VR G w 1 u x∧(u.flat=true∨∃ cs,u=.agg cs):=by
  have low:∀ {v:V},VR G w r v x→v.loc=none→(∀ es,v≠.els es)→VR G w 1 v x:=fun hr h1 h2=>(hr.lower h1 h2).up (by omega)
  cases v with
  | osl hh j es=>
   cases hh with
   | false=>
    simp [V.exp] at he; subst he
    cases hr with
    | osl _ _ _ _ _ n _ hi=>exact ⟨hi.up (by omega),.inl (ils_flat es)⟩
   | true=>simp [V.exp] at he; subst he; exact ⟨low hr rfl (by simp),.inl rfl⟩
  | lp=>simp [V.exp] at he
  | lsl=>simp [V.exp] at he
  | els=>simp [V.exp] at he
  | undef=>simp [V.exp] at he
  | skp=>simp [V.exp] at he
  | tup=>simp [V.exp] at he
  | agg cs=>simp [V.exp] at he; subst he; exact ⟨low hr rfl (by simp),.inr ⟨cs,rfl⟩⟩
  | _=>simp [V.exp] at he; subst he; exact ⟨low hr rfl (by simp),.inl rfl⟩
 obtain ⟨h1,h2⟩:=h0
 refine ⟨h1,?_⟩
 rcases h2 with h2 | ⟨cs,rfl⟩
 ·have hc:u.cells=[u]:=cells_single (fun cs e=>by subst e; simp [V.flat] at h2)
  have hx:x.cells=#[x]:=by
   have:=h1.oneCell h2
   cases x<;>first | rfl | (simp [Value.oneCell'] at this)
  rw [hc,hx]
  refine ⟨rfl,by simpa using h2,fun j c hj=>?_⟩
  cases j with
  | zero=>simp at hj; subst hj; simpa using h1
  | succ j=>simp at hj
 ·cases h1 with
  | agg _ _ xs hs hf hx=>
   exact ⟨by simpa [V.cells,Value.cells] using hs.symm,by simpa [V.cells] using hf,fun j c hj=>by simpa [Value.cells] using hx j c (by simpa [V.cells] using hj)⟩
/-! ### reading -/
def CellsAt (G:Gh) (w:World) (b o:Nat) (cs:List V):Prop:=∀ (j:Nat) (v:V),cs[j]?=some v→v.flat=true∧∃ x,w.cell? ⟨b,o+j,none⟩=some x∧VR G w 1 v x
theorem CellsAt.load {b o d n:Nat} {cs:List V} {ag:Bool} {t:TypeId} {v:V} (hc:CellsAt G w b o cs) (ha:aggT P t=some ag) (hn:szOf P t=some n)
  (hv:loadAt ag n cs d=some v):∃ x,(loadVar t ⟨b,o+d,none⟩).run P w=.ok x w∧VR G w 2 v x:=by
 unfold loadAt at hv
 cases ag with
 | true=>
  simp only [if_true] at hv
  split at hv
  ·rename_i hle
   cases hv
   have hcell:∀ j,j<n→∃ x,w.cell? ⟨b,o+(d+j),none⟩=some x∧∀ u,cs[d+j]?=some u→VR G w 1 u x:=by
    intro j hj
    obtain ⟨_,x,h1,h2⟩:=hc (d+j) cs[d+j] (by simp)
    exact ⟨x,h1,fun u hu=>by rw [List.getElem?_eq_getElem (by omega)] at hu; cases hu; exact h2⟩
   let f:Nat→Value:=fun j=>(w.cell? ⟨b,o+(d+j),none⟩).getD undef
   have hrun:=run_loadCells (P:=P) w ⟨b,o+d,none⟩ n f (fun j hj=>by
    obtain ⟨x,h1,_⟩:=hcell j hj
    rw [add_plain,Nat.add_assoc]
    simp [f,h1])
   refine ⟨.agg ((List.range n).map f).toArray,by simp [loadVar,aggT_run ha,szOf_run hn,hrun],.agg _ _ _ (by simp; omega)
    (fun u hu=>by
     obtain ⟨j,hj⟩:=List.getElem?_of_mem (List.mem_of_mem_drop (List.mem_of_mem_take hu))
     exact (hc j u hj).1) ?_⟩
   intro j u hj
   have hjn:j<n:=by
    have:=(List.getElem?_eq_some_iff.1 hj).1
    simp at this; omega
   rw [List.getElem?_take_of_lt hjn,List.getElem?_drop] at hj
   obtain ⟨x,h1,h2⟩:=hcell j hjn
   have:(((List.range n).map f).toArray).getD j undef=x:=by
    simp [Array.getD_eq_getD_getElem?,hjn,f,h1]
   rw [this]
   exact h2 u hj
  ·cases hv
 | false=>
  simp at hv
  obtain ⟨_,x,h1,h2⟩:=hc d v hv
  exact ⟨x,by simp [loadVar,aggT_run ha,h1],h2.up (by omega)⟩
theorem CellsAt.of_ip {t:Bool} {cs:List V} {off r:Nat} {x:Value} (hx:VR G w r (.ip t cs off) x):∃ b o,x=.pointer (some ⟨b,o+off,none⟩)∧CellsAt G w b o cs:=by
 cases hx with
 | ip _ _ _ _ b o x hf hx hv=>
  refine ⟨b,o,rfl,fun j v hj=>⟨hf v (List.mem_of_getElem? hj),x j,(hx j (List.getElem?_eq_some_iff.1 hj).1).2,(hv j v hj).up (by omega)⟩⟩
theorem ArrAt.cells {b s c i:Nat} {es:List (List V)} {cs:List V} (ha:ArrAt G w b s c es) (hi:es[i]?=some cs):CellsAt G w b (i * s) cs:=by
 obtain ⟨xs,ty,h1,h2,h3,h4,h5⟩:=ha
 intro j v hj
 obtain ⟨hf,x,hx,hr⟩:=h5 i j cs v hi hj
 exact ⟨hf,x,by rw [cell?_at h1]; exact hx,hr⟩
theorem evLoad_ok {ag:Bool} {n:Nat} {t:TypeId} {a v:V} {x:Value} (hm:MR G w m) (hx:VR G w 2 a x) (ha:aggT P t=some ag) (hn:szOf P t=some n) (hv:evLoad ag n m a=some v):
  ∃ b o,x=.pointer (some ⟨b,o,none⟩)∧∃ z,(loadVar t ⟨b,o,none⟩).run P w=.ok z w∧VR G w 2 v z:=by
 cases a with
 | ip t' cs off=>
  obtain ⟨b,o,rfl,hc⟩:=CellsAt.of_ip hx
  exact ⟨b,o+off,rfl,hc.load ha hn hv⟩
 | lp j off=>
  cases hx with
  | lp _ _ _ b _ hb=>
   obtain ⟨cs,h1,h2⟩:=hm.vars j b hb
   simp only [evLoad,h1] at hv
   have hc:=h2.cells (i:=0) rfl
   rw [Nat.zero_mul] at hc
   have:=hc.load (P:=P) ha hn hv
   rw [Nat.zero_add] at this
   exact ⟨b,off,rfl,this⟩
 | ptr id idx off=>
  cases hx with
  | ptr _ _ _ _ b sz cap _ hb=>
   simp only [evLoad] at hv
   split at hv
   ·rename_i es he
    split at hv
    ·rename_i cs hcs
     obtain ⟨b',s,c,h1,h2⟩:=hm.arr id es he
     rw [hb] at h1; cases h1
     exact ⟨b,idx * sz+off,rfl,(h2.cells hcs).load ha hn hv⟩
    ·cases hv
   ·cases hv
 | _=>simp [evLoad] at hv
theorem x_load {o:Oper} {t:TypeId} {x:Operand} {xx:X} {n:Nat} {ag:Bool} {v:V} (hρ:OpR h ds G w ρ e) (hm:MR G w m) (ho:o.op=.load t x)
  (ha:aggT P t=some ag) (hn:szOf P t=some n) (hx:cX h ds x=some xx) (hv:evLoad ag n m (ρ xx)=some v):Res ((execOp e o).run P w) G w m v m k:=by
 obtain ⟨b,q,h1,z,h2,h3⟩:=evLoad_ok hm (hρ _ _ hx) ha hn hv
 exact .same hm (by simp [execOp,ho,h1,Instr.loadAt,Instr.sureAddr,h2]) h3
/-! ### writing -/
theorem mul_lt_of {i idx s j:Nat} (h:i≠idx) (hj:j<s):i * s+j<idx * s∨idx * s+s≤i * s+j:=by
 rcases Nat.lt_or_ge i idx with h1 | h1
 ·left
  have:(i+1) * s≤idx * s:=Nat.mul_le_mul_right s h1
  rw [Nat.add_mul] at this; omega
 ·right
  have:(idx+1) * s≤i * s:=Nat.mul_le_mul_right s (by omega)
  rw [Nat.add_mul] at this; omega
theorem storeVar_run {t:TypeId} {n b o:Nat} {x:Value} {c:Array Value} {ty:TypeId} (hn:szOf P t=some n) (hs:x.cells.size=n) (hb:w.heap[b]?=some (.cells c ty (0,0)))
  (ho:o+n≤c.size) (h1:∀ v∈x.cells.toList,v.oneCell'=true):(storeVar t ⟨b,o,none⟩ x).run P w=.ok () (w.setCells b o x.cells.toList):=by
 have:=run_storeCells_cells (P:=P) b o x.cells.toList 0 w (fun j hj=>by
   rw [cell?_at hb]; simp at hj ⊢; omega) (fun j hj=>frozen_at hb) h1
 simp only [storeVar,Sem.run_bind,szOf_run hn,Result.andThen_ok,hs,ne_eq,not_true_eq_false,if_false]
 simpa using this
theorem ArrAt.store {b s c idx off:Nat} {es:List (List V)} {cs:List V} {v:V} {x:Value} (ha:ArrAt G w b s c es) (hi:es[idx]?=some cs) (hle:off+v.cells.length≤cs.length)
  (hsz:v.cells.length=x.cells.size) (hf:∀ u∈v.cells,u.flat=true) (hr:∀ (j:Nat) (u:V),v.cells[j]?=some u→VR G w 1 u (x.cells.getD j undef)):
  (∀ u∈x.cells.toList,u.oneCell'=true)∧∃ c₀ ty,w.heap[b]?=some (.cells c₀ ty (0,0))∧idx * s+off+v.cells.length≤c₀.size ∧
   ∀ w',w'=w.setCells b (idx * s+off) x.cells.toList→(Le G w G w'→ArrAt G w' b s c (es.set idx (splice cs off v.cells))) ∧
    (∀ b',b'≠b→w'.heap[b']?=w.heap[b']?)∧w'.heap.size=w.heap.size∧w'.os=w.os∧w'.tape=w.tape∧w'.output=w.output:=by
 obtain ⟨xs,ty,h1,h2,h3,h4,h5⟩:=ha
 have hcs:cs.length=s:=h4 cs (List.mem_of_getElem? hi)
 have hlt:idx<es.length:=(List.getElem?_eq_some_iff.1 hi).1
 have hmul:idx * s+s≤c * s:=by
  have:=Nat.mul_le_mul_right s (show idx+1≤c by omega)
  rwa [Nat.add_mul,Nat.one_mul] at this
 refine ⟨fun u hu=>?_,xs,ty,h1,by omega,fun w' hw'=>?_⟩
 ·obtain ⟨j,hj⟩:=List.getElem?_of_mem hu
  have hjl:j<x.cells.size:=by simpa using (List.getElem?_eq_some_iff.1 hj).1
  have hvj:v.cells[j]?=some v.cells[j]:=List.getElem?_eq_getElem (by omega)
  have:=(hr j _ hvj).oneCell (hf _ (List.getElem_mem _))
  have e2:x.cells.getD j undef=u:=by
   simp at hj
   simp [Array.getD_eq_getD_getElem?,hj]
  rwa [e2] at this
 ·subst hw'
  obtain ⟨c',q1,q2,q3,q4,q5,q6,q7,q8⟩:=setCells_spec b x.cells.toList (idx * s+off) w xs ty (0,0) h1 (by simp; omega)
  refine ⟨fun l=>⟨c',ty,q1,by rw [q2,h2],by simpa using h3,fun e' he'=>?_,fun i j e' u he' hu=>?_⟩,q4,q5,q6,q7,q8⟩
  ·rcases List.mem_or_eq_of_mem_set he' with he' | rfl
   ·exact h4 e' he'
   ·rw [splice_length hle]; exact hcs
  ·rw [List.getElem?_set] at he'
   by_cases ei:idx=i
   ·subst ei
    simp only [if_true] at he'
    split at he'
    ·cases he'
     rw [splice_get hle] at hu
     by_cases hin:off≤j∧j<off+v.cells.length
     ·rw [if_pos hin] at hu
      refine ⟨hf u (List.mem_of_getElem? hu),x.cells.getD (j - off) undef,?_,(hr _ u hu).mono1 l (Nat.le_refl _)⟩
      rw [q3,if_pos (by simp; omega)]
      rw [show idx * s+j - (idx * s+off)=j - off by omega]
      have:j - off<x.cells.size:=by omega
      simp [Array.getD_eq_getD_getElem?,this]
     ·rw [if_neg hin] at hu
      obtain ⟨f1,y,f2,f3⟩:=h5 idx j cs u hi hu
      refine ⟨f1,y,?_,f3.mono1 l (Nat.le_refl _)⟩
      rw [q3,if_neg (by simp; omega)]
      exact f2
    ·exact absurd hlt ‹_›
   ·rw [if_neg ei] at he'
    obtain ⟨f1,y,f2,f3⟩:=h5 i j e' u he' hu
    refine ⟨f1,y,?_,f3.mono1 l (Nat.le_refl _)⟩
    have hj:j<s:=by have:=h4 e' (List.mem_of_getElem? he'); rw [← this]; exact (List.getElem?_eq_some_iff.1 hu).1
    have:=mul_lt_of (s:=s) (Ne.symm ei) hj
    rw [q3,if_neg (by simp; omega)]
    exact f2
theorem x_store {o:Oper} {t:TypeId} {x a:Operand} {xx xa:X} {n:Nat} {v:V} {m':Mem} (hρ:OpR h ds G w ρ e) (hm:MR G w m) (ho:o.op=.store t a x)
  (hn:szOf P t=some n) (hx:cX h ds x=some xx) (ha:cX h ds a=some xa) (he:(ρ xx).exp=some v) (hv:evStore n m v (ρ xa)=some m'):
  Res ((execOp e o).run P w) G w m .undef m' k:=by
 obtain ⟨hv1,hv2,hv3,hv4⟩:=exp_ok he (hρ _ _ hx)
 have hA:=hρ _ _ ha
 generalize hz:e a=z at hA
 generalize hq:ρ xa=q at hA hv
 have fin:∀ (B:Nat) (off':Nat) (κ:Key) (es:List (List V)) (s c:Nat),z=.pointer (some ⟨B,off',none⟩)→Own G m κ B →
   v.cells.length=n→(∃ c₀ ty,w.heap[B]?=some (.cells c₀ ty (0,0))∧off'+n≤c₀.size)→(∀ u∈(e x).cells.toList,u.oneCell'=true) →
   (Upd G w m G (w.setCells B off' (e x).cells.toList) m' κ B)→Res ((execOp e o).run P w) G w m .undef m' k:=by
  intro B off' κ es s c hz' hown hlen ⟨c₀,ty,hb,hle⟩ hone u
  refine ⟨undef,w.setCells B off' (e x).cells.toList,G,.inr ⟨?_,rfl⟩,u.le,.refl _ _,u.mr hm,.undef _ _,u.fr hm⟩
  have:=storeVar_run (P:=P) (x:=e x) hn (by omega) hb hle hone
  simp [execOp,ho,hz,hz',Instr.storeAt,Instr.sureAddr,this]
 cases hA with
 | lp _ j off b _ hb=>
  simp only [evStore] at hv
  obtain ⟨cs,h1,h2⟩:=hm.vars j b hb
  simp only [h1] at hv
  split at hv
  ·rename_i hc
   cases hv
   obtain ⟨s1,c₀,ty,s2,s3,s4⟩:=h2.store (idx:=0) rfl (by rw [hc.1]; exact hc.2) hv2 hv3 hv4
   rw [Nat.zero_mul,Nat.zero_add] at s3 s4
   obtain ⟨t1,t2,t3,t4,t5,t6⟩:=s4 _ rfl
   have hnE:=fun t o=>hm.noV j b t o hb
   have le:Le G w G (w.setCells b off (e x).cells.toList):=⟨fun _ _ _ h=>h,fun t b' o' hE=>cell?_congr (t2 b' (fun q=>by subst q; exact hnE t o' hE)),fun _ _ h=>h,
    fun _ n h=>⟨n,h,Nat.le_refl _,fun _=>rfl⟩⟩
   refine fin b off (.v j) [] 0 0 rfl hb hc.1 ⟨c₀,ty,s2,by omega⟩ s1 {
    le:=le
    hv:=fun i hi=>⟨rfl,by simp [List.getElem?_set,show ¬ j=i from fun q=>hi (by rw [q])]⟩
    ht:=fun _ _=>⟨rfl,rfl,rfl⟩
    hh:=fun _ _=>⟨rfl,rfl,rfl,rfl⟩
    hl:=Nat.le_refl _
    hf:=fun _ _ q=>by cases q
    hvl:=by simp
    hE:=fun _ _ _ _=>Iff.rfl
    Ef:=fun o h=>hm.Ef b o h
    heap:=fun b' hb' _=>t2 b' hb'
    size:=Nat.le_of_eq t3.symm
    hB:=by rw [t3]; exact h2.lt
    new:=.inr hb
    key:=⟨hb,⟨splice cs off v.cells,by simp [(List.getElem?_eq_some_iff.1 h1).1],by
     have:=t1 le
     rw [splice_length (by rw [hc.1]; exact hc.2)]
     simpa using this⟩,hnE⟩
    os:=t4
    tape:=t5
    output:=t6 }
  ·cases hv
 | ptr _ id idx off b sz cap _ hb=>
  simp only [evStore] at hv
  split at hv
  ·rename_i es hes
   split at hv
   ·rename_i cs hcs
    split at hv
    ·rename_i hc
     cases hv
     obtain ⟨b',s',c',h1,h2⟩:=hm.arr id es hes
     rw [hb] at h1; cases h1
     obtain ⟨s1,c₀,ty,s2,s3,s4⟩:=h2.store hcs (by rw [hc.1]; exact hc.2) hv2 hv3 hv4
     obtain ⟨t1,t2,t3,t4,t5,t6⟩:=s4 _ rfl
     have hown:Own G m (.h id) b:=by simp only [Own,hes]; exact ⟨_,_,hb⟩
     have hnE:=fun t o=>hm.noH id es b sz cap t o hes hb
     have le:Le G w G (w.setCells b (idx * sz+off) (e x).cells.toList):=⟨fun _ _ _ h=>h,fun t b' o' hE=>cell?_congr (t2 b' (fun q=>by subst q; exact hnE t o' hE)),fun _ _ h=>h,
      fun _ n h=>⟨n,h,Nat.le_refl _,fun _=>rfl⟩⟩
     have hidl:id<m.H.length:=(List.getElem?_eq_some_iff.1 hes).1
     have hT:G.T true id=none:=by rw [hm.T1 id,hes]
     refine fin b (idx * sz+off) (.h id) [] 0 0 rfl hown hc.1 ⟨c₀,ty,s2,by omega⟩ s1 {
      le:=le
      hv:=fun _ _=>⟨rfl,rfl⟩
      ht:=fun _ _=>⟨rfl,rfl,rfl⟩
      hh:=fun i hi=>⟨rfl,rfl,by simp [List.getElem?_set,show ¬ id=i from fun q=>hi (by rw [q])],rfl⟩
      hl:=by simp
      hf:=fun i hi q=>by cases q; simp at hi; omega
      hvl:=⟨rfl,rfl⟩
      hE:=fun _ _ _ _=>Iff.rfl
      Ef:=fun o h=>hm.Ef b o h
      heap:=fun b' hb' _=>t2 b' hb'
      size:=Nat.le_of_eq t3.symm
      hB:=by rw [t3]; exact h2.lt
      new:=.inr hown
      key:=.inl ⟨_,sz,cap,by simp [hidl],hT,hb,t1 le,hnE⟩
      os:=t4
      tape:=t5
      output:=t6 }
    ·cases hv
   ·cases hv
  ·cases hv
 | _=>simp [evStore] at hv
end
end Go.Vm
namespace Go.Vm
section
variable {P:Program} {h:Hint} {ds:List (Option Nat)} {G:Gh} {w:World} {m:Mem} {ρ:X→V} {e:Operand→Value} {k:Bool→Nat→Prop}
def RelC (G:Gh) (w:World) (z:List V) (xs:Array Value):Prop:=
 xs.size=z.length∧(∀ v∈z,v.flat=true)∧∀ (j:Nat) (u:V),z[j]?=some u→VR G w 1 u (xs.getD j undef)
theorem putAll (off:Nat):∀ (l:List Value) (i:Nat) (cells:Array Value),off+i+l.length≤cells.size →
  let r:=(l.zipIdx i).foldl (fun (cs:Array Value) (p:Value × Nat)=>cs.setIfInBounds (off+p.2) p.1) cells
  r.size=cells.size∧∀ q,r[q]?=if off+i≤q∧q<off+i+l.length then l[q - (off+i)]? else cells[q]?
 | [],i,cells,_=>⟨rfl,fun q=>by rw [if_neg (fun h=>by simp at h; omega)]; rfl⟩
 | v :: l,i,cells,hle=>by
  simp at hle
  have ih:=putAll off l (i+1) (cells.setIfInBounds (off+i) v) (by simp; omega)
  simp only [List.zipIdx_cons,List.foldl_cons]
  obtain ⟨h1,h2⟩:=ih
  refine ⟨by rw [h1]; simp,fun q=>?_⟩
  rw [h2 q]
  by_cases e1:q=off+i
  ·subst e1
   rw [if_neg (by omega),if_pos (by simp)]
   simp [show off+i<cells.size by omega]
  ·by_cases e2:off+(i+1)≤q∧q<off+(i+1)+l.length
   ·rw [if_pos e2,if_pos (by simp; omega),show q - (off+i)=(q - (off+(i+1)))+1 by omega]
    simp
   ·rw [if_neg e2,if_neg (by simp; omega)]
    simp [Array.getElem?_setIfInBounds,Ne.symm e1]
theorem put_ok {off:Nat} (xs cells:Array Value) (hle:off+xs.size≤cells.size):
  let r:=xs.zipIdx.foldl (fun cs (c,j)=>cs.setIfInBounds (off+j) c) cells
  r.size=cells.size∧∀ q,r[q]?=if off≤q∧q<off+xs.size then xs[q - off]? else cells[q]?:=by
 have:=putAll off xs.toList 0 cells (by simpa using hle)
 rw [← Array.foldl_toList,Array.toList_zipIdx]
 simpa using this
theorem RelC.put {z:List V} {xs:Array Value} {off:Nat} {v:V} {x:Value} (hr:RelC G w z xs) (hle:off+v.cells.length≤z.length) (hsz:v.cells.length=x.cells.size)
  (hf:∀ c∈v.cells,c.flat=true) (hx:∀ (j:Nat) (c:V),v.cells[j]?=some c→VR G w 1 c (x.cells.getD j undef)):
  RelC G w (splice z off v.cells) (x.cells.zipIdx.foldl (fun cs (c,j)=>cs.setIfInBounds (off+j) c) xs):=by
 obtain ⟨h1,h2,h3⟩:=hr
 obtain ⟨q1,q2⟩:=put_ok (off:=off) x.cells xs (by omega)
 refine ⟨by rw [q1,splice_length hle,h1],fun u hu=>?_,fun j u hj=>?_⟩
 ·rcases mem_splice hu with hu | hu
  ·exact h2 u hu
  ·exact hf u hu
 ·rw [splice_get hle] at hj
  rw [Array.getD_eq_getD_getElem?,q2 j]
  by_cases hin:off≤j∧j<off+v.cells.length
  ·rw [if_pos hin] at hj
   rw [if_pos (by omega)]
   have:=hx _ u hj
   rwa [Array.getD_eq_getD_getElem?] at this
  ·rw [if_neg hin] at hj
   rw [if_neg (by omega)]
   have:=h3 _ u hj
   rwa [Array.getD_eq_getD_getElem?] at this
theorem fill_ok (hρ:OpR h ds G w ρ e) (place place':Nat→Option (Nat × Nat)) (hpl:∀ i q,place' i=some q→place i=some q):
  ∀ (ps:List (Nat × Operand)) (qs:List (Nat × Nat × X)) (z z':List V) (xs:Array Value),cParts h ds place' ps=some qs →
   fill z (qs.map fun (o,n,x)=>(o,n,ρ x))=some z'→RelC G w z xs→∃ xs',Instr.fill place xs (ps.map fun (i,x)=>(i,e x))=some xs'∧RelC G w z' xs'
 | [],qs,z,z',xs,hc,hf,hr=>by
  simp [cParts] at hc; subst hc
  simp [fill] at hf; subst hf
  exact ⟨xs,rfl,hr⟩
 | (i,o) :: ps,qs,z,z',xs,hc,hf,hr=>by
  simp only [cParts] at hc
  split at hc
  ·rename_i a n x r h1 h2 h3
   cases hc
   simp only [List.map_cons,fill] at hf
   split at hf
   ·rename_i u hu
    split at hf
    ·rename_i hle
     obtain ⟨_,p2,p3,p4⟩:=exp_ok hu (hρ _ _ h2)
     have hr':=hr.put (off:=a) (v:=u) (x:=e o) (by rw [hle.1]; exact hle.2) p2 p3 p4
     obtain ⟨xs',q1,q2⟩:=fill_ok hρ place place' hpl ps r _ z' _ h3 hf hr'
     refine ⟨xs',?_,q2⟩
     simp only [List.map_cons,Instr.fill,hpl i _ h1]
     rw [if_neg]
     ·exact q1
     ·obtain ⟨s1,_⟩:=hr
      simp; constructor<;>omega
    ·cases hf
   ·cases hf
  ·cases hc
theorem mapM_run {α β:Type} {f:α→Sem β} {g:α→β} (w:World):∀ (l:List α),(∀ x∈l,(f x).run P w=.ok (g x) w)→(l.mapM f).run P w=.ok (l.map g) w
 | [],_=>by simp
 | a :: l,h=>by
  simp only [List.mapM_cons,Sem.run_bind,h a (by simp),Result.andThen_ok,mapM_run w l (fun x hx=>h x (by simp [hx]))]
  simp
theorem RelC.val {z:List V} {xs:Array Value} (hr:RelC G w z xs):VR G w 2 (.agg z) (.agg xs):=
 .agg _ _ _ hr.1 hr.2.1 (fun j v hj=>hr.2.2 j v hj)
theorem zeroT_rel {t:TypeId} {z:List V} (hz:zeroT P t=some z) (G:Gh) (w:World):∃ v,(∀ w',(zeroValue t).run P w'=.ok v w')∧RelC G w z v.cells:=by
 obtain ⟨v,h1,h2,h3,h4⟩:=zeroT_run hz G w
 exact ⟨v,h1,h2.symm,h3,fun j u hj=>h4 j u hj 1⟩
theorem x_build_struct {o:Oper} {t:TypeId} {fs:Array Field} {ps:Array (Nat × Operand)} {qs:List (Nat × Nat × X)} {z z':List V} (hρ:OpR h ds G w ρ e) (hm:MR G w m)
  (ho:o.op=.build t ps) (hu:P.underlying t=some (.struct fs)) (hz:zeroT P t=some z) (hall:fs.toList.all (fun f=>(szOf P f.type).isSome)=true)
  (hc:cParts h ds (fun i=>match fs.toList[i]? with
    | some f=>(szOf P f.type).map fun n=>(f.offset,n)
    | none=>none) ps.toList=some qs) (hf:fill z (qs.map fun (o,n,x)=>(o,n,ρ x))=some z'):Res ((execOp e o).run P w) G w m (.agg z') m k:=by
 obtain ⟨v,h1,h2⟩:=zeroT_rel hz G w
 let pl:Array (Nat × Nat):=(fs.toList.map fun f=>(f.offset,(szOf P f.type).getD 0)).toArray
 have hpl:∀ w',(fs.mapM fun f=>do pure (f.offset,← sizeOf f.type):Sem (Array (Nat × Nat))).run P w'=.ok pl w':=by
  intro w'
  rw [Array.mapM_eq_mapM_toList,map_eq_pure_bind,Sem.run_bind]
  rw [mapM_run (g:=fun f=>(f.offset,(szOf P f.type).getD 0)) w' fs.toList]
  ·rfl
  ·intro f hf'
   have:=List.all_eq_true.1 hall f hf'
   obtain ⟨n,hn⟩:=Option.isSome_iff_exists.1 this
   simp [szOf_run hn,hn]
 obtain ⟨xs,q1,q2⟩:=fill_ok hρ (fun i=>pl[i]?) _ (fun i q hq=>by
  split at hq
  ·rename_i f hf'
   simp only [Option.map_eq_some_iff] at hq
   obtain ⟨n,hn,rfl⟩:=hq
   simp only [Array.getElem?_toList] at hf'
   simp [pl,hf',hn]
  ·cases hq) ps.toList qs z z' v.cells hc hf h2
 refine .same hm (x:=.agg xs) ?_ q2.val
 simp only [execOp,ho,Instr.build,Sem.run_bind,h1,Result.andThen_ok,run_underlying hu,hpl]
 simp only [Array.toList_map]
 rw [q1]
 rfl
theorem x_build_array {o:Oper} {t el:TypeId} {nn sz:Nat} {ps:Array (Nat × Operand)} {qs:List (Nat × Nat × X)} {z z':List V} (hρ:OpR h ds G w ρ e) (hm:MR G w m)
  (ho:o.op=.build t ps) (hu:P.underlying t=some (.array nn el)) (hz:zeroT P t=some z) (hn:szOf P el=some sz)
  (hc:cParts h ds (fun i=>some (i * sz,sz)) ps.toList=some qs) (hf:fill z (qs.map fun (o,n,x)=>(o,n,ρ x))=some z'):Res ((execOp e o).run P w) G w m (.agg z') m k:=by
 obtain ⟨v,h1,h2⟩:=zeroT_rel hz G w
 obtain ⟨xs,q1,q2⟩:=fill_ok hρ (fun i=>some (i * sz,sz)) _ (fun i q hq=>hq) ps.toList qs z z' v.cells hc hf h2
 refine .same hm (x:=.agg xs) ?_ q2.val
 simp only [execOp,ho,Instr.build,Sem.run_bind,h1,Result.andThen_ok,run_underlying hu,szOf_run hn]
 simp only [Array.toList_map]
 rw [q1]
 rfl
/-! ### new blocks -/
theorem Res.newVar {r:Result Next} {j:Nat} {cs:List V} {xs:Array Value} {ty:TypeId} (hm:MR G w m) (hj:j<m.vars.length) (hr:RelC G w cs xs)
  (hk:k true j) (hrun:r=.ok (.value (.pointer (some ⟨w.heap.size,0,none⟩))) (w.alloc (.cells xs ty))):
  Res r G w m (.lp j 0) { m with vars:=m.vars.set j cs } k:=by
 let G':Gh:={ G with vb:=fun i=>if i=j then some w.heap.size else G.vb i }
 have la:=Le.alloc hm (.cells xs ty)
 have le:Le G w G' (w.alloc (.cells xs ty)):=⟨fun _ _ _ h=>h,la.c,fun _ _ h=>h,fun _ n h=>⟨n,h,Nat.le_refl _,fun _=>rfl⟩⟩
 have hnE:∀ t o,¬ G.E t w.heap.size o:=fun t o q=>absurd (hm.Elt t _ o q) (by omega)
 have u:Upd G w m G' (w.alloc (.cells xs ty)) { m with vars:=m.vars.set j cs } (.v j) w.heap.size:={
  le:=le
  hv:=fun i hi=>by
   have:i≠j:=fun q=>hi (by rw [q])
   exact ⟨by simp [G',this],by simp [List.getElem?_set,Ne.symm this]⟩
  ht:=fun _ _=>⟨rfl,rfl,rfl⟩
  hh:=fun _ _=>⟨rfl,rfl,rfl,rfl⟩
  hl:=Nat.le_refl _
  hf:=fun _ _ q=>by cases q
  hvl:=by simp
  hE:=fun _ _ _ _=>Iff.rfl
  Ef:=fun o q=>hm.Ef _ o q
  heap:=fun b _ hb'=>heap_alloc_lt w _ hb'
  size:=by simp
  hB:=by simp
  new:=.inl (Nat.le_refl _)
  key:=⟨by simp [G'],⟨cs,by simp [hj],xs,ty,heap_alloc_new w _,by simp [hr.1],by simp,by simp,fun i q c v hc hv=>by
   have:i=0∧c=cs:=by
    cases i with
    | zero=>simp at hc; exact ⟨rfl,hc.symm⟩
    | succ i=>simp at hc
   obtain ⟨rfl,rfl⟩:=this
   have hq:q<xs.size:=by rw [hr.1]; exact (List.getElem?_eq_some_iff.1 hv).1
   have h1:=hr.2.2 q v hv
   refine ⟨hr.2.1 v (List.mem_of_getElem? hv),xs[q],by simp [hq],?_⟩
   rw [Array.getD_eq_getD_getElem?] at h1
   simpa [hq] using h1.mono1 le (Nat.le_refl _)⟩,hnE⟩
  os:=rfl
  tape:=rfl
  output:=rfl }
 refine ⟨_,_,G',.inl hrun,le,⟨fun i b hki q=>?_,fun i n _ q=>⟨n,q,Nat.le_refl _,fun _=>rfl⟩⟩,u.mr hm,.lp _ j 0 _ (Nat.le_refl _) (by simp [G']),u.fr hm⟩
 have:i≠j:=fun q'=>hki (by rw [q']; exact hk)
 simpa [G',this] using q
def RelA (G:Gh) (w:World) (s c:Nat) (es:List (List V)) (xs:Array Value):Prop:=
 xs.size=c * s∧es.length≤c∧(∀ q∈es,q.length=s)∧∀ (i j:Nat) (q:List V) (v:V),es[i]?=some q→q[j]?=some v→v.flat=true∧∃ x,xs[i * s+j]?=some x∧VR G w 1 v x
theorem RelC.toA {cs:List V} {xs:Array Value} (hr:RelC G w cs xs):RelA G w cs.length 1 [cs] xs:=by
 refine ⟨by simp [hr.1],by simp,by simp,fun i j c v hc hv=>?_⟩
 have:i=0∧c=cs:=by
  cases i with
  | zero=>simp at hc; exact ⟨rfl,hc.symm⟩
  | succ i=>simp at hc
 obtain ⟨rfl,rfl⟩:=this
 have hq:j<xs.size:=by rw [hr.1]; exact (List.getElem?_eq_some_iff.1 hv).1
 have h1:=hr.2.2 j v hv
 refine ⟨hr.2.1 v (List.mem_of_getElem? hv),xs[j],by simp [hq],?_⟩
 rw [Array.getD_eq_getD_getElem?] at h1
 simpa [hq] using h1
theorem newArr {s c:Nat} {es:List (List V)} {xs:Array Value} {ty:TypeId} (hm:MR G w m) (hr:RelA G w s c es xs):
  ∃ G',Le G w G' (w.alloc (.cells xs ty))∧LeL G G' k∧MR G' (w.alloc (.cells xs ty)) { m with H:=m.H ++ [.arr es] } ∧
   Fr G m w G' { m with H:=m.H ++ [.arr es] } (w.alloc (.cells xs ty))∧G'.ha m.H.length=some (w.heap.size,s,c):=by
 let id:=m.H.length
 let G':Gh:={ G with ha:=fun i=>if i=id then some (w.heap.size,s,c) else G.ha i }
 have la:=Le.alloc hm (.cells xs ty)
 have hfr:=hm.fresh id (Nat.le_refl _)
 have le:Le G w G' (w.alloc (.cells xs ty)):=⟨fun _ _ _ h=>h,la.c,fun i q h=>by
  have:i≠id:=fun q'=>by rw [q',hfr.1] at h; cases h
  simpa [G',this] using h,fun _ n h=>⟨n,h,Nat.le_refl _,fun _=>rfl⟩⟩
 have hnE:∀ t o,¬ G.E t w.heap.size o:=fun t o q=>absurd (hm.Elt t _ o q) (by omega)
 have u:Upd G w m G' (w.alloc (.cells xs ty)) { m with H:=m.H ++ [.arr es] } (.h id) w.heap.size:={
  le:=le
  hv:=fun _ _=>⟨rfl,rfl⟩
  ht:=fun _ _=>⟨rfl,rfl,rfl⟩
  hh:=fun i hi=>by
   have:i≠id:=fun q=>hi (by rw [q])
   refine ⟨by simp [G',this],rfl,?_,rfl⟩
   rcases Nat.lt_or_ge i m.H.length with hl | hl
   ·simp [List.getElem?_append_left hl]
   ·have:m.H.length<i:=by omega
    rw [List.getElem?_eq_none (by simp; omega),List.getElem?_eq_none hl]
  hl:=by simp
  hf:=fun i hi q=>by cases q; simp [id] at hi; omega
  hvl:=⟨rfl,rfl⟩
  hE:=fun _ _ _ _=>Iff.rfl
  Ef:=fun o q=>hm.Ef _ o q
  heap:=fun b _ hb'=>heap_alloc_lt w _ hb'
  size:=by simp
  hB:=by simp
  new:=.inl (Nat.le_refl _)
  key:=.inl ⟨es,s,c,by simp [id],by show G.T true id=none; rw [hm.T1 id]; simp [id],by simp [G'],⟨xs,ty,heap_alloc_new w _,hr.1,hr.2.1,hr.2.2.1,fun i j q v hq hv=>by
   obtain ⟨f1,x,f2,f3⟩:=hr.2.2.2 i j q v hq hv
   exact ⟨f1,x,f2,f3.mono1 le (Nat.le_refl _)⟩⟩,hnE⟩
  os:=rfl
  tape:=rfl
  output:=rfl }
 exact ⟨G',le,⟨fun _ _ _ h=>h,fun _ n _ h=>⟨n,h,Nat.le_refl _,fun _=>rfl⟩⟩,u.mr hm,u.fr hm,by simp [G',id]⟩
theorem x_lalloc {o:Oper} {t:TypeId} {j:Nat} {z:List V} (hm:MR G w m) (ho:o.op=.alloc t) (hz:zeroT P t=some z) (hj:j<m.vars.length) (hk:k true j):
  Res ((execOp e o).run P w) G w m (.lp j 0) { m with vars:=m.vars.set j z } k:=by
 obtain ⟨v,h1,h2⟩:=zeroT_rel hz G w
 exact .newVar (ty:=t) hm hj h2 hk (by simp [execOp,ho,Instr.alloc,h1,newVar,newRow])
theorem x_halloc {o:Oper} {t:TypeId} {z:List V} (hm:MR G w m) (ho:o.op=.alloc t) (hz:zeroT P t=some z):
  Res ((execOp e o).run P w) G w m (.ptr m.H.length 0 0) { m with H:=m.H ++ [.arr [z]] } k:=by
 obtain ⟨v,h1,h2⟩:=zeroT_rel hz G w
 obtain ⟨G',q1,q2,q3,q4,q5⟩:=newArr (k:=k) (ty:=t) hm h2.toA
 exact ⟨.pointer (some ⟨w.heap.size,0,none⟩),_,G',.inl (by simp [execOp,ho,Instr.alloc,h1,newVar,newRow]),q1,q2,q3,by simpa using VR.ptr (G:=G') (w:=w.alloc (.cells v.cells t)) 2 m.H.length 0 0 _ _ _ (by omega) q5,q4⟩
theorem exp_rel {v u:V} {x:Value} (he:v.exp=some u) (hr:VR G w 2 v x):RelC G w u.cells x.cells:=by
 obtain ⟨_,h2,h3,h4⟩:=exp_ok he hr
 exact ⟨h2.symm,h3,h4⟩
theorem x_lbox {o:Oper} {t:TypeId} {x:Operand} {xx:X} {j:Nat} {v:V} (hρ:OpR h ds G w ρ e) (hm:MR G w m) (ho:o.op=.box t x) (hx:cX h ds x=some xx)
  (he:(ρ xx).exp=some v) (hj:j<m.vars.length) (hk:k true j):Res ((execOp e o).run P w) G w m (.lp j 0) { m with vars:=m.vars.set j v.cells } k:=
 .newVar (ty:=t) hm hj (exp_rel he (hρ _ _ hx)) hk (by simp [execOp,ho,Instr.box,newVar,newRow])
theorem x_hbox {o:Oper} {t:TypeId} {x:Operand} {xx:X} {v:V} (hρ:OpR h ds G w ρ e) (hm:MR G w m) (ho:o.op=.box t x) (hx:cX h ds x=some xx)
  (he:(ρ xx).exp=some v):Res ((execOp e o).run P w) G w m (.ptr m.H.length 0 0) { m with H:=m.H ++ [.arr [v.cells]] } k:=by
 obtain ⟨G',q1,q2,q3,q4,q5⟩:=newArr (k:=k) (ty:=t) hm (exp_rel he (hρ _ _ hx)).toA
 exact ⟨.pointer (some ⟨w.heap.size,0,none⟩),_,G',.inl (by simp [execOp,ho,Instr.box,newVar,newRow]),q1,q2,q3,by simpa using VR.ptr (G:=G') (w:=w.alloc (.cells (e x).cells t)) 2 m.H.length 0 0 _ _ _ (by omega) q5,q4⟩
/-! ### a variable's slice, of nothing yet -/
theorem x_onil {o:Oper} {y:Operand} {j:Nat} (hm:MR G w m) (ho:o.op=.move y∨o.op=.assign y) (hy:e y=.slice none 0 0) (hj:j<m.tk.length) (hk:k false j):
  Res ((execOp e o).run P w) G w m (.osl false j []) { m with tk:=m.tk.set j 0 } k:=by
 let G':Gh:={ G with ob:=fun hh i=>if hh=false∧i=j then none else G.ob hh i,T:=fun hh i=>if hh=false∧i=j then some 0 else G.T hh i }
 have le:Le G w G' w:=⟨fun _ _ _ h=>h,fun _ _ _ _=>rfl,fun _ _ h=>h,fun i n h=>⟨n,by simpa [G'] using h,Nat.le_refl _,fun _=>by simp [G']⟩⟩
 refine ⟨.slice none 0 0,w,G',.inl ?_,le,⟨fun _ _ _ h=>h,fun i n hki h=>⟨n,?_,Nat.le_refl _,fun _=>?_⟩⟩,?_,?_,?_⟩
 ·rcases ho with ho | ho<;>simp [execOp,ho,hy]
 ·have:i≠j:=fun q=>hki (by rw [q]; exact hk)
  simpa [G',this] using h
 ·have:i≠j:=fun q=>hki (by rw [q]; exact hk)
  simp [G',this]
 ·exact {
   T0:=fun i=>by
    by_cases q:i=j
    ·subst q; simp [G',hj]
    ·simp [G',q,List.getElem?_set,Ne.symm q,hm.T0 i]
   T1:=fun i=>by simpa [G'] using hm.T1 i
   Ef:=hm.Ef
   Elt:=hm.Elt
   vars:=fun i b q=>by
    obtain ⟨cs,h1,h2⟩:=hm.vars i b q
    exact ⟨cs,h1,h2.mono le rfl⟩
   toks:=fun i b c s q=>by
    by_cases r:i=j
    ·simp [G',r] at q
    ·obtain ⟨n,h1,h2⟩:=hm.toks i b c s (by simpa [G',r] using q)
     exact ⟨n,by simp [List.getElem?_set,Ne.symm r,h1],h2.mono rfl (fun _ _=>Iff.rfl)⟩
   arr:=fun id es q=>by
    obtain ⟨b,s,c,h1,h2⟩:=hm.arr id es q
    exact ⟨b,s,c,h1,h2.mono le rfl⟩
   mp:=hm.mp
   tok:=fun id n q=>by
    obtain ⟨b,c,s,h1,h2⟩:=hm.tok id n q
    exact ⟨b,c,s,by simpa [G'] using h1,h2.mono rfl (fun _ _=>Iff.rfl)⟩
   fresh:=fun id q=>by simpa [G'] using hm.fresh id q
   inj:=fun a b c h1 h2=>by
    have sub:∀ a c,Own G' { m with tk:=m.tk.set j 0 } a c→Own G m a c:=by
     intro a c q
     cases a with
     | v i=>exact q
     | t i=>
      obtain ⟨x,y,q⟩:=q
      by_cases r:i=j
      ·simp [G',r] at q
      ·exact ⟨x,y,by simpa [G',r] using q⟩
     | h i=>simpa [Own,G'] using q
    exact hm.inj a b c (sub _ _ h1) (sub _ _ h2)
   noV:=hm.noV
   noH:=hm.noH }
 ·exact .osl _ false j [] _ 0 (by simp) (.nils _) (by simp [G']) (Nat.le_refl _) (fun _=>by simp [OwnS,G'])
 ·exact {
   os:=rfl
   tape:=rfl
   output:=rfl
   size:=Nat.le_refl _
   kept:=fun _ _ _=>rfl
   sub:=fun a c q _=>by
    refine ⟨a,?_⟩
    cases a with
    | v i=>exact q
    | t i=>
     obtain ⟨x,y,q⟩:=q
     by_cases r:i=j
     ·simp [G',r] at q
     ·exact ⟨x,y,by simpa [G',r] using q⟩
    | h i=>simpa [Own,G'] using q
   E:=fun _ _ _ _ _=>Iff.rfl
   len:=Nat.le_refl _
   vl:=by simp }
end
end Go.Vm
