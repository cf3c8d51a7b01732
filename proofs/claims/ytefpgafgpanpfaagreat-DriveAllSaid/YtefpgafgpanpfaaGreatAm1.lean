/- A machine of its own for the loaded program's code, and that it is sound: what it answers, a call of the program answers. -/
import Derived.Calls
import Derived.RangeFuncRecord
import Derived.Orders
import Derived.Laws.Cells
import Derived.Laws.CopyRow
import Derived.Laws.Append
import Derived.Laws.AppendOwn
import Derived.Laws.BytesString
import Derived.Laws.StructEq
import Derived.ChangeKeysEq
import Derived.Laws.Small
set_option linter.unusedVariables false
set_option linter.unusedSimpArgs false
set_option maxHeartbeats 16000000
namespace Go.AM

inductive AVal where
 | lit (v:Value)
 | ptr (i k:Nat)
 | eptr (i len sz j k:Nat)
 | iptr (fl:Bool) (es:List (List AVal)) (j k:Nat)
 | own (i len sz off n:Nat)
 | imm (nil full fl:Bool) (es:List (List AVal))
 | asl (i k sz len:Nat)
 | agg (cs:List AVal)
 | tup (vs:List AVal)
 | iface (t:TypeId) (v:AVal)
 | func (fn:Fn) (first captured:List AVal)
 | yld (i:Nat)
 | mref (i:Nat)
 | any
 deriving Inhabited

inductive Opd where
 | t (n:Nat)
 | c (v:AVal)
 deriving Inhabited

inductive NilK where
 | ptr | slice | func | iface | map
 deriving DecidableEq,Inhabited

inductive LeafK where
 | b | i | s
 deriving DecidableEq,Inhabited

inductive LibK where
 | ins | del
 deriving DecidableEq,Inhabited

inductive IOp where
 | copy (x:Opd)
 | pick (c a b:Opd)
 | alloc (zero:List AVal)
 | box (n:Nat) (x:Opd)
 | build (zero:List AVal) (parts:List (Nat × Nat × Opd))
 | mkSlice (fl:Bool) (sz:Nat) (zero:List AVal) (len:Nat) (parts:List (Nat × Opd))
 | load (ag:Bool) (n:Nat) (a:Opd)
 | store (n:Nat) (a v:Opd)
 | nilCheck (x:Opd)
 | bin (op:BinOp) (x y:Opd)
 | isNil (neg:Bool) (k:NilK) (x:Opd)
 | eqB (neg:Bool) (x y:Opd)
 | eqA (neg:Bool) (ls:List (Nat × LeafK)) (x y:Opd)
 | un (op:UnOp) (x:Opd)
 | toInt (k:IntKind) (x:Opd)
 | toStr (x:Opd)
 | cpStr (x:Opd)
 | mkFunc (fn:Fn) (first captured:List Opd)
 | make (fl:Bool) (sz bytes:Nat) (zero:List AVal) (len cap:Opd)
 | slice (sz:Nat) (x:Opd) (lo hi mx:Option Opd)
 | sliceStr (x:Opd) (lo hi:Option Opd)
 | sliceArr (n sz:Nat) (x:Opd) (lo hi:Option Opd)
 | fieldA (off:Nat) (x:Opd)
 | fieldV (ag:Bool) (n off:Nat) (x:Opd)
 | idxS (sz:Nat) (x i:Opd)
 | idxA (len sz:Nat) (x i:Opd)
 | idxV (ag:Bool) (len sz:Nat) (x i:Opd)
 | idxStr (x i:Opd)
 | extract (x:Opd) (i:Nat)
 | call (f:Nat) (args:List Opd)
 | callU (f:Nat) (args:List Opd)
 | callR (f:Nat) (args:List Opd)
 | callV (f:Opd) (args:List Opd)
 | callL (k:LibK) (fl:Bool) (sz bytes:Nat) (f:Nat) (args:List Opd)
 | append (fl:Bool) (sz bytes:Nat) (s x:Opd)
 | appendZ (fl:Bool) (sz bytes:Nat) (zero:List AVal) (s n:Opd)
 | cap (x:Opd)
 | mkIface (t:TypeId) (x:Opd)
 | fail
 | len (x:Opd)
 | lenStr (x:Opd)
 | lenArr (n:Nat)
 | copyS (sz:Nat) (d s:Opd)
 | minI (x:Opd) (xs:List Opd)
 | maxI (x:Opd) (xs:List Opd)
 | mapNew
 | mapGet (zero:AVal) (m k:Opd)
 | mapSet (m k v:Opd)
 deriving Inhabited

structure IOper where
 guard:Option (Nat × Bool)
 dst:Option Nat
 op:IOp
 deriving Inhabited

inductive ICode where
 | skip
 | reg (ops:List IOper) (chk flo:List (Nat × Nat))
 | seq (a b:ICode)
 | cond (c:Opd) (a b:ICode)
 | block (id:Nat) (b:ICode)
 | loop (live:List Nat) (b:ICode)
 | exit (id:Nat)
 | ret
 | range (f:Opd) (uses params:List Nat) (assign body:ICode)
 | scope (b:ICode)
 deriving Inhabited

inductive Item where
 | code (c:ICode)
 | inBlock (id:Nat)
 | inLoop (live:List Nat) (b:ICode)
 | inScope
 deriving Inhabited

inductive Jump where
 | ret
 | exit (id:Nat)
 deriving DecidableEq,Inhabited

abbrev Tmps:=List (Nat × AVal)

inductive Entry where
 | box (cs:List AVal)
 | arr (fl lk full:Bool) (sz:Nat) (es:List (List AVal))
 | loop (st:Nat) (pend:Option Jump) (snap:Tmps) (params:List Nat) (assign body:ICode)
 | map (es:List (Int × AVal))
 | dead
 deriving Inhabited

abbrev Heap:=List Entry

inductive IRes where
 | tmp (t:Nat)
 | cell (t:Nat) (ag:Bool) (n:Nat)
 deriving Inhabited

structure IFn where
 body:ICode
 results:List IRes
 deriving Inhabited

def lk (t:Nat):Tmps->AVal
 | []=>.any
 | (u,v)::r=>if t=u then v else lk t r

def ev (τ:Tmps):Opd->AVal
 | .t n=>lk n τ
 | .c v=>v

def cellsO:AVal->Option (List AVal)
 | .agg cs=>some cs
 | .tup _=>none
 | .any=>none
 | .lit (.tuple _)=>none
 | .lit (.agg _)=>none
 | v=>some [v]

mutual
def flatV:AVal->Bool
 | .lit _=>true
 | .imm _ _ fl _=>fl
 | .iptr fl _ _ _=>fl
 | .agg cs=>flatL cs
 | .tup cs=>flatL cs
 | .iface _ v=>flatV v
 | .func _ a b=>flatL a && flatL b
 | .any=>true
 | _=>false
def flatL:List AVal->Bool
 | []=>true
 | c::r=>flatV c && flatL r
end

mutual
def refsV:AVal->List Nat
 | .ptr i _=>[i]
 | .eptr i _ _ _ _=>[i]
 | .own i _ _ _ _=>[i]
 | .asl i _ _ _=>[i]
 | .yld i=>[i]
 | .mref i=>[i]
 | .imm _ _ fl es=>if fl then [] else refsLL es
 | .iptr fl es _ _=>if fl then [] else refsLL es
 | .agg cs=>refsL cs
 | .tup cs=>refsL cs
 | .iface _ v=>refsV v
 | .func _ a b=>refsL a++refsL b
 | _=>[]
def refsL:List AVal->List Nat
 | []=>[]
 | c::r=>refsV c++refsL r
def refsLL:List (List AVal)->List Nat
 | []=>[]
 | c::r=>refsL c++refsLL r
end

mutual
def renV (f:Nat->Nat):AVal->AVal
 | .ptr i k=>.ptr (f i) k
 | .eptr i n s j k=>.eptr (f i) n s j k
 | .own i l s o n=>.own (f i) l s o n
 | .asl i k sz n=>.asl (f i) k sz n
 | .yld i=>.yld (f i)
 | .mref i=>.mref (f i)
 | .imm nil full fl es=>.imm nil full fl (if fl then es else renLL f es)
 | .iptr fl es j k=>.iptr fl (if fl then es else renLL f es) j k
 | .agg cs=>.agg (renL f cs)
 | .tup cs=>.tup (renL f cs)
 | .iface t v=>.iface t (renV f v)
 | .func fn a b=>.func fn (renL f a) (renL f b)
 | .lit v=>.lit v
 | .any=>.any
def renL (f:Nat->Nat):List AVal->List AVal
 | []=>[]
 | c::r=>renV f c::renL f r
def renLL (f:Nat->Nat):List (List AVal)->List (List AVal)
 | []=>[]
 | c::r=>renL f c::renLL f r
end

def renT (f:Nat->Nat):Tmps->Tmps
 | []=>[]
 | (t,v)::r=>(t,renV f v)::renT f r

def refsT:Tmps->List Nat
 | []=>[]
 | (_,v)::r=>refsV v++refsT r

def refsM:List (Int × AVal)->List Nat
 | []=>[]
 | (_,v)::r=>refsV v++refsM r

def renM (f:Nat->Nat):List (Int × AVal)->List (Int × AVal)
 | []=>[]
 | (k,v)::r=>(k,renV f v)::renM f r

def refsE:Entry->List Nat
 | .box cs=>refsL cs
 | .arr fl _ _ _ es=>if fl then [] else refsLL es
 | .loop _ _ snap _ _ _=>refsT snap
 | .map es=>refsM es
 | .dead=>[]

def renE (f:Nat->Nat):Entry->Entry
 | .box cs=>.box (renL f cs)
 | .arr fl lk full sz es=>.arr fl lk full sz (if fl then es else renLL f es)
 | .loop st p snap ps a b=>.loop st p (renT f snap) ps a b
 | .map es=>.map (renM f es)
 | .dead=>.dead

mutual
def snapV (H:Heap):AVal->Option (AVal × List Nat)
 | .own i len sz off n=>match H[i]? with
  | some (.arr fl _ full se es)=>if es.length=len/\se=sz then some (.imm false (full && decide (off+n=len)) fl ((es.take (off+n)).drop off),[i]) else none
  | _=>none
 | .agg cs=>(snapL H cs).map fun r=>(.agg r.1,r.2)
 | .tup cs=>(snapL H cs).map fun r=>(.tup r.1,r.2)
 | .iface t v=>(snapV H v).map fun r=>(.iface t r.1,r.2)
 | .func fn a b=>(snapL H a).bind fun r=>(snapL H b).map fun s=>(.func fn r.1 s.1,r.2++s.2)
 | .asl ..=>none
 | .eptr ..=>none
 | .lit v=>some (.lit v,[])
 | .ptr i k=>some (.ptr i k,[])
 | .iptr fl es j k=>some (.iptr fl es j k,[])
 | .imm n fu fl es=>some (.imm n fu fl es,[])
 | .yld i=>some (.yld i,[])
 | .mref i=>some (.mref i,[])
 | .any=>some (.any,[])
def snapL (H:Heap):List AVal->Option (List AVal × List Nat)
 | []=>some ([],[])
 | c::r=>(snapV H c).bind fun x=>(snapL H r).map fun y=>(x.1::y.1,x.2++y.2)
end

def lock (H:Heap) (i:Nat):Heap :=
 match H[i]? with
 | some (.arr fl _ full sz es)=>H.set i (.arr fl true full sz es)
 | _=>H

def locks (H:Heap):List Nat->Heap
 | []=>H
 | i::r=>locks (lock H i) r

def chunks (cs:List AVal) (sz:Nat):Nat->List (List AVal)
 | 0=>[]
 | n+1=>cs.take sz::chunks (cs.drop sz) sz n

def content (H:Heap):AVal->Option (Bool × List (List AVal))
 | .imm _ _ fl es=>some (fl,es)
 | .own i len sz off n=>match H[i]? with
  | some (.arr fl _ _ se es)=>if es.length=len/\se=sz then some (fl,(es.take (off+n)).drop off) else none
  | _=>none
 | .asl i k sz n=>match H[i]? with
  | some (.box cs)=>if k+n * sz<=cs.length then some (flatL cs,chunks (cs.drop k) sz n) else none
  | _=>none
 | _=>none

def get1 (ag:Bool) (n:Nat) (cs:List AVal):Option AVal :=
 if ag then (if cs.length<n then none else some (.agg (cs.take n))) else (if n=1 then cs[0]? else none)

def aload (ag:Bool) (n:Nat) (H:Heap):AVal->Option AVal
 | .ptr i k=>match H[i]? with
  | some (.box cs)=>get1 ag n (cs.drop k)
  | _=>none
 | .eptr i len sz j k=>match H[i]? with
  | some (.arr _ _ _ se es)=>if es.length=len/\se=sz then (es[j]?).bind fun cs=>get1 ag n (cs.drop k) else none
  | _=>none
 | .iptr _ es j k=>(es[j]?).bind fun cs=>get1 ag n (cs.drop k)
 | _=>none

def over (cs:List AVal) (k:Nat) (vs:List AVal):List AVal:=cs.take k++vs++cs.drop (k+vs.length)

def putAt (H:Heap) (n:Nat) (vs:List AVal):AVal->Option Heap
 | .ptr i k=>match H[i]? with
  | some (.box cs)=>if vs.length=n/\k+n<=cs.length then some (H.set i (.box (over cs k vs))) else none
  | _=>none
 | .eptr i len se j k=>match H[i]? with
  | some (.arr fl lk full sz es) =>
   if vs.length=n/\es.length=len/\sz=se/\lk=false/\(fl=true->flatL vs=true) then
    (es[j]?).bind fun cs=>if k+n<=cs.length then some (H.set i (.arr fl lk full sz (es.set j (over cs k vs)))) else none
   else none
  | _=>none
 | _=>none

def astore (n:Nat) (H:Heap) (a v:AVal):Option Heap:=(cellsO v).bind fun vs=>putAt H n vs a

def vint (k:IntKind) (n:Int):AVal:=.lit (.int k n)
def vbool (b:Bool):AVal:=.lit (.bool b)
def nilS:AVal:=.imm true true true []

def bits (k:IntKind) (f:BitVec k.bits->BitVec k.bits->BitVec k.bits) (x y:Int):AVal :=
 vint k (k.wrap (f (BitVec.ofInt k.bits x) (BitVec.ofInt k.bits y)).toNat)

def abin (op:BinOp):AVal->AVal->Option AVal
 | .lit (.int k x),.lit (.int k' y) =>
  match op with
  | .shl=>if y<0 then none else some (vint k (k.wrap (x * 2 ^ (min y.toNat k.bits))))
  | .shr=>if y<0 then none else some (vint k (x.fdiv (2 ^ (min y.toNat k.bits))))
  | _=>if k≠k' then none else
   match op with
   | .add=>some (vint k (k.wrap (x+y)))
   | .sub=>some (vint k (k.wrap (x - y)))
   | .mul=>some (vint k (k.wrap (x * y)))
   | .quo=>if y=0 then none else some (vint k (k.wrap (x.tdiv y)))
   | .rem=>if y=0 then none else some (vint k (x.tmod y))
   | .and=>some (bits k (· &&& ·) x y)
   | .or=>some (bits k (· ||| ·) x y)
   | .xor=>some (bits k (· ^^^ ·) x y)
   | .andNot=>some (bits k (fun a b=>a &&& ~~~b) x y)
   | .eql=>some (vbool (decide (x=y)))
   | .neq=>some (vbool (decide (x≠y)))
   | .lss=>some (vbool (decide (x<y)))
   | .leq=>some (vbool (decide (x<=y)))
   | .gtr=>some (vbool (decide (y<x)))
   | .geq=>some (vbool (decide (y<=x)))
   | _=>none
 | .lit (.string x),.lit (.string y) =>
  match op with
  | .add=>if x.size+y.size<=2 ^ 48 then some (.lit (.string (x++y))) else none
  | .eql=>some (vbool (x.toList == y.toList))
  | .neq=>some (vbool (!(x.toList == y.toList)))
  | _=>none
 | _,_=>none

def anil:NilK->AVal->Option Bool
 | .ptr,.lit (.pointer none)=>some true
 | .ptr,.ptr _ _=>some false
 | .ptr,.eptr _ _ _ _ _=>some false
 | .ptr,.iptr _ _ _ _=>some false
 | .slice,.imm n _ _ _=>some n
 | .slice,.own _ _ _ _ _=>some false
 | .slice,.asl _ _ _ _=>some false
 | .func,.lit .nilFunc=>some true
 | .func,.func _ _ _=>some false
 | .func,.yld _=>some false
 | .iface,.lit .nilIface=>some true
 | .iface,.iface _ _=>some false
 | .map,.lit (.map none)=>some true
 | _,_=>none

def aleaf:LeafK->AVal->AVal->Option Bool
 | .b,.lit (.bool x),.lit (.bool y)=>some (x == y)
 | .i,.lit (.int k x),.lit (.int k' y)=>if k=k' then some (decide (x=y)) else none
 | .s,.lit (.string x),.lit (.string y)=>some (x == y)
 | _,_,_=>none

def aleaves (xs ys:List AVal):List (Nat × LeafK)->Option Bool
 | []=>some true
 | (o,k)::r=>(xs[o]?).bind fun x=>(ys[o]?).bind fun y=>(aleaf k x y).bind fun b=>(aleaves xs ys r).map fun c=>b && c

def aun (op:UnOp):AVal->Option AVal
 | .lit (.bool b)=>match op with
  | .not=>some (vbool (!b))
  | _=>none
 | .lit (.int k n)=>match op with
  | .neg=>some (vint k (k.wrap (0 - n)))
  | .xor=>some (bits k (· ^^^ ·) (if k.signed then -1 else k.max) n)
  | _=>none
 | _=>none

def bytesOf:List (List AVal)->Option (List UInt8)
 | []=>some []
 | [.lit (.int .u8 n)]::r=>(bytesOf r).map fun l=>UInt8.ofNat n.toNat::l
 | _=>none

def asNat:AVal->Option Nat
 | .lit (.int _ n)=>if 0<=n then some n.toNat else none
 | _=>none

def optNat (ρ:Opd->AVal) (d:Nat):Option Opd->Option Nat
 | none=>some d
 | some x=>asNat (ρ x)

def rowsOk (sz:Nat) (es:List (List AVal)):Bool:=es.all fun r=>r.length == sz

def aslice (sz:Nat) (H:Heap) (x:AVal) (lo:Nat) (hi mx:Option Nat):Option (AVal × Heap) :=
 match x with
 | .imm n full fl es =>
  let h:=hi.getD es.length
  let m:=mx.getD h
  if lo<=h/\h<=m/\m<=es.length/\rowsOk sz es=true then
   some (.imm n (if mx.isSome then decide (m=h) else full && decide (h=es.length)) fl ((es.take h).drop lo),H)
  else none
 | .own i len so off n=>if so≠sz then none else match mx with
  | none=>let h:=hi.getD n;if lo<=h/\h<=n then some (.own i len sz (off+lo) (h - lo),H) else none
  | some m=>match H[i]? with
   | some (.arr fl lk _ se es) =>
    let h:=hi.getD n
    if es.length=len/\se=sz/\off=0/\n=len/\lo=0/\h=m/\m<=n then
     some (.own H.length h sz 0 h,H.set i .dead++[.arr fl lk true sz (es.take h)])
    else none
   | _=>none
 | .asl i k sa len=>match mx with
  | none=>let h:=hi.getD len;if lo<=h/\h<=len/\sa=sz then some (.asl i (k+lo * sz) sz (h - lo),H) else none
  | some _=>none
 | _=>none

def aadd (fl:Bool) (sz bytes:Nat) (H:Heap) (s:AVal) (fx:Bool) (ys:List (List AVal)):Option (AVal × Heap) :=
    if (fl && !fx) || !rowsOk sz ys then none else
    match s with
    | .imm n full fs es =>
      if ys.length=0 then some (s,H)
      else if !full || (fl && !fs) || !rowsOk sz es || (es.length+ys.length) * bytes > 2 ^ 46 then none
      else some (.own H.length (es.length+ys.length) sz 0 (es.length+ys.length),H++[.arr fl false false sz (es++ys)])
    | .own i len so off n=>match H[i]? with
      | some (.arr fe lk _ se es) =>
        if es.length=len/\so=sz/\off=0/\n<=len/\se=sz/\fe=fl then
          if ys.length=0 then some (s,H)
          else if (n+ys.length) * bytes > 2 ^ 46 then none
          else if n=len then some (.own i (len+ys.length) sz 0 (len+ys.length),H.set i (.arr fl lk false sz (es++ys)))
          else if lk then none
          else some (.own H.length (n+ys.length) sz 0 (n+ys.length),H.set i .dead++[.arr fl false false sz (es.take n++ys)])
        else none
      | _=>none
    | _=>none

def aappend (fl:Bool) (sz bytes:Nat) (H:Heap) (s x:AVal):Option (AVal × Heap) :=
 match x with
 | .lit (.string b)=>aadd fl sz bytes H s true (b.toList.map fun c=>[vint .u8 c.toNat])
 | _=>(content H x).bind fun r=>aadd fl sz bytes H s r.1 r.2

def aidxS (sz:Nat) (x:AVal) (i:Nat):Option AVal :=
 match x with
 | .imm _ _ fl es=>match es[i]? with
  | some cs=>if cs.length=sz then some (.iptr fl es i 0) else none
  | none=>none
 | .own p len so off n=>if i<n/\so=sz then some (.eptr p len sz (off+i) 0) else none
 | .asl p k s len=>if i<len/\s=sz then some (.ptr p (k+i * sz)) else none
 | _=>none

def addOff (off:Nat):AVal->Option AVal
 | .ptr i k=>some (.ptr i (k+off))
 | .eptr i n s j k=>some (.eptr i n s j (k+off))
 | .iptr fl es j k=>some (.iptr fl es j (k+off))
 | _=>none

def afill (ρ:Opd->AVal) (cells:List AVal):List (Nat × Nat × Opd)->Option (List AVal)
 | []=>some cells
 | (off,n,x)::r=>(cellsO (ρ x)).bind fun vs =>
  if vs.length=n/\off+n<=cells.length then afill ρ (over cells off vs) r else none

def afillS (fl:Bool) (sz:Nat) (ρ:Opd->AVal) (H:Heap) (es:List (List AVal)) (ls:List Nat):List (Nat × Opd)->Option (List (List AVal) × List Nat)
 | []=>some (es,ls)
 | (j,x)::r=>(snapV H (ρ x)).bind fun v=>(cellsO v.1).bind fun vs =>
  if vs.length=sz/\j<es.length/\(fl=true->flatL vs=true) then afillS fl sz ρ H (es.set j vs) (ls++v.2) r else none

def foldI (f:Int->Int->Int) (ρ:Opd->AVal) (k:IntKind) (a:Int):List Opd->Option AVal
 | []=>some (vint k a)
 | x::r=>match ρ x with
  | .lit (.int k' b)=>if k=k' then foldI f ρ k (f a b) r else none
  | _=>none

def reach (H:Heap):Nat->List Nat->List Nat->Option (List Nat)
 | _,[],acc=>some acc
 | 0,_,_=>none
 | n+1,i::w,acc=>if i∈acc then reach H n w acc else match H[i]? with
  | some e=>reach H n (refsE e++w) (acc++[i])
  | none=>none

def setAll (H:Heap):List Nat->List Entry->Heap
 | i::r,e::es=>setAll (H.set i e) r es
 | _,_=>H

def toGlob (ρ:List Nat) (n q:Nat):Nat:=if q<ρ.length then ρ.getD q 0 else n+(q - ρ.length)

abbrev Callee:=AVal->List AVal->Heap->Option (AVal × Heap)

def purse:Nat:=400

def withCall (callee:Callee) (f:AVal) (args:List AVal) (H:Heap):Option (AVal × Heap) :=
 (snapV H f).bind fun fs=>(snapL H args).bind fun xs =>
 let H1:=locks H (fs.2++xs.2)
 (reach H1 purse (refsV fs.1++refsL xs.1) []).bind fun ρ =>
 let g:=fun i=>ρ.idxOf i
 (callee (renV g fs.1) (renL g xs.1) (ρ.map fun i=>renE g (H1.getD i .dead))).bind fun r =>
 let h:=toGlob ρ H1.length
 some (renV h r.1,setAll H1 ρ ((r.2.take ρ.length).map (renE h))++(r.2.drop ρ.length).map (renE h))

mutual
def noImmV:AVal->Bool
 | .imm _ _ _ es=>es.isEmpty
 | .iptr _ _ _ _=>false
 | .agg cs=>noImmL cs
 | .tup cs=>noImmL cs
 | .iface _ v=>noImmV v
 | .func _ a b=>noImmL a && noImmL b
 | _=>true
def noImmL:List AVal->Bool
 | []=>true
 | c::r=>noImmV c && noImmL r
end
def noImmLL:List (List AVal)->Bool
 | []=>true
 | c::r=>noImmL c && noImmLL r
def noImmE:Entry->Bool
 | .box cs=>noImmL cs
 | .arr _ _ _ _ es=>noImmLL es
 | .loop ..=>false
 | .map _=>false
 | .dead=>true
def noImmH:Heap->Bool
 | []=>true
 | e::r=>noImmE e && noImmH r

def lentCall (callee:Callee) (f:AVal) (xs:List AVal) (ls:List Nat) (H:Heap):Option (AVal × Heap) :=
 let H1:=locks H ls
 (reach H1 purse (refsL xs) []).bind fun ρ =>
 let g:=fun i=>ρ.idxOf i
 (callee f (renL g xs) (ρ.map fun i=>renE g (H1.getD i .dead))).bind fun r =>
 let h:=toGlob ρ H.length
 if noImmV r.1=true/\noImmH r.2=true then some (renV h r.1,setAll H ρ ((r.2.take ρ.length).map (renE h))++(r.2.drop ρ.length).map (renE h)) else none

def withCallU (callee:Callee) (f:AVal) (args:List AVal) (H:Heap):Option (AVal × Heap) :=
 (snapL H args).bind fun xs=>if flatL xs.1=true then
  (callee f xs.1 []).bind fun r=>if noImmV r.1=true/\noImmH r.2=true then some (renV (H.length+·) r.1,H++r.2.map (renE (H.length+·))) else none
 else lentCall callee f xs.1 xs.2 H

def withCallR (callee:Callee) (f:AVal) (args:List AVal) (H:Heap):Option (AVal × Heap) :=
 (reach H purse (refsV f++refsL args) []).bind fun ρ =>
 let g:=fun i=>ρ.idxOf i
 (callee (renV g f) (renL g args) (ρ.map fun i=>renE g (H.getD i .dead))).bind fun r =>
 let h:=toGlob ρ H.length
 some (renV h r.1,setAll H ρ ((r.2.take ρ.length).map (renE h))++(r.2.drop ρ.length).map (renE h))

def oneRow (sz:Nat) (H:Heap):AVal->Option (Nat × Bool × List AVal)
 | .own j len so off n=>match H[j]? with
  | some (.arr fe _ _ se [r])=>if len=1/\so=sz/\se=sz/\off=0/\n=1/\r.length=sz then some (j,fe,r) else none
  | _=>none
 | _=>none

def insV (fl:Bool) (sz bytes:Nat) (H:Heap) (s:AVal) (p j:Nat) (fe:Bool) (r:List AVal):Option (AVal × Heap) :=
 match s with
 | .imm nl _ _ es=>if nl=true/\es.length=0/\p=0/\bytes<=2 ^ 46/\(fl=true->fe=true) then some (.own H.length 1 sz 0 1,H++[.arr fl false false sz [r]]) else none
 | .own i len so off n=>match H[i]? with
  | some (.arr f2 lk _ se es) =>
   if es.length=len/\so=sz/\off=0/\n=len/\se=sz/\f2=fl/\lk=false/\i≠j/\p<=n/\(n+1) * bytes<=2 ^ 46/\(fl=true->fe=true) then
    some (.own H.length (n+1) sz 0 (n+1),H.set i .dead++[.arr fl false false sz (es.take p++[r]++es.drop p)])
   else none
  | _=>none
 | _=>none

def delV (sz:Nat) (H:Heap) (s:AVal) (p q:Nat):Option (AVal × Heap) :=
 match s with
 | .own i len so off n=>match H[i]? with
  | some (.arr f2 lk _ se es) =>
   if es.length=len/\so=sz/\off=0/\n=len/\se=sz/\lk=false/\p<q/\q<=n then
    some (.own H.length (n - (q - p)) sz 0 (n - (q - p)),H.set i .dead++[.arr f2 false false sz (es.take p++es.drop q)])
   else none
  | _=>none
 | _=>none

def mfind (n:Int):List (Int × AVal)->Option AVal
 | []=>none
 | (k,v)::r=>if n=k then some v else mfind n r

def mput (n:Int) (x:AVal):List (Int × AVal)->List (Int × AVal)
 | []=>[(n,x)]
 | (k,v)::r=>if n=k then (k,x)::r else (k,v)::mput n x r

def libV (k:LibK) (fl:Bool) (sz bytes:Nat) (H:Heap) (args:List AVal):Option (AVal × Heap) :=
 match k,args with
 | .ins,[s,.lit (.int .i64 p),v]=>if 0<=p then (oneRow sz H v).bind fun r=>insV fl sz bytes H s p.toNat r.1 r.2.1 r.2.2 else none
 | .del,[s,.lit (.int .i64 p),.lit (.int .i64 q)]=>if 0<=p/\0<=q then delV sz H s p.toNat q.toNat else none
 | _,_=>none

def aop (callee:Callee) (ρ:Opd->AVal) (H:Heap):IOp->Option (AVal × Heap)
 | .copy x=>some (ρ x,H)
 | .pick c a b=>match ρ c with
  | .lit (.bool t)=>some (if t then ρ a else ρ b,H)
  | _=>none
 | .alloc zero=>some (.ptr H.length 0,H++[.box zero])
 | .box n x=>(cellsO (ρ x)).bind fun vs=>if vs.length=n then some (.ptr H.length 0,H++[.box vs]) else none
 | .build zero parts=>(afill ρ zero parts).map fun cs=>(.agg cs,H)
 | .mkSlice fl sz zero len parts=>(afillS fl sz ρ H (List.replicate len zero) [] parts).map fun r =>
  (.own H.length len sz 0 len,locks H r.2++[.arr fl false true sz r.1])
 | .load ag n a=>(aload ag n H (ρ a)).map fun v=>(v,H)
 | .store n a v=>(astore n H (ρ a) (ρ v)).map fun H'=>(.lit (.tuple #[]),H')
 | .nilCheck x=>match ρ x with
  | .ptr i k=>some (.ptr i k,H)
  | .iptr fl es j k=>some (.iptr fl es j k,H)
  | .func fn a b=>match fn with
   | .func f=>some (.func (.func f) a b,H)
   | _=>none
  | .yld i=>some (.yld i,H)
  | _=>none
 | .bin op x y=>(abin op (ρ x) (ρ y)).map fun v=>(v,H)
 | .isNil neg k x=>(anil k (ρ x)).map fun b=>(vbool (if neg then !b else b),H)
 | .eqB neg x y=>(aleaf .b (ρ x) (ρ y)).map fun b=>(vbool (if neg then !b else b),H)
 | .eqA neg ls x y=>match ρ x,ρ y with
  | .agg xs,.agg ys=>(aleaves xs ys ls).map fun b=>(vbool (if neg then !b else b),H)
  | _,_=>none
 | .un op x=>(aun op (ρ x)).map fun v=>(v,H)
 | .toInt k x=>match ρ x with
  | .lit (.int _ n)=>some (vint k (k.wrap n),H)
  | _=>none
 | .toStr x=>match ρ x with
  | .lit (.string s)=>some (.lit (.string s),H)
  | v=>(content H v).bind fun r=>(bytesOf r.2).map fun l=>(.lit (.string (ByteArray.mk l.toArray)),H)
 | .cpStr x=>match ρ x with
  | .lit (.string s)=>some (.lit (.string s),H)
  | _=>none
 | .mkFunc fn first captured=>some (.func fn (first.map ρ) (captured.map ρ),H)
 | .make fl sz bytes zero len cap=>match ρ len,ρ cap with
  | .lit (.int .i64 l),.lit (.int .i64 c) =>
   if 0<=l/\l<=c/\c<=2 ^ 46/\c * bytes<=2 ^ 46 then some (.own H.length l.toNat sz 0 l.toNat,H++[.arr fl false false sz (List.replicate l.toNat zero)]) else none
  | _,_=>none
 | .slice sz x lo hi mx=>(optNat ρ 0 lo).bind fun l =>
  match hi,mx with
  | none,none=>aslice sz H (ρ x) l none none
  | some h,none=>(asNat (ρ h)).bind fun h=>aslice sz H (ρ x) l (some h) none
  | some h,some m=>(asNat (ρ h)).bind fun h=>(asNat (ρ m)).bind fun m=>aslice sz H (ρ x) l (some h) (some m)
  | none,some _=>none
 | .sliceStr x lo hi=>(optNat ρ 0 lo).bind fun l=>match ρ x with
  | .lit (.string s)=>(optNat ρ s.size hi).bind fun h=>if l<=h/\h<=s.size then some (.lit (.string (s.extract l h)),H) else none
  | _=>none
 | .sliceArr n sz x lo hi=>(optNat ρ 0 lo).bind fun l=>(optNat ρ n hi).bind fun h =>
  match ρ x with
  | .ptr i k=>if l<=h/\h<=n then some (.asl i (k+l * sz) sz (h - l),H) else none
  | _=>none
 | .fieldA off x=>(addOff off (ρ x)).map fun v=>(v,H)
 | .fieldV ag n off x=>match ρ x with
  | .agg cs=>(get1 ag n (cs.drop off)).map fun v=>(v,H)
  | _=>none
 | .idxS sz x i=>(asNat (ρ i)).bind fun i=>(aidxS sz (ρ x) i).map fun v=>(v,H)
 | .idxA len sz x i=>(asNat (ρ i)).bind fun i=>if i<len then (addOff (i * sz) (ρ x)).map fun v=>(v,H) else none
 | .idxV ag len sz x i=>(asNat (ρ i)).bind fun i=>match ρ x with
  | .agg cs=>if i<len then (get1 ag sz (cs.drop (i * sz))).map fun v=>(v,H) else none
  | _=>none
 | .idxStr x i=>(asNat (ρ i)).bind fun i=>match ρ x with
  | .lit (.string s)=>(s.toList[i]?).map fun b=>(vint .u8 b.toNat,H)
  | _=>none
 | .extract x i=>match ρ x with
  | .tup vs=>(vs[i]?).map fun v=>(v,H)
  | _=>none
 | .call f args=>withCall callee (.func (.func f) [] []) (args.map ρ) H
 | .callV f args=>withCall callee (ρ f) (args.map ρ) H
 | .callU f args=>withCallU callee (.func (.func f) [] []) (args.map ρ) H
 | .callR f args=>withCallR callee (.func (.func f) [] []) (args.map ρ) H
 | .callL k fl sz bytes _ args=>libV k fl sz bytes H (args.map ρ)
 | .append fl sz bytes s x=>aappend fl sz bytes H (ρ s) (ρ x)
 | .len x=>match ρ x with
  | .imm _ _ _ es=>some (vint .i64 es.length,H)
  | .own _ _ _ _ n=>some (vint .i64 n,H)
  | .asl _ _ _ n=>some (vint .i64 n,H)
  | _=>none
 | .lenStr x=>match ρ x with
  | .lit (.string s)=>some (vint .i64 s.size,H)
  | _=>none
 | .lenArr n=>some (vint .i64 n,H)
 | .appendZ fl sz bytes zero s n=>match ρ n with
  | .lit (.int .i64 l)=>if 0<=l/\l<=2 ^ 46/\l * bytes<=2 ^ 46 then aadd fl sz bytes H (ρ s) (flatL zero) (List.replicate l.toNat zero) else none
  | _=>none
 | .cap x=>match ρ x with
  | .imm _ true _ es=>some (vint .i64 es.length,H)
  | _=>none
 | .mkIface t x=>some (.iface t (ρ x),H)
 | .fail=>none
 | .copyS sz d s=>(content H (ρ s)).bind fun r=>if !rowsOk sz r.2 then none else
  match ρ d with
  | .asl i k sd n=>match H[i]? with
   | some (.box cs) =>
    if sd=sz/\k+n * sz<=cs.length then
     let m:=min r.2.length n
     some (vint .i64 m,H.set i (.box (over cs k ((r.2.take m).flatten))))
    else none
   | _=>none
  | .own i len so off n=>match H[i]? with
   | some (.arr fl lk full se es) =>
    if es.length=len/\so=sz/\off+n<=len/\se=sz/\lk=false/\(fl=true->r.1=true) then
     let m:=min r.2.length n
     some (vint .i64 m,H.set i (.arr fl false full se (es.take off++r.2.take m++es.drop (off+m))))
    else none
   | _=>none
  | _=>none
 | .minI x xs=>match ρ x with
  | .lit (.int k a)=>(foldI (fun a b=>if b<a then b else a) ρ k a xs).map fun v=>(v,H)
  | _=>none
 | .maxI x xs=>match ρ x with
  | .lit (.int k a)=>(foldI (fun a b=>if b > a then b else a) ρ k a xs).map fun v=>(v,H)
  | _=>none
 | .mapNew=>some (.mref H.length,H++[.map []])
 | .mapGet zero m k=>match ρ m,ρ k with
  | .mref i,.lit (.int .i64 n)=>match H[i]? with
   | some (.map es)=>some ((mfind n es).getD zero,H)
   | _=>none
  | _,_=>none
 | .mapSet m k v=>match ρ m,ρ k with
  | .mref i,.lit (.int .i64 n)=>match H[i]? with
   | some (.map es)=>(cellsO (ρ v)).bind fun vs=>if vs.length=1 then some (.lit (.tuple #[]),H.set i (.map (mput n (ρ v) es))) else none
   | _=>none
  | _,_=>none

def put (dst:Option Nat) (v:AVal) (τ:Tmps):Tmps :=
 match dst with
 | some d=>(d,v)::τ
 | none=>τ

def aval (callee:Callee) (o:IOper) (τ:Tmps) (H:Heap):Option (AVal × Heap) :=
 match o.guard with
 | none=>aop callee (ev τ) H o.op
 | some (t,want)=>match lk t τ with
  | .lit (.bool b)=>if b=want then aop callee (ev τ) H o.op else some (.lit (.tuple #[]),H)
  | .lit _=>some (.lit (.tuple #[]),H)
  | _=>none

def aops (callee:Callee):List IOper->Tmps->Heap->Option (Tmps × Heap)
 | [],τ,H=>some (τ,H)
 | o::r,τ,H=>(aval callee o τ H).bind fun x=>aops callee r (put o.dst x.1 τ) x.2

def hist (callee:Callee):List IOper->Tmps->Heap->List (Tmps × Heap)
 | [],τ,H=>[(τ,H)]
 | o::r,τ,H=>(τ,H)::match aval callee o τ H with
  | some x=>hist callee r (put o.dst x.1 τ) x.2
  | none=>[]

section
variable [DecidableEq AVal]

def calm (callee:Callee) (ops:List IOper) (hs:List (Tmps × Heap)) (p:Nat × Nat):Bool :=
 match ops[p.1]?,hs[p.1]?,hs[p.2]?,hs[p.2+1]? with
 | some o,some (τ,H),some (_,Ha),some (_,Hb) =>
  match aval callee o τ H,aval callee o τ Ha,aval callee o τ Hb with
  | some x,some y,some z=>decide (x.1=y.1) && decide (x.1=z.1)
  | _,_,_=>false
 | _,_,_,_=>false

def callReach (f:AVal) (args:List AVal) (H:Heap):Option (List Nat) :=
 (snapV H f).bind fun fs=>(snapL H args).bind fun xs =>
 reach (locks H (fs.2++xs.2)) purse (refsV fs.1++refsL xs.1) []

def aside (callee:Callee) (ops:List IOper) (hs:List (Tmps × Heap)) (p:Nat × Nat):Bool :=
 match ops[p.1]?,hs[p.1]?,ops[p.2]?,hs[p.2]? with
 | some o,some (τ,H),some u,some (τu,Hu) =>
  match aval callee o τ H,u.guard with
  | some (.ptr s _,_),none =>
   match u.op with
   | .call f args=>match callReach (.func (.func f) [] []) (args.map (ev τu)) Hu with
    | some R=>!(R.contains s)
    | none=>false
   | .callV f args=>match callReach (ev τu f) (args.map (ev τu)) Hu with
    | some R=>!(R.contains s)
    | none=>false
   | _=>false
  | _,_=>false
 | _,_,_,_=>false

def areg (callee:Callee) (ops:List IOper) (chk flo:List (Nat × Nat)) (τ:Tmps) (H:Heap):Option (Tmps × Heap) :=
 match chk,flo with
 | [],[]=>aops callee ops τ H
 | _,_=>let hs:=hist callee ops τ H
  if chk.all (calm callee ops hs) && flo.all (aside callee ops hs) then aops callee ops τ H else none
end

def sweep (R:List Nat):Nat->Heap->Heap
 | _,[]=>[]
 | i,e::r=>if i∈R then e::sweep R (i+1) r else match sweep R (i+1) r with
  | []=>[]
  | r'=>.dead::r'

def keep (τ:Tmps):List Nat->Tmps
 | []=>[]
 | t::r=>(t,lk t τ)::keep τ r

def rootsOf (H:Heap):Nat->List Nat
 | 0=>[]
 | n+1=>rootsOf H n++refsE (H.getD n .dead)

def marked:List Nat->Bool
 | l::_=>l == 1000000
 | []=>false

def liveT:List Nat->List Nat
 | l::r=>if l == 1000000 then r else l::r
 | []=>[]

def gcLoop (m:Nat) (live:List Nat) (τ:Tmps) (H:Heap):Option (Tmps × Heap) :=
 (reach H purse (rootsOf H m++refsT (keep τ (liveT live))) (List.range m)).map fun R =>
  if marked live=true then (renT (fun i=>R.idxOf i) (keep τ (liveT live)),R.map fun i=>renE (fun i=>R.idxOf i) (H.getD i .dead))
  else (keep τ (liveT live),sweep R 0 H)

def gcRet (m:Nat) (v:AVal) (H:Heap):Option (AVal × Heap) :=
 (reach H purse (rootsOf H m++refsV v) (List.range m)).map fun R =>
  let g:=fun i=>R.idxOf i
  (renV g v,R.map fun i=>renE g (H.getD i .dead))

def exitTo (id:Nat):List Item->Option (List Item)
 | .inBlock id'::k=>if id'=id then some k else exitTo id k
 | _::k=>exitTo id k
 | []=>none

def aresults (τ:Tmps) (H:Heap):List IRes->Option (List AVal)
 | []=>some []
 | .tmp t::r=>(aresults τ H r).map fun l=>lk t τ::l
 | .cell t ag n::r=>(aload ag n H (lk t τ)).bind fun v=>(aresults τ H r).map fun l=>v::l

def packed:List AVal->AVal
 | [v]=>v
 | vs=>.tup vs

def number (i:Nat):List AVal->Tmps
 | []=>[]
 | v::r=>(i,v)::number (i+1) r

section
variable [DecidableEq AVal] (E:Nat->Option IFn)

mutual
def arun:Nat->Nat->List Item->Tmps->Heap->Option (Option Jump × Tmps × Heap)
 | 0,_,_,_,_=>none
 | _+1,_,[],τ,H=>some (none,τ,H)
 | n+1,m,.inBlock _::k,τ,H=>arun n m k τ H
 | n+1,m,.inScope::k,τ,H=>arun n m k τ H
 | n+1,m,.inLoop live b::k,τ,H=>(gcLoop m live τ H).bind fun s=>arun n m (.code b::.inLoop live b::k) s.1 s.2
 | n + 1,m,.code c::k,τ,H=>match c with
  | .skip=>arun n m k τ H
  | .reg ops chk flo=>(areg (acall n) ops chk flo τ H).bind fun s=>arun n m k s.1 s.2
  | .seq a b=>arun n m (.code a::.code b::k) τ H
  | .cond c a b=>match ev τ c with
   | .lit (.bool t)=>if t then arun n m (.code a::k) τ H else arun n m (.code b::k) τ H
   | _=>none
  | .block id b=>arun n m (.code b::.inBlock id::k) τ H
  | .loop live b=>(gcLoop m live τ H).bind fun s=>arun n m (.code b::.inLoop live b::k) s.1 s.2
  | .exit id=>match exitTo id k with
   | some k'=>arun n m k' τ H
   | none=>some (some (.exit id),τ,H)
  | .ret=>some (some .ret,τ,H)
  | .scope b=>arun n m (.code b::.inScope::k) τ H
  | .range f uses params assign body =>
   (withCall (acall n) (ev τ f) [.yld H.length] (H++[.loop 0 none (keep τ uses) params assign body])).bind fun r =>
   match r.2[H.length]? with
   | some (.loop st pend _ _ _ _) =>
    if st=1 then none else
    match pend with
    | none=>arun n m k τ (r.2.set H.length .dead)
    | some .ret=>some (some .ret,τ,r.2.set H.length .dead)
    | some (.exit id)=>match exitTo id k with
     | some k'=>arun n m k' τ (r.2.set H.length .dead)
     | none=>some (some (.exit id),τ,r.2.set H.length .dead)
   | _=>none
def acall:Nat->AVal->List AVal->Heap->Option (AVal × Heap)
  | 0,_,_,_=>none
  | n + 1, f, args,H=>match f with
    | .func (.func id) first cap=>(E id).bind fun fn =>
      (arun n H.length [.code fn.body] (number 0 (first++args++cap)) H).bind fun s =>
      match s.1 with
      | some (.exit _)=>none
      | _=>(aresults s.2.1 s.2.2 fn.results).bind fun vs=>gcRet H.length (packed vs) s.2.2
    | .yld i=>match H[i]? with
      | some (.loop 0 _ snap ps a b) =>
        if args.length≠ps.length then none else
        (arun n H.length [.code a] (ps.zip args++snap) H).bind fun s =>
        match s.1 with
        | some _=>none
        | none=>match s.2.2[i]? with
          | some (.loop 0 p snap' ps' a' b') =>
            (arun n H.length [.code b] s.2.1 (s.2.2.set i (.loop 1 p snap' ps' a' b'))).bind fun u =>
            match u.2.2[i]? with
            | some (.loop _ _ snap' ps' a' b') =>
              gcRet H.length (vbool u.1.isNone) (u.2.2.set i (.loop (if u.1.isNone then 0 else 2) u.1 snap' ps' a' b'))
            | _=>none
          | _=>none
      | _=>none
    | _=>none
end
end

end Go.AM
namespace Go.AM

def ofV:Value->Option AVal
 | .slice none 0 0=>some nilS
 | .bool b=>some (.lit (.bool b))
 | .int k n=>some (.lit (.int k n))
 | .string s=>some (.lit (.string s))
 | .pointer none=>some (.lit (.pointer none))
 | .nilFunc=>some (.lit .nilFunc)
 | .nilIface=>some (.lit .nilIface)
 | .map none=>some (.lit (.map none))
 | .func (.func f) a b=>if a.size=0/\b.size=0 then some (.func (.func f) [] []) else none
 | _=>none

def ofVs:List Value->Option (List AVal)
 | []=>some []
 | v::r=>(ofV v).bind fun x=>(ofVs r).map fun y=>x::y

def ofC:Value->Option AVal
 | .agg cs=>(ofVs cs.toList).map .agg
 | .tuple vs=>if vs.size=0 then some (.lit (.tuple #[])) else none
 | v=>ofV v

def opd:Operand->Option Opd
 | .tmp t=>some (.t t)
 | .const v=>(ofC v).map .c
 | .func f=>some (.c (.func (.func f) [] []))
 | .global _=>none

def opds:List Operand->Option (List Opd)
 | []=>some []
 | x::r=>(opd x).bind fun a=>(opds r).map fun b=>a::b

def opdO:Option Operand->Option (Option Opd)
 | none=>some none
 | some x=>(opd x).map some

section
variable (P:Program)

def zeroOf (t:TypeId):Option (List AVal):=((P.info? t).bind (·.zero)).bind fun z=>ofVs z.cells.toList

def isAggT (t:TypeId):Bool :=
 match P.underlying t with
 | some (.struct _) | some (.array _ _)=>true
 | _=>false

def flatT:Nat->TypeId->Bool
 | 0,_=>false
 | d+1,t=>match P.underlying t with
  | some .bool | some (.int _) | some .string=>true
  | some (.slice e)=>flatT d e
  | some (.array _ e)=>flatT d e
  | some (.struct fs)=>fs.toList.all fun f=>flatT d f.type
  | _=>false

def depthL:Nat:=12

def leafF (off:Field->Nat) (g:TypeId->Option (List (Nat × LeafK))):List Field->Option (List (Nat × LeafK))
  | []=>some []
  | f :: r => if f.name = "_" then none else (g f.type).bind fun l => (leafF off g r).map fun m => l.map (fun p => (off f + p.1, p.2)) ++ m

def within (n:Nat) (l:Option (List (Nat × LeafK))):Option (List (Nat × LeafK)):=l.bind fun l=>if l.all (fun p=>decide (p.1<n)) then some l else none

def leafT:Nat->TypeId->Option (List (Nat × LeafK))
 | 0,_=>none
 | d+1,t=>within (P.cellsOf t) (match P.underlying t with
  | some .bool=>some [(0,.b)]
  | some (.int _)=>some [(0,.i)]
  | some .string=>some [(0,.s)]
  | some (.array n e)=>(leafT d e).map fun l=>(List.range n).flatMap fun i=>l.map fun p=>(i * P.cellsOf e+p.1,p.2)
  | some (.struct fs)=>if P.stoodInHeld t then none else leafF (·.offset) (leafT d) fs.toList
  | _=>none)

def nilFits (d:TypeDesc) (x:Operand):Option NilK :=
 match d,x with
 | .pointer _,.const (.pointer none)=>some .ptr
 | .slice _,.const (.slice none _ _)=>some .slice
 | .func ..,.const .nilFunc=>some .func
 | .interface _,.const .nilIface=>some .iface
 | .map _ _,.const (.map none)=>some .map
 | _,_=>none

def compEq (neg:Bool) (t:TypeId) (d:TypeDesc) (x y:Operand) (a b:Opd):Option IOp :=
 match nilFits d x with
 | some k=>some (.isNil neg k b)
 | none=>match nilFits d y with
  | some k=>some (.isNil neg k a)
  | none=>match d with
   | .bool=>some (.eqB neg a b)
   | .struct _ | .array _ _=>if P.eqGuardType P.depth t then none else (leafT P depthL t).map fun l=>.eqA neg l a b
   | _=>none

def lends (f:FuncId):Bool :=
  match P.funcs[f]? with
  | some fn => fn.name == "bytes.Clone" || fn.name == "magneto/seek.Of" || fn.name == "slices.Index[[]magneto/api.Frame,magneto/api.Frame]" || fn.name == "slices.IndexFunc[[]magneto/api.Frame,magneto/api.Frame]" || fn.name == "slices.Clone[[]magneto/api.Frame,magneto/api.Frame]"
  | none=>false

def hands (f:FuncId):Bool :=
  match P.funcs[f]? with
  | some fn => fn.name == "magneto/bus.join"
  | none=>false

def libOf (f:FuncId):Option LibK :=
  match P.funcs[f]? with
  | some fn => if fn.name == "slices.Insert[[]magneto/api.Frame,magneto/api.Frame]" then some .ins else if fn.name == "slices.Delete[[]magneto/api.Frame,magneto/api.Frame]" then some .del else none
  | none=>none

def rowOf (f:FuncId):Option TypeId :=
 (P.funcs[f]?).bind fun fn=>(fn.params[0]?).bind fun t=>match P.underlying t with
  | some (.slice e)=>some e
  | _=>none

def hasBody (f:FuncId):Bool :=
  match P.funcs[f]? with
  | some fn => fn.body.isSome && fn.name != "runtime.NumGoroutine"
  | none=>false

def partsOf (place:Nat->Option (Nat × Nat)):List (Nat × Operand)->Option (List (Nat × Nat × Opd))
 | []=>some []
 | (i,x)::r=>(place i).bind fun p=>(opd x).bind fun a=>(partsOf place r).map fun l=>(p.1,p.2,a)::l

def partsS:List (Nat × Operand)->Option (List (Nat × Opd))
 | []=>some []
 | (i,x)::r=>(opd x).bind fun a=>(partsS r).map fun l=>(i,a)::l

def elemT (t:TypeId):Option TypeId :=
 match P.underlying t with
 | some (.slice e)=>some e
 | _=>none

def depthT:Nat:=12

def mapT (t:TypeId):Bool :=
 match P.underlying t with
 | some (.map k e)=>(match P.underlying k with | some (.int .i64)=>true | _=>false) && (match (P.info? e).bind (·.zero) with | some (.slice none 0 0)=>true | _=>false)
 | _=>false

def compOp (o:Oper):Option IOp :=
  match o.op with
  | .move x | .assign x=>(opd x).map .copy
  | .pick c a b=>(opd c).bind fun c=>(opd a).bind fun a=>(opd b).map fun b=>.pick c a b
  | .alloc t=>(zeroOf P t).map .alloc
  | .box t x=>(opd x).map fun x=>.box (P.cellsOf t) x
  | .build t ps=>(zeroOf P t).bind fun z=>match P.underlying t with
    | some (.struct fs)=>if !(fs.all fun f=>(P.info? f.type).isSome) then none else (partsOf (fun i=>(fs[i]?).map fun f=>(f.offset,P.cellsOf f.type)) ps.toList).map fun l=>.build z l
    | some (.array _ e)=>if (P.info? e).isNone then none else (partsOf (fun i=>some (i * P.cellsOf e,P.cellsOf e)) ps.toList).map fun l=>.build z l
    | _=>none
  | .buildSlice t n ps=>(elemT P t).bind fun e=>(zeroOf P e).bind fun z=>(partsS ps.toList).bind fun l =>
    if n * P.cellsOf e<=2 ^ 24/\P.cellsOf e≠0/\z.length=P.cellsOf e then some (.mkSlice (flatT P depthT e) (P.cellsOf e) z n l) else none
  | .load t a=>if (P.underlying t).isSome then (opd a).map fun a=>.load (isAggT P t) (P.cellsOf t) a else none
  | .store t a v=>if (P.underlying t).isSome then (opd a).bind fun a=>(opd v).map fun v=>.store (P.cellsOf t) a v else none
  | .nilCheck x=>(opd x).map .nilCheck
  | .binOp op t x y _=>(opd x).bind fun a=>(opd y).bind fun b=>(P.underlying t).bind fun d =>
    match d with
    | .int _ | .string=>some (.bin op a b)
    | d=>match op with
      | .eql=>compEq P false t d x y a b
      | .neq=>compEq P true t d x y a b
      | _=>none
  | .unOp op _ x=>(opd x).map fun x=>.un op x
  | .convert s d x=>(opd x).bind fun a=>match P.underlying s,P.underlying d with
    | some (.int _),some (.int k)=>some (.toInt k a)
    | some .string,some .string=>some (.cpStr a)
    | some (.slice e),some .string=>match P.underlying e with
      | some (.int .u8)=>some (.toStr a)
      | _=>none
    | _,_=>none
  | .makeFunc fn a b=>match fn with
    | .func _=>(opds a.toList).bind fun a=>(opds b.toList).map fun b=>.mkFunc fn a b
    | _=>none
  | .makeSlice t l c=>(elemT P t).bind fun e=>(zeroOf P e).bind fun z=>(opd l).bind fun l=>(opd c).bind fun c =>
    if P.cellsOf e≠0/\z.length=P.cellsOf e then some (.make (flatT P depthT e) (P.cellsOf e) (P.bytesOf e) z l c) else none
  | .slice t x lo hi mx=>(opd x).bind fun x=>(opdO lo).bind fun lo=>(opdO hi).bind fun hi=>(opdO mx).bind fun mx =>
    match P.underlying t with
    | some (.slice e)=>if (P.info? e).isSome then some (.slice (P.cellsOf e) x lo hi mx) else none
    | some .string=>if mx.isNone then some (.sliceStr x lo hi) else none
    | some (.array n e)=>if mx.isNone/\(P.info? e).isSome then some (.sliceArr n (P.cellsOf e) x lo hi) else none
    | some (.pointer a)=>match P.underlying a with
      | some (.array n e)=>if mx.isNone/\(P.info? e).isSome then some (.sliceArr n (P.cellsOf e) x lo hi) else none
      | _=>none
    | _=>none
  | .fieldAddr t x f=>(opd x).bind fun x=>match P.underlying t with
    | some (.struct fs)=>(fs[f]?).bind fun f=>if P.cellsOf f.type≠0 then some (.fieldA f.offset x) else none
    | _=>none
  | .field t x f=>(opd x).bind fun x=>match P.underlying t with
    | some (.struct fs)=>(fs[f]?).bind fun f=>if (P.underlying f.type).isSome then some (.fieldV (isAggT P f.type) (P.cellsOf f.type) f.offset x) else none
    | _=>none
  | .indexAddr t x i=>(opd x).bind fun x=>(opd i).bind fun i=>match P.underlying t with
    | some (.slice e)=>if (P.info? e).isSome then some (.idxS (P.cellsOf e) x i) else none
    | some (.array n e)=>if (P.info? e).isSome then some (.idxA n (P.cellsOf e) x i) else none
    | _=>none
  | .index t x i=>(opd x).bind fun x=>(opd i).bind fun i=>match P.underlying t with
    | some (.array n e)=>if (P.underlying e).isSome then some (.idxV (isAggT P e) n (P.cellsOf e) x i) else none
    | some .string=>some (.idxStr x i)
    | _=>none
  | .extract t i=>(opd t).map fun t=>.extract t i
  | .call c => (opds c.args.toList).bind fun xs=>match c.callee with
    | .value (.func f)=>if hasBody P f then (match libOf P f with
      | some k=>(rowOf P f).bind fun e=>if P.cellsOf e≠0/\P.bytesOf e≠0 then some (.callL k (flatT P depthT e) (P.cellsOf e) (P.bytesOf e) f xs) else none
      | none=>some (if lends P f then .callU f xs else if hands P f then .callR f xs else .call f xs)) else none
    | .value x=>(opd x).map fun x=>.callV x xs
    | .builtin b=>match b,xs with
      | .append,[s,x]=>match c.argTypes.toList with
        | [st,xt]=>(elemT P st).bind fun e=>(zeroOf P e).bind fun z =>
          if P.cellsOf e≠0/\P.bytesOf e≠0/\z.length=P.cellsOf e then
            match P.underlying xt with
            | some (.int _)=>some (.appendZ (flatT P depthT e) (P.cellsOf e) (P.bytesOf e) z s x)
            | none=>none
            | some _=>some (.append (flatT P depthT e) (P.cellsOf e) (P.bytesOf e) s x)
          else none
        | _=>none
      | .cap,[x]=>(c.argTypes[0]?).bind fun t=>match P.underlying t with
        | some (.slice _)=>some (.cap x)
        | _=>none
      | .len,[x]=>(c.argTypes[0]?).bind fun t=>match P.underlying t with
        | some (.slice _)=>some (.len x)
        | some .string=>some (.lenStr x)
        | some (.array n _)=>some (.lenArr n)
        | some (.pointer a)=>match P.underlying a with
          | some (.array n _)=>some (.lenArr n)
          | _=>none
        | _=>none
      | .copy,[d,s]=>(c.argTypes[0]?).bind fun t=>(elemT P t).bind fun e=>if (P.info? e).isSome then some (.copyS (P.cellsOf e) d s) else none
      | .min,x::r=>some (.minI x r)
      | .max,x::r=>some (.maxI x r)
      | _,_=>none
    | _=>none
  | .makeInterface t x=>(opd x).bind fun x=>match P.underlying t with
    | some (.interface _)=>none
    | some _=>some (.mkIface t x)
    | none=>none
  | .panic _=>some .fail
  | .makeMap t r=>if mapT P t=true then (match r with
    | none=>some .mapNew
    | some (.const (.int _ _))=>some .mapNew
    | _=>none) else none
  | .lookup t m k ok=>if mapT P t=true/\ok=false then (opd m).bind fun m=>(opd k).map fun k=>.mapGet nilS m k else none
  | .mapUpdate t m k v=>if mapT P t=true then (opd m).bind fun m=>(opd k).bind fun k=>(opd v).map fun v=>.mapSet m k v else none
  | _=>none

def acts:IOp->Bool
 | .alloc _ | .box .. | .mkSlice .. | .store .. | .make .. | .call .. | .callV .. | .callU .. | .callR .. | .callL .. | .append .. | .appendZ .. | .copyS .. | .fail | .mapNew | .mapSet ..=>true
 | .slice _ _ _ _ mx=>mx.isSome
 | _=>false

def looks:IOp->Bool
 | .load .. | .toStr _ | .mapGet ..=>true
 | _=>false

def guardT (ops:Array Oper) (o:Oper):Option (Option (Nat × Bool)) :=
 match o.guard with
 | none=>some none
 | some (j,w)=>match (ops[j]?).bind (·.dst) with
  | some t=>some (some (t,w))
  | none=>none

def compOper (ops:Array Oper) (nt:Nat) (o:Oper):Option IOper :=
 (compOp P o).bind fun op=>(guardT ops o).bind fun g =>
 match o.dst with
 | some d=>if d<nt then some ⟨g,some d,op⟩ else none
 | none=>some ⟨g,none,op⟩

def compOpers (ops:Array Oper) (nt:Nat):List Oper->Option (List IOper)
 | []=>some []
 | o::r=>(compOper P ops nt o).bind fun x=>(compOpers ops nt r).map fun y=>x::y

def sure (b:Array Nat) (i j:Nat):Bool:=(b.getD (max i j) 0).testBit (min i j)

def isCall:IOp->Bool
 | .call .. | .callV .. | .callU .. | .callR .. | .callL ..=>true
 | _=>false

def readsO:Opd->List Nat
 | .t n=>[n]
 | .c _=>[]
def readsQ:Option Opd->List Nat
 | none=>[]
 | some x=>readsO x

def readsI:IOp->List Nat
 | .copy x | .box _ x | .load _ _ x | .nilCheck x | .isNil _ _ x | .un _ x | .toInt _ x | .toStr x | .cpStr x | .fieldA _ x | .fieldV _ _ _ x | .extract x _ | .cap x | .mkIface _ x | .len x | .lenStr x=>readsO x
 | .pick c a b=>readsO c++readsO a++readsO b
 | .alloc _ | .fail | .lenArr _ | .mapNew=>[]
 | .mapGet _ m k=>readsO m++readsO k
 | .mapSet m k v=>readsO m++readsO k++readsO v
 | .build _ ps=>ps.flatMap fun p=>readsO p.2.2
 | .mkSlice _ _ _ _ ps=>ps.flatMap fun p=>readsO p.2
 | .store _ a v=>readsO a++readsO v
 | .bin _ x y | .eqB _ x y | .eqA _ _ x y | .idxS _ x y | .idxA _ _ x y | .idxV _ _ _ x y | .idxStr x y | .append _ _ _ x y | .appendZ _ _ _ _ x y | .copyS _ x y=>readsO x++readsO y
 | .mkFunc _ a b=>a.flatMap readsO++b.flatMap readsO
 | .make _ _ _ _ l c=>readsO l++readsO c
 | .slice _ x a b c=>readsO x++readsQ a++readsQ b++readsQ c
 | .sliceStr x a b=>readsO x++readsQ a++readsQ b
 | .sliceArr _ _ x a b=>readsO x++readsQ a++readsQ b
 | .call _ xs | .callU _ xs | .callR _ xs | .callL _ _ _ _ _ xs=>xs.flatMap readsO
 | .callV f xs=>readsO f++xs.flatMap readsO
 | .minI x xs | .maxI x xs=>readsO x++xs.flatMap readsO

def readsU (u:IOper):List Nat:=(match u.guard with | some (t,_)=>[t] | none=>[])++readsI u.op

def apart (u v:IOper):Bool :=
  (match u.dst with
   | some d=>!(readsU v).contains d && v.dst != some d
   | none=>true) &&
  (match v.dst with
   | some d=>!(readsU u).contains d
   | none=>true)

def pairOk (b:Array Nat) (i j:Nat) (u v:IOper):Bool:=(!(acts u.op && acts v.op) && apart u v) || sure b i j

abbrev Placed:=(Oper × IOper) × Nat

def pairsOk (b:Array Nat):List Placed->Bool
 | []=>true
 | p::r=>(r.all fun q=>pairOk b p.2 q.2 p.1.2 q.1.2) && pairsOk b r

def edgesOk (l:List Placed):Bool:=l.all fun p=>p.1.1.after.all fun e=>!Region.binds .any e || decide (e.on<p.2)

def drawOk (b:Array Nat) (l:List Placed):Bool:=edgesOk l && pairsOk b l

def chkOf (b:Array Nat) (l:List Placed):List (Nat × Nat) :=
 l.flatMap fun p=>if looks p.1.2.op then l.filterMap fun q=>if acts q.1.2.op && p.2 != q.2 && !sure b p.2 q.2 then some (p.2,q.2) else none else []


def hoisted (ops:Array Oper) (i0:Nat) (js:List Nat):Array Oper :=
 ops.modify i0 fun o=>{ o with after:=o.after++(js.map fun j=>({ on:=j,ground:=.data }:Edge)).toArray }

def isLay (o:Oper):Bool:=match o.op with
 | .alloc _=>true
 | _=>false

def lateOf (ops:Array Oper) (is:List IOper):Option Nat :=
 let b:=Region.before ops
 (List.range ops.size).find? fun i=>((ops[i]?).any isLay) && (List.range i).any fun j=>((is[j]?).any fun u=>acts u.op) && !sure b j i

def lateJs (is:List IOper) (i0:Nat):List Nat:=(List.range i0).filter fun j=>(is[j]?).any fun u=>acts u.op

def lateOk (ops:Array Oper) (is:List IOper) (i0 d0:Nat) (js:List Nat):Bool :=
 ((ops[i0]?).any fun o=>isLay o && o.guard.isNone && o.dst == some d0) && (js.all fun j=>decide (j<i0)) &&
 ((is.take i0).all fun u=>!(readsU u).contains d0 && u.dst != some d0) &&
 (ops.toList.zipIdx.all fun p=>!(p.1.after.any fun e=>Region.binds .any e && e.on == i0) || js.all fun j=>((Region.before ops).getD p.2 0).testBit j)

def plain:Code->Bool
 | .seq a b=>plain a && plain b
 | .cond _ a b=>plain a && plain b
 | .block _ b=>plain b
 | .loop b=>plain b
 | .scope b=>plain b
 | .rangeFunc ..=>false
 | _=>true

def compC (nt:Nat):Code->List (List Nat)->Option (ICode × List (List Nat))
 | .skip,ls=>some (.skip,ls)
 | .label _,ls=>some (.skip,ls)
 | .region _ ops d,ls=>(compOpers P ops nt ops.toList).bind fun is =>
  if d then
   let l:=(ops.toList.zip is).zipIdx
   let b:=Region.before ops
   if drawOk b l then some (.reg is (chkOf b l) [],ls) else
    (lateOf ops is).bind fun i0=>((ops[i0]?).bind (·.dst)).bind fun d0 =>
    let js:=lateJs is i0
    let ops2:=hoisted ops i0 js
    let l2:=(ops2.toList.zip is).zipIdx
    if lateOk ops is i0 d0 js && (edgesOk l && drawOk (Region.before ops2) l2) then some (.reg is (chkOf (Region.before ops2) l2) [],ls) else none
  else some (.reg is [] [],ls)
 | .seq a b,ls=>(compC nt a ls).bind fun x=>(compC nt b x.2).map fun y=>(.seq x.1 y.1,y.2)
 | .cond c a b,ls=>(opd c).bind fun c=>(compC nt a ls).bind fun x=>(compC nt b x.2).map fun y=>(.cond c x.1 y.1,y.2)
 | .block id b,ls=>(compC nt b ls).map fun x=>(.block id x.1,x.2)
 | .loop b,ls=>match ls with
  | l::ls=>(compC nt b ls).map fun x=>(.loop l x.1,x.2)
  | []=>none
 | .rangeFunc f ps a b,ls=>match ls with
  | l::ls=>if !(plain a && plain b && ps.toList.all (fun p=>decide (p<nt)) && decide ps.toList.Nodup) then none else (opd f).bind fun f=>(compC nt a ls).bind fun x=>(compC nt b x.2).map fun y=>(.range f l ps.toList x.1 y.1,y.2)
  | []=>none
 | .exit id,ls=>some (.exit id,ls)
 | .scope b,ls=>(compC nt b ls).map fun x=>(.scope x.1,x.2)
 | .ret,ls=>some (.ret,ls)
 | _,_=>none

def compR:List ResultVar->Option (List IRes)
 | []=>some []
 | .tmp t::r=>(compR r).map fun l=>.tmp t::l
 | .cell a t::r=>if (P.underlying t).isSome then (compR r).map fun l=>.cell a (isAggT P t) (P.cellsOf t)::l else none

def compF (ls:List (List Nat)) (f:FuncId):Option IFn :=
 (P.funcs[f]?).bind fun fn=>fn.body.bind fun c =>
 if hasBody P f then
  (compC P fn.ntmps c ls).bind fun x=>(compR P fn.results.toList).map fun r=>⟨x.1,r⟩
 else none
end

end Go.AM
namespace Go.AM


def LeC (c c':Callee):Prop:=∀ f a H r,c f a H=some r->c' f a H=some r

theorem withCall_le {c c':Callee} (h:LeC c c') {f a H r} (hr:withCall c f a H=some r):withCall c' f a H=some r:=by
 unfold withCall at hr ⊢
 simp only [Option.bind_eq_some_iff] at hr ⊢
 obtain ⟨fs,hfs,xs,hxs,ρ,hρ,x,hx,e⟩:=hr
 exact ⟨fs,hfs,xs,hxs,ρ,hρ,x,h _ _ _ _ hx,e⟩

theorem withCallU_le {c c':Callee} (h:LeC c c') {f a H r} (hr:withCallU c f a H=some r):withCallU c' f a H=some r:=by
 unfold withCallU at hr ⊢
 simp only [Option.bind_eq_some_iff] at hr ⊢
 obtain ⟨xs,hxs,hr⟩:=hr
 refine ⟨xs,hxs,?_⟩
 split at hr
 ·rename_i hf
  rw [if_pos hf]
  simp only [Option.bind_eq_some_iff] at hr ⊢
  obtain ⟨x,hx,e⟩:=hr
  exact ⟨x,h _ _ _ _ hx,e⟩
 ·rename_i hf
  rw [if_neg hf]
  unfold lentCall at hr ⊢
  simp only [Option.bind_eq_some_iff] at hr ⊢
  obtain ⟨ρ,hρ,x,hx,e⟩:=hr
  exact ⟨ρ,hρ,x,h _ _ _ _ hx,e⟩

theorem withCallR_le {c c':Callee} (h:LeC c c') {f a H r} (hr:withCallR c f a H=some r):withCallR c' f a H=some r:=by
 unfold withCallR at hr ⊢
 simp only [Option.bind_eq_some_iff] at hr ⊢
 obtain ⟨ρ,hρ,x,hx,e⟩:=hr
 exact ⟨ρ,hρ,x,h _ _ _ _ hx,e⟩

theorem aop_le {c c':Callee} (h:LeC c c') {ρ H} {op:IOp} {r} (hr:aop c ρ H op=some r):aop c' ρ H op=some r:=by
 cases op<;>first | exact hr | exact withCall_le h hr | exact withCallU_le h hr | exact withCallR_le h hr

theorem aval_le {c c':Callee} (h:LeC c c') {o τ H r} (hr:aval c o τ H=some r):aval c' o τ H=some r:=by
 unfold aval at hr ⊢
 split<;>rename_i hg<;>simp only [hg] at hr
 ·exact aop_le h hr
 ·split<;>rename_i hl<;>simp only [hl] at hr
  ·split<;>rename_i hb<;>simp only [hb,if_true] at hr
   ·exact aop_le h hr
   ·exact hr
  ·exact hr
  ·exact hr

theorem aops_le {c c':Callee} (h:LeC c c'):∀ (ops:List IOper) {τ H r},aops c ops τ H=some r->aops c' ops τ H=some r
 | [],_,_,_,hr=>hr
 | o::ops,τ,H,r,hr=>by
  simp only [aops,Option.bind_eq_some_iff] at hr ⊢
  obtain ⟨x,hx,hr⟩:=hr
  exact ⟨x,aval_le h hx,aops_le h ops hr⟩

theorem hist_le {c c':Callee} (h:LeC c c'):∀ (ops:List IOper) {τ H} {i:Nat} {x},(hist c ops τ H)[i]?=some x->(hist c' ops τ H)[i]?=some x
 | [],_,_,_,_,hx=>hx
 | o::ops,τ,H,0,x,hx=>by simpa [hist] using hx
 | o :: ops,τ,H,i+1,x,hx=>by
  simp only [hist,List.getElem?_cons_succ] at hx ⊢
  cases ha:aval c o τ H with
  | none=>simp [ha] at hx
  | some y =>
   rw [ha] at hx
   rw [aval_le h ha]
   exact hist_le h ops hx

section
variable [DecidableEq AVal] (E:Nat->Option IFn)
theorem arun_skip {n m k τ H}:arun E (n+1) m (.code .skip::k) τ H=arun E n m k τ H:=by simp only [arun]
theorem arun_reg {n m ops chk flo k τ H}:arun E (n+1) m (.code (.reg ops chk flo)::k) τ H=(areg (acall E n) ops chk flo τ H).bind fun s=>arun E n m k s.1 s.2:=by simp only [arun]
theorem arun_seq {n m a b k τ H}:arun E (n+1) m (.code (.seq a b)::k) τ H=arun E n m (.code a::.code b::k) τ H:=by simp only [arun]
theorem arun_cond {n m c a b k τ H}:arun E (n+1) m (.code (.cond c a b)::k) τ H=match ev τ c with
 | .lit (.bool t)=>if t then arun E n m (.code a::k) τ H else arun E n m (.code b::k) τ H
 | _=>none:=by simp only [arun]
theorem arun_block {n m id b k τ H}:arun E (n+1) m (.code (.block id b)::k) τ H=arun E n m (.code b::.inBlock id::k) τ H:=by simp only [arun]
theorem arun_loop {n m live b k τ H}:arun E (n+1) m (.code (.loop live b)::k) τ H=(gcLoop m live τ H).bind fun s=>arun E n m (.code b::.inLoop live b::k) s.1 s.2:=by simp only [arun]
theorem arun_exit {n m id k τ H}:arun E (n+1) m (.code (.exit id)::k) τ H=match exitTo id k with
 | some k'=>arun E n m k' τ H
 | none=>some (some (.exit id),τ,H):=by simp only [arun]
theorem arun_ret {n m k τ H}:arun E (n+1) m (.code .ret::k) τ H=some (some .ret,τ,H):=by simp only [arun]
theorem arun_scope {n m b k τ H}:arun E (n+1) m (.code (.scope b)::k) τ H=arun E n m (.code b::.inScope::k) τ H:=by simp only [arun]
def afterA (n m i:Nat) (k:List Item) (τ:Tmps) (H:Heap):Option (Option Jump × Tmps × Heap) :=
 match H[i]? with
 | some (.loop st pend _ _ _ _) =>
  if st=1 then none else
  match pend with
  | none=>arun E n m k τ (H.set i .dead)
  | some .ret=>some (some .ret,τ,H.set i .dead)
  | some (.exit id)=>match exitTo id k with
   | some k'=>arun E n m k' τ (H.set i .dead)
   | none=>some (some (.exit id),τ,H.set i .dead)
 | _=>none
theorem arun_range {n m f u ps a b k τ H}:arun E (n+1) m (.code (.range f u ps a b)::k) τ H =
  (withCall (acall E n) (ev τ f) [.yld H.length] (H++[.loop 0 none (keep τ u) ps a b])).bind fun r=>afterA E n m H.length k τ r.2:=by
 simp only [arun,afterA]
theorem acall_func {n id first cap args H}:acall E (n+1) (.func (.func id) first cap) args H=(E id).bind fun fn =>
   (arun E n H.length [.code fn.body] (number 0 (first++args++cap)) H).bind fun s =>
   match s.1 with
   | some (.exit _)=>none
   | _=>(aresults s.2.1 s.2.2 fn.results).bind fun vs=>gcRet H.length (packed vs) s.2.2:=by simp only [acall]
def roundEnd (m i:Nat) (u:Option Jump × Tmps × Heap):Option (AVal × Heap) :=
 match u.2.2[i]? with
 | some (.loop _ _ snap' ps' a' b')=>gcRet m (vbool u.1.isNone) (u.2.2.set i (.loop (if u.1.isNone then 0 else 2) u.1 snap' ps' a' b'))
 | _=>none
def roundBody (n m i:Nat) (b:ICode) (s:Option Jump × Tmps × Heap):Option (AVal × Heap) :=
 match s.1 with
 | some _=>none
 | none=>match s.2.2[i]? with
  | some (.loop 0 p snap' ps' a' b')=>(arun E n m [.code b] s.2.1 (s.2.2.set i (.loop 1 p snap' ps' a' b'))).bind (roundEnd m i)
  | _=>none
theorem acall_yld {n i args H}:acall E (n+1) (.yld i) args H=match H[i]? with
   | some (.loop 0 _ snap ps a b) =>
    if args.length≠ps.length then none else (arun E n H.length [.code a] (ps.zip args++snap) H).bind (roundBody E n H.length i b)
   | _=>none:=by simp only [acall];rfl
end

section
variable [DecidableEq AVal]

theorem calm_le {c c':Callee} (h:LeC c c') {ops τ H p} (hr:calm c ops (hist c ops τ H) p=true):calm c' ops (hist c' ops τ H) p=true:=by
 unfold calm at hr ⊢
 split at hr
 ·rename_i o τ1 H1 τa Ha τb Hb h1 h2 h3 h4
  simp only [h1,hist_le h ops h2,hist_le h ops h3,hist_le h ops h4]
  split at hr
  ·rename_i x y z hx hy hz
   simp only [aval_le h hx,aval_le h hy,aval_le h hz]
   exact hr
  ·cases hr
 ·cases hr

omit [DecidableEq AVal] in
theorem aside_le {c c':Callee} (h:LeC c c') {ops τ H p} (hr:aside c ops (hist c ops τ H) p=true):aside c' ops (hist c' ops τ H) p=true:=by
 unfold aside at hr ⊢
 split at hr
 ·rename_i o τ1 H1 u τu Hu h1 h2 h3 h4
  simp only [h1,hist_le h ops h2,h3,hist_le h ops h4]
  split at hr
  ·rename_i s k w hx hg
   simp only [aval_le h hx,hg]
   exact hr
  ·cases hr
 ·cases hr

theorem areg_le {c c':Callee} (h:LeC c c') {ops chk flo τ H r} (hr:areg c ops chk flo τ H=some r):areg c' ops chk flo τ H=some r:=by
 unfold areg at hr ⊢
 split at hr
 ·exact aops_le h ops hr
 ·rename_i hne
  revert hr
  simp only []
  split
  ·rename_i hc
   intro hr
   rw [Bool.and_eq_true,List.all_eq_true,List.all_eq_true] at hc
   rw [if_pos]
   ·exact aops_le h ops hr
   ·rw [Bool.and_eq_true,List.all_eq_true,List.all_eq_true]
    exact ⟨fun p hp=>calm_le h (hc.1 p hp),fun p hp=>aside_le h (hc.2 p hp)⟩
  ·intro hr;cases hr

variable (E:Nat->Option IFn)

mutual
theorem arun_succ:∀ (n m:Nat) (todo:List Item) (τ:Tmps) (H:Heap) r,arun E n m todo τ H=some r->arun E (n+1) m todo τ H=some r
 | 0,m,todo,τ,H,r,h=>by simp [arun] at h
 | n + 1, m, todo,τ,H,r,h=>by
  have hl:LeC (acall E n) (acall E (n+1)):=fun f a H r h=>acall_succ n f a H r h
  match todo,h with
  | [],h=>simpa [arun] using h
  | .inBlock _::k,h=>rw [arun] at h ⊢;exact arun_succ n m k τ H r h
  | .inScope::k,h=>rw [arun] at h ⊢;exact arun_succ n m k τ H r h
  | .inLoop live b::k,h =>
   rw [arun,Option.bind_eq_some_iff] at h ⊢
   obtain ⟨s,hs,h⟩:=h
   exact ⟨s,hs,arun_succ n m _ _ _ r h⟩
  | .code c :: k,h =>
   cases c with
   | skip=>rw [arun_skip] at h ⊢;exact arun_succ n m k τ H r h
   | reg ops chk flo =>
    rw [arun_reg,Option.bind_eq_some_iff] at h ⊢
    obtain ⟨s,hs,h⟩:=h
    exact ⟨s,areg_le hl hs,arun_succ n m _ _ _ r h⟩
   | seq a b=>rw [arun_seq] at h ⊢;exact arun_succ n m _ τ H r h
   | cond c a b =>
    rw [arun_cond] at h ⊢
    split at h
    ·rename_i t hc
     cases t with
     | true=>exact arun_succ n m _ τ H r h
     | false=>exact arun_succ n m _ τ H r h
    ·cases h
   | block id b=>rw [arun_block] at h ⊢;exact arun_succ n m _ τ H r h
   | loop live b =>
    rw [arun_loop,Option.bind_eq_some_iff] at h ⊢
    obtain ⟨s,hs,h⟩:=h
    exact ⟨s,hs,arun_succ n m _ _ _ r h⟩
   | exit id =>
    rw [arun_exit] at h ⊢
    cases hc:exitTo id k with
    | some k'=>rw [hc] at h;exact arun_succ n m _ τ H r h
    | none=>rw [hc] at h;exact h
   | ret=>rw [arun_ret] at h ⊢;exact h
   | scope b=>rw [arun_scope] at h ⊢;exact arun_succ n m _ τ H r h
   | range f u ps a b =>
    rw [arun_range,Option.bind_eq_some_iff] at h ⊢
    obtain ⟨s,hs,h⟩:=h
    refine ⟨s,withCall_le hl hs,?_⟩
    unfold afterA at h ⊢
    split at h
    ·rename_i st pend _ _ _ _ hi
     split at h
     ·cases h
     ·rename_i hst
      rw [if_neg hst]
      split at h
      ·exact arun_succ n m _ _ _ r h
      ·exact h
      ·rename_i id
       cases hc:exitTo id k with
       | some k'=>rw [hc] at h;exact arun_succ n m _ _ _ r h
       | none=>rw [hc] at h;exact h
    ·cases h
theorem acall_succ:∀ (n:Nat) (f:AVal) (a:List AVal) (H:Heap) r,acall E n f a H=some r->acall E (n+1) f a H=some r
 | 0,f,a,H,r,h=>by simp [acall] at h
 | n + 1, f, a,H,r,h=>by
  cases f with
  | func fn first cap =>
   cases fn with
   | func id =>
    rw [acall_func,Option.bind_eq_some_iff] at h ⊢
    obtain ⟨fn,hfn,h⟩:=h
    rw [Option.bind_eq_some_iff] at h
    obtain ⟨s,hs,h⟩:=h
    refine ⟨fn,hfn,?_⟩
    rw [Option.bind_eq_some_iff]
    exact ⟨s,arun_succ n _ _ _ _ _ hs,h⟩
   | _=>simp [acall] at h
  | yld i =>
   rw [acall_yld] at h ⊢
   split at h
   ·rename_i p snap ps x y hi
    split at h
    ·cases h
    ·rename_i hlen
     rw [if_neg hlen]
     rw [Option.bind_eq_some_iff] at h ⊢
     obtain ⟨s,hs,h⟩:=h
     refine ⟨s,arun_succ n _ _ _ _ _ hs,?_⟩
     unfold roundBody at h ⊢
     split at h
     ·cases h
     ·split at h
      ·rw [Option.bind_eq_some_iff] at h ⊢
       obtain ⟨u,hu,h⟩:=h
       exact ⟨u,arun_succ n _ _ _ _ _ hu,h⟩
      ·cases h
   ·cases h
  | _=>simp [acall] at h
end

open Classical in
noncomputable def call (f:AVal) (a:List AVal) (H:Heap):Option (AVal × Heap) :=
 if h:∃ r n,acall E n f a H=some r then some h.choose else none

open Classical in
noncomputable def run (m:Nat) (todo:List Item) (τ:Tmps) (H:Heap):Option (Option Jump × Tmps × Heap) :=
 if h:∃ r n,arun E n m todo τ H=some r then some h.choose else none

theorem acall_add {n k:Nat} {f a H r} (h:acall E n f a H=some r):acall E (n+k) f a H=some r:=by
 induction k with
 | zero=>exact h
 | succ k ih=>exact acall_succ E _ _ _ _ _ ih

theorem arun_add {n k m:Nat} {todo τ H r} (h:arun E n m todo τ H=some r):arun E (n+k) m todo τ H=some r:=by
 induction k with
 | zero=>exact h
 | succ k ih=>exact arun_succ E _ _ _ _ _ _ ih

theorem call_iff {f a H r}:call E f a H=some r↔∃ n,acall E n f a H=some r:=by
 unfold call
 split
 ·rename_i h
  obtain ⟨n,hn⟩:=h.choose_spec
  constructor
  ·intro e;cases e;exact ⟨n,hn⟩
  ·rintro ⟨k,hk⟩
   have h1:=acall_add E (k:=k) hn
   have h2:=acall_add E (k:=n) hk
   rw [Nat.add_comm] at h2
   rw [h1] at h2
   exact h2
 ·rename_i h
  constructor
  ·intro e;cases e
  ·rintro ⟨k,hk⟩;exact absurd ⟨r,k,hk⟩ h

theorem run_iff {m todo τ H r}:run E m todo τ H=some r↔∃ n,arun E n m todo τ H=some r:=by
 unfold run
 split
 ·rename_i h
  obtain ⟨n,hn⟩:=h.choose_spec
  constructor
  ·intro e;cases e;exact ⟨n,hn⟩
  ·rintro ⟨k,hk⟩
   have h1:=arun_add E (k:=k) hn
   have h2:=arun_add E (k:=n) hk
   rw [Nat.add_comm] at h2
   rw [h1] at h2
   exact h2
 ·rename_i h
  constructor
  ·intro e;cases e
  ·rintro ⟨k,hk⟩;exact absurd ⟨r,k,hk⟩ h

theorem le_call (n:Nat):LeC (acall E n) (call E):=fun _ _ _ _ h=>(call_iff E).2 ⟨n,h⟩
theorem le_acall {n k:Nat} (h:n<=k):LeC (acall E n) (acall E k):=fun _ _ _ _ hr=>by
 obtain ⟨d,rfl⟩:=Nat.le.dest h
 exact acall_add E hr

theorem withCall_fin {f a H r} (h:withCall (call E) f a H=some r):∃ n,withCall (acall E n) f a H=some r:=by
 unfold withCall at h
 simp only [Option.bind_eq_some_iff] at h
 obtain ⟨fs,hfs,xs,hxs,ρ,hρ,x,hx,e⟩:=h
 obtain ⟨n,hn⟩:=(call_iff E).1 hx
 refine ⟨n,?_⟩
 unfold withCall
 simp only [Option.bind_eq_some_iff]
 exact ⟨fs,hfs,xs,hxs,ρ,hρ,x,hn,e⟩

theorem withCallU_fin {f a H r} (h:withCallU (call E) f a H=some r):∃ n,withCallU (acall E n) f a H=some r:=by
 unfold withCallU at h
 simp only [Option.bind_eq_some_iff] at h
 obtain ⟨xs,hxs,h⟩:=h
 split at h
 ·rename_i hf
  simp only [Option.bind_eq_some_iff] at h
  obtain ⟨x,hx,e⟩:=h
  obtain ⟨n,hn⟩:=(call_iff E).1 hx
  refine ⟨n,?_⟩
  unfold withCallU
  simp only [Option.bind_eq_some_iff]
  refine ⟨xs,hxs,?_⟩
  rw [if_pos hf]
  simp only [Option.bind_eq_some_iff]
  exact ⟨x,hn,e⟩
 ·rename_i hf
  unfold lentCall at h
  simp only [Option.bind_eq_some_iff] at h
  obtain ⟨ρ,hρ,x,hx,e⟩:=h
  obtain ⟨n,hn⟩:=(call_iff E).1 hx
  refine ⟨n,?_⟩
  unfold withCallU
  simp only [Option.bind_eq_some_iff]
  refine ⟨xs,hxs,?_⟩
  rw [if_neg hf]
  unfold lentCall
  simp only [Option.bind_eq_some_iff]
  exact ⟨ρ,hρ,x,hn,e⟩

theorem withCallR_fin {f a H r} (h:withCallR (call E) f a H=some r):∃ n,withCallR (acall E n) f a H=some r:=by
 unfold withCallR at h
 simp only [Option.bind_eq_some_iff] at h
 obtain ⟨ρ,hρ,x,hx,e⟩:=h
 obtain ⟨n,hn⟩:=(call_iff E).1 hx
 refine ⟨n,?_⟩
 unfold withCallR
 simp only [Option.bind_eq_some_iff]
 exact ⟨ρ,hρ,x,hn,e⟩

theorem aop_fin {ρ H} {op:IOp} {r} (h:aop (call E) ρ H op=some r):∃ n,aop (acall E n) ρ H op=some r:=by
 cases op<;>first | exact ⟨0,h⟩ | exact withCall_fin E h | exact withCallU_fin E h | exact withCallR_fin E h

theorem aval_fin {o τ H r} (h:aval (call E) o τ H=some r):∃ n,aval (acall E n) o τ H=some r:=by
 unfold aval at h
 split at h<;>rename_i hg
 ·obtain ⟨n,hn⟩:=aop_fin E h
  exact ⟨n,by unfold aval;simp only [hg];exact hn⟩
 ·split at h<;>rename_i hl
  ·split at h<;>rename_i hb
   ·obtain ⟨n,hn⟩:=aop_fin E h
    exact ⟨n,by unfold aval;simp only [hg,hl,hb,if_true];exact hn⟩
   ·exact ⟨0,by unfold aval;simp only [hg,hl,hb,if_false];exact h⟩
  ·refine ⟨0,?_⟩
   rename_i v hn
   unfold aval
   simp only [hg]
   rw [hl]
   cases v with
   | bool b=>exact absurd rfl (hn b)
   | _=>exact h
  ·cases h

theorem aops_fin:∀ (ops:List IOper) {τ H r},aops (call E) ops τ H=some r->∃ n,aops (acall E n) ops τ H=some r
 | [],_,_,_,h=>⟨0,h⟩
 | o::ops,τ,H,r,h=>by
  simp only [aops,Option.bind_eq_some_iff] at h
  obtain ⟨x,hx,h⟩:=h
  obtain ⟨n,hn⟩:=aval_fin E hx
  obtain ⟨k,hk⟩:=aops_fin ops h
  refine ⟨n+k,?_⟩
  simp only [aops,Option.bind_eq_some_iff]
  exact ⟨x,aval_le (le_acall E (Nat.le_add_right n k)) hn,aops_le (le_acall E (Nat.le_add_left k n)) ops hk⟩

theorem hist_fin:∀ (ops:List IOper) {τ H} {i:Nat} {x},(hist (call E) ops τ H)[i]?=some x->∃ n,(hist (acall E n) ops τ H)[i]?=some x
 | [],_,_,_,_,hx=>⟨0,hx⟩
 | o::ops,τ,H,0,x,hx=>⟨0,by simpa [hist] using hx⟩
 | o :: ops,τ,H,i+1,x,hx=>by
  simp only [hist,List.getElem?_cons_succ] at hx
  cases ha:aval (call E) o τ H with
  | none=>simp [ha] at hx
  | some y =>
   rw [ha] at hx
   obtain ⟨n,hn⟩:=aval_fin E ha
   obtain ⟨k,hk⟩:=hist_fin ops hx
   refine ⟨n+k,?_⟩
   simp only [hist,List.getElem?_cons_succ,aval_le (le_acall E (Nat.le_add_right n k)) hn]
   exact hist_le (le_acall E (Nat.le_add_left k n)) ops hk

theorem calm_fin {ops τ H p} (hr:calm (call E) ops (hist (call E) ops τ H) p=true):∃ n,calm (acall E n) ops (hist (acall E n) ops τ H) p=true:=by
 unfold calm at hr
 split at hr
 ·rename_i o τ1 H1 τa Ha τb Hb h1 h2 h3 h4
  split at hr
  ·rename_i x y z hx hy hz
   obtain ⟨n2,h2'⟩:=hist_fin E ops h2
   obtain ⟨n3,h3'⟩:=hist_fin E ops h3
   obtain ⟨n4,h4'⟩:=hist_fin E ops h4
   obtain ⟨nx,hx'⟩:=aval_fin E hx
   obtain ⟨ny,hy'⟩:=aval_fin E hy
   obtain ⟨nz,hz'⟩:=aval_fin E hz
   refine ⟨n2+n3+n4+nx+ny+nz,?_⟩
   unfold calm
   simp only [h1,hist_le (le_acall E (by omega:n2<=n2+n3+n4+nx+ny+nz)) ops h2',hist_le (le_acall E (by omega:n3<=n2+n3+n4+nx+ny+nz)) ops h3',
    hist_le (le_acall E (by omega:n4<=n2+n3+n4+nx+ny+nz)) ops h4',aval_le (le_acall E (by omega:nx<=n2+n3+n4+nx+ny+nz)) hx',
    aval_le (le_acall E (by omega:ny<=n2+n3+n4+nx+ny+nz)) hy',aval_le (le_acall E (by omega:nz<=n2+n3+n4+nx+ny+nz)) hz']
   exact hr
  ·cases hr
 ·cases hr

omit [DecidableEq AVal] in
theorem aside_fin [DecidableEq AVal] {ops τ H p} (hr:aside (call E) ops (hist (call E) ops τ H) p=true):∃ n,aside (acall E n) ops (hist (acall E n) ops τ H) p=true:=by
 unfold aside at hr
 split at hr
 ·rename_i o τ1 H1 u τu Hu h1 h2 h3 h4
  split at hr
  ·rename_i s k w hx hg
   obtain ⟨n2,h2'⟩:=hist_fin E ops h2
   obtain ⟨n4,h4'⟩:=hist_fin E ops h4
   obtain ⟨nx,hx'⟩:=aval_fin E hx
   refine ⟨n2+n4+nx,?_⟩
   unfold aside
   simp only [h1,hist_le (le_acall E (by omega:n2<=n2+n4+nx)) ops h2',h3,hist_le (le_acall E (by omega:n4<=n2+n4+nx)) ops h4',
    aval_le (le_acall E (by omega:nx<=n2+n4+nx)) hx',hg]
   exact hr
  ·cases hr
 ·cases hr

omit [DecidableEq AVal] in
theorem all_fin {α:Type} {p:Nat->α->Bool} {q:α->Bool} (hle:∀ n k a,n<=k->p n a=true->p k a=true) (hf:∀ a,q a=true->∃ n,p n a=true) :
  ∀ (l:List α),l.all q=true->∃ n,l.all (p n)=true
 | [],_=>⟨0,rfl⟩
 | a::l,h=>by
  rw [List.all_cons,Bool.and_eq_true] at h
  obtain ⟨n,hn⟩:=hf a h.1
  obtain ⟨k,hk⟩:=all_fin hle hf l h.2
  refine ⟨n+k,?_⟩
  rw [List.all_cons,Bool.and_eq_true]
  refine ⟨hle n _ a (by omega) hn,?_⟩
  rw [List.all_eq_true] at hk ⊢
  exact fun x hx=>hle k _ x (by omega) (hk x hx)

theorem areg_fin {ops chk flo τ H r} (h:areg (call E) ops chk flo τ H=some r):∃ n,areg (acall E n) ops chk flo τ H=some r:=by
 unfold areg at h
 split at h
 ·obtain ⟨n,hn⟩:=aops_fin E ops h
  exact ⟨n,by unfold areg;exact hn⟩
 ·rename_i hne
  revert h
  simp only []
  split
  ·rename_i hc
   intro h
   rw [Bool.and_eq_true] at hc
   obtain ⟨n,hn⟩:=aops_fin E ops h
   obtain ⟨k,hk⟩:=all_fin (p:=fun n p=>calm (acall E n) ops (hist (acall E n) ops τ H) p) (fun n k a hle h=>calm_le (le_acall E hle) h) (fun a h=>calm_fin E h) chk hc.1
   obtain ⟨j,hj⟩:=all_fin (p:=fun n p=>aside (acall E n) ops (hist (acall E n) ops τ H) p) (fun n k a hle h=>aside_le (le_acall E hle) h) (fun a h=>aside_fin E h) flo hc.2
   refine ⟨n+k+j,?_⟩
   unfold areg
   split
   ·exact aops_le (le_acall E (by omega:n<=n+k+j)) ops hn
   ·simp only []
    rw [if_pos]
    ·exact aops_le (le_acall E (by omega:n<=n+k+j)) ops hn
    ·rw [List.all_eq_true] at hk hj
     rw [Bool.and_eq_true,List.all_eq_true,List.all_eq_true]
     exact ⟨fun p hp=>calm_le (le_acall E (by omega:k<=n+k+j)) (hk p hp),fun p hp=>aside_le (le_acall E (by omega:j<=n+k+j)) (hj p hp)⟩
  ·intro h;cases h


omit [DecidableEq AVal] in
theorem opt_ext {α:Type} {x y:Option α} (h:∀ r,x=some r↔y=some r):x=y:=by
 cases x with
 | none =>
  cases y with
  | none=>rfl
  | some b=>exact (by simpa using (h b).2 rfl)
 | some a=>exact ((h a).1 rfl).symm

theorem run_of_step {m todo τ H m' todo' τ' H'} (h:∀ n,arun E (n+1) m todo τ H=arun E n m' todo' τ' H'):run E m todo τ H=run E m' todo' τ' H':=by
 refine opt_ext fun r=>?_
 rw [run_iff,run_iff]
 constructor
 ·rintro ⟨n,hn⟩
  refine ⟨n,?_⟩
  rw [<- h]
  exact arun_succ E _ _ _ _ _ _ hn
 ·rintro ⟨n,hn⟩;exact ⟨n+1,by rw [h];exact hn⟩

theorem run_of_end {m todo τ H r} (h:∀ n,arun E (n+1) m todo τ H=r):run E m todo τ H=r:=by
 refine opt_ext fun x=>?_
 rw [run_iff]
 constructor
 ·rintro ⟨n,hn⟩
  rw [<- h n]
  exact arun_succ E _ _ _ _ _ _ hn
 ·rintro hr;exact ⟨1,by rw [h];exact hr⟩

theorem run_of_bind {m todo τ H} {x:Option (Tmps × Heap)} {k} (h:∀ n,arun E (n+1) m todo τ H=x.bind fun s=>arun E n m k s.1 s.2) :
  run E m todo τ H=x.bind fun s=>run E m k s.1 s.2:=by
 cases x with
 | none=>exact run_of_end E h
 | some s=>exact run_of_step E h

@[simp] theorem run_nil (m τ H):run E m [] τ H=some (none,τ,H):=run_of_end E fun n=>by simp [arun]
@[simp] theorem run_inBlock (m id k τ H):run E m (.inBlock id::k) τ H=run E m k τ H:=run_of_step E fun n=>by rw [arun]
@[simp] theorem run_inScope (m k τ H):run E m (.inScope::k) τ H=run E m k τ H:=run_of_step E fun n=>by rw [arun]
theorem run_inLoop (m live b k τ H):run E m (.inLoop live b::k) τ H=(gcLoop m live τ H).bind fun s=>run E m (.code b::.inLoop live b::k) s.1 s.2:=run_of_bind E fun n=>by rw [arun]
@[simp] theorem run_skip (m k τ H):run E m (.code .skip::k) τ H=run E m k τ H:=run_of_step E fun n=>by rw [arun.eq_def]
@[simp] theorem run_seq (m a b k τ H):run E m (.code (.seq a b)::k) τ H=run E m (.code a::.code b::k) τ H:=run_of_step E fun n=>by rw [arun.eq_def]
@[simp] theorem run_block (m id b k τ H):run E m (.code (.block id b)::k) τ H=run E m (.code b::.inBlock id::k) τ H:=run_of_step E fun n=>by rw [arun.eq_def]
@[simp] theorem run_scope (m b k τ H):run E m (.code (.scope b)::k) τ H=run E m (.code b::.inScope::k) τ H:=run_of_step E fun n=>by rw [arun.eq_def]
@[simp] theorem run_ret (m k τ H):run E m (.code .ret::k) τ H=some (some .ret,τ,H):=run_of_end E fun n=>by simp only [arun]
@[simp] theorem run_loop (m live b k τ H):run E m (.code (.loop live b)::k) τ H=run E m (.inLoop live b::k) τ H:=by
 rw [run_inLoop]
 exact run_of_bind E fun n=>by simp only [arun]
theorem run_cond {m c a b k τ H} {t:Bool} (h:ev τ c=vbool t):run E m (.code (.cond c a b)::k) τ H=if t=true then run E m (.code a::k) τ H else run E m (.code b::k) τ H:=by
 cases t with
 | true=>exact run_of_step E fun n=>by rw [arun_cond,h];rfl
 | false=>exact run_of_step E fun n=>by rw [arun_cond,h];rfl
theorem run_exit {m id k k' τ H} (h:exitTo id k=some k'):run E m (.code (.exit id)::k) τ H=run E m k' τ H:=run_of_step E fun n=>by simp only [arun,h]
theorem run_exit_none {m id k τ H} (h:exitTo id k=none):run E m (.code (.exit id)::k) τ H=some (some (.exit id),τ,H):=run_of_end E fun n=>by simp only [arun,h]
theorem run_reg (m ops chk flo k τ H):run E m (.code (.reg ops chk flo)::k) τ H=(areg (call E) ops chk flo τ H).bind fun s=>run E m k s.1 s.2:=by
 refine opt_ext fun r=>?_
 rw [run_iff,Option.bind_eq_some_iff]
 constructor
 ·rintro ⟨n,hn⟩
  cases n with
  | zero=>simp [arun] at hn
  | succ n =>
   simp only [arun,Option.bind_eq_some_iff] at hn
   obtain ⟨s,hs,hn⟩:=hn
   exact ⟨s,areg_le (le_call E n) hs,(run_iff E).2 ⟨n,hn⟩⟩
 ·rintro ⟨s,hs,hr⟩
  obtain ⟨n,hn⟩:=areg_fin E hs
  obtain ⟨k',hk⟩:=(run_iff E).1 hr
  refine ⟨n+k'+1,?_⟩
  simp only [arun,Option.bind_eq_some_iff]
  refine ⟨s,areg_le (le_acall E (Nat.le_add_right n k')) hn,?_⟩
  have:=arun_add E (k:=n) hk
  rwa [Nat.add_comm] at this

noncomputable def afterRange (m:Nat) (i:Nat) (k:List Item) (τ:Tmps) (H:Heap):Option (Option Jump × Tmps × Heap) :=
 match H[i]? with
 | some (.loop st pend _ _ _ _) =>
  if st=1 then none else
  match pend with
  | none=>run E m k τ (H.set i .dead)
  | some .ret=>some (some .ret,τ,H.set i .dead)
  | some (.exit id)=>match exitTo id k with
   | some k'=>run E m k' τ (H.set i .dead)
   | none=>some (some (.exit id),τ,H.set i .dead)
 | _=>none

end
end Go.AM
namespace Go.AM
open Go
def eqLit:Value->Value->Bool
 | .int k v,.int k' v'=>decide (k=k') && decide (v=v')
 | .bool a,.bool b=>a == b
 | .string s,.string t=>decide (s=t)
 | .pointer none,.pointer none=>true
 | .nilFunc,.nilFunc=>true
 | .nilIface,.nilIface=>true
 | .map none,.map none=>true
 | _,_=>false
theorem eqLit_eq {a b:Value} (h:eqLit a b=true):a=b:=by
 unfold eqLit at h
 split at h<;>simp_all
mutual
def eqV:AVal->AVal->Bool
 | .lit a,.lit b=>eqLit a b
 | .ptr i k,.ptr i' k'=>decide (i=i') && decide (k=k')
 | .eptr i l s j k,.eptr i' l' s' j' k'=>decide (i=i') && decide (l=l') && decide (s=s') && decide (j=j') && decide (k=k')
 | .iptr f es j k,.iptr f' es' j' k'=>decide (f=f') && eqLL es es' && decide (j=j') && decide (k=k')
 | .own i l s o n,.own i' l' s' o' n'=>decide (i=i') && decide (l=l') && decide (s=s') && decide (o=o') && decide (n=n')
 | .imm a b c es,.imm a' b' c' es'=>decide (a=a') && decide (b=b') && decide (c=c') && eqLL es es'
 | .asl i k s l,.asl i' k' s' l'=>decide (i=i') && decide (k=k') && decide (s=s') && decide (l=l')
 | .agg a,.agg b=>eqL a b
 | .tup a,.tup b=>eqL a b
 | .iface t v,.iface t' v'=>decide (t=t') && eqV v v'
 | .func f a b,.func f' a' b'=>decide (f=f') && eqL a a' && eqL b b'
 | .yld i,.yld j=>decide (i=j)
 | .mref i,.mref j=>decide (i=j)
 | .any,.any=>true
 | _,_=>false
def eqL:List AVal->List AVal->Bool
 | [],[]=>true
 | a::r,b::s=>eqV a b && eqL r s
 | _,_=>false
def eqLL:List (List AVal)->List (List AVal)->Bool
 | [],[]=>true
 | a::r,b::s=>eqL a b && eqLL r s
 | _,_=>false
end
mutual
theorem eqV_eq:∀ (a b:AVal),eqV a b=true->a=b:=by
 intro a b h
 cases a<;>cases b<;>simp only [eqV,Bool.and_eq_true,decide_eq_true_eq,reduceCtorEq,Bool.false_eq_true] at h
 case lit.lit=>rw [eqLit_eq h]
 case ptr.ptr=>rw [h.1,h.2]
 case eptr.eptr=>obtain ⟨⟨⟨⟨h1,h2⟩,h3⟩,h4⟩,h5⟩:=h;rw [h1,h2,h3,h4,h5]
 case iptr.iptr=>obtain ⟨⟨⟨h1,h2⟩,h3⟩,h4⟩:=h;rw [h1,eqLL_eq _ _ h2,h3,h4]
 case own.own=>obtain ⟨⟨⟨⟨h1,h2⟩,h3⟩,h4⟩,h5⟩:=h;rw [h1,h2,h3,h4,h5]
 case imm.imm=>obtain ⟨⟨⟨h1,h2⟩,h3⟩,h4⟩:=h;rw [h1,h2,h3,eqLL_eq _ _ h4]
 case asl.asl=>obtain ⟨⟨⟨h1,h2⟩,h3⟩,h4⟩:=h;rw [h1,h2,h3,h4]
 case agg.agg=>rw [eqL_eq _ _ h]
 case tup.tup=>rw [eqL_eq _ _ h]
 case iface.iface=>rw [h.1,eqV_eq _ _ h.2]
 case func.func=>obtain ⟨⟨h1,h2⟩,h3⟩:=h;rw [h1,eqL_eq _ _ h2,eqL_eq _ _ h3]
 case yld.yld=>rw [h]
 case mref.mref=>rw [h]
 case any.any=>rfl
theorem eqL_eq:∀ (a b:List AVal),eqL a b=true->a=b
 | [],[],_=>rfl
 | [],_::_,h=>by simp [eqL] at h
 | _::_,[],h=>by simp [eqL] at h
 | a::r,b::s,h=>by
  rw [eqL,Bool.and_eq_true] at h
  rw [eqV_eq _ _ h.1,eqL_eq _ _ h.2]
theorem eqLL_eq:∀ (a b:List (List AVal)),eqLL a b=true->a=b
 | [],[],_=>rfl
 | [],_::_,h=>by simp [eqLL] at h
 | _::_,[],h=>by simp [eqLL] at h
 | a::r,b::s,h=>by
  rw [eqLL,Bool.and_eq_true] at h
  rw [eqL_eq _ _ h.1,eqLL_eq _ _ h.2]
end
noncomputable instance decAVal:DecidableEq AVal:=fun a b =>
 if h:eqV a b=true then isTrue (eqV_eq a b h) else Classical.propDecidable _
end Go.AM
namespace Go.AM

def aopsK (c:Callee) (d:Option Nat) (r:List IOper) (τ:Tmps):Option (AVal × Heap)->Option (Tmps × Heap)
 | some x=>aops c r (put d x.1 τ) x.2
 | none=>none
def finK (m:Nat) (rs:List IRes):Option (Option Jump × Tmps × Heap)->Option (AVal × Heap)
 | some (some (.exit _),_,_)=>none
 | some (_,τ,H)=>(aresults τ H rs).bind fun vs=>gcRet m (packed vs) H
 | none=>none
def finR (m:Nat) (H:Heap):Option (List AVal)->Option (AVal × Heap)
 | some vs=>gcRet m (packed vs) H
 | none=>none
def pairK (H:Heap):Option AVal->Option (AVal × Heap)
 | some v=>some (v,H)
 | none=>none

section
variable (E:Nat->Option IFn)
noncomputable def runK (m:Nat) (k:List Item):Option (Tmps × Heap)->Option (Option Jump × Tmps × Heap)
 | some s=>run E m k s.1 s.2
 | none=>none
noncomputable def condK (m:Nat) (a b:ICode) (k:List Item) (τ:Tmps) (H:Heap):AVal->Option (Option Jump × Tmps × Heap)
 | .lit (.bool t)=>if t=true then run E m (.code a::k) τ H else run E m (.code b::k) τ H
 | _=>none
noncomputable def exitK (m id:Nat) (τ:Tmps) (H:Heap):Option (List Item)->Option (Option Jump × Tmps × Heap)
 | some k'=>run E m k' τ H
 | none=>some (some (.exit id),τ,H)

theorem c9f {id first cap args H fn} (h:E id=some fn):call E (.func (.func id) first cap) args H =
  finK H.length fn.results (run E H.length [.code fn.body] (number 0 (first++args++cap)) H):=by
 refine opt_ext fun r=>?_
 rw [call_iff]
 constructor
 ·rintro ⟨n,hn⟩
  cases n with
  | zero=>simp [acall] at hn
  | succ n =>
   rw [acall_func,h,Option.bind_some,Option.bind_eq_some_iff] at hn
   obtain ⟨⟨j,τ,H'⟩,hs,hr⟩:=hn
   rw [(run_iff E).2 ⟨n,hs⟩]
   rcases j with _ | j
   ·exact hr
   ·cases j<;>exact hr
 ·intro hr
  cases hs:run E H.length [.code fn.body] (number 0 (first++args++cap)) H with
  | none=>rw [hs] at hr;simp [finK] at hr
  | some s =>
   obtain ⟨n,hn⟩:=(run_iff E).1 hs
   rw [hs] at hr
   refine ⟨n+1,?_⟩
   rw [acall_func,h,Option.bind_some,hn,Option.bind_some]
   obtain ⟨j,τ,H'⟩:=s
   rcases j with _ | j
   ·exact hr
   ·cases j<;>exact hr

theorem run_reg0 (m ops k τ H):run E m (.code (.reg ops [] [])::k) τ H=runK E m k (aops (call E) ops τ H):=by
 rw [run_reg]
 show (aops (call E) ops τ H).bind _=_
 cases aops (call E) ops τ H<;>rfl
theorem runK_some (m k τ H):runK E m k (some (τ,H))=run E m k τ H:=rfl
theorem condK_bool (m a b k τ H t):condK E m a b k τ H (.lit (.bool t))=if t=true then run E m (.code a::k) τ H else run E m (.code b::k) τ H:=rfl
theorem exitK_some (m id τ H k):exitK E m id τ H (some k)=run E m k τ H:=rfl
theorem run_cond' (m c a b k τ H):run E m (.code (.cond c a b)::k) τ H=condK E m a b k τ H (ev τ c):=by
 cases h:ev τ c with
 | lit v=>cases v with
  | bool t=>exact run_cond E h
  | _=>exact run_of_end E fun n=>by rw [arun_cond,h];rfl
 | _=>exact run_of_end E fun n=>by rw [arun_cond,h];rfl
theorem run_exit' (m id k τ H):run E m (.code (.exit id)::k) τ H=exitK E m id τ H (exitTo id k):=by
 cases h:exitTo id k with
 | some k'=>exact run_exit E h
 | none=>exact run_exit_none E h
theorem r9l (m live b k τ H):run E m (.inLoop live b::k) τ H=runK E m (.code b::.inLoop live b::k) (gcLoop m live τ H):=by
 rw [run_inLoop]
 cases gcLoop m live τ H<;>rfl
end
theorem aops_nil (c τ H):aops c [] τ H=some (τ,H):=rfl
theorem aops_cons (c d op r τ H):aops c (⟨none,d,op⟩::r) τ H=aopsK c d r τ (aop c (ev τ) H op):=by
 show (aop c (ev τ) H op).bind _=_
 cases aop c (ev τ) H op<;>rfl
def guardK (c:Callee) (w:Bool) (ρ:Opd->AVal) (H:Heap) (op:IOp):AVal->Option (AVal × Heap)
 | .lit (.bool b)=>if b=w then aop c ρ H op else some (.lit (.tuple #[]),H)
 | .lit _=>some (.lit (.tuple #[]),H)
 | _=>none
theorem aops_g (c t w d op r τ H):aops c (⟨some (t,w),d,op⟩::r) τ H=aopsK c d r τ (guardK c w (ev τ) H op (lk t τ)):=by
 show (guardK c w (ev τ) H op (lk t τ)).bind _=_
 cases guardK c w (ev τ) H op (lk t τ)<;>rfl
theorem guardK_bool (c w ρ H op b):guardK c w ρ H op (.lit (.bool b))=if b=w then aop c ρ H op else some (.lit (.tuple #[]),H):=rfl
theorem guardK_undef (c w ρ H op):guardK c w ρ H op (.lit (.tuple #[]))=some (.lit (.tuple #[]),H):=rfl
theorem aopsK_some (c d r τ v H):aopsK c d r τ (some (v,H))=aops c r (put d v τ) H:=rfl
theorem finK_none (m rs τ H):finK m rs (some (none,τ,H))=finR m H (aresults τ H rs):=by
 show (aresults τ H rs).bind _=_
 cases aresults τ H rs<;>rfl
theorem finK_ret (m rs τ H):finK m rs (some (some .ret,τ,H))=finR m H (aresults τ H rs):=by
 show (aresults τ H rs).bind _=_
 cases aresults τ H rs<;>rfl
theorem finR_some (m H vs):finR m H (some vs)=gcRet m (packed vs) H:=rfl
theorem pairK_some (H v):pairK H (some v)=some (v,H):=rfl
theorem map_pair (H:Heap) (x:Option AVal):(x.map fun v=>(v,H))=pairK H x:=by cases x<;>rfl

section
variable (c:Callee) (ρ:Opd->AVal) (H:Heap)
theorem aop_copy (x):aop c ρ H (.copy x)=some (ρ x,H):=rfl
theorem aop_alloc (z):aop c ρ H (.alloc z)=some (.ptr H.length 0,H++[.box z]):=rfl
def boxK (n:Nat) (H:Heap):Option (List AVal)->Option (AVal × Heap)
 | some vs=>if vs.length=n then some (.ptr H.length 0,H++[.box vs]) else none
 | none=>none
theorem aop_box (n x):aop c ρ H (.box n x)=boxK n H (cellsO (ρ x)):=by
 simp only [aop]
 cases cellsO (ρ x)<;>rfl
theorem boxK_some (n vs):boxK n H (some vs)=if vs.length=n then some (.ptr H.length 0,H++[.box vs]) else none:=rfl
theorem aop_load (ag n a):aop c ρ H (.load ag n a)=pairK H (aload ag n H (ρ a)):=map_pair _ _
theorem aop_bin (op x y):aop c ρ H (.bin op x y)=pairK H (abin op (ρ x) (ρ y)):=map_pair _ _
theorem aop_fieldA (o x):aop c ρ H (.fieldA o x)=pairK H (addOff o (ρ x)):=map_pair _ _
end
def pickK (a b:AVal) (H:Heap):AVal->Option (AVal × Heap)
 | .lit (.bool t)=>some (if t=true then a else b,H)
 | _=>none
theorem aop_pick (c ρ H x a b):aop c ρ H (.pick x a b)=pickK (ρ a) (ρ b) H (ρ x):=by
 simp only [aop]
 cases ρ x with
 | lit v=>cases v<;>rfl
 | _=>rfl
theorem pickK_bool (a b H t):pickK a b H (.lit (.bool t))=some (if t=true then a else b,H):=rfl
theorem ev_t (τ n):ev τ (.t n)=lk n τ:=rfl
theorem ev_c (τ v):ev τ (.c v)=v:=rfl
theorem lk_cons (t u v r):lk t ((u,v)::r)=if t=u then v else lk t r:=rfl
theorem put_some (d v τ):put (some d) v τ=(d,v)::τ:=rfl
theorem put_none (v τ):put none v τ=τ:=rfl
theorem reach_nil (H n acc):reach H n [] acc=some acc:=by cases n<;>rfl
end Go.AM
namespace Go.AM
def iand (k:IntKind) (x y:Int):Int:=k.wrap (BitVec.ofInt k.bits x &&& BitVec.ofInt k.bits y).toNat
def ior (k:IntKind) (x y:Int):Int:=k.wrap (BitVec.ofInt k.bits x ||| BitVec.ofInt k.bits y).toNat
def ixor (k:IntKind) (x y:Int):Int:=k.wrap (BitVec.ofInt k.bits x ^^^ BitVec.ofInt k.bits y).toNat
def iandNot (k:IntKind) (x y:Int):Int:=k.wrap (BitVec.ofInt k.bits x &&& ~~~BitVec.ofInt k.bits y).toNat
section
variable (k:IntKind) (x y:Int)
theorem abin_add:abin .add (.lit (.int k x)) (.lit (.int k y))=some (.lit (.int k (k.wrap (x+y)))):=by simp [abin,vint]
theorem abin_sub:abin .sub (.lit (.int k x)) (.lit (.int k y))=some (.lit (.int k (k.wrap (x - y)))):=by simp [abin,vint]
theorem abin_mul:abin .mul (.lit (.int k x)) (.lit (.int k y))=some (.lit (.int k (k.wrap (x * y)))):=by simp [abin,vint]
theorem abin_quo:abin .quo (.lit (.int k x)) (.lit (.int k y))=if y=0 then none else some (.lit (.int k (k.wrap (x.tdiv y)))):=by simp [abin,vint]
theorem abin_rem:abin .rem (.lit (.int k x)) (.lit (.int k y))=if y=0 then none else some (.lit (.int k (x.tmod y))):=by simp [abin,vint]
theorem abin_eql:abin .eql (.lit (.int k x)) (.lit (.int k y))=some (.lit (.bool (decide (x=y)))):=by simp [abin,vbool]
theorem abin_neq:abin .neq (.lit (.int k x)) (.lit (.int k y))=some (.lit (.bool (decide (x≠y)))):=by simp [abin,vbool]
theorem abin_lss:abin .lss (.lit (.int k x)) (.lit (.int k y))=some (.lit (.bool (decide (x<y)))):=by simp [abin,vbool]
theorem abin_leq:abin .leq (.lit (.int k x)) (.lit (.int k y))=some (.lit (.bool (decide (x<=y)))):=by simp [abin,vbool]
theorem abin_gtr:abin .gtr (.lit (.int k x)) (.lit (.int k y))=some (.lit (.bool (decide (y<x)))):=by simp [abin,vbool]
theorem abin_geq:abin .geq (.lit (.int k x)) (.lit (.int k y))=some (.lit (.bool (decide (y<=x)))):=by simp [abin,vbool]
theorem abin_and:abin .and (.lit (.int k x)) (.lit (.int k y))=some (.lit (.int k (iand k x y))):=by simp [abin,bits,vint,iand]
theorem abin_or:abin .or (.lit (.int k x)) (.lit (.int k y))=some (.lit (.int k (ior k x y))):=by simp [abin,bits,vint,ior]
theorem abin_xor:abin .xor (.lit (.int k x)) (.lit (.int k y))=some (.lit (.int k (ixor k x y))):=by simp [abin,bits,vint,ixor]
theorem abin_andNot:abin .andNot (.lit (.int k x)) (.lit (.int k y))=some (.lit (.int k (iandNot k x y))):=by simp [abin,bits,vint,iandNot]
theorem abin_shl (k':IntKind):abin .shl (.lit (.int k x)) (.lit (.int k' y))=if y<0 then none else some (.lit (.int k (k.wrap (x * 2 ^ (min y.toNat k.bits))))):=by simp [abin,vint]
theorem abin_shr (k':IntKind):abin .shr (.lit (.int k x)) (.lit (.int k' y))=if y<0 then none else some (.lit (.int k (x.fdiv (2 ^ (min y.toNat k.bits))))):=by simp [abin,vint]
end
section
variable (c:Callee) (ρ:Opd->AVal) (H:Heap)
theorem aop_un (op x):aop c ρ H (.un op x)=pairK H (aun op (ρ x)):=map_pair _ _
theorem aun_not (b):aun .not (.lit (.bool b))=some (.lit (.bool (!b))):=rfl
theorem aun_neg (k n):aun .neg (.lit (.int k n))=some (.lit (.int k (k.wrap (0 - n)))):=rfl
theorem aop_call (f xs):aop c ρ H (.call f xs)=withCall c (.func (.func f) [] []) (xs.map ρ) H:=rfl
def backU (H:Heap):Option (AVal × Heap)->Option (AVal × Heap)
 | some (v,Hn)=>if noImmV v=true/\noImmH Hn=true then some (renV (H.length+·) v,H++Hn.map (renE (H.length+·))) else none
 | none=>none
def lentK2 (H:Heap) (ρ:List Nat):Option (AVal × Heap)->Option (AVal × Heap)
 | some (v,Hn)=>if noImmV v=true/\noImmH Hn=true then some (renV (toGlob ρ H.length) v,setAll H ρ ((Hn.take ρ.length).map (renE (toGlob ρ H.length)))++(Hn.drop ρ.length).map (renE (toGlob ρ H.length))) else none
 | none=>none
def lentK1 (c:Callee) (H H1:Heap) (f:AVal) (xs:List AVal):Option (List Nat)->Option (AVal × Heap)
 | some ρ=>lentK2 H ρ (c f (renL (fun i=>ρ.idxOf i) xs) (ρ.map fun i=>renE (fun i=>ρ.idxOf i) (H1.getD i .dead)))
 | none=>none
theorem lentK1_some (c:Callee) (H H1 f xs ρ):lentK1 c H H1 f xs (some ρ)=lentK2 H ρ (c f (renL (fun i=>ρ.idxOf i) xs) (ρ.map fun i=>renE (fun i=>ρ.idxOf i) (H1.getD i .dead))):=rfl
theorem lentK2_some (H:Heap) (ρ v Hn):lentK2 H ρ (some (v,Hn))=if noImmV v=true/\noImmH Hn=true then some (renV (toGlob ρ H.length) v,setAll H ρ ((Hn.take ρ.length).map (renE (toGlob ρ H.length)))++(Hn.drop ρ.length).map (renE (toGlob ρ H.length))) else none:=rfl
theorem lentCall_eq (c:Callee) (f xs ls) (H:Heap):lentCall c f xs ls H=lentK1 c H (locks H ls) f xs (reach (locks H ls) purse (refsL xs) []):=by
 unfold lentCall
 dsimp only
 generalize reach (locks H ls) purse (refsL xs) []=q
 cases q with
 | none=>rfl
 | some ρ =>
  simp only [Option.bind_some,lentK1]
  generalize c f (renL (fun i=>ρ.idxOf i) xs) (ρ.map fun i=>renE (fun i=>ρ.idxOf i) ((locks H ls).getD i .dead))=z
  cases z<;>rfl
def callU1 (c:Callee) (H:Heap) (f:AVal):Option (List AVal × List Nat)->Option (AVal × Heap)
 | some (xs,ls)=>if flatL xs=true then backU H (c f xs []) else lentCall c f xs ls H
 | none=>none
theorem aop_callL (k fl sz bytes f xs):aop c ρ H (.callL k fl sz bytes f xs)=libV k fl sz bytes H (xs.map ρ):=rfl
theorem aop_callU (f xs):aop c ρ H (.callU f xs)=callU1 c H (.func (.func f) [] []) (snapL H (xs.map ρ)):=by
 show withCallU c _ _ H=_
 unfold withCallU
 cases snapL H (xs.map ρ) with
 | none=>rfl
 | some xs =>
  simp only [Option.bind_some,callU1]
  split
  ·cases c (.func (.func f) [] []) xs.1 [] with
   | none=>rfl
   | some r=>rfl
  ·rfl
theorem callU1_some (c:Callee) (H f xs l):callU1 c H f (some (xs,l))=if flatL xs=true then backU H (c f xs []) else lentK1 c H (locks H l) f xs (reach (locks H l) purse (refsL xs) []):=by
 rw [<- lentCall_eq];rfl
theorem backU_some (H v Hn):backU H (some (v,Hn))=if noImmV v=true/\noImmH Hn=true then some (renV (H.length+·) v,H++Hn.map (renE (H.length+·))) else none:=rfl
theorem noImmLL_map {α:Type} {f:α->List AVal} (h:∀ a,noImmL (f a)=true):∀ l:List α,noImmLL (l.map f)=true
 | []=>rfl
 | a::r=>by rw [List.map_cons,noImmLL,h a,noImmLL_map h r];rfl
theorem aop_callV (f xs):aop c ρ H (.callV f xs)=withCall c (ρ f) (xs.map ρ) H:=rfl
def storeK:Option Heap->Option (AVal × Heap)
 | some H=>some (.lit (.tuple #[]),H)
 | none=>none
theorem aop_store (n a v):aop c ρ H (.store n a v)=storeK (astore n H (ρ a) (ρ v)):=by
 show (astore n H (ρ a) (ρ v)).map _=_
 cases astore n H (ρ a) (ρ v)<;>rfl
def putK (n:Nat) (a:AVal):Option (List AVal)->Option Heap
 | some vs=>putAt H n vs a
 | none=>none
theorem astore_eq (n a v):astore n H a v=putK H n a (cellsO v):=by
 unfold astore
 cases cellsO v<;>rfl
theorem putK_some (n a vs):putK H n a (some vs)=putAt H n vs a:=rfl
theorem storeK_some:storeK (some H)=some (.lit (.tuple #[]),H):=rfl
def natK {α:Type} (f:Nat->Option α):AVal->Option α
 | .lit (.int _ n)=>if 0<=n then f n.toNat else none
 | _=>none
theorem bind_asNat {α:Type} (v:AVal) (f:Nat->Option α):(asNat v).bind f=natK f v:=by
  cases v with
  | lit v => cases v<;>try rfl
             rename_i k n
             simp only [asNat,natK]
             split<;>rfl
  | _=>rfl
theorem natK_int {α:Type} (f:Nat->Option α) (k n):natK f (.lit (.int k n))=if 0<=n then f n.toNat else none:=rfl
def idxK (sz:Nat) (H:Heap) (x:AVal):AVal->Option (AVal × Heap)
 | .lit (.int _ n)=>if 0<=n then pairK H (aidxS sz x n.toNat) else none
 | _=>none
theorem aop_idxS (sz x i):aop c ρ H (.idxS sz x i)=idxK sz H (ρ x) (ρ i):=by
 show (asNat (ρ i)).bind _=_
 rw [bind_asNat]
 cases ρ i with
 | lit v=>cases v<;>first | rfl | (simp only [natK,idxK,map_pair])
 | _=>rfl
theorem idxK_int (sz x k n):idxK sz H x (.lit (.int k n))=if 0<=n then pairK H (aidxS sz x n.toNat) else none:=rfl
def lenK (H:Heap):AVal->Option (AVal × Heap)
 | .imm _ _ _ es=>some (.lit (.int .i64 es.length),H)
 | .own _ _ _ _ n=>some (.lit (.int .i64 n),H)
 | .asl _ _ _ n=>some (.lit (.int .i64 n),H)
 | _=>none
theorem aop_len (x):aop c ρ H (.len x)=lenK H (ρ x):=by
 simp only [aop]
 cases ρ x with
 | lit v=>cases v<;>rfl
 | _=>rfl
def extrK (i:Nat) (H:Heap):AVal->Option (AVal × Heap)
 | .tup vs=>pairK H vs[i]?
 | _=>none
theorem aop_extract (x i):aop c ρ H (.extract x i)=extrK i H (ρ x):=by
 simp only [aop]
 cases ρ x<;>first | rfl | exact map_pair _ _
def intK (k:IntKind) (f:Int->Option (AVal × Heap)):AVal->Option (AVal × Heap)
 | .lit (.int k' n)=>if k=k' then f n else none
 | _=>none
def minK (f:Int->Int->Int) (ρ:Opd->AVal) (H:Heap) (xs:List Opd):AVal->Option (AVal × Heap)
 | .lit (.int k a)=>pairK H (foldI f ρ k a xs)
 | _=>none
theorem aop_minI (x xs):aop c ρ H (.minI x xs)=minK (fun a b=>if b<a then b else a) ρ H xs (ρ x):=by
 simp only [aop]
 cases ρ x with
 | lit v=>cases v<;>first | rfl | exact map_pair _ _
 | _=>rfl
theorem aop_maxI (x xs):aop c ρ H (.maxI x xs)=minK (fun a b=>if b > a then b else a) ρ H xs (ρ x):=by
 simp only [aop]
 cases ρ x with
 | lit v=>cases v<;>first | rfl | exact map_pair _ _
 | _=>rfl
def foldK (f:Int->Int->Int) (ρ:Opd->AVal) (k:IntKind) (a:Int) (r:List Opd):AVal->Option AVal
 | .lit (.int k' b)=>if k=k' then foldI f ρ k (f a b) r else none
 | _=>none
theorem foldI_nil (f ρ k a):foldI f ρ k a []=some (.lit (.int k a)):=rfl
theorem foldI_cons (f ρ k a x r):foldI f ρ k a (x::r)=foldK f ρ k a r (ρ x):=by
 simp only [foldI]
 cases ρ x with
 | lit v=>cases v<;>rfl
 | _=>rfl
theorem foldK_int (f ρ k a r b):foldK f ρ k a r (.lit (.int k b))=foldI f ρ k (f a b) r:=by simp [foldK]

def backK (H:Heap):Option (AVal × Heap)->Option (AVal × Heap)
 | some (v,[])=>some (renV (H.length+·) v,H)
 | some (v,Hn)=>some (renV (H.length+·) v,H++Hn.map (renE (H.length+·)))
 | none=>none
mutual
theorem snapV_flat (H:Heap):∀ v:AVal,flatV v=true->snapV H v=some (v,[])
 | .lit _,_=>rfl
 | .imm ..,_=>rfl
 | .iptr ..,_=>rfl
 | .any,_=>rfl
 | .agg cs,h=>by rw [snapV,snapL_flat H cs h];rfl
 | .tup cs,h=>by rw [snapV,snapL_flat H cs h];rfl
 | .iface t v,h=>by rw [snapV,snapV_flat H v h];rfl
 | .func fn a b,h=>by
  rw [flatV,Bool.and_eq_true] at h
  rw [snapV,snapL_flat H a h.1,snapL_flat H b h.2];rfl
 | .ptr ..,h=>by simp [flatV] at h
 | .eptr ..,h=>by simp [flatV] at h
 | .own ..,h=>by simp [flatV] at h
 | .asl ..,h=>by simp [flatV] at h
 | .yld ..,h=>by simp [flatV] at h
 | .mref ..,h=>by simp [flatV] at h
theorem snapL_flat (H:Heap):∀ l:List AVal,flatL l=true->snapL H l=some (l,[])
 | [],_=>rfl
 | v::r,h=>by
  rw [flatL,Bool.and_eq_true] at h
  rw [snapL,snapV_flat H v h.1,Option.bind_some,snapL_flat H r h.2];rfl
end
mutual
theorem refsV_flat:∀ v:AVal,flatV v=true->refsV v=[]
 | .lit _,_=>rfl
 | .imm _ _ fl _,h=>by rw [flatV] at h;subst h;rfl
 | .iptr fl _ _ _,h=>by rw [flatV] at h;subst h;rfl
 | .any,_=>rfl
 | .agg cs,h=>by rw [refsV,refsL_flat cs h]
 | .tup cs,h=>by rw [refsV,refsL_flat cs h]
 | .iface t v,h=>by rw [refsV,refsV_flat v h]
 | .func fn a b,h=>by
  rw [flatV,Bool.and_eq_true] at h
  rw [refsV,refsL_flat a h.1,refsL_flat b h.2];rfl
 | .ptr ..,h=>by simp [flatV] at h
 | .eptr ..,h=>by simp [flatV] at h
 | .own ..,h=>by simp [flatV] at h
 | .asl ..,h=>by simp [flatV] at h
 | .yld ..,h=>by simp [flatV] at h
 | .mref ..,h=>by simp [flatV] at h
theorem refsL_flat:∀ l:List AVal,flatL l=true->refsL l=[]
 | [],_=>rfl
 | v::r,h=>by
  rw [flatL,Bool.and_eq_true] at h
  rw [refsL,refsV_flat v h.1,refsL_flat r h.2];rfl
end
mutual
theorem renV_flat (f:Nat->Nat):∀ v:AVal,flatV v=true->renV f v=v
 | .lit _,_=>rfl
 | .imm _ _ fl _,h=>by rw [flatV] at h;subst h;rfl
 | .iptr fl _ _ _,h=>by rw [flatV] at h;subst h;rfl
 | .any,_=>rfl
 | .agg cs,h=>by rw [renV,renL_flat f cs h]
 | .tup cs,h=>by rw [renV,renL_flat f cs h]
 | .iface t v,h=>by rw [renV,renV_flat f v h]
 | .func fn a b,h=>by
  rw [flatV,Bool.and_eq_true] at h
  rw [renV,renL_flat f a h.1,renL_flat f b h.2]
 | .ptr ..,h=>by simp [flatV] at h
 | .eptr ..,h=>by simp [flatV] at h
 | .own ..,h=>by simp [flatV] at h
 | .asl ..,h=>by simp [flatV] at h
 | .yld ..,h=>by simp [flatV] at h
 | .mref ..,h=>by simp [flatV] at h
theorem renL_flat (f:Nat->Nat):∀ l:List AVal,flatL l=true->renL f l=l
 | [],_=>rfl
 | v::r,h=>by
  rw [flatL,Bool.and_eq_true] at h
  rw [renL,renV_flat f v h.1,renL_flat f r h.2]
end
theorem setAll_nil (H:Heap):setAll H [] []=H:=rfl
theorem withCall_flat (f:AVal) (args:List AVal) (hf:flatV f=true) (ha:flatL args=true):withCall c f args H=backK H (c f args []):=by
 unfold withCall
 rw [snapV_flat H f hf,snapL_flat H args ha]
 simp only [Option.bind_some,List.append_nil,locks,refsV_flat f hf,refsL_flat args ha]
 rw [show reach H purse [] []=some [] from by unfold reach;rfl,Option.bind_some]
 rw [renV_flat _ f hf,renL_flat _ args ha]
 simp only [List.map_nil]
 cases c f args [] with
 | none=>rfl
 | some r =>
  obtain ⟨v,Hn⟩:=r
  simp only [Option.bind_some,List.length_nil,List.take_zero,List.map_nil,setAll_nil,List.drop_zero]
  have h1:toGlob [] H.length=(H.length+·):=by funext q;simp [toGlob]
  rw [h1]
  cases Hn with
  | nil=>simp [backK]
  | cons e r=>rfl
theorem backK_nil (v):backK H (some (v,[]))=some (renV (H.length+·) v,H):=rfl
theorem backK_cons (v e r):backK H (some (v,e::r))=some (renV (H.length+·) v,H++(e::r).map (renE (H.length+·))):=rfl
end

attribute [go_sem ↓] run_seq run_reg0 run_skip run_ret run_cond' run_block run_scope run_inBlock run_inScope run_loop run_exit' run_nil aops_cons aops_g
attribute [go_sem] runK_some condK_bool exitK_some finK_none finK_ret finR_some aops_nil guardK_bool guardK_undef aopsK_some pairK_some pickK_bool
 aop_copy aop_alloc aop_box aop_load aop_bin aop_fieldA aop_pick aop_un aun_not aun_neg aop_call aop_callV aop_callU aop_callL callU1_some lentK1_some lentK2_some backU_some noImmV noImmL noImmLL noImmE noImmH aop_store storeK_some aop_idxS idxK_int aop_len lenK aop_extract extrK aop_minI aop_maxI minK foldI_nil foldI_cons foldK_int
 abin_add abin_sub abin_mul abin_quo abin_rem abin_eql abin_neq abin_lss abin_leq abin_gtr abin_geq abin_and abin_or abin_xor abin_andNot abin_shl abin_shr
 ev_t ev_c lk_cons put_some put_none number cellsO addOff aload get1 vbool vint aresults packed gcRet rootsOf refsV refsL refsE refsT renV renL renE renT reach_nil exitTo
 withCall_flat backK_nil backK_cons flatV flatL astore_eq putK_some putAt boxK_some over keep aidxS
end Go.AM
namespace Go.AM
theorem r9c (E:Nat->Option IFn) {L L':ICode} (h:L=L') (m k τ H):run E m (.code L::k) τ H=run E m (.code L'::k) τ H:=by rw [h]
def loopK (q:Bool) (τ:Tmps) (H:Heap):Option (List Nat)->Option (Tmps × Heap)
 | some R=>if q=true then some (renT (fun i=>R.idxOf i) τ,R.map fun i=>renE (fun i=>R.idxOf i) (H.getD i .dead)) else some (τ,sweep R 0 H)
 | none=>none
theorem gcLoop_eq (m live τ H):gcLoop m live τ H=loopK (marked live) (keep τ (liveT live)) H (reach H purse (rootsOf H m++refsT (keep τ (liveT live))) (List.range m)):=by
 unfold gcLoop
 cases reach H purse (rootsOf H m++refsT (keep τ (liveT live))) (List.range m) with
 | none=>rfl
 | some R=>cases hq:marked live<;>simp [loopK]
theorem marked_nil:marked []=false:=rfl
theorem liveT_nil:liveT []=[]:=rfl
theorem liveT_cons (l r):liveT (l::r)=if l == 1000000 then r else l::r:=rfl
theorem marked_cons (l r):marked (l::r)=(l == 1000000):=rfl
theorem loopK_some (τ H R):loopK false τ H (some R)=some (τ,sweep R 0 H):=rfl
theorem loopK_same (τ H R):loopK true τ H (some R)=some (renT (fun i=>R.idxOf i) τ,R.map fun i=>renE (fun i=>R.idxOf i) (H.getD i .dead)):=rfl
theorem sweep_nil (R n):sweep R n []=[]:=rfl
theorem p9q:purse=400:=rfl
attribute [go_sem] gcLoop_eq marked_nil marked_cons liveT_nil liveT_cons loopK_some loopK_same sweep_nil
end Go.AM
namespace Go.AM
def reachK (H:Heap) (n i:Nat) (w acc:List Nat):Option Entry->Option (List Nat)
 | some e=>reach H n (refsE e++w) (acc++[i])
 | none=>none
theorem reach_cons (H n i w acc):reach H (n+1) (i::w) acc=if i∈acc then reach H n w acc else reachK H n i w acc H[i]?:=by
 rw [reach];split
 ·rfl
 ·cases H[i]?<;>rfl
theorem reachK_some (H n i w acc e):reachK H n i w acc (some e)=reach H n (refsE e++w) (acc++[i]):=rfl
attribute [go_sem] reach_cons reachK_some
end Go.AM
namespace Go.AM


inductive Sh where
 | box
 | arr (len sz cp:Nat)
 | loop
 | map
 | dead
 deriving DecidableEq

structure Ctx where
 ν:Nat->Nat
 sh:Nat->Option Sh
 Fz:Nat->Nat->Prop
 w:World

mutual
def flatLL:List (List AVal)->Bool
 | []=>true
 | c::r=>flatL c && flatLL r
end

mutual
def RV (C:Ctx):AVal->Value->Prop
 | .lit v,x=>x=v
 | .ptr i k,x=>∃ a,x=.pointer (some a)/\(C.sh i=some .dead∨(C.sh i=some .box/\a=⟨C.ν i,k,none⟩))
 | .eptr i len sz j k,x=>∃ a,x=.pointer (some a)/\(C.sh i=some .dead∨∃ cur s cp,C.sh i=some (.arr cur s cp)/\len<=cur/\(len=cur->sz=s->a=⟨C.ν i,j * sz+k,none⟩))
 | .iptr fl es j k,x=>∃ b o sz,x=.pointer (some ⟨b,o+j * sz+k,none⟩)/\(fl=true->flatLL es=true)/\RLL C b o sz es
 | .own i len sz off n,x=>∃ a c,x=.slice (some a) n c/\n<=c/\(C.sh i=some .dead∨∃ cur s cp,C.sh i=some (.arr cur s cp)/\len<=cur /\
   (len=cur->sz=s->off+n<=len/\off+c<=cp/\(c=0∨a=⟨C.ν i,off * sz,none⟩)))
 | .imm nil full fl es,x=>∃ a c,x=.slice a es.length c/\es.length<=c/\(full=true->c=es.length)/\(nil=a.isNone)/\(nil=true->c=0)/\(fl=true->flatLL es=true) /\
   (∀ ad,a=some ad->es≠[]->ad.spot=none/\∃ sz,RLL C ad.block ad.off sz es)
 | .asl i k sz n,x=>∃ a c,x=.slice (some a) n c/\n<=c/\(C.sh i=some .dead∨(C.sh i=some .box/\(c=0∨a=⟨C.ν i,k,none⟩)))
 | .agg cs,x=>∃ vs:Array Value,x=.agg vs/\(∀ v∈vs.toList,v.oneCell'=true)/\RL C cs vs.toList
 | .tup cs,x=>∃ vs:Array Value,x=.tuple vs/\RL C cs vs.toList
 | .iface t v,x=>∃ y,x=.iface t y/\RV C v y
 | .func fn a b,x=>∃ va vb:Array Value,x=.func fn va vb/\RL C a va.toList/\RL C b vb.toList
 | .yld i,x=>∃ l,x=.func (.yield l) #[] #[]/\(C.sh i=some .dead∨(C.sh i=some .loop/\l=C.ν i))
 | .mref i,x=>∃ r,x=.map (some r)/\(C.sh i=some .dead∨(C.sh i=some .map/\r=C.ν i))
 | .any,_=>True
def RL (C:Ctx):List AVal->List Value->Prop
 | [],xs=>xs=[]
 | a::r,xs=>∃ x s,xs=x::s/\RV C a x/\RL C r s
def RC (C:Ctx) (b:Nat):Nat->List AVal->Prop
 | _,[]=>True
 | o,c::r=>(∃ v,C.w.cell? ⟨b,o,none⟩=some v/\C.Fz b o/\v.oneCell'=true/\RV C c v)/\RC C b (o+1) r
def RLL (C:Ctx) (b:Nat):Nat->Nat->List (List AVal)->Prop
 | _,_,[]=>True
 | o,sz,cs::r=>cs.length=sz/\RC C b o cs/\RLL C b (o+sz) sz r
end

structure Tr (C C':Ctx) (g:Nat->Nat) (S:Nat->Prop):Prop where
 fz:∀ b o,C.Fz b o->C'.Fz b o/\C'.w.cell? ⟨b,o,none⟩=C.w.cell? ⟨b,o,none⟩
 sh:∀ i s,S i->C.sh i=some s->C'.sh (g i)=some .dead∨(C'.sh (g i)=some s/\C'.ν (g i)=C.ν i) ∨
  (∃ len sz cp len' cp',s=.arr len sz cp/\C'.sh (g i)=some (.arr len' sz cp')/\len<len')

theorem refsLL_flat:∀ l:List (List AVal),flatLL l=true->refsLL l=[]
 | [],_=>rfl
 | v::r,h=>by
  rw [flatLL,Bool.and_eq_true] at h
  rw [refsLL,refsL_flat v h.1,refsLL_flat r h.2];rfl
theorem renLL_flat (f:Nat->Nat):∀ l:List (List AVal),flatLL l=true->renLL f l=l
 | [],_=>rfl
 | v::r,h=>by
  rw [flatLL,Bool.and_eq_true] at h
  rw [renLL,renL_flat f v h.1,renLL_flat f r h.2]
theorem renL_length (f:Nat->Nat):∀ l:List AVal,(renL f l).length=l.length
 | []=>rfl
 | _::r=>by simp [renL,renL_length f r]
theorem renLL_length (f:Nat->Nat):∀ l:List (List AVal),(renLL f l).length=l.length
 | []=>rfl
 | _::r=>by simp [renLL,renLL_length f r]

section
variable {C C':Ctx} {g:Nat->Nat} {S:Nat->Prop}
mutual
theorem RV_tr (T:Tr C C' g S):∀ (a:AVal) (x:Value),(∀ i∈refsV a,S i)->RV C a x->RV C' (renV g a) x
 | .lit v,x,_,h=>h
 | .any,x,_,h=>trivial
 | .ptr i k,x,hS,h=>by
  simp only [RV,renV] at h ⊢
  obtain ⟨a,rfl,h⟩:=h
  refine ⟨a,rfl,?_⟩
  have hi:=hS i (by simp [refsV])
  rcases h with h | ⟨h,h2⟩
  ·rcases T.sh i _ hi h with t | ⟨t,_⟩ | ⟨_,_,_,_,_,e,_⟩
   ·exact .inl t
   ·exact .inl t
   ·cases e
  ·rcases T.sh i _ hi h with t | ⟨t,t2⟩ | ⟨_,_,_,_,_,e,_⟩
   ·exact .inl t
   ·exact .inr ⟨t,by rw [t2];exact h2⟩
   ·cases e
 | .asl i k sz n,x,hS,h=>by
  simp only [RV,renV] at h ⊢
  obtain ⟨a,c,rfl,hn,h⟩:=h
  refine ⟨a,c,rfl,hn,?_⟩
  have hi:=hS i (by simp [refsV])
  rcases h with h | ⟨h,h2⟩
  ·rcases T.sh i _ hi h with t | ⟨t,_⟩ | ⟨_,_,_,_,_,e,_⟩
   ·exact .inl t
   ·exact .inl t
   ·cases e
  ·rcases T.sh i _ hi h with t | ⟨t,t2⟩ | ⟨_,_,_,_,_,e,_⟩
   ·exact .inl t
   ·exact .inr ⟨t,by rw [t2];exact h2⟩
   ·cases e
 | .yld i,x,hS,h=>by
  simp only [RV,renV] at h ⊢
  obtain ⟨l,rfl,h⟩:=h
  refine ⟨l,rfl,?_⟩
  have hi:=hS i (by simp [refsV])
  rcases h with h | ⟨h,h2⟩
  ·rcases T.sh i _ hi h with t | ⟨t,_⟩ | ⟨_,_,_,_,_,e,_⟩
   ·exact .inl t
   ·exact .inl t
   ·cases e
  ·rcases T.sh i _ hi h with t | ⟨t,t2⟩ | ⟨_,_,_,_,_,e,_⟩
   ·exact .inl t
   ·exact .inr ⟨t,by rw [t2];exact h2⟩
   ·cases e
 | .mref i,x,hS,h=>by
  simp only [RV,renV] at h ⊢
  obtain ⟨l,rfl,h⟩:=h
  refine ⟨l,rfl,?_⟩
  have hi:=hS i (by simp [refsV])
  rcases h with h | ⟨h,h2⟩
  ·rcases T.sh i _ hi h with t | ⟨t,_⟩ | ⟨_,_,_,_,_,e,_⟩
   ·exact .inl t
   ·exact .inl t
   ·cases e
  ·rcases T.sh i _ hi h with t | ⟨t,t2⟩ | ⟨_,_,_,_,_,e,_⟩
   ·exact .inl t
   ·exact .inr ⟨t,by rw [t2];exact h2⟩
   ·cases e
 | .eptr i len sz j k,x,hS,h=>by
  simp only [RV,renV] at h ⊢
  obtain ⟨a,rfl,h⟩:=h
  refine ⟨a,rfl,?_⟩
  have hi:=hS i (by simp [refsV])
  rcases h with h | ⟨cur,s,cp,h,hl,h2⟩
  ·rcases T.sh i _ hi h with t | ⟨t,_⟩ | ⟨_,_,_,_,_,e,_⟩
   ·exact .inl t
   ·exact .inl t
   ·cases e
  ·rcases T.sh i _ hi h with t | ⟨t,t2⟩ | ⟨_,_,_,len',cp',e,t,hlt⟩
   ·exact .inl t
   ·exact .inr ⟨cur,s,cp,t,hl,by rw [t2];exact h2⟩
   ·cases e
    exact .inr ⟨len',s,cp',t,by omega,fun e=>by omega⟩
 | .own i len sz off n,x,hS,h=>by
  simp only [RV,renV] at h ⊢
  obtain ⟨a,c,rfl,hn,h⟩:=h
  refine ⟨a,c,rfl,hn,?_⟩
  have hi:=hS i (by simp [refsV])
  rcases h with h | ⟨cur,s,cp,h,hl,h2⟩
  ·rcases T.sh i _ hi h with t | ⟨t,_⟩ | ⟨_,_,_,_,_,e,_⟩
   ·exact .inl t
   ·exact .inl t
   ·cases e
  ·rcases T.sh i _ hi h with t | ⟨t,t2⟩ | ⟨_,_,_,len',cp',e,t,hlt⟩
   ·exact .inl t
   ·exact .inr ⟨cur,s,cp,t,hl,by rw [t2];exact h2⟩
   ·cases e
    exact .inr ⟨len',s,cp',t,by omega,fun e=>by omega⟩
 | .iptr fl es j k,x,hS,h=>by
  simp only [RV,renV] at h ⊢
  obtain ⟨b,o,sz,rfl,hf,h⟩:=h
  cases fl with
  | true =>
   have hfl:=hf rfl
   have h':=RLL_tr T es b o sz (by rw [refsLL_flat es hfl];simp) h
   rw [renLL_flat g es hfl] at h'
   exact ⟨b,o,sz,rfl,fun _=>hfl,h'⟩
  | false=>exact ⟨b,o,sz,rfl,(fun e=>by cases e),RLL_tr T es b o sz (fun i hi=>hS i (by simpa [refsV] using hi)) h⟩
 | .imm nil full fl es,x,hS,h=>by
  simp only [RV,renV] at h ⊢
  obtain ⟨a,c,rfl,h1,h2,h3,h4,hf,h⟩:=h
  cases fl with
  | true =>
   have hfl:=hf rfl
   refine ⟨a,c,rfl,h1,h2,h3,h4,fun _=>hfl,fun ad hd hne=>⟨(h ad hd hne).1,?_⟩⟩
   obtain ⟨_,sz,h⟩:=h ad hd hne
   have h':=RLL_tr T es _ _ sz (by rw [refsLL_flat es hfl];simp) h
   rw [renLL_flat g es hfl] at h'
   exact ⟨sz,h'⟩
  | false =>
   have hlen:=renLL_length g es
   refine ⟨a,c,by simp [hlen],by simpa [hlen] using h1,fun e=>by simpa [hlen] using h2 e,h3,h4,(fun e=>by cases e),fun ad hd hne0=>?_⟩
   have hne:es≠[]:=fun e=>hne0 (by simp [e,renLL])
   refine ⟨(h ad hd hne).1,?_⟩
   obtain ⟨_,sz,h⟩:=h ad hd hne
   exact ⟨sz,RLL_tr T es _ _ sz (fun i hi=>hS i (by simpa [refsV] using hi)) h⟩
 | .agg cs,x,hS,h=>by
  simp only [RV,renV] at h ⊢
  obtain ⟨vs,rfl,h1,h⟩:=h
  exact ⟨vs,rfl,h1,RL_tr T cs _ (fun i hi=>hS i (by simpa [refsV] using hi)) h⟩
 | .tup cs,x,hS,h=>by
  simp only [RV,renV] at h ⊢
  obtain ⟨vs,rfl,h⟩:=h
  exact ⟨vs,rfl,RL_tr T cs _ (fun i hi=>hS i (by simpa [refsV] using hi)) h⟩
 | .iface t v,x,hS,h=>by
  simp only [RV,renV] at h ⊢
  obtain ⟨y,rfl,h⟩:=h
  exact ⟨y,rfl,RV_tr T v _ (fun i hi=>hS i (by simpa [refsV] using hi)) h⟩
 | .func fn a b,x,hS,h=>by
  simp only [RV,renV] at h ⊢
  obtain ⟨va,vb,rfl,h1,h2⟩:=h
  exact ⟨va,vb,rfl,RL_tr T a _ (fun i hi=>hS i (by simp [refsV,hi])) h1,RL_tr T b _ (fun i hi=>hS i (by simp [refsV,hi])) h2⟩
theorem RL_tr (T:Tr C C' g S):∀ (l:List AVal) (xs:List Value),(∀ i∈refsL l,S i)->RL C l xs->RL C' (renL g l) xs
 | [],xs,_,h=>h
 | a::r,xs,hS,h=>by
  simp only [RL,renL] at h ⊢
  obtain ⟨x,s,rfl,h1,h2⟩:=h
  exact ⟨x,s,rfl,RV_tr T a x (fun i hi=>hS i (by simp [refsL,hi])) h1,RL_tr T r s (fun i hi=>hS i (by simp [refsL,hi])) h2⟩
theorem RC_tr (T:Tr C C' g S):∀ (l:List AVal) (b o:Nat),(∀ i∈refsL l,S i)->RC C b o l->RC C' b o (renL g l)
 | [],_,_,_,_=>trivial
 | a::r,b,o,hS,h=>by
  simp only [RC,renL] at h ⊢
  obtain ⟨⟨v,hv,hf,h1,h2⟩,h3⟩:=h
  obtain ⟨f',c'⟩:=T.fz b o hf
  exact ⟨⟨v,by rw [c'];exact hv,f',h1,RV_tr T a v (fun i hi=>hS i (by simp [refsL,hi])) h2⟩,RC_tr T r b (o+1) (fun i hi=>hS i (by simp [refsL,hi])) h3⟩
theorem RLL_tr (T:Tr C C' g S):∀ (l:List (List AVal)) (b o sz:Nat),(∀ i∈refsLL l,S i)->RLL C b o sz l->RLL C' b o sz (renLL g l)
 | [],_,_,_,_,_=>trivial
 | a::r,b,o,sz,hS,h=>by
  simp only [RLL,renLL] at h ⊢
  obtain ⟨h1,h2,h3⟩:=h
  exact ⟨by rw [renL_length];exact h1,RC_tr T a b o (fun i hi=>hS i (by simp [refsLL,hi])) h2,RLL_tr T r b (o+sz) sz (fun i hi=>hS i (by simp [refsLL,hi])) h3⟩
end
end

mutual
theorem renV_id:∀ a:AVal,renV id a=a
 | .lit _=>rfl
 | .any=>rfl
 | .ptr ..=>rfl
 | .eptr ..=>rfl
 | .own ..=>rfl
 | .asl ..=>rfl
 | .yld _=>rfl
 | .mref _=>rfl
 | .iptr fl es j k=>by rw [renV,renLL_id es];simp
 | .imm n f fl es=>by rw [renV,renLL_id es];simp
 | .agg cs=>by rw [renV,renL_id cs]
 | .tup cs=>by rw [renV,renL_id cs]
 | .iface t v=>by rw [renV,renV_id v]
 | .func fn a b=>by rw [renV,renL_id a,renL_id b]
theorem renL_id:∀ l:List AVal,renL id l=l
 | []=>rfl
 | a::r=>by rw [renL,renV_id a,renL_id r]
theorem renLL_id:∀ l:List (List AVal),renLL id l=l
 | []=>rfl
 | a::r=>by rw [renLL,renL_id a,renLL_id r]
end

theorem Tr.refl (C:Ctx) (S:Nat->Prop):Tr C C id S:=⟨fun _ _ h=>⟨h,rfl⟩,fun _ _ _ h=>.inr (.inl ⟨h,rfl⟩)⟩

theorem Tr.comp {A B D:Ctx} {f g:Nat->Nat} {S S':Nat->Prop} (h:Tr A B f S) (k:Tr B D g S') (hS:∀ i,S i->S' (f i)):Tr A D (g∘f) S where
 fz b o hf:=by
  obtain ⟨h1,h2⟩:=h.fz b o hf
  obtain ⟨h3,h4⟩:=k.fz b o h1
  exact ⟨h3,h4.trans h2⟩
 sh i s hi hs:=by
  rcases h.sh i s hi hs with t | ⟨t,t2⟩ | ⟨len,sz,cp,len',cp',e,t,hl⟩
  ·rcases k.sh (f i) _ (hS i hi) t with u | ⟨u,_⟩ | ⟨_,_,_,_,_,e,_⟩
   ·exact .inl u
   ·exact .inl u
   ·cases e
  ·rcases k.sh (f i) _ (hS i hi) t with u | ⟨u,u2⟩ | ⟨len,sz,cp,len',cp',e,u,hl⟩
   ·exact .inl u
   ·exact .inr (.inl ⟨u,u2.trans t2⟩)
   ·exact .inr (.inr ⟨len,sz,cp,len',cp',e,u,hl⟩)
  ·rcases k.sh (f i) _ (hS i hi) t with u | ⟨u,u2⟩ | ⟨len2,sz2,cp2,len3,cp3,e2,u,hl2⟩
   ·exact .inl u
   ·exact .inr (.inr ⟨len,sz,cp,len',cp',e,u,hl⟩)
   ·cases e2
    exact .inr (.inr ⟨len,sz,cp,len3,cp3,e,u,by omega⟩)

theorem Tr.weak {C C':Ctx} {g:Nat->Nat} {S S':Nat->Prop} (h:Tr C C' g S) (hS:∀ i,S' i->S i):Tr C C' g S' :=
 ⟨h.fz,fun i s hi hs=>h.sh i s (hS i hi) hs⟩

section
variable {C C':Ctx} {S:Nat->Prop}
theorem RV_id (T:Tr C C' id S) {a:AVal} {x:Value} (hS:∀ i∈refsV a,S i) (h:RV C a x):RV C' a x:=by
 have:=RV_tr T a x hS h;rwa [renV_id] at this
theorem RL_id (T:Tr C C' id S) {a:List AVal} {x:List Value} (hS:∀ i∈refsL a,S i) (h:RL C a x):RL C' a x:=by
 have:=RL_tr T a x hS h;rwa [renL_id] at this
theorem RLL_id (T:Tr C C' id S) {a:List (List AVal)} {b o sz} (hS:∀ i∈refsLL a,S i) (h:RLL C b o sz a):RLL C' b o sz a:=by
 have:=RLL_tr T a b o sz hS h;rwa [renLL_id] at this
end

section
variable {C:Ctx}
theorem RL_length:∀ {l:List AVal} {xs:List Value},RL C l xs->xs.length=l.length
 | [],xs,h=>by simp only [RL] at h;simp [h]
 | a::r,xs,h=>by
  simp only [RL] at h
  obtain ⟨x,s,rfl,_,h⟩:=h
  simp [RL_length h]
theorem RL_get:∀ {l:List AVal} {xs:List Value} {i:Nat} {a:AVal},RL C l xs->l[i]?=some a->∃ x,xs[i]?=some x/\RV C a x
 | [],xs,i,a,h,e=>by simp at e
 | b::r,xs,0,a,h,e=>by
  simp only [RL] at h
  obtain ⟨x,s,rfl,h1,_⟩:=h
  simp at e;subst e
  exact ⟨x,rfl,h1⟩
 | b::r,xs,i+1,a,h,e=>by
  simp only [RL] at h
  obtain ⟨x,s,rfl,_,h⟩:=h
  simp at e
  obtain ⟨y,hy,h2⟩:=RL_get h e
  exact ⟨y,by simpa using hy,h2⟩
theorem RL_of_get:∀ {l:List AVal} {xs:List Value},xs.length=l.length->(∀ (i:Nat) (a:AVal) (x:Value),l[i]?=some a->xs[i]?=some x->RV C a x)->RL C l xs
 | [],xs,hl,_=>by simp only [RL];exact List.length_eq_zero_iff.1 hl
 | b::r,[],hl,_=>by simp at hl
 | b::r,x::s,hl,h=>by
  simp only [RL]
  exact ⟨x,s,rfl,h 0 b x rfl rfl,RL_of_get (by simpa using hl) fun i a y ha hy=>h (i+1) a y (by simpa using ha) (by simpa using hy)⟩
theorem RL_append {a b:List AVal} {xs ys:List Value} (h:RL C a xs) (k:RL C b ys):RL C (a++b) (xs++ys):=by
 induction a generalizing xs with
 | nil=>simp only [RL] at h;subst h;exact k
 | cons c r ih =>
  simp only [RL] at h
  obtain ⟨x,s,rfl,h1,h2⟩:=h
  simp only [List.cons_append,RL]
  exact ⟨x,s++ys,rfl,h1,ih h2⟩
theorem RL_take {a:List AVal} {xs:List Value} (h:RL C a xs) (n:Nat):RL C (a.take n) (xs.take n):=by
 refine RL_of_get (by simp [RL_length h]) fun i b x hb hx=>?_
 rw [List.getElem?_take] at hb hx
 split at hb
 ·rename_i hlt
  simp only [hlt,if_true] at hx
  obtain ⟨y,hy,hv⟩:=RL_get h hb
  rw [hx] at hy;cases hy;exact hv
 ·cases hb
theorem RL_drop {a:List AVal} {xs:List Value} (h:RL C a xs) (n:Nat):RL C (a.drop n) (xs.drop n):=by
 refine RL_of_get (by simp [RL_length h]) fun i b x hb hx=>?_
 rw [List.getElem?_drop] at hb hx
 obtain ⟨y,hy,hv⟩:=RL_get h hb
 rw [hx] at hy;cases hy;exact hv
theorem RC_iff {b:Nat}:∀ {l:List AVal} {o:Nat},RC C b o l↔∀ (i:Nat) (a:AVal),l[i]?=some a->∃ v,C.w.cell? ⟨b,o+i,none⟩=some v/\C.Fz b (o+i)/\v.oneCell'=true/\RV C a v
 | [],o=>by simp [RC]
 | c :: r,o=>by
  simp only [RC]
  constructor
  ·rintro ⟨h1,h2⟩ i a ha
   cases i with
   | zero=>simp at ha;subst ha;simpa using h1
   | succ i =>
    simp at ha
    have:=RC_iff.1 h2 i a ha
    rwa [show o+1+i=o+(i+1) by omega] at this
  ·intro h
   refine ⟨by simpa using h 0 c rfl,RC_iff.2 fun i a ha=>?_⟩
   have:=h (i+1) a (by simpa using ha)
   rwa [show o+(i+1)=o+1+i by omega] at this
theorem RLL_iff {b sz:Nat}:∀ {l:List (List AVal)} {o:Nat},RLL C b o sz l↔∀ (j:Nat) (r:List AVal),l[j]?=some r->r.length=sz/\RC C b (o+j * sz) r
 | [],o=>by simp [RLL]
 | c :: r,o=>by
  simp only [RLL]
  constructor
  ·rintro ⟨h1,h2,h3⟩ j a ha
   cases j with
   | zero=>simp at ha;subst ha;exact ⟨h1,by simpa using h2⟩
   | succ j =>
    simp at ha
    have:=RLL_iff.1 h3 j a ha
    rwa [show o+sz+j * sz=o+(j+1) * sz by rw [Nat.succ_mul];omega] at this
  ·intro h
   refine ⟨(h 0 c rfl).1,by simpa using (h 0 c rfl).2,RLL_iff.2 fun j a ha=>?_⟩
   have:=h (j+1) a (by simpa using ha)
   rwa [show o+(j+1) * sz=o+sz+j * sz by rw [Nat.succ_mul];omega] at this
theorem RLL_take {b o sz:Nat} {l:List (List AVal)} (h:RLL C b o sz l) (n:Nat):RLL C b o sz (l.take n):=by
 rw [RLL_iff] at h ⊢
 intro j r hr
 rw [List.getElem?_take] at hr
 split at hr
 ·exact h j r hr
 ·cases hr
theorem RLL_drop {b o sz:Nat} {l:List (List AVal)} (h:RLL C b o sz l) (n:Nat):RLL C b (o+n * sz) sz (l.drop n):=by
 rw [RLL_iff] at h ⊢
 intro j r hr
 rw [List.getElem?_drop] at hr
 have:=h _ r hr
 rwa [show o+(n+j) * sz=o+n * sz+j * sz by rw [Nat.add_mul];omega] at this
theorem RLL_cells {b sz:Nat}:∀ {l:List (List AVal)} {o:Nat},RLL C b o sz l ->
  ∃ xs:List Value,xs.length=l.length * sz/\RL C l.flatten xs/\(∀ v∈xs,v.oneCell'=true)/\∀ j v,xs[j]?=some v->C.w.cell? ⟨b,o+j,none⟩=some v
 | [],o,_=>⟨[],by simp,by simp [RL],by simp,by simp⟩
 | c :: r, o,h=>by
  simp only [RLL] at h
  obtain ⟨h1,h2,h3⟩:=h
  obtain ⟨ys,hy1,hy2,hy3,hy4⟩:=RLL_cells h3
  have hrow:∀ (c:List AVal) (o:Nat),RC C b o c->∃ xs:List Value,xs.length=c.length/\RL C c xs/\(∀ v∈xs,v.oneCell'=true)/\∀ j v,xs[j]?=some v->C.w.cell? ⟨b,o+j,none⟩=some v:=by
   intro c
   induction c with
   | nil=>exact fun o _=>⟨[],rfl,by simp [RL],by simp,by simp⟩
   | cons a s ih =>
    intro o h
    simp only [RC] at h
    obtain ⟨⟨v,hv,_,ho,hr⟩,h⟩:=h
    obtain ⟨xs,e1,e2,e3,e4⟩:=ih (o+1) h
    refine ⟨v::xs,by simp [e1],?_,?_,?_⟩
    ·simp only [RL];exact ⟨v,xs,rfl,hr,e2⟩
    ·intro u hu
     rcases List.mem_cons.1 hu with rfl | hu
     ·exact ho
     ·exact e3 u hu
    ·intro j u hu
     cases j with
     | zero=>simp at hu;subst hu;simpa using hv
     | succ j =>
      have:=e4 j u (by simpa using hu)
      rwa [show o+1+j=o+(j+1) by omega] at this
  obtain ⟨xs,e1,e2,e3,e4⟩:=hrow c o h2
  refine ⟨xs++ys,by simp [e1,hy1,h1,Nat.succ_mul];omega,by simpa using RL_append e2 hy2,?_,?_⟩
  ·intro v hv
   rcases List.mem_append.1 hv with hv | hv
   ·exact e3 v hv
   ·exact hy3 v hv
  ·intro j v hv
   rw [List.getElem?_append] at hv
   split at hv
   ·exact e4 j v hv
   ·rename_i hge
    have:=hy4 _ v hv
    rwa [show o+sz+(j - xs.length)=o+j by omega] at this
end

end Go.AM
namespace Go.AM

def CompC (P:Program) (nt:Nat) (c:Code) (ic:ICode):Prop:=∃ ls ls',compC P nt c ls=some (ic,ls')

def CompP (P:Program) (nt:Nat) (c:Code) (ic:ICode):Prop:=CompC P nt c ic/\plain c=true

def jumpCode:Option Jump->Option Code
 | none=>none
 | some .ret=>some .ret
 | some (.exit id)=>some (.exit id)

def stateOf:Nat->LoopState
 | 0=>.ready
 | 1=>.busy
 | _=>.done

def RT (C:Ctx) (τ:Tmps) (tmps:Array Value):Prop:=∀ t,RV C (lk t τ) (tmps.getD t undef)

def RM (C:Ctx):List (Int × AVal)->List MapEntry->Prop
 | [],ms=>ms=[]
 | p::r,ms=>∃ m s,ms=m::s/\m.key=.int .i64 p.1/\RV C p.2 m.val/\RM C r s

def RE (P:Program) (C:Ctx) (i:Nat):Entry->Prop
 | .dead=>C.sh i=some .dead
 | .box cs=>C.sh i=some .box/\∃ c t,C.w.heap[C.ν i]?=some (.cells c t (0,0))/\RL C cs c.toList/\(∀ v∈c.toList,v.oneCell'=true)/\∀ o,¬ C.Fz (C.ν i) o
 | .arr fl lk full sz es=>∃ c t cp,C.sh i=some (.arr es.length sz cp)/\C.w.heap[C.ν i]?=some (.cells c t (0,0))/\cp * sz<=c.size/\es.length<=cp/\0<sz /\
   (full=true->cp=es.length)/\(∀ r∈es,r.length=sz)/\RL C es.flatten (c.toList.take (es.length * sz))/\(∀ v∈c.toList,v.oneCell'=true)/\(fl=true->flatLL es=true) /\
   (∀ o,C.Fz (C.ν i) o->lk=true/\(o<es.length * sz∨full=true))
 | .loop st pend snap ps a b=>C.sh i=some .loop/\∃ L nt,C.w.heap[C.ν i]?=some (.loop L)/\st<=2/\L.state=stateOf st/\L.pending=jumpCode pend/\RT C snap L.tmps/\nt<=L.tmps.size /\
   L.params.toList=ps/\((∀ p∈ps,p<nt)/\ps.Nodup)/\CompP P nt L.assign a/\CompP P nt L.body b/\∀ o,¬ C.Fz (C.ν i) o

 | .map es=>C.sh i=some .map/\∃ (ms:Array MapEntry) (clock:Nat),C.w.heap[C.ν i]?=some (.map ms clock)/\RM C es ms.toList/\∀ o,¬ C.Fz (C.ν i) o

structure HR (P:Program) (C:Ctx) (H:Heap):Prop where
 ent:∀ i e,H[i]?=some e->RE P C i e
 out:∀ i,H.length<=i->C.sh i=none
 inj:∀ i j s s',C.sh i=some s->s≠.dead->C.sh j=some s'->s'≠.dead->C.ν i=C.ν j->i=j
 low:∀ b o,C.Fz b o->b<C.w.heap.size

def shapeOf (cp:Nat):Entry->Sh
 | .dead=>.dead
 | .box _=>.box
 | .arr _ _ _ sz es=>.arr es.length sz cp
 | .loop ..=>.loop
 | .map _=>.map

theorem RE.shape {P C i e} (h:RE P C i e):∃ cp,C.sh i=some (shapeOf cp e):=by
 cases e with
 | dead=>exact ⟨0,h⟩
 | box cs=>exact ⟨0,h.1⟩
 | arr fl lk full sz es=>obtain ⟨c,t,cp,h,_⟩:=h;exact ⟨cp,h⟩
 | loop=>exact ⟨0,h.1⟩
 | map=>exact ⟨0,h.1⟩

theorem HR.entry {P C H i s} (h:HR P C H) (hs:C.sh i=some s):∃ e cp,H[i]?=some e/\RE P C i e/\s=shapeOf cp e:=by
 have hlt:i<H.length:=by
  rcases Nat.lt_or_ge i H.length with h' | h'
  ·exact h'
  ·rw [h.out i h'] at hs;cases hs
 have he:=h.ent i _ (List.getElem?_eq_getElem hlt)
 obtain ⟨cp,hc⟩:=he.shape
 exact ⟨_,cp,List.getElem?_eq_getElem hlt,he,by rw [hs] at hc;exact Option.some.inj hc⟩

theorem HR.block {P C H i s} (h:HR P C H) (hs:C.sh i=some s) (hd:s≠.dead):C.ν i<C.w.heap.size:=by
 obtain ⟨e,cp,_,he,rfl⟩:=h.entry hs
 cases e with
 | dead=>exact absurd rfl hd
 | box cs=>obtain ⟨_,c,t,hc,_⟩:=he;exact (Array.getElem?_eq_some_iff.1 hc).1
 | arr fl lk full sz es=>obtain ⟨c,t,cp,_,hc,_⟩:=he;exact (Array.getElem?_eq_some_iff.1 hc).1
 | loop=>obtain ⟨_,L,nt,hc,_⟩:=he;exact (Array.getElem?_eq_some_iff.1 hc).1
 | map=>obtain ⟨_,ms,ck,hc,_⟩:=he;exact (Array.getElem?_eq_some_iff.1 hc).1

structure Env (w w':World):Prop where
 os:w'.os=w.os
 output:w'.output=w.output
 tape:w'.tape=w.tape
 frozen:∀ a,w'.frozen? a=w.frozen? a

theorem Env.refl (w:World):Env w w:=⟨rfl,rfl,rfl,fun _=>rfl⟩
theorem Env.trans {a b c:World} (h:Env a b) (k:Env b c):Env a c:=⟨k.os.trans h.os,k.output.trans h.output,k.tape.trans h.tape,fun x=>(k.frozen x).trans (h.frozen x)⟩
theorem Env.new (w:World) (o:Obj) (ho:∀ c t f,o=.cells c t f->f=(0,0)):Env w (w.alloc o):=by
 refine ⟨rfl,rfl,rfl,fun a=>?_⟩
 unfold World.frozen?
 by_cases h:a.block=w.heap.size
 ·have e1:(w.alloc o).heap[a.block]?=some o:=by
   rw [h]
   show (w.heap.push o)[w.heap.size]?=some o
   simp
  have e2:w.heap[a.block]?=none:=by rw [h];simp
  rw [e1,e2]
  cases o with
  | cells c t f=>have:=ho c t f rfl;subst this;simp
  | _=>rfl
 ·have e1:(w.alloc o).heap[a.block]?=w.heap[a.block]?:=by
   show (w.heap.push o)[a.block]?=_
   rw [Array.getElem?_push,if_neg h]
  rw [e1]
theorem Env.alloc (w:World) (c:Array Value) (t:TypeId):Env w (w.alloc (.cells c t)):=Env.new _ _ (by rintro c t f e;cases e;rfl)
theorem Env.drew (w:World):Env w w.drew:=⟨rfl,rfl,rfl,fun _=>rfl⟩
theorem Env.drewAlloc (w:World) (c:Array Value) (t:TypeId):Env w (w.drew.alloc (.cells c t)):=(Env.drew w).trans (Env.alloc _ _ _)
theorem Env.setRow (w:World) (b:Nat) (cs:Array Value):Env w (w.setRow b cs):=by
 refine ⟨rfl,rfl,rfl,fun a=>?_⟩
 unfold World.frozen?
 have e1:(w.setRow b cs).heap[a.block]?=if b=a.block then (w.heap[a.block]?).map (fun | .cells _ elem frozen=>.cells cs elem frozen | o=>o) else w.heap[a.block]?:=by
  unfold World.setRow
  simp only [Array.getElem?_modify]
  split<;>rfl
 rw [e1]
 by_cases h:b=a.block
 ·rw [if_pos h]
  cases h2:w.heap[a.block]? with
  | none=>rfl
  | some o=>cases o<;>rfl
 ·rw [if_neg h]

structure Nx (C C':Ctx):Prop where
 tr:Tr C C' id (fun _=>True)
 size:C.w.heap.size<=C'.w.heap.size
 frame:∀ b,b<C.w.heap.size->(∀ i s,C.sh i=some s->s≠.dead->C.ν i≠b)->C'.w.heap[b]?=C.w.heap[b]?
 own:∀ i s,C'.sh i=some s->s≠.dead->C'.ν i<C.w.heap.size->∃ j u,C.sh j=some u/\u≠.dead/\C.ν j=C'.ν i
 env:Env C.w C'.w
 fzg:∀ b o,C'.Fz b o->C.Fz b o∨C.w.heap.size<=b∨∃ j u,C.sh j=some u/\u≠.dead/\C.ν j=b

theorem Nx.refl (C:Ctx):Nx C C:=⟨Tr.refl C _,Nat.le_refl _,fun _ _ _=>rfl,fun i s h hd _=>⟨i,s,h,hd,rfl⟩,Env.refl _,fun _ _ h=>.inl h⟩

theorem Nx.trans {A B D:Ctx} (h:Nx A B) (k:Nx B D):Nx A D where
 tr:=by simpa using h.tr.comp k.tr (fun _ _=>trivial)
 size:=Nat.le_trans h.size k.size
 frame b hb hn:=by
  rw [k.frame b (Nat.lt_of_lt_of_le hb h.size) fun i s hs hd e=>?_,h.frame b hb hn]
  subst e
  obtain ⟨j,u,hj,hu,e⟩:=h.own i s hs hd hb
  exact hn j u hj hu e
 own i s hs hd hlt:=by
  obtain ⟨j,u,hj,hu,e⟩:=k.own i s hs hd (Nat.lt_of_lt_of_le hlt h.size)
  obtain ⟨l,v,hl,hv,e'⟩:=h.own j u hj hu (by rw [e];exact hlt)
  exact ⟨l,v,hl,hv,e'.trans e⟩
 env:=h.env.trans k.env
 fzg b o hf:=by
  rcases k.fzg b o hf with h1 | h1 | ⟨j,u,hj,hu,e⟩
  ·exact h.fzg b o h1
  ·exact .inr (.inl (Nat.le_trans h.size h1))
  ·rcases Nat.lt_or_ge b A.w.heap.size with hlt | hge
   ·obtain ⟨l,v,hl,hv,e'⟩:=h.own j u hj hu (by rw [e];exact hlt)
    exact .inr (.inr ⟨l,v,hl,hv,e'.trans e⟩)
   ·exact .inr (.inl hge)

theorem RM.nx {C C':Ctx} (n:Nx C C'):∀ {es:List (Int × AVal)} {ms:List MapEntry},RM C es ms->RM C' es ms
 | [],_,h=>h
 | _::_,_,h=>by
  obtain ⟨m,s,rfl,h1,h2,h3⟩:=h
  exact ⟨m,s,rfl,h1,RV_id n.tr (fun _ _=>trivial) h2,RM.nx n h3⟩
theorem RT.nx {C C' τ tmps} (h:RT C τ tmps) (n:Nx C C'):RT C' τ tmps:=fun t=>RV_id n.tr (fun _ _=>trivial) (h t)


def Goes (P:Program) (s:Sem Next) (w:World) (K:Value->World->Prop):Prop :=
 (∃ v w',s.run P w=.ok (.value v) w'/\K v w') ∨
 (∃ w',s.run P w=.ok .skip w'/\K undef w') ∨
 (∃ f args w₁,s.run P w=.ok (.enter f args) w₁/\Calls P f args w₁ fun e w'=>∃ v,e=.returned v/\K v w') ∨
 (∃ l f tmps as bd w₁,s.run P w=.ok (.round l f tmps as bd) w₁/\∀ c cs,∃v w',K v w'/\Steps P (lone (Frame.round l f tmps as bd .normal) (c::cs) w₁) (lone (c.finish v) cs w'))

theorem Goes.value {P s w K} {v:Value} {w':World} (h:s.run P w=.ok (.value v) w') (hk:K v w'):Goes P s w K:=.inl ⟨v,w',h,hk⟩
theorem Goes.skip {P s w K} {w':World} (h:s.run P w=.ok .skip w') (hk:K undef w'):Goes P s w K:=.inr (.inl ⟨w',h,hk⟩)
theorem Goes.mono {P s w} {K K':Value->World->Prop} (h:Goes P s w K) (hk:∀ v w',K v w'->K' v w'):Goes P s w K':=by
 rcases h with ⟨v,w',h,k⟩ | ⟨w',h,k⟩ | ⟨f,args,w₁,h,k⟩ | ⟨l,f,t,a,b,w₁,h,k⟩
 ·exact .inl ⟨v,w',h,hk _ _ k⟩
 ·exact .inr (.inl ⟨w',h,hk _ _ k⟩)
 ·exact .inr (.inr (.inl ⟨f,args,w₁,h,k.mono fun e w' ⟨v,e,k⟩=>⟨v,e,hk _ _ k⟩⟩))
 ·exact .inr (.inr (.inr ⟨l,f,t,a,b,w₁,h,fun c cs=>let ⟨v,w',k,s⟩:=k c cs;⟨v,w',hk _ _ k,s⟩⟩))

def After (P:Program) (C:Ctx) (a:AVal) (H':Heap) (v:Value) (w':World):Prop :=
 ∃ C',C'.w=w'/\HR P C' H'/\Nx C C'/\RV C' a v

theorem After.same {P C H a v} (h:HR P C H) (hv:RV C a v):After P C a H v C.w:=⟨C,rfl,h,Nx.refl C,hv⟩


theorem RV_ofV (C:Ctx):∀ {v:Value} {a:AVal},ofV v=some a->RV C a v/\v.oneCell'=true:=by
 intro v a h
 cases v with
 | bool b=>simp [ofV] at h;subst h;exact ⟨rfl,rfl⟩
 | int k n=>simp [ofV] at h;subst h;exact ⟨rfl,rfl⟩
 | string s=>simp [ofV] at h;subst h;exact ⟨rfl,rfl⟩
 | nilFunc=>simp [ofV] at h;subst h;exact ⟨rfl,rfl⟩
 | nilIface=>simp [ofV] at h;subst h;exact ⟨rfl,rfl⟩
 | pointer p=>cases p with
  | none=>simp [ofV] at h;subst h;exact ⟨rfl,rfl⟩
  | some p=>simp [ofV] at h
 | map p=>cases p with
  | none=>simp [ofV] at h;subst h;exact ⟨rfl,rfl⟩
  | some p=>simp [ofV] at h
 | slice p l c=>cases p with
  | some p=>simp [ofV] at h
  | none =>
   cases l with
   | succ l=>simp [ofV] at h
   | zero=>cases c with
    | succ c=>simp [ofV] at h
    | zero =>
     simp [ofV,nilS] at h;subst h
     exact ⟨⟨none,0,rfl,Nat.le_refl _,fun _=>rfl,rfl,fun _=>rfl,fun _=>rfl,fun ad e=>by cases e⟩,rfl⟩
 | func fn x y=>cases fn with
  | func f =>
   simp only [ofV] at h
   split at h
   ·rename_i hs
    cases h
    have h1:x=#[]:=Array.size_eq_zero_iff.1 hs.1
    have h2:y=#[]:=Array.size_eq_zero_iff.1 hs.2
    subst h1 h2
    exact ⟨⟨#[],#[],rfl,rfl,rfl⟩,rfl⟩
   ·cases h
  | _=>simp [ofV] at h
 | _=>simp [ofV] at h

theorem RL_ofVs (C:Ctx):∀ {l:List Value} {as:List AVal},ofVs l=some as->RL C as l/\∀ v∈l,v.oneCell'=true
 | [],as,h=>by simp [ofVs] at h;subst h;exact ⟨rfl,by simp⟩
 | v::r,as,h=>by
  simp only [ofVs,Option.bind_eq_some_iff,Option.map_eq_some_iff] at h
  obtain ⟨a,ha,bs,hb,rfl⟩:=h
  obtain ⟨h1,h2⟩:=RV_ofV C ha
  obtain ⟨h3,h4⟩:=RL_ofVs C hb
  refine ⟨⟨v,r,rfl,h1,h3⟩,fun u hu=>?_⟩
  rcases List.mem_cons.1 hu with rfl | hu
  ·exact h2
  ·exact h4 u hu

theorem RV_ofC (C:Ctx) {v:Value} {a:AVal} (h:ofC v=some a):RV C a v:=by
 cases v with
 | agg cs =>
  simp only [ofC,Option.map_eq_some_iff] at h
  obtain ⟨as,ha,rfl⟩:=h
  obtain ⟨h1,h2⟩:=RL_ofVs C ha
  exact ⟨cs,rfl,h2,h1⟩
 | tuple vs =>
  simp only [ofC] at h
  split at h
  ·rename_i hs
   cases h
   have:vs=#[]:=Array.size_eq_zero_iff.1 hs
   subst this
   rfl
  ·cases h
 | _=>simp only [ofC] at h;exact (RV_ofV C h).1

def RO (C:Ctx) (ρ:Opd->AVal) (ρr:Operand->Value):Prop:=∀ x a,opd x=some a->RV C (ρ a) (ρr x)

theorem RO.of_RT {C τ tmps} {fr:Operand->Value} (h:RT C τ tmps) (h1:∀ t,fr (.tmp t)=tmps.getD t undef) (h2:∀ v,fr (.const v)=v) (h3:∀ f,fr (.func f)=.func (.func f) #[] #[]):RO C (ev τ) fr:=by
 intro x a hx
 cases x with
 | tmp t=>simp [opd] at hx;subst hx;rw [h1];exact h t
 | const v =>
  simp only [opd,Option.map_eq_some_iff] at hx
  obtain ⟨b,hb,rfl⟩:=hx
  rw [h2];exact RV_ofC C hb
 | func f=>simp [opd] at hx;subst hx;rw [h3];exact ⟨#[],#[],rfl,rfl,rfl⟩
 | global g=>simp [opd] at hx

theorem RO.list {C ρ ρr} (h:RO C ρ ρr):∀ {xs:List Operand} {as:List Opd},opds xs=some as->RL C (as.map ρ) (xs.map ρr)
 | [],as,e=>by simp [opds] at e;subst e;exact rfl
 | x::r,as,e=>by
  simp only [opds,Option.bind_eq_some_iff,Option.map_eq_some_iff] at e
  obtain ⟨a,ha,bs,hb,rfl⟩:=e
  exact ⟨_,_,rfl,h x a ha,h.list hb⟩

end Go.AM
namespace Go.AM
section
variable {P:Program} {C:Ctx} {H:Heap} {ρ:Opd->AVal} {ρr:Operand->Value}

theorem cells_rel {a:AVal} {x:Value} {cs:List AVal} (h:RV C a x) (hc:cellsO a=some cs):RL C cs x.cells.toList/\∀ v∈x.cells.toList,v.oneCell'=true:=by
 have one:∀ {a:AVal},RV C a x->x.cells=#[x]->x.oneCell'=true->RL C [a] x.cells.toList/\∀ v∈x.cells.toList,v.oneCell'=true:=by
  intro a h e1 e2
  rw [e1]
  exact ⟨⟨x,[],rfl,h,rfl⟩,by simpa using e2⟩
 cases a with
 | agg cs =>
  simp only [cellsO,Option.some.injEq] at hc;subst hc
  obtain ⟨vs,rfl,h1,h2⟩:=h
  exact ⟨h2,h1⟩
 | tup cs=>simp [cellsO] at hc
 | any=>simp [cellsO] at hc
 | lit v =>
  have e:x=v:=h
  subst e
  cases x with
  | agg cs=>simp [cellsO] at hc
  | tuple vs=>simp [cellsO] at hc
  | _=>simp only [cellsO,Option.some.injEq] at hc;subst hc;exact one h rfl rfl
 | ptr i k=>simp only [cellsO,Option.some.injEq] at hc;subst hc;obtain ⟨a,rfl,_⟩:=id h;exact one h rfl rfl
 | eptr i l sz j k=>simp only [cellsO,Option.some.injEq] at hc;subst hc;obtain ⟨a,rfl,_⟩:=id h;exact one h rfl rfl
 | iptr fl es j k=>simp only [cellsO,Option.some.injEq] at hc;subst hc;obtain ⟨_,_,_,rfl,_⟩:=id h;exact one h rfl rfl
 | own i l sz off n=>simp only [cellsO,Option.some.injEq] at hc;subst hc;obtain ⟨_,_,rfl,_⟩:=id h;exact one h rfl rfl
 | imm n f fl es=>simp only [cellsO,Option.some.injEq] at hc;subst hc;obtain ⟨_,_,rfl,_⟩:=id h;exact one h rfl rfl
 | asl i k sz n=>simp only [cellsO,Option.some.injEq] at hc;subst hc;obtain ⟨_,_,rfl,_⟩:=id h;exact one h rfl rfl
 | iface t v=>simp only [cellsO,Option.some.injEq] at hc;subst hc;obtain ⟨_,rfl,_⟩:=id h;exact one h rfl rfl
 | func fn a b=>simp only [cellsO,Option.some.injEq] at hc;subst hc;obtain ⟨_,_,rfl,_⟩:=id h;exact one h rfl rfl
 | yld i=>simp only [cellsO,Option.some.injEq] at hc;subst hc;obtain ⟨_,rfl,_⟩:=id h;exact one h rfl rfl
 | mref i=>simp only [cellsO,Option.some.injEq] at hc;subst hc;obtain ⟨_,rfl,_⟩:=id h;exact one h rfl rfl

theorem eqGuard_int (op:BinOp) (t x y k a k' b) (w:World):(eqGuard op t x y (.int k a) (.int k' b)).run P w=.ok () w:=by
 cases op<;>rfl
theorem eqGuard_string (op:BinOp) (t x y a b) (w:World):(eqGuard op t x y (.string a) (.string b)).run P w=.ok () w:=by
 cases op<;>rfl

theorem sim_bin {op:BinOp} {t:TypeId} {x y:Operand} {yt:TypeId} {a b v:AVal} {w:World} (ha:RV C a (ρr x)) (hb:RV C b (ρr y)) (h:abin op a b=some v) :
  ∃ r,((eqGuard op t x y (ρr x) (ρr y)) >>= fun _=>binOp op t (ρr x) (ρr y):Sem Value).run P w=.ok r w/\RV C v r:=by
 unfold abin at h
 split at h
 ·rename_i k p k' q
  have hx:ρr x=.int k p:=ha
  have hy:ρr y=.int k' q:=hb
  rw [hx,hy]
  simp only [Sem.run_bind,eqGuard_int,Result.andThen_ok]
  split at h
  ·split at h
   ·cases h
   ·cases h
    exact ⟨_,by simp [binOp,Op.shift, *],rfl⟩
  ·split at h
   ·cases h
   ·cases h
    exact ⟨_,by simp [binOp,Op.shift, *],rfl⟩
  ·rename_i h1 h2
   split at h
   ·cases h
   ·rename_i hk
    have hk:k=k':=by simpa using hk
    subst hk
    split at h
    ·cases h;exact ⟨_,by simp [binOp,Op.intArith],rfl⟩
    ·cases h;exact ⟨_,by simp [binOp,Op.intArith],rfl⟩
    ·cases h;exact ⟨_,by simp [binOp,Op.intArith],rfl⟩
    ·split at h
     ·cases h
     ·cases h;exact ⟨_,by simp [binOp,Op.intDiv, *],rfl⟩
    ·split at h
     ·cases h
     ·cases h;exact ⟨_,by simp [binOp,Op.intDiv, *],rfl⟩
    ·cases h;exact ⟨_,by simp [binOp,Op.intBits],rfl⟩
    ·cases h;exact ⟨_,by simp [binOp,Op.intBits],rfl⟩
    ·cases h;exact ⟨_,by simp [binOp,Op.intBits],rfl⟩
    ·cases h;exact ⟨_,by simp [binOp,Op.intBits],rfl⟩
    ·cases h;exact ⟨_,by simp [binOp,Op.intCmp];rfl,rfl⟩
    ·cases h;exact ⟨_,by simp [binOp,Op.intCmp];rfl,by simp [RV,vbool,bne,BEq.beq]⟩
    ·cases h;exact ⟨_,by simp [binOp,Op.intCmp],rfl⟩
    ·cases h;exact ⟨_,by simp [binOp,Op.intCmp],rfl⟩
    ·cases h;exact ⟨_,by simp [binOp,Op.intCmp],rfl⟩
    ·cases h;exact ⟨_,by simp [binOp,Op.intCmp],rfl⟩
    ·cases h
 ·rename_i p q
  have hx:ρr x=.string p:=ha
  have hy:ρr y=.string q:=hb
  rw [hx,hy]
  simp only [Sem.run_bind,eqGuard_string,Result.andThen_ok]
  split at h
  ·split at h
   ·rename_i hs
    cases h
    have:¬ (IntKind.i64.max<((p.size+q.size:Nat):Int)):=by
     simp only [IntKind.max,IntKind.signed,IntKind.bits,if_true]
     omega
    refine ⟨.string (p++q),?_,rfl⟩
    simp only [binOp,Op.stringOp]
    rw [if_neg this]
    rfl
   ·cases h
  ·cases h;exact ⟨_,by simp [binOp,Op.stringOp],rfl⟩
  ·cases h;exact ⟨_,by simp [binOp,Op.stringOp],rfl⟩
  ·cases h
 ·cases h

theorem sim_un {op:UnOp} {a v:AVal} {x:Value} {w:World} (ha:RV C a x) (h:aun op a=some v):∃ r,(Op.unary op x).run P w=.ok r w/\RV C v r:=by
 unfold aun at h
 split at h
 ·have hx:x=_:=ha
  subst hx
  split at h
  ·cases h;exact ⟨_,rfl,rfl⟩
  ·cases h
 ·have hx:x=_:=ha
  subst hx
  split at h
  ·cases h;exact ⟨_,rfl,rfl⟩
  ·cases h;exact ⟨_,rfl,rfl⟩
  ·cases h
 ·cases h

theorem sim_min {ρr':Operand->Value} (f2:Value->Value->Sem Value) (f:Int->Int->Int) (hf:∀ k a b w,(f2 (.int k a) (.int k b)).run P w=.ok (.int k (f a b)) w) (hρ:RO C ρ ρr) :
  ∀ {xs:List Operand} {as:List Opd} {k a v} {w:World},opds xs=some as->foldI f ρ k a as=some v ->
  ∃ r,((xs.map ρr).foldlM f2 (.int k a)).run P w=.ok r w/\RV C v r
 | [],as,k,a,v,w,e,h=>by
  simp [opds] at e;subst e
  simp only [foldI,Option.some.injEq] at h;subst h
  exact ⟨.int k a,rfl,rfl⟩
 | x :: xs,as,k,a,v,w,e,h=>by
  simp only [opds,Option.bind_eq_some_iff,Option.map_eq_some_iff] at e
  obtain ⟨b,hb,bs,hbs,rfl⟩:=e
  simp only [foldI] at h
  split at h
  ·rename_i k' q hq
   split at h
   ·rename_i hk
    subst hk
    have hx:ρr x=.int k q:=by have:=hρ x b hb;rw [hq] at this;exact this
    obtain ⟨r,hr,hv⟩:=sim_min (ρr':=ρr) f2 f hf hρ (w:=w) hbs h
    refine ⟨r,?_,hv⟩
    simp only [List.map_cons,List.foldlM_cons,hx,Sem.run_bind,hf,Result.andThen_ok]
    exact hr
   ·cases h
  ·cases h

end
end Go.AM
namespace Go.AM

def upd {α:Type} (f:Nat->α) (n:Nat) (x:α):Nat->α:=fun i=>if i=n then x else f i
theorem upd_same {α:Type} (f:Nat->α) (n:Nat) (x:α):upd f n x n=x:=by simp [upd]
theorem upd_ne {α:Type} (f:Nat->α) {n i:Nat} (x:α) (h:i≠n):upd f n x i=f i:=by simp [upd,h]

theorem lk_ren (g:Nat->Nat) (t:Nat):∀ τ:Tmps,lk t (renT g τ)=renV g (lk t τ)
 | []=>rfl
 | (u,v)::r=>by
  simp only [renT,lk]
  split
  ·rfl
  ·exact lk_ren g t r
theorem refs_lk (t:Nat):∀ τ:Tmps,∀ i∈refsV (lk t τ),i∈refsT τ
 | [],i,h=>by simp [lk,refsV] at h
 | (u,v)::r,i,h=>by
  simp only [lk] at h
  simp only [refsT]
  split at h
  ·exact List.mem_append_left _ h
  ·exact List.mem_append_right _ (refs_lk t r i h)
theorem renT_id:∀ τ:Tmps,renT id τ=τ
 | []=>rfl
 | (t,v)::r=>by rw [renT,renV_id,renT_id r]
theorem renM_id:∀ es:List (Int × AVal),renM id es=es
 | []=>rfl
 | (k,v)::r=>by rw [renM,renV_id,renM_id r]
theorem renE_id:∀ e:Entry,renE id e=e
 | .dead=>rfl
 | .box cs=>by rw [renE,renL_id]
 | .arr fl lk full sz es=>by rw [renE,renLL_id];simp
 | .loop st p snap ps a b=>by rw [renE,renT_id]
 | .map es=>by rw [renE,renM_id]
theorem renL_flatten (g:Nat->Nat):∀ es:List (List AVal),(renLL g es).flatten=renL g es.flatten
 | []=>rfl
 | c::r=>by
  simp only [renLL,List.flatten_cons,renL_flatten g r]
  generalize r.flatten=y
  induction c with
  | nil=>rfl
  | cons a s ih=>simp only [renL,List.cons_append,ih]
theorem refsL_append:∀ a b:List AVal,refsL (a++b)=refsL a++refsL b
 | [],b=>rfl
 | x::r,b=>by simp only [List.cons_append,refsL,refsL_append r b,List.append_assoc]
theorem refsL_flatten:∀ es:List (List AVal),refsL es.flatten=refsLL es
 | []=>rfl
 | c::r=>by simp only [List.flatten_cons,refsL_append,refsLL,refsL_flatten r]
theorem mem_renLL (g:Nat->Nat):∀ (es:List (List AVal)) (r:List AVal),r∈renLL g es->∃ r',r'∈es/\r=renL g r'
 | [],r,h=>by simp [renLL] at h
 | c :: s,r,h=>by
  simp only [renLL,List.mem_cons] at h
  rcases h with rfl | h
  ·exact ⟨c,by simp,rfl⟩
  ·obtain ⟨r',h1,h2⟩:=mem_renLL g s r h
   exact ⟨r',by simp [h1],h2⟩

theorem RT.tr {C C':Ctx} {g S τ tmps} (T:Tr C C' g S) (hS:∀ i∈refsT τ,S i) (h:RT C τ tmps):RT C' (renT g τ) tmps:=fun t=>by
 rw [lk_ren]
 exact RV_tr T _ _ (fun i hi=>hS i (refs_lk t τ i hi)) (h t)

theorem RM.tr {C C':Ctx} {g:Nat->Nat} {S:Nat->Prop} (T:Tr C C' g S):∀ {es:List (Int × AVal)} {ms:List MapEntry},(∀ i∈refsM es,S i)->RM C es ms->RM C' (renM g es) ms
 | [],_,_,h=>h
 | (k,v)::r,_,hS,h=>by
  obtain ⟨m,s,rfl,h1,h2,h3⟩:=h
  exact ⟨m,s,rfl,h1,RV_tr T v _ (fun i hi=>hS i (by simp [refsM,hi])) h2,RM.tr T (fun i hi=>hS i (by simp [refsM,hi])) h3⟩

section
variable {P:Program} {C C':Ctx} {g:Nat->Nat} {S:Nat->Prop}

theorem RE_tr (T:Tr C C' g S) {i:Nat} {e:Entry} (h:RE P C i e) (hS:∀ j∈refsE e,S j) (hs:C'.sh (g i)=C.sh i) (hn:C'.ν (g i)=C.ν i)
  (hb:C.sh i≠some .dead->C'.w.heap[C.ν i]?=C.w.heap[C.ν i]?) (hf:∀ o,C.sh i≠some .dead->C'.Fz (C.ν i) o->C.Fz (C.ν i) o):RE P C' (g i) (renE g e):=by
 cases e with
 | dead=>exact hs.trans h
 | box cs =>
  obtain ⟨h1,c,t,h2,h3,h4,h5⟩:=h
  have hd:C.sh i≠some .dead:=by rw [h1];simp
  exact ⟨hs.trans h1,c,t,by rw [hn,hb hd];exact h2,RL_tr T cs _ hS h3,h4,fun o ho=>h5 o (hf o hd (by rw [<- hn];exact ho))⟩
 | arr fl lk full sz es =>
  obtain ⟨c,t,cp,h1,h2,h3,h4,h5,h6,h7,h8,h9,h10,h11⟩:=h
  have hd:C.sh i≠some .dead:=by rw [h1];simp
  cases fl with
  | true =>
   have hfl:=h10 rfl
   refine ⟨c,t,cp,hs.trans h1,by rw [hn,hb hd];exact h2,h3,h4,h5,h6,h7,?_,h9,h10,fun o ho=>h11 o (hf o hd (by rw [<- hn];exact ho))⟩
   have:=RL_tr T es.flatten _ (fun j hj=>by rw [refsL_flatten,refsLL_flat es hfl] at hj;cases hj) h8
   rwa [<- renL_flatten,renLL_flat g es hfl] at this
  | false =>
   simp only [renE,Bool.false_eq_true,if_false]
   refine ⟨c,t,cp,by rw [renLL_length];exact hs.trans h1,by rw [hn,hb hd];exact h2,h3,by rw [renLL_length];exact h4,h5,fun e=>by rw [renLL_length];exact h6 e,?_,?_,h9,(fun e=>by cases e),?_⟩
   ·intro r hr
    obtain ⟨r',h1,rfl⟩:=mem_renLL g es r hr
    rw [renL_length];exact h7 r' h1
   ·rw [renL_flatten,renLL_length]
    exact RL_tr T es.flatten _ (fun j hj=>hS j (by rw [refsL_flatten] at hj;simpa [refsE] using hj)) h8
   ·intro o ho
    rw [renLL_length]
    exact h11 o (hf o hd (by rw [<- hn];exact ho))
 | map es =>
  obtain ⟨h1,ms,ck,h2,h3,h4⟩:=h
  have hd:C.sh i≠some .dead:=by rw [h1];simp
  exact ⟨hs.trans h1,ms,ck,by rw [hn,hb hd];exact h2,RM.tr T hS h3,fun o ho=>h4 o (hf o hd (by rw [<- hn];exact ho))⟩
 | loop st pend snap ps a b =>
  obtain ⟨h1,L,nt,h2,h3,h4,h5,h6,h7⟩:=h
  have hd:C.sh i≠some .dead:=by rw [h1];simp
  obtain ⟨h7,h8,h9,h10,h11,h12⟩:=h7
  exact ⟨hs.trans h1,L,nt,by rw [hn,hb hd];exact h2,h3,h4,h5,RT.tr T hS h6,h7,h8,h9,h10,h11,fun o ho=>h12 o (hf o hd (by rw [<- hn];exact ho))⟩

theorem HR.push {H:Heap} (h:HR P C H) {o:Obj} {e:Entry} {s:Sh} (hw:C'.w.heap=C.w.heap.push o) (hν:C'.ν=upd C.ν H.length C.w.heap.size) (hsh:C'.sh=upd C.sh H.length (some s)) (hF:C'.Fz=C.Fz)
  (he:Nx C C'->RE P C' H.length e) (env:Env C.w C'.w:=by first | exact Env.refl _ | exact Env.alloc _ _ _ | exact Env.drewAlloc _ _ _ | exact Env.setRow _ _ _ | assumption):HR P C' (H++[e])/\Nx C C':=by
 have hsz:C'.w.heap.size=C.w.heap.size+1:=by rw [hw,Array.size_push]
 have hold:∀ b,b<C.w.heap.size->C'.w.heap[b]?=C.w.heap[b]?:=fun b hb=>by
  rw [hw,Array.getElem?_push]
  rw [if_neg (by omega)]
 have hlt:∀ {i s},C.sh i=some s->i<H.length:=fun {i s} hs=>by
  rcases Nat.lt_or_ge i H.length with h' | h'
  ·exact h'
  ·rw [h.out i h'] at hs;cases hs
 have T:Tr C C' id (fun _=>True):=by
  refine ⟨fun b o hf=>⟨by rw [hF];exact hf,?_⟩,fun i u _ hu=>.inr (.inl ?_)⟩
  ·simp only [World.cell?,hold b (h.low b o hf)]
  ·have:=hlt hu
   simp only [id]
   exact ⟨by rw [hsh,upd_ne _ _ (by omega)];exact hu,by rw [hν,upd_ne _ _ (by omega)]⟩
 have N:Nx C C':=by
  refine ⟨T,by omega,fun b hb _=>hold b hb,fun i u hu hd hlt'=>?_,env,fun b o hf=>.inl (by rw [<- hF];exact hf)⟩
  by_cases hi:i=H.length
  ·subst hi
   rw [hν,upd_same] at hlt'
   omega
  ·rw [hsh,upd_ne _ _ hi] at hu
   exact ⟨i,u,hu,hd,by rw [hν,upd_ne _ _ hi]⟩
 refine ⟨⟨fun i e' hi=>?_,fun i hi=>?_,fun i j u u' hi hd hj hd' e'=>?_,fun b o hf=>?_⟩,N⟩
 ·rw [List.getElem?_append] at hi
  split at hi
  ·rename_i hl
   have h1:=h.ent i e' hi
   have h2:=RE_tr T h1 (fun _ _=>trivial) (by simp only [id];rw [hsh,upd_ne _ _ (by omega)]) (by simp only [id];rw [hν,upd_ne _ _ (by omega)])
    (fun hd=>hold _ (by
     obtain ⟨cp,hs⟩:=h1.shape
     exact h.block hs (fun e=>hd (by rw [hs,e])))) (fun o _ hf=>by rw [<- hF];exact hf)
   rwa [renE_id] at h2
  ·rename_i hl
   have:i=H.length:=by
    rcases Nat.lt_or_ge (i - H.length) 1 with h' | h'
    ·omega
    ·rw [List.getElem?_eq_none (by simpa using h')] at hi;cases hi
   subst this
   simp at hi
   subst hi
   exact he N
 ·simp at hi
  rw [hsh,upd_ne _ _ (by omega)]
  exact h.out i (by omega)
 ·by_cases h1:i=H.length<;>by_cases h2:j=H.length
  ·rw [h1,h2]
  ·rw [hsh,upd_ne _ _ h2] at hj
   rw [hν,h1,upd_same,upd_ne _ _ h2] at e'
   have:=h.block hj hd'
   omega
  ·rw [hsh,upd_ne _ _ h1] at hi
   rw [hν,h2,upd_same,upd_ne _ _ h1] at e'
   have:=h.block hi hd
   omega
  ·rw [hsh,upd_ne _ _ h1] at hi
   rw [hsh,upd_ne _ _ h2] at hj
   rw [hν,upd_ne _ _ h1,upd_ne _ _ h2] at e'
   exact h.inj i j u u' hi hd hj hd' e'
 ·rw [hF] at hf
  have:=h.low b o hf
  omega

theorem HR.turn {H:Heap} (h:HR P C H) {i:Nat} {e e':Entry} {s s':Sh} (hi:H[i]?=some e) (hs:C.sh i=some s) (hd:s≠.dead)
  (hw:∀ b,b≠C.ν i->C'.w.heap[b]?=C.w.heap[b]?) (hz:C'.w.heap.size=C.w.heap.size) (hν:C'.ν=C.ν) (hsh:C'.sh=upd C.sh i (some s')) (hd':s'≠.dead) (hF:C'.Fz=C.Fz)
  (hc:∀ o,C.Fz (C.ν i) o->C'.w.cell? ⟨C.ν i,o,none⟩=C.w.cell? ⟨C.ν i,o,none⟩)
  (hss:s'=s∨∃ len sz cp len' cp',s=.arr len sz cp/\s'=.arr len' sz cp'/\len<len')
  (he:Nx C C'->RE P C' i e') (env:Env C.w C'.w:=by first | exact Env.refl _ | exact Env.alloc _ _ _ | exact Env.drewAlloc _ _ _ | exact Env.setRow _ _ _ | assumption):HR P C' (H.set i e')/\Nx C C':=by
 have hil:i<H.length:=by
  rcases Nat.lt_or_ge i H.length with h' | h'
  ·exact h'
  ·rw [h.out i h'] at hs;cases hs
 have T:Tr C C' id (fun _=>True):=by
  refine ⟨fun b o hf=>⟨by rw [hF];exact hf,?_⟩,fun j u _ hu=>?_⟩
  ·by_cases hb:b=C.ν i
   ·subst hb;exact hc o hf
   ·simp only [World.cell?,hw b hb]
  ·simp only [id]
   by_cases hj:j=i
   ·subst hj
    rw [hs] at hu;cases hu
    rw [hsh,upd_same,hν]
    rcases hss with rfl | ⟨len,sz,cp,len',cp',rfl,rfl,hl⟩
    ·exact .inr (.inl ⟨rfl,rfl⟩)
    ·exact .inr (.inr ⟨len,sz,cp,len',cp',rfl,rfl,hl⟩)
   ·rw [hsh,upd_ne _ _ hj,hν];exact .inr (.inl ⟨hu,rfl⟩)
 have N:Nx C C':=by
  refine ⟨T,by omega,fun b hb hn=>hw b (fun e=>hn i s hs hd e.symm),fun j u hu hd2 hlt=>?_,env,fun b o hf=>.inl (by rw [<- hF];exact hf)⟩
  by_cases hj:j=i
  ·subst hj;exact ⟨j,s,hs,hd,by rw [hν]⟩
  ·rw [hsh,upd_ne _ _ hj] at hu;exact ⟨j,u,hu,hd2,by rw [hν]⟩
 refine ⟨⟨fun j e2 hj=>?_,fun j hj=>?_,fun j k u u' hj hd1 hk hd2 e2=>?_,fun b o hf=>?_⟩,N⟩
 ·rw [List.getElem?_set] at hj
  split at hj
  ·rename_i hji
   subst hji
   cases hj
   exact he N
  ·rename_i hji
   have hji:j≠i:=fun e=>hji e.symm
   have h1:=h.ent j e2 hj
   obtain ⟨cp,hsj⟩:=h1.shape
   have h2:=RE_tr T h1 (fun _ _=>trivial) (by simp only [id];rw [hsh,upd_ne _ _ hji]) (by simp only [id];rw [hν])
    (fun hd2=>hw _ (fun e=>hji (h.inj j i _ _ hsj (fun e=>hd2 (by rw [hsj,e])) hs hd e))) (fun o _ hf=>by rw [<- hF];exact hf)
   rwa [renE_id] at h2
 ·rw [List.length_set] at hj
  rw [hsh,upd_ne _ _ (by omega)]
  exact h.out j hj
 ·have key:∀ {j u},C'.sh j=some u->u≠.dead->∃ v,C.sh j=some v/\v≠.dead:=by
   intro j u hj hd1
   by_cases hji:j=i
   ·subst hji;exact ⟨s,hs,hd⟩
   ·rw [hsh,upd_ne _ _ hji] at hj;exact ⟨u,hj,hd1⟩
  obtain ⟨v,hv,hvd⟩:=key hj hd1
  obtain ⟨v',hv',hvd'⟩:=key hk hd2
  rw [hν] at e2
  exact h.inj j k v v' hv hvd hv' hvd' e2
 ·rw [hF] at hf
  have:=h.low b o hf
  omega

end
end Go.AM
namespace Go.AM

theorem addr_add (b o n:Nat):(⟨b,o,none⟩:Addr).add n=⟨b,o+n,none⟩:=by
 unfold Addr.add;split<;>simp_all

theorem flatten_row {sz:Nat}:∀ {es:List (List AVal)} {j:Nat} {r:List AVal},(∀ r∈es,r.length=sz)->es[j]?=some r->(es.flatten.drop (j * sz)).take sz=r
 | [],j,r,_,h=>by simp at h
 | c::s,0,r,hl,h=>by
  simp at h;subst h
  have:=hl c (by simp)
  simp [List.take_append,this,List.take_of_length_le (Nat.le_of_eq this)]
 | c::s,j+1,r,hl,h=>by
  have hc:=hl c (by simp)
  have:=flatten_row (es:=s) (j:=j) (r:=r) (fun r hr=>hl r (by simp [hr])) (by simpa using h)
  rw [List.flatten_cons,List.drop_append,List.drop_eq_nil_of_le (by rw [hc,Nat.succ_mul];omega),List.nil_append]
  rw [show (j+1) * sz - c.length=j * sz by rw [Nat.succ_mul];omega]
  exact this
theorem flatten_length {sz:Nat}:∀ {es:List (List AVal)},(∀ r∈es,r.length=sz)->es.flatten.length=es.length * sz
 | [],_=>by simp
 | c::s,hl=>by
  rw [List.flatten_cons,List.length_append,hl c (by simp),flatten_length (fun r hr=>hl r (by simp [hr])),List.length_cons,Nat.succ_mul];omega

section
variable {P:Program} {C:Ctx} {H:Heap}

theorem run_isAgg {t:TypeId} {d:TypeDesc} (hu:P.underlying t=some d) (w:World):(isAgg t).run P w=.ok (isAggT P t) w:=by
 unfold isAgg isAggT
 simp only [Sem.run_bind,run_underlying hu,Result.andThen_ok,hu]
 cases d<;>rfl
theorem info_of_underlying {t:TypeId} {d:TypeDesc} (hu:P.underlying t=some d):∃ i,P.info? t=some i:=by
 unfold Program.underlying at hu
 cases h:P.info? t with
 | none=>rw [h] at hu;cases hu
 | some i=>exact ⟨i,rfl⟩
theorem run_sizeOf {t:TypeId} {d:TypeDesc} (hu:P.underlying t=some d) (w:World):(sizeOf t).run P w=.ok (P.cellsOf t) w:=by
 obtain ⟨i,hi⟩:=info_of_underlying hu
 simp [sizeOf,typeInfo,hi,Program.cellsOf]

theorem load_at {t:TypeId} {d:TypeDesc} {b o n:Nat} {ag:Bool} {cs:List AVal} {xs:List Value} {v:AVal} (hu:P.underlying t=some d) (hag:isAggT P t=ag) (hn:P.cellsOf t=n)
  (hx:RL C cs xs) (h1:∀ v∈xs,v.oneCell'=true) (hc:∀ j v,xs[j]?=some v->C.w.cell? ⟨b,o+j,none⟩=some v) (hg:get1 ag n cs=some v) :
  ∃ r,(loadVar t ⟨b,o,none⟩).run P C.w=.ok r C.w/\RV C v r:=by
 unfold get1 at hg
 unfold loadVar
 simp only [Sem.run_bind,run_isAgg hu,Result.andThen_ok,hag]
 cases ag with
 | true =>
  simp only [if_true] at hg ⊢
  split at hg
  ·cases hg
  ·rename_i hl
   cases hg
   have hlen:(xs.take n).length=n:=by rw [List.length_take,RL_length hx];omega
   have hr:=run_loadCells_list (P:=P) C.w ⟨b,o,none⟩ (xs.take n) (fun j v hv=>by
    rw [addr_add]
    rw [List.getElem?_take] at hv
    split at hv
    ·exact hc j v hv
    ·cases hv)
   rw [hlen] at hr
   refine ⟨.agg (xs.take n).toArray,?_,?_⟩
   ·simp only [Sem.run_bind,run_sizeOf hu,Result.andThen_ok,hn,hr,Sem.run_pure]
   ·exact ⟨_,rfl,fun v hv=>h1 v (List.mem_of_mem_take (by simpa using hv)),by simpa using RL_take hx n⟩
 | false =>
  simp only [Bool.false_eq_true,if_false] at hg ⊢
  split at hg
  ·obtain ⟨x,hx',hv⟩:=RL_get hx hg
   have:=hc 0 x hx'
   refine ⟨x,?_,hv⟩
   simp only [run_load]
   rw [show (⟨b,o,none⟩:Addr)=⟨b,o+0,none⟩ by simp,this]
  ·cases hg

theorem cell_of_heap {w:World} {b:Nat} {c:Array Value} {t:TypeId} {fr:Nat × Nat} (h:w.heap[b]?=some (.cells c t fr)) (o:Nat):w.cell? ⟨b,o,none⟩=c.toList[o]?:=by
 simp [World.cell?,h]

theorem sim_load {t:TypeId} {d:TypeDesc} {ag:Bool} {n:Nat} {a v:AVal} {x:Value} (hH:HR P C H) (hu:P.underlying t=some d) (hag:isAggT P t=ag) (hn:P.cellsOf t=n)
  (ha:RV C a x) (h:aload ag n H a=some v):∃ r,(Instr.loadAt t x).run P C.w=.ok r C.w/\RV C v r:=by
 have fin:∀ {b o:Nat},x=.pointer (some ⟨b,o,none⟩)->(∃ r,(loadVar t ⟨b,o,none⟩).run P C.w=.ok r C.w/\RV C v r)->∃ r,(Instr.loadAt t x).run P C.w=.ok r C.w/\RV C v r:=by
  rintro b o rfl ⟨r,hr,hv⟩
  exact ⟨r,by simp [Instr.loadAt,Instr.sureAddr,hr],hv⟩
 unfold aload at h
 split at h
 ·rename_i i k
  split at h
  ·rename_i cs hi
   obtain ⟨hs,c,ty,hc,hl,h1,_⟩:=hH.ent i _ hi
   obtain ⟨a,rfl,ha⟩:=ha
   rw [hs] at ha
   rcases ha with ha | ⟨_,rfl⟩
   ·cases ha
   ·refine fin rfl (load_at hu hag hn (RL_drop hl k) (fun v hv=>h1 v (List.mem_of_mem_drop hv)) (fun j v hv=>?_) h)
    rw [cell_of_heap hc,<- hv,List.getElem?_drop]
  ·cases h
 ·rename_i i len sz j k
  split at h
  ·rename_i fl lk fu se es hi
   split at h
   ·rename_i hlen
    obtain ⟨hlen,hse⟩:=hlen
    rw [Option.bind_eq_some_iff] at h
    obtain ⟨row,hrow,h⟩:=h
    obtain ⟨c,ty,cp,hs,hc,hsz,hcp,h0,_,hrows,hl,h1,_⟩:=hH.ent i _ hi
    obtain ⟨a,rfl,ha⟩:=ha
    rw [hs] at ha
    rcases ha with ha | ⟨cur,s,cp',e,_,ha⟩
    ·cases ha
    ·cases e
     have ha:=ha hlen.symm hse.symm
     subst ha
     have hr:=flatten_row hrows hrow
     have hjl:j<es.length:=(List.getElem?_eq_some_iff.1 hrow).1
     have hx:=RL_drop (RL_take (RL_drop hl (j * se)) se) k
     rw [hr] at hx
     subst hse
     refine fin rfl (load_at hu hag hn hx (fun v hv=>h1 v (List.mem_of_mem_take (List.mem_of_mem_drop (List.mem_of_mem_take (List.mem_of_mem_drop hv))))) (fun q v hv=>?_) h)
     rw [cell_of_heap hc]
     rw [List.getElem?_drop,List.getElem?_take] at hv
     split at hv
     ·rw [List.getElem?_drop,List.getElem?_take] at hv
      split at hv
      ·rw [<- hv];congr 1;omega
      ·cases hv
     ·cases hv
   ·cases h
  ·cases h
 ·rename_i fl es j k
  rw [Option.bind_eq_some_iff] at h
  obtain ⟨row,hrow,h⟩:=h
  obtain ⟨b,o,sz,rfl,_,hl⟩:=ha
  obtain ⟨_,hr⟩:=RLL_iff.1 hl j row hrow
  have:∃ xs:List Value,RL C row xs/\(∀ v∈xs,v.oneCell'=true)/\∀ q v,xs[q]?=some v->C.w.cell? ⟨b,o+j * sz+q,none⟩=some v:=by
   obtain ⟨xs,_,e1,e2,e3⟩:=RLL_cells (C:=C) (b:=b) (sz:=row.length) (l:=[row]) (o:=o+j * sz) ⟨rfl,hr,trivial⟩
   exact ⟨xs,by simpa using e1,e2,e3⟩
  obtain ⟨xs,e1,e2,e3⟩:=this
  refine fin rfl (load_at hu hag hn (RL_drop e1 k) (fun v hv=>e2 v (List.mem_of_mem_drop hv)) (fun q v hv=>?_) h)
  rw [List.getElem?_drop] at hv
  have:=e3 _ v hv
  rwa [show o+j * sz+(k+q)=o+j * sz+k+q by omega] at this
 ·cases h

end
end Go.AM
namespace Go.AM
section
variable {P:Program} {C:Ctx} {H:Heap}

theorem RL_over {cs vs:List AVal} {xs ys:List Value} (h:RL C cs xs) (k:RL C vs ys) (n:Nat):RL C (over cs n vs) (xs.take n++ys++xs.drop (n+ys.length)):=by
 unfold over
 rw [RL_length k]
 exact RL_append (RL_append (RL_take h n) k) (RL_drop h _)

theorem over_length {cs vs:List AVal} {k:Nat} (h:k+vs.length<=cs.length):(over cs k vs).length=cs.length:=by
 unfold over;simp;omega

theorem flatten_set {sz:Nat}:∀ {es:List (List AVal)} {j:Nat} {r r':List AVal},(∀ r∈es,r.length=sz)->es[j]?=some r->r'.length=sz ->
  (es.set j r').flatten=es.flatten.take (j * sz)++r'++es.flatten.drop (j * sz+sz)
 | [],j,r,r',_,h,_=>by simp at h
 | c::s,0,r,r',hl,h,h'=>by
  have:=hl c (by simp)
  simp [List.drop_append,this,List.drop_eq_nil_of_le (Nat.le_of_eq this)]
 | c :: s,j+1,r,r',hl,h,h'=>by
  have hc:=hl c (by simp)
  have:=flatten_set (es:=s) (j:=j) (r:=r) (r':=r') (fun r hr=>hl r (by simp [hr])) (by simpa using h) h'
  have e1:(c++s.flatten).take ((j+1) * sz)=c++s.flatten.take (j * sz):=by
   rw [List.take_append,List.take_of_length_le (l:=c) (by rw [hc,Nat.succ_mul];omega),show (j+1) * sz - c.length=j * sz by rw [Nat.succ_mul];omega]
  have e2:(c++s.flatten).drop ((j+1) * sz+sz)=s.flatten.drop (j * sz+sz):=by
   rw [List.drop_append,List.drop_eq_nil_of_le (as:=c) (by rw [hc,Nat.succ_mul];omega),show (j+1) * sz+sz - c.length=j * sz+sz by rw [Nat.succ_mul];omega];rfl
  rw [List.set_cons_succ,List.flatten_cons,this,List.flatten_cons,e1,e2]
  simp

theorem flatLL_set {es:List (List AVal)} {j:Nat} {r:List AVal} (h:flatLL es=true) (hr:flatL r=true):flatLL (es.set j r)=true:=by
 induction es generalizing j with
 | nil=>rfl
 | cons c s ih =>
  rw [flatLL,Bool.and_eq_true] at h
  cases j with
  | zero=>rw [List.set_cons_zero,flatLL,Bool.and_eq_true];exact ⟨hr,h.2⟩
  | succ j=>rw [List.set_cons_succ,flatLL,Bool.and_eq_true];exact ⟨h.1,ih h.2⟩
theorem flatL_append {a b:List AVal}:flatL (a++b)=(flatL a && flatL b):=by
 induction a with
 | nil=>simp [flatL]
 | cons x r ih=>simp [flatL,ih,Bool.and_assoc]
theorem flatL_take {a:List AVal} (h:flatL a=true) (n:Nat):flatL (a.take n)=true:=by
 have:=flatL_append (a:=a.take n) (b:=a.drop n)
 rw [List.take_append_drop,h] at this
 simp at this;exact this.1
theorem flatL_drop {a:List AVal} (h:flatL a=true) (n:Nat):flatL (a.drop n)=true:=by
 have:=flatL_append (a:=a.take n) (b:=a.drop n)
 rw [List.take_append_drop,h] at this
 simp at this;exact this.2
theorem flatLL_append {a b:List (List AVal)}:flatLL (a++b)=(flatLL a && flatLL b):=by
 induction a with
 | nil=>simp [flatLL]
 | cons x r ih=>simp [flatLL,ih,Bool.and_assoc]
theorem flatLL_take {a:List (List AVal)} (h:flatLL a=true) (n:Nat):flatLL (a.take n)=true:=by
 have:=flatLL_append (a:=a.take n) (b:=a.drop n)
 rw [List.take_append_drop,h] at this
 simp at this;exact this.1
theorem flatLL_drop {a:List (List AVal)} (h:flatLL a=true) (n:Nat):flatLL (a.drop n)=true:=by
 have:=flatLL_append (a:=a.take n) (b:=a.drop n)
 rw [List.take_append_drop,h] at this
 simp at this;exact this.2
theorem flatLL_mem {es:List (List AVal)} {r:List AVal} (h:flatLL es=true) (hr:r∈es):flatL r=true:=by
 induction es with
 | nil=>cases hr
 | cons c s ih =>
  rw [flatLL,Bool.and_eq_true] at h
  rcases List.mem_cons.1 hr with rfl | hr
  ·exact h.1
  ·exact ih h.2 hr

def Ctx.row (C:Ctx) (b:Nat) (cs:Array Value):Ctx:={ C with w:=C.w.setRow b cs }

theorem run_storeVar {t:TypeId} {d:TypeDesc} {b o:Nat} {x:Value} {cur:Array Value} {ty:TypeId} (hu:P.underlying t=some d) (hn:x.cells.size=P.cellsOf t)
  (hb:C.w.heap[b]?=some (.cells cur ty (0,0))) (hl:o+x.cells.size<=cur.size) (h1:∀ v∈x.cells.toList,v.oneCell'=true) :
  (storeVar t ⟨b,o,none⟩ x).run P C.w=.ok () (C.w.setRow b (cur.toList.take o++x.cells.toList++cur.toList.drop (o+x.cells.toList.length)).toArray):=by
 unfold storeVar
 simp only [Sem.run_bind,run_sizeOf hu,Result.andThen_ok,hn,ne_eq,not_true,if_false]
 have:=run_storeCells_at (P:=P) b o ty x.cells.toList 0 cur C.w hb (by simpa using hl) h1
 simpa [hn] using this

theorem sim_store {t:TypeId} {d:TypeDesc} {n:Nat} {a:AVal} {vs:List AVal} {p x:Value} {H':Heap} (hH:HR P C H) (hu:P.underlying t=some d) (hn:P.cellsOf t=n)
  (ha:RV C a p) (hx:RL C vs x.cells.toList) (h1:∀ v∈x.cells.toList,v.oneCell'=true) (h:putAt H n vs a=some H') :
  ∃ C',(Instr.storeAt t p x).run P C.w=.ok () C'.w/\HR P C' H'/\Nx C C':=by
 have hvl:=RL_length hx
 have hsz:x.cells.size=vs.length:=by simpa using hvl
 unfold putAt at h
 split at h
 ·rename_i i k
  split at h
  ·rename_i cs hi
   split at h
   ·rename_i hc
    obtain ⟨hvn,hkn⟩:=hc
    cases h
    obtain ⟨hs,c,ty,hb,hl,h1c,hF⟩:=hH.ent i _ hi
    obtain ⟨a,rfl,ha⟩:=ha
    rw [hs] at ha
    rcases ha with ha | ⟨_,rfl⟩
    ·cases ha
    ·have hcl:c.toList.length=cs.length:=RL_length hl
     have hrun:=run_storeVar (P:=P) (C:=C) (o:=k) hu (by rw [hsz,hvn,hn]) hb (by have:c.size=cs.length:=(by simpa using hcl);omega) h1
     refine ⟨C.row (C.ν i) (c.toList.take k++x.cells.toList++c.toList.drop (k+x.cells.toList.length)).toArray,?_,?_⟩
     ·simp only [Instr.storeAt,Instr.sureAddr,Sem.run_bind,Sem.run_pure,Result.andThen_ok]
      exact hrun
     ·refine hH.turn (s:=.box) (s':=.box) hi hs (by simp) (fun b hb'=>setRow_other _ _ _ _ hb') (setRow_size _ _ _) rfl ?_ (by simp) rfl (fun o hf=>absurd hf (hF o)) (.inl rfl) (fun N=>?_)
      ·funext j;by_cases hj:j=i
       ·subst hj;rw [upd_same];exact hs
       ·rw [upd_ne _ _ hj];rfl
      ·refine ⟨hs,_,ty,setRow_heap _ _ _ _ _ _ hb,?_,?_,hF⟩
       ·simp only []
        exact RL_id N.tr (fun _ _=>trivial) (by simpa using RL_over hl hx k)
       ·intro v hv
        simp only [List.mem_append] at hv
        rcases hv with (hv | hv) | hv
        ·exact h1c v (List.mem_of_mem_take hv)
        ·exact h1 v hv
        ·exact h1c v (List.mem_of_mem_drop hv)
   ·cases h
  ·cases h
 ·rename_i i len se j k
  split at h
  ·rename_i fl lck fu sz es hi
   split at h
   ·rename_i hc
    obtain ⟨hvn,hlen,hse,hlk,hfl⟩:=hc
    rw [Option.bind_eq_some_iff] at h
    obtain ⟨row,hrow,h⟩:=h
    split at h
    ·rename_i hkn
     cases h
     obtain ⟨c,ty,cp,hs,hb,hcsz,hcp,h0,hfull,hrows,hl,h1c,hflat,hF⟩:=hH.ent i _ hi
     obtain ⟨a,rfl,ha⟩:=ha
     rw [hs] at ha
     rcases ha with ha | ⟨cur,s,cp',e,_,ha⟩
     ·cases ha
     ·cases e
      have ha:=ha hlen.symm hse.symm
      subst ha
      subst hse
      have hrl:=hrows row (List.mem_of_getElem? hrow)
      have hjl:j<es.length:=(List.getElem?_eq_some_iff.1 hrow).1
      have hj1:j * sz+sz<=es.length * sz:=by rw [<- Nat.succ_mul];exact Nat.mul_le_mul_right _ hjl
      have hj2:es.length * sz<=cp * sz:=Nat.mul_le_mul_right _ hcp
      have hrun:=run_storeVar (P:=P) (C:=C) (o:=j * sz+k) hu (by rw [hsz,hvn,hn]) hb (by rw [hsz,hvn];omega) h1
      have hFz:∀ o,¬ C.Fz (C.ν i) o:=fun o ho=>by have:=(hF o ho).1;rw [hlk] at this;cases this
      refine ⟨C.row (C.ν i) (c.toList.take (j * sz+k)++x.cells.toList++c.toList.drop (j * sz+k+x.cells.toList.length)).toArray,?_,?_⟩
      ·simp only [Instr.storeAt,Instr.sureAddr,Sem.run_bind,Sem.run_pure,Result.andThen_ok]
       exact hrun
      ·have hcl:cp * sz<=c.toList.length:=by simpa using hcsz
       refine hH.turn (s:=.arr es.length sz cp) (s':=.arr es.length sz cp) hi hs (by simp) (fun b hb'=>setRow_other _ _ _ _ hb') (setRow_size _ _ _) rfl ?_ (by simp) rfl (fun o hf=>absurd hf (hFz o)) (.inl rfl) (fun N=>?_)
       ·funext q;by_cases hq:q=i
        ·subst hq;rw [upd_same];exact hs
        ·rw [upd_ne _ _ hq];rfl
       ·have hov:(over row k vs).length=sz:=by rw [over_length (by omega)];exact hrl
        refine ⟨_,ty,cp,by rw [List.length_set];exact hs,setRow_heap _ _ _ _ _ _ hb,?_,by rw [List.length_set];exact hcp,h0,fun e=>by rw [List.length_set];exact hfull e,?_,?_,?_,fun e=>flatLL_set (hflat e) ?_,fun o ho=>absurd ho (hFz o)⟩
        ·simp;omega
        ·intro r hr
         rcases List.mem_or_eq_of_mem_set hr with hr | rfl
         ·exact hrows r hr
         ·exact hov
        ·rw [List.length_set,flatten_set hrows hrow hov]
         have hrowx:=RL_take (RL_drop hl (j * sz)) sz
         rw [flatten_row hrows hrow] at hrowx
         have e1:=RL_append (RL_append (RL_take hl (j * sz)) (RL_over hrowx hx k)) (RL_drop hl (j * sz+sz))
         refine RL_id N.tr (fun _ _=>trivial) ?_
         have e2:((c.toList.take (j * sz+k)++x.cells.toList++c.toList.drop (j * sz+k+x.cells.toList.length)).toArray.toList.take (es.length * sz))
          = (c.toList.take (es.length * sz)).take (j * sz)++((((c.toList.take (es.length * sz)).drop (j * sz)).take sz).take k++x.cells.toList++(((c.toList.take (es.length * sz)).drop (j * sz)).take sz).drop (k+x.cells.toList.length))++(c.toList.take (es.length * sz)).drop (j * sz+sz):=by
          apply List.ext_getElem?
          intro q
          simp only [List.getElem?_append,List.getElem?_take,List.getElem?_drop,List.length_append,List.length_take,List.length_drop,hcl,hvl,hvn]
          grind
         rw [e2]
         exact e1
        ·intro v hv
         simp only [List.mem_append] at hv
         rcases hv with (hv | hv) | hv
         ·exact h1c v (List.mem_of_mem_take hv)
         ·exact h1 v hv
         ·exact h1c v (List.mem_of_mem_drop hv)
        ·unfold over
         rw [flatL_append,flatL_append,Bool.and_eq_true,Bool.and_eq_true]
         have:=flatLL_mem (hflat e) (List.mem_of_getElem? hrow)
         exact ⟨⟨flatL_take this _,hfl e⟩,flatL_drop this _⟩
    ·cases h
   ·cases h
  ·cases h
 ·cases h
end
end Go.AM
namespace Go.AM
section
variable {P:Program} {C C':Ctx} {H:Heap}

theorem HR.gen (h:HR P C H) (D:Nat->Prop) {H':Heap} (hH:∀ j,¬ D j->H'[j]?=H[j]?) (hout:∀ j,H'.length<=j->C'.sh j=none)
  (hsame:∀ j,¬ D j->C'.sh j=C.sh j/\C'.ν j=C.ν j)
  (hblk:∀ j s,¬ D j->C.sh j=some s->s≠.dead->C'.w.heap[C.ν j]?=C.w.heap[C.ν j]?)
  (hF:C'.Fz=C.Fz) (hfz:∀ b o,C.Fz b o->C'.w.cell? ⟨b,o,none⟩=C.w.cell? ⟨b,o,none⟩) (hsz:C.w.heap.size<=C'.w.heap.size)
  (hframe:∀ b,b<C.w.heap.size->(∀ i s,C.sh i=some s->s≠.dead->C.ν i≠b)->C'.w.heap[b]?=C.w.heap[b]?)
  (hD:∀ j s,D j->C'.sh j=some s->s≠.dead->C.w.heap.size<=C'.ν j∨∃ i s,D i/\C.sh i=some s/\s≠.dead/\C.ν i=C'.ν j)
  (hDi:∀ j k s s',D j->D k->C'.sh j=some s->s≠.dead->C'.sh k=some s'->s'≠.dead->C'.ν j=C'.ν k->j=k)
  (hsh:∀ j s,D j->C.sh j=some s->C'.sh j=some .dead∨(C'.sh j=some s/\C'.ν j=C.ν j)∨(∃ len sz cp len' cp',s=.arr len sz cp/\C'.sh j=some (.arr len' sz cp')/\len<len'))
  (he:Nx C C'->∀ j e,D j->H'[j]?=some e->RE P C' j e) (env:Env C.w C'.w:=by first | exact Env.refl _ | exact Env.alloc _ _ _ | exact Env.drewAlloc _ _ _ | exact Env.setRow _ _ _ | assumption):HR P C' H'/\Nx C C':=by
 have T:Tr C C' id (fun _=>True):=by
  refine ⟨fun b o hf=>⟨by rw [hF];exact hf,hfz b o hf⟩,fun j u _ hu=>?_⟩
  simp only [id]
  by_cases hj:D j
  ·exact hsh j u hj hu
  ·obtain ⟨h1,h2⟩:=hsame j hj
   exact .inr (.inl ⟨h1.trans hu,h2⟩)
 have N:Nx C C':=by
  refine ⟨T,hsz,hframe,fun j u hu hd hlt=>?_,env,fun b o hf=>.inl (by rw [<- hF];exact hf)⟩
  by_cases hj:D j
  ·rcases hD j u hj hu hd with h1 | ⟨i,s,_,h2,h3,h4⟩
   ·omega
   ·exact ⟨i,s,h2,h3,h4⟩
  ·obtain ⟨h1,h2⟩:=hsame j hj
   exact ⟨j,u,h1 ▸ hu,hd,h2.symm⟩
 refine ⟨⟨fun j e hj=>?_,hout,fun j k u u' hj hd1 hk hd2 e2=>?_,fun b o hf=>?_⟩,N⟩
 ·by_cases hdj:D j
  ·exact he N j e hdj hj
  ·rw [hH j hdj] at hj
   have h1:=h.ent j e hj
   obtain ⟨cp,hsj⟩:=h1.shape
   obtain ⟨e1,e2⟩:=hsame j hdj
   have h2:=RE_tr T h1 (fun _ _=>trivial) e1 e2 (fun hd2=>hblk j _ hdj hsj (fun e=>hd2 (by rw [hsj,e]))) (fun o _ hf=>by rw [<- hF];exact hf)
   rwa [renE_id] at h2
 ·by_cases h1:D j<;>by_cases h2:D k
  ·exact hDi j k u u' h1 h2 hj hd1 hk hd2 e2
  ·obtain ⟨k1,k2⟩:=hsame k h2
   rw [k1] at hk
   rw [k2] at e2
   rcases hD j u h1 hj hd1 with h3 | ⟨i,s,h3,h4,h5,h6⟩
   ·have:=h.block hk hd2;omega
   ·have:=h.inj i k s u' h4 h5 hk hd2 (h6.trans e2)
    subst this
    exact absurd h3 h2
  ·obtain ⟨k1,k2⟩:=hsame j h1
   rw [k1] at hj
   rw [k2] at e2
   rcases hD k u' h2 hk hd2 with h3 | ⟨i,s,h3,h4,h5,h6⟩
   ·have:=h.block hj hd1;omega
   ·have:=h.inj i j s u h4 h5 hj hd1 (h6.trans e2.symm)
    subst this
    exact absurd h3 h1
  ·obtain ⟨j1,j2⟩:=hsame j h1
   obtain ⟨k1,k2⟩:=hsame k h2
   rw [j1] at hj;rw [k1] at hk;rw [j2,k2] at e2
   exact h.inj j k u u' hj hd1 hk hd2 e2
 ·rw [hF] at hf
  have:=h.low b o hf
  omega


theorem take_flatten {sz:Nat}:∀ {es:List (List AVal)} (n:Nat),(∀ r∈es,r.length=sz)->(es.take n).flatten=es.flatten.take (n * sz)
 | [],n,_=>by simp
 | c::s,0,_=>by simp
 | c :: s,n+1,hl=>by
  have hc:=hl c (by simp)
  rw [List.take_succ_cons,List.flatten_cons,take_flatten n (fun r hr=>hl r (by simp [hr])),List.flatten_cons,List.take_append,
   List.take_of_length_le (l:=c) (by rw [hc,Nat.succ_mul];omega),show (n+1) * sz - c.length=n * sz by rw [Nat.succ_mul];omega]
theorem drop_flatten {sz:Nat}:∀ {es:List (List AVal)} (n:Nat),(∀ r∈es,r.length=sz)->(es.drop n).flatten=es.flatten.drop (n * sz)
 | [],n,_=>by simp
 | c::s,0,_=>by simp
 | c :: s,n+1,hl=>by
  have hc:=hl c (by simp)
  rw [List.drop_succ_cons,drop_flatten n (fun r hr=>hl r (by simp [hr])),List.flatten_cons,List.drop_append,
   List.drop_eq_nil_of_le (as:=c) (by rw [hc,Nat.succ_mul];omega),show (n+1) * sz - c.length=n * sz by rw [Nat.succ_mul];omega];rfl
theorem chunks_flatten {sz:Nat}:∀ (n:Nat) (cs:List AVal),n * sz<=cs.length->(chunks cs sz n).flatten=cs.take (n * sz)
 | 0,cs,_=>by simp [chunks]
 | n+1,cs,h=>by
  rw [Nat.succ_mul] at h
  rw [chunks,List.flatten_cons,chunks_flatten n (cs.drop sz) (by simp;omega),Nat.succ_mul,Nat.add_comm,List.take_add]
theorem chunks_length {sz:Nat}:∀ (n:Nat) (cs:List AVal),(chunks cs sz n).length=n
 | 0,cs=>rfl
 | n+1,cs=>by rw [chunks,List.length_cons,chunks_length n]
theorem flatLL_flatten:∀ es:List (List AVal),flatLL es=flatL es.flatten
 | []=>rfl
 | c::r=>by rw [flatLL,List.flatten_cons,flatL_append,flatLL_flatten r]

theorem content_rel {a:AVal} {x:Value} {fl:Bool} {es:List (List AVal)} {sz:Nat} (hH:HR P C H) (hx:RV C a x) (h:content H a=some (fl,es)) (hr:rowsOk sz es=true) :
  ∃ (ad:Option Addr) (c:Nat) (xs:List Value),x=.slice ad es.length c/\es.length<=c/\(ad=none->es=[])/\xs.length=es.length * sz/\RL C es.flatten xs/\(∀ v∈xs,v.oneCell'=true) /\
   (∀ b,ad=some b->∀ j v,xs[j]?=some v->C.w.cell? (b.add j)=some v)/\(fl=true->flatLL es=true):=by
 have hrows:∀ r∈es,r.length=sz:=fun r hm=>by
  have:=List.all_eq_true.1 hr r hm
  simpa using this
 unfold content at h
 split at h
 ·cases h
  obtain ⟨ad,c,rfl,h1,_,h3,h4,h5,h6⟩:=hx
  cases ad with
  | none =>
   have hn:es=[]:=by
    rw [Option.isNone_none] at h3
    have:=h4 h3
    exact List.length_eq_zero_iff.1 (by omega)
   subst hn
   exact ⟨none,c,[],rfl,h1,fun _=>rfl,by simp,rfl,by simp,by simp,h5⟩
  | some b =>
   by_cases hne:es=[]
   ·subst hne
    exact ⟨some b,c,[],rfl,h1,by simp,by simp,rfl,by simp,by simp,h5⟩
   obtain ⟨hsp,sz',hl⟩:=h6 b rfl hne
   obtain ⟨xs,e1,e2,e3,e4⟩:=RLL_cells hl
   have hb:b=⟨b.block,b.off,none⟩:=by cases b;simp_all
   refine ⟨some b,c,xs,rfl,h1,by simp,?_,e2,e3,fun b' e=>?_,h5⟩
   ·have:=RL_length e2
    rw [this,flatten_length hrows]
   ·cases e
    intro j v hv
    rw [hb,addr_add];exact e4 j v hv
 ·rename_i i len so off n
  split at h
  ·rename_i fe lk fu se es0 hi
   split at h
   ·rename_i hc
    obtain ⟨hlen,hse⟩:=hc
    subst hlen
    cases h
    obtain ⟨cells,ty,cp,hs,hb,hcsz,hcp,h0,_,hrows0,hl,h1c,hflat,_⟩:=hH.ent i _ hi
    obtain ⟨a,c,rfl,hn,ha⟩:=hx
    rw [hs] at ha
    rcases ha with ha | ⟨cur,s,cp',e,_,ha⟩
    ·cases ha
    ·cases e
     obtain ⟨k1,k2,k3⟩:=ha rfl hse.symm
     subst hse
     have hlen2:((es0.take (off+n)).drop off).length=n:=by simp;omega
     have hfl2:((es0.take (off+n)).drop off).flatten=(es0.flatten.take ((off+n) * se)).drop (off * se):=by
      rw [drop_flatten (sz:=se) off (fun r hr=>hrows0 r (List.mem_of_mem_take hr)),take_flatten _ hrows0]
     have hnn:n * se<=((off+n) * se) - off * se:=by rw [Nat.add_mul];omega
     have hoff:(off+n) * se<=es0.length * se:=Nat.mul_le_mul_right _ k1
     have hcpm:es0.length * se<=cp * se:=Nat.mul_le_mul_right _ hcp
     have hcl:cp * se<=cells.toList.length:=by simpa using hcsz
     have hx2:=RL_drop (RL_take hl ((off+n) * se)) (off * se)
     rw [<- hfl2] at hx2
     refine ⟨some a,c,_,by rw [hlen2],by rw [hlen2];exact hn,by simp,?_,hx2,fun v hv=>h1c v (List.mem_of_mem_take (List.mem_of_mem_take (List.mem_of_mem_drop hv))),fun b e=>?_,fun e=>flatLL_drop (flatLL_take (hflat e) _) _⟩
     ·by_cases hz:(es0.take (off+n)).drop off=[]
      ·have hn0:n=0:=by rw [<- hlen2,hz];rfl
       subst hn0
       simp
      ·obtain ⟨r,hr⟩:=List.exists_mem_of_ne_nil _ hz
       have e1:=hrows r hr
       have e2:=hrows0 r (List.mem_of_mem_take (List.mem_of_mem_drop hr))
       have hss:sz=se:=by omega
       rw [hss,hlen2]
       simp only [List.length_drop,List.length_take,hcl]
       rw [Nat.add_mul] at hoff ⊢
       omega
     ·cases e
      intro j v hv
      rcases k3 with k3 | k3
      ·subst k3
       have:n=0:=by omega
       subst this
       have:=(List.getElem?_eq_some_iff.1 hv).1
       simp at this
      ·subst k3
       rw [addr_add,cell_of_heap hb]
       rw [List.getElem?_drop,List.getElem?_take] at hv
       split at hv
       ·rw [List.getElem?_take] at hv
        split at hv
        ·exact hv
        ·cases hv
       ·cases hv
   ·cases h
  ·cases h
 ·rename_i i k sa n
  split at h
  ·rename_i cs hi
   split at h
   ·rename_i hk
    cases h
    obtain ⟨hs,cells,ty,hb,hl,h1c,_⟩:=hH.ent i _ hi
    obtain ⟨a,c,rfl,hn,ha⟩:=hx
    rw [hs] at ha
    rcases ha with ha | ⟨_,ha⟩
    ·cases ha
    ·have hcl:cells.toList.length=cs.length:=RL_length hl
     have hf:(chunks (cs.drop k) sa n).flatten=(cs.drop k).take (n * sa):=chunks_flatten n _ (by simp;omega)
     have hx2:=RL_take (RL_drop hl k) (n * sa)
     rw [<- hf] at hx2
     refine ⟨some a,c,_,by rw [chunks_length],by rw [chunks_length];exact hn,by simp,?_,hx2,fun v hv=>h1c v (List.mem_of_mem_drop (List.mem_of_mem_take hv)),fun b e=>?_,fun e=>by rw [flatLL_flatten,hf];exact flatL_take (flatL_drop e k) _⟩
     ·have:=RL_length hx2
      rw [this,flatten_length hrows]
     ·cases e
      intro j v hv
      rcases ha with ha | ha
      ·subst ha
       have:n=0:=by omega
       subst this
       simp at hv
      ·subst ha
       rw [addr_add,cell_of_heap hb]
       rw [List.getElem?_take] at hv
       split at hv
       ·rwa [List.getElem?_drop] at hv
       ·cases hv
   ·cases h
  ·cases h
 ·cases h
end
end Go.AM
namespace Go.AM
section
variable {P:Program} {C C':Ctx} {H:Heap}

theorem growBy_le (n:Nat):∀ (r c:Nat),Builtin.growBy n r c<=max c (n+(n+768) / 4)
 | 0,c=>by simp only [Builtin.growBy];omega
 | r + 1,c=>by
  simp only [Builtin.growBy]
  split
  ·omega
  ·have:=growBy_le n r (c+(c+768) / 4)
   omega
theorem nextslicecap_le {need old:Nat} (h:old<need):Builtin.nextslicecap need old<=2 * need:=by
 unfold Builtin.nextslicecap
 split
 ·omega
 ·split
  ·omega
  ·have:=growBy_le need 4 old
   omega

theorem fits {need old bytes:Nat} (h:old<need) (hb:need * bytes<=2 ^ 46):¬ (281474976710656<Builtin.nextslicecap need old * bytes):=by
 have h1:=Nat.mul_le_mul_right bytes (nextslicecap_le h)
 have h2:2 * need * bytes=2 * (need * bytes):=Nat.mul_assoc _ _ _
 omega

section
variable (w:World) {t xt ty e:TypeId} {i:TypeInfo} {d:TypeDesc} (ht:P.underlying t=some (.slice e)) (hi:P.info? e=some i) (hxt:P.underlying xt=some d) (hd:∀ k,d≠.int k)
include ht hi hxt hd

theorem run_append_in {base:Option Addr} {sLen sCap n:Nat} {x:Value} {news:Array Value} (hlen:(Builtin.lenOf x).run P w=.ok n w) (hnews:(Builtin.firstCells i.size n x).run P w=.ok news w) (hroom:sLen+n<=sCap) :
  (Builtin.append_ #[t,xt] ty #[.slice base sLen sCap,x]).run P w =
   (match base with | some a=>(storeCells (a.add (sLen * i.size)) news.toList).run P w | none=>.ok () w).andThen fun _ w'=>.ok (.slice base (sLen+n) sCap) w':=by
 have hm:(match d with | .int _=>true | _=>false)=false:=by cases d<;>first | rfl | exact absurd rfl (hd _)
 cases base with
 | none=>simp [Builtin.append_,run_underlying ht,run_underlying hxt,hm,sizeOf,typeInfo,hi,hlen,hnews,hroom]
 | some a=>simp [Builtin.append_,run_underlying ht,run_underlying hxt,hm,sizeOf,typeInfo,hi,hlen,hnews,hroom]

theorem run_append_new {z:Value} (hz:i.zero=some z) {base:Option Addr} {sLen sCap n:Nat} {x:Value} {olds news:Array Value} (hlen:∀ w,(Builtin.lenOf x).run P w=.ok n w)
  (holds:(Builtin.firstCells i.size sLen (.slice base sLen sCap)).run P w.drew=.ok olds w.drew) (hnews:(Builtin.firstCells i.size n x).run P w.drew=.ok news w.drew) (hroom:sCap<sLen+n)
  (hb:(sLen+n) * i.bytes<=2 ^ 46) (hn:(sLen+n)<=2 ^ 46) :
  (Builtin.append_ #[t,xt] ty #[.slice base sLen sCap,x]).run P w =
   .ok (.slice (some ⟨w.heap.size,0,none⟩) (sLen+n) (grownCap w (sLen+n) sCap e))
    (w.drew.alloc (.cells (olds++news++Builtin.zeroCells z.cells (grownCap w (sLen+n) sCap e - (sLen+n))) e)):=by
 have hm:(match d with | .int _=>true | _=>false)=false:=by cases d<;>first | rfl | exact absurd rfl (hd _)
 have hn':¬ (sLen+n<=sCap):=by omega
 have h63':¬ (9223372036854775807<((sLen:Int)+(n:Int))):=by omega
 have h48':=fits hroom hb
 simp [Builtin.append_,run_underlying ht,run_underlying hxt,hm,sizeOf,typeInfo,zeroValue,hi,hz,hlen,hn',h63',h48',Question.forced,hnews,holds,newRow,grownCap]
end


theorem alloc_new (w:World) (o:Obj):(w.drew.alloc o).heap[w.heap.size]?=some o:=by
 show (w.heap.push o)[w.heap.size]?=some o
 simp
theorem alloc_old (w:World) (o:Obj) {b:Nat} (h:b<w.heap.size):(w.drew.alloc o).heap[b]?=w.heap[b]?:=by
 show (w.heap.push o)[b]?=w.heap[b]?
 rw [Array.getElem?_push,if_neg (by omega)]
theorem alloc_size (w:World) (o:Obj):w.heap.size<=(w.drew.alloc o).heap.size:=by
 show w.heap.size<=(w.heap.push o).size
 simp

structure Adds (P:Program) (w:World) (e:TypeId) (sz bytes n:Nat) (news:List Value) (app:Value->Sem Value):Prop where
 room:∀ base sLen sCap,sLen+n<=sCap->(app (.slice base sLen sCap)).run P w =
  (match base with | some a=>(storeCells (a.add (sLen * sz)) news).run P w | none=>.ok () w).andThen fun _ w'=>.ok (.slice base (sLen+n) sCap) w'
 new : ∀ base sLen sCap olds,(Builtin.firstCells sz sLen (.slice base sLen sCap)).run P w.drew=.ok olds w.drew->sCap<sLen+n->(sLen+n) * bytes<=2 ^ 46 ->
  ∃ cp zs,sLen+n<=cp/\zs.size=(cp - (sLen+n)) * sz/\(∀ v∈zs.toList,v.oneCell'=true) /\
   (app (.slice base sLen sCap)).run P w=.ok (.slice (some ⟨w.heap.size,0,none⟩) (sLen+n) cp) (w.drew.alloc (.cells (olds++news.toArray++zs) e))

theorem firstCells_of {ad:Option Addr} {n c sz:Nat} {xs:List Value} (hn:ad=none->xs=[]) (hl:xs.length=n * sz) (hc:∀ b,ad=some b->∀ j v,xs[j]?=some v->C.w.cell? (b.add j)=some v)
  (w:World) (hw:w.heap=C.w.heap):(Builtin.firstCells sz n (.slice ad n c)).run P w=.ok xs.toArray w:=by
 cases ad with
 | none=>rw [hn rfl];rfl
 | some b =>
  simp only [Builtin.firstCells]
  rw [<- hl]
  exact run_loadCells_list w b xs fun j v hv=>by
   have:=hc b rfl j v hv
   simpa [World.cell?,hw] using this

theorem rowsOk_of {sz:Nat} {es:List (List AVal)} (h:∀ r∈es,r.length=sz):rowsOk sz es=true:=by
 unfold rowsOk;rw [List.all_eq_true];intro r hr;simpa using h r hr
theorem rows_of {sz:Nat} {es:List (List AVal)} (h:rowsOk sz es=true):∀ r∈es,r.length=sz:=fun r hr=>by
 unfold rowsOk at h;rw [List.all_eq_true] at h;simpa using h r hr

theorem sim_add {fl fx:Bool} {sz bytes:Nat} {s v:AVal} {rs:Value} {ys:List (List AVal)} {H':Heap} {e:TypeId} {news:List Value} {app:Value->Sem Value} (hH:HR P C H) (h0:0<sz)
    (hA:Adds P C.w e sz bytes ys.length news app) (hnl:news.length=ys.length * sz) (hnews:RL C ys.flatten news) (hn1:∀ v∈news,v.oneCell'=true) (hfx:fx=true->flatLL ys=true)
    (hs:RV C s rs) (h:aadd fl sz bytes H s fx ys=some (v,H')):∃ C' r,(app rs).run P C.w=.ok r C'.w/\HR P C' H'/\Nx C C'/\RV C' v r:=by
  unfold aadd at h
  split at h
  · cases h
  · rename_i hpre
    have hrows:rowsOk sz ys=true:=by
      cases hr:rowsOk sz ys with
      | true=>rfl
      | false=>simp [hr] at hpre
    have hyr:=rows_of hrows
    have hflx:fl=true->fx=true:=fun e=>by
      cases fx with
      | true=>rfl
      | false=>simp [e] at hpre
    -- nothing is appended
    have none':ys.length=0->∀ {base sLen sCap},rs=.slice base sLen sCap->sLen<=sCap->(v,H')=(s,H)->∃ C' r,(app rs).run P C.w=.ok r C'.w/\HR P C' H'/\Nx C C'/\RV C' v r:=by
      intro hy base sLen sCap e hle e'
      cases e'
      refine ⟨C,rs,?_,hH,Nx.refl C,hs⟩
      rw [e,hA.room base sLen sCap (by omega)]
      have:news=[]:=List.length_eq_zero_iff.1 (by rw [hnl,hy];simp)
      rw [this,hy]
      cases base<;>rfl
    split at h
    · rename_i n full fs es
      obtain ⟨ad,c,hrs,h1,h2,h3,h4,h5,h6⟩:=id hs
      split at h
      · rename_i hy
        exact none' hy hrs h1 (Option.some.inj h).symm
      · rename_i hy
        split at h
        · cases h
        · rename_i hc
          cases h
          have hfull:full=true:=by cases full<;>simp_all
          have hrow:rowsOk sz es=true:=by
            cases hr:rowsOk sz es with
            | true=>rfl
            | false=>simp [hr] at hc
          have hbytes:(es.length+ys.length) * bytes<=2 ^ 46:=by
            simp only [Bool.or_eq_true,decide_eq_true_eq,not_or] at hc
            omega
          have hflat:fl=true->flatLL es=true:=fun e=>h5 (by cases fs<;>simp_all)
          obtain ⟨ad',c',xs,e1,e2,e3,e4,e5,e6,e7,_⟩:=content_rel (a:=.imm n full fs es) (fl:=fs) (es:=es) (sz:=sz) hH hs rfl hrow
          rw [hrs] at e1
          cases e1
          have hcap:=h2 hfull
          subst hcap
          have hfc:=firstCells_of (P:=P) (C:=C) (ad:=ad) (n:=es.length) (c:=es.length) (sz:=sz) (fun e=>by have:=e3 e;rw [this] at e4;exact List.length_eq_zero_iff.1 (by simpa using e4)) e4 e7 C.w.drew rfl
          obtain ⟨cp,zs,k1,k2,k3,k4⟩:=hA.new ad es.length es.length xs.toArray hfc (by omega) hbytes
          let C':Ctx:={ ν:=upd C.ν H.length C.w.heap.size,sh:=upd C.sh H.length (some (.arr (es.length+ys.length) sz cp)),Fz:=C.Fz,w:=C.w.drew.alloc (.cells (xs.toArray++news.toArray++zs) e) }
          have hp:=hH.push (C':=C') (o:=.cells (xs.toArray++news.toArray++zs) e) (e:=.arr fl false false sz (es++ys)) (s:=.arr (es.length+ys.length) sz cp) rfl rfl rfl rfl (fun N=>by
            refine ⟨_,e,cp,by simp [C',upd_same],by simp only [C',upd_same];exact alloc_new _ _,?_,by simpa using k1,h0,(fun e=>by cases e),?_,?_,?_,?_,?_⟩
            · simp only [Array.size_append,k2,List.size_toArray,e4,hnl,Nat.sub_mul,Nat.add_mul]
              have:=Nat.mul_le_mul_right sz k1
              rw [Nat.add_mul] at this
              omega
            · intro r hr
              rcases List.mem_append.1 hr with hr | hr
              · exact rows_of hrow r hr
              · exact hyr r hr
            · have e8:(es++ys).length * sz=xs.length+news.length:=by rw [List.length_append,Nat.add_mul,e4,hnl]
              rw [e8]
              simp only [Array.toList_append,List.append_assoc,List.flatten_append]
              rw [<- List.append_assoc,List.take_append_of_le_length (by simp),List.take_of_length_le (by simp)]
              exact RL_append (RL_id N.tr (fun _ _=>trivial) e5) (RL_id N.tr (fun _ _=>trivial) hnews)
            · intro v hv
              simp only [Array.toList_append,List.mem_append] at hv
              rcases hv with (hv | hv) | hv
              · exact e6 v hv
              · exact hn1 v hv
              · exact k3 v hv
            · intro e
              rw [flatLL_append,hflat e,hfx (hflx e)];rfl
            · intro o ho
              simp only [C',upd_same] at ho
              exact absurd (hH.low _ _ ho) (Nat.lt_irrefl _))
          refine ⟨C',_,by rw [hrs];exact k4,hp.1,hp.2,⟨_,cp,rfl,k1,.inr ⟨_,sz,cp,by simp [C',upd_same],Nat.le_refl _,fun _ _=>⟨by omega,by omega,.inr (by simp [C',upd_same])⟩⟩⟩⟩
    · rename_i i len so off n
      split at h
      · rename_i fe lck fu se es hi
        split at h
        · rename_i hc
          obtain ⟨hlen,hso,hoff,hnl2,hse,hfe⟩:=hc
          subst hoff
          obtain ⟨a,c,hrs,hnc,ha⟩:=id hs
          obtain ⟨cells,ty,cp,hsh,hb,hcsz,hcp,_,hfull,hrows0,hl,h1c,hflat,hF⟩:=hH.ent i _ hi
          rw [hsh] at ha
          rcases ha with ha | ⟨cur,s2,cp2,e1,_,ha⟩
          · cases ha
          · cases e1
            obtain ⟨k1,k2,k3⟩:=ha hlen.symm (hso.trans hse.symm)
            subst hlen hso
            subst hse
            subst hfe
            split at h
            · rename_i hy
              exact none' hy hrs hnc (Option.some.inj h).symm
            · rename_i hy
              split at h
              · cases h
              · rename_i hbytes
                have hbytes:(n+ys.length) * bytes<=2 ^ 46:=by omega
                have hcl:cp * se<=cells.toList.length:=by simpa using hcsz
                have hcpm:es.length * se<=cp * se:=Nat.mul_le_mul_right _ hcp
                have hnm:n * se<=es.length * se:=Nat.mul_le_mul_right _ hnl2
                obtain ⟨ad',c',xs,e1,e2,e3,e4,e5,e6,e7,_⟩:=content_rel (a:=.own i es.length se 0 n) (fl:=fe) (es:=(es.take (0+n)).drop 0) (sz:=se) hH hs (by simp [content,hi]) (rowsOk_of fun r hr=>hrows0 r (List.mem_of_mem_take (List.mem_of_mem_drop hr)))
                rw [hrs] at e1
                have hln:((es.take (0+n)).drop 0).length=n:=by simp;omega
                rw [hln] at e1 e4
                cases e1
                have hfc:=firstCells_of (P:=P) (C:=C) (ad:=some a) (n:=n) (c:=c) (sz:=se) (by simp) e4 e7 C.w.drew rfl
                have hfl3:((es.take (0+n)).drop 0)=es.take n:=by simp
                rw [hfl3] at e5
                -- the flat rows of the new entry
                have hflat2:fe=true->flatLL (es.take n++ys)=true:=fun e=>by rw [flatLL_append,flatLL_take (hflat e),hfx (hflx e)];rfl
                have hrows2:∀ r∈es.take n++ys,r.length=se:=fun r hr=>by
                  rcases List.mem_append.1 hr with hr | hr
                  · exact hrows0 r (List.mem_of_mem_take hr)
                  · exact hyr r hr
                have hlen2:(es.take n++ys).length=n+ys.length:=by simp;omega
                by_cases hroom:n+ys.length<=c
                · -- there is room
                  have hA1:=hA.room (some a) n c hroom
                  have ha2:a=⟨C.ν i,0,none⟩:=by
                    rcases k3 with k3 | k3
                    · omega
                    · simpa using k3
                  subst ha2
                  have hroomm:(n+ys.length) * se<=cp * se:=Nat.mul_le_mul_right _ (by omega)
                  rw [Nat.add_mul] at hroomm
                  have hst:=run_storeCells_at (P:=P) (C.ν i) (n * se) ty news 0 cells C.w hb (by have:cp * se<=cells.size:=hcsz;omega) hn1
                  simp only [addr_add,Nat.zero_add,Nat.add_zero] at hst hA1
                  rw [hst,Result.andThen_ok] at hA1
                  rw [hrs]
                  have hcell:∀ o,o<n * se->(C.w.setRow (C.ν i) (cells.toList.take (n * se)++news++cells.toList.drop (n * se+news.length)).toArray).cell? ⟨C.ν i,o,none⟩=C.w.cell? ⟨C.ν i,o,none⟩:=by
                    intro o ho
                    rw [cell_of_heap (setRow_heap _ _ _ _ _ _ hb),cell_of_heap hb]
                    simp only []
                    rw [List.append_assoc,List.getElem?_append_left (by simp;omega),List.getElem?_take,if_pos ho]
                  have hcells:∀ v∈(cells.toList.take (n * se)++news++cells.toList.drop (n * se+news.length)),v.oneCell'=true:=by
                    intro v hv
                    simp only [List.mem_append] at hv
                    rcases hv with (hv | hv) | hv
                    · exact h1c v (List.mem_of_mem_take hv)
                    · exact hn1 v hv
                    · exact h1c v (List.mem_of_mem_drop hv)
                  have hnewrow:∀ {D:Ctx},Nx C D->RL D (es.take n++ys).flatten ((cells.toList.take (n * se)++news++cells.toList.drop (n * se+news.length)).toArray.toList.take ((es.take n++ys).length * se)):=by
                    intro D N
                    have e8:(es.take n++ys).length * se=n * se+news.length:=by rw [hlen2,Nat.add_mul,hnl]
                    rw [e8]
                    simp only []
                    have e9:(cells.toList.take (n * se)++news++cells.toList.drop (n * se+news.length)).take (n * se+news.length)=cells.toList.take (n * se)++news:=by
                      have e10:(cells.toList.take (n * se)++news).length=n * se+news.length:=by rw [List.length_append,List.length_take];omega
                      rw [List.take_append_of_le_length (by omega),List.take_of_length_le (l:=cells.toList.take (n * se)++news) (by omega)]
                    rw [e9,List.flatten_append,take_flatten n hrows0]
                    have:=RL_take hl (n * se)
                    rw [List.take_take,Nat.min_eq_left hnm] at this
                    exact RL_append (RL_id N.tr (fun _ _=>trivial) this) (RL_id N.tr (fun _ _=>trivial) hnews)
                  have hsize:cp * se<=(cells.toList.take (n * se)++news++cells.toList.drop (n * se+news.length)).toArray.size:=by
                    simp;omega
                  split at h
                  · rename_i hne
                    subst hne
                    cases h
                    have hful:fu=false:=by
                      cases fu with
                      | false=>rfl
                      | true=>have:=hfull rfl;omega
                    let C':Ctx:={ ν:=C.ν,sh:=upd C.sh i (some (.arr (es.length+ys.length) se cp)),Fz:=C.Fz,w:=C.w.setRow (C.ν i) (cells.toList.take (es.length * se)++news++cells.toList.drop (es.length * se+news.length)).toArray }
                    have htk:es.take es.length=es:=List.take_length
                    rw [htk] at hnewrow hrows2 hflat2
                    have hp:=hH.turn (C':=C') (e':=.arr fe lck false se (es++ys)) (s:=.arr es.length se cp) (s':=.arr (es.length+ys.length) se cp) hi hsh (by simp) (fun b hb'=>setRow_other _ _ _ _ hb') (setRow_size _ _ _) rfl rfl (by simp) rfl
                      (fun o ho => hcell o (by rcases (hF o ho).2 with h | h
                                               · exact h
                                               · rw [hful] at h;cases h)) (.inr ⟨_,_,_,_,_,rfl,rfl,by omega⟩) (fun N=>by
                      refine ⟨_,ty,cp,by simp [C',upd_same],setRow_heap _ _ _ _ _ _ hb,hsize,by simp;omega,h0,(fun e=>by cases e),hrows2,hnewrow N,hcells,hflat2,?_⟩
                      intro o ho
                      obtain ⟨f1,f2⟩:=hF o ho
                      refine ⟨f1,.inl ?_⟩
                      rcases f2 with f2 | f2
                      · rw [List.length_append,Nat.add_mul];omega
                      · rw [hful] at f2;cases f2)
                    exact ⟨C',_,hA1,hp.1,hp.2,⟨_,c,rfl,hroom,.inr ⟨_,se,cp,by simp [C',upd_same],Nat.le_refl _,fun _ _=>⟨by omega,by omega,.inr (by simp [C'])⟩⟩⟩⟩
                  · rename_i hne
                    split at h
                    · cases h
                    · rename_i hlk
                      have hlk:lck=false:=by simpa using hlk
                      cases h
                      have hFz:∀ o,¬ C.Fz (C.ν i) o:=fun o ho=>by have:=(hF o ho).1;rw [hlk] at this;cases this
                      have hil:i<H.length:=(List.getElem?_eq_some_iff.1 hi).1
                      let C':Ctx:={ ν:=upd C.ν H.length (C.ν i),sh:=upd (upd C.sh i (some .dead)) H.length (some (.arr (n+ys.length) se cp)),Fz:=C.Fz,w:=C.w.setRow (C.ν i) (cells.toList.take (n * se)++news++cells.toList.drop (n * se+news.length)).toArray }
                      have s1:C'.sh H.length=some (.arr (n+ys.length) se cp):=upd_same _ _ _
                      have s2:C'.sh i=some .dead:=by simp only [C'];rw [upd_ne _ _ (by omega),upd_same]
                      have hp:=hH.gen (C':=C') (fun j=>j=i∨j=H.length) (H':=H.set i .dead++[.arr fe false false se (es.take n++ys)])
                        (fun j hj=>by
                          rw [List.getElem?_append]
                          simp only [List.length_set]
                          split
                          · rw [List.getElem?_set_ne (fun e=>hj (.inl e.symm))]
                          · rename_i hjl
                            rw [List.getElem?_eq_none (l:=H) (by omega)]
                            exact List.getElem?_eq_none (by simp;have:j≠H.length:=fun e=>hj (.inr e)
                                                            omega))
                        (fun j hj=>by simp at hj;simp only [C'];rw [upd_ne _ _ (by omega),upd_ne _ _ (by omega)];exact hH.out j (by omega))
                        (fun j hj=>by simp only [C'];rw [upd_ne _ _ (fun e=>hj (.inr e)),upd_ne _ _ (fun e=>hj (.inl e)),upd_ne _ _ (fun e=>hj (.inr e))];exact ⟨rfl,rfl⟩)
                        (fun j s hj hs hd=>setRow_other _ _ _ _ (fun e=>hj (.inl (hH.inj j i _ _ hs hd hsh (by simp) e)))) rfl
                        (fun b o hf=>by
                          by_cases hb':b=C.ν i
                          · subst hb';exact absurd hf (hFz o)
                          · simp only [World.cell?,setRow_other _ _ _ _ hb',C']) (by simp [C'])
                        (fun b hb' hn=>setRow_other _ _ _ _ (fun e=>hn i _ hsh (by simp) e.symm))
                        (fun j s hj hs hd=>by
                          rcases hj with rfl | rfl
                          · rw [s2] at hs;cases hs;exact absurd rfl hd
                          · exact .inr ⟨i,_,.inl rfl,hsh,by simp,by simp only [C',upd_same]⟩)
                        (fun j k s s' hj hk hs hd hs' hd' e=>by
                          rcases hj with rfl | rfl<;>rcases hk with rfl | rfl
                          · rfl
                          · rw [s2] at hs;cases hs;exact absurd rfl hd
                          · rw [s2] at hs';cases hs';exact absurd rfl hd'
                          · rfl)
                        (fun j s hj hs=>by
                          rcases hj with rfl | rfl
                          · exact .inl s2
                          · rw [hH.out _ (Nat.le_refl _)] at hs;cases hs)
                        (fun N j e' hj he'=>by
                          rcases hj with rfl | rfl
                          · rw [List.getElem?_append_left (by simpa using hil),List.getElem?_set_self hil] at he'
                            cases he';exact s2
                          · rw [List.getElem?_append_right (by simp)] at he'
                            simp at he';subst he'
                            refine ⟨_,ty,cp,by rw [hlen2];exact s1,by simp only [C',upd_same];exact setRow_heap _ _ _ _ _ _ hb,hsize,by rw [hlen2];omega,h0,(fun e=>by cases e),hrows2,hnewrow N,hcells,hflat2,?_⟩
                            intro o ho
                            simp only [C',upd_same] at ho
                            exact absurd ho (hFz o))
                      exact ⟨C',_,hA1,hp.1,hp.2,⟨_,c,rfl,hroom,.inr ⟨_,se,cp,s1,Nat.le_refl _,fun _ _=>⟨by omega,by omega,.inr (by simp [C',upd_same])⟩⟩⟩⟩
                · -- there is none
                  obtain ⟨cp',zs,m1,m2,m3,m4⟩:=hA.new (some a) n c xs.toArray hfc (by omega) hbytes
                  have hcells:∀ v∈(xs.toArray++news.toArray++zs).toList,v.oneCell'=true:=by
                    intro v hv
                    simp only [Array.toList_append,List.mem_append] at hv
                    rcases hv with (hv | hv) | hv
                    · exact e6 v hv
                    · exact hn1 v hv
                    · exact m3 v hv
                  have hnewrow:∀ {D:Ctx},Nx C D->RL D (es.take n++ys).flatten ((xs.toArray++news.toArray++zs).toList.take ((es.take n++ys).length * se)):=by
                    intro D N
                    have e8:(es.take n++ys).length * se=xs.length+news.length:=by rw [hlen2,Nat.add_mul,e4,hnl]
                    rw [e8]
                    simp only [Array.toList_append,List.append_assoc,List.flatten_append]
                    have e9:(xs++(news++zs.toList)).take (xs.length+news.length)=xs++news:=by
                      rw [<- List.append_assoc,List.take_append_of_le_length (by simp),List.take_of_length_le (l:=xs++news) (by simp)]
                    rw [e9]
                    exact RL_append (RL_id N.tr (fun _ _=>trivial) e5) (RL_id N.tr (fun _ _=>trivial) hnews)
                  have hsize:cp' * se<=(xs.toArray++news.toArray++zs).size:=by
                    simp only [Array.size_append,m2,List.size_toArray,e4,hnl,Nat.sub_mul,Nat.add_mul]
                    have:=Nat.mul_le_mul_right se m1
                    rw [Nat.add_mul] at this
                    omega
                  have hw:∀ b,b<C.w.heap.size->(C.w.drew.alloc (.cells (xs.toArray++news.toArray++zs) e)).heap[b]?=C.w.heap[b]?:=fun b hb=>alloc_old _ _ hb
                  have hwn:(C.w.drew.alloc (.cells (xs.toArray++news.toArray++zs) e)).heap[C.w.heap.size]?=some (.cells (xs.toArray++news.toArray++zs) e (0,0)):=alloc_new _ _
                  have hwz:C.w.heap.size<=(C.w.drew.alloc (.cells (xs.toArray++news.toArray++zs) e)).heap.size:=alloc_size _ _
                  rw [hrs]
                  have hil:i<H.length:=(List.getElem?_eq_some_iff.1 hi).1
                  split at h
                  · rename_i hne
                    subst hne
                    cases h
                    have htk:es.take es.length=es:=List.take_length
                    rw [htk] at hnewrow hrows2 hflat2 hlen2
                    let C':Ctx:={ ν:=upd C.ν i C.w.heap.size,sh:=upd C.sh i (some (.arr (es.length+ys.length) se cp')),Fz:=C.Fz,w:=C.w.drew.alloc (.cells (xs.toArray++news.toArray++zs) e) }
                    have s1:C'.sh i=some (.arr (es.length+ys.length) se cp'):=upd_same _ _ _
                    have hp:=hH.gen (C':=C') (fun j=>j=i) (H':=H.set i (.arr fe lck false se (es++ys)))
                      (fun j hj=>by rw [List.getElem?_set_ne (fun e=>hj e.symm)])
                      (fun j hj=>by simp at hj;simp only [C'];rw [upd_ne _ _ (by omega)];exact hH.out j hj)
                      (fun j hj=>by simp only [C'];rw [upd_ne _ _ hj,upd_ne _ _ hj];exact ⟨rfl,rfl⟩)
                      (fun j s hj hs hd=>hw _ (hH.block hs hd)) rfl (fun b o hf=>by simp only [World.cell?,C'];rw [hw b (hH.low b o hf)]) hwz (fun b hb _=>hw b hb)
                      (fun j s hj hs hd=>by subst hj;exact .inl (by simp [C',upd_same]))
                      (fun j k s s' hj hk _ _ _ _ _=>by rw [hj,hk])
                      (fun j s hj hs'=>by subst hj;rw [hsh] at hs';cases hs';exact .inr (.inr ⟨_,_,_,_,_,rfl,s1,by omega⟩))
                      (fun N j e' hj he'=>by
                        subst hj
                        rw [List.getElem?_set_self hil] at he'
                        cases he'
                        refine ⟨_,e,cp',by rw [hlen2];exact s1,by simp only [C',upd_same];exact hwn,hsize,by rw [hlen2];exact m1,h0,(fun e=>by cases e),hrows2,hnewrow N,hcells,hflat2,?_⟩
                        intro o ho
                        simp only [C',upd_same] at ho
                        exact absurd (hH.low _ _ ho) (Nat.lt_irrefl _))
                    exact ⟨C',_,m4,hp.1,hp.2,⟨_,cp',rfl,m1,.inr ⟨_,se,cp',s1,Nat.le_refl _,fun _ _=>⟨by omega,by omega,.inr (by simp [C',upd_same])⟩⟩⟩⟩
                  · rename_i hne
                    split at h
                    · cases h
                    · rename_i hlk
                      cases h
                      let C':Ctx:={ ν:=upd C.ν H.length C.w.heap.size,sh:=upd (upd C.sh i (some .dead)) H.length (some (.arr (n+ys.length) se cp')),Fz:=C.Fz,w:=C.w.drew.alloc (.cells (xs.toArray++news.toArray++zs) e) }
                      have s1:C'.sh H.length=some (.arr (n+ys.length) se cp'):=upd_same _ _ _
                      have s2:C'.sh i=some .dead:=by simp only [C'];rw [upd_ne _ _ (by omega),upd_same]
                      have hp:=hH.gen (C':=C') (fun j=>j=i∨j=H.length) (H':=H.set i .dead++[.arr fe false false se (es.take n++ys)])
                        (fun j hj=>by
                          rw [List.getElem?_append]
                          simp only [List.length_set]
                          split
                          · rw [List.getElem?_set_ne (fun e=>hj (.inl e.symm))]
                          · rename_i hjl
                            rw [List.getElem?_eq_none (l:=H) (by omega)]
                            exact List.getElem?_eq_none (by simp;have:j≠H.length:=fun e=>hj (.inr e)
                                                            omega))
                        (fun j hj=>by simp at hj;simp only [C'];rw [upd_ne _ _ (by omega),upd_ne _ _ (by omega)];exact hH.out j (by omega))
                        (fun j hj=>by simp only [C'];rw [upd_ne _ _ (fun e=>hj (.inr e)),upd_ne _ _ (fun e=>hj (.inl e)),upd_ne _ _ (fun e=>hj (.inr e))];exact ⟨rfl,rfl⟩)
                        (fun j s hj hs hd=>hw _ (hH.block hs hd)) rfl (fun b o hf=>by simp only [World.cell?,C'];rw [hw b (hH.low b o hf)]) hwz (fun b hb _=>hw b hb)
                        (fun j s hj hs hd=>by
                          rcases hj with rfl | rfl
                          · rw [s2] at hs;cases hs;exact absurd rfl hd
                          · exact .inl (by simp [C',upd_same]))
                        (fun j k s s' hj hk hs hd hs' hd' e=>by
                          rcases hj with rfl | rfl<;>rcases hk with rfl | rfl
                          · rfl
                          · rw [s2] at hs;cases hs;exact absurd rfl hd
                          · rw [s2] at hs';cases hs';exact absurd rfl hd'
                          · rfl)
                        (fun j s hj hs=>by
                          rcases hj with rfl | rfl
                          · exact .inl s2
                          · rw [hH.out _ (Nat.le_refl _)] at hs;cases hs)
                        (fun N j e' hj he'=>by
                          rcases hj with rfl | rfl
                          · rw [List.getElem?_append_left (by simpa using hil),List.getElem?_set_self hil] at he'
                            cases he';exact s2
                          · rw [List.getElem?_append_right (by simp)] at he'
                            simp at he';subst he'
                            refine ⟨_,e,cp',by rw [hlen2];exact s1,by simp only [C',upd_same];exact hwn,hsize,by rw [hlen2];exact m1,h0,(fun e=>by cases e),hrows2,hnewrow N,hcells,hflat2,?_⟩
                            intro o ho
                            simp only [C',upd_same] at ho
                            exact absurd (hH.low _ _ ho) (Nat.lt_irrefl _))
                      exact ⟨C',_,m4,hp.1,hp.2,⟨_,cp',rfl,m1,.inr ⟨_,se,cp',s1,Nat.le_refl _,fun _ _=>⟨by omega,by omega,.inr (by simp [C',upd_same])⟩⟩⟩⟩
        · cases h
      · cases h
    · cases h
end
end Go.AM
namespace Go.AM
section
variable {P:Program} {C C':Ctx} {H:Heap} {ρ:Opd->AVal} {ρr:Operand->Value}

theorem zeroOf_spec {e:TypeId} {z:List AVal} (h:zeroOf P e=some z):∃ i v,P.info? e=some i/\i.zero=some v/\(∀ C,RL C z v.cells.toList)/\(∀ u∈v.cells.toList,u.oneCell'=true)/\v.cells.size=z.length:=by
 simp only [zeroOf,Option.bind_eq_some_iff] at h
 obtain ⟨v,⟨i,hi,hv⟩,hz⟩:=h
 exact ⟨i,v,hi,hv,fun C=>(RL_ofVs C hz).1,(RL_ofVs ⟨fun _=>0,fun _=>none,fun _ _=>False,default⟩ hz).2,by
  have:=RL_length (RL_ofVs ⟨fun _=>0,fun _=>none,fun _ _=>False,default⟩ hz).1
  simpa using this⟩

theorem zeroCells_ok {z:Array Value} {n:Nat} (hz:∀ u∈z.toList,u.oneCell'=true) (h0:0<z.size):∀ v∈(Builtin.zeroCells z n).toList,v.oneCell'=true:=by
 intro v hv
 simp only [Builtin.zeroCells,Array.toList_map,List.mem_map] at hv
 obtain ⟨i,_,rfl⟩:=hv
 have hlt:i % z.size<z.size:=Nat.mod_lt _ h0
 rw [getElem!_pos z _ hlt]
 exact hz _ (by simp)

theorem RL_zeroCells {z:List AVal} {v:Array Value} (h:RL C z v.toList) (hz:0<z.length):∀ n,RL C (List.replicate n z).flatten (Builtin.zeroCells v n).toList:=by
 intro n
 have hl:v.size=z.length:=by simpa using RL_length h
 have hfl:(List.replicate n z).flatten.length=n * z.length:=by simp
 refine RL_of_get (by simp [Builtin.zeroCells,hl]) fun i a x ha hx=>?_
 have hi:i<n * z.length:=by rw [<- hfl];exact (List.getElem?_eq_some_iff.1 ha).1
 have h1:(List.replicate n z).flatten[i]?=z[i % z.length]?:=by
  clear ha hx
  induction n generalizing i with
  | zero=>simp at hi
  | succ n ih =>
   rw [List.replicate_succ,List.flatten_cons,List.getElem?_append]
   split
   ·rename_i hlt;rw [Nat.mod_eq_of_lt hlt]
   ·rename_i hge
    have:z.length<=i:=by omega
    rw [ih (i:=i - z.length) (by simp) (by rw [Nat.succ_mul] at hi;omega),Nat.mod_eq_sub_mod this]
 have h2:(Builtin.zeroCells v n).toList[i]?=v.toList[i % z.length]?:=by
  have hlt:i % z.length<v.size:=by rw [hl];exact Nat.mod_lt _ hz
  simp only [Builtin.zeroCells,Array.toList_map,List.getElem?_map]
  have hr:(Array.range (n * v.size)).toList=List.range (n * v.size):=by simp
  rw [hr,List.getElem?_range (by rw [hl];exact hi)]
  simp only [Option.map_some,hl]
  rw [getElem!_pos v _ hlt]
  simp [hlt]
 rw [h1] at ha;rw [h2] at hx
 obtain ⟨y,hy,hv⟩:=RL_get h ha
 rw [hx] at hy;cases hy;exact hv

theorem bytesOf_eq {e:TypeId} {i:TypeInfo} (h:P.info? e=some i):P.bytesOf e=i.bytes/\P.cellsOf e=i.size:=by
 simp [Program.bytesOf,Program.cellsOf,h]

theorem adds_append {t xt ty e:TypeId} {d:TypeDesc} {z:List AVal} {x:Value} {n:Nat} {news:List Value} (ht:P.underlying t=some (.slice e)) (hxt:P.underlying xt=some d) (hd:∀ k,d≠.int k)
  (hz:zeroOf P e=some z) (hzl:z.length=P.cellsOf e) (h0:P.cellsOf e≠0) (hb0:P.bytesOf e≠0) (hlen:∀ w,(Builtin.lenOf x).run P w=.ok n w)
  (hnews:∀ w,w.heap=C.w.heap->(Builtin.firstCells (P.cellsOf e) n x).run P w=.ok news.toArray w) :
  Adds P C.w e (P.cellsOf e) (P.bytesOf e) n news (fun s=>Builtin.append_ #[t,xt] ty #[s,x]):=by
 obtain ⟨i,v,hi,hv,hrl,hone,hsz⟩:=zeroOf_spec hz
 obtain ⟨e1,e2⟩:=bytesOf_eq hi
 refine ⟨fun base sLen sCap hroom=>?_,fun base sLen sCap olds holds hroom hb=>?_⟩
 ·have:=run_append_in (ty:=ty) C.w ht hi hxt hd (base:=base) (sLen:=sLen) (sCap:=sCap) (hlen C.w) (by rw [<- e2];exact hnews C.w rfl) hroom
  rw [this,e2]
 ·have hn:sLen+n<=2 ^ 46:=Nat.le_trans (Nat.le_mul_of_pos_right _ (Nat.pos_of_ne_zero hb0)) hb
  have:=run_append_new (ty:=ty) C.w ht hi hxt hd hv (base:=base) (sLen:=sLen) (sCap:=sCap) hlen (by rw [<- e2];exact holds) (by rw [<- e2];exact hnews _ rfl) hroom (by rw [<- e1];exact hb) hn
  exact ⟨_,_,grownCap_ge _ _ _ _,by rw [size_zeroCells,hsz,hzl],zeroCells_ok hone (by omega),this⟩

section
variable (w:World) {t xt ty e:TypeId} {i:TypeInfo} {k:IntKind} (ht:P.underlying t=some (.slice e)) (hi:P.info? e=some i) (hxt:P.underlying xt=some (.int k))
include ht hi hxt

theorem run_appendZ_in {z:Value} (hz:i.zero=some z) {base:Option Addr} {sLen sCap:Nat} {m:Nat} {k':IntKind} (h1:m<=2 ^ 46) (hb:m * i.bytes<=2 ^ 46) (h3:i.size≠0) (hroom:sLen+m<=sCap) :
  (Builtin.append_ #[t,xt] ty #[.slice base sLen sCap,.int k' (m:Int)]).run P w =
   (match base with | some a=>(storeCells (a.add (sLen * i.size)) (Builtin.zeroCells z.cells m).toList).run P w | none=>.ok () w).andThen fun _ w'=>.ok (.slice base (sLen+m) sCap) w':=by
 have hw:IntKind.i64.wrap (m:Int)=m:=by simp [IntKind.wrap,IntKind.bits,IntKind.signed];omega
 have hbig:¬ (281474976710656<(m:Int) * (i.bytes:Int)):=by have:=Int.natCast_mul m i.bytes;omega
 have hneg:¬ ((m:Int)<0):=by omega
 cases base with
 | none =>
  by_cases hl:m=0
  ·subst hl
   have hw0:IntKind.i64.wrap 0=0:=by decide
   have hr:sLen<=sCap:=by omega
   simp [Builtin.append_,run_underlying ht,run_underlying hxt,sizeOf,typeInfo,zeroValue,hi,hz,asInt,asIntOf,hw0,hr]
  ·simp [Builtin.append_,run_underlying ht,run_underlying hxt,sizeOf,typeInfo,zeroValue,hi,hz,asInt,asIntOf,hw,hbig,hneg,hroom,hl,h3]
 | some a =>
  by_cases hl:m=0
  ·subst hl
   have hzc:(Builtin.zeroCells z.cells 0)=#[]:=by simp [Builtin.zeroCells]
   have hw0:IntKind.i64.wrap 0=0:=by decide
   have hr:sLen<=sCap:=by omega
   simp [Builtin.append_,run_underlying ht,run_underlying hxt,sizeOf,typeInfo,zeroValue,hi,hz,asInt,asIntOf,hw0,hr,hzc]
  ·simp [Builtin.append_,run_underlying ht,run_underlying hxt,sizeOf,typeInfo,zeroValue,hi,hz,asInt,asIntOf,hw,hbig,hneg,hroom,hl,h3]
   intro h;exact absurd h (Nat.mul_ne_zero hl h3)

theorem run_appendZ_new {z:Value} (hz:i.zero=some z) {base:Option Addr} {sLen sCap:Nat} {m:Nat} {k':IntKind} {olds:Array Value} (h1:m<=2 ^ 46) (hb:m * i.bytes<=2 ^ 46) (h3:i.size≠0)
  (holds:(Builtin.firstCells i.size sLen (.slice base sLen sCap)).run P w.drew=.ok olds w.drew) (hroom:sCap<sLen+m)
  (hb2:(sLen+m) * i.bytes<=2 ^ 46) (hn:(sLen+m)<=2 ^ 46) :
  (Builtin.append_ #[t,xt] ty #[.slice base sLen sCap,.int k' (m:Int)]).run P w =
   .ok (.slice (some ⟨w.heap.size,0,none⟩) (sLen+m) (grownCap w (sLen+m) sCap e))
    (w.drew.alloc (.cells (olds++Builtin.zeroCells z.cells m++Builtin.zeroCells z.cells (grownCap w (sLen+m) sCap e - (sLen+m))) e)):=by
 have hw:IntKind.i64.wrap (m:Int)=m:=by simp [IntKind.wrap,IntKind.bits,IntKind.signed];omega
 have hbig:¬ (281474976710656<(m:Int) * (i.bytes:Int)):=by have:=Int.natCast_mul m i.bytes;omega
 have hneg:¬ ((m:Int)<0):=by omega
 have hn':¬ (sLen+m<=sCap):=by omega
 have h63':¬ (9223372036854775807<((sLen:Int)+(m:Int))):=by omega
 have h48':=fits hroom hb2
 by_cases hl:m=0
 ·subst hl
  have hzc:(Builtin.zeroCells z.cells 0)=#[]:=by simp [Builtin.zeroCells]
  simp only [Nat.add_zero] at hn' h48' hroom
  have hw0:IntKind.i64.wrap 0=0:=by decide
  have h63'':¬ (9223372036854775807<(sLen:Int)):=by omega
  rw [hzc]
  simp [Builtin.append_,run_underlying ht,run_underlying hxt,sizeOf,typeInfo,zeroValue,hi,hz,asInt,asIntOf,hw0,hn',h63'',h48',Question.forced,holds,newRow,grownCap]
 ·simp [Builtin.append_,run_underlying ht,run_underlying hxt,sizeOf,typeInfo,zeroValue,hi,hz,asInt,asIntOf,hw,hbig,hneg,hn',h63',h48',Question.forced,holds,newRow,grownCap,hl,h3]
  intro h;exact absurd h (Nat.mul_ne_zero hl h3)
end

theorem adds_zeros {t xt ty e:TypeId} {k k':IntKind} {z:List AVal} {m:Nat} (ht:P.underlying t=some (.slice e)) (hxt:P.underlying xt=some (.int k))
  (hz:zeroOf P e=some z) (hzl:z.length=P.cellsOf e) (h0:P.cellsOf e≠0) (hb0:P.bytesOf e≠0) (hl1:m<=2 ^ 46) (hb:m * P.bytesOf e<=2 ^ 46) :
  ∃ news:List Value,Adds P C.w e (P.cellsOf e) (P.bytesOf e) (List.replicate m z).length news (fun s=>Builtin.append_ #[t,xt] ty #[s,.int k' (m:Int)]) /\
   news.length=(List.replicate m z).length * P.cellsOf e/\RL C (List.replicate m z).flatten news/\∀ v∈news,v.oneCell'=true:=by
 obtain ⟨i,v,hi,hv,hrl,hone,hsz⟩:=zeroOf_spec hz
 obtain ⟨e1,e2⟩:=bytesOf_eq hi
 have hlr:(List.replicate m z).length=m:=by simp
 refine ⟨(Builtin.zeroCells v.cells m).toList,⟨fun base sLen sCap hroom=>?_,fun base sLen sCap olds holds hroom hb2=>?_⟩,?_,RL_zeroCells (hrl C) (by omega) _,zeroCells_ok hone (by omega)⟩
 ·rw [hlr] at hroom ⊢
  have:=run_appendZ_in (ty:=ty) C.w ht hi hxt hv (base:=base) (sLen:=sLen) (sCap:=sCap) (k':=k') hl1 (by rw [<- e1];exact hb) (by rw [<- e2];exact h0) hroom
  rw [this,e2]
  all_goals (cases base<;>rfl)
 ·rw [hlr] at hroom hb2 ⊢
  have hn:sLen+m<=2 ^ 46:=Nat.le_trans (Nat.le_mul_of_pos_right _ (Nat.pos_of_ne_zero hb0)) hb2
  have:=run_appendZ_new (ty:=ty) C.w ht hi hxt hv (base:=base) (sLen:=sLen) (sCap:=sCap) (k':=k') hl1 (by rw [<- e1];exact hb) (by rw [<- e2];exact h0) (by rw [<- e2];exact holds) hroom (by rw [<- e1];exact hb2) hn
  exact ⟨_,_,grownCap_ge _ _ _ _,by rw [size_zeroCells,hsz,hzl],zeroCells_ok hone (by omega),by simpa using this⟩
 ·rw [hlr];simp [size_zeroCells,hsz,hzl]
end
end Go.AM
namespace Go.AM
section
variable {callee:Callee} {P:Program} {C:Ctx} {H H':Heap} {v:AVal} {ρ:Opd->AVal} {ρr:Operand->Value}

def valS (s:Sem Value):Sem Next:=do pure (.value (<- s))

theorem goes_val {s:Sem Value} {r:Value} {w':World} {K} (h:s.run P C.w=.ok r w') (hk:K r w'):Goes P (valS s) C.w K:=by
 refine Goes.value (v:=r) (w':=w') ?_ hk
 simp [valS,h]

theorem goes_read {s:Sem Value} {r:Value} (hH:HR P C H) (h:s.run P C.w=.ok r C.w) (hv:RV C v r):Goes P (valS s) C.w (After P C v H) :=
 goes_val h (After.same hH hv)

theorem asNat_rel {a:AVal} {x:Value} {n:Nat} (h:RV C a x) (e:asNat a=some n):∃ k,x=.int k (n:Int):=by
 unfold asNat at e
 split at e
 ·split at e
  ·cases e
   have hx:x=_:=h
   rename_i k m hm
   exact ⟨k,by rw [hx,Int.toNat_of_nonneg hm]⟩
  ·cases e
 ·cases e

theorem rv_int {k n x} (h:RV C (.lit (.int k n)) x):x=.int k n:=h

theorem sim_un' {op:UnOp} {t:TypeId} {x:Operand} {a:Opd} (hH:HR P C H) (hx:RV C (ρ a) (ρr x)) (h:aop callee ρ H (.un op a)=some (v,H')):Goes P (valS (Op.unary op (ρr x))) C.w (After P C v H'):=by
 simp only [aop,Option.map_eq_some_iff,Prod.mk.injEq] at h
 obtain ⟨u,hu,rfl,rfl⟩:=h
 obtain ⟨r,hr,hv⟩:=sim_un (P:=P) (w:=C.w) hx hu
 exact goes_read hH hr hv

theorem fieldPlace_run {a:Addr} {f:Field} (h0:P.cellsOf f.type≠0) (w:World):(fieldPlace a f).run P w=.ok (a.add f.offset) w:=by
 have:∃ i,P.info? f.type=some i:=by
  unfold Program.cellsOf at h0
  cases h:P.info? f.type with
  | none=>rw [h] at h0;simp at h0
  | some i=>exact ⟨i,rfl⟩
 obtain ⟨i,hi⟩:=this
 have hs:(sizeOf f.type).run P w=.ok (P.cellsOf f.type) w:=by simp [sizeOf,typeInfo,hi,Program.cellsOf]
 unfold fieldPlace
 simp only [Sem.run_bind,hs,Result.andThen_ok,h0,if_false,Sem.run_pure]

theorem run_sizeOf' {t:TypeId} (h:(P.info? t).isSome=true) (w:World):(sizeOf t).run P w=.ok (P.cellsOf t) w:=by
 obtain ⟨i,hi⟩:=Option.isSome_iff_exists.1 h
 simp [sizeOf,typeInfo,hi,Program.cellsOf]

theorem addOff_rel {a v:AVal} {x:Value} {off:Nat} (hH:HR P C H) (hx:RV C a x) (h:addOff off a=some v):∃ ad,x=.pointer (some ad)/\RV C v (.pointer (some (ad.add off))):=by
 unfold addOff at h
 split at h
 ·cases h
  obtain ⟨ad,rfl,hd⟩:=hx
  refine ⟨ad,rfl,_,rfl,?_⟩
  rcases hd with hd | ⟨hd,rfl⟩
  ·exact .inl hd
  ·exact .inr ⟨hd,addr_add _ _ _⟩
 ·cases h
  obtain ⟨ad,rfl,hd⟩:=hx
  refine ⟨ad,rfl,_,rfl,?_⟩
  rcases hd with hd | ⟨cur,s,cp,h1,h2,h3⟩
  ·exact .inl hd
  ·refine .inr ⟨cur,s,cp,h1,h2,fun e1 e2=>?_⟩
   rw [h3 e1 e2,addr_add,Nat.add_assoc]
 ·cases h
  obtain ⟨b,o,sz,rfl,h1,h2⟩:=hx
  refine ⟨_,rfl,b,o,sz,?_,h1,h2⟩
  rw [addr_add,Nat.add_assoc]
 ·cases h

theorem get1_rel {t:TypeId} {d:TypeDesc} {ag:Bool} {n off:Nat} {cs:List AVal} {vs:Array Value} (hu:P.underlying t=some d) (hag:isAggT P t=ag) (hn:P.cellsOf t=n)
  (hx:RL C cs vs.toList) (h1:∀ v∈vs.toList,v.oneCell'=true) (h:get1 ag n (cs.drop off)=some v) (w:World):∃ r,(part t vs off).run P w=.ok r w/\RV C v r:=by
 have hl:=RL_length hx
 unfold get1 at h
 unfold part
 simp only [Sem.run_bind,run_isAgg hu,Result.andThen_ok,hag]
 cases ag with
 | true =>
  simp only [if_true] at h ⊢
  split at h
  ·cases h
  ·rename_i hlt
   cases h
   simp only [Sem.run_bind,run_sizeOf hu,Result.andThen_ok,hn,Sem.run_pure]
   refine ⟨_,rfl,vs.extract off (off+n),rfl,?_,?_⟩
   ·intro u hu
    apply h1
    simp only [Array.toList_extract,List.extract_eq_take_drop] at hu
    exact List.mem_of_mem_drop (List.mem_of_mem_take hu)
   ·have:(vs.extract off (off+n)).toList=(vs.toList.drop off).take n:=by
     simp [List.extract_eq_take_drop]
    rw [this]
    exact RL_take (RL_drop hx off) n
 | false =>
  simp only [Bool.false_eq_true,if_false] at h ⊢
  split at h
  ·rw [List.getElem?_drop,Nat.add_zero] at h
   obtain ⟨x,hx1,hx2⟩:=RL_get hx h
   have:vs[off]?=some x:=by simpa using hx1
   rw [this]
   exact ⟨x,rfl,hx2⟩
  ·cases h

theorem run_asIntOf (k n) (w:World):(asIntOf (.int k n)).run P w=.ok (k,n) w:=rfl

theorem aidxS_rel {a v:AVal} {x:Value} {sz i:Nat} (hH:HR P C H) (hx:RV C a x) (h:aidxS sz a i=some v):∃ ad n c,x=.slice (some ad) n c/\i<n/\RV C v (.pointer (some (ad.add (i * sz)))):=by
 unfold aidxS at h
 split at h
 ·split at h
  ·rename_i cs hcs
   split at h
   ·rename_i hl
    cases h
    obtain ⟨ad,c,rfl,h1,h2,h3,h4,h5,h6⟩:=hx
    have hi:=(List.getElem?_eq_some_iff.1 hcs).1
    cases ad with
    | none =>
     rw [Option.isNone_none] at h3
     have:=h4 h3
     omega
    | some ad =>
     obtain ⟨hsp,sz',hr⟩:=h6 ad rfl (by rintro rfl;simp at hi)
     have hsz:=(RLL_iff.1 hr i cs hcs).1
     have hss:sz'=sz:=by omega
     subst hss
     refine ⟨ad,_,c,rfl,hi,ad.block,ad.off,sz',?_,h5,hr⟩
     have:ad=⟨ad.block,ad.off,none⟩:=by cases ad;simp_all
     rw [this,addr_add];rfl
   ·cases h
  ·cases h
 ·split at h
  ·rename_i hc
   obtain ⟨hi,rfl⟩:=hc
   cases h
   obtain ⟨ad,c,rfl,h1,h2⟩:=hx
   refine ⟨ad,_,c,rfl,hi,_,rfl,?_⟩
   rcases h2 with h2 | ⟨cur,s,cp,h2,h3,h4⟩
   ·exact .inl h2
   ·refine .inr ⟨cur,s,cp,h2,h3,fun e1 e2=>?_⟩
    obtain ⟨_,_,h5⟩:=h4 e1 e2
    rcases h5 with h5 | h5
    ·omega
    ·rw [h5,addr_add,Nat.add_zero,<- Nat.add_mul]
  ·cases h
 ·split at h
  ·rename_i hc
   obtain ⟨hi,rfl⟩:=hc
   cases h
   obtain ⟨ad,c,rfl,h1,h2⟩:=hx
   refine ⟨ad,_,c,rfl,hi,_,rfl,?_⟩
   rcases h2 with h2 | ⟨h2,h3⟩
   ·exact .inl h2
   ·refine .inr ⟨h2,?_⟩
    rcases h3 with h3 | h3
    ·omega
    ·rw [h3,addr_add]
  ·cases h
 ·cases h

theorem anil_rel {k:NilK} {a:AVal} {x:Value} {b:Bool} (hx:RV C a x) (h:anil k a=some b) :
  match k with
  | .ptr=>∃ p,x=.pointer p/\b=p.isNone
  | .slice=>∃ p n c,x=.slice p n c/\b=p.isNone
  | .func=>(x=.nilFunc/\b=true)∨(∃ f u v,x=.func f u v/\b=false)
  | .iface=>(x=.nilIface/\b=true)∨(∃ t v,x=.iface t v/\b=false)
  | .map=>x=.map none/\b=true:=by
 unfold anil at h
 split at h<;>cases h
 ·exact ⟨none,hx,rfl⟩
 ·obtain ⟨a,rfl,_⟩:=hx;exact ⟨_,rfl,rfl⟩
 ·obtain ⟨a,rfl,_⟩:=hx;exact ⟨_,rfl,rfl⟩
 ·obtain ⟨_,_,_,rfl,_⟩:=hx;exact ⟨_,rfl,rfl⟩
 ·obtain ⟨_,_,rfl,_,_,h,_⟩:=hx;exact ⟨_,_,_,rfl,h⟩
 ·obtain ⟨_,_,rfl,_⟩:=hx;exact ⟨_,_,_,rfl,rfl⟩
 ·obtain ⟨_,_,rfl,_⟩:=hx;exact ⟨_,_,_,rfl,rfl⟩
 ·exact .inl ⟨hx,rfl⟩
 ·obtain ⟨_,_,rfl,_⟩:=hx;exact .inr ⟨_,_,_,rfl,rfl⟩
 ·obtain ⟨_,rfl,_⟩:=hx;exact .inr ⟨_,_,_,rfl,rfl⟩
 ·exact .inl ⟨hx,rfl⟩
 ·obtain ⟨_,rfl,_⟩:=hx;exact .inr ⟨_,_,rfl,rfl⟩
 ·exact ⟨hx,rfl⟩

theorem bytesOf_rel:∀ {es:List (List AVal)} {xs:List Value} {l:List UInt8},RL C es.flatten xs->bytesOf es=some l->∃ ns:List Int,xs=ns.map (Value.int .u8)/\l=ns.map fun n=>UInt8.ofNat n.toNat
 | [],xs,l,h,e=>by
  simp [bytesOf] at e;subst e
  simp only [List.flatten_nil,RL] at h
  exact ⟨[],by simpa using h,rfl⟩
 | c :: r,xs,l,h,e=>by
  unfold bytesOf at e
  split at e
  ·rename_i heq;cases heq
  ·rename_i n r' heq
   cases heq
   simp only [Option.map_eq_some_iff] at e
   obtain ⟨l',hl,rfl⟩:=e
   simp only [List.flatten_cons,List.cons_append,List.nil_append,RL] at h
   obtain ⟨x,s,rfl,hx,hs⟩:=h
   obtain ⟨ns,rfl,rfl⟩:=bytesOf_rel hs hl
   have hx:x=_:=hx
   exact ⟨n::ns,by simp [hx],rfl⟩
  ·cases e

theorem foldl_push:∀ (ns:List Int) (b:ByteArray),ns.foldl (fun r n=>r.push (UInt8.ofNat n.toNat)) b=ByteArray.mk (b.data++(ns.map fun n=>UInt8.ofNat n.toNat).toArray)
 | [],b=>by cases b;simp
 | n::r,b=>by
  rw [List.foldl_cons,foldl_push r]
  cases b
  simp [ByteArray.push]
end
end Go.AM
namespace Go.AM
section
variable {callee:Callee} {P:Program} {C:Ctx} {H H':Heap} {v:AVal} {ρ:Opd->AVal} {ρr:Operand->Value}


theorem aleaves_append (xs ys:List AVal):∀ (l m:List (Nat × LeafK)) {b:Bool},aleaves xs ys (l++m)=some b->∃ b1 b2,aleaves xs ys l=some b1/\aleaves xs ys m=some b2/\b=(b1 && b2)
 | [],m,b,h=>⟨true,b,rfl,by simpa using h,by simp⟩
 | (o,k)::r,m,b,h=>by
  simp only [List.cons_append,aleaves,Option.bind_eq_some_iff,Option.map_eq_some_iff] at h
  obtain ⟨x,hx,y,hy,b1,hb1,b2,hb2,rfl⟩:=h
  obtain ⟨c1,c2,h1,h2,rfl⟩:=aleaves_append xs ys r m hb2
  exact ⟨b1 && c1,c2,by simp [aleaves,hx,hy,hb1,h1],h2,by rw [Bool.and_assoc]⟩

theorem aleaves_shift (xs ys:List AVal) (off n:Nat):∀ (l:List (Nat × LeafK)) {b:Bool},(∀ p∈l,p.1<n)->aleaves xs ys (l.map fun p=>(off+p.1,p.2))=some b ->
  aleaves ((xs.drop off).take n) ((ys.drop off).take n) l=some b
 | [],b,_,h=>h
 | (o,k)::r,b,hl,h=>by
  simp only [List.map_cons,aleaves,Option.bind_eq_some_iff,Option.map_eq_some_iff] at h
  obtain ⟨x,hx,y,hy,b1,hb1,b2,hb2,rfl⟩:=h
  have ho:o<n:=hl (o,k) (by simp)
  have:=aleaves_shift xs ys off n r (fun p hp=>hl p (by simp [hp])) hb2
  simp only [aleaves,List.getElem?_take,ho,if_true,List.getElem?_drop,hx,hy,hb1,this,Option.bind_some,Option.map_some]

def RP (P:Program) (C:Ctx) (t:TypeId) (X:List AVal) (px:Value):Prop :=
 if isAggT P t then∃vx:Array Value,px=.agg vx/\RL C X vx.toList else∃a,X[0]?=some a/\RV C a px

theorem part_rp {t:TypeId} {d:TypeDesc} {off:Nat} {X:List AVal} {vx:Array Value} (hu:P.underlying t=some d) (hx:RL C X vx.toList) (h0:isAggT P t=false->off<X.length/\0<P.cellsOf t) (w:World) :
  ∃ px,(part t vx off).run P w=.ok px w/\RP P C t ((X.drop off).take (P.cellsOf t)) px:=by
 unfold part RP
 simp only [Sem.run_bind,run_isAgg hu,Result.andThen_ok]
 cases hag:isAggT P t with
 | true =>
  simp only [if_true,Sem.run_bind,run_sizeOf hu,Result.andThen_ok,Sem.run_pure]
  refine ⟨_,rfl,_,rfl,?_⟩
  have:(vx.extract off (off+P.cellsOf t)).toList=(vx.toList.drop off).take (P.cellsOf t):=by simp [List.extract_eq_take_drop]
  rw [this]
  exact RL_take (RL_drop hx off) _
 | false =>
  obtain ⟨h1,h2⟩:=h0 hag
  simp only [Bool.false_eq_true,if_false]
  obtain ⟨x,hx1,hx2⟩:=RL_get hx (List.getElem?_eq_getElem h1)
  have:vx[off]?=some x:=by simpa using hx1
  rw [this]
  exact ⟨x,rfl,X[off],by simp [List.getElem?_take,h2,List.getElem?_drop],hx2⟩

theorem within_spec {n:Nat} {l:Option (List (Nat × LeafK))} {r} (h:within n l=some r):l=some r/\∀ p∈r,p.1<n:=by
 unfold within at h
 rw [Option.bind_eq_some_iff] at h
 obtain ⟨s,hs,h⟩:=h
 split at h
 ·rename_i ha
  cases h
  exact ⟨hs,fun p hp=>by simpa using List.all_eq_true.1 ha p hp⟩
 ·cases h

theorem aleaf_len {xs ys:List AVal} {l:List (Nat × LeafK)} {b:Bool} (h:aleaves xs ys l=some b):∀ p∈l,p.1<xs.length/\p.1<ys.length:=by
 induction l generalizing b with
 | nil=>simp
 | cons q r ih =>
  obtain ⟨o,k⟩:=q
  simp only [aleaves,Option.bind_eq_some_iff,Option.map_eq_some_iff] at h
  obtain ⟨x,hx,y,hy,b1,hb1,b2,hb2,rfl⟩:=h
  intro p hp
  rcases List.mem_cons.1 hp with rfl | hp
  ·exact ⟨(List.getElem?_eq_some_iff.1 hx).1,(List.getElem?_eq_some_iff.1 hy).1⟩
  ·exact ih hb2 p hp

theorem leaf_scalar {k:LeafK} {a c:AVal} {x y:Value} {b:Bool} (hx:RV C a x) (hy:RV C c y) (h:aleaf k a c=some b) :
  match k with
  | .b=>∃ p q,x=.bool p/\y=.bool q/\b=(p == q)
  | .i=>∃ k p q,x=.int k p/\y=.int k q/\b=decide (p=q)
  | .s=>∃ p q,x=.string p/\y=.string q/\b=(p == q):=by
 unfold aleaf at h
 split at h
 ·cases h;exact ⟨_,_,hx,hy,rfl⟩
 ·obtain ⟨hk,hb⟩:=Option.ite_none_right_eq_some.1 h
  subst hk
  cases hb;exact ⟨_,_,_,hx,hy,rfl⟩
 ·cases h;exact ⟨_,_,hx,hy,rfl⟩
 ·cases h

def EqOk (P:Program) (C:Ctx) (t:TypeId) (l:List (Nat × LeafK)) (D:Nat):Prop :=
 ∀ (X Y:List AVal) (px py:Value) (b:Bool) (w:World),RP P C t X px->RP P C t Y py->aleaves X Y l=some b->(Op.equalIn D t px py).run P w=.ok b w

theorem leaf_nonempty {d:Nat} {t:TypeId} {l:List (Nat × LeafK)} (h:leafT P d t=some l):(∃ td,P.underlying t=some td)/\(isAggT P t=false->∃ k,l=[(0,k)]):=by
 cases d with
 | zero=>cases h
 | succ d =>
  rw [leafT] at h
  obtain ⟨h,_⟩:=within_spec h
  unfold isAggT
  cases hu:P.underlying t with
  | none=>rw [hu] at h;cases h
  | some td =>
   rw [hu] at h
   refine ⟨⟨td,rfl⟩,?_⟩
   cases td<;>simp only [Option.some.injEq,reduceCtorEq] at h<;>simp<;>exact ⟨_,h.symm⟩

theorem part_leaf {d:Nat} {t:TypeId} {l:List (Nat × LeafK)} {off:Nat} {X Y:List AVal} {vx vy:Array Value} {b:Bool} {D:Nat} (h:leafT P d t=some l) (he:EqOk P C t l D) (hw:∀ p∈l,p.1<P.cellsOf t)
  (hx:RL C X vx.toList) (hy:RL C Y vy.toList) (ha:aleaves X Y (l.map fun p=>(off+p.1,p.2))=some b) (w:World) :
  ∃ px py,(part t vx off).run P w=.ok px w/\(part t vy off).run P w=.ok py w/\(Op.equalIn D t px py).run P w=.ok b w:=by
 obtain ⟨⟨td,hu⟩,h1⟩:=leaf_nonempty h
 have hl:=aleaf_len ha
 have hz:isAggT P t=false->(off<X.length/\0<P.cellsOf t)/\(off<Y.length/\0<P.cellsOf t):=fun e=>by
  obtain ⟨k,rfl⟩:=h1 e
  have h2:=hl (off+0,k) (by simp)
  have h3:=hw (0,k) (by simp)
  simp at h2 h3
  exact ⟨⟨h2.1,h3⟩,h2.2,h3⟩
 obtain ⟨px,p1,p2⟩:=part_rp hu hx (fun e=>(hz e).1) w
 obtain ⟨py,q1,q2⟩:=part_rp hu hy (fun e=>(hz e).2) w
 exact ⟨px,py,p1,q1,he _ _ _ _ _ w p2 q2 (aleaves_shift X Y off _ l hw ha)⟩

theorem eqFields_ok {g:TypeId->Option (List (Nat × LeafK))} {D:Nat} (hg:∀ t l,g t=some l->(∃ d,leafT P d t=some l)/\EqOk P C t l D) {X Y:List AVal} {vx vy:Array Value} (hx:RL C X vx.toList) (hy:RL C Y vy.toList) (w:World) :
  ∀ (fs:List Field) (l:List (Nat × LeafK)) (b:Bool),leafF (·.offset) g fs=some l->aleaves X Y l=some b->(Op.eqFields D vx vy fs).run P w=.ok b w
 | [],l,b,h,ha=>by
  simp only [leafF,Option.some.injEq] at h;subst h
  simp only [aleaves,Option.some.injEq] at ha;subst ha
  rfl
 | f :: r,l,b,h,ha=>by
  rw [leafF] at h
  split at h
  ·cases h
  ·rename_i hne
   simp only [Option.bind_eq_some_iff,Option.map_eq_some_iff] at h
   obtain ⟨l1,h1,l2,h2,rfl⟩:=h
   obtain ⟨b1,b2,e1,e2,rfl⟩:=aleaves_append X Y _ _ ha
   obtain ⟨⟨d,hd⟩,he⟩:=hg f.type l1 h1
   have hw:∀ p∈l1,p.1<P.cellsOf f.type:=by
    cases d with
    | zero=>cases hd
    | succ d=>rw [leafT] at hd;exact (within_spec hd).2
   obtain ⟨px,py,p1,p2,p3⟩:=part_leaf hd he hw hx hy e1 w
   have ih:=eqFields_ok hg hx hy w r l2 b2 h2 e2
   simp only [Op.eqFields,ne_eq,hne,not_false_eq_true,if_true,Sem.run_bind,p1,p2,p3,Result.andThen_ok]
   cases b1
   ·rfl
   ·simpa using ih

theorem eqItems_ok {d:Nat} {e:TypeId} {l:List (Nat × LeafK)} {D:Nat} (hd:leafT P d e=some l) (he:EqOk P C e l D) {X Y:List AVal} {vx vy:Array Value} (hx:RL C X vx.toList) (hy:RL C Y vy.toList) (w:World) :
  ∀ (is:List Nat) (b:Bool),aleaves X Y (is.flatMap fun i=>l.map fun p=>(i * P.cellsOf e+p.1,p.2))=some b->(Op.eqItems D e (P.cellsOf e) vx vy is).run P w=.ok b w
 | [],b,ha=>by
  simp only [List.flatMap_nil,aleaves,Option.some.injEq] at ha;subst ha;rfl
 | i :: r,b,ha=>by
  rw [List.flatMap_cons] at ha
  obtain ⟨b1,b2,e1,e2,rfl⟩:=aleaves_append X Y _ _ ha
  have hw:∀ p∈l,p.1<P.cellsOf e:=by
   cases d with
   | zero=>cases hd
   | succ d=>rw [leafT] at hd;exact (within_spec hd).2
  obtain ⟨px,py,p1,p2,p3⟩:=part_leaf hd he hw hx hy e1 w
  have ih:=eqItems_ok hd he hx hy w r b2 e2
  simp only [Op.eqItems,Sem.run_bind,p1,p2,p3,Result.andThen_ok]
  cases b1
  ·rfl
  ·simpa using ih

theorem rp_scalar {t:TypeId} {X:List AVal} {px:Value} {td:TypeDesc} (hu:P.underlying t=some td) (hs:∀ fs,td≠.struct fs) (ha:∀ n e,td≠.array n e) (h:RP P C t X px):∃ a,X[0]?=some a/\RV C a px:=by
 have:isAggT P t=false:=by
  unfold isAggT;rw [hu]
  cases td<;>first | rfl | exact absurd rfl (hs _) | exact absurd rfl (ha _ _)
 unfold RP at h
 rw [this] at h
 simpa using h

theorem eqOk:∀ (d:Nat) (t:TypeId) (l:List (Nat × LeafK)) (D:Nat),d<=D->leafT P d t=some l->EqOk P C t l D
 | 0,t,l,D,_,h=>by cases h
 | d + 1,t,l,D,hD,h=>by
  obtain ⟨D,rfl⟩:∃ D',D=D'+1:=⟨D - 1,by omega⟩
  rw [leafT] at h
  obtain ⟨h,_⟩:=within_spec h
  intro X Y px py b w hx hy ha
  have one:∀ {k:LeafK},l=[(0,k)]->∀ {a c:AVal},X[0]?=some a->Y[0]?=some c->aleaf k a c=some b:=by
   rintro k rfl a c h1 h2
   simp only [aleaves,h1,h2,Option.bind_some,Option.bind_eq_some_iff,Option.map_some,Option.some.injEq,Bool.and_true] at ha
   obtain ⟨b',h3,h4⟩:=ha
   rw [h3,h4]
  cases hu:P.underlying t with
  | none=>rw [hu] at h;cases h
  | some td =>
   rw [hu] at h
   cases td with
   | bool =>
    cases h
    obtain ⟨a,h1,h2⟩:=rp_scalar hu (by simp) (by simp) hx
    obtain ⟨c,h3,h4⟩:=rp_scalar hu (by simp) (by simp) hy
    obtain ⟨p,q,rfl,rfl,rfl⟩:=leaf_scalar h2 h4 (one rfl h1 h3)
    exact run_equalIn_bool w D t p q hu
   | int k0 =>
    cases h
    obtain ⟨a,h1,h2⟩:=rp_scalar hu (by simp) (by simp) hx
    obtain ⟨c,h3,h4⟩:=rp_scalar hu (by simp) (by simp) hy
    obtain ⟨k,p,q,rfl,rfl,rfl⟩:=leaf_scalar h2 h4 (one rfl h1 h3)
    simp only [Op.equalIn,Sem.run_bind,run_underlying hu,Result.andThen_ok,if_true,Sem.run_pure]
    by_cases hpq:p=q<;>simp [hpq]
   | string =>
    cases h
    obtain ⟨a,h1,h2⟩:=rp_scalar hu (by simp) (by simp) hx
    obtain ⟨c,h3,h4⟩:=rp_scalar hu (by simp) (by simp) hy
    obtain ⟨p,q,rfl,rfl,rfl⟩:=leaf_scalar h2 h4 (one rfl h1 h3)
    rw [run_equalIn_string w D t p q hu,beq_toListBytes]
   | array n e =>
    simp only [Option.map_eq_some_iff] at h
    obtain ⟨l',h1,rfl⟩:=h
    have hag:isAggT P t=true:=by unfold isAggT;rw [hu]
    unfold RP at hx hy
    rw [hag] at hx hy
    simp only [if_true] at hx hy
    obtain ⟨vx,rfl,hx⟩:=hx
    obtain ⟨vy,rfl,hy⟩:=hy
    obtain ⟨⟨td,hue⟩,_⟩:=leaf_nonempty h1
    obtain ⟨i,hi⟩:=info_of_underlying hue
    rw [run_equalIn_array w D vx vy hu hi]
    exact eqItems_ok h1 (eqOk d e l' D (by omega) h1) hx hy w _ b ha
   | struct fs =>
    simp only [] at h
    split at h
    ·cases h
    ·rename_i hst
     have hag:isAggT P t=true:=by unfold isAggT;rw [hu]
     unfold RP at hx hy
     rw [hag] at hx hy
     simp only [if_true] at hx hy
     obtain ⟨vx,rfl,hx⟩:=hx
     obtain ⟨vy,rfl,hy⟩:=hy
     have hf:P.fieldsOf t=fs:=by unfold Program.fieldsOf;rw [hu]
     rw [run_equalIn_struct w D t vx vy (by rw [hf];exact hu) (by simpa using hst),hf]
     exact eqFields_ok (fun t' l' h'=>⟨⟨d,h'⟩,eqOk d t' l' D (by omega) h'⟩) hx hy w _ l b h ha
   | _=>cases h

theorem eqGuard_other {op:BinOp} {t:TypeId} {x y:Operand} {a b:Value} (h1:¬ (a=.nilIface/\b=.nilIface)) (h2:∀ xs ys,¬ (a=.agg xs/\b=.agg ys)) (w:World):(eqGuard op t x y a b).run P w=.ok () w:=by
  unfold eqGuard
  split<;>first
    | rfl
    | (simp only [Bool.not_true,Bool.false_eq_true,if_false]
       split
       · exact absurd ⟨rfl,rfl⟩ h1
       · exact absurd ⟨rfl,rfl⟩ (h2 _ _)
       · rfl)

theorem run_neg {s:Sem Bool} {b:Bool} {w:World} (h:s.run P w=.ok b w):(do pure (.bool (!(<- s))):Sem Value).run P w=.ok (.bool (!b)) w:=by
 simp [h]
end
end Go.AM
namespace Go.AM
section
variable {callee:Callee} {P:Program} {C:Ctx} {H H':Heap} {v:AVal} {ρ:Opd->AVal} {ρr:Operand->Value}

structure RO' (C:Ctx) (ρ:Opd->AVal) (ρr:Operand->Value):Prop where
 ro:RO C ρ ρr
 con:∀ v,ρ (.c v)=v

theorem nil_operand {d:TypeDesc} {x:Operand} {a:Opd} {k:NilK} (hρ:RO' C ρ ρr) (hn:nilFits d x=some k) (ha:opd x=some a) :
  (∃ c,x=.const c)/\match k with
  | .ptr=>(∃ e,d=.pointer e)/\ρr x=.pointer none
  | .slice=>(∃ e,d=.slice e)/\∃ n c,ρr x=.slice none n c
  | .func=>(∃ p q r,d=.func p q r)/\ρr x=.nilFunc
  | .iface=>(∃ m,d=.interface m)/\ρr x=.nilIface
  | .map=>(∃ p q,d=.map p q)/\ρr x=.map none:=by
 have hx:=hρ.ro x a ha
 unfold nilFits at hn
 split at hn<;>cases hn
 ·simp only [opd,ofC,ofV,Option.map_some,Option.some.injEq] at ha;subst ha;rw [hρ.con] at hx
  exact ⟨⟨_,rfl⟩,⟨_,rfl⟩,hx⟩
 ·rename_i e l c
  have:l=0/\c=0:=by
   cases l with
   | zero=>cases c with
    | zero=>exact ⟨rfl,rfl⟩
    | succ c=>simp [opd,ofC,ofV] at ha
   | succ l=>simp [opd,ofC,ofV] at ha
  obtain ⟨rfl,rfl⟩:=this
  simp only [opd,ofC,ofV,Option.map_some,Option.some.injEq] at ha;subst ha;rw [hρ.con] at hx
  obtain ⟨ad,c,hx,_,_,h3,_⟩:=hx
  have:ad=none:=by cases ad with
   | none=>rfl
   | some _=>cases h3
  subst this
  exact ⟨⟨_,rfl⟩,⟨_,rfl⟩,_,_,hx⟩
 ·simp only [opd,ofC,ofV,Option.map_some,Option.some.injEq] at ha;subst ha;rw [hρ.con] at hx
  exact ⟨⟨_,rfl⟩,⟨_,_,_,rfl⟩,hx⟩
 ·simp only [opd,ofC,ofV,Option.map_some,Option.some.injEq] at ha;subst ha;rw [hρ.con] at hx
  exact ⟨⟨_,rfl⟩,⟨_,rfl⟩,hx⟩
 ·simp only [opd,ofC,ofV,Option.map_some,Option.some.injEq] at ha;subst ha;rw [hρ.con] at hx
  exact ⟨⟨_,rfl⟩,⟨_,_,rfl⟩,hx⟩

section
variable (D:Nat) {t:TypeId} (W:World)
theorem nq_ptr1 {e:TypeId} (hu:P.underlying t=some (.pointer e)) (p:Option Addr):(Op.equalIn (D+1) t (.pointer none) (.pointer p)).run P W=.ok p.isNone W:=by
 cases p<;>simp [Op.equalIn,run_underlying hu]
theorem nq_ptr2 {e:TypeId} (hu:P.underlying t=some (.pointer e)) (p:Option Addr):(Op.equalIn (D+1) t (.pointer p) (.pointer none)).run P W=.ok p.isNone W:=by
 cases p<;>simp [Op.equalIn,run_underlying hu]
theorem nq_slice1 {e:TypeId} (hu:P.underlying t=some (.slice e)) (p:Option Addr) (n c n' c'):(Op.equalIn (D+1) t (.slice none n c) (.slice p n' c')).run P W=.ok p.isNone W:=by
 cases p<;>simp [Op.equalIn,run_underlying hu]
theorem nq_slice2 {e:TypeId} (hu:P.underlying t=some (.slice e)) (p:Option Addr) (n c n' c'):(Op.equalIn (D+1) t (.slice p n' c') (.slice none n c)).run P W=.ok p.isNone W:=by
 cases p<;>simp [Op.equalIn,run_underlying hu]
theorem nq_func0 {a b c} (hu:P.underlying t=some (.func a b c)):(Op.equalIn (D+1) t .nilFunc .nilFunc).run P W=.ok true W:=by
 simp [Op.equalIn,run_underlying hu]
theorem nq_func1 {a b c} (hu:P.underlying t=some (.func a b c)) (f u v):(Op.equalIn (D+1) t .nilFunc (.func f u v)).run P W=.ok false W:=by
 simp [Op.equalIn,run_underlying hu]
theorem nq_func2 {a b c} (hu:P.underlying t=some (.func a b c)) (f u v):(Op.equalIn (D+1) t (.func f u v) .nilFunc).run P W=.ok false W:=by
 simp [Op.equalIn,run_underlying hu]
theorem nq_iface0 {m} (hu:P.underlying t=some (.interface m)):(Op.equalIn (D+1) t .nilIface .nilIface).run P W=.ok true W:=by
 simp [Op.equalIn,run_underlying hu]
theorem nq_iface1 {m} (hu:P.underlying t=some (.interface m)) (f v):(Op.equalIn (D+1) t .nilIface (.iface f v)).run P W=.ok false W:=by
 simp [Op.equalIn,run_underlying hu]
theorem nq_iface2 {m} (hu:P.underlying t=some (.interface m)) (f v):(Op.equalIn (D+1) t (.iface f v) .nilIface).run P W=.ok false W:=by
 simp [Op.equalIn,run_underlying hu]
theorem nq_map {a b} (hu:P.underlying t=some (.map a b)):(Op.equalIn (D+1) t (.map none) (.map none)).run P W=.ok true W:=by
 simp [Op.equalIn,run_underlying hu]
end

theorem run_eqs {neg:Bool} {t:TypeId} {x y:Operand} {u w:Value} {b:Bool} {W:World} (hg:(eqGuard (if neg then .neq else .eql) t x y u w).run P W=.ok () W)
  (hb:binOp (if neg then .neq else .eql) t u w=(do let c <- Op.equal t u w;pure (.bool (if neg then !c else c)))) (he:(Op.equal t u w).run P W=.ok b W) :
  (do eqGuard (if neg then .neq else .eql) t x y u w;binOp (if neg then .neq else .eql) t u w:Sem Value).run P W=.ok (.bool (if neg then !b else b)) W:=by
 rw [hb]
 simp only [Sem.run_bind,hg,he,Result.andThen_ok,Sem.run_pure]

theorem sim_compEq {neg:Bool} {t:TypeId} {d:TypeDesc} {x y:Operand} {a b:Opd} {iop:IOp} (hH:HR P C H) (hρ:RO' C ρ ρr) (hu:P.underlying t=some d) (ha:opd x=some a) (hb:opd y=some b)
  (hc:compEq P neg t d x y a b=some iop) (h:aop callee ρ H iop=some (v,H')) :
  ∃ r,(do eqGuard (if neg then .neq else .eql) t x y (ρr x) (ρr y);binOp (if neg then .neq else .eql) t (ρr x) (ρr y):Sem Value).run P C.w=.ok r C.w/\RV C v r/\H'=H:=by
 have hx:=hρ.ro x a ha
 have hy:=hρ.ro y b hb
 unfold compEq at hc
 split at hc
 ·rename_i k hk
  cases hc
  simp only [aop,Option.map_eq_some_iff,Prod.mk.injEq] at h
  obtain ⟨c,hc,rfl,rfl⟩:=h
  have hr:=anil_rel hy hc
  obtain ⟨⟨cc,hcc⟩,hn⟩:=nil_operand hρ hk ha
  refine ⟨.bool (if neg then !c else c),?_,rfl,rfl⟩
  cases k with
  | ptr =>
   obtain ⟨⟨e,rfl⟩,hx'⟩:=hn
   obtain ⟨p,hy',rfl⟩:=hr
   rw [hx',hy']
   refine run_eqs (eqGuard_other (by simp) (by simp) _) (by cases neg<;>rfl) ?_
   exact nq_ptr1 9999 _ hu _
  | slice =>
   obtain ⟨⟨e,rfl⟩,n,m,hx'⟩:=hn
   obtain ⟨p,n',m',hy',rfl⟩:=hr
   rw [hx',hy']
   refine run_eqs (eqGuard_other (by simp) (by simp) _) (by cases neg<;>rfl) ?_
   exact nq_slice1 9999 _ hu _ _ _ _ _
  | func =>
   obtain ⟨⟨_,_,_,rfl⟩,hx'⟩:=hn
   rcases hr with ⟨hy',rfl⟩ | ⟨_,_,_,hy',rfl⟩
   ·rw [hx',hy']
    refine run_eqs (eqGuard_other (by simp) (by simp) _) (by cases neg<;>rfl) ?_
    exact nq_func0 9999 _ hu
   ·rw [hx',hy']
    refine run_eqs (eqGuard_other (by simp) (by simp) _) (by cases neg<;>rfl) ?_
    exact nq_func1 9999 _ hu _ _ _
  | iface =>
   obtain ⟨⟨_,rfl⟩,hx'⟩:=hn
   rcases hr with ⟨hy',rfl⟩ | ⟨_,_,hy',rfl⟩
   ·rw [hx',hy']
    refine run_eqs ?_ (by cases neg<;>rfl) ?_
    ·subst hcc
     cases neg<;>simp [eqGuard]
    ·exact nq_iface0 9999 _ hu
   ·rw [hx',hy']
    refine run_eqs (eqGuard_other (by simp) (by simp) _) (by cases neg<;>rfl) ?_
    exact nq_iface1 9999 _ hu _ _
  | map =>
   obtain ⟨⟨_,_,rfl⟩,hx'⟩:=hn
   obtain ⟨hy',rfl⟩:=hr
   rw [hx',hy']
   refine run_eqs (eqGuard_other (by simp) (by simp) _) (by cases neg<;>rfl) ?_
   exact nq_map 9999 _ hu
 ·split at hc
  ·rename_i k hk
   cases hc
   simp only [aop,Option.map_eq_some_iff,Prod.mk.injEq] at h
   obtain ⟨c,hc,rfl,rfl⟩:=h
   have hr:=anil_rel hx hc
   obtain ⟨⟨cc,hcc⟩,hn⟩:=nil_operand hρ hk hb
   refine ⟨.bool (if neg then !c else c),?_,rfl,rfl⟩
   cases k with
   | ptr =>
    obtain ⟨⟨e,rfl⟩,hx'⟩:=hn
    obtain ⟨p,hy',rfl⟩:=hr
    rw [hx',hy']
    refine run_eqs (eqGuard_other (by simp) (by simp) _) (by cases neg<;>cases p<;>rfl) ?_
    exact nq_ptr2 9999 _ hu _
   | slice =>
    obtain ⟨⟨e,rfl⟩,n,m,hx'⟩:=hn
    obtain ⟨p,n',m',hy',rfl⟩:=hr
    rw [hx',hy']
    refine run_eqs (eqGuard_other (by simp) (by simp) _) (by cases neg<;>rfl) ?_
    exact nq_slice2 9999 _ hu _ _ _ _ _
   | func =>
    obtain ⟨⟨_,_,_,rfl⟩,hx'⟩:=hn
    rcases hr with ⟨hy',rfl⟩ | ⟨_,_,_,hy',rfl⟩
    ·rw [hx',hy']
     refine run_eqs (eqGuard_other (by simp) (by simp) _) (by cases neg<;>rfl) ?_
     exact nq_func0 9999 _ hu
    ·rw [hx',hy']
     refine run_eqs (eqGuard_other (by simp) (by simp) _) (by cases neg<;>rfl) ?_
     exact nq_func2 9999 _ hu _ _ _
   | iface =>
    obtain ⟨⟨_,rfl⟩,hx'⟩:=hn
    rcases hr with ⟨hy',rfl⟩ | ⟨_,_,hy',rfl⟩
    ·rw [hx',hy']
     refine run_eqs ?_ (by cases neg<;>rfl) ?_
     ·subst hcc
      cases neg<;>simp [eqGuard]
     ·exact nq_iface0 9999 _ hu
    ·rw [hx',hy']
     refine run_eqs (eqGuard_other (by simp) (by simp) _) (by cases neg<;>rfl) ?_
     exact nq_iface2 9999 _ hu _ _
   | map =>
    obtain ⟨⟨_,_,rfl⟩,hx'⟩:=hn
    obtain ⟨hy',rfl⟩:=hr
    rw [hx',hy']
    refine run_eqs (eqGuard_other (by simp) (by simp) _) (by cases neg<;>rfl) ?_
    exact nq_map 9999 _ hu
  ·have agg:∀ l,P.eqGuardType P.depth t=false->leafT P depthL t=some l->isAggT P t=true->iop=.eqA neg l a b ->
     ∃ r,(do eqGuard (if neg then .neq else .eql) t x y (ρr x) (ρr y);binOp (if neg then .neq else .eql) t (ρr x) (ρr y):Sem Value).run P C.w=.ok r C.w/\RV C v r/\H'=H:=by
    rintro l hg hl hag rfl
    simp only [aop] at h
    split at h
    ·rename_i xs ys hxs hys
     simp only [Option.map_eq_some_iff,Prod.mk.injEq] at h
     obtain ⟨c,hc,rfl,rfl⟩:=h
     rw [hxs] at hx;rw [hys] at hy
     have hk:=eqOk (P:=P) (C:=C) depthL t l Op.maxDepth (by decide) hl xs ys (ρr x) (ρr y) c C.w
     obtain ⟨vx,e1,_,hx⟩:=hx
     obtain ⟨vy,e2,_,hy⟩:=hy
     rw [e1,e2] at hk ⊢
     refine ⟨.bool (if neg then !c else c),run_eqs (run_eqGuard_agg (P:=P) C.w _ _ _ _ _ _ hg) (by cases neg<;>rfl) ?_,rfl,rfl⟩
     exact hk (by unfold RP;rw [hag];exact ⟨vx,rfl,hx⟩) (by unfold RP;rw [hag];exact ⟨vy,rfl,hy⟩) hc
    ·cases h
   split at hc
   ·cases hc
    simp only [aop,Option.map_eq_some_iff,Prod.mk.injEq] at h
    obtain ⟨c,hc,rfl,rfl⟩:=h
    obtain ⟨p,q,e1,e2,rfl⟩:=leaf_scalar hx hy hc
    rw [e1,e2]
    refine ⟨.bool (if neg then !(p == q) else (p == q)),run_eqs (eqGuard_other (by simp) (by simp) _) (by cases neg<;>rfl) ?_,rfl,rfl⟩
    exact run_equal_bool C.w t p q hu
   ·split at hc
    ·cases hc
    ·rename_i hg
     simp only [Option.map_eq_some_iff] at hc
     obtain ⟨l,hl,rfl⟩:=hc
     exact agg l (by simpa using hg) hl (by unfold isAggT;rw [hu]) rfl
   ·split at hc
    ·cases hc
    ·rename_i hg
     simp only [Option.map_eq_some_iff] at hc
     obtain ⟨l,hl,rfl⟩:=hc
     exact agg l (by simpa using hg) hl (by unfold isAggT;rw [hu]) rfl
   ·cases hc
end
end Go.AM
namespace Go.AM
section
variable {callee:Callee} {P:Program} {C:Ctx} {H H':Heap} {v:AVal} {ρ:Opd->AVal} {ρr:Operand->Value} {o:Oper}

theorem op_copy {x:Operand} {a:Opd} (hH:HR P C H) (hρ:RO' C ρ ρr) (he:execOp ρr o=pure (.value (ρr x))) (ha:opd x=some a) (h:aop callee ρ H (.copy a)=some (v,H')) :
  Goes P (execOp ρr o) C.w (After P C v H'):=by
 simp only [aop,Option.some.injEq,Prod.mk.injEq] at h
 obtain ⟨rfl,rfl⟩:=h
 rw [he]
 exact Goes.value rfl (After.same hH (hρ.ro x a ha))

theorem op_pick {c x y:Operand} {c' a b:Opd} (hH:HR P C H) (hρ:RO' C ρ ρr) (he:execOp ρr o=(do pure (.value (if <- asBool (ρr c) then ρr x else ρr y)))) (hc:opd c=some c') (ha:opd x=some a) (hb:opd y=some b)
  (h:aop callee ρ H (.pick c' a b)=some (v,H')):Goes P (execOp ρr o) C.w (After P C v H'):=by
 simp only [aop] at h
 split at h
 ·rename_i t ht
  simp only [Option.some.injEq,Prod.mk.injEq] at h
  obtain ⟨rfl,rfl⟩:=h
  have h1:=hρ.ro c c' hc
  rw [ht] at h1
  have h1:ρr c=.bool t:=h1
  rw [he]
  refine Goes.value (v:=if t then ρr x else ρr y) (w':=C.w) (by simp [h1,asBool]) ?_
  cases t
  ·exact After.same hH (hρ.ro y b hb)
  ·exact After.same hH (hρ.ro x a ha)
 ·cases h

theorem op_load {t:TypeId} {x:Operand} {a:Opd} {ag n} (hH:HR P C H) (hρ:RO' C ρ ρr) (he:execOp ρr o=valS (Instr.loadAt t (ρr x))) (hu:(P.underlying t).isSome=true) (hag:isAggT P t=ag) (hn:P.cellsOf t=n)
  (ha:opd x=some a) (h:aop callee ρ H (.load ag n a)=some (v,H')):Goes P (execOp ρr o) C.w (After P C v H'):=by
 simp only [aop,Option.map_eq_some_iff,Prod.mk.injEq] at h
 obtain ⟨u,hl,rfl,rfl⟩:=h
 obtain ⟨d,hd⟩:=Option.isSome_iff_exists.1 hu
 obtain ⟨r,hr,hv⟩:=sim_load hH hd hag hn (hρ.ro x a ha) hl
 rw [he]
 exact goes_read hH hr hv

theorem op_nilCheck {x:Operand} {a:Opd} (hH:HR P C H) (hρ:RO' C ρ ρr) (he:o.op=.nilCheck x) (ha:opd x=some a) (h:aop callee ρ H (.nilCheck a)=some (v,H')) :
  Goes P (execOp ρr o) C.w (After P C v H'):=by
 have hx:=hρ.ro x a ha
 have fin:∀ {u:AVal},RV C u (ρr x)->(∀ first cap,ρr x≠.pointer none/\ρr x≠.nilIface/\ρr x≠.nilFunc/\∀ m,ρr x≠.func (.method m) first cap)->Goes P (execOp ρr o) C.w (After P C u H):=by
  intro u hu hne
  refine Goes.value (v:=ρr x) (w':=C.w) ?_ (After.same hH hu)
  unfold execOp
  simp only [he]
  split
  ·rename_i e;exact absurd e (hne #[] #[]).1
  ·rename_i e;exact absurd e (hne #[] #[]).2.1
  ·rename_i e;exact absurd e (hne #[] #[]).2.2.1
  ·rename_i e;exact absurd e ((hne _ _).2.2.2 _)
  ·rfl
 simp only [aop] at h
 split at h
 ·rename_i e
  cases h
  rw [e] at hx
  exact fin hx (fun _ _=>by obtain ⟨_,e,_⟩:=hx;rw [e];simp)
 ·rename_i e
  cases h
  rw [e] at hx
  exact fin hx (fun _ _=>by obtain ⟨_,_,_,e,_⟩:=hx;rw [e];simp)
 ·rename_i e
  split at h
  ·cases h
   rw [e] at hx
   exact fin hx (fun _ _=>by obtain ⟨_,_,e,_⟩:=hx;rw [e];simp)
  ·cases h
 ·rename_i e
  cases h
  rw [e] at hx
  exact fin hx (fun _ _=>by obtain ⟨_,e,_⟩:=hx;rw [e];simp)
 ·cases h

theorem op_bin {op:BinOp} {t:TypeId} {x y:Operand} {a b:Opd} (hH:HR P C H) (hρ:RO' C ρ ρr) (he:execOp ρr o=valS (do eqGuard op t x y (ρr x) (ρr y);binOp op t (ρr x) (ρr y))) (ha:opd x=some a) (hb:opd y=some b)
  (h:aop callee ρ H (.bin op a b)=some (v,H')):Goes P (execOp ρr o) C.w (After P C v H'):=by
 simp only [aop,Option.map_eq_some_iff,Prod.mk.injEq] at h
 obtain ⟨u,hl,rfl,rfl⟩:=h
 obtain ⟨r,hr,hv⟩:=sim_bin (P:=P) (op:=op) (t:=t) (yt:=t) (w:=C.w) (hρ.ro x a ha) (hρ.ro y b hb) hl
 rw [he]
 exact goes_read hH hr hv

theorem op_eqs {op:BinOp} {neg:Bool} {t:TypeId} {d:TypeDesc} {x y:Operand} {a b:Opd} {iop:IOp} (hH:HR P C H) (hρ:RO' C ρ ρr) (he:execOp ρr o=valS (do eqGuard op t x y (ρr x) (ρr y);binOp op t (ρr x) (ρr y)))
  (hop:op=if neg then .neq else .eql) (hu:P.underlying t=some d) (ha:opd x=some a) (hb:opd y=some b) (hc:compEq P neg t d x y a b=some iop)
  (h:aop callee ρ H iop=some (v,H')):Goes P (execOp ρr o) C.w (After P C v H'):=by
 subst hop
 obtain ⟨r,hr,hv,rfl⟩:=sim_compEq hH hρ hu ha hb hc h
 rw [he]
 exact goes_read hH hr hv

theorem op_un {op:UnOp} {x:Operand} {a:Opd} (hH:HR P C H) (hρ:RO' C ρ ρr) (he:execOp ρr o=valS (Op.unary op (ρr x))) (ha:opd x=some a) (h:aop callee ρ H (.un op a)=some (v,H')) :
  Goes P (execOp ρr o) C.w (After P C v H'):=by
 simp only [aop,Option.map_eq_some_iff,Prod.mk.injEq] at h
 obtain ⟨u,hl,rfl,rfl⟩:=h
 obtain ⟨r,hr,hv⟩:=sim_un (P:=P) (w:=C.w) (hρ.ro x a ha) hl
 rw [he]
 exact goes_read hH hr hv

theorem op_toInt {s d:TypeId} {k k':IntKind} {x:Operand} {a:Opd} (hH:HR P C H) (hρ:RO' C ρ ρr) (he:execOp ρr o=valS (convert s d (ρr x))) (hs:P.underlying s=some (.int k')) (hd:P.underlying d=some (.int k))
  (ha:opd x=some a) (h:aop callee ρ H (.toInt k a)=some (v,H')):Goes P (execOp ρr o) C.w (After P C v H'):=by
 have hx:=hρ.ro x a ha
 simp only [aop] at h
 split at h
 ·rename_i k2 n e
  simp only [Option.some.injEq,Prod.mk.injEq] at h
  obtain ⟨rfl,rfl⟩:=h
  rw [e] at hx
  have hx:ρr x=_:=hx
  rw [he,hx]
  refine goes_read (r:=.int k (k.wrap n)) hH ?_ rfl
  simp [convert,run_underlying hs,run_underlying hd,Conv.intToInt]
 ·cases h

theorem op_cpStr {s d:TypeId} {x:Operand} {a:Opd} (hH:HR P C H) (hρ:RO' C ρ ρr) (he:execOp ρr o=valS (convert s d (ρr x))) (hs:P.underlying s=some .string) (hd:P.underlying d=some .string)
  (ha:opd x=some a) (h:aop callee ρ H (.cpStr a)=some (v,H')):Goes P (execOp ρr o) C.w (After P C v H'):=by
 have hx:=hρ.ro x a ha
 simp only [aop] at h
 split at h
 ·rename_i n e
  simp only [Option.some.injEq,Prod.mk.injEq] at h
  obtain ⟨rfl,rfl⟩:=h
  rw [e] at hx
  have hx:ρr x=_:=hx
  rw [he,hx]
  refine goes_read (r:=.string n) hH ?_ rfl
  simp [convert,run_underlying hs,run_underlying hd]
 ·cases h

theorem op_toStr {s d e:TypeId} {x:Operand} {a:Opd} (hH:HR P C H) (hρ:RO' C ρ ρr) (he:execOp ρr o=valS (convert s d (ρr x))) (hs:P.underlying s=some (.slice e)) (hu:P.underlying e=some (.int .u8)) (hd:P.underlying d=some .string)
  (ha:opd x=some a) (h:aop callee ρ H (.toStr a)=some (v,H')):Goes P (execOp ρr o) C.w (After P C v H'):=by
 have hx:=hρ.ro x a ha
 rw [he]
 simp only [aop] at h
 split at h
 ·rename_i n e
  simp only [Option.some.injEq,Prod.mk.injEq] at h
  obtain ⟨rfl,rfl⟩:=h
  rw [e] at hx
  have hx:ρr x=_:=hx
  rw [hx]
  refine goes_read (r:=.string n) hH ?_ rfl
  simp [convert,run_underlying hs,run_underlying hd]
 ·simp only [Option.bind_eq_some_iff,Option.map_eq_some_iff,Prod.mk.injEq] at h
  obtain ⟨⟨fl,es⟩,hc,l,hb,rfl,rfl⟩:=h
  have hrows:rowsOk 1 es=true:=by
   refine rowsOk_of ?_
   clear hc
   induction es generalizing l with
   | nil=>simp
   | cons c r ih =>
    unfold bytesOf at hb
    split at hb
    ·rename_i heq;cases heq
    ·rename_i n r' heq
     cases heq
     simp only [Option.map_eq_some_iff] at hb
     obtain ⟨l',hl,rfl⟩:=hb
     intro q hq
     rcases List.mem_cons.1 hq with rfl | hq
     ·rfl
     ·exact ih l' hl q hq
    ·cases hb
  obtain ⟨ad,c,xs,e1,e2,e3,e4,e5,e6,e7,_⟩:=content_rel (sz:=1) hH hx hc hrows
  obtain ⟨ns,rfl,rfl⟩:=bytesOf_rel e5 hb
  rw [e1]
  have hconv:(convert s d (.slice ad es.length c)).run P C.w=(Conv.bytesToString (.slice ad es.length c)).run P C.w:=by
   cases ad<;>simp [convert,run_underlying hs,run_underlying hd,run_underlying hu]
  cases ad with
  | none =>
   have:=e3 rfl
   subst this
   have hns:ns=[]:=by
    simp only [List.flatten_nil,RL] at e5
    simpa using e5
   subst hns
   refine goes_read (r:=.string .empty) hH ?_ ?_
   ·rw [hconv];rfl
   ·rfl
  | some b =>
   refine goes_read hH (hconv.trans (run_bytesToString C.w b es.length c ns ?_)) ?_
   ·have hl:es.length=(ns.map (Value.int .u8)).length:=by rw [e4];omega
    rw [hl]
    exact run_loadCells_list C.w b _ (e7 b rfl)
   ·rw [foldl_push]
    show _=_
    congr 2
    simp [ByteArray.empty,ByteArray.emptyWithCapacity]
    rfl

theorem op_mkFunc {fn:Fn} {first cap:Array Operand} {fs cs:List Opd} (hH:HR P C H) (hρ:RO' C ρ ρr) (he:execOp ρr o=valS (Instr.makeFunc fn (first.map ρr) (cap.map ρr))) (ha:opds first.toList=some fs) (hb:opds cap.toList=some cs)
  (h:aop callee ρ H (.mkFunc fn fs cs)=some (v,H')):Goes P (execOp ρr o) C.w (After P C v H'):=by
 simp only [aop,Option.some.injEq,Prod.mk.injEq] at h
 obtain ⟨rfl,rfl⟩:=h
 rw [he]
 refine goes_read (r:=.func fn (first.map ρr) (cap.map ρr)) hH rfl ⟨_,_,rfl,?_,?_⟩
 ·simpa using hρ.ro.list ha
 ·simpa using hρ.ro.list hb

theorem op_mkIface {t:TypeId} {d:TypeDesc} {x:Operand} {a:Opd} (hH:HR P C H) (hρ:RO' C ρ ρr) (he:execOp ρr o=valS (Instr.makeInterface t (ρr x))) (hu:P.underlying t=some d) (hd:∀ m,d≠.interface m)
  (ha:opd x=some a) (h:aop callee ρ H (.mkIface t a)=some (v,H')):Goes P (execOp ρr o) C.w (After P C v H'):=by
 simp only [aop,Option.some.injEq,Prod.mk.injEq] at h
 obtain ⟨rfl,rfl⟩:=h
 rw [he]
 refine goes_read (r:=.iface t (ρr x)) hH ?_ ⟨_,rfl,hρ.ro x a ha⟩
 unfold Instr.makeInterface
 simp only [Sem.run_bind,run_underlying hu,Result.andThen_ok]
 rfl

theorem op_fieldA {t:TypeId} {fs:Array Field} {f:Nat} {fd:Field} {x:Operand} {a:Opd} (hH:HR P C H) (hρ:RO' C ρ ρr) (he:execOp ρr o=valS (Instr.fieldAt t (ρr x) f)) (hu:P.underlying t=some (.struct fs)) (hf:fs[f]?=some fd) (h0:P.cellsOf fd.type≠0)
  (ha:opd x=some a) (h:aop callee ρ H (.fieldA fd.offset a)=some (v,H')):Goes P (execOp ρr o) C.w (After P C v H'):=by
 simp only [aop,Option.map_eq_some_iff,Prod.mk.injEq] at h
 obtain ⟨u,hl,rfl,rfl⟩:=h
 obtain ⟨ad,hx,hv⟩:=addOff_rel hH (hρ.ro x a ha) hl
 rw [he,hx]
 refine goes_read hH ?_ hv
 simp [Instr.fieldAt,run_underlying hu,hf,Instr.sureAddr,fieldPlace_run h0]

theorem op_fieldV {t:TypeId} {fs:Array Field} {f:Nat} {fd:Field} {x:Operand} {a:Opd} (hH:HR P C H) (hρ:RO' C ρ ρr) (he:execOp ρr o=valS (Instr.field t (ρr x) f)) (hu:P.underlying t=some (.struct fs)) (hf:fs[f]?=some fd) (hd:(P.underlying fd.type).isSome=true)
  (ha:opd x=some a) (h:aop callee ρ H (.fieldV (isAggT P fd.type) (P.cellsOf fd.type) fd.offset a)=some (v,H')):Goes P (execOp ρr o) C.w (After P C v H'):=by
 have hx:=hρ.ro x a ha
 simp only [aop] at h
 split at h
 ·rename_i cs e
  simp only [Option.map_eq_some_iff,Prod.mk.injEq] at h
  obtain ⟨u,hl,rfl,rfl⟩:=h
  rw [e] at hx
  obtain ⟨vs,hx1,hx2,hx3⟩:=hx
  obtain ⟨td,htd⟩:=Option.isSome_iff_exists.1 hd
  obtain ⟨r,hr,hv⟩:=get1_rel htd rfl rfl hx3 hx2 hl C.w
  rw [he,hx1]
  refine goes_read hH ?_ hv
  simp [Instr.field,run_underlying hu,hf,asAgg,hr]
 ·cases h

theorem op_idxS {t e:TypeId} {x i:Operand} {a b:Opd} (hH:HR P C H) (hρ:RO' C ρ ρr) (he:execOp ρr o=valS (Instr.indexAt t (ρr x) (ρr i))) (hu:P.underlying t=some (.slice e)) (hi:(P.info? e).isSome=true)
  (ha:opd x=some a) (hb:opd i=some b) (h:aop callee ρ H (.idxS (P.cellsOf e) a b)=some (v,H')):Goes P (execOp ρr o) C.w (After P C v H'):=by
 simp only [aop,Option.bind_eq_some_iff,Option.map_eq_some_iff,Prod.mk.injEq] at h
 obtain ⟨n,hn,u,hl,rfl,rfl⟩:=h
 obtain ⟨k,hk⟩:=asNat_rel (hρ.ro i b hb) hn
 obtain ⟨ad,m,c,hx,hlt,hv⟩:=aidxS_rel hH (hρ.ro x a ha) hl
 rw [he,hx,hk]
 refine goes_read hH ?_ hv
 have:(n:Int)<(m:Int):=by omega
 simp [Instr.indexAt,asIntOf,run_underlying hu,this,hlt,Nat.not_le.2 hlt,run_sizeOf' hi]

theorem op_idxA {t e:TypeId} {len:Nat} {x i:Operand} {a b:Opd} (hH:HR P C H) (hρ:RO' C ρ ρr) (he:execOp ρr o=valS (Instr.indexAt t (ρr x) (ρr i))) (hu:P.underlying t=some (.array len e)) (hi:(P.info? e).isSome=true)
  (ha:opd x=some a) (hb:opd i=some b) (h:aop callee ρ H (.idxA len (P.cellsOf e) a b)=some (v,H')):Goes P (execOp ρr o) C.w (After P C v H'):=by
 simp only [aop,Option.bind_eq_some_iff] at h
 obtain ⟨n,hn,h⟩:=h
 split at h
 ·rename_i hlt
  simp only [Option.map_eq_some_iff,Prod.mk.injEq] at h
  obtain ⟨u,hl,rfl,rfl⟩:=h
  obtain ⟨k,hk⟩:=asNat_rel (hρ.ro i b hb) hn
  obtain ⟨ad,hx,hv⟩:=addOff_rel hH (hρ.ro x a ha) hl
  rw [he,hx,hk]
  refine goes_read hH ?_ hv
  have:(n:Int)<(len:Int):=by omega
  simp [Instr.indexAt,asIntOf,run_underlying hu,this,hlt,Nat.not_le.2 hlt,run_sizeOf' hi,Instr.sureAddr]
 ·cases h

theorem op_idxV {t e:TypeId} {len:Nat} {x i:Operand} {a b:Opd} (hH:HR P C H) (hρ:RO' C ρ ρr) (he:execOp ρr o=valS (Instr.index t (ρr x) (ρr i))) (hu:P.underlying t=some (.array len e)) (hd:(P.underlying e).isSome=true)
  (ha:opd x=some a) (hb:opd i=some b) (h:aop callee ρ H (.idxV (isAggT P e) len (P.cellsOf e) a b)=some (v,H')):Goes P (execOp ρr o) C.w (After P C v H'):=by
 have hx:=hρ.ro x a ha
 simp only [aop,Option.bind_eq_some_iff] at h
 obtain ⟨n,hn,h⟩:=h
 split at h
 ·rename_i cs e'
  split at h
  ·rename_i hlt
   simp only [Option.map_eq_some_iff,Prod.mk.injEq] at h
   obtain ⟨u,hl,rfl,rfl⟩:=h
   obtain ⟨k,hk⟩:=asNat_rel (hρ.ro i b hb) hn
   rw [e'] at hx
   obtain ⟨vs,hx1,hx2,hx3⟩:=hx
   obtain ⟨td,htd⟩:=Option.isSome_iff_exists.1 hd
   obtain ⟨r,hr,hv⟩:=get1_rel htd rfl rfl hx3 hx2 hl C.w
   rw [he,hx1,hk]
   refine goes_read hH ?_ hv
   have:(n:Int)<(len:Int):=by omega
   simp [Instr.index,asIntOf,run_underlying hu,this,hlt,Nat.not_le.2 hlt,run_sizeOf htd,hr]
  ·cases h
 ·cases h

theorem op_idxStr {t:TypeId} {x i:Operand} {a b:Opd} (hH:HR P C H) (hρ:RO' C ρ ρr) (he:execOp ρr o=valS (Instr.index t (ρr x) (ρr i))) (hu:P.underlying t=some .string)
  (ha:opd x=some a) (hb:opd i=some b) (h:aop callee ρ H (.idxStr a b)=some (v,H')):Goes P (execOp ρr o) C.w (After P C v H'):=by
 have hx:=hρ.ro x a ha
 simp only [aop,Option.bind_eq_some_iff] at h
 obtain ⟨n,hn,h⟩:=h
 split at h
 ·rename_i s e'
  simp only [Option.map_eq_some_iff,Prod.mk.injEq] at h
  obtain ⟨u,hl,rfl,rfl⟩:=h
  obtain ⟨k,hk⟩:=asNat_rel (hρ.ro i b hb) hn
  rw [e'] at hx
  have hx:ρr x=_:=hx
  rw [he,hx,hk]
  refine goes_read (r:=.int .u8 u.toNat) hH ?_ rfl
  have hs:s[n]?=some u:=by
   rw [ByteArray.toList_eq] at hl
   have h1:s.data[n]?=some u:=by simpa using hl
   obtain ⟨h2,h3⟩:=Array.getElem?_eq_some_iff.1 h1
   have h4:n<s.size:=h2
   rw [getElem?_pos s n h4]
   exact congrArg some h3
  simp [Instr.index,asIntOf,run_underlying hu,hs]
 ·cases h

theorem op_extract {x:Operand} {a:Opd} {i:Nat} (hH:HR P C H) (hρ:RO' C ρ ρr) (he:execOp ρr o=valS (Instr.extract (ρr x) i)) (ha:opd x=some a) (h:aop callee ρ H (.extract a i)=some (v,H')) :
  Goes P (execOp ρr o) C.w (After P C v H'):=by
 have hx:=hρ.ro x a ha
 simp only [aop] at h
 split at h
 ·rename_i vs e
  simp only [Option.map_eq_some_iff,Prod.mk.injEq] at h
  obtain ⟨u,hl,rfl,rfl⟩:=h
  rw [e] at hx
  obtain ⟨xs,hx1,hx2⟩:=hx
  obtain ⟨r,hr,hv⟩:=RL_get hx2 hl
  rw [he,hx1]
  have:xs[i]?=some r:=by simpa using hr
  exact goes_read hH (by simp [Instr.extract,this]) hv
 ·cases h
end
end Go.AM
namespace Go.AM
section
variable {callee:Callee} {P:Program} {C:Ctx} {H H':Heap} {v:AVal} {ρ:Opd->AVal} {ρr:Operand->Value} {o:Oper}

theorem op_len {at':Array TypeId} {t ty e:TypeId} {x:Operand} {a:Opd} (hH:HR P C H) (hρ:RO' C ρ ρr) (he:execOp ρr o=valS (Builtin.len_ at' ty #[ρr x])) (h0:at'[0]?=some t) (hu:P.underlying t=some (.slice e))
  (ha:opd x=some a) (h:aop callee ρ H (.len a)=some (v,H')):Goes P (execOp ρr o) C.w (After P C v H'):=by
 have hx:=hρ.ro x a ha
 have fin:∀ {ad:Option Addr} {n c:Nat},ρr x=.slice ad n c->(v,H')=(vint .i64 n,H)->Goes P (execOp ρr o) C.w (After P C v H'):=by
  intro ad n c e1 e2
  cases e2
  rw [he,e1]
  refine goes_read (r:=.int .i64 n) hH ?_ rfl
  simp [Builtin.len_,h0,run_underlying hu,goInt]
 simp only [aop] at h
 split at h
 ·rename_i e1
  rw [e1] at hx
  obtain ⟨_,_,e2,_⟩:=hx
  exact fin e2 (Option.some.inj h).symm
 ·rename_i e1
  rw [e1] at hx
  obtain ⟨_,_,e2,_⟩:=hx
  exact fin e2 (Option.some.inj h).symm
 ·rename_i e1
  rw [e1] at hx
  obtain ⟨_,_,e2,_⟩:=hx
  exact fin e2 (Option.some.inj h).symm
 ·cases h

theorem op_lenStr {at':Array TypeId} {t ty:TypeId} {x:Operand} {a:Opd} (hH:HR P C H) (hρ:RO' C ρ ρr) (he:execOp ρr o=valS (Builtin.len_ at' ty #[ρr x])) (h0:at'[0]?=some t) (hu:P.underlying t=some .string)
  (ha:opd x=some a) (h:aop callee ρ H (.lenStr a)=some (v,H')):Goes P (execOp ρr o) C.w (After P C v H'):=by
 have hx:=hρ.ro x a ha
 simp only [aop] at h
 split at h
 ·rename_i s e1
  cases h
  rw [e1] at hx
  have hx:ρr x=_:=hx
  rw [he,hx]
  refine goes_read (r:=.int .i64 s.size) hH ?_ rfl
  simp [Builtin.len_,h0,run_underlying hu,goInt]
 ·cases h

theorem op_lenArr {at':Array TypeId} {t ty:TypeId} {n:Nat} {x:Operand} (hH:HR P C H) (he:execOp ρr o=valS (Builtin.len_ at' ty #[ρr x])) (h0:at'[0]?=some t)
  (hu:(∃ e,P.underlying t=some (.array n e))∨∃ b e,P.underlying t=some (.pointer b)/\P.underlying b=some (.array n e))
  (h:aop callee ρ H (.lenArr n)=some (v,H')):Goes P (execOp ρr o) C.w (After P C v H'):=by
 simp only [aop,Option.some.injEq,Prod.mk.injEq] at h
 obtain ⟨rfl,rfl⟩:=h
 rw [he]
 refine goes_read (r:=.int .i64 n) hH ?_ rfl
 rcases hu with ⟨e,hu⟩ | ⟨b,e,hu,hb⟩
 ·simp [Builtin.len_,h0,run_underlying hu,goInt]
 ·simp [Builtin.len_,h0,run_underlying hu,run_underlying hb,goInt]

theorem op_cap {at':Array TypeId} {t ty e:TypeId} {x:Operand} {a:Opd} (hH:HR P C H) (hρ:RO' C ρ ρr) (he:execOp ρr o=valS (Builtin.cap_ at' ty #[ρr x])) (h0:at'[0]?=some t) (hu:P.underlying t=some (.slice e))
  (ha:opd x=some a) (h:aop callee ρ H (.cap a)=some (v,H')):Goes P (execOp ρr o) C.w (After P C v H'):=by
 have hx:=hρ.ro x a ha
 simp only [aop] at h
 split at h
 ·rename_i nl fl es e1
  cases h
  rw [e1] at hx
  obtain ⟨ad,c,e2,_,h2,_⟩:=hx
  have:=h2 rfl
  subst this
  rw [he,e2]
  refine goes_read (r:=.int .i64 es.length) hH ?_ rfl
  simp [Builtin.cap_,h0,run_underlying hu,goInt]
 ·cases h

theorem op_min {at':Array TypeId} {ty:TypeId} {x:Operand} {r:List Operand} {a:Opd} {as:List Opd} (hH:HR P C H) (hρ:RO' C ρ ρr) (he:execOp ρr o=valS (Builtin.min_ at' ty ((x::r).map ρr).toArray))
  (ha:opd x=some a) (hr:opds r=some as) (h:aop callee ρ H (.minI a as)=some (v,H')):Goes P (execOp ρr o) C.w (After P C v H'):=by
 have hx:=hρ.ro x a ha
 simp only [aop] at h
 split at h
 ·rename_i k n e1
  simp only [Option.map_eq_some_iff,Prod.mk.injEq] at h
  obtain ⟨u,hl,rfl,rfl⟩:=h
  rw [e1] at hx
  have hx:ρr x=_:=hx
  obtain ⟨q,hq,hv⟩:=sim_min (P:=P) (ρr':=ρr) Builtin.min2 (fun a b=>if b<a then b else a) (fun k a b w=>rfl) hρ.ro (w:=C.w) hr hl
  rw [he]
  refine goes_read (r:=q) hH ?_ hv
  simp only [Builtin.min_,List.map_cons,hx]
  exact hq
 ·cases h

theorem op_max {at':Array TypeId} {ty:TypeId} {x:Operand} {r:List Operand} {a:Opd} {as:List Opd} (hH:HR P C H) (hρ:RO' C ρ ρr) (he:execOp ρr o=valS (Builtin.max_ at' ty ((x::r).map ρr).toArray))
  (ha:opd x=some a) (hr:opds r=some as) (h:aop callee ρ H (.maxI a as)=some (v,H')):Goes P (execOp ρr o) C.w (After P C v H'):=by
 have hx:=hρ.ro x a ha
 simp only [aop] at h
 split at h
 ·rename_i k n e1
  simp only [Option.map_eq_some_iff,Prod.mk.injEq] at h
  obtain ⟨u,hl,rfl,rfl⟩:=h
  rw [e1] at hx
  have hx:ρr x=_:=hx
  obtain ⟨q,hq,hv⟩:=sim_min (P:=P) (ρr':=ρr) Builtin.max2 (fun a b=>if b > a then b else a) (fun k a b w=>rfl) hρ.ro (w:=C.w) hr hl
  rw [he]
  refine goes_read (r:=q) hH ?_ hv
  simp only [Builtin.max_,List.map_cons,hx]
  exact hq
 ·cases h


theorem opdO_rel {x:Option Operand} {x':Option Opd} (h:opdO x=some x'):(x=none/\x'=none)∨∃ y a,x=some y/\x'=some a/\opd y=some a:=by
 cases x with
 | none=>simp [opdO] at h;exact .inl ⟨rfl,h.symm⟩
 | some y =>
  simp only [opdO,Option.map_eq_some_iff] at h
  obtain ⟨a,ha,rfl⟩:=h
  exact .inr ⟨y,a,rfl,rfl,ha⟩

theorem optNat_rel {x:Option Operand} {x':Option Opd} {d n:Nat} (hρ:RO' C ρ ρr) (h:opdO x=some x') (hn:optNat ρ d x'=some n):(x.map ρr=none/\n=d)∨∃ k,x.map ρr=some (.int k (n:Int)):=by
 rcases opdO_rel h with ⟨rfl,rfl⟩ | ⟨y,a,rfl,rfl,ha⟩
 ·simp only [optNat,Option.some.injEq] at hn
  exact .inl ⟨rfl,hn.symm⟩
 ·obtain ⟨k,hk⟩:=asNat_rel (hρ.ro y a ha) hn
  exact .inr ⟨k,by simp [hk]⟩

theorem run_sliceBound {k:IntKind} {n y:Nat} {code:BoundsCode} (h:n<=y) (w:World):(Instr.sliceBound (.int k n) y code).run P w=.ok n w:=by
 have:(n:Int)<=(y:Int):=by omega
 simp [Instr.sliceBound,asIntOf,this,h,Nat.not_lt.2 h]

theorem run_bounds {isS:Bool} {len cap l h:Nat} {lo hi:Option Value} (hl:(lo=none/\l=0)∨∃ k,lo=some (.int k (l:Int))) (hh:(hi=none/\h=len)∨∃ k,hi=some (.int k (h:Int))) (h1:l<=h) (h2:h<=cap) (w:World) :
  (Instr.sliceBounds isS len cap lo hi none).run P w=.ok (l,h,cap) w:=by
 rcases hl with ⟨rfl,rfl⟩ | ⟨k,rfl⟩<;>rcases hh with ⟨rfl,rfl⟩ | ⟨k',rfl⟩<;>simp [Instr.sliceBounds,run_sliceBound h1,run_sliceBound h2]

theorem run_bounds3 {isS:Bool} {len cap l h m:Nat} {k k':IntKind} {lo:Option Value} (hl:(lo=none/\l=0)∨∃ k,lo=some (.int k (l:Int))) (h1:l<=h) (h2:h<=m) (h3:m<=cap) (w:World) :
  (Instr.sliceBounds isS len cap lo (some (.int k (h:Int))) (some (.int k' (m:Int)))).run P w=.ok (l,h,m) w:=by
 rcases hl with ⟨rfl,rfl⟩ | ⟨k,rfl⟩<;>simp [Instr.sliceBounds,run_sliceBound h1,run_sliceBound h2,run_sliceBound h3]

theorem op_sliceStr {t:TypeId} {x:Operand} {lo hi:Option Operand} {a:Opd} {lo' hi':Option Opd} (hH:HR P C H) (hρ:RO' C ρ ρr) (he:execOp ρr o=valS (Instr.sliceAt t (ρr x) (lo.map ρr) (hi.map ρr) none)) (hu:P.underlying t=some .string)
  (ha:opd x=some a) (hlo:opdO lo=some lo') (hhi:opdO hi=some hi') (h:aop callee ρ H (.sliceStr a lo' hi')=some (v,H')):Goes P (execOp ρr o) C.w (After P C v H'):=by
 have hx:=hρ.ro x a ha
 simp only [aop,Option.bind_eq_some_iff] at h
 obtain ⟨l,hl,h⟩:=h
 split at h
 ·rename_i s e1
  simp only [Option.bind_eq_some_iff] at h
  obtain ⟨q,hq,h⟩:=h
  obtain ⟨hb,h⟩:=Option.ite_none_right_eq_some.1 h
  cases h
  rw [e1] at hx
  have hx:ρr x=_:=hx
  rw [he,hx]
  refine goes_read (r:=.string (s.extract l q)) hH ?_ rfl
  have:=run_bounds (P:=P) (isS:=false) (cap:=s.size) (optNat_rel hρ hlo hl) (optNat_rel hρ hhi hq) hb.1 hb.2 C.w
  simp [Instr.sliceAt,Instr.slice,run_underlying hu,this]
 ·cases h

theorem op_sliceArr {t e:TypeId} {n:Nat} {x:Operand} {lo hi:Option Operand} {a:Opd} {lo' hi':Option Opd} (hH:HR P C H) (hρ:RO' C ρ ρr) (he:execOp ρr o=valS (Instr.sliceAt t (ρr x) (lo.map ρr) (hi.map ρr) none))
  (hu:P.underlying t=some (.array n e)∨∃ b,P.underlying t=some (.pointer b)/\P.underlying b=some (.array n e)) (hi0:(P.info? e).isSome=true)
  (ha:opd x=some a) (hlo:opdO lo=some lo') (hhi:opdO hi=some hi') (h:aop callee ρ H (.sliceArr n (P.cellsOf e) a lo' hi')=some (v,H')):Goes P (execOp ρr o) C.w (After P C v H'):=by
 have hx:=hρ.ro x a ha
 simp only [aop,Option.bind_eq_some_iff] at h
 obtain ⟨l,hl,q,hq,h⟩:=h
 split at h
 ·rename_i i k e1
  obtain ⟨hb,h⟩:=Option.ite_none_right_eq_some.1 h
  cases h
  rw [e1] at hx
  obtain ⟨ad,hx,hd⟩:=hx
  rw [he,hx]
  have hrun:=run_bounds (P:=P) (isS:=false) (cap:=n) (optNat_rel hρ hlo hl) (optNat_rel hρ hhi hq) hb.1 hb.2 C.w
  refine goes_read (r:=.slice (some (if n=l then ad else ad.add (l * P.cellsOf e))) (q - l) (n - l)) hH ?_ ?_
  ·rcases hu with hu | ⟨b,hu,hb'⟩
   ·simp only [Instr.sliceAt,Sem.run_bind,run_underlying hu,Instr.sureAddr,Sem.run_pure,Result.andThen_ok,hrun,run_sizeOf' hi0]
   ·simp only [Instr.sliceAt,Instr.slice,Sem.run_bind,run_underlying hu,run_underlying hb',asAddr,Sem.run_pure,Result.andThen_ok,hrun,run_sizeOf' hi0]
  ·refine ⟨_,_,rfl,by omega,?_⟩
   rcases hd with hd | ⟨hd,rfl⟩
   ·exact .inl hd
   ·refine .inr ⟨hd,?_⟩
    by_cases hnl:n=l
    ·exact .inl (by omega)
    ·exact .inr (by rw [if_neg hnl,addr_add])
 ·cases h

theorem aslice_rel {t e:TypeId} {a:AVal} {x:Value} {lo hi mx:Option Value} {l:Nat} {h m:Option Nat} {sz:Nat} (hH:HR P C H) (hu:P.underlying t=some (.slice e)) (hi0:(P.info? e).isSome=true) (hsz:P.cellsOf e=sz)
    (hlo:(lo=none/\l=0)∨∃ k,lo=some (.int k (l:Int)))
    (hhi:(hi=none/\h=none)∨∃ (k:IntKind) (q:Nat),hi=some (.int k (q:Int))/\h=some q)
    (hmx:(mx=none/\m=none)∨∃ (k:IntKind) (q r:Nat),mx=some (.int k (q:Int))/\m=some q/\h=some r)
    (hx:RV C a x) (hs:aslice sz H a l h m=some (v,H')):∃ C' r,(Instr.slice t x lo hi mx).run P C.w=.ok r C'.w/\HR P C' H'/\Nx C C'/\RV C' v r:=by
  -- what the real one does, the bounds known
  have run:∀ {ad:Option Addr} {n c q r:Nat},x=.slice ad n c->(Instr.sliceBounds true n c lo hi mx).run P C.w=.ok (l,q,r) C.w ->
      (Instr.slice t x lo hi mx).run P C.w=.ok (.slice (if r=l then ad else ad.map (·.add (l * sz))) (q - l) (r - l)) C.w:=by
    rintro ad n c q r rfl hb
    simp only [Instr.slice,Sem.run_bind,run_underlying hu,Result.andThen_ok,hb,run_sizeOf' hi0,hsz,Sem.run_pure]
  have hhi':∀ n,(hi=none/\h.getD n=n)∨∃ k,hi=some (.int k ((h.getD n:Nat):Int)):=by
    intro n
    rcases hhi with ⟨rfl,rfl⟩ | ⟨k,q,rfl,rfl⟩
    · exact .inl ⟨rfl,rfl⟩
    · exact .inr ⟨k,rfl⟩
  unfold aslice at hs
  split at hs
  · rename_i nl full fl es
    obtain ⟨⟨hb1,hb2,hb3,hrows⟩,hs⟩:=Option.ite_none_right_eq_some.1 hs
    cases hs
    obtain ⟨ad,c,rfl,e1,e2,e3,e4,e5,e6⟩:=hx
    generalize hq:h.getD es.length=q at hb1 hb2 hb3
    -- the new capacity
    have hr:∃ r,(Instr.sliceBounds true es.length c lo hi mx).run P C.w=.ok (l,q,r) C.w/\q<=r/\r<=c /\
        ((if m.isSome=true then decide (m.getD q=q) else full && decide (q=es.length))=true->r=q):=by
      rcases hmx with ⟨rfl,rfl⟩ | ⟨k,mm,r,rfl,rfl,rfl⟩
      · refine ⟨c,run_bounds hlo (by rw [<- hq];exact hhi' _) hb1 (by simp only [Option.getD_none] at hb3;omega) C.w,by simp only [Option.getD_none] at hb3;omega,Nat.le_refl _,fun e=>?_⟩
        simp only [Option.isSome_none,Bool.false_eq_true,if_false,Bool.and_eq_true,decide_eq_true_eq] at e
        rw [e2 e.1,e.2]
      · rcases hhi with ⟨_,e⟩ | ⟨k',q',rfl,e⟩
        · cases e
        · cases e
          simp only [Option.getD_some] at hq hb2 hb3
          subst hq
          refine ⟨mm,run_bounds3 hlo hb1 hb2 (by omega) C.w,hb2,by omega,fun e=>?_⟩
          simpa using e
    obtain ⟨r,hr1,hr2,hr3,hr4⟩:=hr
    have hlen:((es.take q).drop l).length=q - l:=by
      have:q<=es.length:=by omega
      simp;omega
    refine ⟨C,_,run rfl hr1,hH,Nx.refl C,?_⟩
    refine ⟨if r=l then ad else ad.map (·.add (l * sz)),r - l,by rw [hlen],by rw [hlen];omega,fun e=>by rw [hlen,hr4 e],?_,fun e=>?_,fun e=>flatLL_drop (flatLL_take (e5 e) _) _,fun b hb hne=>?_⟩
    · split
      · exact e3
      · cases ad<;>simpa using e3
    · have:=e4 e;omega
    · split at hb
      · rename_i hrl
        subst hb
        exact absurd (List.length_eq_zero_iff.1 (by rw [hlen];omega)) hne
      · cases ad with
        | none=>cases hb
        | some ad =>
          simp only [Option.map_some,Option.some.injEq] at hb
          obtain ⟨hsp,sz',hrl⟩:=e6 ad rfl (by rintro rfl;exact hne (by simp))
          have had:ad=⟨ad.block,ad.off,none⟩:=by cases ad;simp_all
          rw [had,addr_add] at hb
          subst hb
          refine ⟨rfl,sz',?_⟩
          by_cases hz:es=[]
          · subst hz;simp [RLL]
          · obtain ⟨row,hrow⟩:=List.exists_mem_of_ne_nil _ hz
            obtain ⟨j,hj⟩:=List.mem_iff_getElem?.1 hrow
            have h1:=(RLL_iff.1 hrl j row hj).1
            have h2:=rows_of hrows row hrow
            have:sz'=sz:=by omega
            subst this
            exact RLL_drop (RLL_take hrl q) l
  · rename_i i len so off n
    split at hs
    · cases hs
    · rename_i hso
      have hso:so=sz:=by simpa using hso
      subst hso
      obtain ⟨a,c,rfl,hn,hd⟩:=hx
      split at hs
      · obtain ⟨⟨hb1,hb2⟩,hs⟩:=Option.ite_none_right_eq_some.1 hs
        cases hs
        have hmn:mx=none:=by
          rcases hmx with ⟨e,_⟩ | ⟨_,_,_,_,e,_⟩
          · exact e
          · cases e
        subst hmn
        have hr1:=run_bounds (P:=P) (isS:=true) (cap:=c) hlo (hhi' n) hb1 (by omega) C.w
        refine ⟨C,_,run rfl hr1,hH,Nx.refl C,?_⟩
        refine ⟨if c=l then a else a.add (l * so),c - l,by split<;>simp_all,by omega,?_⟩
        rcases hd with hd | ⟨cur,s,cp,k1,k2,k3⟩
        · exact .inl hd
        · refine .inr ⟨cur,s,cp,k1,k2,fun e1 e2=>?_⟩
          obtain ⟨j1,j2,j3⟩:=k3 e1 e2
          refine ⟨by omega,by omega,?_⟩
          by_cases hcl:c=l
          · exact .inl (by omega)
          · rw [if_neg hcl]
            rcases j3 with j3 | j3
            · exact .inl (by omega)
            · exact .inr (by rw [j3,addr_add,<- Nat.add_mul])
      · rename_i mm
        rcases hmx with ⟨_,e⟩ | ⟨k,q9,r,rfl,e,rfl⟩
        · cases e
        cases e
        rcases hhi with ⟨_,e⟩ | ⟨k',q',rfl,e⟩
        · cases e
        cases e
        split at hs
        · rename_i fl lck fu se es hi'
          simp only [Option.getD_some] at hs
          obtain ⟨⟨b1,b2,b4,b5,b6,b7,b8⟩,hs⟩:=Option.ite_none_right_eq_some.1 hs
          cases hs
          subst b1 b2 b4 b5 b6 b7
          obtain ⟨cells,ty,cp,hsh,hb,hcsz,hcp,hse,hfull,hrows,hl,h1c,hflat,hF⟩:=hH.ent i _ hi'
          rw [hsh] at hd
          rcases hd with hd | ⟨cur,s,cp',e',_,hd⟩
          · cases hd
          · cases e'
            obtain ⟨_,k2,k3⟩:=hd rfl rfl
            have hr1:=run_bounds3 (P:=P) (isS:=true) (len:=es.length) (cap:=c) (k:=k') (k':=k) hlo (Nat.zero_le r) (Nat.le_refl r) (by omega) C.w
            have hil:i<H.length:=(List.getElem?_eq_some_iff.1 hi').1
            let C':Ctx:={ ν:=upd C.ν H.length (C.ν i),sh:=upd (upd C.sh i (some .dead)) H.length (some (.arr r se r)),Fz:=C.Fz,w:=C.w }
            have s1:C'.sh H.length=some (.arr r se r):=upd_same _ _ _
            have s2:C'.sh i=some .dead:=by simp only [C'];rw [upd_ne _ _ (by omega),upd_same]
            have hlen2:(es.take r).length=r:=by simp;omega
            have hq1:r * se<=es.length * se:=Nat.mul_le_mul_right _ b8
            have hq2:es.length * se<=cp * se:=Nat.mul_le_mul_right _ hcp
            have hp := hH.gen (C':=C') (fun j=>j=i∨j=H.length) (H':=H.set i .dead++[.arr fl lck true se (es.take r)])
              (fun j hj=>by
                rw [List.getElem?_append]
                simp only [List.length_set]
                split
                · rw [List.getElem?_set_ne (fun e=>hj (.inl e.symm))]
                · rename_i hjl
                  rw [List.getElem?_eq_none (l:=H) (by omega)]
                  exact List.getElem?_eq_none (by simp;have:j≠H.length:=fun e=>hj (.inr e)
                                                  omega))
              (fun j hj=>by simp at hj;simp only [C'];rw [upd_ne _ _ (by omega),upd_ne _ _ (by omega)];exact hH.out j (by omega))
              (fun j hj=>by simp only [C'];rw [upd_ne _ _ (fun e=>hj (.inr e)),upd_ne _ _ (fun e=>hj (.inl e)),upd_ne _ _ (fun e=>hj (.inr e))];exact ⟨rfl,rfl⟩)
              (fun j s hj hs hd=>rfl) rfl (fun b o hf=>rfl) (Nat.le_refl _) (fun b hb' hn=>rfl)
              (fun j s hj hs hd=>by
                rcases hj with rfl | rfl
                · rw [s2] at hs;cases hs;exact absurd rfl hd
                · exact .inr ⟨i,_,.inl rfl,hsh,by simp,by simp only [C',upd_same]⟩)
              (fun j k s s' hj hk hs hd hs' hd' e=>by
                rcases hj with rfl | rfl<;>rcases hk with rfl | rfl
                · rfl
                · rw [s2] at hs;cases hs;exact absurd rfl hd
                · rw [s2] at hs';cases hs';exact absurd rfl hd'
                · rfl)
              (fun j s hj hs=>by
                rcases hj with rfl | rfl
                · exact .inl s2
                · rw [hH.out _ (Nat.le_refl _)] at hs;cases hs)
              (fun N j e' hj he'=>by
                rcases hj with rfl | rfl
                · rw [List.getElem?_append_left (by simpa using hil),List.getElem?_set_self hil] at he'
                  cases he';exact s2
                · rw [List.getElem?_append_right (by simp)] at he'
                  simp at he';subst he'
                  refine ⟨cells,ty,r,by rw [hlen2];exact s1,by simp only [C',upd_same];exact hb,by omega,by rw [hlen2];exact Nat.le_refl _,hse,fun _=>hlen2.symm,fun w hw=>hrows w (List.mem_of_mem_take hw),?_,h1c,fun e=>flatLL_take (hflat e) _,?_⟩
                  · rw [hlen2,take_flatten r hrows]
                    have:=RL_take hl (r * se)
                    rw [List.take_take,Nat.min_eq_left hq1] at this
                    exact RL_id N.tr (fun _ _=>trivial) this
                  · intro o' ho
                    simp only [C',upd_same] at ho
                    exact ⟨(hF o' ho).1,.inr rfl⟩)
            refine ⟨C',_,run rfl hr1,hp.1,hp.2,?_⟩
            refine ⟨if r=0 then a else a.add (0 * se),r - 0,by split<;>simp_all,by omega,.inr ⟨r,se,r,s1,Nat.le_refl _,fun _ _=>⟨by omega,by omega,?_⟩⟩⟩
            by_cases hr:r=0
            · exact .inl (by omega)
            · rw [if_neg hr]
              rcases k3 with k3 | k3
              · omega
              · exact .inr (by rw [k3,addr_add];simp [C',upd_same])
        · cases hs
  · rename_i i k sa len
    split at hs
    · obtain ⟨⟨hb1,hb2,hb3⟩,hs⟩:=Option.ite_none_right_eq_some.1 hs
      cases hs
      subst hb3
      obtain ⟨a,c,rfl,hn,hd⟩:=hx
      have hmn:mx=none:=by
        rcases hmx with ⟨e,_⟩ | ⟨_,_,_,_,e,_⟩
        · exact e
        · cases e
      subst hmn
      have hr1:=run_bounds (P:=P) (isS:=true) (cap:=c) hlo (hhi' len) hb1 (by omega) C.w
      refine ⟨C,_,run rfl hr1,hH,Nx.refl C,?_⟩
      refine ⟨if c=l then a else a.add (l * sa),c - l,by split<;>simp_all,by omega,?_⟩
      rcases hd with hd | ⟨hd,h3⟩
      · exact .inl hd
      · refine .inr ⟨hd,?_⟩
        by_cases hcl:c=l
        · exact .inl (by omega)
        · rw [if_neg hcl]
          rcases h3 with h3 | h3
          · exact .inl (by omega)
          · exact .inr (by rw [h3,addr_add])
    · cases hs
  · cases hs
end
end Go.AM
