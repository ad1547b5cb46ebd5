import Derived.Below
import Derived.Test.YthnonmlhgafalaaGreatZAmGl
import Derived.Orders
import Derived.Deep.LoopGhost
set_option linter.unusedVariables false
set_option linter.unusedSectionVars false
namespace Go.AM
inductive Ty where
 |int (k:IntKind)
 |bool
 |str
 |unit
 |pair (a b:Ty)
 |sl (t:Ty)
 deriving DecidableEq
@[reducible] def Ty.D:Ty→Type
  | .int _=>Int
  | .bool=>Bool
  | .str=>ByteArray
  | .unit=>Unit
  | .pair a b=>a.D×b.D
  | .sl t=>List t.D
def Ty.size:Ty→Nat
 | .unit=>0
 | .pair a b=>a.size+b.size
 |_=>1
def Ty.dflt:(t:Ty)→t.D
 | .int _=>(0:Int)
 | .bool=>false
 | .str=>ByteArray.empty
 | .unit=>()
 | .pair a b=>(a.dflt,b.dflt)
 | .sl _=>[]
def Ty.castL (a b:Ty) (xs:List a.D):Option (List b.D):=
 if h:a=b then some (h▸xs)else none
def glGo:List (Nat×List ByteArray)→Nat→Option (List ByteArray)
 |[],_=>none
 |(a,x)::r,g=>bif Nat.beq a g then some x else glGo r g
def glGet (g:Nat):Option (List ByteArray):=glGo glT g
inductive Cap where
 |ref (s off:Nat)
 |ptrD (fr:Bool) (t:Ty) (x:t.D)
 |valD (fr:Bool) (t:Ty) (x:t.D)
inductive SV where
 |junk
 |bool (b:Bool)
 |int (k:IntKind) (n:Int)
 |str (s:ByteArray)
 |nilp
 |nils
 |nilf
 |nilm
 |sm (fr:Bool) (kt vt:Ty) (es:List (kt.D×vt.D))
 |mref (s:Nat)
 |sl (fr:Bool) (t:Ty) (nl:Option Bool) (xs:List t.D)
 |ptr (s off:Nat)
 |aptr (s base len:Nat) (idx:Int)
 |hot (s:Nat) (n:Option Nat)
 |hptr (s sz:Nat) (i:Int) (off:Nat)
 |rp (fr:Bool) (t:Ty) (x:t.D) (off:Nat)
 |fn (f:FuncId) (caps:List Cap)
 |cut (s sz lo hi:Nat)
 |gp (g len:Nat) (i:Int)
inductive OV where
 |none
 |own (cs:List SV)
 |arr (fr:Bool) (t:Ty) (xs:List t.D)
 |mapO (fr:Bool) (kt vt:Ty) (es:List (kt.D×vt.D))
inductive AV where
 |one (v:SV)
 |agg (cs:List SV)
 |tup (l:List (Bool×List SV))
 |own (cs:List SV)
 |arr (fr:Bool) (t:Ty) (xs:List t.D)
 |mapO (fr:Bool) (kt vt:Ty) (es:List (kt.D×vt.D))
 |gho (o:OV)
abbrev St:=List AV
def AV.junk:AV:= .one .junk
def St.at (st:St) (i:Nat):AV:=st.getD i (.one .junk)
def OV.av:OV→AV
 | .none=> .one .junk
 | .own cs=> .own cs
 | .arr fr t xs=> .arr fr t xs
 | .mapO fr kt vt es=> .mapO fr kt vt es
def AV.ov:AV→OV
 | .own cs=> .own cs
 | .arr fr t xs=> .arr fr t xs
 | .mapO fr kt vt es=> .mapO fr kt vt es
 |_=> .none
def AV.un:AV→AV
 | .gho o=>o.av
 |v=>v
def AV.isGho:AV→Bool
 | .gho _=>true
 |_=>false
def AV.re (old v:AV):AV:=
 match old with
 | .gho _=> .gho v.ov
 |_=>v
def St.ow (st:St) (i:Nat):AV:=(st.at i).un
def St.upd (st:St) (i:Nat) (v:AV):St:=List.set st i ((st.at i).re v)
inductive CK where
 |int (k:IntKind)
 |bool
 |str
 deriving DecidableEq
inductive TI where
 |map (kt vt:Ty)
 |scal (zero:SV)
 |struct (size:Nat) (zero:List SV) (fields:List (Nat×Nat×Bool)) (eqk:Option (List CK))
 |array (len:Nat) (zero:List SV) (eqk:Option (List CK))
 |slice (e:TypeId) (t:Ty) (bytes:Nat)
abbrev Tab:=List (TypeId×TI)
def Tab.get:Tab→TypeId→Option TI
 |[],_=>none
 |(a,i)::r,t=>bif Nat.beq a t then some i else Tab.get r t
def TI.size:TI→Nat
 | .map _ _=>1
 | .scal _=>1
 | .struct n _ _ _=>n
 | .array n _ _=>n
 | .slice _ _ _=>1
def TI.isAgg:TI→Bool
 | .struct .. =>true
 | .array .. =>true
 |_=>false
def TI.zero:TI→List SV
 | .map _ _=>[.nilm]
 | .scal z=>[z]
 | .struct _ z _ _=>z
 | .array _ z _=>z
 | .slice _ _ _=>[.nils]
def enc:(t:Ty)→Bool→t.D→List SV
 | .int k,_,x=>[.int k x]
 | .bool,_,x=>[.bool x]
 | .str,_,x=>[.str x]
 | .unit,_,_=>[]
 | .pair a b,fr,p=>enc a fr p.1++enc b fr p.2
 | .sl t,fr,xs=>[.sl fr t none xs]
def ikEq:IntKind→IntKind→Bool
 | .i8,.i8=>true
 | .i16,.i16=>true
 | .i32,.i32=>true
 | .i64,.i64=>true
 | .u8,.u8=>true
 | .u16,.u16=>true
 | .u32,.u32=>true
 | .u64,.u64=>true
 |_,_=>false
def dec:(t:Ty)→List SV→Option (t.D×Bool×List SV)
 | .int k,.int k' n::r=>bif ikEq k k' then some (n,true,r)else none
 | .bool,.bool b::r=>some (b,true,r)
 | .str,.str s::r=>some (s,true,r)
 | .unit,l=>some ((),true,l)
 | .pair a b,l=>
   match dec a l with
   |some (x,f,r)=>
    match dec b r with
    |some (y,g,r')=>some ((x,y),f&&g,r')
    |none=>none
   |none=>none
 | .sl t,.nils::r=>some ([],true,r)
 | .sl t,.sl fr t' _ xs::r=>
   match Ty.castL t' t xs with
   |some ys=>some (ys,fr,r)
   |none=>none
 |_,_=>none
def Ty.isAgg:Ty→Bool
 | .unit=>true
 | .pair _ _=>true
 |_=>false
def decAll (t:Ty) (l:List SV):Option (t.D×Bool):=
 match dec t l with
 |some (x,f,[])=>some (x,f)
 |_=>none
def toD (t:Ty) (a:AV):Option (t.D×Bool):=
 match t.isAgg,a with
 |true,.agg cs=>decAll t cs
 |false,.one v=>decAll t [v]
 |_,_=>none
def eqD:(t:Ty)→t.D→t.D→Bool
 | .int _,(a:Int),(b:Int)=>a==b
 | .bool,(a:Bool),(b:Bool)=>a==b
 | .str,(a:ByteArray),(b:ByteArray)=>a.toList==b.toList
 | .unit,_,_=>true
 | .pair s t,p,q=>eqD s p.1 q.1&&eqD t p.2 q.2
 | .sl _,_,_=>false
def mget {kt vt:Ty} (k:kt.D):List (kt.D×vt.D)→Option vt.D
 |[]=>none
 |e::r=>bif eqD kt k e.1 then some e.2 else mget k r
def mput {kt vt:Ty} (k:kt.D) (v:vt.D):List (kt.D×vt.D)→List (kt.D×vt.D)
 |[]=>[(k,v)]
 |e::r=>bif eqD kt k e.1 then(k,v)::r else e::mput k v r
def mgetD {kt vt:Ty} (k:kt.D) (es:List (kt.D×vt.D)):vt.D:=
 match mget k es with
 |some v=>v
 |none=>vt.dflt
def mhas {kt vt:Ty} (k:kt.D) (es:List (kt.D×vt.D)):Bool:=
 match mget k es with
 |some _=>true
 |none=>false
def Ty.castM (k v k' v':Ty) (es:List (k.D×v.D)):Option (List (k'.D×v'.D)):=
 if h:k=k' then
  if g:v=v' then some (h▸(g▸es:List (k.D×v'.D)):List (k'.D×v'.D))else none
 else none
def bytesOf (s:ByteArray):List Int:=s.data.toList.map fun b=>(b.toNat:Int)
def ofBytes (l:List Int):ByteArray:=⟨(l.map fun n=>UInt8.ofNat n.toNat).toArray⟩
def hasB (k:IntKind) (n:Int):Bool:=decide (k.min≤n)&&decide (n≤k.max)
def cvS:Value→SV
 | .bool b=> .bool b
 | .int k n=>bif hasB k n then .int k n else .junk
 | .string s=>bif Nat.ble s.size 9223372036854775807 then .str s else .junk
 | .pointer none=> .nilp
 | .slice none 0 0=> .nils
 | .nilFunc=> .nilf
 | .map none=> .nilm
 |_=> .junk
def SV.isJunk:SV→Bool
 | .junk=>true
 |_=>false
def cv:Value→AV
 | .agg cs=>bif (cs.toList.map cvS).any SV.isJunk then .one .junk else .agg (cs.toList.map cvS)
 |v=> .one (cvS v)
def rdSlot (st:St) (t:Nat):AV:=
 match st.at t with
 | .own _=> .one (.ptr t 0)
 | .arr _ _ _=> .one (.hot t none)
 | .mapO _ _ _ _=> .one (.mref t)
 | .gho _=> .one .junk
 |v=>v
def rd (st:St):Operand→AV
 | .tmp t=>rdSlot st t
 | .const v=>cv v
 | .func f=> .one (.fn f [])
 | .global g=>
   match glGet g with
   |some l=>bif Nat.blt 0 l.length then .one (.gp g l.length 0)else .one .junk
   |none=> .one .junk
def cellsOf:AV→Option (List SV)
 | .one .junk=>none
 | .one v=>some [v]
 | .agg cs=>some cs
 |_=>none
def eqCell:CK→SV→SV→Option Bool
 | .int k,.int k1 a,.int k2 b=>bif ikEq k k1&&ikEq k k2 then some (a==b)else none
 | .bool,.bool a,.bool b=>some (a==b)
 | .str,.str a,.str b=>some (a==b)
 |_,_,_=>none
def eqCells:List CK→List SV→List SV→Option Bool
 |[],[],[]=>some true
 |[k],[x],[y]=>eqCell k x y
 |k::ks,x::xs,y::ys=>
  match eqCell k x y with
  |some b=>
   match eqCells ks xs ys with
   |some c=>some (b&&c)
   |none=>none
  |none=>none
 |_,_,_=>none
def evInt (op:BinOp) (k:IntKind) (a b:Int):Option (Bool×SV):=
 match op with
 | .add=>some (true,.int k (k.wrap (a+b)))
 | .sub=>some (true,.int k (k.wrap (a-b)))
 | .mul=>some (true,.int k (k.wrap (a*b)))
 | .quo=>some (!decide (b=0),.int k (k.wrap (a.tdiv b)))
 | .rem=>some (!decide (b=0),.int k (a.tmod b))
 | .and=>some (true,.int k (k.wrap (BitVec.ofInt k.bits a&&&BitVec.ofInt k.bits b).toNat))
 | .or=>some (true,.int k (k.wrap (BitVec.ofInt k.bits a|||BitVec.ofInt k.bits b).toNat))
 | .xor=>some (true,.int k (k.wrap (BitVec.ofInt k.bits a^^^BitVec.ofInt k.bits b).toNat))
 | .andNot=>some (true,.int k (k.wrap (BitVec.ofInt k.bits a&&& ~~~(BitVec.ofInt k.bits b)).toNat))
 | .eql=>some (true,.bool (a==b))
 | .neq=>some (true,.bool (a != b))
 | .lss=>some (true,.bool (decide (a<b)))
 | .leq=>some (true,.bool (decide (a≤b)))
 | .gtr=>some (true,.bool (decide (a>b)))
 | .geq=>some (true,.bool (decide (a≥b)))
 |_=>none
def isNil:SV→Option Bool
 | .nils=>some true
 | .sl _ _ nl _=>nl
 |_=>none
def evBin (tb:Tab) (op:BinOp) (T:TypeId) (x y:AV):Option (Bool×AV):=
 match x,y with
 | .one (.int k a),.one (.int k' b)=>
   match op with
   | .shl=>some (decide (0≤b),.one (.int k (k.wrap (a*2^(min b.toNat k.bits)))))
   | .shr=>some (decide (0≤b),.one (.int k (a.fdiv (2^(min b.toNat k.bits)))))
   |op=>
    bif ikEq k k' then
     match evInt op k a b with
     |some (g,v)=>some (g,.one v)
     |none=>none
    else none
 | .one (.bool a),.one (.bool b)=>
   match op,Tab.get tb T with
   | .eql,some (.scal (.bool _))=>some (true,.one (.bool (a==b)))
   | .neq,some (.scal (.bool _))=>some (true,.one (.bool (!(a==b))))
   |_,_=>none
 | .one (.str a),.one (.str b)=>
   match op with
   | .eql=>some (true,.one (.bool (a.toList==b.toList)))
   | .neq=>some (true,.one (.bool (!(a.toList==b.toList))))
   | .add=>some (decide (a.size+b.size≤9223372036854775807),.one (.str (a++b)))
   |_=>none
 | .one x,.one .nils=>
   match isNil x,op,Tab.get tb T with
   |some b,.eql,some (.slice _ _ _)=>some (true,.one (.bool b))
   |some b,.neq,some (.slice _ _ _)=>some (true,.one (.bool (!b)))
   |_,_,_=>none
 | .agg xs,.agg ys=>
   match Tab.get tb T with
   |some (.struct _ _ _ (some ks))|some (.array _ _ (some ks))=>
    match eqCells ks xs ys,op with
    |some b,.eql=>some (true,.one (.bool b))
    |some b,.neq=>some (true,.one (.bool (!b)))
    |_,_=>none
   |_=>none
 |_,_=>none
def evUn (op:UnOp) (x:AV):Option (Bool×AV):=
 match op,x with
 | .not,.one (.bool b)=>some (true,.one (.bool (!b)))
 | .neg,.one (.int k n)=>some (true,.one (.int k (k.wrap (0-n))))
 |_,_=>none
def selInt:List SV→Option (IntKind×List Int)
 |[.int k n]=>some (k,[n])
 | .int k n::r=>
   match selInt r with
   |some (k',l)=>bif ikEq k k' then some (k,n::l)else none
   |none=>none
 |_=>none
def ldCells (st:St) (p:SV) (n:Nat):Option (List SV):=
 match p with
 | .ptr s off=>
   match st.ow s with
   | .own cs=>some ((cs.drop off).take n)
   |_=>none
 | .rp fr t x off=>some (((enc t fr x).drop off).take n)
 | .hptr s sz i off=>
   match st.ow s with
   | .arr fr t xs=>bif Nat.beq sz t.size then some (((enc t fr (xs.getD i.toNat t.dflt)).drop off).take n)else none
   |_=>none
 | .aptr s base len idx=>
   match st.ow s with
   | .own cs=>
     bif Nat.beq n 1 then
      match selInt ((cs.drop base).take len)with
      |some (k,l)=>bif Nat.beq l.length len then some [.int k (l.getD idx.toNat 0)]else none
      |none=>none
     else none
   |_=>none
 | .gp g len i=>
   match glGet g with
   |some l=>bif Nat.beq l.length len&&Nat.beq n 1 then some [.str (l.getD i.toNat ByteArray.empty)]else none
   |none=>none
 |_=>none
def asVal (isAgg:Bool) (cs:List SV):Option AV:=
 match isAgg,cs with
 |true,cs=>some (.agg cs)
 |false,[v]=>some (.one v)
 |false,_=>none
def evLoad (tb:Tab) (st:St) (T:TypeId) (p:AV):Option (Bool×AV):=
 match Tab.get tb T,p with
 |some ti,.one p=>
  match ldCells st p ti.size with
  |some cs=>
   bif Nat.beq cs.length ti.size then
    match asVal ti.isAgg cs with
    |some v=>some (true,v)
    |none=>none
   else none
  |none=>none
 |_,_=>none
def addOff (p:SV) (o:Nat):Option SV:=
 match p with
 | .ptr s off=>some (.ptr s (off+o))
 | .rp fr t x off=>some (.rp fr t x (off+o))
 | .hptr s sz i off=>some (.hptr s sz i (off+o))
 |_=>none
def evFieldAddr (tb:Tab) (T:TypeId) (p:AV) (f:Nat):Option (Bool×AV):=
 match Tab.get tb T,p with
 |some (.struct _ _ fs _),.one p=>
  match fs[f]? with
  |some (o,_,_)=>
   match addOff p o with
   |some q=>some (true,.one q)
   |none=>none
  |none=>none
 |_,_=>none
def inB (i:Int) (n:Nat):Bool:=decide (0≤i)&&decide (i<(n:Int))
def evIndexAddr (tb:Tab) (st:St) (T:TypeId) (x i:AV):Option (Bool×AV):=
 match Tab.get tb T,x,i with
 |some (.slice _ t _),.one (.sl fr t' _ xs),.one (.int _ i)=>
  match Ty.castL t' t xs with
  |some ys=>some (inB i ys.length,.one (.rp fr t (ys.getD i.toNat t.dflt) 0))
  |none=>none
 |some (.slice _ t _),.one (.hot s n),.one (.int _ i)=>
  match st.ow s with
  | .arr _ t' xs=>
    bif Nat.beq t.size t'.size then
     match n with
     |none=>some (inB i xs.length,.one (.hptr s t'.size i 0))
     |some n=>some (inB i n,.one (.hptr s t'.size i 0))
    else none
  |_=>none
 |some (.slice _ t _),.one .nils,.one (.int _ i)=>some (false,.junk)
 |some (.array len _ _),.one (.ptr s off),.one (.int _ i)=>some (inB i len,.one (.aptr s off len i))
 |some (.array len _ _),.one (.gp g n (.ofNat 0)),.one (.int _ i)=>bif Nat.beq n len then some (inB i len,.one (.gp g n i))else none
 |_,_,_=>none
def byteAt (s:ByteArray) (i:Nat):Int:=((s.data.toList.getD i 0).toNat:Int)
def evIndex (tb:Tab) (T:TypeId) (x i:AV):Option (Bool×AV):=
 match Tab.get tb T,x,i with
 |some (.scal (.str _)),.one (.str s),.one (.int _ i)=>some (inB i s.size,.one (.int .u8 (byteAt s i.toNat)))
 |some (.array len _ _),.agg cs,.one (.int _ i)=>
  match selInt cs with
  |some (k,l)=>bif Nat.beq l.length len then some (inB i len,.one (.int k (l.getD i.toNat 0)))else none
  |none=>none
 |_,_,_=>none
def evField (tb:Tab) (T:TypeId) (x:AV) (f:Nat):Option (Bool×AV):=
 match Tab.get tb T,x with
 |some (.struct _ _ fs _),.agg cs=>
  match fs[f]? with
  |some (o,n,a)=>
   match asVal a ((cs.drop o).take n)with
   |some v=>bif Nat.beq ((cs.drop o).take n).length n then some (true,v)else none
   |none=>none
  |none=>none
 |_,_=>none
def splice (cs:List SV) (off:Nat) (vs:List SV):List SV:=cs.take off++vs++cs.drop (off+vs.length)
def fillParts (place:Nat→Option (Nat×Nat)) (cells:List SV):List (Nat×AV)→Option (List SV)
 |[]=>some cells
 |(i,v)::r=>
  match place i,cellsOf v with
  |some (o,n),some vs=>
   bif Nat.beq vs.length n&&Nat.ble (o+n) cells.length then fillParts place (splice cells o vs) r else none
  |_,_=>none
def structPlace (fs:List (Nat×Nat×Bool)) (i:Nat):Option (Nat×Nat):=
 match fs[i]? with
 |some (o,n,_)=>some (o,n)
 |none=>none
def evBuild (tb:Tab) (T:TypeId) (parts:List (Nat×AV)):Option (Bool×AV):=
 match Tab.get tb T with
 |some (.struct _ z fs _)=>
  match fillParts (structPlace fs) z parts with
  |some cs=>some (true,.agg cs)
  |none=>none
 |some (.array _ z _)=>
  match fillParts (fun i=>some (i,1)) z parts with
  |some cs=>some (true,.agg cs)
  |none=>none
 |_=>none
def litElems (t:Ty):Nat→List (Nat×AV)→Option (List t.D×Bool)
 |_,[]=>some ([],true)
 |j,(i,v)::r=>
  bif Nat.beq i j then
   match cellsOf v with
   |some vs=>
    match decAll t vs,litElems t (j+1) r with
    |some (x,f),some (xs,g)=>some (x::xs,f&&g)
    |_,_=>none
   |none=>none
  else none
def evLit (fz:Bool) (tb:Tab) (T:TypeId) (n:Nat) (parts:List (Nat×AV)):Option (Bool×AV):=
 match Tab.get tb T with
 |some (.slice _ t _)=>
  match litElems t 0 parts with
  |some (xs,f)=>bif Nat.beq parts.length n&&Nat.ble (n*t.size) 65536 then some (true,bif fz then .one (.sl f t none xs)else .arr f t xs)else none
  |none=>none
 |_=>none
def evMake (tb:Tab) (T:TypeId) (l c:AV):Option (Bool×AV):=
 match Tab.get tb T,l,c with
 |some (.slice _ t bytes),.one (.int .i64 l),.one (.int .i64 c)=>
  some (decide (0≤l)&&decide (l≤c)&&decide ((bytes:Int)*c≤281474976710656),.arr true t (List.replicate l.toNat t.dflt))
 |_,_,_=>none
def getMap (st:St) (kt vt:Ty):SV→Option (Bool×List (kt.D×vt.D))
 | .nilm=>some (true,[])
 | .sm fr kt' vt' es=>
   match Ty.castM kt' vt' kt vt es with
   |some es=>some (fr,es)
   |none=>none
 | .mref s=>
   match st.ow s with
   | .mapO fr kt' vt' es=>
     match Ty.castM kt' vt' kt vt es with
     |some es=>some (fr,es)
     |none=>none
   |_=>none
 |_=>none
def evLookup (tb:Tab) (st:St) (T:TypeId) (m k:AV) (ok:Bool):Option (Bool×AV):=
 match Tab.get tb T,m with
 |some (.map kt vt),.one m=>
  match getMap st kt vt m,toD kt k with
  |some (fr,es),some (x,_)=>
   bif ok then some (true,.tup [(vt.isAgg,enc vt fr (mgetD x es)),(false,[.bool (mhas x es)])])
   else
    match asVal vt.isAgg (enc vt fr (mgetD x es))with
    |some v=>some (true,v)
    |none=>none
  |_,_=>none
 |_,_=>none
def lenSl (st:St):SV→Option Nat
 | .nils=>some 0
 | .sl _ _ _ xs=>some xs.length
 | .hot s none=>
   match st.ow s with
   | .arr _ _ xs=>some xs.length
   |_=>none
 | .hot _ (some n)=>some n
 |_=>none
def minI (a b:Int):Int:=if b<a then b else a
def maxI (a b:Int):Int:=if b>a then b else a
def evBuiltin (tb:Tab) (st:St) (b:Builtin) (ts:List TypeId) (xs:List AV):Option (Bool×AV):=
 match b,xs with
 | .len,[.one v]=>
   match ts with
   |T::_=>
    match Tab.get tb T with
    |some (.scal (.str _))=>
     match v with
     | .str s=>some (true,.one (.int .i64 (s.size:Int)))
     |_=>none
    |some (.slice _ _ _)=>
     match lenSl st v with
     |some n=>some (true,.one (.int .i64 (n:Int)))
     |none=>none
    |some (.map kt vt)=>
     match getMap st kt vt v with
     |some (_,es)=>some (decide ((es.length:Int)≤9223372036854775807),.one (.int .i64 (es.length:Int)))
     |none=>none
    |_=>none
   |[]=>none
 | .min,[.one (.int k a),.one (.int k' b)]=>bif ikEq k k' then some (true,.one (.int k (minI a b)))else none
 | .max,[.one (.int k a),.one (.int k' b)]=>bif ikEq k k' then some (true,.one (.int k (maxI a b)))else none
 |_,_=>none
def optI:Option AV→Option (Option Int)
 |none=>some none
 |some (.one (.int _ n))=>some (some n)
 |_=>none
def evSlice (tb:Tab) (st:St) (T:TypeId) (x:AV) (lo hi mx:Option AV):Option (Bool×AV):=
 match Tab.get tb T,x,optI lo,optI hi,mx with
 |some (.slice _ t _),.one (.sl fr t' _ xs),some lo,some hi,none=>
  bif Nat.beq t.size t'.size then
   match lo,hi with
   |none,none=>none
   |none,some h=>some (decide (0≤h)&&decide (h≤(xs.length:Int)),.one (.sl fr t' none (xs.take h.toNat)))
   |some l,none=>some (decide (0≤l)&&decide (l≤(xs.length:Int)),.one (.sl fr t' none (xs.drop l.toNat)))
   |some l,some h=>some (decide (0≤l)&&decide (l≤h)&&decide (h≤(xs.length:Int)),.one (.sl fr t' none ((xs.take h.toNat).drop l.toNat)))
  else none
 |some (.slice _ _ _),.one (.hot s none),some none,some (some h),none=>
  match st.ow s with
  | .arr _ _ xs=>some (decide (0≤h)&&decide (h≤(xs.length:Int)),.one (.hot s (some h.toNat)))
  |_=>none
 |some (.slice _ t _),.one (.hot s none),some (some l),some hi,none=>
  match st.ow s with
  | .arr _ t' xs=>bif Nat.beq t.size t'.size then some (decide (0≤l)&&decide (l<hi.getD (xs.length:Int))&&decide (hi.getD (xs.length:Int)≤(xs.length:Int)),.one (.cut s t'.size l.toNat (hi.getD (xs.length:Int)).toNat))else none
  |_=>none
 |some (.scal (.str _)),.one (.str s),some lo,some hi,none=>
  some (decide (0≤lo.getD 0)&&decide (lo.getD 0≤hi.getD (s.size:Int))&&decide (hi.getD (s.size:Int)≤(s.size:Int)),.one (.str (s.extract (lo.getD 0).toNat (hi.getD (s.size:Int)).toNat)))
 |_,_,_,_,_=>none
def tyOf : List SV → Option (Bool × Σ t : Ty, t.D)
 |[.int k n]=>some (true,⟨.int k,n⟩)
 |[.bool b]=>some (true,⟨.bool,b⟩)
 |[.str s]=>some (true,⟨.str,s⟩)
 |[.sl fr t _ xs]=>some (fr,⟨.sl t,xs⟩)
 | .int k n::r=>
   match tyOf r with
   |some (f,⟨t,x⟩)=>some (f,⟨.pair (.int k) t,(n,x)⟩)
   |none=>none
 | .bool b::r=>
   match tyOf r with
   |some (f,⟨t,x⟩)=>some (f,⟨.pair .bool t,(b,x)⟩)
   |none=>none
 | .str s::r=>
   match tyOf r with
   |some (f,⟨t,x⟩)=>some (f,⟨.pair .str t,(s,x)⟩)
   |none=>none
 | .sl fr t' _ xs::r=>
   match tyOf r with
   |some (f,⟨t,x⟩)=>some (fr&&f,⟨.pair (.sl t') t,(xs,x)⟩)
   |none=>none
 |_=>none
def capOf:AV→Option Cap
 | .one (.ptr s off)=>some (.ref s off)
 | .one (.rp fr t x 0)=>some (.ptrD fr t x)
 | .one v=>
   match tyOf [v]with
   |some (f,⟨t,x⟩)=>some (.valD f t x)
   |none=>none
 |_=>none
def capsOf:List AV→Option (List Cap)
 |[]=>some []
 |v::r=>
  match capOf v,capsOf r with
  |some c,some cs=>some (c::cs)
  |_,_=>none
def expC (st:St):SV→SV
 | .bool b=> .bool b
 | .int k n=> .int k n
 | .str s=> .str s
 | .sl _ t nl xs=> .sl false t nl xs
 | .hot s n=>
   match st.ow s with
   | .arr _ t xs=> .sl false t none (match n with|none=>xs|some n=>xs.take n)
   |_=> .junk
 |_=> .junk
def expS (st:St):SV→Option SV
 | .ptr s off=>
   match st.ow s with
   | .own cs=>
     match tyOf (cs.map (expC st))with
     |some (_,⟨t,x⟩)=>some (.rp false t x off)
     |none=>none
   |_=>none
 | .hot s n=>
   match st.ow s with
   | .arr _ t xs=>some (.sl false t none (match n with|none=>xs|some n=>xs.take n))
   |_=>none
 | .cut s sz lo hi=>
   match st.ow s with
   | .arr _ t xs=>bif Nat.beq sz t.size then some (.sl false t none ((xs.take hi).drop lo))else none
   |_=>none
 | .hptr s sz i off=>
   match st.ow s with
   | .arr _ t xs=>bif Nat.beq sz t.size then some (.rp false t (xs.getD i.toNat t.dflt) off)else none
   |_=>none
 | .aptr .. =>none
 | .gp .. =>none
 | .fn f caps=>
   match expCaps caps with
   |some cs=>some (.fn f cs)
   |none=>none
 | .junk=>none
 | .sl _ t nl xs=>some (.sl false t nl xs)
 | .rp _ t x off=>some (.rp false t x off)
 | .sm _ kt vt es=>some (.sm false kt vt es)
 | .mref s=>
   match st.ow s with
   | .mapO _ kt vt es=>some (.sm false kt vt es)
   |_=>none
 |v=>some v
where
 expCaps:List Cap→Option (List Cap)
  |[]=>some []
  | .ref s off::r=>
    match st.ow s,off with
    | .own cs,0=>
      match tyOf (cs.map (expC st)),expCaps r with
      |some (_,⟨t,x⟩),some r'=>some (.ptrD false t x::r')
      |_,_=>none
    |_,_=>none
  | .ptrD _ t x::r=>
    match expCaps r with
    |some r'=>some (.ptrD false t x::r')
    |none=>none
  | .valD _ t x::r=>
    match expCaps r with
    |some r'=>some (.valD false t x::r')
    |none=>none
def expL (st:St):List SV→Option (List SV)
 |[]=>some []
 |v::r=>
  match expS st v,expL st r with
  |some x,some y=>some (x::y)
  |_,_=>none
def expA (st:St):AV→Option AV
 | .one v=>
   match expS st v with
   |some x=>some (.one x)
   |none=>none
 | .agg cs=>
   match expL st cs with
   |some x=>some (.agg x)
   |none=>none
 |_=>none
def expAs (st:St):List AV→Option (List AV)
 |[]=>some []
 |v::r=>
  match expA st v,expAs st r with
  |some x,some y=>some (x::y)
  |_,_=>none
def capVal:Cap→AV
 | .ref s off=> .one (.ptr s off)
 | .ptrD f t x=> .one (.rp f t x 0)
 | .valD f t x=>
   match enc t f x with
   |[v]=> .one v
   |cs=> .agg cs
structure Orc where
 fn:FuncId→List AV→Option (Bool×AV)
 io:FuncId→List AV→Nat→List AV→Option (Bool×AV×List AV)
 has:FuncId→Bool
 lo:Option Nat
 lit:TypeId→Nat→Bool
 fuse:Bool
 free:Bool
def Cap.isRef:Cap→Bool
 | .ref _ _=>true
 |_=>false
def SV.isRef:SV→Bool
 | .ptr _ _=>true
 | .aptr _ _ _ _=>true
 | .hot _ _=>true
 | .cut _ _ _ _=>true
 | .hptr _ _ _ _=>true
 | .mref _=>true
 | .fn _ caps=>caps.any Cap.isRef
 |_=>false
def AV.isRef:AV→Bool
 | .one v=>v.isRef
 | .agg cs=>cs.any SV.isRef
 | .tup l=>l.any fun p=>p.2.any SV.isRef
 | .own cs=>cs.any SV.isRef
 | .arr _ _ _=>false
 | .mapO _ _ _ _=>false
 | .gho (.own cs)=>cs.any SV.isRef
 | .gho _=>false
def Cap.fresh:Cap→Bool
 | .ref _ _=>false
 | .ptrD fr _ _=>fr
 | .valD fr _ _=>fr
def SV.fresh:SV→Bool
 | .sl fr _ _ _=>fr
 | .rp fr _ _ _=>fr
 | .sm fr _ _ _=>fr
 | .fn _ caps=>caps.all Cap.fresh
 |_=>true
def AV.fresh:AV→Bool
 | .one v=>v.fresh
 | .agg cs=>cs.all SV.fresh
 | .tup l=>l.all fun p=>p.2.all SV.fresh
 | .own cs=>cs.all SV.fresh
 | .arr fr _ _=>fr
 | .mapO fr _ _ _=>fr
 | .gho (.own cs)=>cs.all SV.fresh
 | .gho (.arr fr _ _)=>fr
 | .gho (.mapO fr _ _ _)=>fr
 | .gho .none=>true
def SV.frA:SV→SV
 | .sl _ t nl xs=> .sl true t nl xs
 | .rp _ t x off=> .rp true t x off
 | .sm _ kt vt es=> .sm true kt vt es
 |v=>v
def AV.frA:AV→AV
 | .one v=> .one v.frA
 | .agg cs=> .agg (cs.map SV.frA)
 | .tup l=> .tup (l.map fun p=>(p.1,p.2.map SV.frA))
 | .own cs=> .own (cs.map SV.frA)
 | .arr _ t xs=> .arr true t xs
 | .mapO _ kt vt es=> .mapO true kt vt es
 | .gho o=> .gho o
def AV.frIf (c:Bool) (x:AV):AV:=bif c then x.frA else x
def frIfs (c:Bool) (l:List AV):List AV:=bif c then l.map AV.frA else l
def evCall (Γ:Orc) (st:St) (f:AV) (args:List AV):Option (Bool×AV):=
 match f with
 | .one (.fn f caps)=>
   match expAs st (args++caps.map capVal)with
   |some xs=>
    match Γ.fn f xs with
    |some (g,r)=>bif !r.isRef&&(r.fresh|| !((args++caps.map capVal).any AV.isRef))then some (g,r)else none
    |none=>none
   |none=>none
 |_=>none
def getSl (st:St) (t:Ty):SV→Option (Bool×List t.D)
 | .nils=>some (true,[])
 | .sl fr t' _ xs=>
   match Ty.castL t' t xs with
   |some ys=>some (fr,ys)
   |none=>none
 | .hot s n=>
   match st.ow s with
   | .arr fr t' xs=>
     match Ty.castL t' t xs with
     |some ys=>some (fr,match n with|none=>ys|some n=>ys.take n)
     |none=>none
   |_=>none
 |_=>none
def ev (tb:Tab) (Γ:Orc) (st:St):Op→Option (Bool×AV)
 | .move x=>some (true,rd st x)
 | .assign x=>some (true,rd st x)
 | .pick c a b=>
   match rd st c,rd st a,rd st b with
   | .one (.bool c),.one (.bool x),.one (.bool y)=>some (true,.one (.bool (cond c x y)))
   | .one (.bool true),a,_=>some (true,a)
   | .one (.bool false),_,b=>some (true,b)
   |_,_,_=>none
 | .alloc T=>
   match Tab.get tb T with
   |some ti=>some (true,.own ti.zero)
   |none=>none
 | .box T x=>
   match cellsOf (rd st x)with
   |some cs=>some (true,.own cs)
   |none=>none
 | .build T parts=>evBuild tb T (parts.toList.map fun p=>(p.1,rd st p.2))
 | .buildSlice T n parts=>evLit (Γ.lit T n) tb T n (parts.toList.map fun p=>(p.1,rd st p.2))
 | .load T a=>evLoad tb st T (rd st a)
 | .nilCheck x=>
   match rd st x with
   | .one (.ptr s o)=>some (true,.one (.ptr s o))
   | .one (.rp f t x o)=>some (true,.one (.rp f t x o))
   | .one (.hptr s z i o)=>some (true,.one (.hptr s z i o))
   | .one (.fn f c)=>some (true,.one (.fn f c))
   |_=>none
 | .binOp op T x y _=>evBin tb op T (rd st x) (rd st y)
 | .unOp op _ x=>evUn op (rd st x)
 | .convert src dst x=>
   match Tab.get tb src,Tab.get tb dst,rd st x with
   |some (.scal (.int _ _)),some (.scal (.int k' _)),.one (.int _ n)=>some (true,.one (.int k' (k'.wrap n)))
   |some (.slice e (.int .u8) _),some (.scal (.str _)),.one v=>
    match Tab.get tb e,getSl st (.int .u8) v with
    |some (.scal (.int .u8 _)),some (_,ys)=>some (true,.one (.str (ofBytes ys)))
    |_,_=>none
   |_,_,_=>none
 | .makeFunc fn first captured=>
   match fn,first.toList,capsOf (captured.toList.map (rd st))with
   | .func f,[],some cs=>some (true,.one (.fn f cs))
   |_,_,_=>none
 | .makeMap T r=>
   match Tab.get tb T,r.map (rd st)with
   |some (.map kt vt),none=>some (true,.mapO true kt vt [])
   |some (.map kt vt),some (.one (.int _ _))=>some (true,.mapO true kt vt [])
   |_,_=>none
 | .lookup T m k ok=>evLookup tb st T (rd st m) (rd st k) ok
 | .makeSlice T l c=>evMake tb T (rd st l) (rd st c)
 | .slice T x lo hi mx=>evSlice tb st T (rd st x) (lo.map (rd st)) (hi.map (rd st)) (mx.map (rd st))
 | .fieldAddr T x f=>evFieldAddr tb T (rd st x) f
 | .field T x f=>evField tb T (rd st x) f
 | .indexAddr T x i=>evIndexAddr tb st T (rd st x) (rd st i)
 | .index T x i=>evIndex tb T (rd st x) (rd st i)
 | .extract x j=>
   match rd st x with
   | .tup l=>
     match l[j]? with
     |some (a,cs)=>
      match asVal a cs with
      |some v=>some (true,v)
      |none=>none
     |none=>none
   |_=>none
 | .call c=>
   match c.callee with
   | .value f=>evCall Γ st (rd st f) (c.args.toList.map (rd st))
   | .builtin b=>evBuiltin tb st b c.argTypes.toList (c.args.toList.map (rd st))
   | .invoke _ _=>none
 |_=>none
def Cap.refers (d:Nat):Cap→Bool
 | .ref s _=>Nat.beq s d
 |_=>false
def SV.refers (d:Nat):SV→Bool
 | .ptr s _=>Nat.beq s d
 | .aptr s _ _ _=>Nat.beq s d
 | .hot s _=>Nat.beq s d
 | .cut s _ _ _=>Nat.beq s d
 | .hptr s _ _ _=>Nat.beq s d
 | .mref s=>Nat.beq s d
 | .fn _ caps=>caps.any (Cap.refers d)
 |_=>false
def SV.kill (d:Nat) (v:SV):SV:=bif v.refers d then .junk else v
def AV.kill (d:Nat):AV→AV
 | .one v=> .one (v.kill d)
 | .agg cs=> .agg (cs.map (SV.kill d))
 | .tup l=> .tup (l.map fun p=>(p.1,p.2.map (SV.kill d)))
 | .own cs=> .own (cs.map (SV.kill d))
 | .gho (.own cs)=> .gho (.own (cs.map (SV.kill d)))
 |v=>v
def AV.isOwner:AV→Bool
 | .own _=>true
 | .arr _ _ _=>true
 | .mapO _ _ _ _=>true
 |_=>false
def AV.refers (d:Nat):AV→Bool
 | .one v=>v.refers d
 | .agg cs=>cs.any (SV.refers d)
 | .tup l=>l.any fun p=>p.2.any (SV.refers d)
 | .own cs=>cs.any (SV.refers d)
 | .gho (.own cs)=>cs.any (SV.refers d)
 |_=>false
def St.kill (d:Nat) (st:St):St:=st.map (AV.kill d)
def selfB (st:St) (d:Nat) (v:AV):Bool:=
 match st.at d with
 | .arr _ _ _=>(match v with| .one (.hot s none)=>Nat.beq s d|_=>false)
 |_=>false
def St.put (st:St) (d:Nat) (v:AV):St:=
 bif (st.at d).isGho then st else bif selfB st d v then st else bif (st.at d).isOwner||v.isOwner then(st.kill d).set d (v.kill d)else st.set d v
def bytesT:(t:Ty)→ByteArray→Option (List t.D)
 | .int .u8,s=>some (bytesOf s)
 |_,_=>none
def getSrc (tb:Tab) (st:St) (t:Ty) (T T':TypeId) (v:SV):Option (Bool×List t.D):=
 match v with
 | .str s=>
   match Tab.get tb T',bytesT t s with
   |some (.scal (.str _)),some l=>some (true,l)
   |_,_=>none
 |v=>bif Nat.beq T T' then getSl st t v else none
def mdAppend0 (tb:Tab) (st:St) (T T':TypeId) (s x:AV) (d:Nat):Option (Bool×St):=
 match Tab.get tb T,s,x with
 |some (.slice _ t bytes),.one s,.one x=>
  match getSrc tb st t T T' x with
  |some (g,ys)=>
   match s with
   | .nils=>some (decide (ys.length*bytes≤140737488355328),st.put d (.arr g t ys))
   | .hot r none=>
     match st.ow r with
     | .arr f t' xs=>
       match Ty.castL t' t xs with
       |some xs=>some (decide ((xs.length+ys.length)*bytes≤140737488355328),St.put (St.upd (st.kill r) r .junk) d (.arr (f&&g) t (xs++ys)))
       |none=>none
     |_=>none
   |_=>none
  |none=>none
 |_,_,_=>none
def Ty.flat:Ty→Bool
 | .pair a b=>a.flat&&b.flat
 | .sl _=>false
 |_=>true
def newArr (st:St) (d:Nat):St:=
 match st.at d with
 | .arr false t xs=>bif t.flat then st.set d (.arr true t xs)else st
 |_=>st
def mdAppend (tb:Tab) (st:St) (T T':TypeId) (s x:AV) (d:Nat):Option (Bool×St):=
 match mdAppend0 tb st T T' s x d with
 |some (g,st')=>some (g,newArr st' d)
 |none=>none
def stCells (st:St) (p:SV) (vs:List SV):Option (Bool×St):=
 match p with
 | .ptr s off=>
   match st.ow s with
   | .own cs=>bif Nat.ble (off+vs.length) cs.length then some (true,St.upd st s (.own (splice cs off vs)))else none
   |_=>none
 | .hptr s sz i off=>
   match st.ow s with
   | .arr fr t xs=>
     bif Nat.beq sz t.size&&Nat.ble (off+vs.length) t.size then
      match decAll t (splice (enc t fr (xs.getD i.toNat t.dflt)) off vs)with
      |some (x,g)=>some (true,St.upd st s (.arr (fr&&g) t (xs.set i.toNat x)))
      |none=>none
     else none
   |_=>none
 | .aptr s base len idx=>
   match st.ow s,vs with
   | .own cs,[.int k n]=>
     match selInt ((cs.drop base).take len)with
     |some (k',l)=>
      bif ikEq k k'&&Nat.beq l.length len then some (true,St.upd st s (.own (splice cs base ((l.set idx.toNat n).map (SV.int k)))))else none
     |none=>none
   |_,_=>none
 |_=>none
def mdStore (tb:Tab) (st:St) (T:TypeId) (p v:AV):Option (Bool×St):=
 match Tab.get tb T,p,cellsOf v with
 |some ti,.one p,some vs=>bif Nat.beq vs.length ti.size then stCells st p vs else none
 |_,_,_=>none
def mdMap (tb:Tab) (st:St) (T:TypeId) (m k x:AV):Option (Bool×St):=
 match Tab.get tb T,m with
 |some (.map kt vt),.one (.mref s)=>
  match st.ow s with
  | .mapO fr kt' vt' es=>
    match Ty.castM kt' vt' kt vt es,toD kt k,toD vt x with
    |some es,some (k,_),some (x,g)=>some (true,St.upd st s (.mapO (fr&&g) kt vt (mput k x es)))
    |_,_,_=>none
  |_=>none
 |_,_=>none
def mdCopy (tb:Tab) (st:St) (T:TypeId) (s x:AV) (d:Nat):Option (Bool×St):=
 match Tab.get tb T,s,x with
 |some (.slice _ t _),.one (.hot r none),.one x=>
  match getSl st t x,st.ow r with
  |some (_,ys),.arr f t' xs=>
   match Ty.castL t' t xs with
   |some xs=>bif t.flat then some (true,St.put (St.upd st r (.arr f t (ys.take xs.length++xs.drop ys.length))) d (.one (.int .i64 ((Nat.min ys.length xs.length:Nat):Int))))else none
   |none=>none
  |_,_=>none
 |some (.slice _ t _),.one (.cut r sz lo hi),.one x=>
  match getSl st t x,st.ow r with
  |some (_,ys),.arr f t' xs=>
   match Ty.castL t' t xs with
   |some xs=>bif t.flat&&Nat.beq sz t.size then some (true,St.put (St.upd st r (.arr f t (xs.take lo++(ys.take (hi-lo)++xs.drop (lo+Nat.min ys.length (hi-lo)))))) d (.one (.int .i64 ((Nat.min ys.length (hi-lo):Nat):Int))))else none
   |none=>none
  |_,_=>none
 |_,_,_=>none
def md (tb:Tab) (st:St) (d:Option Nat):Op→Option (Bool×St)
 | .store T p v=>
   match d with
   |none=>mdStore tb st T (rd st p) (rd st v)
   |some _=>none
 | .mapUpdate T m k x=>
   match d with
   |none=>mdMap tb st T (rd st m) (rd st k) (rd st x)
   |some _=>none
 | .insert T m k x=>
   match d with
   |none=>mdMap tb st T (rd st m) (rd st k) (rd st x)
   |some _=>none
 | .call { callee:= .builtin .append,args,argTypes}=>
   match args.toList,argTypes.toList,d with
   |[s,x],[T,T'],some d=>mdAppend tb st T T' (rd st s) (rd st x) d
   |_,_,_=>none
 | .call { callee:= .builtin .copy,args,argTypes}=>
   match args.toList,argTypes.toList,d with
   |[s,x],[T,_],some d=>mdCopy tb st T (rd st s) (rd st x) d
   |_,_,_=>none
 |_=>none
def posN (s:Nat):List Nat→Nat→Option Nat
 |[],_=>none
 |a::r,k=>bif Nat.beq a s then some k else posN s r (k+1)
def renC (wk:Bool) (ρ:Nat→Option Nat):Cap→Option Cap
 | .ref s off=>match ρ s with|some k=>some (.ref k off)|none=>none
 | .ptrD fr t x=>some (.ptrD (fr&&wk) t x)
 | .valD fr t x=>some (.valD (fr&&wk) t x)
def renCs (wk:Bool) (ρ:Nat→Option Nat):List Cap→Option (List Cap)
 |[]=>some []
 |c::r=>match renC wk ρ c,renCs wk ρ r with
  |some x,some y=>some (x::y)
  |_,_=>none
def renS (wk:Bool) (ρ:Nat→Option Nat):SV→Option SV
 | .ptr s off=>match ρ s with|some k=>some (.ptr k off)|none=>none
 | .hot s n=>match ρ s with|some k=>some (.hot k n)|none=>none
 | .cut _ _ _ _=>none
 | .mref s=>match ρ s with|some k=>some (.mref k)|none=>none
 | .aptr _ _ _ _=>none
 | .hptr _ _ _ _=>none
 | .gp _ _ _=>none
 | .fn f caps=>match renCs wk ρ caps with|some cs=>some (.fn f cs)|none=>none
 | .sl fr t nl xs=>some (.sl (fr&&wk) t nl xs)
 | .rp fr t x off=>some (.rp (fr&&wk) t x off)
 | .sm fr kt vt es=>some (.sm (fr&&wk) kt vt es)
 |v=>some v
def renL (wk:Bool) (ρ:Nat→Option Nat):List SV→Option (List SV)
 |[]=>some []
 |v::r=>match renS wk ρ v,renL wk ρ r with
  |some x,some y=>some (x::y)
  |_,_=>none
def renT (wk:Bool) (ρ:Nat→Option Nat):List (Bool×List SV)→Option (List (Bool×List SV))
 |[]=>some []
 |(b,cs)::r=>match renL wk ρ cs,renT wk ρ r with
  |some x,some y=>some ((b,x)::y)
  |_,_=>none
def renA (wk:Bool) (ρ:Nat→Option Nat):AV→Option AV
 | .one .junk=>none
 | .one v=>match renS wk ρ v with|some x=>some (.one x)|none=>none
 | .agg cs=>match renL wk ρ cs with|some x=>some (.agg x)|none=>none
 | .tup l=>match renT wk ρ l with|some x=>some (.tup x)|none=>none
 | .own cs=>match renL wk ρ cs with|some x=>some (.own x)|none=>none
 | .arr fr t xs=>some (.arr (fr&&wk) t xs)
 | .mapO fr kt vt es=>some (.mapO (fr&&wk) kt vt es)
 | .gho _=>none
def renAs (wk:Bool) (ρ:Nat→Option Nat):List AV→Option (List AV)
 |[]=>some []
 |v::r=>match renA wk ρ v,renAs wk ρ r with
  |some x,some y=>some (x::y)
  |_,_=>none
def Cap.slots:Cap→List Nat
 | .ref s _=>[s]
 |_=>[]
def SV.slots:SV→List Nat
 | .ptr s _=>[s]
 | .hot s _=>[s]
 | .cut s _ _ _=>[s]
 | .mref s=>[s]
 | .fn _ caps=>caps.flatMap Cap.slots
 |_=>[]
def AV.slots:AV→List Nat
 | .one v=>v.slots
 | .agg cs=>cs.flatMap SV.slots
 | .tup l=>l.flatMap fun p=>p.2.flatMap SV.slots
 | .own cs=>cs.flatMap SV.slots
 |_=>[]
def addN:List Nat→List Nat→List Nat
 |L,[]=>L
 |L,s::r=>match posN s L 0 with
  |some _=>addN L r
  |none=>addN (L++[s]) r
def reachN (st:St):Nat→List Nat→Nat→List Nat
 |0,L,_=>L
 |k+1,L,i=>match L[i]? with
  |some s=>reachN st k (addN L (st.ow s).slots) (i+1)
  |none=>L
def distN:List Nat→Bool
 |[]=>true
 |s::r=>(match posN s r 0 with|some _=>false|none=>true)&&distN r
def sameKind:AV→AV→Bool
 | .own cs,.own ds=>Nat.beq cs.length ds.length
 | .arr _ t _,.arr _ t' _=>Nat.beq t.size t'.size
 | .mapO _ _ _ _,.mapO _ _ _ _=>true
 |_,_=>false
def dropAll:List Nat→St→St
 |[],st=>st
 |s::r,st=>dropAll r (St.upd (st.kill s) s .junk)
def dropR:List Nat→St→St
 |[],st=>st
 |s::r,st=>dropR r (St.upd st s .junk)
def growN:Nat→St→St
 |0,st=>st
 |k+1,st=>growN k (st.kill st.length++[.gho .none])
def fillAll:List Nat→List AV→St→St
 |s::L,v::gs,st=>fillAll L gs (St.upd st s v)
 |_,_,st=>st
def kindsOk (st:St):List Nat→List AV→Bool
 |[],_=>true
 |s::L,v::gs=>sameKind (st.ow s) v&&kindsOk st L gs
 |_::_,[]=>false
def upN:Nat→Nat→List Nat
 |_,0=>[]
 |a,k+1=>a::upN (a+1) k
def reuse (lo:Option Nat) (t:List Nat) (m:Nat):List Nat:=
 match lo with
 |none=>[]
 |some x=>(t.filter (Nat.ble x)).take m
def killAll:List Nat→St→St
 |[],st=>st
 |s::r,st=>killAll r (st.kill s)
def AV.noneG:AV→Bool
 | .gho .none=>true
 |_=>false
def freeN:Nat→List AV→List Nat
 |_,[]=>[]
 |i,v::r=>bif v.noneG then i::freeN (i+1) r else freeN (i+1) r
def frees (free:Bool) (st:St):List Nat:=bif free then freeN 0 st else []
def mdCall0 (pin:Bool) (Γ:Orc) (st:St) (d:Option Nat) (f:AV) (args:List AV):Option (Bool×St):=
 match f with
 | .one (.fn f caps)=>
   bif !Γ.has f then none else
   let xs:=args++caps.map capVal
   let L:=reachN st 16 (addN [] (xs.flatMap AV.slots)) 0
   let R:=bif pin then addN [] (xs.flatMap AV.slots)else []
   match renAs false (fun s=>posN s L 0) xs,renAs false (fun s=>posN s L 0) (L.map st.ow)with
   |some ys,some gs=>
    bif distN L&&gs.all AV.isOwner then
     match Γ.io f ys R.length gs with
     |some (g,r,gs')=>
      let U:=reuse Γ.lo (L.drop R.length++frees Γ.free st) (gs'.length-R.length)
      let L':=R++(U++upN st.length (gs'.length-R.length-U.length))
      let af:=xs.all AV.fresh&&(L.map st.ow).all AV.fresh
      match renA true (fun k=>L'[k]?) (r.frIf af),renAs true (fun k=>L'[k]?) (frIfs af gs')with
      |some r',some hs=>
       bif kindsOk st R hs&&hs.all AV.isOwner&& !r'.isOwner then
        let st':=fillAll L' hs (growN (gs'.length-R.length-U.length) (killAll U (dropR R (dropAll (L.drop R.length) st))))
        match d with
        |some d=>some (g,st'.put d r')
        |none=>some (g,st')
       else none
      |_,_=>none
     |none=>none
    else none
   |_,_=>none
 |_=>none
def mdCall (Γ:Orc) (st:St) (d:Option Nat) (f:AV) (args:List AV):Option (Bool×St):=
 match mdCall0 true Γ st d f args with
 |some x=>some x
 |none=>mdCall0 false Γ st d f args
def mdAll (tb:Tab) (Γ:Orc) (st:St) (d:Option Nat) (o:Op):Option (Bool×St):=
 match md tb st d o with
 |some x=>some x
 |none=>
  match o with
  | .call { callee:= .value f,args, .. }=>mdCall Γ st d (rd st f) (args.toList.map (rd st))
  |_=>none
def isMd:Op→Bool
 | .store .. =>true
 | .mapUpdate .. =>true
 | .insert .. =>true
 | .call { callee:= .builtin .append, .. }=>true
 | .call { callee:= .builtin .copy, .. }=>true
 |_=>false
inductive AE where
 |normal
 |exit (id:Nat)
 |ret
class Same (ρ:Type) where
 eq:ρ→ρ→Bool
 sound: ∀a b,eq a b=true→a=b
noncomputable instance:Same AV where
 eq a b:= @decide (a=b) (Classical.propDecidable _)
 sound a b h:= @of_decide_eq_true _ (Classical.propDecidable _) h
theorem same_self (x:AV):Same.eq x x=true:= @decide_eq_true _ (Classical.propDecidable _) rfl
noncomputable instance:Same (AV×List AV) where
 eq a b:= @decide (a=b) (Classical.propDecidable _)
 sound a b h:= @of_decide_eq_true _ (Classical.propDecidable _) h
section
variable {ρ:Type} [Same ρ]
def stepOp (tb:Tab) (Γ:Orc) (st:St) (o:Oper) (K:St→Option ρ):Option ρ:=
 match mdAll tb Γ st o.dst o.op with
 |some (g,st')=>bif g then K st' else none
 |none=>
  match ev tb Γ st o.op,o.dst with
  |some (g,v),some d=>bif g then K (st.put d v)else none
  |some (g,_),none=>bif g then K st else none
  |none,_=>none
def guardSlot (ops:List Oper) (j:Nat):Option Nat:=
 match ops[j]? with
 |some o=>o.dst
 |none=>none
def skipOp (st:St) (o:Oper) (K:St→Option ρ):Option ρ:=
 match o.dst with
 |some d=>K (st.put d (.tup []))
 |none=>K st
def stepG (tb:Tab) (Γ:Orc) (ops:List Oper) (st:St) (o:Oper) (K:St→Option ρ):Option ρ:=
 match o.guard with
 |none=>stepOp tb Γ st o K
 |some (j,want)=>
  match guardSlot ops j with
  |some s=>
   match st.at s with
   | .one (.bool b)=>
     bif b then
      (match want with
       |true=>stepOp tb Γ (st.set s (.one (.bool true))) o K
       |false=>skipOp (st.set s (.one (.bool true))) o K)
     else
      (match want with
       |true=>skipOp (st.set s (.one (.bool false))) o K
       |false=>stepOp tb Γ (st.set s (.one (.bool false))) o K)
   | .tup []=>skipOp st o K
   |_=>none
  |none=>none
abbrev GE:=List (Nat×Nat×Bool×AV)
def geOf:GE→Nat→Option (Nat×Bool)
 |[],_=>none
 |(t,s,w,_)::r,i=>bif Nat.beq t i then some (s,w)else geOf r i
def geB:GE→Nat→Bool
 |[],_=>false
 |(t,_,_,v)::r,i=>bif Nat.beq t i then(match v with| .one (.bool _)=>true|_=>false)else geB r i
def boolBeq (a b:Bool):Bool:=bif b then a else !a
def overOne (s:Nat) (w:Bool):GE→St→St
 |[],st=>st
 |(t,s',w',v)::r,st=>overOne s w r (bif Nat.beq s' s&&boolBeq w' w then List.set st t v else st)
def overE (E:GE):Nat→Nat→Bool→St→St
 |0,_,_,st=>st
 |k+1,s,w,st=>
  List.set (overOne s w E (match geOf E s with
   |some (s0,w0)=>overE E k s0 w0 st
   |none=>st)) s (.one (.bool w))
def geE:GE→Nat→Option (Nat×Bool×AV)
 |[],_=>none
 |(t,s,w,v)::r,i=>bif Nat.beq t i then some (s,w,v)else geE r i
def chainB (E:GE) (st:St):Nat→Nat→Bool→Bool
 |0,_,_=>true
 |k+1,s,w=>
  match geE E s with
  |some (s0,w0,.one (.bool c))=>chainB E st k s0 w0&&boolBeq c w
  |some _=>true
  |none=>
   match st.at s with
   | .one (.bool b)=>boolBeq b w
   |_=>true
def dropE (d:Nat):GE→GE
 |[]=>[]
 |(t,s,w,v)::r=>bif Nat.beq t d||Nat.beq s d||v.refers d then dropE d r else(t,s,w,v)::dropE d r
def dropO:Option Nat→GE→GE
 |some d,E=>dropE d E
 |none,E=>E
def evG (tb:Tab) (Γ:Orc) (E:GE) (st:St) (o:Op):Option (Bool×AV):=
 match o with
 | .pick (.tmp s) a b=>
   match rd st (.tmp s),rd (overE E (E.length+1) s true st) a,rd (overE E (E.length+1) s false st) b with
   | .one (.bool c),.one (.bool x),.one (.bool y)=>some (true,.one (.bool (cond c x y)))
   |_,_,_=>ev tb Γ st o
 |o=>ev tb Γ st o
def evGn (tb:Tab) (Γ:Orc) (E:GE) (st:St) (s:Nat) (want:Bool) (d:Nat) (o:Op):Option (Bool×AV):=
 bif isMd o||Nat.beq d s||(st.at d).isGho then none else
  match evG tb Γ E (overE E (E.length+1) s want st) o with
  |some (g,v)=>bif v.isOwner then none else some (g,v)
  |none=>none
def stepB (tb:Tab) (Γ:Orc) (E:GE) (st:St) (s:Nat) (b want:Bool) (o:Oper) (K:St→GE→Option ρ):Option ρ:=
 bif b then
  (match want with
   |true=>stepOp tb Γ (overE E (E.length+1) s true st) o fun st'=>K st' []
   |false=>skipOp (List.set st s (.one (.bool true))) o fun st'=>K st' (dropO o.dst E))
 else
  (match want with
   |true=>skipOp (List.set st s (.one (.bool false))) o fun st'=>K st' (dropO o.dst E)
   |false=>stepOp tb Γ (overE E (E.length+1) s false st) o fun st'=>K st' [])
def stepE (tb:Tab) (Γ:Orc) (ops:List Oper) (st:St) (E:GE) (o:Oper) (K:St→GE→Option ρ):Option ρ:=
 match o.guard with
 |none=>
  match mdAll tb Γ st o.dst o.op with
  |some (g,st')=>bif g then K st' []else none
  |none=>
   match evG tb Γ E st o.op,o.dst with
   |some (g,v),some d=>bif g then K (st.put d v) (bif v.isOwner then []else dropE d E)else none
   |some (g,_),none=>bif g then K st E else none
   |none,_=>none
 |some (j,want)=>
  match guardSlot ops j with
  |none=>none
  |some s=>
   match st.at s with
   | .tup []=>skipOp st o fun st'=>K st' (dropO o.dst E)
   | .one (.bool b)=>
     match o.dst with
     |some d=>
      match evGn tb Γ E st s want d o.op with
      |some (g,v)=>bif g|| !boolBeq b want then K (st.put d (.one .junk)) ((d,s,want,v)::dropE d E)else none
      |none=>stepB tb Γ E st s b want o K
     |none=>stepB tb Γ E st s b want o K
   |_=>
    match geB E s,o.dst with
    |true,some d=>
     match evGn tb Γ E st s want d o.op with
     |some (g,v)=>bif g|| !chainB E st (E.length+1) s want then K (st.put d (.one .junk)) ((d,s,want,v)::dropE d E)else none
     |none=>none
    |_,_=>none
def expParts (st:St):List (Nat×Operand)→Option (List (Nat×AV))
 |[]=>some []
 |(i,x)::r=>
  match expA st (rd st x),expParts st r with
  |some y,some ys=>some ((i,y)::ys)
  |_,_=>none
def fuseCall (tb:Tab) (Γ:Orc) (st:St) (T:TypeId) (n:Nat) (parts:List (Nat×Operand)) (d:Nat) (f:FuncId) (d2:Nat):Option (Bool×St):=
 match Tab.get tb T,expParts st parts with
 |some (.slice _ t _),some ys=>
  match litElems t 0 ys with
  |some (xs,_)=>
   match Γ.fn f [.one (.sl false t none xs)]with
   |some (g,r)=>bif Nat.beq ys.length n&&(Nat.ble (n*t.size) 65536&&(!r.isRef&&(r.fresh&&(Nat.blt d st.length&& !(st.at d).isGho))))then some (g,(st.put d (.one .junk)).put d2 r)else none
   |none=>none
  |none=>none
 |_,_=>none
def fuseE (tb:Tab) (Γ:Orc) (st:St) (o o2:Oper):Option (Bool×St):=
 bif Γ.fuse then
  match o.guard,o2.guard,o.op,o2.op,o.dst,o2.dst with
  |none,none,.buildSlice T n parts,.call { callee:= .value (.func f),args, .. },some d,some d2=>
   (match args.toList with
   |[.tmp d']=>bif Nat.beq d' d then fuseCall tb Γ st T n parts.toList d f d2 else none
   |_=>none)
  |_,_,_,_,_,_=>none
 else none
def runE (tb:Tab) (Γ:Orc) (ops:List Oper):List Oper→St→GE→(St→Option ρ)→Option ρ
 |[],st,_,K=>K st
 |[o],st,E,K=>stepE tb Γ ops st E o fun st' _=>K st'
 |o::o2::r,st,E,K=>
  match fuseE tb Γ st o o2 with
  |some (g,st')=>bif g then runE tb Γ ops r st' [] K else none
  |none=>stepE tb Γ ops st E o fun st' E'=>runE tb Γ ops (o2::r) st' E' K
inductive Dir where
 |keep
 |arr (t:Ty)
def normOne (st:St) (i:Nat):Dir→St
 | .keep=>st
 | .arr t=>
   match st.at i with
   | .one .nils=>st.put i (.arr true t [])
   | .one (.hot s none)=>
     match st.ow s with
     | .arr fr t' xs=>bif Nat.beq s i then st else St.put (St.upd (st.kill s) s .junk) i (.arr fr t' xs)
     |_=>st
   |_=>st
def norm (ds:List (Nat×Dir)) (st:St):St:=ds.foldl (fun st p=>normOne st p.1 p.2) st
def lookV (e:AV):List (Nat×Dir)→List AV→Nat→AV
 |(j,_)::ds,v::vs,i=>bif Nat.beq j i then v else lookV e ds vs i
 |_,_,_=>e
def embGo (e:AV) (ds:List (Nat×Dir)) (vs:List AV):Nat→Nat→St
 |_,0=>[]
 |i,n+1=>lookV e ds vs i::embGo e ds vs (i+1) n
def emb (n g:Nat) (ds:List (Nat×Dir)) (vs:List AV):St:=embGo (.one .junk) ds vs 0 n++embGo (.gho .none) ds vs n g
def atAll (st:St):List (Nat×Dir)→List AV
 |[]=>[]
 |(j,_)::ds=>st.at j::atAll st ds
def liveOf (ds:List (Nat×Dir)) (st:St):List AV:=atAll (norm ds st) ds
def loopN (body:St→(AE→St→Option ρ)→Option ρ) (n g:Nat) (ds:List (Nat×Dir)) (K:AE→List AV→Option ρ):Nat→List AV→Option ρ
 |0,_=>none
 |k+1,vs=>body (emb n g ds vs) fun e st'=>
  bif Nat.ble (n+g) st'.length then
   match e with
   | .normal=>loopN body n g ds K k (liveOf ds st')
   |e=>K e (liveOf ds st')
  else none
structure Lay where
 n:Nat
 g:Nat
 live:List (Nat×List (Nat×Dir))
def liveGet:List (Nat×List (Nat×Dir))→Nat→List (Nat×Dir)
 |[],_=>[]
 |(a,i)::r,t=>bif Nat.beq a t then i else liveGet r t
def Lay.get (ms:Lay) (t:Nat):List (Nat×Dir):=liveGet ms.live t
abbrev Lam (ρ:Type):=Nat→List AV→(AE→List AV→Option ρ)→Option ρ
def condSt (st:St) (c:Operand) (b:Bool):St:=
 match c with
 | .tmp t=>st.set t (.one (.bool b))
 |_=>st
def blockK (id:Nat) (K:AE→St→Option ρ) (e:AE) (st:St):Option ρ:=
 match e with
 | .exit j=>bif Nat.beq j id then K .normal st else K (.exit j) st
 |e=>K e st
def seqK (next:St→Option ρ) (K:AE→St→Option ρ) (e:AE) (st:St):Option ρ:=
 match e with
 | .normal=>next st
 |e=>K e st
def inL:List Nat→Nat→Bool
 |[],_=>false
 |a::r,i=>Nat.beq a i||inL r i
def uniN:List Nat→List Nat→List Nat
 |[],l=>l
 |a::r,l=>uniN r (bif inL l a then l else a::l)
def ancGo:List (List Nat)→List Oper→List (List Nat)
 |acc,[]=>acc
 |acc,o::r=>ancGo (acc++[o.after.toList.foldl (fun l e=>bif Region.binds .any e&& !inL l e.on then uniN (e.on::acc.getD e.on []) l else l) []]) r
def ancs (A:List (List Nat)) (i:Nat):List Nat:=A.getD i []
def chkA (ops:List Oper) (A:List (List Nat)):Nat→List Oper→Bool
 |_,[]=>true
 |i,o::r=>(o.after.toList.all fun e=> !Region.binds .any e||Nat.blt e.on i)&&
  ((ancs A i).all fun x=>Nat.blt x i&&o.after.toList.any fun e=>Region.binds .any e&&(Nat.beq e.on x||inL (ancs A e.on) x))&&chkA ops A (i+1) r
abbrev Ent:=Nat×Nat×AV
def look:List Ent→(Nat→Bool)→Nat→Option AV
 |[],_,_=>none
 |(i,d,v)::r,X,t=>bif Nat.beq d t&&X i then some v else look r X t
def over (E:List Ent) (X:Nat→Bool):Nat→St→St
 |_,[]=>[]
 |t,a::r=>(match look E X t with|some v=>v|none=>a)::over E X (t+1) r
def refine(s:Nat) (X:Nat→Bool) (b:Bool):List Ent→List Ent
 |[]=>[]
 |(i,d,v)::r=>(i,d,bif Nat.beq d s&&X i then .one (.bool b)else v)::refine s X b r
def evS (tb:Tab) (Γ:Orc) (st:St) (o:Op) (K:AV→Option ρ):Option ρ:=
 match ev tb Γ st o with
 |some (g,v)=>bif g then(bif v.isGho then none else K v)else none
 |none=>none
def isJ:AV→Bool
 | .one .junk=>true
 |_=>false
def drawS (tb:Tab) (Γ:Orc) (ops:List Oper) (A:List (List Nat)) (base:St):List (Nat×Oper)→Nat→List Ent→(List Ent→Option ρ)→Option ρ
 |[],_,E,K=>K E
 |(i,o)::r,lo,E,K=>
  match o.dst with
  |none=>none
  |some d=>
   bif Nat.ble lo i&&isJ (base.at d)&&(look E (fun _=>true) d).isNone then
    match o.guard with
    |none=>evS tb Γ (over E (inL (ancs A i)) 0 base) o.op fun v=>drawS tb Γ ops A base r (i+1) (E++[(i,d,v)]) K
    |some (j,want)=>
     match guardSlot ops j with
     |none=>none
     |some s=>
      match(over E (inL (ancs A i)) 0 base).at s with
      | .one (.bool b)=>
        bif b then
         (match want with
          |true=>evS tb Γ (over (refine s (inL (ancs A i)) true E) (inL (ancs A i)) 0 base) o.op fun v=>drawS tb Γ ops A base r (i+1) (refine s (inL (ancs A i)) true E++[(i,d,v)]) K
          |false=>drawS tb Γ ops A base r (i+1) (refine s (inL (ancs A i)) true E++[(i,d,.tup [])]) K)
        else
         (match want with
          |true=>drawS tb Γ ops A base r (i+1) (refine s (inL (ancs A i)) false E++[(i,d,.tup [])]) K
          |false=>evS tb Γ (over (refine s (inL (ancs A i)) false E) (inL (ancs A i)) 0 base) o.op fun v=>drawS tb Γ ops A base r (i+1) (refine s (inL (ancs A i)) false E++[(i,d,v)]) K)
      | .tup []=>drawS tb Γ ops A base r (i+1) (E++[(i,d,.tup [])]) K
      |_=>none
   else none
def chkE (A:List (List Nat)) (base:St) (E:List Ent):Bool:=
 E.all fun p=>match p with
   |(j,d,v)=> !v.isOwner||(base.all (fun a=> !a.refers d)&&E.all fun q=>match q with|(k,_,u)=>inL (ancs A k) j|| !u.refers d)
def runT (tb:Tab) (Γ:Orc) (ops:List Oper):List (Nat×Oper)→St→(St→Option ρ)→Option ρ
 |[],st,K=>K st
 |(_,o)::r,st,K=>stepG tb Γ ops st o fun st'=>runT tb Γ ops r st' K
def chkT (A:List (List Nat)):List Nat→List (Nat×Oper)→Bool
 |_,[]=>true
 |l,(i,_)::r=>l.all (inL (ancs A i))&&chkT A (i::l) r
def clear:List (Nat×Oper)→St→St
 |[],st=>st
 |(_,o)::r,st=>match o.dst with
  |some d=>clear r (bif (st.at d).isGho then st else List.set (st.kill d) d .junk)
  |none=>clear r st
def isMapT (tb:Tab):List TypeId→Bool
 |T::_=>match Tab.get tb T with
  |some (.map _ _)=>true
  |_=>false
 |[]=>false
def hoistV (tb:Tab) (st:St):Op→Option AV
 | .move x=>some (rd st x)
 | .call { callee:= .builtin .len,args,argTypes}=>
   match isMapT tb argTypes.toList,evBuiltin tb st .len argTypes.toList (args.toList.map (rd st))with
   |false,some (true,v)=>some v
   |_,_=>none
 |_=>none
def hoist (tb:Tab) (ops:Array Oper):List (Nat×Oper)→Array Bool→List Nat→St→(Array Bool→List Nat→St→Option ρ)→Option ρ
 |[],listed,H,st,K=>K listed H st
 |(i,o)::r,listed,H,st,K=>
  match o.guard,o.dst,hoistV tb st o.op with
  |none,some d,some v=>
   bif Region.free .any ops listed i&&(Region.ready .any ops listed).contains i then hoist tb ops r (listed.setIfInBounds i true) (i::H) (st.put d v) K
   else hoist tb ops r listed H st K
  |_,_,_=>hoist tb ops r listed H st K
def hoistW (tb:Tab) (st:St) (o:Op):Option (Bool×AV):=
 match o with
 | .binOp op _ x y _=>
   match rd st x,rd st y with
   | .one (.int k a),.one (.int k' b)=>
     bif ikEq k k' then
      match evInt op k a b with
      |some (g,v)=>some (g,.one v)
      |none=>none
     else none
   |_,_=>none
 | .pick c x y=>
   match rd st c with
   | .one (.bool b)=>
     match rd st x,rd st y with
     | .one (.bool p),.one (.bool q)=>some (true,.one (.bool (cond b p q)))
     |vx,vy=>
      match b with
      |true=>some (true,vx)
      |false=>some (true,vy)
   |_=>none
 | .nilCheck x=>
   match rd st x with
   | .one (.ptr s o)=>some (true,.one (.ptr s o))
   |_=>none
 | .fieldAddr T x f=>
   match evFieldAddr tb T (rd st x) f with
   |some (g,v)=>some (g,v)
   |none=>none
 | .extract x j=>
   match rd st x with
   | .tup l=>
     match l[j]? with
     |some (a,cs)=>
      match asVal a cs with
      |some v=>some (true,v)
      |none=>none
     |none=>none
   |_=>none
 |o=>
  match hoistV tb st o with
  |some v=>some (true,v)
  |none=>none
def hoistX (tb:Tab) (ops:Array Oper):List (Nat×Oper)→Array Bool→List Nat→St→(Array Bool→List Nat→St→Option ρ)→Option ρ
 |[],listed,H,st,K=>K listed H st
 |(i,o)::r,listed,H,st,K=>
  match o.dst with
  |none=>hoistX tb ops r listed H st K
  |some d=>
   bif Region.free .any ops listed i&&(Region.ready .any ops listed).contains i then
    match o.guard with
    |none=>
     match hoistW tb st o.op with
     |some (g,v)=>bif g then hoistX tb ops r (listed.setIfInBounds i true) (i::H) (st.put d v) K else none
     |none=>hoistX tb ops r listed H st K
    |some (j,want)=>
     match guardSlot ops.toList j with
     |none=>hoistX tb ops r listed H st K
     |some s=>
      match st.at s with
      | .one (.bool b)=>
        bif b then
         (match want with
          |true=>
           match hoistW tb (List.set st s (.one (.bool true))) o.op with
           |some (g,v)=>bif g then hoistX tb ops r (listed.setIfInBounds i true) (i::H) (St.put (List.set st s (.one (.bool true))) d v) K else none
           |none=>hoistX tb ops r listed H st K
          |false=>hoistX tb ops r (listed.setIfInBounds i true) (i::H) (St.put (List.set st s (.one (.bool true))) d (.tup [])) K)
        else
         (match want with
          |true=>hoistX tb ops r (listed.setIfInBounds i true) (i::H) (St.put (List.set st s (.one (.bool false))) d (.tup [])) K
          |false=>
           match hoistW tb (List.set st s (.one (.bool false))) o.op with
           |some (g,v)=>bif g then hoistX tb ops r (listed.setIfInBounds i true) (i::H) (St.put (List.set st s (.one (.bool false))) d v) K else none
           |none=>hoistX tb ops r listed H st K)
      |_=>hoistX tb ops r listed H st K
   else hoistX tb ops r listed H st K
def numbered:Nat→List Oper→List (Nat×Oper)
 |_,[]=>[]
 |i,o::r=>(i,o)::numbered (i+1) r
def splitT (A:List (List Nat)):List Nat→List (Nat×Oper)→List (Nat×Oper)×List (Nat×Oper)
 |_,[]=>([],[])
 |l,(i,o)::r=>
  match splitT A (i::l) r with
  |([],T)=>bif l.all (inL (ancs A i))then([],(i,o)::T)else([(i,o)],T)
  |(s::S,T)=>((i,o)::s::S,T)
def before:List (Nat×Oper)→List (Nat×Oper)
 |[]=>[]
 |(i,o)::r=>bif isMd o.op then []else(i,o)::before r
def without (H:List Nat):List (Nat×Oper)→List (Nat×Oper)
 |[]=>[]
 |(i,o)::r=>bif inL H i then without H r else(i,o)::without H r
def drawST (tb:Tab) (Γ:Orc) (ops:List Oper) (A:List (List Nat)) (S T:List (Nat×Oper)) (st:St) (K:St→Option ρ):Option ρ:=
 bif chkT A (S.map (·.1)) T then
  drawS tb Γ ops A (clear S st) S 0 [] fun E=>
   bif chkE A (clear S st) E then runT tb Γ ops T (over E (fun _=>true) 0 (clear S st)) K else none
 else none
def markA (n:Nat) (l:List Nat):Array Bool:=((List.range n).map (inL l)).toArray
def isExt:Op→Bool
 | .extract _ _=>true
 |_=>false
def lateB (ops:Array Oper) (A:List (List Nat)) (p:Nat×Oper):Bool:=
 isExt p.2.op &&p.2.guard.isNone &&Region.free .any ops (markA ops.size (ancs A p.1)) p.1
def lateS (tb:Tab) (ops:Array Oper) (A:List (List Nat)) (base:St) (T:List Nat):List (Nat×Oper)→List Ent→(List Ent→Option ρ)→Option ρ
 |[],E,K=>K E
 |(i,o)::r,E,K=>
  match o.dst,hoistW tb (over E (inL (ancs A i)) 0 base) o.op with
  |some d,some (g,v)=>
   bif g&&(lateB ops A (i,o)&&(isJ (base.at d)&&((look E (fun _=>true) d).isNone&&((o.after.toList.all fun e=> !Region.binds .any e|| !inL T e.on)&&((E.all fun p=> !inL (ancs A p.1) i)&& !v.isGho)))))then
    lateS tb ops A base T r (E++[(i,d,v)]) K else none
  |_,_=>none
def drawSTL (tb:Tab) (Γ:Orc) (ops:Array Oper) (A:List (List Nat)) (S L T:List (Nat×Oper)) (st:St) (K:St→Option ρ):Option ρ:=
 bif chkT A (S.map (·.1)) T then
  drawS tb Γ ops.toList A (clear (S++L) st) S 0 [] fun E=>
   lateS tb ops A (clear (S++L) st) (T.map (·.1)) L E fun E=>
    bif chkE A (clear (S++L) st) E then runT tb Γ ops.toList T (over E (fun _=>true) 0 (clear (S++L) st)) K else none
 else none
def lin (ops:Array Oper):Nat→Array Bool→List (List Nat)
 |0,listed=>
  match Region.ready .any ops listed with
  |[]=>[[]]
  |_::_=>[[ops.size]]
 |k+1,listed=>
  match Region.ready .any ops listed with
  |[]=>[[]]
  |i::r=>(i::r).flatMap fun i=>(lin ops k (listed.setIfInBounds i true)).map (i:: ·)
def pairC (A:List (List Nat)):List (Nat×Oper)→Nat
 |[]=>0
 |(i,_)::r=>(r.filter fun p=> !inL (ancs A p.1) i).length+pairC A r
def fewB (A:List (List Nat)) (N:List (Nat×Oper)):Bool:=bif Nat.ble N.length 12 then Nat.ble (pairC A N) 15 else false
def runSeq (tb:Tab) (Γ:Orc) (ops:Array Oper):List Nat→St→(St→Option ρ)→Option ρ
 |[],st,K=>K st
 |i::r,st,K=>
  match ops[i]? with
  |some o=>stepG tb Γ ops.toList st o fun st'=>runSeq tb Γ ops r st' K
  |none=>none
noncomputable def sameO (x:ρ):List (Option ρ)→Bool
 |[]=>true
 |some y::r=>Same.eq x y&&sameO x r
 |none::_=>false
noncomputable def allSame:List (Option ρ)→Option ρ
 |some x::r=>bif sameO x r then some x else none
 |_=>none
theorem sameO_rep (x:AV): ∀(n:Nat),sameO x (List.replicate n (some x))=true
 |0=>rfl
 |n+1=>by
  show(Same.eq x x&&sameO x (List.replicate n (some x)))=true
  rw[same_self,sameO_rep x n];rfl
theorem allSame_rep (x:AV) (n:Nat):allSame (List.replicate (n+1) (some x))=some x:=by
 show(bif sameO x (List.replicate n (some x))then some x else none)=some x
 rw[sameO_rep];rfl
noncomputable def drawAll (tb:Tab) (Γ:Orc) (ops:Array Oper) (st:St) (K:St→Option ρ):Option ρ:=
 allSame ((lin ops ops.size (Array.replicate ops.size false)).map fun o=>runSeq tb Γ ops o st K)
def movesFrom (d:Nat):Op→Bool
 | .move (.tmp t)=>Nat.beq t d
 | .assign (.tmp t)=>Nat.beq t d
 |_=>false
def ioCall (Γ:Orc) (st:St):Op→Bool
 | .call { callee:= .value f, .. }=>
   match rd st f with
   | .one (.fn g _)=>Γ.has g
   |_=>false
 |_=>false
def hard (Γ:Orc) (st:St) (ops:List Oper) (p:Nat×Oper):Bool:=
 isMd p.2.op ||ioCall Γ st p.2.op ||match p.2.op,p.2.dst with
  | .assign _,some d=>ops.any fun o=>movesFrom d o.op
  |_,_=>false
def early (Γ:Orc) (ops:Array Oper) (A:List (List Nat)) (N:List (Nat×Oper)) (st:St) (p:Nat×Oper):Bool:=
 !hard Γ st ops.toList p&&(N.filter (lateB ops A)).all fun q=> !inL (ancs A p.1) q.1
def lateOk (Γ:Orc) (ops:Array Oper) (A:List (List Nat)) (N:List (Nat×Oper)) (st:St):Bool:=
 N.any (lateB ops A)&&(!(splitT A [] (N.filter fun p=> !lateB ops A p)).1.any (hard Γ st ops.toList)&&
   (N.filter (lateB ops A)).all fun q=>q.2.after.toList.all fun e=> !Region.binds .any e|| !inL (((splitT A [] (N.filter fun p=> !lateB ops A p)).2.dropWhile (early Γ ops A N st)).map (·.1)) e.on)
noncomputable def sched (tb:Tab) (Γ:Orc) (ops:Array Oper) (N:List (Nat×Oper)):Nat→Array Bool→List Nat→St→(St→Option ρ)→Option ρ
 |0,_,_,_,_=>none
 |k+1,listed,H,st,K=>
  hoistX tb ops N listed H st fun listed H st=>
   match Region.ready .any ops listed with
   |[]=>K st
   |[i]=>
    match ops[i]? with
    |some o=>stepG tb Γ ops.toList st o fun st=>sched tb Γ ops N k (listed.setIfInBounds i true) (i::H) st K
    |none=>none
   |rs=>allSame (rs.map fun i=>
    match ops[i]? with
    |some o=>stepG tb Γ ops.toList st o fun st=>sched tb Γ ops N k (listed.setIfInBounds i true) (i::H) st K
    |none=>none)
noncomputable def drawRegion (tb:Tab) (Γ:Orc) (ops:Array Oper) (A:List (List Nat)) (N:List (Nat×Oper)) (st:St) (K:St→Option ρ):Option ρ:=
 bif chkA ops.toList A 0 ops.toList then
  bif Nat.ble ops.size 4&&(splitT A [] N).1.any (hard Γ st ops.toList)then drawAll tb Γ ops st K
  else bif (splitT A [] N).1.any (hard Γ st ops.toList)then
   bif Region.noSelect ops then
    hoist tb ops N (Array.replicate ops.size false) [] st fun listed H st'=>
     bif (splitT A [] (without H N)).1.any (hard Γ st' ops.toList)then
      bif fewB A (without H N)then allSame ((lin ops ops.size listed).map fun o=>runSeq tb Γ ops o st' K)else
       hoistX tb ops N listed H st' fun listed H st'=>
        bif fewB A (without H N)then allSame ((lin ops ops.size listed).map fun o=>runSeq tb Γ ops o st' K)else
         bif lateOk Γ ops A (without H N) st' then drawSTL tb Γ ops A ((splitT A [] ((without H N).filter fun p=> !lateB ops A p)).1++(splitT A [] ((without H N).filter fun p=> !lateB ops A p)).2.takeWhile (early Γ ops A (without H N) st')) ((without H N).filter (lateB ops A)) ((splitT A [] ((without H N).filter fun p=> !lateB ops A p)).2.dropWhile (early Γ ops A (without H N) st')) st' K
         else sched tb Γ ops N (ops.size+1) listed H st' K
     else drawST tb Γ ops.toList A (splitT A [] (without H N)).1 (splitT A [] (without H N)).2 st' K
   else none
  else drawST tb Γ ops.toList A (splitT A [] N).1 (splitT A [] N).2 st K
 else none
noncomputable def runRegion (tb:Tab) (Γ:Orc) (ops:Array Oper) (draw:Bool) (st:St) (K:St→Option ρ):Option ρ:=
 match draw with
 |false=>runE tb Γ ops.toList ops.toList st [] K
 |true=>drawRegion tb Γ ops (ancGo [] ops.toList) (numbered 0 ops.toList) st K
noncomputable def aexec (tb:Tab) (Γ:Orc) (Λ:Lam ρ) (ms:Lay):Code→Nat→St→(AE→St→Option ρ)→Option ρ
 | .skip,_,st,K=>K .normal st
 | .region _ ops draw,_,st,K=>runRegion tb Γ ops draw st (K .normal)
 | .seq a b,cur,st,K=>aexec tb Γ Λ ms a cur st (seqK (fun st'=>aexec tb Γ Λ ms b cur st' K) K)
 | .cond c x y,cur,st,K=>
   match rd st c with
   | .one (.bool b)=>bif b then aexec tb Γ Λ ms x cur (condSt st c true) K else aexec tb Γ Λ ms y cur (condSt st c false) K
   |_=>none
 | .block id body,_,st,K=>aexec tb Γ Λ ms body id st (blockK id K)
 | .loop _,cur,st,K=>bif Nat.ble (ms.n+ms.g) st.length then Λ cur (liveOf (ms.get cur) st) (fun e vs=>K e (emb ms.n ms.g (ms.get cur) vs))else none
 | .exit id,_,st,K=>K (.exit id) st
 | .ret,_,st,K=>K .ret st
 |_,_,_,_=>none
def loopsOf:Nat→Code→List (Nat×Code)
 |cur,.seq a b=>loopsOf cur a++loopsOf cur b
 |cur,.cond _ x y=>loopsOf cur x++loopsOf cur y
 |_,.block id body=>loopsOf id body
 |cur,.loop body=>(cur,body)::loopsOf cur body
 |_,_=>[]
def LoopP (tb:Tab) (Γ:Orc) (Λ:Lam ρ) (ms:Lay) (p:Nat×Code):Prop:=
 ∀(vs:List AV) (K:AE→List AV→Option ρ) (out:ρ),Λ p.1 vs K=some out→ ∃fuel,loopN (aexec tb Γ Λ ms p.2 p.1) ms.n ms.g (ms.get p.1) K fuel vs=some out
end
end Go.AM
