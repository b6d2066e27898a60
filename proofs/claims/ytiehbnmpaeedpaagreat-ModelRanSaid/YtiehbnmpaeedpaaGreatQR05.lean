import Derived.Test.YtiehbnmpaeedpaaGreatQR04
namespace Go.AX
noncomputable section
def rowO:Option AObj→Option (Tr Value×Nat)
 | some (.cells c n _ _)=>some (c,n)
 | some (.ro c n)=>some (c,n)
 | _=>none
def rd (m:Mem) (b o:Nat):Option Value:=match rowO (m.hp.get b) with
 | some (c,n)=>match Nat.blt o n with
  | true=>c.get o
  | false=>none
 | none=>none
def wr (m:Mem) (b o:Nat) (l:List Value):Mem:=match m.hp.get b with
 | some (.cells c k e x)=>{ m with hp:=m.hp.put b (.cells (writeL c l o) k e x) }
 | _=>m
def okW (m:Mem) (b o n:Nat):Prop:=m.fl≤b∧∃ c k e x,m.hp.get b=some (.cells c k e x)∧o+n≤k
def row (l:List Value) (e:TypeId) (x:Bool):AObj:=.cells (writeL .nil l 0) l.length e x
def newO (m:Mem) (o:AObj):Mem:={ hp:=m.hp.put m.nx o,nx:=m.nx+1,fl:=m.fl }
def addO (m:Mem) (id:Nat) (o:AObj):Mem:={ m with hp:=m.hp.put id o }
def bump (m:Mem) (n:Nat):Mem:={ m with nx:=m.nx+n }
def setFl (m:Mem) (n:Nat):Mem:={ m with fl:=n }
def addI (k:IntKind) (x y:Int):Int:=wrapI k (x+y)
def subI (k:IntKind) (x y:Int):Int:=wrapI k (x - y)
def mulI (k:IntKind) (x y:Int):Int:=wrapI k (x*y)
def quoI (k:IntKind) (x y:Int):Int:=wrapI k (x.tdiv y)
def andI (k:IntKind) (x y:Int):Int:=k.wrap (BitVec.ofInt k.bits x &&& BitVec.ofInt k.bits y).toNat
def orI (k:IntKind) (x y:Int):Int:=k.wrap (BitVec.ofInt k.bits x ||| BitVec.ofInt k.bits y).toNat
def xorI (k:IntKind) (x y:Int):Int:=k.wrap (BitVec.ofInt k.bits x ^^^ BitVec.ofInt k.bits y).toNat
def andNotI (k:IntKind) (x y:Int):Int:=k.wrap (BitVec.ofInt k.bits x &&& ~~~ BitVec.ofInt k.bits y).toNat
def shlI (k:IntKind) (x y:Int):Int:=k.wrap (x*2 ^ (min y.toNat k.bits))
def shrI (k:IntKind) (x y:Int):Int:=x.fdiv (2 ^ (min y.toNat k.bits))
def cvI (k:IntKind) (x:Int):Int:=wrapI k x
def stay (p:Prop):Bool:=@decide p (Classical.propDecidable p)
@[simp] theorem stay_eq (p:Prop) [h:Decidable p]:stay p=decide p:=by
 unfold stay
 cases h with
 | isTrue h=>exact @decide_eq_true p (Classical.propDecidable p) h
 | isFalse h=>exact @decide_eq_false p (Classical.propDecidable p) h
def eqI (x y:Int):Bool:=stay (x=y)
def neI (x y:Int):Bool:=!stay (x=y)
def ltI (x y:Int):Bool:=stay (x < y)
def leI (x y:Int):Bool:=stay (x≤y)
def lenI (n:Nat):Int:=(n:Int)
def mxI (x y:Int):Int:=if x < y then y else x
def mnI (x y:Int):Int:=if y < x then y else x
def eqS (x y:ByteArray):Bool:=bytesEq x.data.toList y.data.toList
def ltS (x y:ByteArray):Bool:=Op.bytesLess x.data.toList y.data.toList
def catS (x y:ByteArray):ByteArray:=⟨(x.data.toList ++ y.data.toList).toArray⟩
def lenS (x:ByteArray):Nat:=x.data.toList.length
def splitB (b:Bool) (t e:Prop):Prop:=match b with
 | true=>t
 | false=>e
def joinK {α : Type} (j:α) (f:α→Prop):Prop:=f j
def mBind (m:Mem) (K:Mem→Prop):Prop:=∀ m',m'=m→K m'
def vVal (o:Option Value) (K:Value→Prop):Prop:=match o with
 | some v=>K v
 | none=>False
def vPtr (p:Option Addr) (K:Nat→Nat→Prop):Prop:=match p with
 | some ⟨b,o,none⟩=>K b o
 | _=>False
def vOne (v:Value) (P:Prop):Prop:=match v with
 | .agg _=>False
 | .tuple _=>False
 | _=>P
def okL:List Value→Nat→Prop→Prop
 | [],0,P=>P
 | v :: r,n+1,P=>vOne v (okL r n P)
 | _,_,_=>False
inductive Lf where
 | int (k:IntKind) | bool | str | ptr | sl | map | any
def Lf.ex:Lf→(Value→Prop)→Prop
 | .int k,P=>∃ x:Int,P (.int k x)
 | .bool,P=>∃ b:Bool,P (.bool b)
 | .str,P=>∃ s:ByteArray,P (.string s)
 | .ptr,P=>∃ p:Option Addr,P (.pointer p)
 | .sl,P=>∃ (a:Option Addr) (n c:Nat),P (.slice a n c)
 | .map,P=>∃ r:Option Nat,P (.map r)
 | .any,P=>∃ v:Value,P v
inductive Shp where
 | one (l:Lf)
 | agg (ls:List Lf)
 | big (n:Nat)
def exL:List Lf→(List Value→Prop)→Prop
 | [],P=>P []
 | f :: r,P=>f.ex fun v=>exL r fun vs=>P (v :: vs)
def Shp.ex:Shp→(Value→Prop)→Prop
 | .one l,P=>l.ex P
 | .agg ls,P=>exL ls fun vs=>P (.agg vs.toArray)
 | .big n,P=>∃ vs:List Value,vs.length=n∧P (.agg vs.toArray)
def exSs:List Shp→(List Value→Prop)→Prop
 | [],P=>P []
 | f :: r,P=>f.ex fun v=>exSs r fun vs=>P (v :: vs)
def exR (m:Mem) (b o:Nat):List Lf→Nat→(List Value→Prop)→Prop
 | [],_,P=>P []
 | f :: r,i,P=>f.ex fun v=>rd m b (o+i)=some v∧exR m b o r (i+1) fun vs=>P (v :: vs)
def lfD:TypeDesc→Option Lf
 | .int k=>some (.int k)
 | .bool=>some .bool
 | .string=>some .str
 | .pointer _=>some .ptr
 | .slice _=>some .sl
 | .map _ _=>some .map
 | .interface _=>some .any
 | .func _ _ _=>some .any
 | _=>none
def lfFs (f:TypeId→Option (List Lf)):List Field→Option (List Lf)
 | []=>some []
 | x :: r=>match f x.type,lfFs f r with
  | some a,some b=>some (a ++ b)
  | _,_=>none
def repF (l:List Lf):Nat→List Lf
 | 0=>[]
 | n+1=>l ++ repF l n
variable (cx:Cx)
def leaves:Nat→TypeId→Option (List Lf)
 | 0,_=>none
 | d+1,t=>match cx.un.get t with
  | some (.struct fs)=>lfFs (leaves d) fs.toList
  | some (.array n e)=>match Nat.ble n 8 with
   | true=>match leaves d e with
    | some l=>some (repF l n)
    | none=>none
   | false=>none
  | some u=>match lfD u with
   | some l=>some [l]
   | none=>none
  | none=>none
def shp (t:TypeId):Option Shp:=match cx.un.get t,sizeT cx t with
 | some d,some n=>match isAggD d with
  | true=>match leaves cx 6 t with
   | some (f :: ls)=>match Nat.beq (f :: ls).length n with
    | true=>some (.agg (f :: ls))
    | false=>none
   | _=>match n with
    | 0=>none
    | n+1=>some (.big (n+1))
  | false=>match Nat.beq n 1 with
   | true=>match lfD d with
    | some l=>some (.one l)
    | none=>none
   | false=>none
 | _,_=>none
def shps:List TypeId→Option (List Shp)
 | []=>some []
 | t :: r=>match shp cx t,shps r with
  | some s,some l=>some (s :: l)
  | _,_=>none
def resV (t:TypeId) (r:Value) (K:Value→Prop):Prop:=match cx.un.get t with
 | some (.tuple ts)=>match shps cx ts.toList with
  | some ss=>exSs ss fun vs=>r = .tuple vs.toArray∧K (.tuple vs.toArray)
  | none=>False
 | _=>match shp cx t with
  | some s=>s.ex fun v=>r=v∧K v
  | none=>False
def isAggT (t:TypeId):Bool:=match cx.un.get t with
 | some d=>isAggD d
 | none=>false
def cellsP (agg:Bool) (v:Value) (P:List Value→Prop):Prop:=match agg with
 | false=>vOne v (P [v])
 | true=>match v with
  | .agg cs=>P cs.toList
  | _=>False
def CallW (k:FuncId) (args:List Value) (m:Mem) (Q:Value→Mem→Prop):Prop:=
 ∃ n r m',callOf cx (exec cx n) k args m=some (r,m')∧Q r m'
def evT (tm:Tr Value) (x:Operand):Option Value:=match x with
 | .tmp t=>tm.get t
 | .const v=>match plainV v with
  | true=>some v
  | false=>none
 | .global g=>match Nat.blt g cx.globals with
  | true=>some (.pointer (some ⟨g,0,none⟩))
  | false=>none
 | .func f=>some (.func (.func f) #[] #[])
def evL (tm:Tr Value):List Operand→(List Value→Prop)→Prop
 | [],P=>P []
 | x :: r,P=>vVal (evT cx tm x) fun v=>evL tm r fun vs=>P (v :: vs)
def evO (tm:Tr Value):Option Operand→(Option Value→Prop)→Prop
 | none,P=>P none
 | some x,P=>vVal (evT cx tm x) fun v=>P (some v)
def vInt (op:BinOp) (k k':IntKind) (x y:Int) (K:Value→Prop):Prop:=match op with
 | .shl=>0≤y∧K (.int k (shlI k x y))
 | .shr=>0≤y∧K (.int k (shrI k x y))
 | _=>match decide (k=k') with
  | false=>False
  | true=>match op with
   | .add=>K (.int k (addI k x y))
   | .sub=>K (.int k (subI k x y))
   | .mul=>K (.int k (mulI k x y))
   | .quo=>y≠0∧K (.int k (quoI k x y))
   | .rem=>y≠0∧K (.int k (x.tmod y))
   | .and=>K (.int k (andI k x y))
   | .or=>K (.int k (orI k x y))
   | .xor=>K (.int k (xorI k x y))
   | .andNot=>K (.int k (andNotI k x y))
   | .eql=>K (.bool (eqI x y))
   | .neq=>K (.bool (neI x y))
   | .lss=>K (.bool (ltI x y))
   | .leq=>K (.bool (leI x y))
   | .gtr=>K (.bool (ltI y x))
   | .geq=>K (.bool (leI y x))
   | _=>False
def vStr (op:BinOp) (x y:ByteArray) (K:Value→Prop):Prop:=match op with
 | .add=>lenS x+lenS y≤140737488355328∧K (.string (catS x y))
 | .eql=>K (.bool (eqS x y))
 | .neq=>K (.bool (!eqS x y))
 | .lss=>K (.bool (ltS x y))
 | .leq=>K (.bool (ltS x y || eqS x y))
 | .gtr=>K (.bool (!(ltS x y || eqS x y)))
 | .geq=>K (.bool (!ltS x y))
 | _=>False
def vPtrEq (m:Mem) (x y:Option Addr) (K:Bool→Prop):Prop:=match y with
 | none=>K x.isNone
 | some b=>∃ r,eqPtr m x (some b)=some r∧K r
def vEq (m:Mem) (t:TypeId) (a b:Value) (K:Bool→Prop):Prop:=∃ r,eqV cx m 40 t a b=some r∧K r
def flatFs (fs:List Field):Bool:=fs.all fun f=>match cx.un.get f.type with
 | some (.interface _) | some (.struct _) | some (.array _ _) | none=>false
 | _=>true
def vEqG (m:Mem) (t:TypeId) (x y:Operand) (a b:Value) (K:Bool→Prop):Prop:=match cx.un.get t with
 | some (.interface ms)=>match isConstO x || isConstO y || ms.toList.isEmpty with
  | true=>vEq cx m t a b K
  | false=>(a = .nilIface→b = .nilIface→False)∧vEq cx m t a b K
 | some (.struct fs)=>match flatFs cx fs.toList with
  | true=>vEq cx m t a b K
  | false=>False
 | some (.pointer e)=>match sizeT cx e with
  | some (_+1)=>match a,b with
   | .pointer p,.pointer q=>vPtrEq m p q K
   | _,_=>False
  | _=>False
 | some (.slice _)=>vEq cx m t a b K
 | some (.map _ _)=>vEq cx m t a b K
 | some (.func _ _ _)=>vEq cx m t a b K
 | _=>False
def vBin (m:Mem) (op:BinOp) (t:TypeId) (x y:Operand) (a b:Value) (K:Value→Prop):Prop:=match cx.un.get t with
 | some (.int _)=>match a,b with
  | .int k x,.int k' y=>vInt op k k' x y K
  | _,_=>False
 | some .string=>match a,b with
  | .string x,.string y=>vStr op x y K
  | _,_=>False
 | some .bool=>match a,b with
  | .bool x,.bool y=>match op with
   | .eql=>K (.bool (x == y))
   | .neq=>K (.bool (!(x == y)))
   | _=>False
  | _,_=>False
 | _=>match op with
  | .eql=>vEqG cx m t x y a b fun r=>K (.bool r)
  | .neq=>vEqG cx m t x y a b fun r=>K (.bool (!r))
  | _=>False
def vUn (op:UnOp) (a:Value) (K:Value→Prop):Prop:=match op,a with
 | .neg,.int k n=>K (.int k (subI k 0 n))
 | .xor,.int k n=>K (.int k (xorI k (if k.signed then -1 else k.max) n))
 | .not,.bool b=>K (.bool (!b))
 | _,_=>False
def fillC (place:Nat→Option (Nat×Nat)) (cells:List Value):List (Nat×List Value)→Option (List Value)
 | []=>some cells
 | (i,v) :: rest=>match place i with
  | none=>none
  | some (off,size)=>match Nat.beq v.length size && Nat.ble (off+v.length) cells.length with
   | true=>fillC place (splice cells off v) rest
   | false=>none
def partsP (agg:Nat→Bool) (tm:Tr Value):List (Nat×Operand)→(List (Nat×List Value)→Prop)→Prop
 | [],P=>P []
 | (i,x) :: r,P=>vVal (evT cx tm x) fun v=>cellsP (agg i) v fun l=>partsP agg tm r fun ps=>P ((i,l) :: ps)
def vList (o:Option (List Value)) (K:List Value→Prop):Prop:=match o with
 | some v=>K v
 | none=>False
def vBuild (tm:Tr Value) (t:TypeId) (ps:List (Nat×Operand)) (K:Value→Prop):Prop:=
 match zeroT cx t,cx.un.get t with
 | some z,some (.struct fs)=>match placesL cx fs.toList with
  | some pl=>partsP cx (fun i=>match fs.toList[i]? with | some f=>isAggT cx f.type | none=>false) tm ps fun l=>vList (fillC (fun i=>pl[i]?) (cellsL z) l) fun l=>K (.agg l.toArray)
  | none=>False
 | some z,some (.array _ e)=>match sizeT cx e with
  | some s=>partsP cx (fun _=>isAggT cx e) tm ps fun l=>vList (fillC (fun i=>some (i*s,s)) (cellsL z) l) fun l=>K (.agg l.toArray)
  | none=>False
 | _,_=>False
def vMake (tm:Tr Value) (op:Op) (id:Nat) (K:Value→AObj→Prop):Prop:=match op with
 | .alloc e=>vVal (zeroT cx e) fun z=>K (.pointer (some ⟨id,0,none⟩)) (row (cellsL z) e false)
 | .box e x=>vVal (evT cx tm x) fun v=>cellsP (isAggT cx e) v fun l=>K (.pointer (some ⟨id,0,none⟩)) (row l e false)
 | .buildSlice t n ps=>match cx.un.get t with
  | some (.slice e)=>match sizeT cx e,zeroT cx e with
   | some s,some z=>match Nat.ble (n*s) 16777216 && Nat.beq (cellsL z).length s && Nat.blt 0 s with
    | true=>partsP cx (fun _=>isAggT cx e) tm ps.toList fun l=>vList (fillC (fun i=>some (i*s,s)) (repL (cellsL z) n) l) fun l=>K (.slice (some ⟨id,0,none⟩) n n) (row l e false)
    | false=>False
   | _,_=>False
  | _=>False
 | .makeMap _ none=>K (.map (some id)) (.map [] 0)
 | .makeSlice t l c=>match cx.un.get t with
  | some (.slice e)=>match sizeT cx e,zeroT cx e,cx.ty.get e with
   | some s,some z,some i=>match Nat.beq (cellsL z).length s && Nat.blt 0 s with
    | true=>vVal (evT cx tm l) fun a=>vVal (evT cx tm c) fun b=>match a,b with
     | .int _ l,.int _ c=>(0≤l∧l≤c∧c≤1073741824∧i.bytes*c.toNat≤140737488355328)∧K (.slice (some ⟨id,0,none⟩) l.toNat c.toNat) (row (repL (cellsL z) c.toNat) e false)
     | _,_=>False
    | false=>False
   | _,_,_=>False
  | _=>False
 | _=>False
def vLoad (m:Mem) (t:TypeId) (b o:Nat) (K:Value→Prop):Prop:=match shp cx t with
 | some (.one l)=>l.ex fun v=>rd m b o=some v∧K v
 | some (.agg ls)=>exR m b o ls 0 fun vs=>K (.agg vs.toArray)
 | some (.big n)=>∃ vs:List Value,rowAtL m ⟨b,o,none⟩ n=some vs∧K (.agg vs.toArray)
 | none=>False
def vStore (m:Mem) (t:TypeId) (b o:Nat) (v:Value) (K:Mem→Prop):Prop:=match sizeT cx t with
 | some n=>match isAggT cx t with
  | false=>match Nat.beq n 1 with
   | true=>vOne v (okW m b o 1∧mBind (wr m b o [v]) K)
   | false=>False
  | true=>match v with
   | .agg cs=>okL cs.toList n (okW m b o n∧mBind (wr m b o cs.toList) K)
   | _=>False
 | none=>False
def vNil (v:Value) (K:Value→Prop):Prop:=match v with
 | .pointer p=>vPtr p fun b o=>K (.pointer (some ⟨b,o,none⟩))
 | .iface t y=>K (.iface t y)
 | .func (.func k) f c=>K (.func (.func k) f c)
 | _=>False
def vIdx (a:Option Addr) (n s:Nat) (i:Int) (K:Value→Prop):Prop:=
 (0≤i∧i < n)∧vPtr a fun b o=>K (.pointer (some ⟨b,o+i.toNat*s,none⟩))
def vIndexAddr (t:TypeId) (x ix:Value) (K:Value→Prop):Prop:=match cx.un.get t with
 | some (.slice e)=>match sizeT cx e,x,ix with
  | some s,.slice a n _,.int _ i=>vIdx a n s i K
  | _,_,_=>False
 | some (.array n e)=>match sizeT cx e,x,ix with
  | some s,.pointer p,.int _ i=>vIdx p n s i K
  | _,_,_=>False
 | _=>False
def vFieldAddr (t:TypeId) (x:Value) (f:Nat) (K:Value→Prop):Prop:=match cx.un.get t with
 | some (.struct fs)=>match fs.toList[f]? with
  | some fd=>match sizeT cx fd.type with
   | some (_+1)=>match x with
    | .pointer p=>vPtr p fun b o=>K (.pointer (some ⟨b,o+fd.offset,none⟩))
    | _=>False
   | _=>False
  | none=>False
 | _=>False
def vAsk (t:TypeId) (o:Option Value) (K:Value→Prop):Prop:=match shp cx t with
 | some s=>s.ex fun v=>o=some v∧K v
 | none=>False
def vAskOk (t:TypeId) (ok:Bool) (o:Option Value) (K:Value→Prop):Prop:=match ok with
 | false=>vAsk cx t o K
 | true=>match shp cx t with
  | some s=>s.ex fun v=>∃ b:Bool,o=some (.tuple #[v,.bool b])∧K (.tuple #[v,.bool b])
  | none=>False
def elemT (t:TypeId):TypeId:=match cx.un.get t with
 | some (.map _ e)=>e
 | some (.array _ e)=>e
 | some (.slice e)=>e
 | _=>0
def vLookup (m:Mem) (t:TypeId) (x k:Value) (ok:Bool) (K:Value→Prop):Prop:=vAskOk cx (elemT cx t) ok (lookupA cx m t x k ok) K
def vMem (o:Option Mem) (K:Mem→Prop):Prop:=∃ m',o=some m'∧K m'
def vSlice (m:Mem) (t:TypeId) (x:Value) (lo hi mx:Option Value) (K:Value→Prop):Prop:=match cx.un.get t with
 | some .string=>∃ s:ByteArray,sliceOp cx m t x lo hi mx=some (.string s)∧K (.string s)
 | _=>∃ (a:Option Addr) (n c:Nat),sliceOp cx m t x lo hi mx=some (.slice a n c)∧K (.slice a n c)
def vIndex (t:TypeId) (x ix:Value) (K:Value→Prop):Prop:=match cx.un.get t with
 | some .string=>match x,ix with
  | .string s,.int _ i=>0≤i∧∃ c:UInt8,s.data.toList[i.toNat]? = some c∧K (.int .u8 (lenI c.toNat))
  | _,_=>False
 | _=>vAsk cx (elemT cx t) (indexA cx t x ix) K
def vConv (m:Mem) (s d:TypeId) (x:Value) (K:Value→Prop):Prop:=match cx.un.get s,cx.un.get d with
 | some (.int _),some (.int k)=>match x with
  | .int _ n=>K (.int k (cvI k n))
  | _=>False
 | some .string,some .string=>match x with
  | .string s=>K (.string s)
  | _=>False
 | some (.slice _),some .string=>∃ r:ByteArray,convertA cx m s d x=some (.string r)∧K (.string r)
 | _,_=>False
def vAssert (x:Value) (xT t:TypeId) (ok:Bool) (K:Value→Prop):Prop:=vAskOk cx t ok (assertA cx x xT t ok) K
def vExtract (v:Value) (i:Nat) (K:Value→Prop):Prop:=match v with
 | .tuple vs=>vVal vs.toList[i]? K
 | _=>False
def vField (t:TypeId) (x:Value) (f:Nat) (K:Value→Prop):Prop:=vVal (fieldA cx t x f) K
def vMaxMin (big:Bool):List Value→Value→(Value→Prop)→Prop
 | [],x,K=>K x
 | y :: r,x,K=>match x,y with
  | .int k x,.int _ y=>match big with
   | true=>vMaxMin big r (.int k (mxI x y)) K
   | false=>vMaxMin big r (.int k (mnI x y)) K
  | _,_=>False
def vLen (m:Mem) (t:TypeId) (x:Value) (K:Value→Prop):Prop:=match cx.un.get t with
 | some .string=>match x with
  | .string s=>K (.int .i64 (lenI (lenS s)))
  | _=>False
 | some (.array n _)=>K (.int .i64 (lenI n))
 | some (.slice _)=>match x with
  | .slice _ n _=>K (.int .i64 (lenI n))
  | _=>False
 | _=>∃ n:Int,lenA cx m [t] [x]=some (.int .i64 n)∧K (.int .i64 n)
def vBuiltin (m:Mem) (b:Builtin) (ts:List TypeId) (args:List Value) (K:Value→Mem→Prop):Prop:=match b with
 | .append=>∃ (a:Option Addr) (n c:Nat) (m':Mem),appendA cx m ts args=some (.slice a n c,m')∧K (.slice a n c) m'
 | .copy=>∃ (x:Int) (m':Mem),copyA cx m ts args=some (.int .i64 x,m')∧K (.int .i64 x) m'
 | .len=>match ts,args with
  | t :: _,[x]=>vLen cx m t x fun v=>K v m
  | _,_=>False
 | .cap=>∃ x:Int,capA cx m ts args=some (.int .i64 x)∧K (.int .i64 x) m
 | .max=>match args with
  | x :: r=>vMaxMin true r x fun v=>K v m
  | []=>False
 | .min=>match args with
  | x :: r=>vMaxMin false r x fun v=>K v m
  | []=>False
 | .delete=>match ts,args with
  | t :: _,[x,k]=>vMem (deleteA cx m t x k) fun m'=>K (.tuple #[]) m'
  | _,_=>False
 | .clear=>∃ m',clearA cx m ts args=some (.tuple #[],m')∧K (.tuple #[]) m'
 | _=>False
def vRes (dst:Option Tmp) (t:TypeId) (K:Value→Mem→Prop) (r:Value) (m:Mem):Prop:=match dst with
 | none=>K r m
 | some _=>resV cx t r fun v=>K v m
def vCallF (m:Mem) (f:Value) (args:List Value) (K:Value→Mem→Prop):Prop:=match f with
 | .func (.func k) first captured=>CallW cx k (first.toList ++ (args ++ captured.toList)) m K
 | _=>False
def vInvoke (m:Mem) (x:Value) (name:String) (args:List Value) (K:Value→Mem→Prop):Prop:=
 ∃ t v,x = .iface t v∧∃ k r,methodA cx t v name=some (k,r)∧CallW cx k (r :: args) m K
def vCall (tm:Tr Value) (m:Mem) (dst:Option Tmp) (ty:TypeId) (c:Call) (K:Value→Mem→Prop):Prop:=
 evL cx tm c.args.toList fun args=>match c.callee with
  | .builtin b=>vBuiltin cx m b c.argTypes.toList args K
  | .value f=>vVal (evT cx tm f) fun f=>vCallF cx m f args fun r m'=>vRes cx dst ty K r m'
  | .invoke x name=>vVal (evT cx tm x) fun x=>vInvoke cx m x name args fun r m'=>vRes cx dst ty K r m'
def makesV:Op→Bool
 | .alloc _ | .box .. | .buildSlice .. | .makeMap _ none | .makeSlice ..=>true
 | _=>false
def vOp (tm:Tr Value) (m:Mem) (dst:Option Tmp) (ty:TypeId) (op:Op) (K:Option Value→Mem→Prop):Prop:=match op with
 | .move x | .assign x=>vVal (evT cx tm x) fun v=>K (some v) m
 | .pick c a b=>vVal (evT cx tm c) fun
  | .bool c=>splitB c (vVal (evT cx tm a) fun v=>K (some v) m) (vVal (evT cx tm b) fun v=>K (some v) m)
  | _=>False
 | .build t ps=>vBuild cx tm t ps.toList fun v=>K (some v) m
 | .load t a=>vVal (evT cx tm a) fun
  | .pointer p=>vPtr p fun b o=>vLoad cx m t b o fun v=>K (some v) m
  | _=>False
 | .store t a x=>vVal (evT cx tm a) fun
  | .pointer p=>vPtr p fun b o=>vVal (evT cx tm x) fun v=>vStore cx m t b o v fun m'=>K none m'
  | _=>False
 | .nilCheck x=>vVal (evT cx tm x) fun v=>vNil v fun v=>K (some v) m
 | .binOp op t x y _=>vVal (evT cx tm x) fun a=>vVal (evT cx tm y) fun b=>vBin cx m op t x y a b fun v=>K (some v) m
 | .unOp op _ x=>vVal (evT cx tm x) fun a=>vUn op a fun v=>K (some v) m
 | .convert s d x=>vVal (evT cx tm x) fun a=>vConv cx m s d a fun v=>K (some v) m
 | .makeInterface t x=>vVal (evT cx tm x) fun a=>match cx.un.get t with
  | some (.interface _)=>False
  | some _=>K (some (.iface t a)) m
  | none=>False
 | .makeFunc fn f c=>evL cx tm f.toList fun f=>evL cx tm c.toList fun c=>K (some (.func fn f.toArray c.toArray)) m
 | .slice t x lo hi mx=>vVal (evT cx tm x) fun x=>evO cx tm lo fun lo=>evO cx tm hi fun hi=>evO cx tm mx fun mx=>vSlice cx m t x lo hi mx fun v=>K (some v) m
 | .fieldAddr t x f=>vVal (evT cx tm x) fun a=>vFieldAddr cx t a f fun v=>K (some v) m
 | .field t x f=>vVal (evT cx tm x) fun a=>vField cx t a f fun v=>K (some v) m
 | .indexAddr t x i=>vVal (evT cx tm x) fun a=>vVal (evT cx tm i) fun i=>vIndexAddr cx t a i fun v=>K (some v) m
 | .index t x i=>vVal (evT cx tm x) fun a=>vVal (evT cx tm i) fun i=>vIndex cx t a i fun v=>K (some v) m
 | .lookup t x k ok=>vVal (evT cx tm x) fun a=>vVal (evT cx tm k) fun k=>vLookup cx m t a k ok fun v=>K (some v) m
 | .mapUpdate t x k y | .insert t x k y=>vVal (evT cx tm x) fun a=>vVal (evT cx tm k) fun k=>vVal (evT cx tm y) fun y=>vMem (mapUpdateA cx m t a k y) fun m'=>K none m'
 | .mapEntry t x k=>vVal (evT cx tm x) fun a=>vVal (evT cx tm k) fun k=>match shp cx (elemT cx t) with
  | some s=>s.ex fun v=>∃ (i:Int) (m':Mem),mapEntryA cx m t a k=some (.tuple #[v,.int .i64 i],m')∧K (some (.tuple #[v,.int .i64 i])) m'
  | none=>False
 | .entryStore _ x s y=>vVal (evT cx tm x) fun a=>vVal (evT cx tm s) fun s=>vVal (evT cx tm y) fun y=>vMem (entryStoreA m a s y) fun m'=>K none m'
 | .typeAssert x xT t ok=>vVal (evT cx tm x) fun a=>vAssert cx a xT t ok fun v=>K (some v) m
 | .extract x i=>vVal (evT cx tm x) fun a=>vExtract a i fun v=>K (some v) m
 | .call c=>vCall cx tm m dst ty c fun v m'=>K (some v) m'
 | op=>match makesV op with
  | true=>vMake cx tm op m.nx fun v ob=>mBind (newO m ob) (K (some v))
  | false=>False
def vGuard (ops:List Oper) (tm:Tr Value) (o:Oper) (run:Tr Value→Bool→Prop):Prop:=match o.guard with
 | none=>run tm true
 | some (j,want)=>match ops[j]? with
  | some g=>match g.dst with
   | some d=>match tm.get d with
    | some (.bool b)=>splitB b (run (tm.put d (.bool true)) want) (run (tm.put d (.bool false)) (!want))
    | some (.tuple _)=>run tm false
    | _=>False
   | none=>False
  | none=>False
abbrev Live:=List (Nat×Lf)
def Cur:Live→Type→Type
 | [],T=>T
 | (_,.int _) :: r,T=>Int→Cur r T
 | (_,.bool) :: r,T=>Bool→Cur r T
 | (_,.str) :: r,T=>ByteArray→Cur r T
 | (_,.ptr) :: r,T=>Option Addr→Cur r T
 | (_,.sl) :: r,T=>Option Addr→Nat→Nat→Cur r T
 | (_,.map) :: r,T=>Option Nat→Cur r T
 | (_,.any) :: r,T=>Value→Cur r T
def alL {T:Type}:(l:Live)→Cur l T→Tr Value→(T→Tr Value→Prop)→Prop
 | [],J,tm,F=>F J tm
 | (i,.int k) :: r,J,tm,F=>∀ x:Int,alL r (J x) (tm.put i (.int k x)) F
 | (i,.bool) :: r,J,tm,F=>∀ x:Bool,alL r (J x) (tm.put i (.bool x)) F
 | (i,.str) :: r,J,tm,F=>∀ x:ByteArray,alL r (J x) (tm.put i (.string x)) F
 | (i,.ptr) :: r,J,tm,F=>∀ x:Option Addr,alL r (J x) (tm.put i (.pointer x)) F
 | (i,.sl) :: r,J,tm,F=>∀ (a:Option Addr) (n c:Nat),alL r (J a n c) (tm.put i (.slice a n c)) F
 | (i,.map) :: r,J,tm,F=>∀ x:Option Nat,alL r (J x) (tm.put i (.map x)) F
 | (i,.any) :: r,J,tm,F=>∀ x:Value,alL r (J x) (tm.put i x) F
def mkJ {T:Type}:(l:Live)→Tr Value→(Tr Value→T)→Cur l T
 | [],tm,f=>f tm
 | (i,.int k) :: r,tm,f=>fun (x:Int)=>mkJ r (tm.put i (.int k x)) f
 | (i,.bool) :: r,tm,f=>fun (x:Bool)=>mkJ r (tm.put i (.bool x)) f
 | (i,.str) :: r,tm,f=>fun (x:ByteArray)=>mkJ r (tm.put i (.string x)) f
 | (i,.ptr) :: r,tm,f=>fun (x:Option Addr)=>mkJ r (tm.put i (.pointer x)) f
 | (i,.sl) :: r,tm,f=>fun (a:Option Addr) (n c:Nat)=>mkJ r (tm.put i (.slice a n c)) f
 | (i,.map) :: r,tm,f=>fun (x:Option Nat)=>mkJ r (tm.put i (.map x)) f
 | (i,.any) :: r,tm,f=>fun (x:Value)=>mkJ r (tm.put i x) f
def appT {T:Type}:(l:Live)→Cur l T→Tr Value→T→T
 | [],J,_,_=>J
 | (i,.int k) :: r,J,tm,d=>match tm.get i with
  | some (.int k' x)=>match decide (k=k') with
   | true=>appT r (J x) tm d
   | false=>d
  | _=>d
 | (i,.bool) :: r,J,tm,d=>match tm.get i with
  | some (.bool x)=>appT r (J x) tm d
  | _=>d
 | (i,.str) :: r,J,tm,d=>match tm.get i with
  | some (.string x)=>appT r (J x) tm d
  | _=>d
 | (i,.ptr) :: r,J,tm,d=>match tm.get i with
  | some (.pointer x)=>appT r (J x) tm d
  | _=>d
 | (i,.sl) :: r,J,tm,d=>match tm.get i with
  | some (.slice a n c)=>appT r (J a n c) tm d
  | _=>d
 | (i,.map) :: r,J,tm,d=>match tm.get i with
  | some (.map x)=>appT r (J x) tm d
  | _=>d
 | (i,.any) :: r,J,tm,d=>match tm.get i with
  | some x=>appT r (J x) tm d
  | _=>d
def writesC:Code→List Nat
 | .region _ ops _=>ops.toList.filterMap (·.dst)
 | .seq a b=>writesC a ++ writesC b
 | .cond _ a b=>writesC a ++ writesC b
 | .block _ c=>writesC c
 | .loop c=>writesC c
 | _=>[]
def memN (l:List Nat) (i:Nat):Bool:=match l with
 | []=>false
 | x :: r=>match Nat.beq x i with
  | true=>true
  | false=>memN r i
def apartN (keep ws:List Nat):Bool:=match keep with
 | []=>true
 | i :: r=>match memN ws i with
  | true=>false
  | false=>apartN r ws
def keepT (tm:Tr Value):List Nat→Tr Value
 | []=>.nil
 | i :: r=>match tm.get i with
  | some v=>(keepT tm r).put i v
  | none=>keepT tm r
def vCond (tm:Tr Value) (c:Operand) (F:Tr Value→Bool→Prop):Prop:=match c with
 | .tmp t=>match tm.get t with
  | some (.bool b)=>splitB b (F (tm.put t (.bool true)) true) (F (tm.put t (.bool false)) false)
  | _=>False
 | c=>match evT cx tm c with
  | some (.bool b)=>splitB b (F tm true) (F tm false)
  | _=>False
end
end Go.AX
