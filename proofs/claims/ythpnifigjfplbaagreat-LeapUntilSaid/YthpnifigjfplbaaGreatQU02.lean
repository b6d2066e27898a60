import GoSem.Dispatch
import GoSem.Core.Region
import Derived.Stop.Asserts
namespace Go.AX
theorem gQ1{α : Type _}{l:List α}{i:Nat}{a:α}(h:l[i]? = some a):∃k:i<l.length,l[i]=a:=List.getElem?_eq_some_iff.1 h
theorem gQ2{α : Type _}{l:List α}{i:Nat}(h:i<l.length):l[i]? = some l[i]:=List.getElem?_eq_getElem h
theorem gQ3{α : Type _}{l:List α}{i:Nat}{a:α}(h:l[i]? = some a):a∈l:=List.mem_of_getElem? h
theorem gQ4(n:Nat):n<=n:=Nat.le_refl n
theorem gQ5{α : Type _}(y:α){a:α}{l:List α}(h:a∈l):a∈y::l:=List.mem_cons_of_mem y h
theorem gQ6{n m:Nat}(h:Nat.ble n m=true):n<=m:=Nat.le_of_ble_eq_true h
theorem gQ7{α : Type _}(a b:α):(some a=some b)=(a=b):=Option.some.injEq a b
theorem gQ9{α : Type _}{a:α}{l:List α}:a∈a::l:=List.mem_cons_self
theorem gR2{α : Type _}{a b:List α}:(a++b).length=a.length+b.length:=List.length_append
theorem gR3{n m:Nat}(h:Nat.beq n m=true):n=m:=Nat.eq_of_beq_eq_true h
theorem gQ8{n m:Nat}(h:n<=m):Nat.ble n m=true:=Nat.ble_eq_true_of_le h
inductive Tr (α : Type) where
 | nil
 | node (v:Option α) (l r:Tr α)
namespace Tr
variable {α : Type}
noncomputable def get(t:Tr α):Nat->Option α:=
 @Tr.rec α (fun _=>Nat->Option α) (fun _=>none)
  (fun v _ _ ihl ihr k=>@Bool.rec (fun _=>Option α) (@Bool.rec (fun _=>Option α) (ihr (Nat.pred (Nat.div k 2))) (ihl (Nat.div k 2)) (Nat.beq (Nat.mod k 2) 1)) v (Nat.beq k 0)) t
noncomputable def path(x:Option α)(f:Nat):Nat->Tr α:=
 @Nat.rec (fun _=>Nat->Tr α) (fun _=>.node x .nil .nil)
  (fun _ ih k=>@Bool.rec (fun _=>Tr α) (@Bool.rec (fun _=>Tr α) (.node none .nil (ih (Nat.pred (Nat.div k 2)))) (.node none (ih (Nat.div k 2)) .nil) (Nat.beq (Nat.mod k 2) 1)) (.node x .nil .nil) (Nat.beq k 0)) f
noncomputable def putAt(x:Option α)(t:Tr α):Nat->Tr α:=
 @Tr.rec α (fun _=>Nat->Tr α) (fun k=>path x k k)
  (fun v l r ihl ihr k=>@Bool.rec (fun _=>Tr α) (@Bool.rec (fun _=>Tr α) (.node v l (ihr (Nat.pred (Nat.div k 2)))) (.node v (ihl (Nat.div k 2)) r) (Nat.beq (Nat.mod k 2) 1)) (.node x l r) (Nat.beq k 0)) t
noncomputable def put(t:Tr α)(k:Nat)(x:α):Tr α:=putAt (some x) t k
noncomputable def del(t:Tr α)(k:Nat):Tr α:=putAt none t k
def tab(f:Nat->Option α):Nat->Nat->Nat->Tr α
 | 0,_,_=>.nil
 | d+1,a,m=>.node (f a) (tab f d (Nat.add a m) (Nat.mul 2 m)) (tab f d (Nat.add a (Nat.mul 2 m)) (Nat.mul 2 m))
end Tr
noncomputable section
inductive AObj where
 | cells (c:Tr Value) (n:Nat) (elem:TypeId) (loose:Bool)
 | map (es:List MapEntry) (clock:Nat)
 | iter (s:ByteArray) (pos:Nat)
 | ro (c:Tr Value) (n:Nat)
structure Mem where
 hp:Tr AObj
 nx:Nat
 fl:Nat
structure Cx where
 ty:Tr TypeInfo
 un:Tr TypeDesc
 fn:Tr Func
 nh:Tr Bool
 globals:Nat
 ov:Tr (List Value->Mem->Option (Value×Mem))
def Cx.of(P:Program)(ov:Tr (List Value->Mem->Option (Value×Mem)):=.nil):Cx where
 ty:=Tr.tab (fun t=>P.info? t) 12 0 1
 un:=Tr.tab (fun t=>P.underlying t) 12 0 1
 fn:=Tr.tab (fun f=>match P.funcs[f]? with
  | some x=>match x.name == "runtime.NumGoroutine" with
   | true=>none
   | false=>some x
  | none=>none) 12 0 1
 nh:=Tr.tab (fun t=>some (!P.stoodInHeld t)) 12 0 1
 globals:=P.globals.size
 ov:=ov
abbrev Out(α : Type):=Option (α×Mem)
def plain1:Value->Bool
 | .bool _ | .int .. | .string _ | .pointer none | .slice none 0 0 | .map none | .nilFunc | .nilIface=>true
 | _=>false
def nf:Value->Bool
 | .agg cs=>cs.toList.all plain1
 | .tuple cs=>cs.toList.all plain1
 | .iface _ v=>plain1 v
 | .func _ f c=>f.toList.isEmpty&&c.toList.isEmpty
 | v=>plain1 v
def bQ:Value->List Value
 | .agg cs=>cs.toList
 | v=>[v]
def iG(c:Tr Value):Nat->Nat->Option (List Value)
 | 0,_=>some []
 | n+1,i=>match c.get i with
  | some v=>match iG c n (i+1)with
   | some l=>some (v::l)
   | none=>none
  | none=>none
def ec(c:Tr Value):List Value->Nat->Tr Value
 | [],_=>c
 | v::r,i=>ec (c.put i v) r (i+1)
def mX:TypeDesc->Bool
 | .struct _ | .array _ _=>true
 | _=>false
variable (cx:Cx)
def dO(t:TypeId):Option Nat:=match cx.ty.get t with
 | some i=>some i.size
 | none=>none
def fB(t:TypeId):Option Value:=match cx.ty.get t with
 | some i=>match i.zero with
  | some z=>match nf z with
   | true=>some z
   | false=>none
  | none=>none
 | none=>none
def gd(m:Mem)(l:List Value)(elem:TypeId)(loose:Bool):Nat×Mem:=
 (m.nx,{ hp:=m.hp.put m.nx (.cells (ec .nil l 0) l.length elem loose),nx:=m.nx+1,fl:=m.fl })
def fk(m:Mem)(a:Addr)(n:Nat):Option (List Value):=
 match a.spot with
 | some _=>none
 | none=>match m.hp.get a.block with
  | some (.cells c k _ _)=>match Nat.ble (a.off+n) k with
   | true=>iG c n a.off
   | false=>none
  | some (.ro c k)=>match Nat.ble (a.off+n) k with
   | true=>iG c n a.off
   | false=>none
  | _=>none
def loadT(m:Mem)(t:TypeId)(a:Addr):Option Value:=
 match cx.un.get t,dO cx t with
 | some d,some n=>
  match mX d with
  | true=>match fk m a n with
   | some l=>some (.agg l.toArray)
   | none=>none
  | false=>match fk m a 1 with
   | some [v]=>some v
   | _=>none
 | _,_=>none
def one1:Value->Bool
 | .agg _ | .tuple _=>false
 | _=>true
def iQ(m:Mem)(a:Addr)(l:List Value):Option Mem:=
 match a.spot with
 | some _=>none
 | none=>match m.hp.get a.block with
  | some (.cells c k e x)=>match Nat.ble (a.off+l.length) k&&Nat.ble m.fl a.block&&l.all one1 with
   | true=>some { m with hp:=m.hp.put a.block (.cells (ec c l a.off) k e x) }
   | false=>none
  | _=>none
def storeT(m:Mem)(t:TypeId)(a:Addr)(v:Value):Option Mem:=
 match dO cx t with
 | some n=>match Nat.beq (bQ v).length n with
  | true=>iQ m a (bQ v)
  | false=>none
 | none=>none
def zr(k:IntKind)(r:Int):Bool:=decide (k.min<=r)&&decide (r<=k.max)
def lM(k:IntKind)(r:Int):Int:=match zr k r with
 | true=>r
 | false=>k.wrap r
def nM(op:BinOp)(k:IntKind)(x y:Int):Option Value:=
 match op with
 | .add=>some (.int k (lM k (x+y)))
 | .sub=>some (.int k (lM k (x-y)))
 | .mul=>some (.int k (lM k (x*y)))
 | .quo=>match decide (y=0)with
  | true=>none
  | false=>some (.int k (lM k (x.tdiv y)))
 | .rem=>match decide (y=0)with
  | true=>none
  | false=>some (.int k (x.tmod y))
 | .and=>some (.int k (k.wrap (BitVec.ofInt k.bits x&&& BitVec.ofInt k.bits y).toNat))
 | .or=>some (.int k (k.wrap (BitVec.ofInt k.bits x ||| BitVec.ofInt k.bits y).toNat))
 | .xor=>some (.int k (k.wrap (BitVec.ofInt k.bits x ^^^ BitVec.ofInt k.bits y).toNat))
 | .andNot=>some (.int k (k.wrap (BitVec.ofInt k.bits x&&& ~~~ BitVec.ofInt k.bits y).toNat))
 | .eql=>some (.bool (decide (x=y)))
 | .neq=>some (.bool (!decide (x=y)))
 | .lss=>some (.bool (decide (x<y)))
 | .leq=>some (.bool (decide (x<=y)))
 | .gtr=>some (.bool (decide (y<x)))
 | .geq=>some (.bool (decide (y<=x)))
 | _=>none
def pC(left:Bool)(k:IntKind)(x y:Int):Option Value:=
 match decide (y<0)with
 | true=>none
 | false=>
  let n:=min y.toNat k.bits
  match left with
  | true=>some (.int k (k.wrap (x*2 ^ n)))
  | false=>some (.int k (x.fdiv (2 ^ n)))
def mu:List UInt8->List UInt8->Bool
 | [],[]=>true
 | a::x,b::y=>match decide (a=b)with
  | true=>mu x y
  | false=>false
 | _,_=>false
def stringOp(op:BinOp)(x y:ByteArray):Option Value:=
 match op with
 | .add=>match Nat.ble (x.data.toList.length+y.data.toList.length) 140737488355328 with
  | true=>some (.string ⟨(x.data.toList++y.data.toList).toArray⟩)
  | false=>none
 | .eql=>some (.bool (mu x.data.toList y.data.toList))
 | .neq=>some (.bool (!mu x.data.toList y.data.toList))
 | .lss=>some (.bool (Op.bytesLess x.data.toList y.data.toList))
 | .leq=>some (.bool (Op.bytesLess x.data.toList y.data.toList || mu x.data.toList y.data.toList))
 | .gtr=>some (.bool (!(Op.bytesLess x.data.toList y.data.toList || mu x.data.toList y.data.toList)))
 | .geq=>some (.bool (!Op.bytesLess x.data.toList y.data.toList))
 | _=>none
def zt(t:TypeId)(cs:List Value)(off:Nat):Option Value:=
 match cx.un.get t,dO cx t with
 | some d,some n=>match mX d with
  | true=>some (.agg ((cs.drop off).take n).toArray)
  | false=>cs[off]?
 | _,_=>none
def mY(m:Mem)(b:Nat)(o:AObj):Option Mem:=match Nat.ble m.fl b with
 | true=>some { m with hp:=m.hp.put b o }
 | false=>none
def lG(m:Mem)(b:Nat):Bool:=match m.hp.get b with
 | some (.cells ..)=>true
 | _=>false
def pS(m:Mem):Option Addr->Option Addr->Option Bool
 | none,b=>some b.isNone
 | some _,none=>some false
 | some a,some b=>
  match a.spot,b.spot,lG m a.block,lG m b.block with
  | none,none,true,true=>some (Nat.beq a.block b.block&&Nat.beq a.off b.off)
  | _,_,_,_=>none
def eqFields(eq:TypeId->Value->Value->Option Bool)(xs ys:List Value):List Field->Option Bool
 | []=>some true
 | f::r=>
  match decide (f.name = "_")with
  | true=>eqFields eq xs ys r
  | false=>match zt cx f.type xs f.offset,zt cx f.type ys f.offset with
   | some x,some y=>match eq f.type x y with
    | some true=>eqFields eq xs ys r
    | some false=>some false
    | none=>none
   | _,_=>none
def gj(m:Mem):Nat->TypeId->Value->Value->Option Bool
 | 0,_,_,_=>none
 | d+1,t,x,y=>
  match cx.un.get t with
  | none=>none
  | some u=>
   match u,x,y with
   | .bool,.bool a,.bool b=>some (a == b)
   | .int _,.int k a,.int k' b=>match decide (k=k')with
    | true=>some (decide (a=b))
    | false=>none
   | .string,.string a,.string b=>some (mu a.data.toList b.data.toList)
   | .pointer e,.pointer a,.pointer b=>match dO cx e with
    | some (_+1)=>pS m a b
    | _=>none
   | .interface _,.nilIface,.nilIface=>some true
   | .interface _,.nilIface,.iface _ _=>some false
   | .interface _,.iface _ _,.nilIface=>some false
   | .interface _,.iface tx vx,.iface ty vy=>match Nat.beq tx ty with
    | false=>some false
    | true=>match cx.ty.get tx with
     | some i=>match i.comparable with
      | true=>gj m d tx vx vy
      | false=>none
     | none=>none
   | .struct fs,.agg xs,.agg ys=>match cx.nh.get t with
    | some true=>eqFields cx (gj m d) xs.toList ys.toList fs.toList
    | _=>none
   | .slice _,.slice none _ _,.slice b _ _=>some b.isNone
   | .slice _,.slice _ _ _,.slice none _ _=>some false
   | .map _ _,.map none,.map b=>some b.isNone
   | .map _ _,.map _,.map none=>some false
   | .func _ _ _,.nilFunc,.nilFunc=>some true
   | .func _ _ _,.nilFunc,.func _ _ _=>some false
   | .func _ _ _,.func _ _ _,.nilFunc=>some false
   | _,_,_=>none
def oT:Operand->Bool
 | .const _=>true
 | _=>false
def rs(t:TypeId)(x y:Operand)(a b:Value):Bool:=
 match a,b with
 | .nilIface,.nilIface=>match oT x || oT y with
  | true=>true
  | false=>match cx.un.get t with
   | some (.interface ms)=>ms.toList.isEmpty
   | _=>false
 | .agg _,.agg _=>match cx.un.get t with
  | some (.struct fs)=>fs.toList.all fun f=>match cx.un.get f.type with
   | some (.interface _)|some (.struct _)|some (.array _ _)|none=>false
   | _=>true
  | _=>false
 | _,_=>true
def sR(op:BinOp)(t:TypeId)(x y:Operand)(a b:Value):Bool:=
 match op with
 | .eql | .neq=>rs cx t x y a b
 | _=>true
def gP(m:Mem)(op:BinOp)(t:TypeId)(x y:Value):Option Value:=
 match x,y with
 | .int k a,.int k' b=>
  match op with
  | .shl=>pC true k a b
  | .shr=>pC false k a b
  | _=>match decide (k=k')with
   | true=>nM op k a b
   | false=>none
 | .string a,.string b=>stringOp op a b
 | _,_=>
  match op with
  | .eql=>match gj cx m 40 t x y with
   | some b=>some (.bool b)
   | none=>none
  | .neq=>match gj cx m 40 t x y with
   | some b=>some (.bool (!b))
   | none=>none
  | _=>none
def Fu(op:UnOp)(x:Value):Option Value:=
 match op,x with
 | .neg,.int k n=>nM .sub k 0 n
 | .xor,.int k n=>nM .xor k (if k.signed then -1 else k.max) n
 | .not,.bool b=>some (.bool !b)
 | _,_=>none
def ng(a:Addr)(n:Nat):Addr:={ block:=a.block,off:=a.off+n }
def fi(dflt:Nat):Option Value->Nat->Option Nat
 | none,_=>some dflt
 | some (.int _ i),y=>match decide (0<=i)&&decide (i<=y)with
  | true=>some i.toNat
  | false=>none
 | some _,_=>none
def sameSize(m:Mem)(b s:Nat):Bool:=match m.hp.get b with
 | some (.cells _ _ e loose)=>match loose with
  | false=>true
  | true=>match dO cx e with
   | some s'=>Nat.beq s' s
   | none=>false
 | some (.ro _ _)=>true
 | _=>false
def HQ:Addr:=⟨0,0,some 0⟩
def cX(m:Mem)(t:TypeId)(x:Value)(lo hi mx:Option Value):Option Value:=
 match cx.un.get t,x with
 | some .string,.string s=>match mx with
  | some _=>none
  | none=>match fi s.data.toList.length hi s.data.toList.length with
   | some h=>match fi 0 lo h with
    | some l=>some (.string ⟨((s.data.toList.drop l).take (h-l)).toArray⟩)
    | none=>none
   | none=>none
 | some (.slice e),.slice a len cap=>
  match dO cx e with
  | some s=>
   match mx with
   | none=>match fi len hi cap with
    | some h=>match fi 0 lo h with
     | some l=>match a with
      | some a=>match a.spot,sameSize cx m a.block s&&Nat.ble h cap with
       | none,true=>some (.slice (some (ng a (l*s))) (h-l) (cap-l))
       | _,_=>match Nat.beq cap 0&&Nat.beq h 0&&Nat.beq l 0 with
        | true=>some (.slice (some a) 0 0)
        | false=>none
      | none=>some (.slice none (h-l) (cap-l))
     | none=>none
    | none=>none
   | some _=>match fi cap mx cap with
    | some mm=>match hi with
     | none=>none
     | some _=>match fi len hi mm with
      | some h=>match fi 0 lo h with
       | some l=>match a with
        | some a=>match Nat.beq (mm-l) 0 with
         | true=>some (.slice (some HQ) 0 0)
         | false=>match a.spot with
          | none=>some (.slice (some (ng a (l*s))) (h-l) (mm-l))
          | some _=>none
        | none=>some (.slice none (h-l) (mm-l))
       | none=>none
      | none=>none
    | none=>none
  | none=>none
 | some (.array n e),.pointer (some a)=>
  match dO cx e,mx,a.spot,lG m a.block with
  | some s,none,none,true=>match fi n hi n with
   | some h=>match fi 0 lo h with
    | some l=>some (.slice (some (if n=l then a else ng a (l*s))) (h-l) (n-l))
    | none=>none
   | none=>none
  | _,_,_,_=>none
 | _,_=>none
def nN(t:TypeId)(x ix:Value):Option Value:=
 match ix with
 | .int _ i=>
  match cx.un.get t,x with
  | some (.array len e),.pointer (some a)=>
   match dO cx e,a.spot,decide (0<=i)&&decide (i<len)with
   | some s,none,true=>some (.pointer (some (ng a (i.toNat*s))))
   | _,_,_=>none
  | some (.slice e),.slice (some a) len _=>
   match dO cx e,a.spot,decide (0<=i)&&decide (i<len)with
   | some s,none,true=>some (.pointer (some (ng a (i.toNat*s))))
   | _,_,_=>none
  | _,_=>none
 | _=>none
def vS(t:TypeId)(x ix:Value):Option Value:=
 match ix with
 | .int _ i=>
  match cx.un.get t,x with
  | some (.array len e),.agg cs=>
   match dO cx e,decide (0<=i)&&decide (i<len)with
   | some s,true=>zt cx e cs.toList (i.toNat*s)
   | _,_=>none
  | some .string,.string s=>
   match decide (0<=i)with
   | true=>match s.data.toList[i.toNat]? with
    | some b=>some (.int .u8 b.toNat)
    | none=>none
   | false=>none
  | _,_=>none
 | _=>none
def lN(t:TypeId)(x:Value)(f:Nat):Option Value:=
 match cx.un.get t,x with
 | some (.struct fs),.pointer (some a)=>
  match fs.toList[f]?,a.spot with
  | some fd,none=>match dO cx fd.type with
   | some (_+1)=>some (.pointer (some (ng a fd.offset)))
   | _=>none
  | _,_=>none
 | _,_=>none
def Bh(t:TypeId)(x:Value)(f:Nat):Option Value:=
 match cx.un.get t,x with
 | some (.struct fs),.agg cs=>match fs.toList[f]? with
  | some fd=>zt cx fd.type cs.toList fd.offset
  | none=>none
 | _,_=>none
def splice(cells:List Value)(off:Nat)(vc:List Value):List Value:=
 cells.take off++vc++cells.drop (off+vc.length)
def sD(place:Nat->Option (Nat×Nat))(cells:List Value):List (Nat×Value)->Option (List Value)
 | []=>some cells
 | (i,v)::rest=>match place i with
  | none=>none
  | some (off,size)=>match Nat.beq (bQ v).length size&&Nat.ble (off+(bQ v).length) cells.length with
   | true=>sD place (splice cells off (bQ v)) rest
   | false=>none
def ey(z:List Value):Nat->List Value
 | 0=>[]
 | n+1=>z++ey z n
def sS:List Field->Option (List (Nat×Nat))
 | []=>some []
 | f::r=>match dO cx f.type,sS r with
  | some s,some l=>some ((f.offset,s)::l)
  | _,_=>none
def vT(t:TypeId)(parts:List (Nat×Value)):Option Value:=
 match fB cx t,cx.un.get t with
 | some z,some (.struct fs)=>
  match sS cx fs.toList with
  | some ps=>match sD (fun i=>ps[i]?) (bQ z) parts with
   | some l=>some (.agg l.toArray)
   | none=>none
  | none=>none
 | some z,some (.array _ e)=>
  match dO cx e with
  | some s=>match sD (fun i=>some (i*s,s)) (bQ z) parts with
   | some l=>some (.agg l.toArray)
   | none=>none
  | none=>none
 | _,_=>none
def iJ(m:Mem)(t:TypeId)(len:Nat)(parts:List (Nat×Value)):Out Value:=
 match cx.un.get t with
 | some (.slice e)=>
  match dO cx e,fB cx e with
  | some s,some z=>
   match Nat.ble (len*s) 16777216&&Nat.beq (bQ z).length s&&Nat.blt 0 s with
   | true=>match sD (fun i=>some (i*s,s)) (ey (bQ z) len) parts with
    | some l=>
     let (b,m'):=gd m l e false
     some (.slice (some ⟨b,0,none⟩) len len,m')
    | none=>none
   | false=>none
  | _,_=>none
 | _=>none
def jp(m:Mem)(t:TypeId)(len cap:Value):Out Value:=
 match cx.un.get t,len,cap with
 | some (.slice e),.int _ l,.int _ c=>
  match dO cx e,fB cx e,cx.ty.get e with
  | some s,some z,some i=>
   match decide (0<=l)&&decide (l<=c)&&decide (c<=1073741824)&&Nat.ble (i.bytes*c.toNat) 140737488355328&&Nat.beq (bQ z).length s&&Nat.blt 0 s with
   | true=>
    let (b,m'):=gd m (ey (bQ z) c.toNat) e false
    some (.slice (some ⟨b,0,none⟩) l.toNat c.toNat,m')
   | false=>none
  | _,_,_=>none
 | _,_,_=>none
def mE:Value->Option Nat
 | .slice _ n _=>some n
 | .string s=>some s.data.toList.length
 | _=>none
def dA(m:Mem)(s n:Nat):Value->Option (List Value)
 | .slice (some a) _ _=>match n with
  | 0=>some []
  | n+1=>fk m a ((n+1)*s)
 | .slice none _ _=>some []
 | .string x=>some ((x.data.toList.take n).map fun b=>.int .u8 b.toNat)
 | _=>none
def giveUp(m:Mem)(base:Option Addr)(e s cap:Nat):Option Mem:=
 match base with
 | none=>some m
 | some a=>match a.spot with
  | some _=>some m
  | none=>match m.hp.get a.block with
   | some (.cells _ n e' loose)=>match loose with
    | false=>some m
    | true=>match Nat.beq e' e with
     | true=>match Nat.beq (a.off+cap*s) n with
      | true=>match Nat.ble m.fl a.block with
       | true=>some { m with hp:=m.hp.del a.block }
       | false=>none
      | false=>some m
     | false=>none
   | _=>none
def iR:TypeDesc->Bool
 | .slice _ | .string=>true
 | _=>false
def kh(m:Mem)(e:TypeId)(i:TypeInfo)(base:Option Addr)(len cap n:Nat)(new:List Value):Out Value:=
 match Nat.beq new.length (n*i.size)&&Nat.blt 0 i.size&&new.all one1 with
 | false=>none
 | true=>
  match Nat.ble (len+n) cap with
  | true=>match base with
   | some a=>match new with
    | []=>some (.slice base (len+n) cap,m)
    | _=>match iQ m (ng a (len*i.size)) new with
     | some m'=>some (.slice base (len+n) cap,m')
     | none=>none
   | none=>match new with
    | []=>some (.slice none (len+n) cap,m)
    | _=>none
  | false=>
   match Nat.ble ((2*(len+n)+192)*i.bytes) 140737488355328&&Nat.ble (len+n) 1099511627776,dA m i.size len (.slice base len cap),fB cx e with
   | true,some old,some z=>match giveUp m base e i.size cap,Nat.beq old.length (len*i.size)&&Nat.beq (bQ z).length i.size with
    | some m',true=>
     let (b,m''):=gd m' (old++new) e true
     some (.slice (some ⟨b,0,none⟩) (len+n) (len+n),m'')
    | _,_=>none
   | _,_,_=>none
def Bi:TypeDesc->Bool
 | .int _=>true
 | _=>false
def lj(m:Mem)(e:TypeId)(i:TypeInfo)(ux:TypeDesc)(x:Value)(base:Option Addr)(len cap:Nat):Out Value:=
 match Bi ux,x,fB cx e with
 | true,.int .i64 l,some z=>match decide (0<=l)&&decide (l<=1000000000)&&Nat.ble (l.toNat*i.bytes) 281474976710656&&Nat.beq (bQ z).length i.size&&Nat.blt 0 i.size with
  | true=>kh cx m e i base len cap l.toNat (ey (bQ z) l.toNat)
  | false=>none
 | _,_,_=>none
def cQ(m:Mem)(ts:List TypeId)(args:List Value):Out Value:=
 match ts,args with
 | [t,tx],[.slice base len cap,x]=>
  match cx.un.get t,cx.un.get tx with
  | some (.slice e),some ux=>
   match cx.ty.get e,mE x,iR ux with
   | some i,some n,true=>
    match dA m i.size n x with
    | some new=>
     match Nat.beq new.length (n*i.size)&&Nat.blt 0 i.size&&new.all one1 with
     | false=>none
     | true=>
     match Nat.ble (len+n) cap with
     | true=>match base with
      | some a=>match new with
       | []=>some (.slice base (len+n) cap,m)
       | _=>match iQ m (ng a (len*i.size)) new with
        | some m'=>some (.slice base (len+n) cap,m')
        | none=>none
      | none=>match new with
       | []=>some (.slice none (len+n) cap,m)
       | _=>none
     | false=>
      match Nat.ble ((2*(len+n)+192)*i.bytes) 140737488355328&&Nat.ble (len+n) 1099511627776,dA m i.size len (.slice base len cap),fB cx e with
      | true,some old,some z=>match giveUp m base e i.size cap,Nat.beq old.length (len*i.size)&&Nat.beq (bQ z).length i.size with
       | some m',true=>
        let (b,m''):=gd m' (old++new) e true
        some (.slice (some ⟨b,0,none⟩) (len+n) (len+n),m'')
       | _,_=>none
      | _,_,_=>none
    | none=>none
   | some i,none,false=>lj cx m e i ux x base len cap
   | _,_,_=>none
  | _,_=>none
 | _,_=>none
def iK(m:Mem)(ts:List TypeId)(args:List Value):Out Value:=
 match ts,args with
 | t::_,[.slice base dl _,src]=>
  match cx.un.get t with
  | some (.slice e)=>
   match dO cx e,mE src with
   | some s,some n=>
    match dA m s (min n dl) src with
    | some l=>match base with
     | some a=>match l with
      | []=>some (.int .i64 (min n dl:Nat),m)
      | _=>match iQ m a l with
       | some m'=>some (.int .i64 (min n dl:Nat),m')
       | none=>none
     | none=>some (.int .i64 (min n dl:Nat),m)
    | none=>none
   | _,_=>none
  | _=>none
 | _,_=>none
def qF(m:Mem)(ts:List TypeId)(args:List Value):Option Value:=
 match ts,args with
 | t::_,[x]=>match cx.un.get t,x with
  | some .string,.string s=>some (.int .i64 s.data.toList.length)
  | some (.array n _),_=>some (.int .i64 n)
  | some (.slice _),.slice _ n _=>some (.int .i64 n)
  | some (.map _ _),.map none=>some (.int .i64 0)
  | some (.map _ _),.map (some r)=>match m.hp.get r with
   | some (.map es _)=>some (.int .i64 es.length)
   | _=>none
  | _,_=>none
 | _,_=>none
def mF(m:Mem)(ts:List TypeId)(args:List Value):Option Value:=
 match ts,args with
 | t::_,[x]=>match cx.un.get t,x with
  | some (.array n _),_=>some (.int .i64 n)
  | some (.slice _),.slice none _ c=>some (.int .i64 c)
  | some (.slice _),.slice (some a) _ c=>match m.hp.get a.block with
   | some (.cells _ _ _ false)=>some (.int .i64 c)
   | _=>none
  | _,_=>none
 | _,_=>none
def rt(big:Bool):Value->List Value->Option Value
 | x,[]=>some x
 | .int k x,.int _ y::r=>
  match big with
  | true=>rt big (.int k (if x<y then y else x)) r
  | false=>rt big (.int k (if y<x then y else x)) r
 | _,_=>none
def zu:Value->Value->Option Bool
 | .int k a,.int k' b=>match decide (k=k')with
  | true=>some (decide (a=b))
  | false=>none
 | .string a,.string b=>some (mu a.data.toList b.data.toList)
 | .bool a,.bool b=>some (a == b)
 | _,_=>none
def iW:TypeDesc->Value->Bool
 | .int _,.int .. | .string,.string _ | .bool,.bool _=>true
 | _,_=>false
def gx(d:TypeDesc)(k:Value):List MapEntry->Nat->Option (Option (Nat×Value))
 | [],_=>some none
 | e::es,i=>match iW d k&&iW d e.key,zu k e.key with
  | true,some true=>some (some (i,e.val))
  | true,some false=>gx d k es (i+1)
  | _,_=>none
def mapKey(t:TypeId)(k:Value):Option (TypeDesc×TypeId):=
 match cx.un.get t with
 | some (.map kt et)=>match cx.un.get kt with
  | some d=>match iW d k with
   | true=>some (d,et)
   | false=>none
  | none=>none
 | _=>none
def okV(ok:Bool)(v:Value)(there:Bool):Value:=match ok with
 | true=>.tuple #[v,.bool there]
 | false=>v
def tu(d:TypeDesc)(et:TypeId)(es:List MapEntry)(k:Value)(ok:Bool):Option Value:=
 match gx d k es 0 with
 | some (some (_,v))=>some (okV ok v true)
 | some none=>match fB cx et with
  | some z=>some (okV ok z false)
  | none=>none
 | none=>none
def mw(m:Mem)(t:TypeId)(x k:Value)(ok:Bool):Option Value:=
 match mapKey cx t k with
 | some (d,et)=>match x with
  | .map none=>tu cx d et [] k ok
  | .map (some r)=>match m.hp.get r with
   | some (.map es _)=>tu cx d et es k ok
   | _=>none
  | _=>none
 | none=>none
def fN(m:Mem)(t:TypeId)(x k v:Value):Option Mem:=
 match mapKey cx t k,x with
 | some (d,_),.map (some r)=>match m.hp.get r with
  | some (.map es clock)=>match gx d k es 0 with
   | some (some (i,_))=>mY m r (.map (es.modify i fun e=>{ e with key:=k,val:=v }) clock)
   | some none=>mY m r (.map (es++[{ key:=k,val:=v,born:=clock }]) (clock+1))
   | none=>none
  | _=>none
 | _,_=>none
def kl(m:Mem)(t:TypeId)(x k:Value):Out Value:=
 match mapKey cx t k,x with
 | some (d,et),.map (some r)=>match m.hp.get r with
  | some (.map es clock)=>match gx d k es 0 with
   | some (some (i,v))=>match mY m r (.map (es.modify i fun e=>{ e with key:=k }) clock)with
    | some m'=>some (.tuple #[v,.int .i64 (match es[i]? with|some e=>(e.born:Int)|none=>0)],m')
    | none=>none
   | some none=>match fB cx et with
    | some z=>match mY m r (.map (es++[{ key:=k,val:=z,born:=clock }]) (clock+1))with
     | some m'=>some (.tuple #[z,.int .i64 clock],m')
     | none=>none
    | none=>none
   | none=>none
  | _=>none
 | _,_=>none
def iL(m:Mem)(x stamp v:Value):Option Mem:=
 match x,stamp with
 | .map (some r),.int _ born=>match m.hp.get r with
  | some (.map es clock)=>match es.findIdx? (fun e=>decide ((e.born:Int)=born))with
   | some i=>mY m r (.map (es.modify i fun e=>{ e with val:=v }) clock)
   | none=>none
  | _=>none
 | _,_=>none
def nO(m:Mem)(t:TypeId)(x k:Value):Option Mem:=
 match mapKey cx t k,x with
 | some _,.map none=>some m
 | some (d,_),.map (some r)=>match m.hp.get r with
  | some (.map es clock)=>match gx d k es 0 with
   | some (some (i,_))=>mY m r (.map (es.eraseIdx i) clock)
   | some none=>some m
   | none=>none
  | _=>none
 | _,_=>none
def bytesOf:List Value->Option (List UInt8)
 | []=>some []
 | .int .u8 n::r=>match bytesOf r with
  | some l=>some (UInt8.ofNat n.toNat::l)
  | none=>none
 | _=>none
def kK(m:Mem)(src dst:TypeId)(x:Value):Option Value:=
 match cx.un.get src,cx.un.get dst,x with
 | some _,some (.int k),.int _ n=>some (.int k (lM k n))
 | some _,some .string,.string _=>some x
 | some (.slice e),some .string,.slice a len _=>match cx.un.get e,a with
  | some (.int .u8),some a=>match fk m a len with
   | some l=>match bytesOf l with
    | some bs=>some (.string ⟨bs.toArray⟩)
    | none=>none
   | none=>none
  | some (.int .u8),none=>some (.string .empty)
  | _,_=>none
 | _,_,_=>none
def zv(x:Value)(_xT asserted:TypeId)(ok:Bool):Option Value:=
 match cx.un.get asserted,x with
 | some (.interface want),.iface t _=>match cx.ty.get t with
  | some i=>match lacking want i.methods with
   | []=>some (okV ok x true)
   | _::_=>match ok,fB cx asserted with
    | true,some z=>some (.tuple #[z,.bool false])
    | _,_=>none
  | none=>none
 | some (.interface _),.nilIface=>match ok,fB cx asserted with
  | true,some z=>some (.tuple #[z,.bool false])
  | _,_=>none
 | some _,.nilIface=>match ok,fB cx asserted with
  | true,some z=>some (.tuple #[z,.bool false])
  | _,_=>none
 | some _,.iface t v=>match Nat.beq t asserted with
  | true=>some (okV ok v true)
  | false=>match ok,fB cx asserted with
   | true,some z=>some (.tuple #[z,.bool false])
   | _,_=>none
 | _,_=>none
def FI:TypeDesc->Bool
 | .pointer _=>true
 | _=>false
def vU(t:TypeId)(v:Value)(name:String):Option (FuncId×Value):=
 match cx.ty.get t,cx.un.get t with
 | some i,some u=>match i.methods.toList.find? (fun m=>m.name == name)with
  | some md=>match md.path.toList,md.func with
   | [],some (f,b)=>match FI u,b with
    | true,true=>some (f,v)
    | false,false=>some (f,v)
    | _,_=>none
   | [s],some (f,b)=>match s.deref,b,cx.un.get s.struct,v with
    | false,true,some (.struct fs),.agg c=>match fs[s.index]? with
     | some fd=>match cx.un.get fd.type,c.toList[fd.offset]? with
      | some (.pointer _),some (.pointer a)=>some (f,.pointer a)
      | _,_=>none
     | none=>none
    | _,_,_,_=>none
   | _,_=>none
  | none=>none
 | _,_=>none
inductive Ex where
 | normal
 | exit (id:Nat)
 | ret
structure St where
 tm:Tr Value
 sz:Nat
 m:Mem
def cU(st:St):Operand->Option Value
 | .tmp t=>st.tm.get t
 | .const v=>match nf v with
  | true=>some v
  | false=>none
 | .global g=>match Nat.blt g cx.globals with
  | true=>some (.pointer (some ⟨g,0,none⟩))
  | false=>none
 | .func f=>some (.func (.func f) #[] #[])
def gZ(st:St):List Operand->Option (List Value)
 | []=>some []
 | x::r=>match cU cx st x with
  | some v=>match gZ st r with
   | some l=>some (v::l)
   | none=>none
  | none=>none
def iI(st:St):Option Operand->Option (Option Value)
 | none=>some none
 | some x=>match cU cx st x with
  | some v=>some (some v)
  | none=>none
def gT(st:St):List (Nat×Operand)->Option (List (Nat×Value))
 | []=>some []
 | (i,x)::r=>match cU cx st x with
  | some v=>match gT st r with
   | some l=>some ((i,v)::l)
   | none=>none
  | none=>none
abbrev dB:=FuncId->List Value->Mem->Out Value
def lm(m:Mem)(ts:List TypeId)(args:List Value):Out Value:=
 match ts,args with
 | t::_,[.slice a n _]=>match cx.un.get t with
  | some (.slice e)=>match a,n with
   | none,_=>some (.tuple #[],m)
   | some _,0=>some (.tuple #[],m)
   | some a,n+1=>match fB cx e with
    | some z=>match Nat.blt 0 (bQ z).length with
     | true=>match iQ m a (ey (bQ z) (n+1))with
      | some m'=>some (.tuple #[],m')
      | none=>none
     | false=>none
    | none=>none
  | _=>none
 | _,_=>none
def ge(m:Mem)(b:Builtin)(ts:List TypeId)(args:List Value):Out Value:=
 let v (r:Option Value):Out Value:=match r with
  | some x=>some (x,m)
  | none=>none
 match b with
 | .append=>cQ cx m ts args
 | .copy=>iK cx m ts args
 | .len=>v (qF cx m ts args)
 | .cap=>v (mF cx m ts args)
 | .max=>match args with
  | x::r=>v (rt true x r)
  | []=>none
 | .min=>match args with
  | x::r=>v (rt false x r)
  | []=>none
 | .delete=>match ts,args with
  | t::_,[x,k]=>match nO cx m t x k with
   | some m'=>some (.tuple #[],m')
   | none=>none
  | _,_=>none
 | .clear=>lm cx m ts args
 | _=>none
def gq(call:dB)(st:St)(c:Call):Out Value:=
 match gZ cx st c.args.toList with
 | none=>none
 | some args=>
  match c.callee with
  | .builtin b=>ge cx st.m b c.argTypes.toList args
  | .value f=>match cU cx st f with
   | some (.func (.func k) first captured)=>call k (first.toList++args++captured.toList) st.m
   | _=>none
  | .invoke x name=>match cU cx st x with
   | some (.iface t v)=>match vU cx t v name with
    | some (k,r)=>call k (r::args) st.m
    | none=>none
   | _=>none
def dh(call:dB)(st:St)(o:Oper):Out (Option Value):=
 let v (r:Option Value):Out (Option Value):=match r with
  | some x=>some (some x,st.m)
  | none=>none
 let w (r:Out Value):Out (Option Value):=match r with
  | some (x,m)=>some (some x,m)
  | none=>none
 let u (r:Option Mem):Out (Option Value):=match r with
  | some m=>some (none,m)
  | none=>none
 match o.op with
 | .move x | .assign x=>v (cU cx st x)
 | .pick c a b=>match cU cx st c,cU cx st a,cU cx st b with
  | some (.bool true),some x,_=>v (some x)
  | some (.bool false),_,some y=>v (some y)
  | _,_,_=>none
 | .alloc e=>match fB cx e with
  | some z=>let (b,m):=gd st.m (bQ z) e false;some (some (.pointer (some ⟨b,0,none⟩)),m)
  | none=>none
 | .box e x=>match cU cx st x with
  | some y=>let (b,m):=gd st.m (bQ y) e false;some (some (.pointer (some ⟨b,0,none⟩)),m)
  | none=>none
 | .build t ps=>match gT cx st ps.toList with
  | some l=>v (vT cx t l)
  | none=>none
 | .buildSlice t n ps=>match gT cx st ps.toList with
  | some l=>w (iJ cx st.m t n l)
  | none=>none
 | .load t a=>match cU cx st a with
  | some (.pointer (some a))=>v (loadT cx st.m t a)
  | _=>none
 | .store t a x=>match cU cx st a,cU cx st x with
  | some (.pointer (some a)),some y=>u (storeT cx st.m t a y)
  | _,_=>none
 | .nilCheck x=>match cU cx st x with
  | some (.pointer (some a))=>v (some (.pointer (some a)))
  | some (.iface t y)=>v (some (.iface t y))
  | some (.func (.func k) f c)=>v (some (.func (.func k) f c))
  | _=>none
 | .binOp op t x y _=>match cU cx st x,cU cx st y with
  | some a,some b=>match sR cx op t x y a b with
   | true=>v (gP cx st.m op t a b)
   | false=>none
  | _,_=>none
 | .unOp op _ x=>match cU cx st x with
  | some a=>v (Fu op a)
  | none=>none
 | .convert s d x=>match cU cx st x with
  | some a=>v (kK cx st.m s d a)
  | none=>none
 | .makeInterface t x=>match cU cx st x,cx.un.get t with
  | some _,some (.interface _)=>none
  | some a,some _=>v (some (.iface t a))
  | _,_=>none
 | .makeFunc fn f c=>match gZ cx st f.toList,gZ cx st c.toList with
  | some f,some c=>v (some (.func fn f.toArray c.toArray))
  | _,_=>none
 | .makeMap _ none=>some (some (.map (some st.m.nx)),{ hp:=st.m.hp.put st.m.nx (.map [] 0),nx:=st.m.nx+1,fl:=st.m.fl })
 | .makeSlice t l c=>match cU cx st l,cU cx st c with
  | some l,some c=>w (jp cx st.m t l c)
  | _,_=>none
 | .slice t x lo hi mx=>match cU cx st x,iI cx st lo,iI cx st hi,iI cx st mx with
  | some x,some lo,some hi,some mx=>v (cX cx st.m t x lo hi mx)
  | _,_,_,_=>none
 | .fieldAddr t x f=>match cU cx st x with
  | some a=>v (lN cx t a f)
  | none=>none
 | .field t x f=>match cU cx st x with
  | some a=>v (Bh cx t a f)
  | none=>none
 | .indexAddr t x i=>match cU cx st x,cU cx st i with
  | some a,some b=>v (nN cx t a b)
  | _,_=>none
 | .index t x i=>match cU cx st x,cU cx st i with
  | some a,some b=>v (vS cx t a b)
  | _,_=>none
 | .lookup t x k ok=>match cU cx st x,cU cx st k with
  | some a,some b=>v (mw cx st.m t a b ok)
  | _,_=>none
 | .mapUpdate t x k y | .insert t x k y=>match cU cx st x,cU cx st k,cU cx st y with
  | some a,some b,some c=>u (fN cx st.m t a b c)
  | _,_,_=>none
 | .mapEntry t x k=>match cU cx st x,cU cx st k with
  | some a,some b=>w (kl cx st.m t a b)
  | _,_=>none
 | .entryStore _ x s y=>match cU cx st x,cU cx st s,cU cx st y with
  | some a,some b,some c=>u (iL st.m a b c)
  | _,_,_=>none
 | .typeAssert x xT t ok=>match cU cx st x with
  | some a=>v (zv cx a xT t ok)
  | none=>none
 | .extract t i=>match cU cx st t with
  | some (.tuple vs)=>v (vs.toList[i]?)
  | _=>none
 | .call c=>w (gq cx call st c)
 | _=>none
def gu(st:St)(dst:Option Tmp)(v:Option Value)(m:Mem):Option St:=
 match dst with
 | none=>some { st with m:=m }
 | some d=>match Nat.blt d st.sz with
  | true=>match v with
   | some x=>some { st with tm:=st.tm.put d x,m:=m }
   | none=>some { st with tm:=st.tm.del d,m:=m }
  | false=>none
def eD:Option Value:=some (.tuple #[])
def fa(ops:List Oper)(st:St)(o:Oper):Option Bool:=
 match o.guard with
 | none=>some true
 | some (j,want)=>match ops[j]? with
  | some g=>match g.dst with
   | some d=>match st.tm.get d with
    | some (.bool b)=>some (b == want)
    | some _=>some false
    | none=>none
   | none=>none
  | none=>none
def gD(call:dB)(ops:List Oper):List Oper->St->Option St
 | [],st=>some st
 | o::r,st=>match fa ops st o with
  | some true=>match dh cx call st o with
   | some (v,m)=>match gu st o.dst v m with
    | some st'=>gD call ops r st'
    | none=>none
   | none=>none
  | some false=>match gu st o.dst eD st.m with
   | some st'=>gD call ops r st'
   | none=>none
  | none=>none
def bit(n:Nat):Nat:=2 ^ n
def hasBit(s i:Nat):Bool:=Nat.testBit s i
def qX(anc:List Nat):List Edge->Nat
 | []=>0
 | e::r=>match Region.binds .any e with
  | true=>match anc[e.on]? with
   | some s=>Nat.lor (Nat.lor s (bit e.on)) (qX anc r)
   | none=>qX anc r
  | false=>qX anc r
def eN:List Oper->List Nat->List Nat
 | [],anc=>anc
 | o::r,anc=>eN r (anc++[qX anc o.after.toList])
def fD:Op->Nat
 | .move _ | .assign _ | .pick .. | .build .. | .nilCheck _ | .unOp .. | .makeInterface .. | .makeFunc .. | .fieldAddr .. | .field ..
 | .indexAddr .. | .index .. | .extract .. | .typeAssert ..=>0
 | .binOp op ..=>match op with
  | .eql | .neq=>1
  | _=>0
 | .load .. | .convert .. | .slice .. | .lookup ..=>1
 | .call { callee:=.builtin b,.. }=>match b with
  | .len | .cap | .max | .min=>1
  | _=>2
 | _=>2
def gC:Op->Bool
 | .alloc _ | .box .. | .buildSlice .. | .makeMap _ none | .makeSlice ..=>true
 | _=>false
structure Dr where
 took:Nat
 made:List (Nat×Nat×AObj)
 hist:List (Nat×Bool×Mem×Nat)
 rd:Nat
def kY(anc:Nat)(cur:Mem)(took:Nat):List (Nat×Bool×Mem×Nat)->Option (Mem×Nat)
 | []=>some (cur,took)
 | (i,soft,before,tk)::r=>match hasBit anc i with
  | true=>some (cur,took)
  | false=>match soft with
   | true=>kY anc before tk r
   | false=>none
def addMade(p:Nat->Bool):List (Nat×Nat×AObj)->Mem->Mem
 | [],m=>m
 | (i,id,o)::r,m=>match p i with
  | true=>{ addMade p r m with hp:=(addMade p r m).hp.put id o }
  | false=>addMade p r m
def dQ(anc took:Nat)(i:Nat):Bool:=hasBit anc i&&!hasBit took i
def lF(i:Nat):List Nat->List Oper->Bool
 | s::r,o::q=>match Nat.blt 0 (fD o.op)&&!gC o.op&&!hasBit s i with
  | true=>true
  | false=>lF i r q
 | _,_=>false
def lL(call:dB)(o:Oper)(i base:Nat)(d:Dr)(st:St):Option (Option Value×Mem×Dr):=
 match dh cx call { st with m:={ hp:=.nil,nx:=base+i,fl:=0 } } o with
 | some (v,m)=>match m.hp.get (base+i)with
  | some ob=>some (v,st.m,{ d with made:=(i,base+i,ob)::d.made })
  | none=>none
 | none=>none
def waitsFor(s:Nat):List (Nat×Bool×Mem×Nat)->Bool
 | []=>true
 | (j,_,_,_)::_=>hasBit s j
def qE(p:Nat->Bool)(i:Nat)(made:List (Nat×Nat×AObj)):List Nat->List Oper->Bool
 | s::r,o::q=>match Nat.blt 0 (fD o.op)&&!gC o.op&&!hasBit s i with
  | true=>match made.all fun e=>!(p e.1&&hasBit s e.1)with
   | true=>qE p i made r q
   | false=>false
  | false=>qE p i made r q
 | _,_=>true
def pB(p:Nat->Bool)(rd s:Nat)(made:List (Nat×Nat×AObj)):Nat->List Nat->Bool
 | _,[]=>true
 | j,t::r=>match hasBit rd j&&!hasBit s j with
  | true=>match made.all fun e=>!(p e.1&&hasBit t e.1)with
   | true=>pB p rd s made (j+1) r
   | false=>false
  | false=>pB p rd s made (j+1) r
def vm(ops:List Oper)(s i:Nat)(d:Dr)(q:List Nat)(r:List Oper):Bool:=match d.hist with
 | []=>match pB (dQ s d.took) d.rd s d.made 0 (eN ops [])with
  | true=>qE (dQ s d.took) i d.made q r
  | false=>false
 | _::_=>false
def gh(ops:List Oper)(base nx s i:Nat)(d:Dr)(q:List Nat)(r:List Oper):Nat:=match vm ops s i d q r with
 | true=>base
 | false=>nx
def wB:Op->Option Operand
 | .load _ x=>some x
 | _=>none
def FH(x:Operand)(l:List Oper):Bool:=match x with
 | .tmp a=>l.all fun y=>match y.dst with
  | some d=>!Nat.beq d a
  | none=>true
 | _=>true
def apartS(rd s i:Nat):List Oper->Nat->Bool
 | [],_=>true
 | x::r,j=>match hasBit rd j&&!hasBit s j with
  | false=>apartS rd s i r (j+1)
  | true=>match wB x.op with
   | some a=>match FH a ((x::r).take (i-j))with
    | true=>apartS rd s i r (j+1)
    | false=>false
   | none=>false
def Pn(o:Op):Bool:=match o with
 | .store ..=>true
 | .mapUpdate ..=>true
 | _=>false
def yi:Op->TypeId
 | .load t _=>t
 | _=>0
def tq(st:St)(x:Operand):Option Addr:=match cU cx st x with
 | some (.pointer (some a))=>some a
 | _=>none
def yh(st:St)(o:Op):Option (Nat×Option (Nat×Nat)):=match o with
 | .store t x _=>match tq cx st x with
  | some a=>some (a.block,match dO cx t with
   | some n=>some (a.off,n)
   | none=>none)
  | none=>none
 | .mapUpdate _ x _ _=>match cU cx st x with
  | some (.map (some r))=>some (r,none)
  | _=>none
 | _=>none
def vR(rng:Option (Nat×Nat))(t:TypeId)(off:Nat):Bool:=match rng with
 | some (lo,n)=>match dO cx t with
  | some k=>Nat.ble 1 k&&(Nat.ble (off+k) lo || Nat.ble (lo+n) off)
  | none=>false
 | none=>false
def apartB(st:St)(bw:Nat)(rng:Option (Nat×Nat))(base rd s:Nat):List Oper->Nat->Bool
 | [],_=>true
 | x::r,j=>match hasBit rd j&&!hasBit s j with
  | false=>apartB st bw rng base rd s r (j+1)
  | true=>match wB x.op with
   | some a=>match tq cx st a with
    | some ad=>match Nat.beq ad.block bw&&!(Nat.blt bw base&&vR cx rng (yi x.op) ad.off)with
     | true=>false
     | false=>apartB st bw rng base rd s r (j+1)
    | none=>false
   | none=>false
def oE(st:St)(o:Op)(ops:List Oper)(base rd s:Nat):Bool:=match yh cx st o with
 | some (bw,rng)=>apartB cx st bw rng base rd s ops 0
 | none=>false
def yg(ops:List Oper)(o:Op)(r:List Oper)(s:Nat)(q:List Nat)(i rd:Nat):Bool:=
 !lF i q r&&(Pn o&&apartS rd s i ops 0)
def gF(call:dB)(ops:List Oper)(o:Oper)(r:List Oper)(s:Nat)(q:List Nat)(i base:Nat)(d:Dr)(st:St):Option (Option Value×Mem×Dr):=
 match waitsFor s d.hist with
 | false=>none
 | true=>
  match !Nat.beq (Nat.land d.rd s) d.rd || lF i q r with
  | true=>match yg ops o.op r s q i d.rd with
   | true=>match oE cx st o.op ops base d.rd s with
    | true=>match dh cx call { st with m:=addMade (dQ s d.took) d.made st.m } o with
     | some (v,m)=>some (v,m,{ d with took:=Nat.lor d.took s,hist:=(i,false,st.m,d.took)::d.hist })
     | none=>none
    | false=>none
   | false=>match dh cx call { st with m:={ addMade (dQ s d.took) d.made st.m with fl:=gh ops base st.m.nx s i d q r } } o with
    | some (v,m)=>some (v,{ m with fl:=st.m.fl },{ d with took:=Nat.lor d.took s,hist:=(i,true,st.m,d.took)::d.hist })
    | none=>none
  | false=>match dh cx call { st with m:=addMade (dQ s d.took) d.made st.m } o with
   | some (v,m)=>some (v,m,{ d with took:=Nat.lor d.took s,hist:=(i,false,st.m,d.took)::d.hist })
   | none=>none
def kJ(call:dB)(o:Oper)(s i:Nat)(d:Dr)(st:St):Option (Option Value×Mem×Dr):=
 match kY s st.m d.took d.hist with
 | some (m0,tk)=>match dh cx call { st with m:=addMade (dQ s tk) d.made m0 } o with
  | some (v,_)=>some (v,st.m,{ d with rd:=Nat.lor d.rd (bit i) })
  | none=>none
 | none=>none
def kj(call:dB)(o:Oper)(d:Dr)(st:St):Option (Option Value×Mem×Dr):=
 match dh cx call { st with m:={ hp:=.nil,nx:=0,fl:=0 } } o with
 | some (v,_)=>some (v,st.m,d)
 | none=>none
def fE(call:dB)(ops:List Oper)(o:Oper)(r:List Oper)(s:Nat)(q:List Nat)(i base:Nat)(d:Dr)(st:St):Option (Option Value×Mem×Dr):=
 match fD o.op with
 | 2=>match gC o.op with
  | true=>lL cx call o i base d st
  | false=>gF cx call ops o r s q i base d st
 | 1=>kJ cx call o s i d st
 | _=>kj cx call o d st
def ml(ops:List Oper)(o:Oper):List Nat:=
 (o.op.operands.toList.filterMap fun | .tmp t=>some t|_=>none)++
  (match o.guard with
   | some (j,_)=>match ops[j]? with
    | some g=>match g.dst with
     | some d=>[d]
     | none=>[]
    | none=>[]
   | none=>[])
def writesIn(l:List Nat):Option Tmp->Bool
 | some d=>l.contains d
 | none=>false
def clash(ops:List Oper)(x y:Oper):Bool:=
 writesIn (ml ops y) x.dst || writesIn (ml ops x) y.dst || (match x.dst with|some d=>(match y.dst with|some e=>Nat.beq d e|none=>false)|none=>false)
def apart(ops:List Oper)(y:Oper)(s:Nat):List Oper->Nat->Bool
 | [],_=>true
 | x::r,i=>(!clash ops x y || hasBit s i)&&apart ops y s r (i+1)
def gO(ops:List Oper):List Oper->List Nat->Nat->Bool
 | o::r,s::q,i=>apart ops o s (ops.take i) 0&&(o.after.toList.all fun e=>!Region.binds .any e || Nat.blt e.on i)&&gO ops r q (i+1)
 | [],_,_=>true
 | _::_,[],_=>false
def eJ(call:dB)(ops:List Oper)(base:Nat):List Oper->List Nat->Nat->Dr->St->Option St
 | o::r,s::q,i,d,st=>match fa ops st o with
  | some true=>match fE cx call ops o r s q i base d st with
   | some (v,m,d')=>match gu st o.dst v m with
    | some st'=>eJ call ops base r q (i+1) d' st'
    | none=>none
   | none=>none
  | some false=>match gu st o.dst eD st.m with
   | some st'=>eJ call ops base r q (i+1) d st'
   | none=>none
  | none=>none
 | [],_,_,d,st=>some { st with m:=addMade (fun k=>!hasBit d.took k) d.made st.m }
 | _::_,[],_,_,_=>none
def gI(st:St):List ResultVar->Option (List Value)
 | []=>some []
 | .tmp t::r=>match st.tm.get t,gI st r with
  | some v,some l=>some (v::l)
  | _,_=>none
 | .cell a t::r=>match st.tm.get a with
  | some (.pointer (some p))=>match loadT cx st.m t p,gI st r with
   | some v,some l=>some (v::l)
   | _,_=>none
  | _=>none
def oneOf:List Value->Value
 | [v]=>v
 | l=>.tuple l.toArray
def qY(fn:Func)(st:St):Out Value:=
 match gI cx st fn.results.toList with
 | some l=>some (oneOf l,st.m)
 | none=>none
def kL(run:Code->St->Option (Ex×St)):dB:=fun k args m=>
 match cx.fn.get k with
 | some fn=>match fn.body with
  | some c=>match Nat.ble args.length fn.ntmps with
   | true=>match run c { tm:=ec .nil args 0,sz:=fn.ntmps,m:=m }with
    | some (.normal,st)=>qY cx fn st
    | some (.ret,st)=>qY cx fn st
    | _=>none
   | false=>none
  | none=>none
 | none=>none
def dU(run:Code->St->Option (Ex×St)):dB:=fun k args m=>
 match cx.ov.get k with
 | some f=>f args m
 | none=>kL cx run k args m
def step(run:Code->St->Option (Ex×St)):Code->St->Option (Ex×St)
 | .skip,st=>some (.normal,st)
 | .label _,st=>some (.normal,st)
 | .seq a b,st=>match run a st with
  | some (.normal,st')=>run b st'
  | r=>r
 | .cond c x y,st=>match cU cx st c with
  | some (.bool true)=>run x st
  | some (.bool false)=>run y st
  | _=>none
 | .block id c,st=>match run c st with
  | some (.exit i,st')=>match Nat.beq i id with
   | true=>some (.normal,st')
   | false=>some (.exit i,st')
  | r=>r
 | .loop c,st=>match run c st with
  | some (.normal,st')=>run (.loop c) st'
  | r=>r
 | .exit id,st=>some (.exit id,st)
 | .ret,st=>some (.ret,st)
 | .region _ ops false,st=>match gD cx (dU cx run) ops.toList ops.toList st with
  | some st'=>some (.normal,st')
  | none=>none
 | .region _ ops true,st=>match gO ops.toList ops.toList (eN ops.toList []) 0 with
  | true=>match eJ cx (dU cx run) ops.toList st.m.nx ops.toList (eN ops.toList []) 0 ⟨0,[],[],0⟩ { st with m:={ st.m with nx:=st.m.nx+ops.toList.length } }with
   | some st'=>some (.normal,st')
   | none=>none
  | false=>none
 | _,_=>none
def eI(n:Nat):Code->St->Option (Ex×St):=
 Nat.rec (fun _ _=>none) (fun _ r=>step cx r) n
def Bj(n:Nat)(k:FuncId)(args:List Value)(m:Mem):Out Value:=kL cx (eI cx n) k args m
end
end Go.AX
