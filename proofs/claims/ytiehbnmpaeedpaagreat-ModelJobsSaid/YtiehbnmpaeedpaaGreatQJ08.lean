import Derived.Test.YtiehbnmpaeedpaaGreatQJ05
import Derived.Test.YtiehbnmpaeedpaaGreatQJ07
set_option linter.unusedSimpArgs false
set_option linter.unusedVariables false
set_option linter.unusedSectionVars false
namespace Go.AX
noncomputable section
structure VS where
 tm:Tr Value
 lp:Tr (Nat×Nat)
 loc:Tr (Nat×List Value)
 cnt:Nat
 pend:Nat
def fmV (s:VS) (u:Mem):Mem:=match s.pend with
 | 0=>u
 | n+1=>bump u (n+1)
variable (cx:Cx)
def CallV (k:FuncId) (args:List Value) (u:Mem) (Q:Value→Mem→Prop):Prop:=
 Wf u→∃ n r m',callOf cx (exec cx n) k args u=some (r,m')∧∃ E u',Bes E u' m'∧Wf u'∧(∀ b o,E b=some o→u.nx≤b)∧Q r u'
def putV (sz:Nat) (s:VS) (dst:Option Tmp) (v:Option Value) (K:VS→Prop):Prop:=match dst with
 | none=>K s
 | some d=>match Nat.blt d sz with
  | true=>match v with
   | some x=>K { s with tm:=s.tm.put d x,lp:=s.lp.del d }
   | none=>K { s with tm:=s.tm.del d,lp:=s.lp.del d }
  | false=>False
def putL (sz:Nat) (s:VS) (dst:Option Tmp) (id off:Nat) (K:VS→Prop):Prop:=match dst with
 | none=>K s
 | some d=>match Nat.blt d sz with
  | true=>K { s with tm:=s.tm.del d,lp:=s.lp.put d (id,off) }
  | false=>False
def lpO (s:VS):Operand→Option (Nat×Nat)
 | .tmp t=>s.lp.get t
 | _=>none
def locD (LS:List Nat):Option Tmp→Bool
 | none=>false
 | some d=>memN LS d
def cellsAt (s:VS) (id:Nat):Option (List Value):=match s.loc.get id with
 | some (_,c)=>some c
 | none=>none
def ldL (t:TypeId) (c:List Value) (off:Nat) (K:Value→Prop):Prop:=match cx.un.get t,sizeT cx t with
 | some d,some n=>match isAggD d with
  | true=>match n with
   | 0=>False
   | n+1=>match Nat.ble (off+(n+1)) c.length with
    | true=>K (.agg ((c.drop off).take (n+1)).toArray)
    | false=>False
  | false=>vVal c[off]? K
 | _,_=>False
def stL (t:TypeId) (c:List Value) (off:Nat) (v:Value) (K:List Value→Prop):Prop:=match sizeT cx t with
 | some n=>match isAggT cx t with
  | false=>match Nat.beq n 1 && Nat.blt off c.length with
   | true=>vOne v (K (splice c off [v]))
   | false=>False
  | true=>match v with
   | .agg cs=>match Nat.ble (off+cs.toList.length) c.length with
    | true=>okL cs.toList n (K (splice c off cs.toList))
    | false=>False
   | _=>False
 | none=>False
def vCallFV (u:Mem) (f:Value) (args:List Value) (K:Value→Mem→Prop):Prop:=match f with
 | .func (.func k) first captured=>CallV cx k (first.toList ++ (args ++ captured.toList)) u K
 | _=>False
def vInvokeV (u:Mem) (x:Value) (name:String) (args:List Value) (K:Value→Mem→Prop):Prop:=
 ∃ t v,x = .iface t v∧∃ k r,methodA cx t v name=some (k,r)∧CallV cx k (r :: args) u K
def vCallX (tm:Tr Value) (u:Mem) (dst:Option Tmp) (ty:TypeId) (c:Call) (K:Option Value→Mem→Prop):Prop:=
 evL cx tm c.args.toList fun args=>match c.callee with
  | .builtin b=>vBuiltin cx u b c.argTypes.toList args fun r u'=>K (some r) u'
  | .value f=>vVal (evT cx tm f) fun f=>vCallFV cx u f args fun r u'=>vRes cx dst ty (fun r u'=>K (some r) u') r u'
  | .invoke x name=>vVal (evT cx tm x) fun x=>vInvokeV cx u x name args fun r u'=>vRes cx dst ty (fun r u'=>K (some r) u') r u'
def vOpX (tm:Tr Value) (u:Mem) (dst:Option Tmp) (ty:TypeId) (op:Op) (K:Option Value→Mem→Prop):Prop:=match op with
 | .call c=>vCallX cx tm u dst ty c K
 | op=>vOp cx tm u dst ty op K
def vOpO (sz:Nat) (s:VS) (u:Mem) (dst:Option Tmp) (ty:TypeId) (op:Op) (K:VS→Mem→Prop):Prop:=match kindO op with
 | 2=>vOpX cx s.tm (fmV s u) dst ty op fun v u'=>putV sz { s with pend:=0 } dst v fun s=>K s u'
 | _=>vOpX cx s.tm (fmV s u) dst ty op fun v _=>putV sz s dst v fun s=>K s u
def newL (s:VS) (l:List Value):VS:={ s with loc:=s.loc.put s.cnt (s.cnt,l),cnt:=s.cnt+1,pend:=s.pend+1 }
def setL (s:VS) (id:Nat) (l:List Value):VS:={ s with loc:=s.loc.put id (s.cnt,l),cnt:=s.cnt+1 }
def fieldL (t:TypeId) (f:Nat) (K:Nat→Prop):Prop:=match cx.un.get t with
 | some (.struct fs)=>match fs.toList[f]? with
  | some fd=>match sizeT cx fd.type with
   | some (_+1)=>K fd.offset
   | _=>False
  | none=>False
 | _=>False
inductive LKind where
 | no
 | make (z:Option Value)
 | load (t:TypeId) (id off:Nat)
 | store (t:TypeId) (id off:Nat) (x:Operand)
 | field (t:TypeId) (id off f:Nat)
 | same (id off:Nat)
def lkind (LS:List Nat) (s:VS) (dst:Option Tmp):Op→LKind
 | .alloc e=>match locD LS dst with
  | true=>.make (zeroT cx e)
  | false=>.no
 | .box e x=>match locD LS dst with
  | true=>match evT cx s.tm x with
   | some v=>match isAggT cx e,v with
    | true,.agg c=>.make (some (.agg c))
    | true,_=>.make none
    | false,.agg _=>.make none
    | false,.tuple _=>.make none
    | false,v=>.make (some v)
   | none=>.make none
  | false=>.no
 | .load t a=>match lpO s a with
  | some (id,off)=>.load t id off
  | none=>.no
 | .store t a x=>match lpO s a with
  | some (id,off)=>.store t id off x
  | none=>.no
 | .fieldAddr t x f=>match lpO s x with
  | some (id,off)=>.field t id off f
  | none=>.no
 | .nilCheck x | .move x | .assign x=>match lpO s x with
  | some (id,off)=>.same id off
  | none=>.no
 | _=>.no
def vOp2 (LS:List Nat) (sz:Nat) (s:VS) (u:Mem) (dst:Option Tmp) (ty:TypeId) (op:Op) (K:VS→Mem→Prop):Prop:=match lkind cx LS s dst op with
 | .no=>vOpO cx sz s u dst ty op K
 | .make z=>vVal z fun z=>putL sz (newL s (cellsL z)) dst s.cnt 0 fun s=>K s u
 | .load t id off=>vList (cellsAt s id) fun c=>ldL cx t c off fun v=>putV sz s dst (some v) fun s=>K s u
 | .store t id off x=>vVal (evT cx s.tm x) fun v=>vList (cellsAt s id) fun c=>stL cx t c off v fun c=>putV sz (setL s id c) dst none fun s=>K s u
 | .field t id off f=>fieldL cx t f fun o=>putL sz s dst id (off+o) fun s=>K s u
 | .same id off=>putL sz s dst id off fun s=>K s u
def vOps2 (LS:List Nat) (sz:Nat) (ops:List Oper):List Oper→VS→Mem→(VS→Mem→Prop)→Prop
 | [],s,u,K=>K s u
 | o :: r,s,u,K=>vGuard ops s.tm o fun tm go=>match go with
  | true=>vOp2 cx LS sz { s with tm:=tm } u o.dst o.type o.op fun s u=>vOps2 LS sz ops r s u K
  | false=>putV sz { s with tm:=tm } o.dst skipV fun s=>vOps2 LS sz ops r s u K
def takeV (p:Nat→Bool) (s:VS) (u:Mem) (made:List (Nat×Nat×AObj)) (K:VS→Mem→Prop):Prop:=match made with
 | []=>K s u
 | _ :: _=>K { s with pend:=0 } (addMade p made (fmV s u))
def isMap (M:Mem) (r:Nat):Prop:=∃ es cl,M.hp.get r=some (.map es cl)
def apartP (b o:Nat) (t:TypeId) (bw:Nat) (rng:Option (Nat×Nat)) (base:Nat):Prop:=b≠bw∨(bw < base∧apartR cx rng t o=true)
def apartL (s:VS) (bw:Nat) (rng:Option (Nat×Nat)) (base rd sm:Nat):List Oper→Nat→Prop→Prop
 | [],_,K=>K
 | x :: r,j,K=>match hasBit rd j && !hasBit sm j with
  | false=>apartL s bw rng base rd sm r (j+1) K
  | true=>match loadP x.op with
   | some a=>match lpO s a with
    | some (id,_)=>match cellsAt s id with
     | some _=>apartL s bw rng base rd sm r (j+1) K
     | none=>False
    | none=>match evT cx s.tm a with
     | some (.pointer (some ad))=>apartP cx ad.block ad.off (loadTy x.op) bw rng base∧apartL s bw rng base rd sm r (j+1) K
     | _=>False
   | none=>False
def apartV (s:VS) (M:Mem) (o:Op) (ops:List Oper) (base rd sm:Nat) (K:Prop):Prop:=match o with
 | .store t x _=>match evT cx s.tm x with
  | some (.pointer (some ad))=>okW M ad.block 0 0∧apartL cx s ad.block (match sizeT cx t with
   | some n=>some (ad.off,n)
   | none=>none) base rd sm ops 0 K
  | _=>False
 | .mapUpdate _ x _ _=>match evT cx s.tm x with
  | some (.map (some r))=>isMap M r∧apartL cx s r none base rd sm ops 0 K
  | _=>False
 | _=>False
def vDrawOp2 (LS:List Nat) (sz:Nat) (ops:List Oper) (s:VS) (u:Mem) (o:Oper) (r:List Oper) (sm:Nat) (q:List Nat) (i base:Nat) (d:Dr) (K:VS→Mem→Dr→Prop):Prop:=
 match kindO o.op with
 | 2=>match makesO o.op with
  | true=>match locD LS o.dst with
   | true=>False
   | false=>vMake cx s.tm o.op (base+i) fun v ob=>putV sz s o.dst (some v) fun s=>K s u { d with made:=(i,base+i,ob) :: d.made }
  | false=>match waitsFor sm d.hist with
   | false=>False
   | true=>match !Nat.beq (Nat.land d.rd sm) d.rd || laterFree i q r with
    | true=>match apartW ops o.op r sm q i d.rd with
     | true=>match lkind cx LS s o.dst o.op with
      | .no=>apartV cx s (addMade (newIn sm d.took) d.made (fmV s u)) o.op ops base d.rd sm (vOpX cx s.tm (addMade (newIn sm d.took) d.made (fmV s u)) o.dst o.type o.op fun v m'=>putV sz { s with pend:=0 } o.dst v fun s'=>K s' m' { d with took:=Nat.lor d.took sm,hist:=(i,false,fmV s u,d.took) :: d.hist })
      | _=>False
     | false=>match lkind cx LS s o.dst o.op with
      | .no=>vOpX cx s.tm (setFl (addMade (newIn sm d.took) d.made (fmV s u)) (softFl ops base (fmV s u).nx sm i d q r)) o.dst o.type o.op fun v m'=>putV sz { s with pend:=0 } o.dst v fun s'=>K s' (setFl m' (fmV s u).fl) { d with took:=Nat.lor d.took sm,hist:=(i,true,fmV s u,d.took) :: d.hist }
      | _=>False
    | false=>match lkind cx LS s o.dst o.op with
     | .no=>vOpX cx s.tm (addMade (newIn sm d.took) d.made (fmV s u)) o.dst o.type o.op fun v m'=>putV sz { s with pend:=0 } o.dst v fun s'=>K s' m' { d with took:=Nat.lor d.took sm,hist:=(i,false,fmV s u,d.took) :: d.hist }
     | .store t id off x=>vVal (evT cx s.tm x) fun v=>vList (cellsAt s id) fun c=>stL cx t c off v fun c=>takeV (newIn sm d.took) s u d.made fun s' u'=>putV sz (setL s' id c) o.dst none fun s'=>K s' u' { d with took:=Nat.lor d.took sm,hist:=(i,false,fmV s u,d.took) :: d.hist }
     | _=>False
 | 1=>match memAt sm (fmV s u) d.took d.hist with
  | some (m0,tk)=>match lkind cx LS s o.dst o.op with
   | .no=>vOpX cx s.tm (addMade (newIn sm tk) d.made m0) o.dst o.type o.op fun v _=>putV sz s o.dst v fun s=>K s u { d with rd:=Nat.lor d.rd (bit i) }
   | .load t id off=>vList (cellsAt s id) fun c=>ldL cx t c off fun v=>putV sz s o.dst (some v) fun s=>K s u { d with rd:=Nat.lor d.rd (bit i) }
   | _=>False
  | none=>False
 | _=>match lkind cx LS s o.dst o.op with
  | .no=>vOpX cx s.tm ⟨.nil,0,0⟩ o.dst o.type o.op fun v _=>putV sz s o.dst v fun s=>K s u d
  | .field t id off f=>fieldL cx t f fun o'=>putL sz s o.dst id (off+o') fun s=>K s u d
  | .same id off=>putL sz s o.dst id off fun s=>K s u d
  | _=>False
def vDraw2 (LS:List Nat) (sz:Nat) (ops:List Oper) (base:Nat):List Oper→List Nat→Nat→Dr→VS→Mem→(VS→Mem→Prop)→Prop
 | o :: r,sm :: q,i,d,s,u,K=>vGuard ops s.tm o fun tm go=>match go with
  | true=>vDrawOp2 cx LS sz ops { s with tm:=tm } u o r sm q i base d fun s u d=>vDraw2 LS sz ops base r q (i+1) d s u K
  | false=>putV sz { s with tm:=tm } o.dst skipV fun s=>vDraw2 LS sz ops base r q (i+1) d s u K
 | [],_,_,d,s,u,K=>match d.made with
  | []=>K s u
  | _ :: _=>mBind (addMade (fun k=>!hasBit d.took k) d.made (fmV s u)) (K { s with pend:=0 })
 | _ :: _,[],_,_,_,_,_=>False
def vRegion2 (LS:List Nat) (sz:Nat) (ops:List Oper) (draw:Bool) (s:VS) (u:Mem) (K:VS→Mem→Prop):Prop:=match draw with
 | false=>vOps2 cx LS sz ops ops s u K
 | true=>match slotsOk ops ops (ancs ops []) 0 with
  | true=>vDraw2 cx LS sz ops (fmV s u).nx ops (ancs ops []) 0 ⟨0,[],[],0⟩ { s with pend:=s.pend+ops.length } u K
  | false=>False
structure JA where
 keep:List Nat
 live:Live
 lks:List (Nat×Nat×Nat)
 fix:List Nat
 cts:List (Nat×List Nat)
 cnt:Nat
inductive AD where
 | skip
 | label (l:Nat)
 | region (id:Nat) (ops:Array Oper) (draw:Bool)
 | seq (a b:AD)
 | seqJ (a:AD) (j:JA) (b:AD)
 | cond (c:Operand) (x y:AD)
 | block (id:Nat) (c:AD)
 | loop (j:JA) (c:AD)
 | exit (id:Nat)
 | ret
 | other (c:Code)
def AD.code:AD→Code
 | .skip=>.skip
 | .label l=>.label l
 | .region id ops draw=>.region id ops draw
 | .seq a b=>.seq a.code b.code
 | .seqJ a _ b=>.seq a.code b.code
 | .cond c x y=>.cond c x.code y.code
 | .block id c=>.block id c.code
 | .loop _ c=>.loop c.code
 | .exit id=>.exit id
 | .ret=>.ret
 | .other c=>c
abbrev AnD:=List (Option JA)
def anHead:AnD→Option JA×AnD
 | []=>(none,[])
 | x :: r=>(x,r)
def AD.of:Code→AnD→AD×AnD
 | .skip,n=>(.skip,n)
 | .label l,n=>(.label l,n)
 | .region id ops draw,n=>(.region id ops draw,n)
 | .seq a b,n=>match anHead n with
  | (none,n)=>match AD.of a n with
   | (x,n)=>match AD.of b n with
    | (y,n)=>(.seq x y,n)
  | (some j,n)=>match AD.of a n with
   | (x,n)=>match AD.of b n with
    | (y,n)=>(.seqJ x j y,n)
 | .cond c a b,n=>match AD.of a n with
  | (x,n)=>match AD.of b n with
   | (y,n)=>(.cond c x y,n)
 | .block id c,n=>match AD.of c n with
  | (x,n)=>(.block id x,n)
 | .loop c,n=>match anHead n with
  | (none,n)=>(.other (.loop c),n)
  | (some j,n)=>match AD.of c n with
   | (x,n)=>(.loop j x,n)
 | .exit id,n=>(.exit id,n)
 | .ret,n=>(.ret,n)
 | c,n=>(.other c,n)
def putSl (tm:Tr Value):List Nat→List Value→Tr Value
 | i :: r,v :: q=>(putSl tm r q).put i v
 | _,_=>tm
def putCts (loc:Tr (Nat×List Value)):List (Nat×List Nat)→Tr Value→Option (Tr Value)
 | [],tm=>some tm
 | (id,sl) :: r,tm=>match loc.get id with
  | some (_,c)=>match Nat.beq c.length sl.length with
   | true=>match putCts loc r tm with
    | some tm=>some (putSl tm sl c)
    | none=>none
   | false=>none
  | none=>none
def getSl (tm:Tr Value):List Nat→Option (List Value)
 | []=>some []
 | i :: r=>match tm.get i,getSl tm r with
  | some v,some l=>some (v :: l)
  | _,_=>none
def getCts (tm:Tr Value) (v:Nat):List (Nat×List Nat)→Tr (Nat×List Value)→Option (Tr (Nat×List Value))
 | [],loc=>some loc
 | (id,sl) :: r,loc=>match getSl tm sl,getCts tm v r loc with
  | some c,some loc=>some (loc.put id (v,c))
  | _,_=>none
def delSl (tm:Tr Value):List Nat→Tr Value
 | []=>tm
 | i :: r=>(delSl tm r).del i
def delCts:List (Nat×List Nat)→Tr Value→Tr Value
 | [],tm=>tm
 | (_,sl) :: r,tm=>delSl (delCts r tm) sl
def ctsSlots:List (Nat×List Nat)→List Nat
 | []=>[]
 | (_,sl) :: r=>sl ++ ctsSlots r
def lksT:List (Nat×Nat×Nat)→Tr (Nat×Nat)
 | []=>.nil
 | (t,id,off) :: r=>(lksT r).put t (id,off)
def fixT (loc:Tr (Nat×List Value)):List Nat→Tr (Nat×List Value)
 | []=>.nil
 | id :: r=>match loc.get id with
  | some x=>(fixT loc r).put id x
  | none=>fixT loc r
def nodupN:List Nat→Bool
 | []=>true
 | x :: r=>match memN r x with
  | true=>false
  | false=>nodupN r
def jaOk (j:JA) (s:VS):Bool:=
 Nat.ble s.cnt j.cnt && (j.lks.all (fun x=>Nat.ble x.2.1 j.cnt) && (j.fix.all (fun x=>Nat.ble x j.cnt) && (j.cts.all (fun x=>Nat.ble x.1 j.cnt) && (apartN j.keep (ctsSlots j.cts) && nodupN (ctsSlots j.cts)))))
def lksOk (s:VS):List (Nat×Nat×Nat)→Bool
 | []=>true
 | (t,id,off) :: r=>match s.lp.get t with
  | some (id',off')=>match Nat.beq id' id && Nat.beq off' off with
   | true=>lksOk s r
   | false=>false
  | none=>false
def fixOk (s0 s:VS):List Nat→Bool
 | []=>true
 | id :: r=>match s0.loc.get id,s.loc.get id with
  | some (v,_),some (v',_)=>match Nat.beq v v' with
   | true=>fixOk s0 s r
   | false=>false
  | _,_=>false
def headV (j:JA) (s0:VS) (tm:Tr Value):Option VS:=match getCts tm j.cnt j.cts (fixT s0.loc j.fix) with
 | some loc=>some { tm:=delCts j.cts tm,lp:=lksT j.lks,loc:=loc,cnt:=j.cnt+1,pend:=0 }
 | none=>none
def jmp1 (j:JA) (s0 s:VS) (J:Cur j.live (Mem→Prop)) (u:Mem):Prop:=match lksOk s j.lks && fixOk s0 s j.fix with
 | true=>match putCts s.loc j.cts s.tm with
  | some tm=>appT j.live J tm (fun _=>False) (fmV s u)
  | none=>False
 | false=>False
def jmp2 (j:JA) (s0 s:VS) (J:Cur j.live (Mem→Nat→Prop)) (u:Mem) (n:Nat):Prop:=match lksOk s j.lks && fixOk s0 s j.fix with
 | true=>match putCts s.loc j.cts s.tm with
  | some tm=>appT j.live J tm (fun _ _=>False) (fmV s u) n
  | none=>False
 | false=>False
def vcg2 (LS:List Nat) (sz:Nat):AD→VS→Mem→(Ex→VS→Mem→Prop)→Prop
 | .skip,s,u,Q=>Q .normal s u
 | .label _,s,u,Q=>Q .normal s u
 | .region _ ops draw,s,u,Q=>vRegion2 cx LS sz ops.toList draw s u fun s u=>Q .normal s u
 | .seq a b,s,u,Q=>vcg2 LS sz a s u fun
  | .normal,s,u=>vcg2 LS sz b s u Q
  | .exit i,s,u=>Q (.exit i) s u
  | .ret,s,u=>Q .ret s u
 | .seqJ a j b,s,u,Q=>match apartN j.keep (writesC a.code) && jaOk j s with
  | true=>joinK (mkJ j.live (keepT s.tm j.keep) fun tm u=>match headV j s tm with
    | some s=>vcg2 LS sz b s u Q
    | none=>False) fun J=>vcg2 LS sz a s u fun
   | .normal,s',u=>jmp1 j s s' J u
   | .exit i,s,u=>Q (.exit i) s u
   | .ret,s,u=>Q .ret s u
  | false=>False
 | .cond c x y,s,u,Q=>vCond cx s.tm c fun tm b=>match b with
  | true=>vcg2 LS sz x { s with tm:=tm } u Q
  | false=>vcg2 LS sz y { s with tm:=tm } u Q
 | .block id c,s,u,Q=>vcg2 LS sz c s u fun
  | .normal,s,u=>Q .normal s u
  | .exit i,s,u=>match Nat.beq i id with
   | true=>Q .normal s u
   | false=>Q (.exit i) s u
  | .ret,s,u=>Q .ret s u
 | .loop j c,s,u,Q=>match apartN j.keep (writesC c.code) && jaOk j s with
  | true=>∃ Inv:Cur j.live (Mem→Nat→Prop),(∃ n,jmp2 j s s Inv u n) ∧
   alL j.live Inv (keepT s.tm j.keep) fun I tm=>∀ u n,I u n→match headV j s tm with
    | some s1=>vcg2 LS sz c s1 u fun
     | .normal,s',u=>∃ n',n' < n∧jmp2 j s s' Inv u n'
     | .exit i,s,u=>Q (.exit i) s u
     | .ret,s,u=>Q .ret s u
    | none=>False
  | false=>False
 | .exit id,s,u,Q=>Q (.exit id) s u
 | .ret,s,u,Q=>Q .ret s u
 | .other _,_,_,_=>False
def vResults2 (s:VS) (u:Mem):List ResultVar→(List Value→Prop)→Prop
 | [],K=>K []
 | .tmp t :: r,K=>vVal (s.tm.get t) fun v=>vResults2 s u r fun vs=>K (v :: vs)
 | .cell a t :: r,K=>match s.lp.get a with
  | some (id,off)=>vList (cellsAt s id) fun c=>ldL cx t c off fun v=>vResults2 s u r fun vs=>K (v :: vs)
  | none=>match s.tm.get a with
   | some (.pointer p)=>vPtr p fun b o=>vLoad cx (fmV s u) t b o fun v=>vResults2 s u r fun vs=>K (v :: vs)
   | _=>False
def vFn2 (fn:Func) (LS:List Nat) (ann:AnD) (args:List Value) (u:Mem) (Q:Value→Mem→Prop):Prop:=match fn.body with
 | none=>False
 | some c=>match Nat.ble args.length fn.ntmps with
  | false=>False
  | true=>vcg2 cx LS fn.ntmps (AD.of c ann).1 ⟨writeL .nil args 0,.nil,.nil,0,0⟩ u fun
   | .normal,s,u=>vResults2 cx s u fn.results.toList fun l=>Q (oneOf l) (fmV s u)
   | .ret,s,u=>vResults2 cx s u fn.results.toList fun l=>Q (oneOf l) (fmV s u)
   | .exit _,_,_=>False
end
end Go.AX
namespace Go.AX
variable {cx:Cx}
def RowE (E:Nat→Option AObj) (fl b:Nat) (c:List Value):Prop:=fl≤b∧∃ tr e,E b=some (.cells tr c.length e false)∧∀ i,i < c.length→tr.get i=c[i]?
structure Rel (n0:Nat) (β : Nat→Nat) (E:Nat→Option AObj) (s:VS) (u:Mem) (tm1:Tr Value) (m:Mem):Prop where
 bes:Bes E (fmV s u) m
 wf:Wf (fmV s u)
 lo:∀ b o,E b=some o→n0≤b
 nx:n0≤(fmV s u).nx
 tm:Sub s.tm tm1
 lp:∀ t id off,s.lp.get t=some (id,off)→id < s.cnt∧tm1.get t=some (.pointer (some ⟨β id,off,none⟩))
 loc:∀ id v c,s.loc.get id=some (v,c)→id < s.cnt∧v < s.cnt∧RowE E m.fl (β id) c
 inj:∀ id id' x y,s.loc.get id=some x→s.loc.get id'=some y→β id = β id'→id=id'
structure Lat (s s':VS) (β β':Nat→Nat):Prop where
 cnt:s.cnt≤s'.cnt
 ver:∀ id v c,s'.loc.get id=some (v,c)→v < s.cnt→s.loc.get id=some (v,c)
 beta:∀ id,id < s.cnt→β' id = β id
theorem Lat.refl (s:VS) (β : Nat→Nat):Lat s s β β:=⟨Nat.le_refl _,fun _ _ _ h _=>h,fun _ _=>rfl⟩
theorem Lat.trans {s s1 s2:VS} {β β1 β2:Nat→Nat} (h:Lat s s1 β β1) (k:Lat s1 s2 β1 β2):Lat s s2 β β2:=
 ⟨Nat.le_trans h.cnt k.cnt,fun id v c e hv=>h.ver id v c (k.ver id v c e (Nat.lt_of_lt_of_le hv h.cnt)) hv,fun id hi=>(k.beta id (Nat.lt_of_lt_of_le hi h.cnt)).trans (h.beta id hi)⟩
section
variable {n0:Nat} {β : Nat→Nat} {E:Nat→Option AObj} {s:VS} {u:Mem} {tm1:Tr Value} {m:Mem} {sz:Nat}
theorem Rel.withTm (h:Rel n0 β E s u tm1 m) {tm:Tr Value} (ht:Sub tm tm1):Rel n0 β E { s with tm:=tm } u tm1 m:=
 ⟨h.bes,h.wf,h.lo,h.nx,ht,h.lp,h.loc,h.inj⟩
theorem putV_ok {dst:Option Tmp} {v:Option Value} {K:VS→Prop} (h:putV sz s dst v K) (hr:Rel n0 β E s u tm1 m) (m0:Mem) :
  ∃ tm2,putT ⟨tm1,sz,m0⟩ dst v m=some ⟨tm2,sz,m⟩∧∃ s',Rel n0 β E s' u tm2 m∧Lat s s' β β∧s'.loc=s.loc∧s'.cnt=s.cnt∧s'.pend=s.pend∧K s':=by
 unfold putV at h
 split at h
 ·exact ⟨tm1,rfl,s,hr,Lat.refl _ _,rfl,rfl,rfl,h⟩
 ·rename_i d
  split at h
  ·rename_i hd
   split at h
   ·rename_i x
    refine ⟨tm1.put d x,by simp only [putT,hd],{ s with tm:=s.tm.put d x,lp:=s.lp.del d },⟨hr.bes,hr.wf,hr.lo,hr.nx,hr.tm.put d x,fun t id off e=>?_,hr.loc,hr.inj⟩,⟨Nat.le_refl _,fun _ _ _ h _=>h,fun _ _=>rfl⟩,rfl,rfl,rfl,h⟩
    rw [Tr.get_del] at e
    split at e
    ·cases e
    ·rename_i hne
     obtain ⟨h1,h2⟩:=hr.lp t id off e
     exact ⟨h1,by rw [Tr.get_put,if_neg hne]; exact h2⟩
   ·refine ⟨tm1.del d,by simp only [putT,hd],{ s with tm:=s.tm.del d,lp:=s.lp.del d },⟨hr.bes,hr.wf,hr.lo,hr.nx,hr.tm.del d,fun t id off e=>?_,hr.loc,hr.inj⟩,⟨Nat.le_refl _,fun _ _ _ h _=>h,fun _ _=>rfl⟩,rfl,rfl,rfl,h⟩
    rw [Tr.get_del] at e
    split at e
    ·cases e
    ·rename_i hne
     obtain ⟨h1,h2⟩:=hr.lp t id off e
     exact ⟨h1,by rw [Tr.get_del,if_neg hne]; exact h2⟩
  ·exact h.elim
theorem putL_ok {dst:Option Tmp} {id off:Nat} {K:VS→Prop} (h:putL sz s dst id off K) (hid:id < s.cnt) (hr:Rel n0 β E s u tm1 m) (m0:Mem) :
  ∃ tm2,putT ⟨tm1,sz,m0⟩ dst (some (.pointer (some ⟨β id,off,none⟩))) m=some ⟨tm2,sz,m⟩∧∃ s',Rel n0 β E s' u tm2 m∧Lat s s' β β∧s'.loc=s.loc∧s'.cnt=s.cnt∧s'.pend=s.pend∧K s':=by
 unfold putL at h
 split at h
 ·exact ⟨tm1,rfl,s,hr,Lat.refl _ _,rfl,rfl,rfl,h⟩
 ·rename_i d
  split at h
  ·rename_i hd
   refine ⟨tm1.put d (.pointer (some ⟨β id,off,none⟩)),by simp only [putT,hd],{ s with tm:=s.tm.del d,lp:=s.lp.put d (id,off) },⟨hr.bes,hr.wf,hr.lo,hr.nx,fun i v e=>?_,fun t id' off' e=>?_,hr.loc,hr.inj⟩,⟨Nat.le_refl _,fun _ _ _ h _=>h,fun _ _=>rfl⟩,rfl,rfl,rfl,h⟩
   ·rw [Tr.get_del] at e
    split at e
    ·cases e
    ·rename_i hne
     rw [Tr.get_put,if_neg hne]; exact hr.tm i v e
   ·rw [Tr.get_put] at e
    rw [Tr.get_put]
    split at e
    ·rename_i he
     cases e
     exact ⟨hid,by rw [if_pos he]⟩
    ·rename_i hne
     obtain ⟨h1,h2⟩:=hr.lp t id' off' e
     exact ⟨h1,by rw [if_neg hne]; exact h2⟩
  ·exact h.elim
theorem RowE.row {fl b:Nat} {c:List Value} (h:RowE E fl b c) {M:Mem} (hb:Bes E M m):∃ e,Row m b c e false:=by
 obtain ⟨_,tr,e,h1,h2⟩:=h
 exact ⟨e,tr,by rw [hb.get,h1],h2⟩
theorem RowE.mono {E':Nat→Option AObj} {fl b:Nat} {c:List Value} (h:RowE E fl b c) (he:E' b=E b):RowE E' fl b c:=by
 obtain ⟨h0,tr,e,h1,h2⟩:=h
 exact ⟨h0,tr,e,he.trans h1,h2⟩
theorem lpO_ev (hr:Rel n0 β E s u tm1 m) {x:Operand} {id off:Nat} (h:lpO s x=some (id,off)) (M:Mem):id < s.cnt∧evalA cx ⟨tm1,sz,M⟩ x=some (.pointer (some ⟨β id,off,none⟩)):=by
 cases x with
 | tmp t=>exact hr.lp t id off h
 | _=>cases h
theorem cellsAt_ok {id:Nat} {c:List Value} (h:cellsAt s id=some c):∃ v,s.loc.get id=some (v,c):=by
 unfold cellsAt at h
 split at h
 ·rename_i v c' hv; cases h; exact ⟨v,hv⟩
 ·cases h
theorem ldL_ok {t:TypeId} {c:List Value} {off b:Nat} {e:TypeId} {x:Bool} {K:Value→Prop} (h:ldL cx t c off K) (hr:Row m b c e x):∃ v,loadT cx m t ⟨b,off,none⟩=some v∧K v:=by
 unfold ldL at h
 split at h
 ·rename_i d n hd hn
  split at h
  ·rename_i ha
   split at h
   ·exact h.elim
   ·rename_i k
    split at h
    ·rename_i hb
     refine ⟨_,?_,h⟩
     have:=hr.rowAt (o:=off) (k:=k+1) (Nat.le_of_ble_eq_true hb)
     unfold loadT
     simp only [hd,hn,ha,this]
    ·exact h.elim
  ·rename_i ha
   obtain ⟨v,h1,h2⟩:=vVal_ok h
   refine ⟨v,?_,h2⟩
   have hlt:=(List.getElem?_eq_some_iff.1 h1).1
   have:=hr.rowAt (o:=off) (k:=1) (by omega)
   have e1:(c.drop off).take 1=[v]:=by
    rw [List.drop_eq_getElem_cons hlt]
    simp only [List.take_succ_cons,List.take_zero]
    rw [(List.getElem?_eq_some_iff.1 h1).2]
   rw [e1] at this
   unfold loadT
   simp only [hd,hn,ha,this]
 ·exact h.elim
theorem stL_ok {t:TypeId} {c:List Value} {off b:Nat} {e:TypeId} {v:Value} {K:List Value→Prop} (h:stL cx t c off v K) (hr:Row m b c e false) (hf:m.fl≤b) :
  ∃ l c',storeT cx m t ⟨b,off,none⟩ v=some (wr m b off l)∧Row (wr m b off l) b c' e false∧c'.length=c.length∧K c':=by
 unfold stL at h
 split at h
 ·rename_i n hn
  split at h
  ·split at h
   ·rename_i hc
    simp only [Bool.and_eq_true] at hc
    have h1:=Nat.eq_of_beq_eq_true hc.1
    have h2:off < c.length:=Nat.le_of_ble_eq_true hc.2
    subst h1
    obtain ⟨⟨k1,k2⟩,k3⟩:=vOne_ok h
    have hle:off + [v].length≤c.length:=by simp; omega
    refine ⟨[v],_,?_,hr.wr hle,by rw [over_length hle],k3⟩
    unfold storeT
    simp only [hn,k2]
    exact storeL_of_okW (hr.okW hf hle) (by simp [k1])
   ·exact h.elim
  ·split at h
   ·rename_i cs
    split at h
    ·rename_i hb
     have hle:=Nat.le_of_ble_eq_true hb
     obtain ⟨k1,k2,k3⟩:=okL_ok h
     refine ⟨cs.toList,_,?_,hr.wr hle,by rw [over_length hle],k3⟩
     unfold storeT
     simp only [hn,cellsL,k1,Nat.beq_refl]
     exact storeL_of_okW (hr.okW hf hle) k2
    ·exact h.elim
   ·exact h.elim
 ·exact h.elim
def updE (E:Nat→Option AObj) (b:Nat) (o:AObj):Nat→Option AObj:=fun b'=>if b'=b then some o else E b'
def updB (β : Nat→Nat) (id b:Nat):Nat→Nat:=fun i=>if i=id then b else β i
theorem fm_newL (s:VS) (l:List Value) (u:Mem):fmV (newL s l) u=bump (fmV s u) 1:=by
 unfold fmV newL
 cases s.pend with
 | zero=>rfl
 | succ n=>rfl
theorem Rel.newL (hr:Rel n0 β E s u tm1 m) (l:List Value) (e:TypeId) :
  Rel n0 (updB β s.cnt m.nx) (updE E m.nx (row l e false)) (newL s l) u tm1 (newO m (row l e false))∧Lat s (newL s l) β (updB β s.cnt m.nx):=by
 have hnx:=hr.bes.nx
 have hE:∀ b o,E b=some o→b < m.nx:=fun b o h=>by have:=(hr.bes.gap b o h).2; omega
 have hlat:Lat s (AX.newL s l) β (updB β s.cnt m.nx):=by
  refine ⟨Nat.le_succ _,fun id v c e hv=>?_,fun id hi=>by unfold updB; rw [if_neg (by omega)]⟩
  change (s.loc.put s.cnt (s.cnt,l)).get id=_ at e
  rw [Tr.get_put] at e
  split at e
  ·cases e; omega
  ·exact e
 refine ⟨⟨?_,?_,?_,?_,hr.tm,?_,?_,?_⟩,hlat⟩
 ·rw [fm_newL]
  refine ⟨?_,hr.bes.fl,fun b=>?_,fun b o h=>?_⟩
  ·show m.nx+1=(fmV s u).nx+1; rw [hnx]
  ·show (m.hp.put m.nx _).get b=_
   rw [Tr.get_put]
   unfold updE
   split
   ·rfl
   ·exact hr.bes.get b
  ·unfold updE at h
   split at h
   ·rename_i hb
    subst hb
    exact ⟨hr.wf.2 _ (by rw [hnx]; exact Nat.le_refl _),by show m.nx < (fmV s u).nx+1; omega⟩
   ·obtain ⟨h1,h2⟩:=hr.bes.gap b o h
    exact ⟨h1,Nat.lt_succ_of_lt h2⟩
 ·rw [fm_newL]; exact hr.wf.bump
 ·intro b o h
  unfold updE at h
  split at h
  ·rename_i hb; subst hb; rw [hnx]; exact hr.nx
  ·exact hr.lo b o h
 ·rw [fm_newL]; exact Nat.le_succ_of_le hr.nx
 ·intro t id off e
  obtain ⟨h1,h2⟩:=hr.lp t id off e
  refine ⟨Nat.lt_succ_of_lt h1,?_⟩
  unfold updB
  rw [if_neg (by omega)]; exact h2
 ·intro id v c e
  change (s.loc.put s.cnt (s.cnt,l)).get id=_ at e
  rw [Tr.get_put] at e
  split at e
  ·rename_i hid
   cases e
   subst hid
   refine ⟨Nat.lt_succ_self _,Nat.lt_succ_self _,?_,?_⟩
   ·unfold updB; rw [if_pos rfl]
    show m.fl≤m.nx
    rw [hnx,hr.bes.fl]; exact hr.wf.1
   ·unfold updB updE; rw [if_pos rfl,if_pos rfl]
    refine ⟨_,e,rfl,fun i hi=>?_⟩
    rw [writeL_get',if_pos (by omega)]; simp
  ·obtain ⟨h1,h2,h3⟩:=hr.loc id v c e
   refine ⟨Nat.lt_succ_of_lt h1,Nat.lt_succ_of_lt h2,?_⟩
   have hb:updB β s.cnt m.nx id = β id:=by unfold updB; rw [if_neg (by omega)]
   rw [hb]
   refine h3.mono ?_
   unfold updE
   obtain ⟨_,tr,e',h4,_⟩:=h3
   rw [if_neg (by have:=hE _ _ h4; omega)]
 ·intro id id' x y e e' hb
  change (s.loc.put s.cnt (s.cnt,l)).get id=_ at e
  change (s.loc.put s.cnt (s.cnt,l)).get id'=_ at e'
  rw [Tr.get_put] at e e'
  have key:∀ i v c,i≠s.cnt→s.loc.get i=some (v,c)→updB β s.cnt m.nx i = β i∧β i < m.nx:=fun i v c hi h=>by
   obtain ⟨_,_,_,tr,e',h4,_⟩:=hr.loc i v c h
   exact ⟨by unfold updB; rw [if_neg hi],hE _ _ h4⟩
  have self:updB β s.cnt m.nx s.cnt=m.nx:=by unfold updB; rw [if_pos rfl]
  split at e
  ·rename_i h1
   split at e'
   ·rename_i h2; rw [h1,h2]
   ·rename_i h2
    obtain ⟨k1,k2⟩:=key id' y.1 y.2 h2 e'
    rw [h1,self,k1] at hb; omega
  ·rename_i h1
   obtain ⟨k1,k2⟩:=key id x.1 x.2 h1 e
   split at e'
   ·rename_i h2; rw [h2,self,k1] at hb; omega
   ·rename_i h2
    obtain ⟨k3,k4⟩:=key id' y.1 y.2 h2 e'
    rw [k1,k3] at hb
    exact hr.inj _ _ _ _ e e' hb
theorem fm_setL (s:VS) (id:Nat) (l:List Value) (u:Mem):fmV (setL s id l) u=fmV s u:=rfl
theorem Bes.upd {M:Mem} (h:Bes E M m) {b:Nat} {o0:AObj} (hb:E b=some o0) {m':Mem} {o:AObj} (h1:m'.nx=m.nx) (h2:m'.fl=m.fl) (h3:m'.hp.get b=some o) (h4:∀ b',b'≠b→m'.hp.get b'=m.hp.get b'):Bes (updE E b o) M m':=by
 refine ⟨h1.trans h.nx,h2.trans h.fl,fun b'=>?_,fun b' o' hb'=>?_⟩
 ·unfold updE
  by_cases e:b'=b
  ·subst e; rw [if_pos rfl,h3]
  ·rw [if_neg e,h4 b' e]; exact h.get b'
 ·unfold updE at hb'
  split at hb'
  ·rename_i e; subst e; exact h.gap _ _ hb
  ·exact h.gap _ _ hb'
theorem Rel.setL (hr:Rel n0 β E s u tm1 m) {id v0:Nat} {c c' l:List Value} {off:Nat} {e:TypeId} (hid:s.loc.get id=some (v0,c)) (hrow:Row (wr m (β id) off l) (β id) c' e false) (hlen:c'.length=c.length) :
  ∃ E',Rel n0 β E' (setL s id c') u tm1 (wr m (β id) off l)∧Lat s (AX.setL s id c') β β∧∀ b,b≠β id→E' b=E b:=by
 obtain ⟨h1,h2,h3⟩:=hr.loc id v0 c hid
 obtain ⟨hfl,tr0,e0,hE0,_⟩:=h3
 obtain ⟨tr,ht1,ht2⟩:=hrow
 have hoth:∀ b,b≠β id→updE E (β id) (.cells tr c'.length e false) b=E b:=fun b hb=>by unfold updE; rw [if_neg hb]
 refine ⟨updE E (β id) (.cells tr c'.length e false),⟨?_,hr.wf,?_,hr.nx,hr.tm,?_,?_,?_⟩,⟨Nat.le_succ _,?_,fun _ _=>rfl⟩,hoth⟩
 ·rw [fm_setL]
  exact hr.bes.upd hE0 (wr_nx ..) (wr_fl ..) ht1 (fun b' hb'=>wr_get hb')
 ·intro b o h
  unfold updE at h
  split at h
  ·rename_i hb; subst hb; exact hr.lo _ _ hE0
  ·exact hr.lo b o h
 ·intro t id' off' e'
  obtain ⟨k1,k2⟩:=hr.lp t id' off' e'
  exact ⟨Nat.lt_succ_of_lt k1,k2⟩
 ·intro id' v c1 e'
  change (s.loc.put id (s.cnt,c')).get id'=_ at e'
  rw [Tr.get_put] at e'
  split at e'
  ·rename_i hi
   cases e'
   subst hi
   refine ⟨Nat.lt_succ_of_lt h1,Nat.lt_succ_self _,by rw [wr_fl]; exact hfl,tr,e,?_,ht2⟩
   unfold updE; rw [if_pos rfl]
  ·rename_i hi
   obtain ⟨k1,k2,k3⟩:=hr.loc id' v c1 e'
   refine ⟨Nat.lt_succ_of_lt k1,Nat.lt_succ_of_lt k2,?_⟩
   rw [wr_fl]
   exact k3.mono (hoth _ (fun hb=>hi (hr.inj _ _ _ _ e' hid hb)))
 ·intro id' id'' x y e' e'' hb
  change (s.loc.put id (s.cnt,c')).get id'=_ at e'
  change (s.loc.put id (s.cnt,c')).get id''=_ at e''
  rw [Tr.get_put] at e' e''
  split at e'
  ·rename_i q1
   split at e''
   ·rename_i q2; rw [q1,q2]
   ·rw [q1] at hb ⊢; exact hr.inj _ _ _ _ hid e'' hb
  ·split at e''
   ·rename_i q2; rw [q2] at hb ⊢; exact hr.inj _ _ _ _ e' hid hb
   ·exact hr.inj _ _ _ _ e' e'' hb
 ·intro id' v c1 e' hv
  change (s.loc.put id (s.cnt,c')).get id'=_ at e'
  rw [Tr.get_put] at e'
  split at e'
  ·cases e'; omega
  ·exact e'
theorem Bes.comp {E0:Nat→Option AObj} {M' m' m1:Mem} (h0:Bes E0 M' m') (h:Bes E m' m1):Bes (fun b=>match E b with | some o=>some o | none=>E0 b) M' m1:=by
 refine ⟨h.nx.trans h0.nx,h.fl.trans h0.fl,fun b=>?_,fun b o hb=>?_⟩
 ·rw [h.get b,h0.get b]
  cases E b <;> rfl
 ·cases hE:E b with
  | some o'=>
   obtain ⟨k1,k2⟩:=h.gap b o' hE
   rw [h0.get b] at k1
   refine ⟨?_,by rw [← h0.nx]; exact k2⟩
   cases hE0:E0 b with
   | none=>rw [hE0] at k1; exact k1
   | some o2=>rw [hE0] at k1; cases k1
  | none=>
   rw [hE] at hb
   exact h0.gap b o hb
theorem vOpX_ok (hof:OvFr cx) (hon:OvNi cx) {tm:Tr Value} {M:Mem} {o:Oper} {K:Option Value→Mem→Prop} (h:vOpX cx tm M o.dst o.type o.op K) (hb:Bes E M m) (hw:Wf M) (hs:Sub tm tm1) (sz:Nat) :
  ∃ n v m1,opA cx (callOf cx (exec cx n)) ⟨tm1,sz,m⟩ o=some (v,m1)∧∃ E' M',Bes E' M' m1∧Nice M M'∧(∀ b o,E b=some o→E' b=some o)∧(∀ b o,E' b=some o→E b=some o∨M.nx≤b)∧K v M':=by
 have plain:∀ {n:Nat} {v:Option Value} {M':Mem},opA cx (callOf cx (exec cx n)) ⟨tm,sz,M⟩ o=some (v,M')→K v M' →
   ∃ n v m1,opA cx (callOf cx (exec cx n)) ⟨tm1,sz,m⟩ o=some (v,m1)∧∃ E' M',Bes E' M' m1∧Nice M M'∧(∀ b o,E b=some o→E' b=some o)∧(∀ b o,E' b=some o→E b=some o∨M.nx≤b)∧K v M':=by
  intro n v M' h1 h2
  have k0:=opA_nice (exec_call_nice hon n) hw h1
  obtain ⟨m1,k1,k2⟩:=opA_bes (exec_call_bes hof n) hb (opA_sub hs h1)
  exact ⟨n,v,m1,k1,E,M',k2,k0,fun _ _ h=>h,fun _ _ h=>.inl h,h2⟩
 have call:∀ {k:FuncId} {args:List Value} {K':Value→Mem→Prop} {f:Caller→Option (Option Value×Mem)},CallV cx k args M K'→(∀ r M',K' r M'→K (some r) M') →
   (∀ n r m',callOf cx (exec cx n) k args m=some (r,m')→opA cx (callOf cx (exec cx n)) ⟨tm1,sz,m⟩ o=some (some r,m')) →
   ∃ n v m1,opA cx (callOf cx (exec cx n)) ⟨tm1,sz,m⟩ o=some (v,m1)∧∃ E' M',Bes E' M' m1∧Nice M M'∧(∀ b o,E b=some o→E' b=some o)∧(∀ b o,E' b=some o→E b=some o∨M.nx≤b)∧K v M':=by
  intro k args K' f h1 h2 h3
  obtain ⟨n,r,m',c1,E0,u',c2,c3,c4,c5⟩:=h1 hw
  have k0:=exec_call_nice hon n _ _ _ _ _ c1 hw
  obtain ⟨m1,k1,k2⟩:=exec_call_bes hof n _ _ _ _ _ c1 _ _ hb
  refine ⟨n,some r,m1,h3 n r m1 k1,_,u',c2.comp k2,⟨c3,?_,?_⟩,fun b o hE=>by simp only [hE],fun b o hE=>?_,h2 _ _ c5⟩
  ·rw [← c2.fl]; exact k0.fl
  ·rw [← c2.nx]; exact k0.nx
  ·cases hq:E b with
   | some o'=>rw [hq] at hE; exact .inl hE
   | none=>rw [hq] at hE; exact .inr (c4 b o hE)
 cases hop:o.op with
 | call c=>
  rw [hop] at h
  have h':vCallX cx tm M o.dst o.type c K:=h
  unfold vCallX at h'
  obtain ⟨args,h1,h2⟩:=evL_ok (sz:=sz) (m:=M) h'
  have h1':evalL cx ⟨tm1,sz,m⟩ c.args.toList=some args:=by rw [evalL_at tm1 sz m M]; exact evalL_sub hs h1
  split at h2
  ·rename_i b hbc
   obtain ⟨v,m',h3,h4⟩:=vBuiltin_ok h2
   refine plain (n:=0) (v:=some v) (M':=m') ?_ h4
   unfold opA
   simp only [hop,callA,h1,hbc,h3]
  ·rename_i f hf
   obtain ⟨fv,h3,h4⟩:=vVal_ok h2
   rw [evT_eq tm sz m] at h3
   have h3':=evalA_sub hs h3
   unfold vCallFV at h4
   split at h4
   ·refine call (f:=fun _=>none) h4 (fun r M' q=>vRes_ok (K:=fun r M'=>K (some r) M') q) (fun n r m' q=>?_)
    unfold opA
    simp only [hop,callA,h1',hf,h3',List.append_assoc,q]
   ·exact h4.elim
  ·rename_i x name hx
   obtain ⟨xv,h3,h4⟩:=vVal_ok h2
   rw [evT_eq tm sz m] at h3
   have h3':=evalA_sub hs h3
   obtain ⟨t,v,rfl,k,r,h5,h6⟩:=h4
   refine call (f:=fun _=>none) h6 (fun r M' q=>vRes_ok (K:=fun r M'=>K (some r) M') q) (fun n r m' q=>?_)
   unfold opA
   simp only [hop,callA,h1',hx,h3',h5,q]
 | _=>
  have h':vOp cx tm M o.dst o.type o.op K:=by rw [hop] at h ⊢; exact h
  obtain ⟨n,v,M',h1,h2⟩:=vOp_ok (sz:=sz) h'
  exact plain h1 h2
theorem Rel.step (hr:Rel n0 β E s u tm1 m) {E':Nat→Option AObj} {M' m1:Mem} (h1:Bes E' M' m1) (h2:Nice (fmV s u) M') (h3:∀ b o,E b=some o→E' b=some o) (h4:∀ b o,E' b=some o→E b=some o∨(fmV s u).nx≤b) :
  Rel n0 β E' { s with pend:=0 } M' tm1 m1:=by
 refine ⟨h1,h2.wf,fun b o hb=>?_,Nat.le_trans hr.nx h2.nx,hr.tm,hr.lp,fun id v c e=>?_,hr.inj⟩
 ·rcases h4 b o hb with h | h
  ·exact hr.lo b o h
  ·exact Nat.le_trans hr.nx h
 ·obtain ⟨k1,k2,k3,tr,e',k4,k5⟩:=hr.loc id v c e
  refine ⟨k1,k2,?_,tr,e',h3 _ _ k4,k5⟩
  rw [h1.fl,h2.fl,← hr.bes.fl]; exact k3
theorem lkind_make {LS:List Nat} {dst:Option Tmp} {op:Op} {z:Value} (h:lkind cx LS s dst op = .make (some z)):(∃ e,op = .alloc e∧zeroT cx e=some z)∨∃ e x,op = .box e x∧evT cx s.tm x=some z:=by
 unfold lkind at h
 split at h
 ·split at h
  ·injection h with h; exact .inl ⟨_,rfl,h⟩
  ·cases h
 ·rename_i e x
  split at h
  ·split at h
   ·rename_i v hv
    right
    refine ⟨e,x,rfl,?_⟩
    split at h
    ·injection h with h; rw [hv,← h]
    ·injection h with h; cases h
    ·injection h with h; cases h
    ·injection h with h; cases h
    ·injection h with h; rw [hv,← h]
   ·injection h with h; cases h
  ·cases h
 all_goals first
  | (split at h <;> cases h)
  | cases h
theorem lkind_load {LS:List Nat} {dst:Option Tmp} {op:Op} {t id off:Nat} (h:lkind cx LS s dst op = .load t id off):∃ a,op = .load t a∧lpO s a=some (id,off):=by
 unfold lkind at h
 split at h
 ·split at h <;> cases h
 ·split at h
  ·split at h
   ·split at h <;> cases h
   ·cases h
  ·cases h
 ·split at h
  ·rename_i hl; cases h; exact ⟨_,rfl,hl⟩
  ·cases h
 all_goals first
  | (split at h <;> cases h)
  | cases h
theorem lkind_store {LS:List Nat} {dst:Option Tmp} {op:Op} {t id off:Nat} {x:Operand} (h:lkind cx LS s dst op = .store t id off x):∃ a,op = .store t a x∧lpO s a=some (id,off):=by
 unfold lkind at h
 split at h
 ·split at h <;> cases h
 ·split at h
  ·split at h
   ·split at h <;> cases h
   ·cases h
  ·cases h
 ·split at h <;> cases h
 ·split at h
  ·rename_i hl; cases h; exact ⟨_,rfl,hl⟩
  ·cases h
 all_goals first
  | (split at h <;> cases h)
  | cases h
theorem lkind_field {LS:List Nat} {dst:Option Tmp} {op:Op} {t id off f:Nat} (h:lkind cx LS s dst op = .field t id off f):∃ a,op = .fieldAddr t a f∧lpO s a=some (id,off):=by
 unfold lkind at h
 split at h
 ·split at h <;> cases h
 ·split at h
  ·split at h
   ·split at h <;> cases h
   ·cases h
  ·cases h
 ·split at h <;> cases h
 ·split at h <;> cases h
 ·split at h
  ·rename_i hl; cases h; exact ⟨_,rfl,hl⟩
  ·cases h
 all_goals first
  | (split at h <;> cases h)
  | cases h
theorem lkind_same {LS:List Nat} {dst:Option Tmp} {op:Op} {id off:Nat} (h:lkind cx LS s dst op = .same id off):∃ a,(op = .nilCheck a∨op = .move a∨op = .assign a)∧lpO s a=some (id,off):=by
 unfold lkind at h
 split at h
 ·split at h <;> cases h
 ·split at h
  ·split at h
   ·split at h <;> cases h
   ·cases h
  ·cases h
 ·split at h <;> cases h
 ·split at h <;> cases h
 ·split at h <;> cases h
 ·split at h
  ·rename_i hl; cases h; exact ⟨_,.inl rfl,hl⟩
  ·cases h
 ·split at h
  ·rename_i hl; cases h; exact ⟨_,.inr (.inl rfl),hl⟩
  ·cases h
 ·split at h
  ·rename_i hl; cases h; exact ⟨_,.inr (.inr rfl),hl⟩
  ·cases h
 ·cases h
theorem fieldL_ok {t f:Nat} {K:Nat→Prop} (h:fieldL cx t f K) (b off:Nat):∃ o,fieldAddrA cx t (.pointer (some ⟨b,off,none⟩)) f=some (.pointer (some ⟨b,off+o,none⟩))∧K o:=by
 unfold fieldL at h
 split at h
 ·rename_i fs hd
  split at h
  ·rename_i fd hf
   split at h
   ·rename_i k hs
    refine ⟨fd.offset,?_,h⟩
    unfold fieldAddrA
    simp only [hd,hf,hs,addA]
   ·exact h.elim
  ·exact h.elim
 ·exact h.elim
theorem vOp2_ok (hof:OvFr cx) (hon:OvNi cx) {LS:List Nat} {o:Oper} {K:VS→Mem→Prop} (h:vOp2 cx LS sz s u o.dst o.type o.op K) (hr:Rel n0 β E s u tm1 m) :
  ∃ n v m1 tm2,opA cx (callOf cx (exec cx n)) ⟨tm1,sz,m⟩ o=some (v,m1)∧putT ⟨tm1,sz,m⟩ o.dst v m1=some ⟨tm2,sz,m1⟩∧∃ β' E' s' u',Rel n0 β' E' s' u' tm2 m1∧Lat s s' β β'∧K s' u':=by
 unfold vOp2 at h
 split at h
 ·
  unfold vOpO at h
  split at h
  ·obtain ⟨n,v,m1,k1,E',M',k2,k3,k4,k5,k6⟩:=vOpX_ok hof hon h hr.bes hr.wf hr.tm sz
   obtain ⟨tm2,p1,s',p2,p3,_,_,_,p4⟩:=putV_ok k6 (hr.step k2 k3 k4 k5) m
   exact ⟨n,v,m1,tm2,k1,p1,β,E',s',M',p2,⟨p3.cnt,p3.ver,p3.beta⟩,p4⟩
  ·rename_i hk
   obtain ⟨n,v,m1,k1,E',M',k2,k3,k4,k5,k6⟩:=vOpX_ok hof hon h hr.bes hr.wf hr.tm sz
   have e1:=opA_same (fun e=>hk e) k1
   subst e1
   obtain ⟨tm2,p1,s',p2,p3,_,_,_,p4⟩:=putV_ok k6 hr m1
   exact ⟨n,v,m1,tm2,k1,p1,β,E,s',u,p2,p3,p4⟩
 ·
  rename_i z hk
  obtain ⟨z,rfl,h1⟩:=vVal_ok h
  have made:∀ (e:TypeId),opA cx (callOf cx (exec cx 0)) ⟨tm1,sz,m⟩ o=some (some (.pointer (some ⟨m.nx,0,none⟩)),newO m (row (cellsL z) e false)) →
    ∃ n v m1 tm2,opA cx (callOf cx (exec cx n)) ⟨tm1,sz,m⟩ o=some (v,m1)∧putT ⟨tm1,sz,m⟩ o.dst v m1=some ⟨tm2,sz,m1⟩∧∃ β' E' s' u',Rel n0 β' E' s' u' tm2 m1∧Lat s s' β β'∧K s' u':=by
   intro e ho
   obtain ⟨q1,q2⟩:=hr.newL (cellsL z) e
   obtain ⟨tm2,p1,s',p2,p3,_,_,_,p4⟩:=putL_ok h1 (Nat.lt_succ_self _) q1 m
   have e1:updB β s.cnt m.nx s.cnt=m.nx:=by unfold updB; rw [if_pos rfl]
   rw [e1] at p1
   exact ⟨0,_,_,tm2,ho,p1,_,_,s',u,p2,q2.trans p3,p4⟩
  rcases lkind_make hk with ⟨e,ho,hz⟩ | ⟨e,x,ho,hx⟩
  ·refine made e ?_
   unfold opA
   simp only [ho,hz,newCells_row]
  ·refine made e ?_
   rw [evT_eq s.tm sz m] at hx
   have hx':=evalA_sub hr.tm hx
   unfold opA
   simp only [ho,hx',newCells_row]
 ·
  rename_i t id off hk
  obtain ⟨a,ho,hl⟩:=lkind_load hk
  obtain ⟨c,h1,h2⟩:=vList_ok h
  obtain ⟨v0,hc⟩:=cellsAt_ok h1
  obtain ⟨_,_,hrow⟩:=hr.loc id v0 c hc
  obtain ⟨e,hrow⟩:=hrow.row hr.bes
  obtain ⟨v,h3,h4⟩:=ldL_ok h2 hrow
  obtain ⟨_,hev⟩:=lpO_ev (cx:=cx) (sz:=sz) hr hl m
  obtain ⟨tm2,p1,s',p2,p3,_,_,_,p4⟩:=putV_ok h4 hr m
  exact ⟨0,_,m,tm2,by unfold opA; simp only [ho,hev,h3],p1,β,E,s',u,p2,p3,p4⟩
 ·
  rename_i t id off x hk
  obtain ⟨a,ho,hl⟩:=lkind_store hk
  obtain ⟨v,h0,h⟩:=vVal_ok h
  obtain ⟨c,h1,h2⟩:=vList_ok h
  obtain ⟨v0,hc⟩:=cellsAt_ok h1
  obtain ⟨_,_,hrowE⟩:=hr.loc id v0 c hc
  obtain ⟨e,hrow⟩:=hrowE.row hr.bes
  obtain ⟨l,c',h3,h4,h5,h6⟩:=stL_ok h2 hrow hrowE.1
  obtain ⟨_,hev⟩:=lpO_ev (cx:=cx) (sz:=sz) hr hl m
  rw [evT_eq s.tm sz m] at h0
  have hx:=evalA_sub hr.tm h0
  obtain ⟨E',q1,q2,_⟩:=hr.setL hc h4 h5
  obtain ⟨tm2,p1,s',p2,p3,_,_,_,p4⟩:=putV_ok h6 q1 m
  exact ⟨0,_,_,tm2,by unfold opA; simp only [ho,hev,hx,h3],p1,β,E',s',u,p2,q2.trans p3,p4⟩
 ·
  rename_i t id off f hk
  obtain ⟨a,ho,hl⟩:=lkind_field hk
  obtain ⟨hid,hev⟩:=lpO_ev (cx:=cx) (sz:=sz) hr hl m
  obtain ⟨o',h1,h2⟩:=fieldL_ok h (β id) off
  obtain ⟨tm2,p1,s',p2,p3,_,_,_,p4⟩:=putL_ok h2 hid hr m
  exact ⟨0,_,m,tm2,by unfold opA; simp only [ho,hev,h1],p1,β,E,s',u,p2,p3,p4⟩
 ·rename_i id off hk
  obtain ⟨a,ho,hl⟩:=lkind_same hk
  obtain ⟨hid,hev⟩:=lpO_ev (cx:=cx) (sz:=sz) hr hl m
  obtain ⟨tm2,p1,s',p2,p3,_,_,_,p4⟩:=putL_ok h hid hr m
  refine ⟨0,_,m,tm2,?_,p1,β,E,s',u,p2,p3,p4⟩
  unfold opA
  rcases ho with ho | ho | ho <;> simp only [ho,hev]
end
theorem vOps2_ok (hof:OvFr cx) (hon:OvNi cx) {LS:List Nat} {sz n0:Nat} {ops:List Oper}:∀ {rest:List Oper} {s:VS} {u:Mem} {K:VS→Mem→Prop},vOps2 cx LS sz ops rest s u K→∀ {β : Nat→Nat} {E:Nat→Option AObj} {tm1:Tr Value} {m:Mem},Rel n0 β E s u tm1 m →
  ∃ n tm2 m2,runOps cx (callOf cx (exec cx n)) ops rest ⟨tm1,sz,m⟩=some ⟨tm2,sz,m2⟩∧∃ β' E' s' u',Rel n0 β' E' s' u' tm2 m2∧Lat s s' β β'∧K s' u'
 | [],s,u,K,h,β,E,tm1,m,hr=>⟨0,tm1,m,rfl,β,E,s,u,hr,Lat.refl _ _,h⟩
 | o :: r,s,u,K,h,β,E,tm1,m,hr=>by
  unfold vOps2 at h
  obtain ⟨b,tm2,h1,h2,h3⟩:=vGuard_ok h hr.tm sz m
  cases b with
  | true=>
   obtain ⟨n1,v,m1,tm3,k1,k2,β1,E1,s1,u1,k3,k4,k5⟩:=vOp2_ok hof hon h3 (hr.withTm h2)
   obtain ⟨n2,tm4,m4,q1,β2,E2,s2,u2,q2,q3,q4⟩:=vOps2_ok hof hon k5 k3
   refine ⟨max n1 n2,tm4,m4,?_,β2,E2,s2,u2,q2,(⟨k4.cnt,k4.ver,k4.beta⟩:Lat s s1 β β1).trans q3,q4⟩
   unfold runOps
   simp only [h1,opA_mono (exec_call_mono (Nat.le_max_left n1 n2)) k1,k2]
   exact runOps_mono (exec_call_mono (Nat.le_max_right n1 n2)) q1
  | false=>
   obtain ⟨tm3,k2,s1,k3,k4,_,_,_,k5⟩:=putV_ok h3 (hr.withTm h2) m
   obtain ⟨n2,tm4,m4,q1,β2,E2,s2,u2,q2,q3,q4⟩:=vOps2_ok hof hon k5 k3
   refine ⟨n2,tm4,m4,?_,β2,E2,s2,u2,q2,(⟨k4.cnt,k4.ver,k4.beta⟩:Lat s s1 β β).trans q3,q4⟩
   unfold runOps
   simp only [h1,k2]
   exact q1
end Go.AX
