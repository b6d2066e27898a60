import Derived.Test.YtiehbnmpaeedpaaGreatQK01
import Derived.Test.YtiehbnmpaeedpaaGreatQK04
set_option linter.unusedSimpArgs false
set_option linter.unusedVariables false
set_option linter.unusedSectionVars false
namespace Go.AX.pm
open Go.AX
noncomputable section
abbrev rm:Int:=4611686018427387904
def gZ(t:Int):Bool:=leI 0 t&&leI t rm
def qb(t:Int):Int×Bool:=bif gZ t then (t,true) else (0,false)
def qp(n low high:Int):Bool:=leI low n&&leI n high
def nF(a b:Int):Int×Bool:=bif gZ a&&gZ b then qb (aJ .i64 a b) else (0,false)
def kT(x q p:Int):Int×Bool:=bif qp x 0 2147483648&&(qp p 1 2147483648&&qp q 0 p) then (rJ .i64 (jT .i64 x q) p,true) else (0,false)
def nY(t d p:Int):Int×Bool:=bif gZ t&&(gZ d&&qp p 1 2147483648) then (bif dJ t d then (d,true) else qb (aJ .i64 d (jT .i64 (aJ .i64 (rJ .i64 (dY .i64 t d) p) 1) p))) else (0,false)
structure Srv where
 q:Int
 p:Int
 bud:Int
 due:Int
 mode:Int
def pair(q p:Int):Bool:=leI 1 p&&(leI p 2147483648&&(leI 1 q&&leI q p))
def gk(q p:Int):Srv×Int:=bif pair q p then (⟨q,p,0,0,0⟩,0) else (⟨0,0,0,0,0⟩,1)
def jB(s:Srv):Bool:=pair s.q s.p&&(leI 0 s.bud&&(leI s.bud s.q&&(gZ s.due&&(leI 0 s.mode&&(leI s.mode 2&&(eX s.mode 1 || dJ 0 s.bud))))))
def gC(s:Srv):Srv:=bif dO s.bud 0 then { s with mode:=2 } else { s with mode:=1 }
def gn(s:Srv)(now:Int):Srv×Int:=
 bif !jB s || !gZ now then (s,1) else
 bif eX s.mode 0 then (s,5) else
 bif leI s.due now then
  (bif (nF now s.p).2 then (gC { s with bud:=s.q,due:=(nF now s.p).1 },0) else (s,6))
 else
  (bif dJ (jT .i64 (jL (dY .i64 s.due now) s.p) s.q) (jT .i64 s.bud s.p) then (gC { s with bud:=(kT (jL (dY .i64 s.due now) s.p) s.q s.p).1 },0) else (gC s,0))
def fm(s:Srv)(n:Int):Srv×Int:=
 bif !jB s || (dJ n 1 || dJ s.bud n) then (s,1) else
 bif eX s.mode 1 then (s,4) else (gC { s with bud:=dY .i64 s.bud n },0)
def ge(s:Srv):Srv×Int:=bif !jB s then (s,1) else bif dO s.mode 0 then (s,4) else ({ s with mode:=0 },0)
def fO(s:Srv):Srv×Int:=bif !jB s then (s,1) else bif eX s.mode 1 then (s,4) else ({ s with mode:=2 },0)
def eK(s:Srv)(now:Int):Srv×Bool:=
 bif !jB s || (dO s.mode 0 || dJ now s.due) then (s,false) else
 bif (nY now s.due s.p).2 then (gC { s with bud:=s.q,due:=(nY now s.due s.p).1 },true) else (s,false)
def lN(m most:Int):Int×Int×Bool:=bif dJ m 1 || (dJ 64 m || (dJ most 1 || dJ 1048576 most)) then (0,0,false) else (jT .i64 (dY .i64 m 1) most,jT .i64 m most,true)
def jW(m most bud left:Int):Bool:=(lN m most).2.2&&(leI (lN m most).2.1 bud&&leI (lN m most).2.1 left)
abbrev Step:=Int×Int
def uL(s:Step):Bool:=dJ s.1 0 || (dJ 8 s.1 || (dJ s.2 1 || dJ 2147483648 s.2))
def pGood(p:List Step):Bool:=leI 1 (aQ p.length)&&(leI (aQ p.length) 8&&!p.any uL)
def ma(p:List Step)(n:Nat):Bool:=pGood p&&!p.any fun s=>dJ (aQ n) s.1
structure Job where
 num:Int
 prog:List Step
 at_:Int
 done:Int
def Job.cur(j:Job):Step:=j.prog.getD j.at_.toNat (0,0)
def nv(j:Job):Bool:=
 !dJ j.num 1&&(pGood j.prog&&(!dJ j.at_ 0&&(!dJ (aQ j.prog.length) j.at_&&(!dJ j.done 0&&(bif dO j.at_ (aQ j.prog.length) then dO j.done 0 else leI j.done j.cur.2)))))
def oX(num:Int)(p:List Step):Job×Bool:=bif !pGood p || dJ num 1 then (⟨0,[],0,0⟩,false) else (⟨num,p,0,0⟩,true)
def eD(j:Job):Step×Bool:=bif !nv j || dO j.at_ (aQ j.prog.length) then ((0,0),false) else (j.cur,true)
def gr(j:Job)(n:Int):Job×Int:=bif !(eD j).2 then (j,0) else ({ j with done:=aJ .i64 j.done (jL (Bm n 0) (dY .i64 (eD j).1.2 j.done)) },jL (Bm n 0) (dY .i64 (eD j).1.2 j.done))
def fa(j:Job):Job×Bool:=bif !(eD j).2 || eX j.done (eD j).1.2 then (j,false) else ({ j with at_:=aJ .i64 j.at_ 1,done:=0 },true)
structure Serv where
 id:Int
 s:Srv
 jobs:List Job
 sec:Int
 held:Int
 num:Int
 ran:Int
structure Lock where
 most:Int
 holder:Int
 queue:List Int
 dead:Bool
structure Back where
 id:Int
 ran:Int
structure St where
 m:Int
 now:Int
 servs:List Serv
 sems:List Lock
 backs:List Back
structure Ev where
 at_:Int
 kind:Int
 who:Int
 n:Int
def qL(n:Int):Bool:=dJ n 1 || dJ 1048576 n
def new(m:Int)(most:List Int):St×Int:=
 bif dJ m 1 || (dJ 64 m || (dJ 8 (aQ most.length) || most.any qL)) then (⟨0,0,[],[],[]⟩,1) else (⟨m,0,[],most.map fun n=>⟨n,0,[],false⟩,[]⟩,0)
def at_(l:List Serv)(id:Int):Nat:=(l.takeWhile fun v=>dJ v.id id).length
def has(l:List Serv)(id:Int):Bool:=match l[at_ l id]? with
 | some v=>dO v.id id
 | none=>false
def back(l:List Back)(id:Int):Option Nat:=l.findIdx? fun b=>dO b.id id
def Serv.idle(v:Serv):Bool:=dO v.s.mode 0
def add(s:St)(id q p:Int):St×Int:=
 bif dJ id 1 || dJ 255 id then (s,1) else
 bif has s.servs id then (s,5) else
 bif leI 32 (aQ s.servs.length) then (s,3) else
 bif eX (gk q p).2 0 then (s,(gk q p).2) else
 ({ s with servs:=s.servs.take (at_ s.servs id)++⟨id,(gk q p).1,[],0,0,0,0⟩::s.servs.drop (at_ s.servs id) },0)
def eI(s:St)(kind who n:Int):Ev:=⟨s.now,kind,who,n⟩
def release(s:St)(id:Int)(p:List Step):St×List Ev×Int:=
 bif !has s.servs id then (s,[],2) else
 bif !ma p s.sems.length then (s,[],1) else
 match s.servs[at_ s.servs id]? with
 | none=>(s,[],2)
 | some v=>
  bif leI 8 (aQ v.jobs.length) then (s,[],3) else
  let v1:={ v with num:=aJ .i64 v.num 1,jobs:=v.jobs++[(oX (aJ .i64 v.num 1) p).1] }
  bif !v.idle then ({ s with servs:=s.servs.set (at_ s.servs id) v1 },[eI s 1 id v1.num],0) else
  bif eX (gn v.s s.now).2 0 then (s,[],(gn v.s s.now).2) else
  ({ s with servs:=s.servs.set (at_ s.servs id) { v1 with s:=(gn v.s s.now).1 } },[eI s 1 id v1.num,eI s 9 id 0],0)
def Serv.ent(v:Serv):pl.E:=(v.id,v.s.due,eX v.sec 0)
def ready(l:List Serv):List Serv:=l.filter fun v=>dO v.s.mode 1
def dU(s:St):List Int:=pl.pick s.m ((ready s.servs).map Serv.ent)
def gI(s:St):List Int:=((s.backs.take (jL (dY .i64 s.m (aQ (dU s).length)) (aQ s.backs.length)).toNat)).map (·.id)
def asks(s:St):List (Nat×Int):=(dU s).filterMap fun id=>
 match s.servs[at_ s.servs id]? with
 | none=>none
 | some v=>match v.jobs with
  | []=>none
  | j::_=>bif (eD j).2&&(dJ 0 (eD j).1.1&&dO v.sec 0) then some (at_ s.servs id,(eD j).1.1) else none
def jM(s:St):List (Nat×Int)->Option (St×Ev)
 | []=>none
 | (i,q)::r=>match s.servs[i]?,s.sems[(q-1).toNat]? with
  | some v,some l=>bif jW s.m l.most v.s.bud (dY .i64 v.s.due s.now) then jM s r else
   some ({ s with servs:=s.servs.set i { v with s:=(fO v.s).1 } },eI s 8 v.id q)
  | _,_=>none
def refuse(s:St):Option (St×Ev):=jM s (asks s)
def gi(now:Int)(v:Serv):Serv×Bool:=bif v.idle || eX v.sec 0 then (v,false) else ({ v with s:=(eK v.s now).1 },(eK v.s now).2)
def gj(s:St):St:={ s with servs:=s.servs.map fun v=>(gi s.now v).1 }
def oY(s:St):List Ev:=s.servs.filterMap fun v=>bif (gi s.now v).2 then some (eI s 5 v.id 0) else none
def dS:Nat->St->St×List Ev
 | 0,s=>(s,[])
 | n+1,s=>match refuse s with
  | none=>(s,[])
  | some (s',e)=>let r:=dS n s';(r.1,e::r.2)
def fe(s:St)(i:Nat)(q:Int):St×List Ev:=match s.servs[i]?,s.sems[(q-1).toNat]? with
 | some v,some l=>
  bif eX l.holder 0 then ({ s with servs:=s.servs.set i { v with sec:=1 },sems:=s.sems.set (q-1).toNat { l with queue:=l.queue++[v.id] } },[]) else
  ({ s with servs:=s.servs.set i { v with sec:=2,held:=0 },sems:=s.sems.set (q-1).toNat { l with holder:=v.id,dead:=false } },(bif l.dead then [eI s 7 v.id 0] else [])++[eI s 6 v.id q])
 | _,_=>(s,[])
def eY:St->List (Nat×Int)->St×List Ev
 | s,[]=>(s,[])
 | s,(i,q)::r=>let a:=fe s i q;let b:=eY a.1 r;(b.1,a.2++b.2)
def settle(s:St):St×List Ev:=
 let a:=dS (s.servs.length+1) (gj s)
 let b:=eY a.1 (asks a.1)
 (b.1,oY s++a.2++b.2)
def free(s:St)(q:Int)(thrown:Bool):St×List Ev:=match s.sems[(q-1).toNat]? with
 | none=>(s,[])
 | some l=>match l.queue with
  | []=>({ s with sems:=s.sems.set (q-1).toNat { l with holder:=0,dead:=thrown } },[])
  | x::r=>match s.servs[at_ s.servs x]? with
   | none=>(s,[])
   | some v=>({ s with sems:=s.sems.set (q-1).toNat { l with holder:=x,queue:=r },servs:=s.servs.set (at_ s.servs x) { v with sec:=2,held:=0 } },(bif thrown then [eI s 7 x 0] else [])++[eI s 6 x q])
def gU(v:Serv):Serv:=
 let v:={ v with s:=(fm v.s 1).1,ran:=aJ .i64 v.ran 1 }
 bif dO v.sec 1 then v else
 match v.jobs with
 | []=>v
 | j::r=>
  let v:={ v with jobs:=(gr j 1).1::r }
  bif dO v.sec 2 then { v with held:=aJ .i64 v.held 1 } else v
def iv(s:St)(i:Nat):St×List Ev:=match s.servs[i]? with
 | none=>(s,[])
 | some v=>match v.jobs with
  | []=>(s,[])
  | j::r=>
   let x:=(eD j).1
   bif dO j.done x.2 then
    let a:=bif dO v.sec 2 then free { s with servs:=s.servs.set i { v with sec:=0 } } x.1 false else (s,[])
    match a.1.servs[i]? with
    | none=>a
    | some w=>bif dO (fa j).1.at_ (aQ j.prog.length) then ({ a.1 with servs:=a.1.servs.set i { w with jobs:=r } },a.2++[eI s 2 w.id j.num])
     else ({ a.1 with servs:=a.1.servs.set i { w with jobs:=(fa j).1::r } },a.2)
   else bif dO v.sec 2&&(match s.sems[(x.1-1).toNat]? with|some l=>dO v.held l.most|none=>false) then
    let a:=free { s with servs:=s.servs.set i { v with jobs:=r,sec:=0 } } x.1 true
    (a.1,eI s 3 v.id j.num::a.2)
   else (s,[])
def kU(s:St)(i:Nat):St×List Ev:=match s.servs[i]? with
 | none=>(s,[])
 | some v=>match v.jobs with
  | []=>({ s with servs:=s.servs.set i { v with s:=(ge v.s).1 } },[eI s 10 v.id 0])
  | _::_=>(s,bif dO v.s.mode 2 then [eI s 4 v.id 0] else [])
def gp(s:St)(i:Nat):St×List Ev:=let a:=iv s i;let b:=kU a.1 i;(b.1,a.2++b.2)
def ends:St->List Nat->St×List Ev
 | s,[]=>(s,[])
 | s,i::r=>let a:=gp s i;let b:=ends a.1 r;(b.1,a.2++b.2)
def runs(s:St):List Nat->St
 | []=>s
 | i::r=>runs (match s.servs[i]? with|some v=>{ s with servs:=s.servs.set i (gU v) }|none=>s) r
def tick(s:St):St×List Ev×Int:=
 bif leI rm s.now then (s,[],6) else
 let a:=settle s
 let pl:=(dU a.1).map (at_ a.1.servs)
 let n:=(gI a.1).length
 let t:=runs a.1 pl
 let u:St:={ t with backs:=t.backs.drop n++(t.backs.take n).map fun b=>{ b with ran:=aJ .i64 b.ran 1 },now:=aJ .i64 t.now 1 }
 let e:=ends u pl
 (e.1,a.2++e.2,0)
end
end Go.AX.pm
