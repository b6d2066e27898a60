import Derived.Test.YthpnifigjfplbaaGreatQP01
import Derived.Test.YthpnifigjfplbaaGreatQP04
set_option linter.unusedSimpArgs false
set_option linter.unusedVariables false
set_option linter.unusedSectionVars false
namespace Go.AX.pm
open Go.AX
noncomputable section
abbrev qw:Int:=4611686018427387904
def gv(t:Int):Bool:=leI 0 t&&leI t qw
def qP(t:Int):Int×Bool:=bif gv t then (t,true) else (0,false)
def rU(n low high:Int):Bool:=leI low n&&leI n high
def rO(a b:Int):Int×Bool:=bif gv a&&gv b then qP (bh .i64 a b) else (0,false)
def mX(x q p:Int):Int×Bool:=bif rU x 0 2147483648&&(rU p 1 2147483648&&rU q 0 p) then (nP .i64 (ig .i64 x q) p,true) else (0,false)
def jW(t d p:Int):Int×Bool:=bif gv t&&(gv d&&rU p 1 2147483648) then (bif cR t d then (d,true) else qP (bh .i64 d (ig .i64 (bh .i64 (nP .i64 (cY .i64 t d) p) 1) p))) else (0,false)
structure Srv where
 q:Int
 p:Int
 bud:Int
 due:Int
 mode:Int
def pair(q p:Int):Bool:=leI 1 p&&(leI p 2147483648&&(leI 1 q&&leI q p))
def gg(q p:Int):Srv×Int:=bif pair q p then (⟨q,p,0,0,0⟩,0) else (⟨0,0,0,0,0⟩,1)
def jO(s:Srv):Bool:=pair s.q s.p&&(leI 0 s.bud&&(leI s.bud s.q&&(gv s.due&&(leI 0 s.mode&&(leI s.mode 2&&(dV s.mode 1 || cR 0 s.bud))))))
def iU(s:Srv):Srv:=bif cU s.bud 0 then { s with mode:=2 } else { s with mode:=1 }
def gw(s:Srv)(now:Int):Srv×Int:=
 bif !jO s || !gv now then (s,1) else
 bif dV s.mode 0 then (s,5) else
 bif leI s.due now then
  (bif (rO now s.p).2 then (iU { s with bud:=s.q,due:=(rO now s.p).1 },0) else (s,6))
 else
  (bif cR (ig .i64 (fI (cY .i64 s.due now) s.p) s.q) (ig .i64 s.bud s.p) then (iU { s with bud:=(mX (fI (cY .i64 s.due now) s.p) s.q s.p).1 },0) else (iU s,0))
def dK(s:Srv)(n:Int):Srv×Int:=
 bif !jO s || (cR n 1 || cR s.bud n) then (s,1) else
 bif dV s.mode 1 then (s,4) else (iU { s with bud:=cY .i64 s.bud n },0)
def fG(s:Srv):Srv×Int:=bif !jO s then (s,1) else bif cU s.mode 0 then (s,4) else ({ s with mode:=0 },0)
def eP(s:Srv):Srv×Int:=bif !jO s then (s,1) else bif dV s.mode 1 then (s,4) else ({ s with mode:=2 },0)
def dE(s:Srv)(now:Int):Srv×Bool:=
 bif !jO s || (cU s.mode 0 || cR now s.due) then (s,false) else
 bif (jW now s.due s.p).2 then (iU { s with bud:=s.q,due:=(jW now s.due s.p).1 },true) else (s,false)
def mY(m most:Int):Int×Int×Bool:=bif cR m 1 || (cR 64 m || (cR most 1 || cR 1048576 most)) then (0,0,false) else (ig .i64 (cY .i64 m 1) most,ig .i64 m most,true)
def pg(m most bud left:Int):Bool:=(mY m most).2.2&&(leI (mY m most).2.1 bud&&leI (mY m most).2.1 left)
abbrev Step:=Int×Int
def wx(s:Step):Bool:=cR s.1 0 || (cR 8 s.1 || (cR s.2 1 || cR 2147483648 s.2))
def pGood(p:List Step):Bool:=leI 1 (aQ p.length)&&(leI (aQ p.length) 8&&!p.any wx)
def pR(p:List Step)(n:Nat):Bool:=pGood p&&!p.any fun s=>cR (aQ n) s.1
structure Job where
 num:Int
 prog:List Step
 at_:Int
 done:Int
def Job.cur(j:Job):Step:=j.prog.getD j.at_.toNat (0,0)
def oB(j:Job):Bool:=
 !cR j.num 1&&(pGood j.prog&&(!cR j.at_ 0&&(!cR (aQ j.prog.length) j.at_&&(!cR j.done 0&&(bif cU j.at_ (aQ j.prog.length) then cU j.done 0 else leI j.done j.cur.2)))))
def pS(num:Int)(p:List Step):Job×Bool:=bif !pGood p || cR num 1 then (⟨0,[],0,0⟩,false) else (⟨num,p,0,0⟩,true)
def dJ(j:Job):Step×Bool:=bif !oB j || cU j.at_ (aQ j.prog.length) then ((0,0),false) else (j.cur,true)
def eV(j:Job)(n:Int):Job×Int:=bif !(dJ j).2 then (j,0) else ({ j with done:=bh .i64 j.done (fI (jP n 0) (cY .i64 (dJ j).1.2 j.done)) },fI (jP n 0) (cY .i64 (dJ j).1.2 j.done))
def eJ(j:Job):Job×Bool:=bif !(dJ j).2 || dV j.done (dJ j).1.2 then (j,false) else ({ j with at_:=bh .i64 j.at_ 1,done:=0 },true)
structure Serv where
 id:Int
 s:Srv
 jobs:List Job
 sec:Int
 held:Int
 num:Int
 ran:Int
structure Lock where
 most:Int
 holder:Int
 queue:List Int
 dead:Bool
structure Back where
 id:Int
 ran:Int
structure St where
 m:Int
 now:Int
 servs:List Serv
 sems:List Lock
 backs:List Back
structure Ev where
 at_:Int
 kind:Int
 who:Int
 n:Int
def qx(n:Int):Bool:=cR n 1 || cR 1048576 n
def new(m:Int)(most:List Int):St×Int:=
 bif cR m 1 || (cR 64 m || (cR 8 (aQ most.length) || most.any qx)) then (⟨0,0,[],[],[]⟩,1) else (⟨m,0,[],most.map fun n=>⟨n,0,[],false⟩,[]⟩,0)
def at_(l:List Serv)(id:Int):Nat:=(l.takeWhile fun v=>cR v.id id).length
def has(l:List Serv)(id:Int):Bool:=match l[at_ l id]? with
 | some v=>cU v.id id
 | none=>false
def back(l:List Back)(id:Int):Option Nat:=l.findIdx? fun b=>cU b.id id
def Serv.idle(v:Serv):Bool:=cU v.s.mode 0
def add(s:St)(id q p:Int):St×Int:=
 bif cR id 1 || cR 255 id then (s,1) else
 bif has s.servs id then (s,5) else
 bif leI 32 (aQ s.servs.length) then (s,3) else
 bif dV (gg q p).2 0 then (s,(gg q p).2) else
 ({ s with servs:=s.servs.take (at_ s.servs id)++⟨id,(gg q p).1,[],0,0,0,0⟩::s.servs.drop (at_ s.servs id) },0)
def drop(s:St)(id:Int):St×Int:=
 bif !has s.servs id then (s,2) else
 match s.servs[at_ s.servs id]? with
 | none=>(s,2)
 | some v=>bif !v.idle then (s,5) else ({ s with servs:=s.servs.eraseIdx (at_ s.servs id) },0)
def dQ(s:St)(kind who n:Int):Ev:=⟨s.now,kind,who,n⟩
def release(s:St)(id:Int)(p:List Step):St×List Ev×Int:=
 bif !has s.servs id then (s,[],2) else
 bif !pR p s.sems.length then (s,[],1) else
 match s.servs[at_ s.servs id]? with
 | none=>(s,[],2)
 | some v=>
  bif leI 8 (aQ v.jobs.length) then (s,[],3) else
  let v1:={ v with num:=bh .i64 v.num 1,jobs:=v.jobs++[(pS (bh .i64 v.num 1) p).1] }
  bif !v.idle then ({ s with servs:=s.servs.set (at_ s.servs id) v1 },[dQ s 1 id v1.num],0) else
  bif dV (gw v.s s.now).2 0 then (s,[],(gw v.s s.now).2) else
  ({ s with servs:=s.servs.set (at_ s.servs id) { v1 with s:=(gw v.s s.now).1 } },[dQ s 1 id v1.num,dQ s 9 id 0],0)
def gW(s:St)(id:Int)(on:Bool):St×Int:=
 bif cR id 1 || cR 255 id then (s,1) else
 match on,back s.backs id with
 | true,some _=>(s,5)
 | true,none=>bif leI 16 (aQ s.backs.length) then (s,3) else ({ s with backs:=s.backs++[⟨id,0⟩] },0)
 | false,none=>(s,2)
 | false,some i=>({ s with backs:=s.backs.eraseIdx i },0)
def Serv.ent(v:Serv):pl.E:=(v.id,v.s.due,dV v.sec 0)
def ready(l:List Serv):List Serv:=l.filter fun v=>cU v.s.mode 1
def bm(s:St):List Int:=pl.pick s.m ((ready s.servs).map Serv.ent)
def fU(s:St):List Int:=((s.backs.take (fI (cY .i64 s.m (aQ (bm s).length)) (aQ s.backs.length)).toNat)).map (·.id)
def asks(s:St):List (Nat×Int):=(bm s).filterMap fun id=>
 match s.servs[at_ s.servs id]? with
 | none=>none
 | some v=>match v.jobs with
  | []=>none
  | j::_=>bif (dJ j).2&&(cR 0 (dJ j).1.1&&cU v.sec 0) then some (at_ s.servs id,(dJ j).1.1) else none
def lL(s:St):List (Nat×Int)->Option (St×Ev)
 | []=>none
 | (i,q)::r=>match s.servs[i]?,s.sems[(q-1).toNat]? with
  | some v,some l=>bif pg s.m l.most v.s.bud (cY .i64 v.s.due s.now) then lL s r else
   some ({ s with servs:=s.servs.set i { v with s:=(eP v.s).1 } },dQ s 8 v.id q)
  | _,_=>none
def refuse(s:St):Option (St×Ev):=lL s (asks s)
def fj(now:Int)(v:Serv):Serv×Bool:=bif v.idle || dV v.sec 0 then (v,false) else ({ v with s:=(dE v.s now).1 },(dE v.s now).2)
def fk(s:St):St:={ s with servs:=s.servs.map fun v=>(fj s.now v).1 }
def lM(s:St):List Ev:=s.servs.filterMap fun v=>bif (fj s.now v).2 then some (dQ s 5 v.id 0) else none
def du:Nat->St->St×List Ev
 | 0,s=>(s,[])
 | n+1,s=>match refuse s with
  | none=>(s,[])
  | some (s',e)=>let r:=du n s';(r.1,e::r.2)
def eQ(s:St)(i:Nat)(q:Int):St×List Ev:=match s.servs[i]?,s.sems[(q-1).toNat]? with
 | some v,some l=>
  bif dV l.holder 0 then ({ s with servs:=s.servs.set i { v with sec:=1 },sems:=s.sems.set (q-1).toNat { l with queue:=l.queue++[v.id] } },[]) else
  ({ s with servs:=s.servs.set i { v with sec:=2,held:=0 },sems:=s.sems.set (q-1).toNat { l with holder:=v.id,dead:=false } },(bif l.dead then [dQ s 7 v.id 0] else [])++[dQ s 6 v.id q])
 | _,_=>(s,[])
def eD:St->List (Nat×Int)->St×List Ev
 | s,[]=>(s,[])
 | s,(i,q)::r=>let a:=eQ s i q;let b:=eD a.1 r;(b.1,a.2++b.2)
def settle(s:St):St×List Ev:=
 let a:=du (s.servs.length+1) (fk s)
 let b:=eD a.1 (asks a.1)
 (b.1,lM s++a.2++b.2)
def free(s:St)(q:Int)(thrown:Bool):St×List Ev:=match s.sems[(q-1).toNat]? with
 | none=>(s,[])
 | some l=>match l.queue with
  | []=>({ s with sems:=s.sems.set (q-1).toNat { l with holder:=0,dead:=thrown } },[])
  | x::r=>match s.servs[at_ s.servs x]? with
   | none=>(s,[])
   | some v=>({ s with sems:=s.sems.set (q-1).toNat { l with holder:=x,queue:=r },servs:=s.servs.set (at_ s.servs x) { v with sec:=2,held:=0 } },(bif thrown then [dQ s 7 x 0] else [])++[dQ s 6 x q])
def gR(v:Serv):Serv:=
 let v:={ v with s:=(dK v.s 1).1,ran:=bh .i64 v.ran 1 }
 bif cU v.sec 1 then v else
 match v.jobs with
 | []=>v
 | j::r=>
  let v:={ v with jobs:=(eV j 1).1::r }
  bif cU v.sec 2 then { v with held:=bh .i64 v.held 1 } else v
def gB(s:St)(i:Nat):St×List Ev:=match s.servs[i]? with
 | none=>(s,[])
 | some v=>match v.jobs with
  | []=>(s,[])
  | j::r=>
   let x:=(dJ j).1
   bif cU j.done x.2 then
    let a:=bif cU v.sec 2 then free { s with servs:=s.servs.set i { v with sec:=0 } } x.1 false else (s,[])
    match a.1.servs[i]? with
    | none=>a
    | some w=>bif cU (eJ j).1.at_ (aQ j.prog.length) then ({ a.1 with servs:=a.1.servs.set i { w with jobs:=r } },a.2++[dQ s 2 w.id j.num])
     else ({ a.1 with servs:=a.1.servs.set i { w with jobs:=(eJ j).1::r } },a.2)
   else bif cU v.sec 2&&(match s.sems[(x.1-1).toNat]? with|some l=>cU v.held l.most|none=>false) then
    let a:=free { s with servs:=s.servs.set i { v with jobs:=r,sec:=0 } } x.1 true
    (a.1,dQ s 3 v.id j.num::a.2)
   else (s,[])
def kD(s:St)(i:Nat):St×List Ev:=match s.servs[i]? with
 | none=>(s,[])
 | some v=>match v.jobs with
  | []=>({ s with servs:=s.servs.set i { v with s:=(fG v.s).1 } },[dQ s 10 v.id 0])
  | _::_=>(s,bif cU v.s.mode 2 then [dQ s 4 v.id 0] else [])
def gt(s:St)(i:Nat):St×List Ev:=let a:=gB s i;let b:=kD a.1 i;(b.1,a.2++b.2)
def ends:St->List Nat->St×List Ev
 | s,[]=>(s,[])
 | s,i::r=>let a:=gt s i;let b:=ends a.1 r;(b.1,a.2++b.2)
def runs(s:St):List Nat->St
 | []=>s
 | i::r=>runs (match s.servs[i]? with|some v=>{ s with servs:=s.servs.set i (gR v) }|none=>s) r
def tick(s:St):St×List Ev×Int:=
 bif leI qw s.now then (s,[],6) else
 let a:=settle s
 let pl:=(bm a.1).map (at_ a.1.servs)
 let n:=(fU a.1).length
 let t:=runs a.1 pl
 let u:St:={ t with backs:=t.backs.drop n++(t.backs.take n).map fun b=>{ b with ran:=bh .i64 b.ran 1 },now:=bh .i64 t.now 1 }
 let e:=ends u pl
 (e.1,a.2++e.2,0)
end
end Go.AX.pm
