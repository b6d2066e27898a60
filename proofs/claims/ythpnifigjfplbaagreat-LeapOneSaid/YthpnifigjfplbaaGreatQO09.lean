import Derived.Test.YthpnifigjfplbaaGreatQO01
import Derived.Test.YthpnifigjfplbaaGreatQO04
set_option linter.unusedSimpArgs false
set_option linter.unusedVariables false
set_option linter.unusedSectionVars false
namespace Go.AX.pm
open Go.AX
noncomputable section
abbrev qt:Int:=4611686018427387904
def gv(t:Int):Bool:=leI 0 t&&leI t qt
def qO(t:Int):Int×Bool:=bif gv t then (t,true) else (0,false)
def rT(n low high:Int):Bool:=leI low n&&leI n high
def rM(a b:Int):Int×Bool:=bif gv a&&gv b then qO (bh .i64 a b) else (0,false)
def mX(x q p:Int):Int×Bool:=bif rT x 0 2147483648&&(rT p 1 2147483648&&rT q 0 p) then (nQ .i64 (ig .i64 x q) p,true) else (0,false)
def jW(t d p:Int):Int×Bool:=bif gv t&&(gv d&&rT p 1 2147483648) then (bif cS t d then (d,true) else qO (bh .i64 d (ig .i64 (bh .i64 (nQ .i64 (dk .i64 t d) p) 1) p))) else (0,false)
structure Srv where
 q:Int
 p:Int
 bud:Int
 due:Int
 mode:Int
def pair(q p:Int):Bool:=leI 1 p&&(leI p 2147483648&&(leI 1 q&&leI q p))
def ge(q p:Int):Srv×Int:=bif pair q p then (⟨q,p,0,0,0⟩,0) else (⟨0,0,0,0,0⟩,1)
def jO(s:Srv):Bool:=pair s.q s.p&&(leI 0 s.bud&&(leI s.bud s.q&&(gv s.due&&(leI 0 s.mode&&(leI s.mode 2&&(dU s.mode 1 || cS 0 s.bud))))))
def iT(s:Srv):Srv:=bif cU s.bud 0 then { s with mode:=2 } else { s with mode:=1 }
def gw(s:Srv)(now:Int):Srv×Int:=
 bif !jO s || !gv now then (s,1) else
 bif dU s.mode 0 then (s,5) else
 bif leI s.due now then
  (bif (rM now s.p).2 then (iT { s with bud:=s.q,due:=(rM now s.p).1 },0) else (s,6))
 else
  (bif cS (ig .i64 (fI (dk .i64 s.due now) s.p) s.q) (ig .i64 s.bud s.p) then (iT { s with bud:=(mX (fI (dk .i64 s.due now) s.p) s.q s.p).1 },0) else (iT s,0))
def dI(s:Srv)(n:Int):Srv×Int:=
 bif !jO s || (cS n 1 || cS s.bud n) then (s,1) else
 bif dU s.mode 1 then (s,4) else (iT { s with bud:=dk .i64 s.bud n },0)
def fG(s:Srv):Srv×Int:=bif !jO s then (s,1) else bif cU s.mode 0 then (s,4) else ({ s with mode:=0 },0)
def eP(s:Srv):Srv×Int:=bif !jO s then (s,1) else bif dU s.mode 1 then (s,4) else ({ s with mode:=2 },0)
def dE(s:Srv)(now:Int):Srv×Bool:=
 bif !jO s || (cU s.mode 0 || cS now s.due) then (s,false) else
 bif (jW now s.due s.p).2 then (iT { s with bud:=s.q,due:=(jW now s.due s.p).1 },true) else (s,false)
def mY(m most:Int):Int×Int×Bool:=bif cS m 1 || (cS 64 m || (cS most 1 || cS 1048576 most)) then (0,0,false) else (ig .i64 (dk .i64 m 1) most,ig .i64 m most,true)
def pi(m most bud left:Int):Bool:=(mY m most).2.2&&(leI (mY m most).2.1 bud&&leI (mY m most).2.1 left)
abbrev Step:=Int×Int
def wn(s:Step):Bool:=cS s.1 0 || (cS 8 s.1 || (cS s.2 1 || cS 2147483648 s.2))
def pGood(p:List Step):Bool:=leI 1 (aQ p.length)&&(leI (aQ p.length) 8&&!p.any wn)
def pR(p:List Step)(n:Nat):Bool:=pGood p&&!p.any fun s=>cS (aQ n) s.1
structure Job where
 num:Int
 prog:List Step
 at_:Int
 done:Int
def Job.cur(j:Job):Step:=j.prog.getD j.at_.toNat (0,0)
def oC(j:Job):Bool:=
 !cS j.num 1&&(pGood j.prog&&(!cS j.at_ 0&&(!cS (aQ j.prog.length) j.at_&&(!cS j.done 0&&(bif cU j.at_ (aQ j.prog.length) then cU j.done 0 else leI j.done j.cur.2)))))
def pS(num:Int)(p:List Step):Job×Bool:=bif !pGood p || cS num 1 then (⟨0,[],0,0⟩,false) else (⟨num,p,0,0⟩,true)
def dH(j:Job):Step×Bool:=bif !oC j || cU j.at_ (aQ j.prog.length) then ((0,0),false) else (j.cur,true)
def eV(j:Job)(n:Int):Job×Int:=bif !(dH j).2 then (j,0) else ({ j with done:=bh .i64 j.done (fI (jP n 0) (dk .i64 (dH j).1.2 j.done)) },fI (jP n 0) (dk .i64 (dH j).1.2 j.done))
def eI(j:Job):Job×Bool:=bif !(dH j).2 || dU j.done (dH j).1.2 then (j,false) else ({ j with at_:=bh .i64 j.at_ 1,done:=0 },true)
structure Serv where
 id:Int
 s:Srv
 jobs:List Job
 sec:Int
 held:Int
 num:Int
 ran:Int
structure Lock where
 most:Int
 holder:Int
 queue:List Int
 dead:Bool
structure Back where
 id:Int
 ran:Int
structure St where
 m:Int
 now:Int
 servs:List Serv
 sems:List Lock
 backs:List Back
structure Ev where
 at_:Int
 kind:Int
 who:Int
 n:Int
def qv(n:Int):Bool:=cS n 1 || cS 1048576 n
def new(m:Int)(most:List Int):St×Int:=
 bif cS m 1 || (cS 64 m || (cS 8 (aQ most.length) || most.any qv)) then (⟨0,0,[],[],[]⟩,1) else (⟨m,0,[],most.map fun n=>⟨n,0,[],false⟩,[]⟩,0)
def at_(l:List Serv)(id:Int):Nat:=(l.takeWhile fun v=>cS v.id id).length
def has(l:List Serv)(id:Int):Bool:=match l[at_ l id]? with
 | some v=>cU v.id id
 | none=>false
def back(l:List Back)(id:Int):Option Nat:=l.findIdx? fun b=>cU b.id id
def Serv.idle(v:Serv):Bool:=cU v.s.mode 0
def add(s:St)(id q p:Int):St×Int:=
 bif cS id 1 || cS 255 id then (s,1) else
 bif has s.servs id then (s,5) else
 bif leI 32 (aQ s.servs.length) then (s,3) else
 bif dU (ge q p).2 0 then (s,(ge q p).2) else
 ({ s with servs:=s.servs.take (at_ s.servs id)++⟨id,(ge q p).1,[],0,0,0,0⟩::s.servs.drop (at_ s.servs id) },0)
def drop(s:St)(id:Int):St×Int:=
 bif !has s.servs id then (s,2) else
 match s.servs[at_ s.servs id]? with
 | none=>(s,2)
 | some v=>bif !v.idle then (s,5) else ({ s with servs:=s.servs.eraseIdx (at_ s.servs id) },0)
def dO(s:St)(kind who n:Int):Ev:=⟨s.now,kind,who,n⟩
def release(s:St)(id:Int)(p:List Step):St×List Ev×Int:=
 bif !has s.servs id then (s,[],2) else
 bif !pR p s.sems.length then (s,[],1) else
 match s.servs[at_ s.servs id]? with
 | none=>(s,[],2)
 | some v=>
  bif leI 8 (aQ v.jobs.length) then (s,[],3) else
  let v1:={ v with num:=bh .i64 v.num 1,jobs:=v.jobs++[(pS (bh .i64 v.num 1) p).1] }
  bif !v.idle then ({ s with servs:=s.servs.set (at_ s.servs id) v1 },[dO s 1 id v1.num],0) else
  bif dU (gw v.s s.now).2 0 then (s,[],(gw v.s s.now).2) else
  ({ s with servs:=s.servs.set (at_ s.servs id) { v1 with s:=(gw v.s s.now).1 } },[dO s 1 id v1.num,dO s 9 id 0],0)
def gW(s:St)(id:Int)(on:Bool):St×Int:=
 bif cS id 1 || cS 255 id then (s,1) else
 match on,back s.backs id with
 | true,some _=>(s,5)
 | true,none=>bif leI 16 (aQ s.backs.length) then (s,3) else ({ s with backs:=s.backs++[⟨id,0⟩] },0)
 | false,none=>(s,2)
 | false,some i=>({ s with backs:=s.backs.eraseIdx i },0)
def Serv.ent(v:Serv):pl.E:=(v.id,v.s.due,dU v.sec 0)
def ready(l:List Serv):List Serv:=l.filter fun v=>cU v.s.mode 1
def bm(s:St):List Int:=pl.pick s.m ((ready s.servs).map Serv.ent)
def fT(s:St):List Int:=((s.backs.take (fI (dk .i64 s.m (aQ (bm s).length)) (aQ s.backs.length)).toNat)).map (·.id)
def asks(s:St):List (Nat×Int):=(bm s).filterMap fun id=>
 match s.servs[at_ s.servs id]? with
 | none=>none
 | some v=>match v.jobs with
  | []=>none
  | j::_=>bif (dH j).2&&(cS 0 (dH j).1.1&&cU v.sec 0) then some (at_ s.servs id,(dH j).1.1) else none
def lL(s:St):List (Nat×Int)->Option (St×Ev)
 | []=>none
 | (i,q)::r=>match s.servs[i]?,s.sems[(q-1).toNat]? with
  | some v,some l=>bif pi s.m l.most v.s.bud (dk .i64 v.s.due s.now) then lL s r else
   some ({ s with servs:=s.servs.set i { v with s:=(eP v.s).1 } },dO s 8 v.id q)
  | _,_=>none
def refuse(s:St):Option (St×Ev):=lL s (asks s)
def fo(now:Int)(v:Serv):Serv×Bool:=bif v.idle || dU v.sec 0 then (v,false) else ({ v with s:=(dE v.s now).1 },(dE v.s now).2)
def fj(s:St):St:={ s with servs:=s.servs.map fun v=>(fo s.now v).1 }
def lM(s:St):List Ev:=s.servs.filterMap fun v=>bif (fo s.now v).2 then some (dO s 5 v.id 0) else none
def du:Nat->St->St×List Ev
 | 0,s=>(s,[])
 | n+1,s=>match refuse s with
  | none=>(s,[])
  | some (s',e)=>let r:=du n s';(r.1,e::r.2)
def eQ(s:St)(i:Nat)(q:Int):St×List Ev:=match s.servs[i]?,s.sems[(q-1).toNat]? with
 | some v,some l=>
  bif dU l.holder 0 then ({ s with servs:=s.servs.set i { v with sec:=1 },sems:=s.sems.set (q-1).toNat { l with queue:=l.queue++[v.id] } },[]) else
  ({ s with servs:=s.servs.set i { v with sec:=2,held:=0 },sems:=s.sems.set (q-1).toNat { l with holder:=v.id,dead:=false } },(bif l.dead then [dO s 7 v.id 0] else [])++[dO s 6 v.id q])
 | _,_=>(s,[])
def ez:St->List (Nat×Int)->St×List Ev
 | s,[]=>(s,[])
 | s,(i,q)::r=>let a:=eQ s i q;let b:=ez a.1 r;(b.1,a.2++b.2)
def settle(s:St):St×List Ev:=
 let a:=du (s.servs.length+1) (fj s)
 let b:=ez a.1 (asks a.1)
 (b.1,lM s++a.2++b.2)
def free(s:St)(q:Int)(thrown:Bool):St×List Ev:=match s.sems[(q-1).toNat]? with
 | none=>(s,[])
 | some l=>match l.queue with
  | []=>({ s with sems:=s.sems.set (q-1).toNat { l with holder:=0,dead:=thrown } },[])
  | x::r=>match s.servs[at_ s.servs x]? with
   | none=>(s,[])
   | some v=>({ s with sems:=s.sems.set (q-1).toNat { l with holder:=x,queue:=r },servs:=s.servs.set (at_ s.servs x) { v with sec:=2,held:=0 } },(bif thrown then [dO s 7 x 0] else [])++[dO s 6 x q])
def gR(v:Serv):Serv:=
 let v:={ v with s:=(dI v.s 1).1,ran:=bh .i64 v.ran 1 }
 bif cU v.sec 1 then v else
 match v.jobs with
 | []=>v
 | j::r=>
  let v:={ v with jobs:=(eV j 1).1::r }
  bif cU v.sec 2 then { v with held:=bh .i64 v.held 1 } else v
def gB(s:St)(i:Nat):St×List Ev:=match s.servs[i]? with
 | none=>(s,[])
 | some v=>match v.jobs with
  | []=>(s,[])
  | j::r=>
   let x:=(dH j).1
   bif cU j.done x.2 then
    let a:=bif cU v.sec 2 then free { s with servs:=s.servs.set i { v with sec:=0 } } x.1 false else (s,[])
    match a.1.servs[i]? with
    | none=>a
    | some w=>bif cU (eI j).1.at_ (aQ j.prog.length) then ({ a.1 with servs:=a.1.servs.set i { w with jobs:=r } },a.2++[dO s 2 w.id j.num])
     else ({ a.1 with servs:=a.1.servs.set i { w with jobs:=(eI j).1::r } },a.2)
   else bif cU v.sec 2&&(match s.sems[(x.1-1).toNat]? with|some l=>cU v.held l.most|none=>false) then
    let a:=free { s with servs:=s.servs.set i { v with jobs:=r,sec:=0 } } x.1 true
    (a.1,dO s 3 v.id j.num::a.2)
   else (s,[])
def kD(s:St)(i:Nat):St×List Ev:=match s.servs[i]? with
 | none=>(s,[])
 | some v=>match v.jobs with
  | []=>({ s with servs:=s.servs.set i { v with s:=(fG v.s).1 } },[dO s 10 v.id 0])
  | _::_=>(s,bif cU v.s.mode 2 then [dO s 4 v.id 0] else [])
def gt(s:St)(i:Nat):St×List Ev:=let a:=gB s i;let b:=kD a.1 i;(b.1,a.2++b.2)
def ends:St->List Nat->St×List Ev
 | s,[]=>(s,[])
 | s,i::r=>let a:=gt s i;let b:=ends a.1 r;(b.1,a.2++b.2)
def runs(s:St):List Nat->St
 | []=>s
 | i::r=>runs (match s.servs[i]? with|some v=>{ s with servs:=s.servs.set i (gR v) }|none=>s) r
def tick(s:St):St×List Ev×Int:=
 bif leI qt s.now then (s,[],6) else
 let a:=settle s
 let pl:=(bm a.1).map (at_ a.1.servs)
 let n:=(fT a.1).length
 let t:=runs a.1 pl
 let u:St:={ t with backs:=t.backs.drop n++(t.backs.take n).map fun b=>{ b with ran:=bh .i64 b.ran 1 },now:=bh .i64 t.now 1 }
 let e:=ends u pl
 (e.1,a.2++e.2,0)
end
end Go.AX.pm
