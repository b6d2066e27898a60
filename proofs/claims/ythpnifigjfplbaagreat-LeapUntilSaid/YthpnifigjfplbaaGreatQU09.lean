import Derived.Test.YthpnifigjfplbaaGreatQU01
import Derived.Test.YthpnifigjfplbaaGreatQU04
set_option linter.unusedSimpArgs false
set_option linter.unusedVariables false
set_option linter.unusedSectionVars false
namespace Go.AX.pm
open Go.AX
noncomputable section
abbrev qI:Int:=4611686018427387904
def gy(t:Int):Bool:=leI 0 t&&leI t qI
def rh(t:Int):Int×Bool:=bif gy t then (t,true) else (0,false)
def sx(n low high:Int):Bool:=leI low n&&leI n high
def si(a b:Int):Int×Bool:=bif gy a&&gy b then rh (bh .i64 a b) else (0,false)
def nu(x q p:Int):Int×Bool:=bif sx x 0 2147483648&&(sx p 1 2147483648&&sx q 0 p) then (ot .i64 (io .i64 x q) p,true) else (0,false)
def kp(t d p:Int):Int×Bool:=bif gy t&&(gy d&&sx p 1 2147483648) then (bif cR t d then (d,true) else rh (bh .i64 d (io .i64 (bh .i64 (ot .i64 (de .i64 t d) p) 1) p))) else (0,false)
structure Srv where
 q:Int
 p:Int
 bud:Int
 due:Int
 mode:Int
def pair(q p:Int):Bool:=leI 1 p&&(leI p 2147483648&&(leI 1 q&&leI q p))
def gi(q p:Int):Srv×Int:=bif pair q p then (⟨q,p,0,0,0⟩,0) else (⟨0,0,0,0,0⟩,1)
def ka(s:Srv):Bool:=pair s.q s.p&&(leI 0 s.bud&&(leI s.bud s.q&&(gy s.due&&(leI 0 s.mode&&(leI s.mode 2&&(dT s.mode 1 || cR 0 s.bud))))))
def ji(s:Srv):Srv:=bif cT s.bud 0 then { s with mode:=2 } else { s with mode:=1 }
def gz(s:Srv)(now:Int):Srv×Int:=
 bif !ka s || !gy now then (s,1) else
 bif dT s.mode 0 then (s,5) else
 bif leI s.due now then
  (bif (si now s.p).2 then (ji { s with bud:=s.q,due:=(si now s.p).1 },0) else (s,6))
 else
  (bif cR (io .i64 (fG (de .i64 s.due now) s.p) s.q) (io .i64 s.bud s.p) then (ji { s with bud:=(nu (fG (de .i64 s.due now) s.p) s.q s.p).1 },0) else (ji s,0))
def dM(s:Srv)(n:Int):Srv×Int:=
 bif !ka s || (cR n 1 || cR s.bud n) then (s,1) else
 bif dT s.mode 1 then (s,4) else (ji { s with bud:=de .i64 s.bud n },0)
def fL(s:Srv):Srv×Int:=bif !ka s then (s,1) else bif cT s.mode 0 then (s,4) else ({ s with mode:=0 },0)
def eS(s:Srv):Srv×Int:=bif !ka s then (s,1) else bif dT s.mode 1 then (s,4) else ({ s with mode:=2 },0)
def dE(s:Srv)(now:Int):Srv×Bool:=
 bif !ka s || (cT s.mode 0 || cR now s.due) then (s,false) else
 bif (kp now s.due s.p).2 then (ji { s with bud:=s.q,due:=(kp now s.due s.p).1 },true) else (s,false)
def ny(m most:Int):Int×Int×Bool:=bif cR m 1 || (cR 64 m || (cR most 1 || cR 1048576 most)) then (0,0,false) else (io .i64 (de .i64 m 1) most,io .i64 m most,true)
def pE(m most bud left:Int):Bool:=(ny m most).2.2&&(leI (ny m most).2.1 bud&&leI (ny m most).2.1 left)
abbrev Step:=Int×Int
def wV(s:Step):Bool:=cR s.1 0 || (cR 8 s.1 || (cR s.2 1 || cR 2147483648 s.2))
def pGood(p:List Step):Bool:=leI 1 (aQ p.length)&&(leI (aQ p.length) 8&&!p.any wV)
def qf(p:List Step)(n:Nat):Bool:=pGood p&&!p.any fun s=>cR (aQ n) s.1
structure Job where
 num:Int
 prog:List Step
 at_:Int
 done:Int
def Job.cur(j:Job):Step:=j.prog.getD j.at_.toNat (0,0)
def oP(j:Job):Bool:=
 !cR j.num 1&&(pGood j.prog&&(!cR j.at_ 0&&(!cR (aQ j.prog.length) j.at_&&(!cR j.done 0&&(bif cT j.at_ (aQ j.prog.length) then cT j.done 0 else leI j.done j.cur.2)))))
def qg(num:Int)(p:List Step):Job×Bool:=bif !pGood p || cR num 1 then (⟨0,[],0,0⟩,false) else (⟨num,p,0,0⟩,true)
def dI(j:Job):Step×Bool:=bif !oP j || cT j.at_ (aQ j.prog.length) then ((0,0),false) else (j.cur,true)
def eY(j:Job)(n:Int):Job×Int:=bif !(dI j).2 then (j,0) else ({ j with done:=bh .i64 j.done (fG (ke n 0) (de .i64 (dI j).1.2 j.done)) },fG (ke n 0) (de .i64 (dI j).1.2 j.done))
def eL(j:Job):Job×Bool:=bif !(dI j).2 || dT j.done (dI j).1.2 then (j,false) else ({ j with at_:=bh .i64 j.at_ 1,done:=0 },true)
structure Serv where
 id:Int
 s:Srv
 jobs:List Job
 sec:Int
 held:Int
 num:Int
 ran:Int
structure Lock where
 most:Int
 holder:Int
 queue:List Int
 dead:Bool
structure Back where
 id:Int
 ran:Int
structure St where
 m:Int
 now:Int
 servs:List Serv
 sems:List Lock
 backs:List Back
structure Ev where
 at_:Int
 kind:Int
 who:Int
 n:Int
def qJ(n:Int):Bool:=cR n 1 || cR 1048576 n
def new(m:Int)(most:List Int):St×Int:=
 bif cR m 1 || (cR 64 m || (cR 8 (aQ most.length) || most.any qJ)) then (⟨0,0,[],[],[]⟩,1) else (⟨m,0,[],most.map fun n=>⟨n,0,[],false⟩,[]⟩,0)
def at_(l:List Serv)(id:Int):Nat:=(l.takeWhile fun v=>cR v.id id).length
def has(l:List Serv)(id:Int):Bool:=match l[at_ l id]? with
 | some v=>cT v.id id
 | none=>false
def back(l:List Back)(id:Int):Option Nat:=l.findIdx? fun b=>cT b.id id
def Serv.idle(v:Serv):Bool:=cT v.s.mode 0
def add(s:St)(id q p:Int):St×Int:=
 bif cR id 1 || cR 255 id then (s,1) else
 bif has s.servs id then (s,5) else
 bif leI 32 (aQ s.servs.length) then (s,3) else
 bif dT (gi q p).2 0 then (s,(gi q p).2) else
 ({ s with servs:=s.servs.take (at_ s.servs id)++⟨id,(gi q p).1,[],0,0,0,0⟩::s.servs.drop (at_ s.servs id) },0)
def drop(s:St)(id:Int):St×Int:=
 bif !has s.servs id then (s,2) else
 match s.servs[at_ s.servs id]? with
 | none=>(s,2)
 | some v=>bif !v.idle then (s,5) else ({ s with servs:=s.servs.eraseIdx (at_ s.servs id) },0)
def dS(s:St)(kind who n:Int):Ev:=⟨s.now,kind,who,n⟩
def release(s:St)(id:Int)(p:List Step):St×List Ev×Int:=
 bif !has s.servs id then (s,[],2) else
 bif !qf p s.sems.length then (s,[],1) else
 match s.servs[at_ s.servs id]? with
 | none=>(s,[],2)
 | some v=>
  bif leI 8 (aQ v.jobs.length) then (s,[],3) else
  let v1:={ v with num:=bh .i64 v.num 1,jobs:=v.jobs++[(qg (bh .i64 v.num 1) p).1] }
  bif !v.idle then ({ s with servs:=s.servs.set (at_ s.servs id) v1 },[dS s 1 id v1.num],0) else
  bif dT (gz v.s s.now).2 0 then (s,[],(gz v.s s.now).2) else
  ({ s with servs:=s.servs.set (at_ s.servs id) { v1 with s:=(gz v.s s.now).1 } },[dS s 1 id v1.num,dS s 9 id 0],0)
def ia(s:St)(id:Int)(on:Bool):St×Int:=
 bif cR id 1 || cR 255 id then (s,1) else
 match on,back s.backs id with
 | true,some _=>(s,5)
 | true,none=>bif leI 16 (aQ s.backs.length) then (s,3) else ({ s with backs:=s.backs++[⟨id,0⟩] },0)
 | false,none=>(s,2)
 | false,some i=>({ s with backs:=s.backs.eraseIdx i },0)
def Serv.ent(v:Serv):pl.E:=(v.id,v.s.due,dT v.sec 0)
def ready(l:List Serv):List Serv:=l.filter fun v=>cT v.s.mode 1
def bm(s:St):List Int:=pl.pick s.m ((ready s.servs).map Serv.ent)
def fX(s:St):List Int:=((s.backs.take (fG (de .i64 s.m (aQ (bm s).length)) (aQ s.backs.length)).toNat)).map (·.id)
def asks(s:St):List (Nat×Int):=(bm s).filterMap fun id=>
 match s.servs[at_ s.servs id]? with
 | none=>none
 | some v=>match v.jobs with
  | []=>none
  | j::_=>bif (dI j).2&&(cR 0 (dI j).1.1&&cT v.sec 0) then some (at_ s.servs id,(dI j).1.1) else none
def lS(s:St):List (Nat×Int)->Option (St×Ev)
 | []=>none
 | (i,q)::r=>match s.servs[i]?,s.sems[(q-1).toNat]? with
  | some v,some l=>bif pE s.m l.most v.s.bud (de .i64 v.s.due s.now) then lS s r else
   some ({ s with servs:=s.servs.set i { v with s:=(eS v.s).1 } },dS s 8 v.id q)
  | _,_=>none
def refuse(s:St):Option (St×Ev):=lS s (asks s)
def ft(now:Int)(v:Serv):Serv×Bool:=bif v.idle || dT v.sec 0 then (v,false) else ({ v with s:=(dE v.s now).1 },(dE v.s now).2)
def fm(s:St):St:={ s with servs:=s.servs.map fun v=>(ft s.now v).1 }
def lT(s:St):List Ev:=s.servs.filterMap fun v=>bif (ft s.now v).2 then some (dS s 5 v.id 0) else none
def du:Nat->St->St×List Ev
 | 0,s=>(s,[])
 | n+1,s=>match refuse s with
  | none=>(s,[])
  | some (s',e)=>let r:=du n s';(r.1,e::r.2)
def eU(s:St)(i:Nat)(q:Int):St×List Ev:=match s.servs[i]?,s.sems[(q-1).toNat]? with
 | some v,some l=>
  bif dT l.holder 0 then ({ s with servs:=s.servs.set i { v with sec:=1 },sems:=s.sems.set (q-1).toNat { l with queue:=l.queue++[v.id] } },[]) else
  ({ s with servs:=s.servs.set i { v with sec:=2,held:=0 },sems:=s.sems.set (q-1).toNat { l with holder:=v.id,dead:=false } },(bif l.dead then [dS s 7 v.id 0] else [])++[dS s 6 v.id q])
 | _,_=>(s,[])
def eF:St->List (Nat×Int)->St×List Ev
 | s,[]=>(s,[])
 | s,(i,q)::r=>let a:=eU s i q;let b:=eF a.1 r;(b.1,a.2++b.2)
def settle(s:St):St×List Ev:=
 let a:=du (s.servs.length+1) (fm s)
 let b:=eF a.1 (asks a.1)
 (b.1,lT s++a.2++b.2)
def free(s:St)(q:Int)(thrown:Bool):St×List Ev:=match s.sems[(q-1).toNat]? with
 | none=>(s,[])
 | some l=>match l.queue with
  | []=>({ s with sems:=s.sems.set (q-1).toNat { l with holder:=0,dead:=thrown } },[])
  | x::r=>match s.servs[at_ s.servs x]? with
   | none=>(s,[])
   | some v=>({ s with sems:=s.sems.set (q-1).toNat { l with holder:=x,queue:=r },servs:=s.servs.set (at_ s.servs x) { v with sec:=2,held:=0 } },(bif thrown then [dS s 7 x 0] else [])++[dS s 6 x q])
def gW(v:Serv):Serv:=
 let v:={ v with s:=(dM v.s 1).1,ran:=bh .i64 v.ran 1 }
 bif cT v.sec 1 then v else
 match v.jobs with
 | []=>v
 | j::r=>
  let v:={ v with jobs:=(eY j 1).1::r }
  bif cT v.sec 2 then { v with held:=bh .i64 v.held 1 } else v
def gE(s:St)(i:Nat):St×List Ev:=match s.servs[i]? with
 | none=>(s,[])
 | some v=>match v.jobs with
  | []=>(s,[])
  | j::r=>
   let x:=(dI j).1
   bif cT j.done x.2 then
    let a:=bif cT v.sec 2 then free { s with servs:=s.servs.set i { v with sec:=0 } } x.1 false else (s,[])
    match a.1.servs[i]? with
    | none=>a
    | some w=>bif cT (eL j).1.at_ (aQ j.prog.length) then ({ a.1 with servs:=a.1.servs.set i { w with jobs:=r } },a.2++[dS s 2 w.id j.num])
     else ({ a.1 with servs:=a.1.servs.set i { w with jobs:=(eL j).1::r } },a.2)
   else bif cT v.sec 2&&(match s.sems[(x.1-1).toNat]? with|some l=>cT v.held l.most|none=>false) then
    let a:=free { s with servs:=s.servs.set i { v with jobs:=r,sec:=0 } } x.1 true
    (a.1,dS s 3 v.id j.num::a.2)
   else (s,[])
def kQ(s:St)(i:Nat):St×List Ev:=match s.servs[i]? with
 | none=>(s,[])
 | some v=>match v.jobs with
  | []=>({ s with servs:=s.servs.set i { v with s:=(fL v.s).1 } },[dS s 10 v.id 0])
  | _::_=>(s,bif cT v.s.mode 2 then [dS s 4 v.id 0] else [])
def gw(s:St)(i:Nat):St×List Ev:=let a:=gE s i;let b:=kQ a.1 i;(b.1,a.2++b.2)
def ends:St->List Nat->St×List Ev
 | s,[]=>(s,[])
 | s,i::r=>let a:=gw s i;let b:=ends a.1 r;(b.1,a.2++b.2)
def runs(s:St):List Nat->St
 | []=>s
 | i::r=>runs (match s.servs[i]? with|some v=>{ s with servs:=s.servs.set i (gW v) }|none=>s) r
def tick(s:St):St×List Ev×Int:=
 bif leI qI s.now then (s,[],6) else
 let a:=settle s
 let pl:=(bm a.1).map (at_ a.1.servs)
 let n:=(fX a.1).length
 let t:=runs a.1 pl
 let u:St:={ t with backs:=t.backs.drop n++(t.backs.take n).map fun b=>{ b with ran:=bh .i64 b.ran 1 },now:=bh .i64 t.now 1 }
 let e:=ends u pl
 (e.1,a.2++e.2,0)
end
end Go.AX.pm
