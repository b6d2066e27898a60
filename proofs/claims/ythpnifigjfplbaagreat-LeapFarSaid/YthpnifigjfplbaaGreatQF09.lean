import Derived.Test.YthpnifigjfplbaaGreatQF01
import Derived.Test.YthpnifigjfplbaaGreatQF04
set_option linter.unusedSimpArgs false
set_option linter.unusedVariables false
set_option linter.unusedSectionVars false
namespace Go.AX.pm
open Go.AX
noncomputable section
abbrev rn:Int:=4611686018427387904
def gF(t:Int):Bool:=leI 0 t&&leI t rn
def qO(t:Int):Int×Bool:=bif gF t then (t,true) else (0,false)
def ue(n low high:Int):Bool:=leI low n&&leI n high
def ME(a b:Int):Int×Bool:=bif gF a&&gF b then qO (bh .i64 a b) else (0,false)
def MF(x q p:Int):Int×Bool:=bif ue x 0 2147483648&&(ue p 1 2147483648&&ue q 0 p) then (pw .i64 (io .i64 x q) p,true) else (0,false)
def jH(t d p:Int):Int×Bool:=bif gF t&&(gF d&&ue p 1 2147483648) then (bif cQ t d then (d,true) else qO (bh .i64 d (io .i64 (bh .i64 (pw .i64 (cZ .i64 t d) p) 1) p))) else (0,false)
structure Srv where
 q:Int
 p:Int
 bud:Int
 due:Int
 mode:Int
def pair(q p:Int):Bool:=leI 1 p&&(leI p 2147483648&&(leI 1 q&&leI q p))
def JZ(q p:Int):Srv×Int:=bif pair q p then (⟨q,p,0,0,0⟩,0) else (⟨0,0,0,0,0⟩,1)
def ju(s:Srv):Bool:=pair s.q s.p&&(leI 0 s.bud&&(leI s.bud s.q&&(gF s.due&&(leI 0 s.mode&&(leI s.mode 2&&(dY s.mode 1 || cQ 0 s.bud))))))
def iI(s:Srv):Srv:=bif cT s.bud 0 then { s with mode:=2 } else { s with mode:=1 }
def GI(s:Srv)(now:Int):Srv×Int:=
 bif !ju s || !gF now then (s,1) else
 bif dY s.mode 0 then (s,5) else
 bif leI s.due now then
  (bif (ME now s.p).2 then (iI { s with bud:=s.q,due:=(ME now s.p).1 },0) else (s,6))
 else
  (bif cQ (io .i64 (fN (cZ .i64 s.due now) s.p) s.q) (io .i64 s.bud s.p) then (iI { s with bud:=(MF (fN (cZ .i64 s.due now) s.p) s.q s.p).1 },0) else (iI s,0))
def dB(s:Srv)(n:Int):Srv×Int:=
 bif !ju s || (cQ n 1 || cQ s.bud n) then (s,1) else
 bif dY s.mode 1 then (s,4) else (iI { s with bud:=cZ .i64 s.bud n },0)
def fq(s:Srv):Srv×Int:=bif !ju s then (s,1) else bif cT s.mode 0 then (s,4) else ({ s with mode:=0 },0)
def eI(s:Srv):Srv×Int:=bif !ju s then (s,1) else bif dY s.mode 1 then (s,4) else ({ s with mode:=2 },0)
def dw(s:Srv)(now:Int):Srv×Bool:=
 bif !ju s || (cT s.mode 0 || cQ now s.due) then (s,false) else
 bif (jH now s.due s.p).2 then (iI { s with bud:=s.q,due:=(jH now s.due s.p).1 },true) else (s,false)
def mn(m most:Int):Int×Int×Bool:=bif cQ m 1 || (cQ 64 m || (cQ most 1 || cQ 1048576 most)) then (0,0,false) else (io .i64 (cZ .i64 m 1) most,io .i64 m most,true)
def og(m most bud left:Int):Bool:=(mn m most).2.2&&(leI (mn m most).2.1 bud&&leI (mn m most).2.1 left)
abbrev Step:=Int×Int
def uV(s:Step):Bool:=cQ s.1 0 || (cQ 8 s.1 || (cQ s.2 1 || cQ 2147483648 s.2))
def pGood(p:List Step):Bool:=leI 1 (am p.length)&&(leI (am p.length) 8&&!p.any uV)
def Ns(p:List Step)(n:Nat):Bool:=pGood p&&!p.any fun s=>cQ (am n) s.1
structure Job where
 num:Int
 prog:List Step
 at_:Int
 done:Int
def Job.cur(j:Job):Step:=j.prog.getD j.at_.toNat (0,0)
def nA(j:Job):Bool:=
 !cQ j.num 1&&(pGood j.prog&&(!cQ j.at_ 0&&(!cQ (am j.prog.length) j.at_&&(!cQ j.done 0&&(bif cT j.at_ (am j.prog.length) then cT j.done 0 else leI j.done j.cur.2)))))
def NE(num:Int)(p:List Step):Job×Bool:=bif !pGood p || cQ num 1 then (⟨0,[],0,0⟩,false) else (⟨num,p,0,0⟩,true)
def dD(j:Job):Step×Bool:=bif !nA j || cT j.at_ (am j.prog.length) then ((0,0),false) else (j.cur,true)
def eO(j:Job)(n:Int):Job×Int:=bif !(dD j).2 then (j,0) else ({ j with done:=bh .i64 j.done (fN (jA n 0) (cZ .i64 (dD j).1.2 j.done)) },fN (jA n 0) (cZ .i64 (dD j).1.2 j.done))
def eJ(j:Job):Job×Bool:=bif !(dD j).2 || dY j.done (dD j).1.2 then (j,false) else ({ j with at_:=bh .i64 j.at_ 1,done:=0 },true)
structure Serv where
 id:Int
 s:Srv
 jobs:List Job
 sec:Int
 held:Int
 num:Int
 ran:Int
structure Lock where
 most:Int
 holder:Int
 queue:List Int
 dead:Bool
structure Back where
 id:Int
 ran:Int
structure St where
 m:Int
 now:Int
 servs:List Serv
 sems:List Lock
 backs:List Back
structure Ev where
 at_:Int
 kind:Int
 who:Int
 n:Int
def qC(n:Int):Bool:=cQ n 1 || cQ 1048576 n
def new(m:Int)(most:List Int):St×Int:=
 bif cQ m 1 || (cQ 64 m || (cQ 8 (am most.length) || most.any qC)) then (⟨0,0,[],[],[]⟩,1) else (⟨m,0,[],most.map fun n=>⟨n,0,[],false⟩,[]⟩,0)
def at_(l:List Serv)(id:Int):Nat:=(l.takeWhile fun v=>cQ v.id id).length
def has(l:List Serv)(id:Int):Bool:=match l[at_ l id]? with
 | some v=>cT v.id id
 | none=>false
def back(l:List Back)(id:Int):Option Nat:=l.findIdx? fun b=>cT b.id id
def Serv.idle(v:Serv):Bool:=cT v.s.mode 0
def add(s:St)(id q p:Int):St×Int:=
 bif cQ id 1 || cQ 255 id then (s,1) else
 bif has s.servs id then (s,5) else
 bif leI 32 (am s.servs.length) then (s,3) else
 bif dY (JZ q p).2 0 then (s,(JZ q p).2) else
 ({ s with servs:=s.servs.take (at_ s.servs id)++⟨id,(JZ q p).1,[],0,0,0,0⟩::s.servs.drop (at_ s.servs id) },0)
def dU(s:St)(kind who n:Int):Ev:=⟨s.now,kind,who,n⟩
def release(s:St)(id:Int)(p:List Step):St×List Ev×Int:=
 bif !has s.servs id then (s,[],2) else
 bif !Ns p s.sems.length then (s,[],1) else
 match s.servs[at_ s.servs id]? with
 | none=>(s,[],2)
 | some v=>
  bif leI 8 (am v.jobs.length) then (s,[],3) else
  let v1:={ v with num:=bh .i64 v.num 1,jobs:=v.jobs++[(NE (bh .i64 v.num 1) p).1] }
  bif !v.idle then ({ s with servs:=s.servs.set (at_ s.servs id) v1 },[dU s 1 id v1.num],0) else
  bif dY (GI v.s s.now).2 0 then (s,[],(GI v.s s.now).2) else
  ({ s with servs:=s.servs.set (at_ s.servs id) { v1 with s:=(GI v.s s.now).1 } },[dU s 1 id v1.num,dU s 9 id 0],0)
def gG(s:St)(id:Int)(on:Bool):St×Int:=
 bif cQ id 1 || cQ 255 id then (s,1) else
 match on,back s.backs id with
 | true,some _=>(s,5)
 | true,none=>bif leI 16 (am s.backs.length) then (s,3) else ({ s with backs:=s.backs++[⟨id,0⟩] },0)
 | false,none=>(s,2)
 | false,some i=>({ s with backs:=s.backs.eraseIdx i },0)
def Serv.ent(v:Serv):pl.E:=(v.id,v.s.due,dY v.sec 0)
def ready(l:List Serv):List Serv:=l.filter fun v=>cT v.s.mode 1
def aQ(s:St):List Int:=pl.pick s.m ((ready s.servs).map Serv.ent)
def fu(s:St):List Int:=((s.backs.take (fN (cZ .i64 s.m (am (aQ s).length)) (am s.backs.length)).toNat)).map (·.id)
def asks(s:St):List (Nat×Int):=(aQ s).filterMap fun id=>
 match s.servs[at_ s.servs id]? with
 | none=>none
 | some v=>match v.jobs with
  | []=>none
  | j::_=>bif (dD j).2&&(cQ 0 (dD j).1.1&&cT v.sec 0) then some (at_ s.servs id,(dD j).1.1) else none
def lg(s:St):List (Nat×Int)->Option (St×Ev)
 | []=>none
 | (i,q)::r=>match s.servs[i]?,s.sems[(q-1).toNat]? with
  | some v,some l=>bif og s.m l.most v.s.bud (cZ .i64 v.s.due s.now) then lg s r else
   some ({ s with servs:=s.servs.set i { v with s:=(eI v.s).1 } },dU s 8 v.id q)
  | _,_=>none
def refuse(s:St):Option (St×Ev):=lg s (asks s)
def eY(now:Int)(v:Serv):Serv×Bool:=bif v.idle || dY v.sec 0 then (v,false) else ({ v with s:=(dw v.s now).1 },(dw v.s now).2)
def fG(s:St):St:={ s with servs:=s.servs.map fun v=>(eY s.now v).1 }
def mH(s:St):List Ev:=s.servs.filterMap fun v=>bif (eY s.now v).2 then some (dU s 5 v.id 0) else none
def dt:Nat->St->St×List Ev
 | 0,s=>(s,[])
 | n+1,s=>match refuse s with
  | none=>(s,[])
  | some (s',e)=>let r:=dt n s';(r.1,e::r.2)
def eX(s:St)(i:Nat)(q:Int):St×List Ev:=match s.servs[i]?,s.sems[(q-1).toNat]? with
 | some v,some l=>
  bif dY l.holder 0 then ({ s with servs:=s.servs.set i { v with sec:=1 },sems:=s.sems.set (q-1).toNat { l with queue:=l.queue++[v.id] } },[]) else
  ({ s with servs:=s.servs.set i { v with sec:=2,held:=0 },sems:=s.sems.set (q-1).toNat { l with holder:=v.id,dead:=false } },(bif l.dead then [dU s 7 v.id 0] else [])++[dU s 6 v.id q])
 | _,_=>(s,[])
def eD:St->List (Nat×Int)->St×List Ev
 | s,[]=>(s,[])
 | s,(i,q)::r=>let a:=eX s i q;let b:=eD a.1 r;(b.1,a.2++b.2)
def settle(s:St):St×List Ev:=
 let a:=dt (s.servs.length+1) (fG s)
 let b:=eD a.1 (asks a.1)
 (b.1,mH s++a.2++b.2)
def free(s:St)(q:Int)(thrown:Bool):St×List Ev:=match s.sems[(q-1).toNat]? with
 | none=>(s,[])
 | some l=>match l.queue with
  | []=>({ s with sems:=s.sems.set (q-1).toNat { l with holder:=0,dead:=thrown } },[])
  | x::r=>match s.servs[at_ s.servs x]? with
   | none=>(s,[])
   | some v=>({ s with sems:=s.sems.set (q-1).toNat { l with holder:=x,queue:=r },servs:=s.servs.set (at_ s.servs x) { v with sec:=2,held:=0 } },(bif thrown then [dU s 7 x 0] else [])++[dU s 6 x q])
def gy(v:Serv):Serv:=
 let v:={ v with s:=(dB v.s 1).1,ran:=bh .i64 v.ran 1 }
 bif cT v.sec 1 then v else
 match v.jobs with
 | []=>v
 | j::r=>
  let v:={ v with jobs:=(eO j 1).1::r }
  bif cT v.sec 2 then { v with held:=bh .i64 v.held 1 } else v
def gT(s:St)(i:Nat):St×List Ev:=match s.servs[i]? with
 | none=>(s,[])
 | some v=>match v.jobs with
  | []=>(s,[])
  | j::r=>
   let x:=(dD j).1
   bif cT j.done x.2 then
    let a:=bif cT v.sec 2 then free { s with servs:=s.servs.set i { v with sec:=0 } } x.1 false else (s,[])
    match a.1.servs[i]? with
    | none=>a
    | some w=>bif cT (eJ j).1.at_ (am j.prog.length) then ({ a.1 with servs:=a.1.servs.set i { w with jobs:=r } },a.2++[dU s 2 w.id j.num])
     else ({ a.1 with servs:=a.1.servs.set i { w with jobs:=(eJ j).1::r } },a.2)
   else bif cT v.sec 2&&(match s.sems[(x.1-1).toNat]? with|some l=>cT v.held l.most|none=>false) then
    let a:=free { s with servs:=s.servs.set i { v with jobs:=r,sec:=0 } } x.1 true
    (a.1,dU s 3 v.id j.num::a.2)
   else (s,[])
def lM(s:St)(i:Nat):St×List Ev:=match s.servs[i]? with
 | none=>(s,[])
 | some v=>match v.jobs with
  | []=>({ s with servs:=s.servs.set i { v with s:=(fq v.s).1 } },[dU s 10 v.id 0])
  | _::_=>(s,bif cT v.s.mode 2 then [dU s 4 v.id 0] else [])
def gn(s:St)(i:Nat):St×List Ev:=let a:=gT s i;let b:=lM a.1 i;(b.1,a.2++b.2)
def ends:St->List Nat->St×List Ev
 | s,[]=>(s,[])
 | s,i::r=>let a:=gn s i;let b:=ends a.1 r;(b.1,a.2++b.2)
def runs(s:St):List Nat->St
 | []=>s
 | i::r=>runs (match s.servs[i]? with|some v=>{ s with servs:=s.servs.set i (gy v) }|none=>s) r
def tick(s:St):St×List Ev×Int:=
 bif leI rn s.now then (s,[],6) else
 let a:=settle s
 let pl:=(aQ a.1).map (at_ a.1.servs)
 let n:=(fu a.1).length
 let t:=runs a.1 pl
 let u:St:={ t with backs:=t.backs.drop n++(t.backs.take n).map fun b=>{ b with ran:=bh .i64 b.ran 1 },now:=bh .i64 t.now 1 }
 let e:=ends u pl
 (e.1,a.2++e.2,0)
end
end Go.AX.pm
