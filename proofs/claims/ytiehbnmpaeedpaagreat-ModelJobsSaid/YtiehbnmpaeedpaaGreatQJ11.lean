import Derived.Test.YtiehbnmpaeedpaaGreatQJ01
import Derived.Test.YtiehbnmpaeedpaaGreatQJ04
set_option linter.unusedSimpArgs false
set_option linter.unusedVariables false
set_option linter.unusedSectionVars false
namespace Go.AX.pm
open Go.AX
noncomputable section
abbrev horizon:Int:=4611686018427387904
def tGood (t:Int):Bool:=leI 0 t && leI t horizon
def tgood (t:Int):Int×Bool:=bif tGood t then (t,true) else (0,false)
def tIn (n low high:Int):Bool:=leI low n && leI n high
def tAdd (a b:Int):Int×Bool:=bif tGood a && tGood b then tgood (addI .i64 a b) else (0,false)
def tShare (x q p:Int):Int×Bool:=bif tIn x 0 2147483648 && (tIn p 1 2147483648 && tIn q 0 p) then (quoI .i64 (mulI .i64 x q) p,true) else (0,false)
def tUp (t d p:Int):Int×Bool:=bif tGood t && (tGood d && tIn p 1 2147483648) then (bif ltI t d then (d,true) else tgood (addI .i64 d (mulI .i64 (addI .i64 (quoI .i64 (subI .i64 t d) p) 1) p))) else (0,false)
structure Srv where
 q:Int
 p:Int
 bud:Int
 due:Int
 mode:Int
def pair (q p:Int):Bool:=leI 1 p && (leI p 2147483648 && (leI 1 q && leI q p))
def cNew (q p:Int):Srv×Int:=bif pair q p then (⟨q,p,0,0,0⟩,0) else (⟨0,0,0,0,0⟩,1)
def cGood (s:Srv):Bool:=pair s.q s.p && (leI 0 s.bud && (leI s.bud s.q && (tGood s.due && (leI 0 s.mode && (leI s.mode 2 && (neI s.mode 1 || ltI 0 s.bud))))))
def cReady (s:Srv):Srv:=bif eqI s.bud 0 then { s with mode:=2 } else { s with mode:=1 }
def cWake (s:Srv) (now:Int):Srv×Int:=
 bif !cGood s || !tGood now then (s,1) else
 bif neI s.mode 0 then (s,5) else
 bif leI s.due now then
  (bif (tAdd now s.p).2 then (cReady { s with bud:=s.q,due:=(tAdd now s.p).1 },0) else (s,6))
 else
  (bif ltI (mulI .i64 (mnI (subI .i64 s.due now) s.p) s.q) (mulI .i64 s.bud s.p) then (cReady { s with bud:=(tShare (mnI (subI .i64 s.due now) s.p) s.q s.p).1 },0) else (cReady s,0))
def cUse (s:Srv) (n:Int):Srv×Int:=
 bif !cGood s || (ltI n 1 || ltI s.bud n) then (s,1) else
 bif neI s.mode 1 then (s,4) else (cReady { s with bud:=subI .i64 s.bud n },0)
def cIdle (s:Srv):Srv×Int:=bif !cGood s then (s,1) else bif eqI s.mode 0 then (s,4) else ({ s with mode:=0 },0)
def cWait (s:Srv):Srv×Int:=bif !cGood s then (s,1) else bif neI s.mode 1 then (s,4) else ({ s with mode:=2 },0)
def cTurn (s:Srv) (now:Int):Srv×Bool:=
 bif !cGood s || (eqI s.mode 0 || ltI now s.due) then (s,false) else
 bif (tUp now s.due s.p).2 then (cReady { s with bud:=s.q,due:=(tUp now s.due s.p).1 },true) else (s,false)
def gWorst (m most:Int):Int×Int×Bool:=bif ltI m 1 || (ltI 64 m || (ltI most 1 || ltI 1048576 most)) then (0,0,false) else (mulI .i64 (subI .i64 m 1) most,mulI .i64 m most,true)
def gEnough (m most bud left:Int):Bool:=(gWorst m most).2.2 && (leI (gWorst m most).2.1 bud && leI (gWorst m most).2.1 left)
abbrev Step:=Int×Int
def pOdd (s:Step):Bool:=ltI s.1 0 || (ltI 8 s.1 || (ltI s.2 1 || ltI 2147483648 s.2))
def pGood (p:List Step):Bool:=leI 1 (lenI p.length) && (leI (lenI p.length) 8 && !p.any pOdd)
def pFits (p:List Step) (n:Nat):Bool:=pGood p && !p.any fun s=>ltI (lenI n) s.1
structure Job where
 num:Int
 prog:List Step
 at_:Int
 done:Int
def Job.cur (j:Job):Step:=j.prog.getD j.at_.toNat (0,0)
def jGood (j:Job):Bool:=
 !ltI j.num 1 && (pGood j.prog && (!ltI j.at_ 0 && (!ltI (lenI j.prog.length) j.at_ && (!ltI j.done 0 && (bif eqI j.at_ (lenI j.prog.length) then eqI j.done 0 else leI j.done j.cur.2)))))
def jNew (num:Int) (p:List Step):Job×Bool:=bif !pGood p || ltI num 1 then (⟨0,[],0,0⟩,false) else (⟨num,p,0,0⟩,true)
def jStep (j:Job):Step×Bool:=bif !jGood j || eqI j.at_ (lenI j.prog.length) then ((0,0),false) else (j.cur,true)
def jRun (j:Job) (n:Int):Job×Int:=bif !(jStep j).2 then (j,0) else ({ j with done:=addI .i64 j.done (mnI (mxI n 0) (subI .i64 (jStep j).1.2 j.done)) },mnI (mxI n 0) (subI .i64 (jStep j).1.2 j.done))
def jNext (j:Job):Job×Bool:=bif !(jStep j).2 || neI j.done (jStep j).1.2 then (j,false) else ({ j with at_:=addI .i64 j.at_ 1,done:=0 },true)
structure Serv where
 id:Int
 s:Srv
 jobs:List Job
 sec:Int
 held:Int
 num:Int
 ran:Int
structure Lock where
 most:Int
 holder:Int
 queue:List Int
 dead:Bool
structure Back where
 id:Int
 ran:Int
structure St where
 m:Int
 now:Int
 servs:List Serv
 sems:List Lock
 backs:List Back
structure Ev where
 at_:Int
 kind:Int
 who:Int
 n:Int
def mOdd (n:Int):Bool:=ltI n 1 || ltI 1048576 n
def new (m:Int) (most:List Int):St×Int:=
 bif ltI m 1 || (ltI 64 m || (ltI 8 (lenI most.length) || most.any mOdd)) then (⟨0,0,[],[],[]⟩,1) else (⟨m,0,[],most.map fun n=>⟨n,0,[],false⟩,[]⟩,0)
def at_ (l:List Serv) (id:Int):Nat:=(l.takeWhile fun v=>ltI v.id id).length
def has (l:List Serv) (id:Int):Bool:=match l[at_ l id]? with
 | some v=>eqI v.id id
 | none=>false
def back (l:List Back) (id:Int):Option Nat:=l.findIdx? fun b=>eqI b.id id
def Serv.idle (v:Serv):Bool:=eqI v.s.mode 0
def add (s:St) (id q p:Int):St×Int:=
 bif ltI id 1 || ltI 255 id then (s,1) else
 bif has s.servs id then (s,5) else
 bif leI 32 (lenI s.servs.length) then (s,3) else
 bif neI (cNew q p).2 0 then (s,(cNew q p).2) else
 ({ s with servs:=s.servs.take (at_ s.servs id) ++ ⟨id,(cNew q p).1,[],0,0,0,0⟩ :: s.servs.drop (at_ s.servs id) },0)
def event (s:St) (kind who n:Int):Ev:=⟨s.now,kind,who,n⟩
def release (s:St) (id:Int) (p:List Step):St×List Ev×Int:=
 bif !has s.servs id then (s,[],2) else
 bif !pFits p s.sems.length then (s,[],1) else
 match s.servs[at_ s.servs id]? with
 | none=>(s,[],2)
 | some v=>
  bif leI 8 (lenI v.jobs.length) then (s,[],3) else
  let v1:={ v with num:=addI .i64 v.num 1,jobs:=v.jobs ++ [(jNew (addI .i64 v.num 1) p).1] }
  bif !v.idle then ({ s with servs:=s.servs.set (at_ s.servs id) v1 },[event s 1 id v1.num],0) else
  bif neI (cWake v.s s.now).2 0 then (s,[],(cWake v.s s.now).2) else
  ({ s with servs:=s.servs.set (at_ s.servs id) { v1 with s:=(cWake v.s s.now).1 } },[event s 1 id v1.num,event s 9 id 0],0)
def Serv.ent (v:Serv):pl.E:=(v.id,v.s.due,neI v.sec 0)
def ready (l:List Serv):List Serv:=l.filter fun v=>eqI v.s.mode 1
def runners (s:St):List Int:=pl.pick s.m ((ready s.servs).map Serv.ent)
def backers (s:St):List Int:=((s.backs.take (mnI (subI .i64 s.m (lenI (runners s).length)) (lenI s.backs.length)).toNat)).map (·.id)
def asks (s:St):List (Nat×Int):=(runners s).filterMap fun id=>
 match s.servs[at_ s.servs id]? with
 | none=>none
 | some v=>match v.jobs with
  | []=>none
  | j :: _=>bif (jStep j).2 && (ltI 0 (jStep j).1.1 && eqI v.sec 0) then some (at_ s.servs id,(jStep j).1.1) else none
def refuseIn (s:St):List (Nat×Int)→Option (St×Ev)
 | []=>none
 | (i,q) :: r=>match s.servs[i]?,s.sems[(q - 1).toNat]? with
  | some v,some l=>bif gEnough s.m l.most v.s.bud (subI .i64 v.s.due s.now) then refuseIn s r else
   some ({ s with servs:=s.servs.set i { v with s:=(cWait v.s).1 } },event s 8 v.id q)
  | _,_=>none
def refuse (s:St):Option (St×Ev):=refuseIn s (asks s)
def turn1 (now:Int) (v:Serv):Serv×Bool:=bif v.idle || neI v.sec 0 then (v,false) else ({ v with s:=(cTurn v.s now).1 },(cTurn v.s now).2)
def turnS (s:St):St:={ s with servs:=s.servs.map fun v=>(turn1 s.now v).1 }
def turnE (s:St):List Ev:=s.servs.filterMap fun v=>bif (turn1 s.now v).2 then some (event s 5 v.id 0) else none
def refuses:Nat→St→St×List Ev
 | 0,s=>(s,[])
 | n+1,s=>match refuse s with
  | none=>(s,[])
  | some (s',e)=>let r:=refuses n s'; (r.1,e :: r.2)
def grant1 (s:St) (i:Nat) (q:Int):St×List Ev:=match s.servs[i]?,s.sems[(q - 1).toNat]? with
 | some v,some l=>
  bif neI l.holder 0 then ({ s with servs:=s.servs.set i { v with sec:=1 },sems:=s.sems.set (q - 1).toNat { l with queue:=l.queue ++ [v.id] } },[]) else
  ({ s with servs:=s.servs.set i { v with sec:=2,held:=0 },sems:=s.sems.set (q - 1).toNat { l with holder:=v.id,dead:=false } },(bif l.dead then [event s 7 v.id 0] else []) ++ [event s 6 v.id q])
 | _,_=>(s,[])
def grants:St→List (Nat×Int)→St×List Ev
 | s,[]=>(s,[])
 | s,(i,q) :: r=>let a:=grant1 s i q; let b:=grants a.1 r; (b.1,a.2 ++ b.2)
def settle (s:St):St×List Ev:=
 let a:=refuses (s.servs.length+1) (turnS s)
 let b:=grants a.1 (asks a.1)
 (b.1,turnE s ++ a.2 ++ b.2)
def free (s:St) (q:Int) (thrown:Bool):St×List Ev:=match s.sems[(q - 1).toNat]? with
 | none=>(s,[])
 | some l=>match l.queue with
  | []=>({ s with sems:=s.sems.set (q - 1).toNat { l with holder:=0,dead:=thrown } },[])
  | x :: r=>match s.servs[at_ s.servs x]? with
   | none=>(s,[])
   | some v=>({ s with sems:=s.sems.set (q - 1).toNat { l with holder:=x,queue:=r },servs:=s.servs.set (at_ s.servs x) { v with sec:=2,held:=0 } },(bif thrown then [event s 7 x 0] else []) ++ [event s 6 x q])
def run1 (v:Serv):Serv:=
 let v:={ v with s:=(cUse v.s 1).1,ran:=addI .i64 v.ran 1 }
 bif eqI v.sec 1 then v else
 match v.jobs with
 | []=>v
 | j :: r=>
  let v:={ v with jobs:=(jRun j 1).1 :: r }
  bif eqI v.sec 2 then { v with held:=addI .i64 v.held 1 } else v
def end1 (s:St) (i:Nat):St×List Ev:=match s.servs[i]? with
 | none=>(s,[])
 | some v=>match v.jobs with
  | []=>(s,[])
  | j :: r=>
   let x:=(jStep j).1
   bif eqI j.done x.2 then
    let a:=bif eqI v.sec 2 then free { s with servs:=s.servs.set i { v with sec:=0 } } x.1 false else (s,[])
    match a.1.servs[i]? with
    | none=>a
    | some w=>bif eqI (jNext j).1.at_ (lenI j.prog.length) then ({ a.1 with servs:=a.1.servs.set i { w with jobs:=r } },a.2 ++ [event s 2 w.id j.num])
     else ({ a.1 with servs:=a.1.servs.set i { w with jobs:=(jNext j).1 :: r } },a.2)
   else bif eqI v.sec 2 && (match s.sems[(x.1 - 1).toNat]? with | some l=>eqI v.held l.most | none=>false) then
    let a:=free { s with servs:=s.servs.set i { v with jobs:=r,sec:=0 } } x.1 true
    (a.1,event s 3 v.id j.num :: a.2)
   else (s,[])
def end2 (s:St) (i:Nat):St×List Ev:=match s.servs[i]? with
 | none=>(s,[])
 | some v=>match v.jobs with
  | []=>({ s with servs:=s.servs.set i { v with s:=(cIdle v.s).1 } },[event s 10 v.id 0])
  | _ :: _=>(s,bif eqI v.s.mode 2 then [event s 4 v.id 0] else [])
def end_ (s:St) (i:Nat):St×List Ev:=let a:=end1 s i; let b:=end2 a.1 i; (b.1,a.2 ++ b.2)
def ends:St→List Nat→St×List Ev
 | s,[]=>(s,[])
 | s,i :: r=>let a:=end_ s i; let b:=ends a.1 r; (b.1,a.2 ++ b.2)
def runs (s:St):List Nat→St
 | []=>s
 | i :: r=>runs (match s.servs[i]? with | some v=>{ s with servs:=s.servs.set i (run1 v) } | none=>s) r
def tick (s:St):St×List Ev×Int:=
 bif leI horizon s.now then (s,[],6) else
 let a:=settle s
 let pl:=(runners a.1).map (at_ a.1.servs)
 let n:=(backers a.1).length
 let t:=runs a.1 pl
 let u:St:={ t with backs:=t.backs.drop n ++ (t.backs.take n).map fun b=>{ b with ran:=addI .i64 b.ran 1 },now:=addI .i64 t.now 1 }
 let e:=ends u pl
 (e.1,a.2 ++ e.2,0)
end
end Go.AX.pm
