import Derived.Test.YtiehbnmpaeedpaaGreatQJ29
set_option linter.unusedSimpArgs false
set_option linter.unusedVariables false
set_option linter.unusedSectionVars false
namespace Go.AX.pm
open Go.AX
noncomputable section
def sv (q p w r:Int):Srv:=⟨q,p,q - min r q,(w+1)*p,if q - min r q=0 then 2 else 1⟩
def job1 (n d:Int):Job:=⟨1,[(0,n)],0,d⟩
def serv1 (q p n w r:Int):Serv:=⟨1,sv q p w r,[job1 n (w*q+min r q)],0,0,1,w*q+min r q⟩
def lone (q p n w r:Int):St:=⟨1,w*p+r,[serv1 q p n w r],[],[]⟩
theorem at_one (x:Serv) (h:x.id=1):at_ [x] 1=0:=by
 unfold at_
 rw [List.takeWhile_cons,h,show ltI 1 1=false from ltI_false.2 (by decide)]; rfl
theorem runners_one {B:Int} {t:Int} {x:Serv} (h:Iv B ⟨1,t,[x],[],[]⟩) (hid:x.id=1):runners ⟨1,t,[x],[],[]⟩=bif eqI x.s.mode 1 then [1] else []:=by
 have g:=ents_good h
 have hl:=pl.pick_length g
 have e:ents ⟨1,t,[x],[],[]⟩=bif eqI x.s.mode 1 then [x.ent] else []:=by
  unfold ents ready
  cases hm:eqI x.s.mode 1 with
  | true=>simp [hm]
  | false=>simp [hm]
 show pl.pick 1 (ents _)=_
 cases hm:eqI x.s.mode 1 with
 | true=>
  rw [hm] at e
  simp only [cond_true] at e ⊢
  change (pl.pick 1 (ents _)).length=_ at hl
  have hall:∀ i∈pl.pick 1 (ents ⟨1,t,[x],[],[]⟩),i=1:=fun i hi=>by
   obtain ⟨y,hy,rfl⟩:=pl.mem_pick.1 hi
   have:=pl.run_sub hy
   rw [e] at this
   rw [List.mem_singleton.1 this]; exact hid
  rw [e] at hl hall ⊢
  match hh:pl.pick 1 [x.ent],hl,hall with
  | [a],_,hall=>rw [hall a (List.mem_cons_self ..)]
  | [],hl,_=>simp at hl
  | _ :: _ :: _,hl,_=>simp at hl
 | false=>
  rw [hm] at e
  simp only [cond_false] at e ⊢
  change (pl.pick 1 (ents _)).length=_ at hl
  rw [e] at hl ⊢
  exact List.eq_nil_of_length_eq_zero (by simpa using hl)
theorem lone_asks {B:Int} {q p n w r:Int} (h:Iv B (lone q p n w r)):Asked (lone q p n w r):=by
 intro x hx _ _
 have:x=serv1 q p n w r:=by simpa [lone] using hx
 subst this
 show (0:Int)≤0
 exact Int.le_refl _
theorem lone_still {B:Int} {q p n w r:Int} (h:Iv B (lone q p n w r)) (hr:r < p):settle (lone q p n w r)=(lone q p n w r,[]):=by
 refine settle_still h (lone_asks h) fun x hx=>?_
 have hx':x=serv1 q p n w r:=by simpa [lone] using hx
 subst hx'
 unfold Turned turn1
 cases hc:((serv1 q p n w r).idle || neI (serv1 q p n w r).sec 0) with
 | true=>rfl
 | false=>
  simp only [cond_false]
  have hno:(cTurn (serv1 q p n w r).s (lone q p n w r).now).2=false:=by
   unfold cTurn
   have:ltI (lone q p n w r).now (serv1 q p n w r).s.due=true:=by
    rw [ltI_true]
    show w*p+r < (w+1)*p
    rw [Int.add_mul]; omega
   rw [this,Bool.or_true,Bool.or_true]; rfl
  rw [cTurn_no hno,hno]
theorem lone_turn {B:Int} {q p n w:Int} (h:Iv B (lone q p n w p)) (hq:1≤q) (hqp:q≤p) (hp:p≤50) (hw:0≤w) (hw2:w≤1000):∃ e,settle (lone q p n w p)=(lone q p n (w+1) 0,[e])∧e.kind=5:=by
 have hg:=h.serv (serv1 q p n w p) (by simp [lone])
 have hmul:w*p≤1000*50:=Int.mul_le_mul hw2 hp (by omega) (by omega)
 have hmul0:0≤w*p:=Int.mul_nonneg hw (by omega)
 have hdue:(w+1)*p=w*p+p:=by rw [Int.add_mul]; omega
 have hnext:(w+1+1)*p=w*p+p+p:=by rw [Int.add_mul,Int.add_mul]; omega
 have hmin:min p q=q:=by omega
 have hmode:(sv q p w p).mode=2:=by
  unfold sv; simp only [hmin]; rw [if_pos (by omega)]
 have hup:tUp (w*p+p) ((w+1)*p) p=((w+1+1)*p,true):=by
  unfold tUp
  have h1:tGood (w*p+p)=true:=tGood_iff.2 ⟨by omega,by omega⟩
  have h2:tGood ((w+1)*p)=true:=tGood_iff.2 ⟨by omega,by omega⟩
  have h3:tIn p 1 2147483648=true:=by unfold tIn; rw [leI_true.2 (by omega),leI_true.2 (by omega)]; rfl
  rw [h1,h2,h3]
  have h4:ltI (w*p+p) ((w+1)*p)=false:=ltI_false.2 (by omega)
  rw [h4]
  have e1:subI .i64 (w*p+p) ((w+1)*p)=0:=by rw [subI_64 (by omega) (by omega)]; omega
  have e2:quoI .i64 0 p=0:=by unfold quoI; rw [Int.zero_tdiv]; exact wrapI_64 (by omega) (by omega)
  have e3:addI .i64 0 1=1:=addI_64 (by omega) (by omega)
  have e4:mulI .i64 1 p=p:=by rw [mulI_64 (by omega) (by omega)]; omega
  have e5:addI .i64 ((w+1)*p) p=(w+1+1)*p:=by rw [addI_64 (by omega) (by omega)]; omega
  rw [e1,e2,e3,e4,e5]
  unfold tgood
  rw [tGood_iff.2 (show 0≤(w+1+1)*p∧(w+1+1)*p≤4611686018427387904 from ⟨by omega,by omega⟩)]; rfl
 have hturn:cTurn (sv q p w p) (w*p+p)=(sv q p (w+1) 0,true):=by
  unfold cTurn
  rw [show cGood (sv q p w p)=true from cGood_iff.2 hg.s]
  have e0:eqI (sv q p w p).mode 0=false:=by rw [hmode]; exact eqI_false.2 (by decide)
  have e1:ltI (w*p+p) (sv q p w p).due=false:=ltI_false.2 (by show (w+1)*p≤_; omega)
  have e2:tUp (w*p+p) (sv q p w p).due (sv q p w p).p=((w+1+1)*p,true):=hup
  rw [e0,e1,e2]
  show (cReady { (sv q p w p) with bud:=q,due:=(w+1+1)*p },true)=_
  unfold cReady
  have e3:eqI q 0=false:=eqI_false.2 (by omega)
  simp only [e3,cond_false]
  unfold sv
  have e4:min 0 q=0:=by omega
  simp only [e4]
  rw [if_neg (by omega)]
  congr 2
  omega
 have hidle:(serv1 q p n w p).idle=false:=by
  unfold Serv.idle
  show eqI (sv q p w p).mode 0=false
  rw [hmode]; exact eqI_false.2 (by decide)
 have ht1:turn1 (lone q p n w p).now (serv1 q p n w p)=(serv1 q p n (w+1) 0,true):=by
  unfold turn1
  rw [hidle,show neI (serv1 q p n w p).sec 0=false from neI_false.2 rfl]
  simp only [Bool.or_false,cond_false]
  rw [show cTurn (serv1 q p n w p).s (lone q p n w p).now=(sv q p (w+1) 0,true) from hturn]
  unfold serv1
  have e4:min 0 q=0:=by omega
  have e5:(w+1)*q=w*q+q:=by rw [Int.add_mul]; omega
  simp only [hmin,e4,e5]
  congr 2
  ·simp [job1]
  ·simp
 have hS:turnS (lone q p n w p)=lone q p n (w+1) 0:=by
  unfold turnS
  show (⟨1,w*p+p,[(turn1 (lone q p n w p).now (serv1 q p n w p)).1],[],[]⟩:St)=⟨1,(w+1)*p+0,_,[],[]⟩
  rw [ht1]
  congr 1
  omega
 have hE:∃ e,turnE (lone q p n w p)=[e]∧e.kind=5:=by
  unfold turnE
  refine ⟨event (lone q p n w p) 5 1 0,?_,rfl⟩
  show List.filterMap _ [serv1 q p n w p]=_
  rw [List.filterMap_cons,ht1]; rfl
 have hI':Iv B (lone q p n (w+1) 0):=hS ▸ turnS_iv h
 have hn:=asks_none hI' (lone_asks hI')
 obtain ⟨e,he,hk⟩:=hE
 refine ⟨e,?_,hk⟩
 unfold settle
 rw [hS,he]
 have e4:refuses ((lone q p n w p).servs.length+1) (lone q p n (w+1) 0)=(lone q p n (w+1) 0,[]):=by
  unfold refuses refuse
  rw [hn]; rfl
 simp only [e4,hn]
 rfl
theorem lone_tick {B:Int} {q p n w r:Int} (h:Iv B (lone q p n w r)) (hq:1≤q) (hqp:q≤p) (hp:p≤50) (hr0:0≤r) (hr:r < p) (hw:0≤w) (hw2:w≤1000) (hn:n≤60) (hd:w*q+min r q < n) :
  (w*q+min (r+1) q < n→∃ l,tick (lone q p n w r)=(lone q p n w (r+1),l,0)∧∀ e∈l,e.kind≠2) ∧
  (w*q+min (r+1) q=n→∃ τ l,tick (lone q p n w r)=(τ,l,0)∧(∃ e∈l,e.kind=2)∧∃ x,τ.servs=[x]∧x.id=1∧x.ran=n∧x.s.mode=0):=by
 have hmul:w*p≤1000*50:=Int.mul_le_mul hw2 hp (by omega) (by omega)
 have hmul0:0≤w*p:=Int.mul_nonneg hw (by omega)
 have hwq0:0≤w*q:=Int.mul_nonneg hw (by omega)
 have hg:=h.serv (serv1 q p n w r) (by simp [lone])
 have hnow:(lone q p n w r).now < 4611686018427387904:=by show w*p+r < _; omega
 rw [tick_eq hnow]
 simp only [lone_still h hr,List.nil_append]
 have hrun:=runners_one (x:=serv1 q p n w r) (t:=w*p+r) h rfl
 change runners (lone q p n w r)=_ at hrun
 have hinc:addI .i64 (w*p+r) 1=w*p+(r+1):=by rw [addI_64 (by omega) (by omega)]; omega
 have hbk:turned ([]:List Back) (backers (lone q p n w r)).length=[]:=by simp [turned]
 by_cases hrq:r < q
 ·
  have hmin:min r q=r:=by omega
  have hmin1:min (r+1) q=r+1:=by omega
  have hmode:(sv q p w r).mode=1:=by unfold sv; rw [if_neg (by omega)]
  rw [show eqI (serv1 q p n w r).s.mode 1=true from eqI_true.2 hmode] at hrun
  simp only [cond_true] at hrun
  rw [hrun]
  simp only [List.map_cons,List.map_nil,at_one (serv1 q p n w r) rfl,show (lone q p n w r).servs=[serv1 q p n w r] from rfl]
  have huse:(cUse (sv q p w r) 1).1=sv q p w (r+1):=by
   unfold cUse
   rw [show cGood (sv q p w r)=true from cGood_iff.2 hg.s,show ltI (1:Int) 1=false from ltI_false.2 (by decide),show ltI (sv q p w r).bud 1=false from ltI_false.2 (by show 1≤q - min r q; omega),show neI (sv q p w r).mode 1=false from neI_false.2 hmode]
   show cReady { (sv q p w r) with bud:=subI .i64 (q - min r q) 1 }=_
   have e1:subI .i64 (q - min r q) 1=q - min (r+1) q:=by rw [subI_64 (by omega) (by omega)]; omega
   rw [e1]
   unfold cReady
   by_cases hz:q - min (r+1) q=0
   ·simp only [eqI_true.2 hz,cond_true]
    unfold sv; rw [if_pos hz]
   ·simp only [eqI_false.2 hz,cond_false]
    unfold sv; rw [if_neg hz]
  have hJ:GoodJ 0 (job1 n (w*q+min r q)):=hg.jobs _ (by simp [serv1])
  have hjr:(jRun (job1 n (w*q+min r q)) 1).1=job1 n (w*q+min (r+1) q):=by
   unfold jRun
   rw [hJ.step]
   simp only [Bool.not_true,cond_false]
   have hcur:(job1 n (w*q+min r q)).cur=(0,n):=rfl
   rw [hcur]
   unfold job1
   simp only
   have e1:mnI (mxI 1 0) (subI .i64 n (w*q+min r q))=1:=by
    rw [subI_64 (by omega) (by omega)]
    unfold mnI mxI
    rw [if_neg (show ¬ (1:Int) < 0 by decide),if_neg (by omega)]
   rw [e1,addI_64 (by omega) (by omega)]
   congr 1
   omega
  have hr1:run1 (serv1 q p n w r)=⟨1,sv q p w (r+1),[job1 n (w*q+min (r+1) q)],0,0,1,w*q+min (r+1) q⟩:=by
   rw [run1_eq]
   have e1:ranJobs (serv1 q p n w r)=[job1 n (w*q+min (r+1) q)]:=by
    unfold ranJobs
    rw [if_neg (by show (0:Int)≠1; decide)]
    show [(jRun (job1 n (w*q+min r q)) 1).1]=_
    rw [hjr]
   have e2:ranHeld (serv1 q p n w r)=0:=by
    unfold ranHeld
    rw [if_neg (by show (0:Int)≠1; decide)]
    show (bif eqI (0:Int) 2 then addI .i64 0 1 else 0)=0
    rw [show eqI (0:Int) 2=false from eqI_false.2 (by decide)]; rfl
   rw [e1,e2]
   show (⟨1,(cUse (sv q p w r) 1).1,_,0,0,1,addI .i64 (w*q+min r q) 1⟩:Serv)=_
   rw [huse,addI_64 (by omega) (by omega)]
   congr 1
   omega
  have hruns:runs (lone q p n w r) [0]=⟨1,w*p+r,[serv1 q p n w (r+1)],[],[]⟩:=by
   unfold runs runs
   show ({ lone q p n w r with servs:=[run1 (serv1 q p n w r)] }:St)=_
   rw [hr1]; rfl
  rw [hruns]
  simp only [hbk,hinc]
  have hL:RunPl (lone q p n w r) [0]:=by
   refine ⟨by simp,fun z hz=>?_⟩
   rw [List.mem_singleton.1 hz]
   exact ⟨serv1 q p n w r,rfl,hmode,by simp [serv1],fun _=>by show (0:Int)≤0; omega⟩
  have hI2:=(ran_iv h hnow hL 0).1
  rw [hruns] at hI2
  have hg2:=hI2.serv (serv1 q p n w (r+1)) (by simp)
  have hJ2:GoodJ 0 (job1 n (w*q+min (r+1) q)):=hg2.jobs _ (by simp [serv1])
  have hst2:jStep (job1 n (w*q+min (r+1) q))=((0,n),true):=hJ2.step
  have hends:∀ σ : St,ends σ [0]=((end_ σ 0).1,(end_ σ 0).2 ++ []):=fun σ=>rfl
  rw [hends]
  have hsec:(serv1 q p n w (r+1)).sec=0:=rfl
  refine ⟨fun hlt=>?_,fun heq=>?_⟩
  ·have e1:end1 ⟨1,w*p+(r+1),[serv1 q p n w (r+1)],[],[]⟩ 0=(⟨1,w*p+(r+1),[serv1 q p n w (r+1)],[],[]⟩,[]):=by
    unfold end1
    show (bif eqI (job1 n (w*q+min (r+1) q)).done (jStep (job1 n (w*q+min (r+1) q))).1.2 then _ else _)=_
    rw [hst2,show eqI (job1 n (w*q+min (r+1) q)).done n=false from eqI_false.2 (by show w*q+min (r+1) q≠n; omega)]
    rw [cond_false,show eqI (serv1 q p n w (r+1)).sec 2=false from eqI_false.2 (by show (0:Int)≠2; decide),Bool.false_and]; rfl
   refine ⟨(end2 ⟨1,w*p+(r+1),[serv1 q p n w (r+1)],[],[]⟩ 0).2,?_,?_⟩
   ·unfold end_
    simp only [e1,List.nil_append,List.append_nil]
    rfl
   ·intro e he
    have he2:e∈(bif eqI (sv q p w (r+1)).mode 2 then [event ⟨1,w*p+(r+1),[serv1 q p n w (r+1)],[],[]⟩ 4 1 0] else []):=he
    revert he2
    cases eqI (sv q p w (r+1)).mode 2 with
    | true=>intro he2; rw [List.mem_singleton.1 he2]; show (4:Int)≠2; decide
    | false=>intro he2; cases he2
  ·have hnx:(jNext (job1 n (w*q+min (r+1) q))).1.at_=1:=by
    rw [(jNext_good hJ2 heq).1]; rfl
   have e1:end1 ⟨1,w*p+(r+1),[serv1 q p n w (r+1)],[],[]⟩ 0=(⟨1,w*p+(r+1),[{ serv1 q p n w (r+1) with jobs:=[] }],[],[]⟩,[event ⟨1,w*p+(r+1),[serv1 q p n w (r+1)],[],[]⟩ 2 1 1]):=by
    unfold end1
    show (bif eqI (job1 n (w*q+min (r+1) q)).done (jStep (job1 n (w*q+min (r+1) q))).1.2 then _ else _)=_
    rw [hst2,show eqI (job1 n (w*q+min (r+1) q)).done n=true from eqI_true.2 heq]
    rw [cond_true,show eqI (serv1 q p n w (r+1)).sec 2=false from eqI_false.2 (by show (0:Int)≠2; decide)]
    show (bif eqI (jNext (job1 n (w*q+min (r+1) q))).1.at_ (lenI 1) then _ else _)=_
    rw [hnx,show eqI 1 (lenI 1)=true from eqI_true.2 rfl]; rfl
   refine ⟨_,_,rfl,?_,?_⟩
   ·refine ⟨event ⟨1,w*p+(r+1),[serv1 q p n w (r+1)],[],[]⟩ 2 1 1,?_,rfl⟩
    unfold end_
    simp only [e1]
    simp
   ·unfold end_
    simp only [e1]
    refine ⟨{ serv1 q p n w (r+1) with jobs:=[],s:=(cIdle (sv q p w (r+1))).1 },rfl,rfl,heq,?_⟩
    exact (cIdle_good hg2.s).2
 ·
  have hmin:min r q=q:=by omega
  have hmin1:min (r+1) q=q:=by omega
  have hmode:(sv q p w r).mode=2:=by unfold sv; rw [if_pos (by omega)]
  rw [show eqI (serv1 q p n w r).s.mode 1=false from eqI_false.2 (by show (sv q p w r).mode≠1; rw [hmode]; decide)] at hrun
  simp only [cond_false] at hrun
  rw [hrun]
  refine ⟨fun _=>⟨[],?_,fun e he=>by cases he⟩,fun heq=>by omega⟩
  show (({ lone q p n w r with backs:=turned [] (backers (lone q p n w r)).length,now:=addI .i64 (w*p+r) 1 }:St),([]:List Ev),(0:Int))=_
  rw [hbk,hinc]
  unfold lone serv1 sv
  simp only [hmin,hmin1]
theorem lone_begin {q p n:Int} (hq:1≤q) (hqp:q≤p) (hp:p≤50) (hn:1≤n) (hn2:n≤60) :
  new 1 []=(⟨1,0,[],[],[]⟩,0)∧add ⟨1,0,[],[],[]⟩ 1 q p=(⟨1,0,[⟨1,⟨q,p,0,0,0⟩,[],0,0,0,0⟩],[],[]⟩,0) ∧
  ∃ l,release ⟨1,0,[⟨1,⟨q,p,0,0,0⟩,[],0,0,0,0⟩],[],[]⟩ 1 [(0,n)]=(lone q p n 0 0,l,0):=by
 have i1:ltI (1:Int) 1=false:=ltI_false.2 (by decide)
 have i2:ltI (255:Int) 1=false:=ltI_false.2 (by decide)
 have hpair:pair q p=true:=pair_iff.2 ⟨by omega,by omega,hq,hqp⟩
 refine ⟨?_,?_,?_⟩
 ·unfold new
  rw [i1,show ltI (64:Int) 1=false from ltI_false.2 (by decide),show ltI 8 (lenI ([]:List Int).length)=false from ltI_false.2 (by decide)]
  rfl
 ·unfold add
  rw [i1,i2,show has ([]:List Serv) 1=false from rfl,show leI 32 (lenI ([]:List Serv).length)=false from leI_false.2 (by decide)]
  have hc:cNew q p=(⟨q,p,0,0,0⟩,0):=by unfold cNew; rw [hpair]; rfl
  rw [hc,show neI (0:Int) 0=false from neI_false.2 rfl]
  rfl
 ·unfold release
  have hat:at_ [(⟨1,⟨q,p,0,0,0⟩,[],0,0,0,0⟩:Serv)] 1=0:=at_one _ rfl
  have hhas:has [(⟨1,⟨q,p,0,0,0⟩,[],0,0,0,0⟩:Serv)] 1=true:=by
   unfold has; rw [hat]; exact eqI_true.2 rfl
  have hfit:pFits [(0,n)] 0=true:=by
   refine pFits_iff.2 ⟨pGood_iff.2 ⟨by simp,by simp,fun s hs=>?_⟩,fun s hs=>?_⟩
   ·rw [List.mem_singleton.1 hs]; exact ⟨by simp,by simp,hn,by simp; omega⟩
   ·rw [List.mem_singleton.1 hs]; simp
  have hone:addI .i64 0 1=1:=addI_64 (by omega) (by omega)
  have hj:jNew 1 [(0,n)]=(⟨1,[(0,n)],0,0⟩,true):=(jNew_good hfit (by omega)).1
  have hidle:(⟨1,⟨q,p,0,0,0⟩,[],0,0,0,0⟩:Serv).idle=true:=eqI_true.2 rfl
  have hadd:tAdd 0 p=(p,true):=by
   unfold tAdd tgood
   have h1:tGood 0=true:=tGood_iff.2 ⟨by omega,by omega⟩
   have h2:tGood p=true:=tGood_iff.2 ⟨by omega,by omega⟩
   have h3:addI .i64 0 p=p:=by rw [addI_64 (by omega) (by omega)]; omega
   rw [h1,h2,h3,h2]; rfl
  have hwake:cWake ⟨q,p,0,0,0⟩ 0=(sv q p 0 0,0):=by
   unfold cWake
   have hg:cGood ⟨q,p,0,0,0⟩=true:=cGood_iff.2 ⟨by simp; omega,by simp; omega,hq,hqp,by simp,by simp; omega,by simp,by simp,by simp,by simp,.inl (by simp)⟩
   have h1:tGood 0=true:=tGood_iff.2 ⟨by omega,by omega⟩
   rw [hg,h1]
   simp only [hadd,show neI (0:Int) 0=false from neI_false.2 rfl,show leI (0:Int) 0=true from leI_true.2 (by decide),Bool.not_true,Bool.or_self,cond_false,cond_true]
   unfold cReady sv
   have h2:eqI q 0=false:=eqI_false.2 (by omega)
   have h3:min 0 q=0:=by omega
   simp only [h2,h3,cond_false]
   rw [if_neg (by omega)]
   congr 2
   ·omega
   ·omega
  simp only [hhas,hfit,hat,Bool.not_true,cond_false,List.length_nil,hidle,hone,hj,hwake,List.getElem?_cons_zero,show leI 8 (lenI 0)=false from leI_false.2 (by decide),show neI (0:Int) 0=false from neI_false.2 rfl]
  refine ⟨_,Prod.ext ?_ rfl⟩
  unfold lone serv1 job1
  have h3:min 0 q=0:=by omega
  simp only [h3,Int.zero_mul,Int.add_zero]
  rfl
def wants (q p n:Int):Int:=(n - 1) / q*p+n - (n - 1) / q*q
theorem wants_bnd {q p n:Int} (hq:1≤q) (hqp:q≤p) (hp:p≤50) (hn:1≤n) (hn2:n≤60):0≤(n - 1) / q∧(n - 1) / q≤59∧0≤(n - 1) / q*p∧(n - 1) / q*p≤2950∧0≤(n - 1) / q*q∧(n - 1) / q*q≤n - 1∧n - (n - 1) / q*q≤q:=by
 have h2:=Int.emod_nonneg (n - 1) (show q≠0 by omega)
 have h3:=Int.emod_lt_of_pos (n - 1) (show 0 < q by omega)
 have h4:=Int.mul_ediv_add_emod (n - 1) q
 have h6:0≤(n - 1) / q:=Int.ediv_nonneg (by omega) (by omega)
 have h7:(n - 1) / q≤n - 1:=Int.ediv_le_self _ (by omega)
 have h5:q*((n - 1) / q)=(n - 1) / q*q:=Int.mul_comm _ _
 have h8:(n - 1) / q*p≤59*50:=Int.mul_le_mul (by omega) hp (by omega) (by omega)
 have h9:0≤(n - 1) / q*p:=Int.mul_nonneg h6 (by omega)
 have h10:0≤(n - 1) / q*q:=Int.mul_nonneg h6 (by omega)
 refine ⟨h6,by omega,h9,by omega,h10,by omega,by omega⟩
theorem place_one {p a b r s:Int} (hp:1≤p) (hr:1≤r) (hr2:r≤p) (hs:1≤s) (hs2:s≤p) (h:a*p+r=b*p+s):a=b∧r=s:=by
 rcases Int.lt_trichotomy a b with hl | he | hl
 ·have:=Int.mul_le_mul_of_nonneg_right (show a+1≤b by omega) (show 0≤p by omega)
  rw [Int.add_mul] at this; omega
 ·subst he; exact ⟨rfl,by omega⟩
 ·have:=Int.mul_le_mul_of_nonneg_right (show b+1≤a by omega) (show 0≤p by omega)
  rw [Int.add_mul] at this; omega
theorem lone_next {B:Int} {q p n w r:Int} (h:Iv B (lone q p n w r)) (hq:1≤q) (hqp:q≤p) (hp:p≤50) (hr0:0≤r) (hr:r≤p) (hw:0≤w) (hn:1≤n) (hn2:n≤60) (hd:w*q+min r q < n) :
  ∃ τ l,tick (lone q p n w r)=(τ,l,0) ∧
   ((w*p+r+1≠wants q p n∧(∀ e∈l,e.kind≠2)∧∃ w' r',τ = lone q p n w' r'∧0≤w'∧0≤r'∧r'≤p∧w'*p+r'=w*p+r+1∧w'*q+min r' q < n) ∨
    (w*p+r+1=wants q p n∧(∃ e∈l,e.kind=2)∧∃ x,τ.servs=[x]∧x.id=1∧x.ran=n∧x.s.mode=0)):=by
 have inner:∀ {w r:Int},Iv B (lone q p n w r)→0≤r→r < p→0≤w→w*q+min r q < n→∃ τ l,tick (lone q p n w r)=(τ,l,0) ∧
   ((w*p+r+1≠wants q p n∧(∀ e∈l,e.kind≠2)∧∃ w' r',τ = lone q p n w' r'∧0≤w'∧0≤r'∧r'≤p∧w'*p+r'=w*p+r+1∧w'*q+min r' q < n) ∨
    (w*p+r+1=wants q p n∧(∃ e∈l,e.kind=2)∧∃ x,τ.servs=[x]∧x.id=1∧x.ran=n∧x.s.mode=0)):=by
  intro w r h hr0 hr hw hd
  obtain ⟨b1,b2,b3,b4,b5,b6,b7⟩:=wants_bnd hq hqp hp hn hn2
  have hw60:w≤60:=by
   rcases Int.lt_or_le 60 w with hl | hl
   ·have:=Int.mul_le_mul_of_nonneg_right (show 61≤w by omega) (show 0≤q by omega); omega
   ·exact hl
  obtain ⟨t1,t2⟩:=lone_tick h hq hqp hp hr0 hr hw (by omega) hn2 hd
  have hRp:n - (n - 1) / q*q≤p:=by omega
  by_cases hf:w*q+min (r+1) q=n
  ·obtain ⟨τ,l,e1,e2,e3⟩:=t2 hf
   refine ⟨τ,l,e1,.inr ⟨?_,e2,e3⟩⟩
   have hrq:r < q:=by omega
   have hW:(n - 1) / q=w:=by
    have e:n - 1=r+w*q:=by omega
    rw [e,Int.add_mul_ediv_right _ _ (by omega),Int.ediv_eq_zero_of_lt hr0 hrq]; omega
   unfold wants
   rw [hW]; omega
  ·have hlt:w*q+min (r+1) q < n:=by clear t1 t2; omega
   obtain ⟨l,e1,e2⟩:=t1 hlt
   clear t1 t2
   refine ⟨_,l,e1,.inl ⟨fun e=>?_,e2,w,r+1,rfl,hw,by omega,by omega,by omega,by omega⟩⟩
   unfold wants at e
   obtain ⟨e3,e4⟩:=place_one (p:=p) (a:=w) (b:=(n - 1) / q) (r:=r+1) (s:=n - (n - 1) / q*q) (by omega) (by omega) (by omega) (by omega) hRp (by omega)
   apply hf
   rw [e3]; omega
 by_cases hrp:r < p
 ·exact inner h hr0 hrp hw hd
 ·have er:r=p:=by omega
  subst er
  have hmin:min r q=q:=by omega
  have hw60:w≤60:=by
   rcases Int.lt_or_le 60 w with hl | hl
   ·have:=Int.mul_le_mul_of_nonneg_right (show 61≤w by omega) (show 0≤q by omega); omega
   ·exact hl
  obtain ⟨e,he,hk⟩:=lone_turn h hq hqp hp hw (by omega)
  have hI':Iv B (lone q r n (w+1) 0):=by have:=(settle_iv h).1; rw [he] at this; exact this
  have hmul:w*r≤60*50:=Int.mul_le_mul hw60 hp (by omega) (by omega)
  have hnow:(lone q r n w r).now < 4611686018427387904:=by show w*r+r < _; omega
  obtain ⟨p1,p2,p3,p4⟩:=tick_settle h hnow
  rw [he] at p1 p2 p4
  have hq1:(w+1)*q=w*q+q:=by rw [Int.add_mul]; omega
  have hp1:(w+1)*r=w*r+r:=by rw [Int.add_mul]; omega
  obtain ⟨τ,l,e1,hor⟩:=inner hI' (Int.le_refl _) (by omega) (by omega) (by omega)
  rw [e1] at p1 p2
  refine ⟨τ,[e] ++ l,Prod.ext p1 (Prod.ext p2 p3),?_⟩
  rcases hor with ⟨f1,f2,w',r',f3,f4,f5,f6,f7,f8⟩ | ⟨f1,⟨e',f2,f3⟩,f4⟩
  ·refine .inl ⟨by omega,fun x hx=>?_,w',r',f3,f4,f5,f6,by omega,f8⟩
   rcases List.mem_append.1 hx with hx | hx
   ·rw [List.mem_singleton.1 hx,hk]; decide
   ·exact f2 x hx
  ·exact .inr ⟨by omega,⟨e',List.mem_append_right _ f2,f3⟩,f4⟩
end
end Go.AX.pm
