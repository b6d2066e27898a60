import Derived.Test.YtiehbnmpaeedpaaGreatQJ27
set_option linter.unusedSimpArgs false
set_option linter.unusedVariables false
set_option linter.unusedSectionVars false
namespace Go.AX.pm
open Go.AX
theorem len_eq (n:Nat):lenI n=(n:Int):=rfl
structure CF (s:Srv):Prop where
 p1:1≤s.p
 p2:s.p≤2147483648
 q1:1≤s.q
 q2:s.q≤s.p
 b1:0≤s.bud
 b2:s.bud≤s.q
 d1:0≤s.due
 d2:s.due≤4611686018427387904
 m1:0≤s.mode
 m2:s.mode≤2
 r:s.mode≠1∨0 < s.bud
theorem cGood_iff {s:Srv}:cGood s=true↔CF s:=by
 unfold cGood pair tGood
 simp only [Bool.and_eq_true,leI_true,Bool.or_eq_true,neI_true,ltI_true]
 constructor
 ·rintro ⟨⟨a,b,c,d⟩,e,f,⟨g,h⟩,i,j,k⟩
  exact ⟨a,b,c,d,e,f,g,h,i,j,k⟩
 ·rintro ⟨a,b,c,d,e,f,g,h,i,j,k⟩
  exact ⟨⟨a,b,c,d⟩,e,f,⟨g,h⟩,i,j,k⟩
theorem pair_iff {q p:Int}:pair q p=true↔1≤p∧p≤2147483648∧1≤q∧q≤p:=by
 unfold pair; simp only [Bool.and_eq_true,leI_true]
theorem tGood_iff {t:Int}:tGood t=true↔0≤t∧t≤4611686018427387904:=by
 unfold tGood; simp only [Bool.and_eq_true,leI_true]
theorem cNew_good {q p:Int} (h:(cNew q p).2=0):CF (cNew q p).1∧(cNew q p).1.mode=0∧cNew q p=(⟨q,p,0,0,0⟩,0):=by
 unfold cNew at h ⊢
 cases hp:pair q p with
 | false=>rw [hp] at h; simp at h
 | true=>
  obtain ⟨a,b,c,d⟩:=pair_iff.1 hp
  exact ⟨⟨a,b,c,d,by simp,by simp; omega,by simp,by simp,by simp,by simp,.inl (by simp)⟩,rfl,rfl⟩
theorem cReady_good {s:Srv} (p1:1≤s.p) (p2:s.p≤2147483648) (q1:1≤s.q) (q2:s.q≤s.p) (b1:0≤s.bud) (b2:s.bud≤s.q) (d1:0≤s.due) (d2:s.due≤4611686018427387904):CF (cReady s)∧(cReady s).mode≠0:=by
 unfold cReady
 cases hb:eqI s.bud 0 with
 | true=>exact ⟨⟨p1,p2,q1,q2,b1,b2,d1,d2,by simp,by simp,.inl (by simp)⟩,by simp⟩
 | false=>
  have:=eqI_false.1 hb
  exact ⟨⟨p1,p2,q1,q2,b1,b2,d1,d2,by simp,by simp,.inr (by simp; omega)⟩,by simp⟩
theorem cUse_good {s:Srv} (h:CF s):CF (cUse s 1).1∧(s.mode≠0→(cUse s 1).1.mode≠0):=by
 unfold cUse
 rw [cGood_iff.2 h]
 cases h1:(!true || (ltI 1 1 || ltI s.bud 1)) with
 | true=>exact ⟨h,fun h=>h⟩
 | false=>
  cases h2:neI s.mode 1 with
  | true=>exact ⟨h,fun h=>h⟩
  | false=>
   have hb:=h.b2
   simp only [Bool.not_true,Bool.false_or,Bool.or_eq_false_iff,ltI_false] at h1
   have e:subI .i64 s.bud 1=s.bud - 1:=subI_64 (by omega) (by have:=h.q2; have:=h.p2; omega)
   have:=cReady_good (s:={ s with bud:=subI .i64 s.bud 1 }) h.p1 h.p2 h.q1 h.q2 (by rw [e]; simp; omega) (by rw [e]; simp; omega) h.d1 h.d2
   exact ⟨this.1,fun _=>this.2⟩
theorem cIdle_good {s:Srv} (h:CF s):CF (cIdle s).1∧(cIdle s).1.mode=0:=by
 unfold cIdle
 rw [cGood_iff.2 h]
 cases h2:eqI s.mode 0 with
 | true=>exact ⟨h,eqI_true.1 h2⟩
 | false=>exact ⟨⟨h.p1,h.p2,h.q1,h.q2,h.b1,h.b2,h.d1,h.d2,by simp,by simp,.inl (by simp)⟩,rfl⟩
theorem cWait_good {s:Srv} (h:CF s) (hm:s.mode=1):CF (cWait s).1∧(cWait s).1 = { s with mode:=2 }:=by
 unfold cWait
 rw [cGood_iff.2 h]
 cases h2:neI s.mode 1 with
 | true=>exact absurd hm (neI_true.1 h2)
 | false=>exact ⟨⟨h.p1,h.p2,h.q1,h.q2,h.b1,h.b2,h.d1,h.d2,by simp,by simp,.inl (by simp)⟩,rfl⟩
theorem tUp_good {t d p r:Int} (h:tUp t d p=(r,true)):0≤r∧r≤4611686018427387904:=by
 unfold tUp at h
 cases hg:tGood t && (tGood d && tIn p 1 2147483648) with
 | false=>rw [hg] at h; simp at h
 | true=>
  rw [hg,cond_true] at h
  simp only [Bool.and_eq_true] at hg
  have hd:=tGood_iff.1 hg.2.1
  cases hl:ltI t d with
  | true=>rw [hl,cond_true] at h; cases h; exact hd
  | false=>
   rw [hl,cond_false] at h
   unfold tgood at h
   cases hz:tGood (addI .i64 d (mulI .i64 (addI .i64 (quoI .i64 (subI .i64 t d) p) 1) p)) with
   | false=>rw [hz] at h; simp at h
   | true=>
    rw [hz,cond_true] at h
    cases h
    exact tGood_iff.1 hz
theorem cTurn_good {s:Srv} {now:Int} (h:CF s):CF (cTurn s now).1∧(s.mode≠0→(cTurn s now).1.mode≠0)∧(s.mode=0→(cTurn s now).1=s):=by
 unfold cTurn
 rw [cGood_iff.2 h]
 cases h1:(!true || (eqI s.mode 0 || ltI now s.due)) with
 | true=>exact ⟨h,fun h=>h,fun _=>rfl⟩
 | false=>
  simp only [Bool.not_true,Bool.false_or,Bool.or_eq_false_iff,eqI_false] at h1
  cases h2:(tUp now s.due s.p).2 with
  | false=>exact ⟨h,fun h=>h,fun _=>rfl⟩
  | true=>
   have hd:=tUp_good (r:=(tUp now s.due s.p).1) (by rw [← h2])
   have:=cReady_good (s:={ s with bud:=s.q,due:=(tUp now s.due s.p).1 }) h.p1 h.p2 h.q1 h.q2 (by have:=h.q1; simp; omega) (by simp) hd.1 hd.2
   exact ⟨this.1,fun _=>this.2,fun h0=>absurd h0 h1.1⟩
theorem cTurn_no {s:Srv} {now:Int} (h:(cTurn s now).2=false):(cTurn s now).1=s:=by
 unfold cTurn at h ⊢
 cases h1:(!cGood s || (eqI s.mode 0 || ltI now s.due)) with
 | true=>rfl
 | false=>
  rw [h1,cond_false] at h
  cases h2:(tUp now s.due s.p).2 with
  | false=>rfl
  | true=>rw [h2] at h; simp at h
theorem cWake_good {s:Srv} {now:Int} (h:CF s) (hn:0≤now) (hn2:now≤4611686018427387904) (hz:(cWake s now).2=0):CF (cWake s now).1∧(cWake s now).1.mode≠0:=by
 have q1:=h.q1
 have q2:=h.q2
 have p2:=h.p2
 have b1:=h.b1
 have b2:=h.b2
 have d2:=h.d2
 unfold cWake at hz ⊢
 rw [cGood_iff.2 h,tGood_iff.2 ⟨hn,hn2⟩] at hz ⊢
 simp only [Bool.not_true,Bool.or_self,cond_false] at hz ⊢
 cases h1:neI s.mode 0 with
 | true=>rw [h1] at hz; simp at hz
 | false=>
  rw [h1] at hz
  simp only [cond_false] at hz ⊢
  cases h2:leI s.due now with
  | true=>
   rw [h2] at hz
   simp only [cond_true] at hz ⊢
   cases h3:(tAdd now s.p).2 with
   | false=>rw [h3] at hz; simp at hz
   | true=>
    simp only [cond_true]
    have hd:0≤(tAdd now s.p).1∧(tAdd now s.p).1≤4611686018427387904:=by
     unfold tAdd at h3 ⊢
     cases h4:tGood now && tGood s.p with
     | false=>rw [h4] at h3; simp at h3
     | true=>
      rw [h4,cond_true] at h3
      rw [cond_true]
      unfold tgood at h3 ⊢
      cases h5:tGood (addI .i64 now s.p) with
      | false=>rw [h5] at h3; simp at h3
      | true=>exact tGood_iff.1 h5
    exact cReady_good (s:={ s with bud:=s.q,due:=(tAdd now s.p).1 }) h.p1 h.p2 h.q1 h.q2 (by simp; omega) (by simp) hd.1 hd.2
  | false=>
   rw [h2] at hz
   simp only [cond_false] at hz ⊢
   cases h3:ltI (mulI .i64 (mnI (subI .i64 s.due now) s.p) s.q) (mulI .i64 s.bud s.p) with
   | false=>exact cReady_good h.p1 h.p2 h.q1 h.q2 h.b1 h.b2 h.d1 h.d2
   | true=>
    have hlt:=leI_false.1 h2
    have e1:subI .i64 s.due now=s.due - now:=subI_64 (by omega) (by omega)
    have hx:0≤mnI (subI .i64 s.due now) s.p∧mnI (subI .i64 s.due now) s.p≤s.p:=by
     rw [e1]
     unfold mnI
     split <;> omega
    generalize mnI (subI .i64 s.due now) s.p=x at hx
    have hsh:0≤(tShare x s.q s.p).1∧(tShare x s.q s.p).1≤s.q:=by
     unfold tShare
     cases h4:(tIn x 0 2147483648 && (tIn s.p 1 2147483648 && tIn s.q 0 s.p)) with
     | false=>simp; omega
     | true=>
      simp only [cond_true]
      have hm1:0≤x*s.q:=Int.mul_nonneg hx.1 (by omega)
      have hm2:x*s.q≤s.p*s.q:=Int.mul_le_mul_of_nonneg_right hx.2 (by omega)
      have hm3:s.p*s.q≤2147483648*2147483648:=Int.mul_le_mul p2 (by omega) (by omega) (by omega)
      rw [mulI_64 (by omega) (by omega)]
      have e2:quoI .i64 (x*s.q) s.p=x*s.q / s.p:=by
       unfold quoI
       rw [Int.tdiv_eq_ediv_of_nonneg hm1]
       exact wrapI_64 (by have:=Int.ediv_nonneg hm1 (show 0≤s.p by omega); omega) (by have:=Int.ediv_le_self s.p hm1; omega)
      rw [e2]
      refine ⟨Int.ediv_nonneg hm1 (by omega),?_⟩
      have h5:x*s.q / s.p≤s.p*s.q / s.p:=Int.ediv_le_ediv (by omega) hm2
      rwa [Int.mul_ediv_cancel_left _ (by omega)] at h5
    exact cReady_good (s:={ s with bud:=(tShare x s.q s.p).1 }) h.p1 h.p2 h.q1 h.q2 hsh.1 hsh.2 h.d1 h.d2
theorem pGood_iff {p:List Step}:pGood p=true↔1≤p.length∧p.length≤8∧∀ s∈p,0≤s.1∧s.1≤8∧1≤s.2∧s.2≤2147483648:=by
 unfold pGood
 simp only [Bool.and_eq_true,leI_true,len_eq,Bool.not_eq_true',List.any_eq_false]
 have:∀ s:Step,¬ pOdd s=true↔(0≤s.1∧s.1≤8∧1≤s.2∧s.2≤2147483648):=fun s=>by
  unfold pOdd
  simp only [Bool.not_eq_true,Bool.or_eq_false_iff,ltI_false]
 simp only [this]
 constructor
 ·rintro ⟨a,b,c⟩; exact ⟨by omega,by omega,c⟩
 ·rintro ⟨a,b,c⟩; exact ⟨by omega,by omega,c⟩
structure JF (j:Job):Prop where
 num:1≤j.num
 prog:pGood j.prog=true
 a0:0≤j.at_
 al:j.at_≤j.prog.length
 d0:0≤j.done
 dl:j.at_=j.prog.length→j.done=0
 dn:j.at_≠j.prog.length→j.done≤j.cur.2
theorem jGood_iff {j:Job}:jGood j=true↔JF j:=by
 unfold jGood
 cases he:eqI j.at_ (lenI j.prog.length) with
 | true=>
  have e:=eqI_true.1 he
  simp only [len_eq] at e
  simp only [Bool.and_eq_true,Bool.not_eq_true',ltI_false,cond_true,eqI_true,len_eq]
  constructor
  ·rintro ⟨a,b,c,d,f,g⟩; exact ⟨a,b,c,d,f,fun _=>g,fun h=>absurd e h⟩
  ·rintro ⟨a,b,c,d,f,g,_⟩; exact ⟨a,b,c,d,f,g e⟩
 | false=>
  have e:=eqI_false.1 he
  simp only [len_eq] at e
  simp only [Bool.and_eq_true,Bool.not_eq_true',ltI_false,cond_false,leI_true,len_eq]
  constructor
  ·rintro ⟨a,b,c,d,f,g⟩; exact ⟨a,b,c,d,f,fun h=>absurd h e,fun _=>g⟩
  ·rintro ⟨a,b,c,d,f,_,g⟩; exact ⟨a,b,c,d,f,g e⟩
structure GoodJ (k:Nat) (j:Job):Prop where
 good:JF j
 at_:j.at_ < j.prog.length
 fits:∀ s∈j.prog,s.1≤(k:Int)
theorem JF.step {j:Job} (h:JF j) (ha:j.at_ < j.prog.length):jStep j=(j.cur,true):=by
 unfold jStep
 rw [jGood_iff.2 h]
 have:eqI j.at_ (lenI j.prog.length)=false:=eqI_false.2 (by simp only [len_eq]; omega)
 rw [this]; rfl
theorem JF.cur_mem {j:Job} (h:JF j) (ha:j.at_ < j.prog.length):j.cur∈j.prog:=by
 unfold Job.cur
 have h0:=h.a0
 have:j.at_.toNat < j.prog.length:=by omega
 rw [List.getD_eq_getElem?_getD,List.getElem?_eq_getElem this]
 exact List.getElem_mem this
theorem GoodJ.step {k:Nat} {j:Job} (h:GoodJ k j):jStep j=(j.cur,true):=h.good.step h.at_
theorem GoodJ.mem {k:Nat} {j:Job} (h:GoodJ k j):j.cur∈j.prog:=h.good.cur_mem h.at_
theorem GoodJ.cur {k:Nat} {j:Job} (h:GoodJ k j):0≤j.cur.1∧j.cur.1≤(k:Int)∧1≤j.cur.2∧j.cur.2≤2147483648:=by
 obtain ⟨a,b,c,d⟩:=(pGood_iff.1 h.good.prog).2.2 _ h.mem
 exact ⟨a,h.fits _ h.mem,c,d⟩
theorem GoodJ.done {k:Nat} {j:Job} (h:GoodJ k j):0≤j.done∧j.done≤j.cur.2:=⟨h.good.d0,h.good.dn (by have:=h.at_; omega)⟩
theorem jRun_good {k:Nat} {j:Job} (h:GoodJ k j):GoodJ k (jRun j 1).1∧(jRun j 1).1.prog=j.prog∧(jRun j 1).1.at_=j.at_∧(jRun j 1).1.num=j.num∧(jRun j 1).1.cur=j.cur∧(jRun j 1).1.done=(if j.done < j.cur.2 then j.done+1 else j.done):=by
 obtain ⟨d0,d1⟩:=h.done
 obtain ⟨_,_,c1,c2⟩:=h.cur
 unfold jRun
 rw [h.step]
 simp only [Bool.not_true,cond_false]
 have e1:subI .i64 j.cur.2 j.done=j.cur.2 - j.done:=subI_64 (by omega) (by omega)
 rw [e1]
 have e2:mxI 1 0=1:=by unfold mxI; simp
 rw [e2]
 have e3:addI .i64 j.done (mnI 1 (j.cur.2 - j.done))=if j.done < j.cur.2 then j.done+1 else j.done:=by
  unfold mnI
  split
  ·rename_i h1
   rw [addI_64 (by omega) (by omega)]
   split <;> omega
  ·rename_i h1
   rw [addI_64 (by omega) (by omega)]
   split <;> omega
 rw [e3]
 refine ⟨⟨⟨h.good.num,h.good.prog,h.good.a0,h.good.al,?_,fun e=>?_,fun _=>?_⟩,h.at_,h.fits⟩,?_⟩
 ·show 0≤(if j.done < j.cur.2 then j.done+1 else j.done)
  split <;> omega
 ·have:=h.at_
  have e:j.at_=j.prog.length:=e
  omega
 ·show (if j.done < j.cur.2 then j.done+1 else j.done)≤j.cur.2
  split <;> omega
 ·refine ⟨?_,?_,?_,?_,?_⟩ <;> first | rfl | trivial
theorem jNext_good {k:Nat} {j:Job} (h:GoodJ k j) (hd:j.done=j.cur.2):(jNext j).1 = { j with at_:=j.at_+1,done:=0 }∧(j.at_+1≠j.prog.length→GoodJ k (jNext j).1):=by
 have a0:=h.good.a0
 have al:=h.at_
 obtain ⟨p1,p2,_⟩:=pGood_iff.1 h.good.prog
 have e:(jNext j).1 = { j with at_:=j.at_+1,done:=0 }:=by
  unfold jNext
  rw [h.step]
  have:neI j.done j.cur.2=false:=neI_false.2 hd
  simp only [this,Bool.not_true,Bool.or_self,cond_false]
  rw [addI_64 (by omega) (by omega)]
 refine ⟨e,fun hne=>?_⟩
 rw [e]
 refine ⟨⟨h.good.num,h.good.prog,by simp; omega,by simp; omega,by simp,fun _=>rfl,fun _=>?_⟩,by simp; omega,h.fits⟩
 have hm:(⟨j.num,j.prog,j.at_+1,0⟩:Job).cur∈j.prog:=by
  unfold Job.cur
  have:(j.at_+1).toNat < j.prog.length:=by omega
  rw [List.getD_eq_getElem?_getD,List.getElem?_eq_getElem this]
  exact List.getElem_mem this
 have:=((pGood_iff.1 h.good.prog).2.2 _ hm).2.2.1
 show (0:Int)≤_
 omega
theorem pFits_iff {p:List Step} {k:Nat}:pFits p k=true↔pGood p=true∧∀ s∈p,s.1≤(k:Int):=by
 unfold pFits
 simp only [Bool.and_eq_true,Bool.not_eq_true',List.any_eq_false,Bool.not_eq_true,ltI_false,len_eq]
theorem jNew_good {k:Nat} {p:List Step} {n:Int} (h:pFits p k=true) (hn:1≤n):jNew n p=(⟨n,p,0,0⟩,true)∧GoodJ k ⟨n,p,0,0⟩:=by
 obtain ⟨h1,h2⟩:=pFits_iff.1 h
 obtain ⟨p1,p2,p3⟩:=pGood_iff.1 h1
 refine ⟨?_,⟨hn,h1,Int.le_refl _,by simp,Int.le_refl _,fun _=>rfl,fun _=>?_⟩,by show (0:Int) < p.length; omega,h2⟩
 ·unfold jNew
  rw [h1]
  have:ltI n 1=false:=ltI_false.2 hn
  rw [this]; rfl
 ·show (0:Int)≤(Job.cur ⟨n,p,0,0⟩).2
  have hm:(⟨n,p,0,0⟩:Job).cur∈p:=by
   unfold Job.cur
   have:(0:Int).toNat < p.length:=by simp; omega
   rw [List.getD_eq_getElem?_getD,List.getElem?_eq_getElem this]
   exact List.getElem_mem this
  have:=(p3 _ hm).2.2.1
  omega
end Go.AX.pm
namespace Go.AX.pm
open Go.AX
def headSem (x:Serv):Int:=match x.jobs with
 | []=>0
 | j :: _=>j.cur.1
def headDone (x:Serv):Int:=match x.jobs with
 | []=>0
 | j :: _=>j.done
structure GoodV (k:Nat) (x:Serv):Prop where
 id1:1≤x.id
 id2:x.id≤255
 s:CF x.s
 len:x.jobs.length≤8
 jobs:∀ j∈x.jobs,GoodJ k j
 rest:∀ j∈x.jobs.tail,j.at_=0∧j.done=0
 sec:x.sec=0∨(x.sec=1∨x.sec=2)∧1≤headSem x
 done0:x.sec≠2→1≤headSem x→headDone x=0
abbrev Key:=Int×Int×Int
def key (x:Serv):Key:=(x.id,x.sec,if x.sec=0 then 0 else headSem x)
structure LockOk (K:List Key) (q:Nat) (l:Lock):Prop where
 nd:l.queue.Nodup
 wait:∀ id,id∈l.queue↔(id,1,(q:Int)+1)∈K
 hold:∀ id,(id≠0∧l.holder=id)↔(id,2,(q:Int)+1)∈K
 free:l.holder=0→l.queue=[]
structure Iw (B R:Int) (σ : St):Prop where
 m1:1≤σ.m
 m2:σ.m≤64
 now1:0≤σ.now
 now2:σ.now≤4611686018427387904
 rise:Rise σ.servs
 len1:σ.servs.length≤32
 len2:σ.sems.length≤8
 len3:σ.backs.length≤16
 serv:∀ x∈σ.servs,GoodV σ.sems.length x
 num:∀ x∈σ.servs,0≤x.num∧x.num≤B
 ran:∀ x∈σ.servs,0≤x.ran∧x.ran≤R
 most:∀ l∈σ.sems,1≤l.most∧l.most≤1048576
 lock:∀ (q:Nat) l,σ.sems[q]? = some l→LockOk (σ.servs.map key) q l
 back:∀ b∈σ.backs,1≤b.id∧b.id≤255∧0≤b.ran∧b.ran≤R
 bnd:(σ.backs.map (·.id)).Nodup
noncomputable def fixed (σ : St):Nat:=pl.nfix ((ready σ.servs).map Serv.ent)
def Idl (x:Serv):Prop:=x.jobs=[]↔x.s.mode=0
structure Iv (B:Int) (σ : St):Prop extends Iw B σ.now σ where
 idle:∀ x∈σ.servs,Idl x
 fix:(fixed σ : Int)≤σ.m
theorem Iv.mono {B B':Int} {σ : St} (h:Iv B σ) (hb:B≤B'):Iv B' σ:=
 { h with num:=fun x hx=>⟨(h.num x hx).1,by have:=(h.num x hx).2; omega⟩ }
theorem Rise.nd:∀ {l:List Serv},Rise l→(l.map (·.id)).Nodup
 | [],_=>List.nodup_nil
 | x :: r,h=>by
  rw [List.map_cons,List.nodup_cons]
  refine ⟨fun hm=>?_,Rise.nd h.2⟩
  obtain ⟨y,hy,e⟩:=List.mem_map.1 hm
  have:=h.1 y hy
  omega
theorem at_self {l:List Serv} (hr:Rise l) {i:Nat} {x:Serv} (hx:l[i]? = some x):at_ l x.id=i:=
 at_of hr (by have:=(List.getElem?_eq_some_iff.1 hx).1; omega)
  (fun j y hj hy=>Rise.lt hr hj hy hx)
  (fun j y hj hy=>by
   rcases Nat.lt_or_eq_of_le hj with h | h
   ·have:=hr.lt h hx hy; omega
   ·subst h; rw [hx] at hy; cases hy; omega)
theorem at_mem {l:List Serv} (hr:Rise l) {x:Serv} (hx:x∈l):l[at_ l x.id]? = some x:=by
 obtain ⟨i,hi⟩:=List.getElem?_of_mem hx
 rw [at_self hr hi]; exact hi
theorem keys_fst (l:List Serv):(l.map key).map (·.1)=l.map (·.id):=by
 rw [List.map_map]; rfl
theorem mem_set_iff {α : Type} {l:List α} {i:Nat} {a c:α} (hc:l[i]? = some c) (z:α):z∈l.set i a↔z=a∨∃ j,j≠i∧l[j]? = some z:=by
 have hi:=(List.getElem?_eq_some_iff.1 hc).1
 constructor
 ·intro h
  obtain ⟨j,hj⟩:=List.getElem?_of_mem h
  rw [List.getElem?_set] at hj
  by_cases e:i=j
  ·subst e; rw [if_pos rfl,if_pos hi] at hj; cases hj; exact .inl rfl
  ·rw [if_neg e] at hj; exact .inr ⟨j,fun h=>e h.symm,hj⟩
 ·rintro (rfl | ⟨j,hj,hz⟩)
  ·exact List.mem_of_getElem? (i:=i) (by rw [List.getElem?_set,if_pos rfl,if_pos hi])
  ·exact List.mem_of_getElem? (i:=j) (by rw [List.getElem?_set,if_neg (fun h=>hj h.symm)]; exact hz)
theorem nodup_at {α : Type}:∀ {l:List α},l.Nodup→∀ {i j:Nat} {x:α},l[i]? = some x→l[j]? = some x→i=j
 | [],_,i,j,x,h,_=>by cases h
 | y :: r,hn,i,j,x,hi,hj=>by
  rw [List.nodup_cons] at hn
  cases i with
  | zero=>
   cases j with
   | zero=>rfl
   | succ j=>cases hi; exact absurd (List.mem_of_getElem? (by simpa using hj)) hn.1
  | succ i=>
   cases j with
   | zero=>cases hj; exact absurd (List.mem_of_getElem? (by simpa using hi)) hn.1
   | succ j=>have:=nodup_at (x:=x) hn.2 (i:=i) (j:=j) (by simpa using hi) (by simpa using hj); omega
theorem mem_keys {K:List Key} (hn:(K.map (·.1)).Nodup) {i:Nat} {a c:Key} (hc:K[i]? = some c) (ha:a.1=c.1) (z:Key):z∈K.set i a↔z=a∨(z∈K∧z.1≠c.1):=by
 rw [mem_set_iff hc]
 constructor
 ·rintro (h | ⟨j,hj,hz⟩)
  ·exact .inl h
  ·refine .inr ⟨List.mem_of_getElem? hz,fun e=>hj ?_⟩
   exact nodup_at hn (x:=c.1) (by rw [List.getElem?_map,hz]; simp [e]) (by rw [List.getElem?_map,hc]; rfl)
 ·rintro (h | ⟨hz,hne⟩)
  ·exact .inl h
  ·obtain ⟨j,hj⟩:=List.getElem?_of_mem hz
   refine .inr ⟨j,fun e=>?_,hj⟩
   subst e
   rw [hc] at hj; cases hj; exact hne rfl
theorem map_set' {α β : Type} (f:α→β) (l:List α) (i:Nat) (x:α):(l.set i x).map f=(l.map f).set i (f x):=by
 apply List.ext_getElem?
 intro j
 rw [List.getElem?_map,List.getElem?_set,List.getElem?_set,List.getElem?_map]
 by_cases h:i=j
 ·subst h
  rw [if_pos rfl,if_pos rfl,List.length_map]
  split <;> rfl
 ·rw [if_neg h,if_neg h]
theorem all_set {α : Type} {p:α→Prop} {l:List α} {i:Nat} {x:α} (h:∀ y∈l,p y) (hx:p x):∀ y∈l.set i x,p y:=fun y hy=>by
 rcases List.mem_or_eq_of_mem_set hy with h1 | h1
 ·exact h y h1
 ·subst h1; exact hx
theorem set_get_self {α : Type} {l:List α} {i:Nat} {x:α} (h:l[i]? = some x):l.set i x=l:=by
 apply List.ext_getElem?
 intro j
 rw [List.getElem?_set]
 split
 ·rename_i e
  subst e
  rw [h,if_pos (List.getElem?_eq_some_iff.1 h).1]
 ·rfl
theorem Iw.setS {B R:Int} {σ : St} (h:Iw B R σ) {i:Nat} {x x':Serv} (hx:σ.servs[i]? = some x) (hk:key x'=key x) (hg:GoodV σ.sems.length x') (hn:0≤x'.num∧x'.num≤B) (hr:0≤x'.ran∧x'.ran≤R):Iw B R { σ with servs:=σ.servs.set i x' }:=by
 have hid:x'.id=x.id:=congrArg (·.1) hk
 have hids:=ids_set hx hid
 have hkeys:(σ.servs.set i x').map key = σ.servs.map key:=by
  rw [map_set',hk]
  exact set_get_self (by rw [List.getElem?_map,hx]; rfl)
 exact { h with rise:=rise_congr hids.symm h.rise,len1:=by simpa using h.len1,serv:=all_set h.serv hg,num:=all_set h.num hn,ran:=all_set h.ran hr,lock:=fun q l hl=>by rw [hkeys]; exact h.lock q l hl }
theorem Iw.withS {B R:Int} {σ : St} (h:Iw B R σ) {l:List Serv} (hk:l.map key = σ.servs.map key) (hg:∀ x∈l,GoodV σ.sems.length x) (hn:∀ x∈l,0≤x.num∧x.num≤B) (hr:∀ x∈l,0≤x.ran∧x.ran≤R):Iw B R { σ with servs:=l }:=by
 have hids:l.map (·.id) = σ.servs.map (·.id):=by rw [← keys_fst,hk,keys_fst]
 have hl:l.length = σ.servs.length:=by have:=congrArg List.length hids; simpa using this
 exact { h with rise:=rise_congr hids.symm h.rise,len1:=by rw [hl]; exact h.len1,serv:=hg,num:=hn,ran:=hr,lock:=fun q l hl=>by rw [hk]; exact h.lock q l hl }
theorem runner_mem {σ : St} {id:Int} (h:id∈runners σ):∃ x∈σ.servs,x.id=id∧x.s.mode=1:=by
 obtain ⟨e,he,rfl⟩:=pl.mem_pick.1 h
 have:=pl.run_sub he
 obtain ⟨x,hx,rfl⟩:=List.mem_map.1 this
 unfold ready at hx
 rw [List.mem_filter] at hx
 exact ⟨x,hx.1,rfl,eqI_true.1 hx.2⟩
theorem runner_at {B:Int} {σ : St} (h:Iv B σ) {id:Int} (hi:id∈runners σ):∃ x,σ.servs[at_ σ.servs id]? = some x∧x.id=id∧x.s.mode=1∧x.jobs≠[]:=by
 obtain ⟨x,hx,rfl,hm⟩:=runner_mem hi
 exact ⟨x,at_mem h.rise hx,rfl,hm,fun e=>by have:=(h.idle x hx).1 e; omega⟩
theorem runners_nd (σ : St):(runners σ).Nodup:=by
 have:=pl.pick_strict (m:=σ.m) (l:=(ready σ.servs).map Serv.ent)
 exact this.imp fun h=>by omega
theorem asks_mem {B:Int} {σ : St} (h:Iv B σ) {p:Nat×Int} (hp:p∈asks σ):∃ x,σ.servs[p.1]? = some x∧x.id∈runners σ∧x.s.mode=1∧x.sec=0∧headSem x=p.2∧1≤p.2∧p.2≤(σ.sems.length:Int)∧p.1=at_ σ.servs x.id:=by
 unfold asks at hp
 obtain ⟨id,hid,h2⟩:=List.mem_filterMap.1 hp
 obtain ⟨x,hx,rfl,hm,hj⟩:=runner_at h hid
 rw [hx] at h2
 simp only at h2
 have hg:=h.serv x (List.mem_of_getElem? hx)
 cases hjs:x.jobs with
 | nil=>exact absurd hjs hj
 | cons j r=>
  rw [hjs] at h2
  simp only at h2
  have hgj:=hg.jobs j (by rw [hjs]; exact List.mem_cons_self ..)
  rw [hgj.step] at h2
  cases hc:(true && (ltI 0 j.cur.1 && eqI x.sec 0)) with
  | false=>rw [hc] at h2; cases h2
  | true=>
   rw [hc] at h2; cases h2
   simp only [Bool.true_and,Bool.and_eq_true,ltI_true,eqI_true] at hc
   refine ⟨x,hx,hid,hm,hc.2,?_,?_,hgj.cur.2.1,rfl⟩
   ·unfold headSem; rw [hjs]
   ·show 1≤j.cur.1; omega
theorem turn1_eq (now:Int) (v:Serv):(turn1 now v).1=v∨(v.s.mode≠0∧v.sec=0∧(turn1 now v).1 = { v with s:=(cTurn v.s now).1 }):=by
 unfold turn1 Serv.idle
 cases hc:(eqI v.s.mode 0 || neI v.sec 0) with
 | true=>exact .inl rfl
 | false=>
  simp only [Bool.or_eq_false_iff,eqI_false,neI_false] at hc
  exact .inr ⟨hc.1,hc.2,rfl⟩
theorem turn1_key (now:Int) (v:Serv):key (turn1 now v).1=key v:=by
 rcases turn1_eq now v with h | ⟨_,_,h⟩
 ·rw [h]
 ·rw [h]; rfl
theorem turn1_good {k:Nat} {now:Int} {v:Serv} (h:GoodV k v):GoodV k (turn1 now v).1:=by
 rcases turn1_eq now v with e | ⟨hm,hs,e⟩
 ·rw [e]; exact h
 ·rw [e]
  obtain ⟨t1,t2,t3⟩:=cTurn_good (now:=now) h.s
  exact { h with s:=t1 }
theorem turn1_idl {k:Nat} {now:Int} {v:Serv} (hg:GoodV k v) (h:Idl v):Idl (turn1 now v).1:=by
 rcases turn1_eq now v with e | ⟨hm,hs,e⟩
 ·rw [e]; exact h
 ·rw [e]
  obtain ⟨t1,t2,t3⟩:=cTurn_good (now:=now) hg.s
  exact ⟨fun e=>absurd (h.1 e) hm,fun e=>absurd e (t2 hm)⟩
theorem turnS_keys (σ : St):(turnS σ).servs.map key = σ.servs.map key:=by
 show (σ.servs.map fun v=>(turn1 σ.now v).1).map key=_
 rw [List.map_map]
 exact List.map_congr_left fun v _=>turn1_key σ.now v
theorem turn1_same (now:Int) (v:Serv):(turn1 now v).1.id=v.id∧(turn1 now v).1.num=v.num∧(turn1 now v).1.ran=v.ran∧(turn1 now v).1.jobs=v.jobs∧(turn1 now v).1.sec=v.sec∧(turn1 now v).1.held=v.held:=by
 rcases turn1_eq now v with h | ⟨_,_,h⟩ <;> rw [h] <;> exact ⟨rfl,rfl,rfl,rfl,rfl,rfl⟩
theorem turnS_fix (σ : St):fixed (turnS σ)=fixed σ:=by
 unfold fixed pl.nfix ready
 rw [List.countP_map,List.countP_map,List.countP_filter,List.countP_filter]
 show (σ.servs.map fun v=>(turn1 σ.now v).1).countP _=_
 rw [List.countP_map]
 apply List.countP_congr
 intro v _
 rcases turn1_eq σ.now v with h | ⟨_,hs,h⟩
 ·simp only [Function.comp,h]
 ·simp only [Function.comp,h,Serv.ent,hs,neI_false.2 rfl,Bool.false_and]
theorem turnS_iv {B:Int} {σ : St} (h:Iv B σ):Iv B (turnS σ):=by
 have hm:∀ x∈(turnS σ).servs,∃ v∈σ.servs,x=(turn1 σ.now v).1:=fun x hx=>by
  obtain ⟨v,hv,rfl⟩:=List.mem_map.1 hx
  exact ⟨v,hv,rfl⟩
 refine { toIw:=h.toIw.withS (turnS_keys σ) (fun x hx=>?_) (fun x hx=>?_) (fun x hx=>?_),idle:=fun x hx=>?_,fix:=by rw [turnS_fix]; exact h.fix }
 ·obtain ⟨v,hv,rfl⟩:=hm x hx
  exact turn1_good (h.serv v hv)
 ·obtain ⟨v,hv,rfl⟩:=hm x hx
  rw [(turn1_same σ.now v).2.1]; exact h.num v hv
 ·obtain ⟨v,hv,rfl⟩:=hm x hx
  rw [(turn1_same σ.now v).2.2.1]; exact h.ran v hv
 ·obtain ⟨v,hv,rfl⟩:=hm x hx
  exact turn1_idl (h.serv v hv) (h.idle v hv)
noncomputable def readies (σ : St):Nat:=(ready σ.servs).length
theorem refuseIn_some {σ σ':St} {e:Ev}:∀ {l:List (Nat×Int)},refuseIn σ l=some (σ',e)→∃ p∈l,∃ v k,σ.servs[p.1]? = some v∧σ.sems[(p.2 - 1).toNat]? = some k∧gEnough σ.m k.most v.s.bud (subI .i64 v.s.due σ.now)=false∧σ' = { σ with servs:=σ.servs.set p.1 { v with s:=(cWait v.s).1 } }∧e=event σ 8 v.id p.2
 | [],h=>by cases h
 | (i,q) :: r,h=>by
  unfold refuseIn at h
  split at h
  ·rename_i v k hv hk
   cases hg:gEnough σ.m k.most v.s.bud (subI .i64 v.s.due σ.now) with
   | true=>
    rw [hg,cond_true] at h
    obtain ⟨p,hp,h⟩:=refuseIn_some h
    exact ⟨p,List.mem_cons_of_mem _ hp,h⟩
   | false=>
    rw [hg,cond_false] at h
    cases h
    exact ⟨(i,q),List.mem_cons_self ..,v,k,hv,hk,hg,rfl,rfl⟩
  ·cases h
theorem filter_set_len {l:List Serv} {i:Nat} {x x':Serv} (hx:l[i]? = some x) (h1:eqI x.s.mode 1=true) (h2:eqI x'.s.mode 1=false):(ready (l.set i x')).length+1=(ready l).length:=by
 unfold ready
 induction l generalizing i with
 | nil=>cases hx
 | cons y r ih=>
  cases i with
  | zero=>
   cases hx
   rw [List.set_cons_zero,List.filter_cons,List.filter_cons,h1,h2]
   simp
  | succ i=>
   have:=ih (i:=i) (by simpa using hx)
   rw [List.set_cons_succ,List.filter_cons,List.filter_cons]
   cases eqI y.s.mode 1
   ·simpa using this
   ·simp only [if_true,List.length_cons]; omega
theorem fixed_eq (l:List Serv):pl.nfix ((ready l).map Serv.ent)=l.countP fun y=>(eqI y.s.mode 1 && neI y.sec 0):=by
 unfold pl.nfix ready
 rw [List.countP_map,List.countP_filter]
 apply List.countP_congr
 intro x _
 simp [Serv.ent,Function.comp,and_comm]
theorem fixed_set {l:List Serv} {i:Nat} {x x':Serv} (hx:l[i]? = some x) (h:(eqI x'.s.mode 1 && neI x'.sec 0)=true→(eqI x.s.mode 1 && neI x.sec 0)=true):pl.nfix ((ready (l.set i x')).map Serv.ent)≤pl.nfix ((ready l).map Serv.ent):=by
 rw [fixed_eq,fixed_eq]
 induction l generalizing i with
 | nil=>cases hx
 | cons y r ih=>
  cases i with
  | zero=>
   cases hx
   rw [List.set_cons_zero,List.countP_cons,List.countP_cons]
   cases hb:(eqI x'.s.mode 1 && neI x'.sec 0) with
   | false=>simp
   | true=>rw [h hb]; exact Nat.le_refl _
  | succ i=>
   have:=ih (i:=i) (by simpa using hx)
   rw [List.set_cons_succ,List.countP_cons,List.countP_cons]
   omega
theorem refuse_iv {B:Int} {σ σ':St} {e:Ev} (h:Iv B σ) (hr:refuse σ = some (σ',e)):Iv B σ'∧readies σ'+1=readies σ:=by
 obtain ⟨p,hp,v,k,hv,hk,_,rfl,_⟩:=refuseIn_some hr
 obtain ⟨x,hx,_,hm,hs,_⟩:=asks_mem h hp
 rw [hv] at hx; cases hx
 have hvm:=List.mem_of_getElem? hv
 have hg:=h.serv v hvm
 obtain ⟨w1,w2⟩:=cWait_good hg.s hm
 have hm2:(cWait v.s).1.mode=2:=by rw [w2]
 refine ⟨{ toIw:=h.toIw.setS hv rfl { hg with s:=w1 } (h.num v hvm) (h.ran v hvm),idle:=all_set h.idle ⟨fun e=>by have:=(h.idle v hvm).1 e; omega,fun e=>?_⟩,fix:=Int.le_trans (Int.ofNat_le.2 (fixed_set hv (fun e=>?_))) h.fix },?_⟩
 ·have e:(cWait v.s).1.mode=0:=e
  omega
 ·have e:(eqI (cWait v.s).1.mode 1 && neI v.sec 0)=true:=e
  rw [hs,neI_false.2 rfl,Bool.and_false] at e; cases e
 ·exact filter_set_len hv (eqI_true.2 hm) (eqI_false.2 (by show (cWait v.s).1.mode≠1; omega))
theorem refuses_iv {B:Int}:∀ (n:Nat) {σ : St},Iv B σ→Iv B (refuses n σ).1
 | 0,σ,h=>h
 | n+1,σ,h=>by
  unfold refuses
  split
  ·exact h
  ·rename_i σ' e hr
   exact refuses_iv n (refuse_iv h hr).1
theorem readies_le (σ : St):readies σ≤σ.servs.length:=List.length_filter_le _ _
end Go.AX.pm
namespace Go.AX.pm
open Go.AX
theorem LockOk.other {K:List Key} {r:Nat} {l:Lock} (hn:(K.map (·.1)).Nodup) {i:Nat} {a c:Key} (hc:K[i]? = some c) (ha:a.1=c.1) (h1:c.2.2≠(r:Int)+1) (h2:a.2.2≠(r:Int)+1) (h:LockOk K r l):LockOk (K.set i a) r l:=by
 have key:∀ id s,(id,s,(r:Int)+1)∈K.set i a↔(id,s,(r:Int)+1)∈K:=fun id s=>by
  rw [mem_keys hn hc ha]
  constructor
  ·rintro (e | ⟨h,_⟩)
   ·rw [← e] at h2; exact absurd rfl h2
   ·exact h
  ·intro hz
   refine .inr ⟨hz,fun e=>?_⟩
   obtain ⟨j,hj⟩:=List.getElem?_of_mem hz
   have:i=j:=nodup_at hn (x:=c.1) (by rw [List.getElem?_map,hc]; rfl) (by rw [List.getElem?_map,hj,← e]; rfl)
   subst this
   rw [hc] at hj; cases hj; exact h1 rfl
 exact ⟨h.nd,fun id=>by rw [key]; exact h.wait id,fun id=>by rw [key]; exact h.hold id,h.free⟩
theorem key_uniq {K:List Key} (hn:(K.map (·.1)).Nodup) {i:Nat} {c z:Key} (hc:K[i]? = some c) (hz:z∈K) (e:z.1=c.1):z=c:=by
 obtain ⟨j,hj⟩:=List.getElem?_of_mem hz
 have:i=j:=nodup_at hn (x:=c.1) (by rw [List.getElem?_map,hc]; rfl) (by rw [List.getElem?_map,hj]; simp [e])
 subst this
 rw [hc] at hj; cases hj; rfl
theorem keys_nd {B R:Int} {σ : St} (h:Iw B R σ):((σ.servs.map key).map (·.1)).Nodup:=by rw [keys_fst]; exact Rise.nd h.rise
theorem Iw.setSL {B R:Int} {σ : St} (h:Iw B R σ) {i q:Nat} {x x':Serv} {l l':Lock} (hx:σ.servs[i]? = some x) (hl:σ.sems[q]? = some l) (hid:x'.id=x.id) (hm:l'.most=l.most) (hg:GoodV σ.sems.length x') (hn:0≤x'.num∧x'.num≤B) (hr:0≤x'.ran∧x'.ran≤R)
  (h1:∀ r:Nat,r≠q→(key x).2.2≠(r:Int)+1∧(key x').2.2≠(r:Int)+1) (h2:LockOk ((σ.servs.map key).set i (key x')) q l'):Iw B R { σ with servs:=σ.servs.set i x',sems:=σ.sems.set q l' }:=by
 have hids:=ids_set hx hid
 have hc:(σ.servs.map key)[i]? = some (key x):=by rw [List.getElem?_map,hx]; rfl
 refine { h with rise:=rise_congr hids.symm h.rise,len1:=by simpa using h.len1,len2:=by simpa using h.len2,serv:=?_,num:=all_set h.num hn,ran:=all_set h.ran hr,most:=all_set h.most (by rw [hm]; exact h.most l (List.mem_of_getElem? hl)),lock:=fun r k hk=>?_ }
 ·show ∀ y∈σ.servs.set i x',GoodV (σ.sems.set q l').length y
  rw [List.length_set]
  exact all_set h.serv hg
 ·have hk:(σ.sems.set q l')[r]? = some k:=hk
  show LockOk ((σ.servs.set i x').map key) r k
  rw [map_set']
  rw [List.getElem?_set] at hk
  by_cases e:q=r
  ·subst e
   rw [if_pos rfl,if_pos (List.getElem?_eq_some_iff.1 hl).1] at hk
   cases hk; exact h2
  ·rw [if_neg e] at hk
   obtain ⟨a,b⟩:=h1 r (fun h=>e h.symm)
   exact (h.lock r k hk).other (keys_nd h) hc (show x'.id=x.id from hid) a b
theorem key0 {x:Serv} (h:x.sec=0):key x=(x.id,0,0):=by unfold key; rw [h]; rfl
theorem key1 {x:Serv} (h:x.sec≠0):key x=(x.id,x.sec,headSem x):=by unfold key; rw [if_neg h]
theorem grant1_eq {σ : St} {i q:Nat} {x:Serv} {l:Lock} (hx:σ.servs[i]? = some x) (hl:σ.sems[q]? = some l):grant1 σ i ((q:Int)+1) =
  (bif neI l.holder 0 then ({ σ with servs:=σ.servs.set i { x with sec:=1 },sems:=σ.sems.set q { l with queue:=l.queue ++ [x.id] } },[]) else
  ({ σ with servs:=σ.servs.set i { x with sec:=2,held:=0 },sems:=σ.sems.set q { l with holder:=x.id,dead:=false } },(bif l.dead then [event σ 7 x.id 0] else []) ++ [event σ 6 x.id ((q:Int)+1)])):=by
 unfold grant1
 rw [show ((q:Int)+1 - 1).toNat=q by omega,hx,hl]
theorem grant1_iw {B R:Int} {σ : St} (h:Iw B R σ) {i q:Nat} {x:Serv} (hx:σ.servs[i]? = some x) (hs:x.sec=0) (hq:headSem x=(q:Int)+1) (hq2:q < σ.sems.length):Iw B R (grant1 σ i ((q:Int)+1)).1:=by
 have hl:=List.getElem?_eq_getElem hq2
 generalize σ.sems[q]=l at hl
 rw [grant1_eq hx hl]
 have hL:=h.lock q l hl
 have hn:=keys_nd h
 have hc:(σ.servs.map key)[i]? = some (x.id,0,0):=by rw [List.getElem?_map,hx,← key0 hs]; rfl
 have hxm:=List.mem_of_getElem? hx
 have hg:=h.serv x hxm
 have uq:∀ s,s≠0→(x.id,s,(q:Int)+1)∉σ.servs.map key:=fun s hs hz=>by
  have:=key_uniq hn hc hz rfl
  simp at this
  exact hs this.1
 have irr:∀ x':Serv,x'.id=x.id→headSem x'=headSem x→∀ r:Nat,r≠q→(key x).2.2≠(r:Int)+1∧(key x').2.2≠(r:Int)+1:=fun x' e1 e2 r hr=>by
  rw [key0 hs]
  refine ⟨by simp; omega,?_⟩
  unfold key
  simp only
  split
  ·omega
  ·rw [e2,hq]; omega
 cases hh:neI l.holder 0 with
 | true=>
  have hh:=neI_true.1 hh
  rw [cond_true]
  refine h.setSL (l':={ l with queue:=l.queue ++ [x.id] }) hx hl rfl rfl { hg with sec:=.inr ⟨.inl rfl,by show 1≤headSem x; omega⟩,done0:=fun _ h=>hg.done0 (by omega) h } (h.num x hxm) (h.ran x hxm) (irr _ rfl rfl) ?_
  have e:key { x with sec:=1 }=(x.id,1,(q:Int)+1):=by rw [key1 (by simp),← hq]; rfl
  rw [e]
  have hmk:∀ z,z∈(σ.servs.map key).set i (x.id,1,(q:Int)+1)↔z=(x.id,1,(q:Int)+1)∨(z∈σ.servs.map key∧z.1≠x.id):=fun z=>mem_keys (a:=(x.id,1,(q:Int)+1)) hn hc rfl z
  refine ⟨?_,fun id=>?_,fun id=>?_,fun h0=>absurd h0 hh⟩
  ·rw [List.nodup_append]
   refine ⟨hL.nd,by simp,fun a ha b hb=>?_⟩
   simp at hb
   subst hb
   intro e; subst e
   exact uq 1 (by omega) ((hL.wait _).1 ha)
  ·rw [List.mem_append,hL.wait,hmk]
   simp only [List.mem_singleton,Prod.mk.injEq,and_true]
   constructor
   ·rintro (h | h)
    ·refine .inr ⟨h,fun e=>?_⟩
     rw [e] at h; exact uq 1 (by omega) h
    ·exact .inl h
   ·rintro (h | ⟨h,_⟩)
    ·exact .inr h
    ·exact .inl h
  ·rw [hmk]
   rw [show ({ l with queue:=l.queue ++ [x.id] }:Lock).holder=l.holder from rfl,hL.hold]
   simp only [Prod.mk.injEq]
   constructor
   ·intro h
    refine .inr ⟨h,fun e=>?_⟩
    rw [e] at h; exact uq 2 (by omega) h
   ·rintro (h | ⟨h,_⟩)
    ·omega
    ·exact h
 | false=>
  have hh:=neI_false.1 hh
  rw [cond_false]
  refine h.setSL (l':={ l with holder:=x.id,dead:=false }) hx hl rfl rfl { hg with sec:=.inr ⟨.inr rfl,by show 1≤headSem x; omega⟩,done0:=fun h _=>absurd rfl h } (h.num x hxm) (h.ran x hxm) (irr _ rfl rfl) ?_
  have e:key { x with sec:=2,held:=0 }=(x.id,2,(q:Int)+1):=by rw [key1 (by simp),← hq]; rfl
  rw [e]
  have hmk:∀ z,z∈(σ.servs.map key).set i (x.id,2,(q:Int)+1)↔z=(x.id,2,(q:Int)+1)∨(z∈σ.servs.map key∧z.1≠x.id):=fun z=>mem_keys (a:=(x.id,2,(q:Int)+1)) hn hc rfl z
  have hq0:=hL.free hh
  refine ⟨hL.nd,fun id=>?_,fun id=>?_,fun _=>hq0⟩
  ·rw [hmk]
   rw [show ({ l with holder:=x.id,dead:=false }:Lock).queue=l.queue from rfl,hL.wait]
   simp only [Prod.mk.injEq]
   constructor
   ·intro h
    refine .inr ⟨h,fun e=>?_⟩
    rw [e] at h; exact uq 1 (by omega) h
   ·rintro (h | ⟨h,_⟩)
    ·omega
    ·exact h
  ·rw [hmk]
   simp only [Prod.mk.injEq,and_true]
   have:=hg.id1
   constructor
   ·rintro ⟨_,h⟩
    exact .inl h.symm
   ·rintro (h | ⟨h,_⟩)
    ·exact ⟨by omega,h.symm⟩
    ·have:=(hL.hold id).2 h
     omega
theorem grant1_other {σ : St} {i q:Nat} {x:Serv} {l:Lock} (hx:σ.servs[i]? = some x) (hl:σ.sems[q]? = some l):(grant1 σ i ((q:Int)+1)).1.servs.map (·.id) = σ.servs.map (·.id)∧(∀ j,j≠i→(grant1 σ i ((q:Int)+1)).1.servs[j]? = σ.servs[j]?)∧(grant1 σ i ((q:Int)+1)).1.sems.length = σ.sems.length∧(grant1 σ i ((q:Int)+1)).1.m = σ.m∧(grant1 σ i ((q:Int)+1)).1.now = σ.now∧(grant1 σ i ((q:Int)+1)).1.backs = σ.backs ∧
  ∃ x',(grant1 σ i ((q:Int)+1)).1.servs[i]? = some x'∧x'.sec≠0∧x'.s=x.s∧x'.id=x.id∧x'.jobs=x.jobs∧x'.num=x.num∧x'.ran=x.ran:=by
 rw [grant1_eq hx hl]
 have hi:=(List.getElem?_eq_some_iff.1 hx).1
 cases neI l.holder 0 with
 | true=>
  rw [cond_true]
  refine ⟨ids_set hx rfl,fun j hj=>?_,?_,rfl,rfl,rfl,{ x with sec:=1 },?_,?_⟩
  ·show (σ.servs.set i _)[j]? = _
   rw [List.getElem?_set,if_neg (fun h=>hj h.symm)]
  ·show (σ.sems.set q _).length=_
   rw [List.length_set]
  ·show (σ.servs.set i _)[i]? = _
   rw [List.getElem?_set,if_pos rfl,if_pos hi]
  ·refine ⟨by simp,rfl,rfl,rfl,rfl,rfl⟩
 | false=>
  rw [cond_false]
  refine ⟨ids_set hx rfl,fun j hj=>?_,?_,rfl,rfl,rfl,{ x with sec:=2,held:=0 },?_,?_⟩
  ·show (σ.servs.set i _)[j]? = _
   rw [List.getElem?_set,if_neg (fun h=>hj h.symm)]
  ·show (σ.sems.set q _).length=_
   rw [List.length_set]
  ·show (σ.servs.set i _)[i]? = _
   rw [List.getElem?_set,if_pos rfl,if_pos hi]
  ·refine ⟨by simp,rfl,rfl,rfl,rfl,rfl⟩
def Asker (σ : St) (p:Nat×Int):Prop:=∃ x,σ.servs[p.1]? = some x∧x.sec=0∧headSem x=p.2∧1≤p.2∧p.2≤(σ.sems.length:Int)∧x.s.mode=1
structure Granted (σ τ : St) (L:List (Nat×Int)):Prop where
 m:τ.m = σ.m
 now:τ.now = σ.now
 backs:τ.backs = σ.backs
 ids:τ.servs.map (·.id) = σ.servs.map (·.id)
 sems:τ.sems.length = σ.sems.length
 other:∀ j,(∀ p∈L,p.1≠j)→τ.servs[j]? = σ.servs[j]?
 got:∀ p∈L,∃ x x',σ.servs[p.1]? = some x∧τ.servs[p.1]? = some x'∧x.sec=0∧x'.sec≠0∧x'.s=x.s∧x'.id=x.id∧x'.jobs=x.jobs∧x'.num=x.num∧x'.ran=x.ran
theorem grants_iw {B R:Int}:∀ {L:List (Nat×Int)} {σ : St},Iw B R σ→(∀ p∈L,Asker σ p)→(L.map (·.1)).Nodup→Iw B R (grants σ L).1∧Granted σ (grants σ L).1 L
 | [],σ,h,_,_=>⟨h,rfl,rfl,rfl,rfl,rfl,fun _ _=>rfl,fun p hp=>by cases hp⟩
 | (i,q) :: r,σ,h,ha,hn=>by
  obtain ⟨x,hx,hs,hq,q1,q2,hm⟩:=ha (i,q) (List.mem_cons_self ..)
  obtain ⟨n,rfl⟩:∃ n:Nat,q=(n:Int)+1:=⟨(q - 1).toNat,by simp at q1; omega⟩
  simp only at hx hq q1 q2
  have hnl:n < σ.sems.length:=by omega
  have hl:=List.getElem?_eq_getElem hnl
  have h1:=grant1_iw h hx hs hq hnl
  obtain ⟨g1,g2,g3,g4,g5,g6,x',g7,g8,g9,g10,g11,g12,g13⟩:=grant1_other hx hl
  rw [List.map_cons,List.nodup_cons] at hn
  have hne:∀ p∈r,p.1≠i:=fun p hp e=>hn.1 (List.mem_map.2 ⟨p,hp,e⟩)
  obtain ⟨k1,k2⟩:=grants_iw (L:=r) h1 (fun p hp=>by
   obtain ⟨y,hy,a,b,c,d,e⟩:=ha p (List.mem_cons_of_mem _ hp)
   exact ⟨y,by rw [g2 _ (hne p hp)]; exact hy,a,b,c,by rw [g3]; exact d,e⟩) hn.2
  refine ⟨k1,k2.m.trans g4,k2.now.trans g5,k2.backs.trans g6,k2.ids.trans g1,k2.sems.trans g3,fun j hj=>?_,fun p hp=>?_⟩
  ·rw [show (grants σ ((i,(n:Int)+1) :: r)).1=(grants (grant1 σ i ((n:Int)+1)).1 r).1 from rfl,k2.other j (fun p hp=>hj p (List.mem_cons_of_mem _ hp)),g2 j (fun e=>hj (i,(n:Int)+1) (List.mem_cons_self ..) e.symm)]
  ·rcases List.mem_cons.1 hp with e | hp
   ·subst e
    refine ⟨x,x',hx,?_,hs,g8,g9,g10,g11,g12,g13⟩
    rw [show (grants σ ((i,(n:Int)+1) :: r)).1=(grants (grant1 σ i ((n:Int)+1)).1 r).1 from rfl,k2.other _ (fun p hp=>hne p hp)]
    exact g7
   ·obtain ⟨y,y',a,b,c⟩:=k2.got p hp
    refine ⟨y,y',?_,b,c⟩
    rw [g2 _ (hne p hp)] at a; exact a
theorem asks_asker {B:Int} {σ : St} (h:Iv B σ):∀ p∈asks σ,Asker σ p:=fun p hp=>by
 obtain ⟨x,hx,_,hm,hs,hq,h1,h2,_⟩:=asks_mem h hp
 exact ⟨x,hx,hs,hq,h1,h2,hm⟩
theorem asks_nd {B:Int} {σ : St} (h:Iv B σ):((asks σ).map (·.1)).Nodup:=by
 unfold asks
 rw [List.Nodup,List.pairwise_map,List.pairwise_filterMap]
 refine (List.Pairwise.and_mem.1 (runners_nd σ)).imp fun {a b} hab=>?_
 obtain ⟨ha,hb,hne⟩:=hab
 obtain ⟨x,hx,rfl,_⟩:=runner_at h ha
 obtain ⟨y,hy,rfl,_⟩:=runner_at h hb
 intro p hp p' hp' e
 rw [hx] at hp
 rw [hy] at hp'
 simp only at hp hp'
 have e1:p.1=at_ σ.servs x.id:=by
  split at hp
  ·cases hp
  ·cases hc:((jStep _).2 && (ltI 0 (jStep _).1.1 && eqI x.sec 0)) with
   | true=>rw [hc] at hp; cases hp; rfl
   | false=>rw [hc] at hp; cases hp
 have e2:p'.1=at_ σ.servs y.id:=by
  split at hp'
  ·cases hp'
  ·cases hc:((jStep _).2 && (ltI 0 (jStep _).1.1 && eqI y.sec 0)) with
   | true=>rw [hc] at hp'; cases hp'; rfl
   | false=>rw [hc] at hp'; cases hp'
 rw [← e1,e,e2,hy] at hx
 cases hx
 exact hne rfl
end Go.AX.pm
namespace Go.AX.pl
open Go.AX
def Fixes (m:Int) (l:List E) (e e':E):Prop:=e'.1=e.1∧e'.2.1=e.2.1∧(e'.2.2=e.2.2∨(e.1∈pick m l∧e'.2.2=true))
theorem all2_ids {R:E→E→Prop} (hR:∀ a b,R a b→b.1=a.1):∀ {l l':List E},All2 R l l'→ids l'=ids l
 | _,_,.nil=>rfl
 | _,_,.cons h r=>by unfold ids; rw [List.map_cons,List.map_cons,hR _ _ h]; congr 1; exact all2_ids hR r
theorem all2_countP {R:E→E→Prop} {p q:E→Bool} (h:∀ a b,R a b→p a=true→q b=true):∀ {l l':List E},All2 R l l'→l.countP p≤l'.countP q
 | _,_,.nil=>Nat.le_refl _
 | _,_,.cons (a:=a) (b:=b) hab r=>by
  rw [List.countP_cons,List.countP_cons]
  have:=all2_countP h r
  cases hp:p a with
  | true=>rw [h _ _ hab hp]; simp; exact this
  | false=>simp; omega
theorem all2_mem' {R:E→E→Prop}:∀ {l l':List E},All2 R l l'→∀ {b:E},b∈l'→∃ a∈l,R a b
 | _,_,.nil,b,h=>by cases h
 | _,_,.cons hab r,b,h=>by
  rcases List.mem_cons.1 h with e | h
  ·subst e; exact ⟨_,List.mem_cons_self ..,hab⟩
  ·obtain ⟨a,ha,hR⟩:=all2_mem' r h
   exact ⟨a,List.mem_cons_of_mem _ ha,hR⟩
theorem pick_nd (m:Int) (l:List E):(pick m l).Nodup:=(pick_strict (m:=m) (l:=l)).imp fun h=>by omega
theorem pick_fix {m:Int} {l l':List E} (h:Good m l) (ha:All2 (Fixes m l) l l'):Good m l'∧pick m l'=pick m l:=by
 have hids:=all2_ids (fun a b h=>h.1) ha
 have hlen:l.length=l'.length:=ha.len
 have inpick:∀ e∈l,e.2.2=true→e.1∈pick m l:=fun e he hf=>(mem_pick_id h he).2 (fixed_runs h he hf)
 have hG:Good m l':=by
  refine ⟨h.m1,h.m2,by rw [← hlen]; exact h.len,fun x hx=>?_,by rw [hids]; exact h.nd,?_⟩
  ·obtain ⟨a,ha,hR⟩:=all2_mem' ha hx
   rw [hR.1]; exact h.id a ha
  ·have hsub:((l'.filter (·.2.2)).map (·.1)).length≤(pick m l).length:=by
    refine List.Nodup.length_le_of_subset ?_ ?_
    ·have:(ids l').Nodup:=by rw [hids]; exact h.nd
     exact this.sublist ((List.filter_sublist ..).map _)
    ·intro i hi
     obtain ⟨e',he',rfl⟩:=List.mem_map.1 hi
     rw [List.mem_filter] at he'
     obtain ⟨e,he,hR⟩:=all2_mem' ha he'.1
     rw [hR.1]
     rcases hR.2.2 with h1 | ⟨h1,_⟩
     ·exact inpick e he (by rw [← h1]; exact he'.2)
     ·exact h1
   have h3:=pick_length h
   rw [List.length_map] at hsub
   unfold nfix
   rw [List.countP_eq_length_filter]
   have:=h.m1
   omega
 refine ⟨hG,?_⟩
 have hsub:∀ i∈pick m l',i∈pick m l:=by
  intro i hi
  obtain ⟨y',hy',rfl⟩:=mem_pick.1 hi
  have hr:=(mem_run hG).1 hy'
  obtain ⟨y,hy,hR⟩:=all2_mem' ha hr.1
  rw [hR.1]
  rcases hR.2.2 with h1 | ⟨h1,_⟩
  ·have e:y'=y:=Prod.ext hR.1 (Prod.ext hR.2.1 h1)
   subst e
   rw [mem_pick_id h hy]
   cases hf:y'.2.2 with
   | true=>exact fixed_runs h hy hf
   | false=>
    rw [mem_run h]
    refine ⟨hy,Nat.lt_of_le_of_lt ?_ hr.2⟩
    refine all2_countP (fun a b hab hl=>?_) ha
    rw [lt_iff] at hl ⊢
    rw [hab.1,hab.2.1,hf] at *
    rcases hab.2.2 with h2 | ⟨_,h2⟩
    ·rw [h2]; exact hl
    ·rw [h2]; exact .inl ⟨rfl,rfl⟩
  ·exact h1
 have hle:(pick m l).length=(pick m l').length:=by rw [pick_length h,pick_length hG,hlen]
 have hperm:(pick m l').Perm (pick m l):=by
  rw [List.perm_ext_iff_of_nodup (pick_nd _ _) (pick_nd _ _)]
  intro i
  refine ⟨hsub i,fun hi=>?_⟩
  by_cases hc:i∈pick m l'
  ·exact hc
  ·have:=List.Nodup.length_le_of_subset (l₁:=i :: pick m l') (l₂:=pick m l) (List.nodup_cons.2 ⟨hc,pick_nd _ _⟩) (fun x hx=>by
    rcases List.mem_cons.1 hx with e | hx
    ·subst e; exact hi
    ·exact hsub x hx)
   rw [List.length_cons] at this
   omega
 exact hperm.eq_of_pairwise (le:=fun x y=>x≤y) (fun a b _ _ h1 h2=>by omega) (pick_strict.imp fun h=>by omega) (pick_strict.imp fun h=>by omega)
end Go.AX.pl
namespace Go.AX.pm
open Go.AX
noncomputable def ents (σ : St):List pl.E:=(ready σ.servs).map Serv.ent
theorem ents_good {B:Int} {σ : St} (h:Iv B σ):pl.Good σ.m (ents σ):=by
 refine ⟨h.m1,h.m2,?_,fun x hx=>?_,?_,h.fix⟩
 ·unfold ents
  rw [List.length_map]
  have:=List.length_filter_le (fun v:Serv=>eqI v.s.mode 1) σ.servs
  have:=h.len1
  unfold ready; omega
 ·obtain ⟨v,hv,rfl⟩:=List.mem_map.1 hx
  have hv:=(List.mem_filter.1 hv).1
  have:=h.serv v hv
  exact ⟨by have:=this.id1; show 0≤v.id; omega,by have:=this.id2; show v.id≤1023; omega⟩
 ·unfold pl.ids ents
  rw [List.map_map]
  exact (Rise.nd h.rise).sublist ((List.filter_sublist ..).map _)
theorem all2_filter {α β : Type} {R:α→β→Prop} {p:α→Bool} {q:β→Bool} (h:∀ a b,R a b→p a=q b):∀ {l:List α} {k:List β},All2 R l k→All2 R (l.filter p) (k.filter q)
 | _,_,.nil=>.nil
 | _,_,.cons (a:=a) (b:=b) hab r=>by
  rw [List.filter_cons,List.filter_cons,h _ _ hab]
  have:=all2_filter h r
  split
  ·exact .cons hab this
  ·exact this
theorem all2_map {α β γ δ : Type} {R:α→β→Prop} {S:γ→δ→Prop} {f:α→γ} {g:β→δ} (h:∀ a b,R a b→S (f a) (g b)):∀ {l:List α} {k:List β},All2 R l k→All2 S (l.map f) (k.map g)
 | _,_,.nil=>.nil
 | _,_,.cons hab r=>.cons (h _ _ hab) (all2_map h r)
def Gr (σ : St) (x x':Serv):Prop:=x'.id=x.id∧x'.s=x.s∧x'.jobs=x.jobs∧x'.num=x.num∧x'.ran=x.ran∧(x'=x∨(x.id∈runners σ∧x.sec=0∧x'.sec≠0∧1≤headSem x))
theorem granted_all {B:Int} {σ τ : St} (h:Iv B σ) (hg:Granted σ τ (asks σ)):All2 (Gr σ) σ.servs τ.servs:=by
 have hl:σ.servs.length = τ.servs.length:=by have:=congrArg List.length hg.ids; simpa using this.symm
 refine All2.of hl fun j x x' hx hx'=>?_
 by_cases hc:∃ p∈asks σ,p.1=j
 ·obtain ⟨p,hp,rfl⟩:=hc
  obtain ⟨y,y',hy,hy',a,b,c,d,e,f,g⟩:=hg.got p hp
  rw [hx] at hy; cases hy
  rw [hx'] at hy'; cases hy'
  obtain ⟨z,hz,h1,_,_,h2,h3,_⟩:=asks_mem h hp
  rw [hx] at hz; cases hz
  exact ⟨d,c,e,f,g,.inr ⟨h1,a,b,by omega⟩⟩
 ·have:=hg.other j (fun p hp e=>hc ⟨p,hp,e⟩)
  rw [hx,hx'] at this
  cases this
  exact ⟨rfl,rfl,rfl,rfl,rfl,.inl rfl⟩
theorem gr_ents {σ τ : St} (ha:All2 (Gr σ) σ.servs τ.servs):All2 (pl.Fixes σ.m (ents σ)) (ents σ) (ents τ):=by
 refine all2_map (R:=Gr σ) (fun a b hab=>?_) (all2_filter (fun a b hab=>by rw [hab.2.1]) ha)
 refine ⟨hab.1,by show b.s.due=a.s.due; rw [hab.2.1],?_⟩
 rcases hab.2.2.2.2.2 with e | ⟨h1,h2,h3,_⟩
 ·rw [e]; exact .inl rfl
 ·exact .inr ⟨h1,neI_true.2 h3⟩
theorem grants_iv {B:Int} {σ : St} (h:Iv B σ):Iv B (grants σ (asks σ)).1∧Granted σ (grants σ (asks σ)).1 (asks σ)∧runners (grants σ (asks σ)).1=runners σ:=by
 obtain ⟨h1,h2⟩:=grants_iw h.toIw (asks_asker h) (asks_nd h)
 generalize (grants σ (asks σ)).1 = τ at h1 h2
 have ha:=granted_all h h2
 obtain ⟨p1,p2⟩:=pl.pick_fix (ents_good h) (gr_ents ha)
 refine ⟨{ toIw:=by rw [h2.now]; exact h1,idle:=fun x' hx'=>?_,fix:=?_ },h2,?_⟩
 ·obtain ⟨i,hi⟩:=List.getElem?_of_mem hx'
  obtain ⟨x,hx,hR⟩:=ha.get' hi
  have:=h.idle x (List.mem_of_getElem? hx)
  unfold Idl at this ⊢
  rw [hR.2.2.1,hR.2.1]; exact this
 ·rw [h2.m]; exact p1.fx
 ·unfold runners
  rw [h2.m]; exact p2
def Asked (σ : St):Prop:=∀ x∈σ.servs,x.id∈runners σ→x.sec=0→headSem x≤0
theorem grants_asked {B:Int} {σ : St} (h:Iv B σ):Asked (grants σ (asks σ)).1:=by
 obtain ⟨h1,h2,h3⟩:=grants_iv h
 generalize (grants σ (asks σ)).1 = τ at h1 h2 h3
 intro x' hx' hr hs
 rw [h3] at hr
 have ha:=granted_all h h2
 obtain ⟨i,hi⟩:=List.getElem?_of_mem hx'
 obtain ⟨x,hx,hR⟩:=ha.get' hi
 rcases hR.2.2.2.2.2 with e | ⟨_,_,h5,_⟩
 ·subst e
  rcases Int.lt_or_le 0 (headSem x') with hpos | hle
  ·exfalso
   have hat:=at_self h.rise hx
   obtain ⟨y,hy,_,_,hj⟩:=runner_at h hr
   rw [hat,hx] at hy; cases hy
   cases hjs:x'.jobs with
   | nil=>exact hj hjs
   | cons j r=>
    have hgj:=(h.serv x' (List.mem_of_getElem? hx)).jobs j (by rw [hjs]; exact List.mem_cons_self ..)
    have hq:headSem x'=j.cur.1:=by unfold headSem; rw [hjs]
    have hp:(i,headSem x')∈asks σ:=by
     unfold asks
     rw [List.mem_filterMap]
     refine ⟨x'.id,hr,?_⟩
     rw [hat,hx]
     simp only [hjs]
     rw [hgj.step,← hq]
     have:(true && (ltI 0 (headSem x') && eqI x'.sec 0))=true:=by rw [ltI_true.2 hpos,eqI_true.2 hs]; rfl
     rw [this]; rfl
    obtain ⟨z,z',a,b,_,c,_⟩:=h2.got _ hp
    rw [hi] at b; cases b
    exact c hs
  ·exact hle
 ·exact absurd hs h5
theorem settle_iv {B:Int} {σ : St} (h:Iv B σ):Iv B (settle σ).1∧Asked (settle σ).1∧(settle σ).1.m = σ.m:=by
 have h1:=refuses_iv (σ.servs.length+1) (turnS_iv h)
 refine ⟨(grants_iv h1).1,grants_asked h1,?_⟩
 have:=(grants_iv h1).2.1.m
 refine this.trans ?_
 have gen:∀ (n:Nat) (τ : St),(refuses n τ).1.m = τ.m:=by
  intro n
  induction n with
  | zero=>intro τ; rfl
  | succ n ih=>
   intro τ
   unfold refuses
   split
   ·rfl
   ·rename_i σ' e hr
    show (refuses n σ').1.m=_
    rw [ih]
    obtain ⟨_,_,_,_,_,_,_,e,_⟩:=refuseIn_some hr
    rw [e]
 exact gen _ _
end Go.AX.pm
namespace Go.AX.pm
open Go.AX
noncomputable def ranJobs (x:Serv):List Job:=if x.sec=1 then x.jobs else match x.jobs with
 | []=>[]
 | j :: r=>(jRun j 1).1 :: r
noncomputable def ranHeld (x:Serv):Int:=if x.sec=1 then x.held else match x.jobs with
 | []=>x.held
 | _ :: _=>bif eqI x.sec 2 then addI .i64 x.held 1 else x.held
theorem run1_eq (x:Serv):run1 x = { x with s:=(cUse x.s 1).1,ran:=addI .i64 x.ran 1,jobs:=ranJobs x,held:=ranHeld x }:=by
 obtain ⟨i1,i2,i3,i4,i5,i6,i7⟩:=x
 unfold run1 ranJobs ranHeld
 simp only
 cases h:eqI i4 1 with
 | true=>simp only [cond_true,eqI_true.1 h,if_true]
 | false=>
  have:=eqI_false.1 h
  simp only [cond_false,if_neg this]
  cases i3 with
  | nil=>rfl
  | cons j r=>
   simp only
   cases eqI i4 2 <;> rfl
theorem run1_good {k:Nat} {x:Serv} (h:GoodV k x) (hj:x.jobs≠[]) (ha:x.sec=0→headSem x≤0):GoodV k (run1 x)∧key (run1 x)=key x∧headSem (run1 x)=headSem x:=by
 rw [run1_eq]
 cases hjs:x.jobs with
 | nil=>exact absurd hjs hj
 | cons j r=>
  have hgj:=h.jobs j (by rw [hjs]; exact List.mem_cons_self ..)
  obtain ⟨r1,r2,r3,r4,r5,r6⟩:=jRun_good hgj
  have hJ:ranJobs x=(if x.sec=1 then j else (jRun j 1).1) :: r:=by
   unfold ranJobs; rw [hjs]; split <;> rfl
  have hs:headSem { x with s:=(cUse x.s 1).1,ran:=addI .i64 x.ran 1,jobs:=ranJobs x,held:=ranHeld x }=headSem x:=by
   unfold headSem
   simp only [hJ,hjs]
   split
   ·rfl
   ·rw [r5]
  refine ⟨?_,?_,hs⟩
  ·refine { h with s:=(cUse_good h.s).1,len:=?_,jobs:=fun y hy=>?_,rest:=fun y hy=>?_,sec:=?_,done0:=fun h2 h1=>?_ }
   ·show (ranJobs x).length≤8
    have:=h.len
    rw [hjs] at this
    rw [hJ]; exact this
   ·have hy:y∈ranJobs x:=hy
    rw [hJ] at hy
    rcases List.mem_cons.1 hy with e | hy
    ·subst e
     split
     ·exact hgj
     ·exact r1
    ·exact h.jobs y (by rw [hjs]; exact List.mem_cons_of_mem _ hy)
   ·have hy:y∈(ranJobs x).tail:=hy
    rw [hJ] at hy
    exact h.rest y (by rw [hjs]; exact hy)
   ·rw [hs]; exact h.sec
   ·rw [hs] at h1
    have h2:x.sec≠2:=h2
    have h0:=h.done0 h2 h1
    rcases h.sec with e | ⟨e | e,_⟩
    ·have:=ha e; omega
    ·unfold headDone at h0 ⊢
     simp only [hJ,hjs] at h0 ⊢
     rw [if_pos e]; exact h0
    ·exact absurd e h2
  ·unfold key
   rw [hs]
theorem run1_idl {k:Nat} {x:Serv} (h:GoodV k x) (hi:Idl x) (hm:x.s.mode=1):Idl (run1 x):=by
 rw [run1_eq]
 unfold Idl at *
 have hne:x.jobs≠[]:=fun e=>by have:=hi.1 e; omega
 have h2:=(cUse_good h.s).2 (by omega)
 constructor
 ·intro e
  exfalso
  have e:ranJobs x=[]:=e
  unfold ranJobs at e
  split at e
  ·exact hne e
  ·split at e
   ·rename_i hj; exact hne hj
   ·cases e
 ·intro e; exact absurd e h2
theorem runs_eq:∀ (L:List Nat) (σ : St),L.Nodup→(runs σ L).m = σ.m∧(runs σ L).now = σ.now∧(runs σ L).sems = σ.sems∧(runs σ L).backs = σ.backs∧(runs σ L).servs.length = σ.servs.length∧∀ j,(runs σ L).servs[j]? = if j∈L then (σ.servs[j]?).map run1 else σ.servs[j]?
 | [],σ,_=>⟨rfl,rfl,rfl,rfl,rfl,fun j=>by simp [runs]⟩
 | i :: r,σ,hn=>by
  rw [List.nodup_cons] at hn
  show let τ:=(match σ.servs[i]? with | some v=>{ σ with servs:=σ.servs.set i (run1 v) } | none=>σ : St); _∧_
  intro τ
  have e:runs σ (i :: r)=runs τ r:=rfl
  obtain ⟨a,b,c,d,l,g⟩:=runs_eq r τ hn.2
  rw [e,a,b,c,d,l]
  have hτ0:∀ v,σ.servs[i]? = some v→τ = { σ with servs:=σ.servs.set i (run1 v) }:=fun v hv=>by
   show (match σ.servs[i]? with | some v=>{ σ with servs:=σ.servs.set i (run1 v) } | none=>σ : St)=_; rw [hv]
  have hτ1:σ.servs[i]? = none→τ = σ:=fun hv=>by
   show (match σ.servs[i]? with | some v=>{ σ with servs:=σ.servs.set i (run1 v) } | none=>σ : St) = σ; rw [hv]
  clear_value τ
  have hτ : τ.m = σ.m∧τ.now = σ.now∧τ.sems = σ.sems∧τ.backs = σ.backs∧τ.servs.length = σ.servs.length∧∀ j,τ.servs[j]? = if j=i then (σ.servs[j]?).map run1 else σ.servs[j]?:=by
   cases hv:σ.servs[i]? with
   | none=>
    rw [hτ1 hv]
    refine ⟨rfl,rfl,rfl,rfl,rfl,fun j=>?_⟩
    split
    ·rename_i e; subst e; rw [hv]; rfl
    ·rfl
   | some v=>
    rw [hτ0 v hv]
    refine ⟨rfl,rfl,rfl,rfl,by simp,fun j=>?_⟩
    show (σ.servs.set i (run1 v))[j]? = _
    rw [List.getElem?_set]
    by_cases e:i=j
    ·subst e
     rw [if_pos rfl,if_pos rfl,if_pos (List.getElem?_eq_some_iff.1 hv).1,hv]; rfl
    ·rw [if_neg e,if_neg (fun h=>e h.symm)]
  obtain ⟨a',b',c',d',l',g'⟩:=hτ
  refine ⟨a',b',c',d',l',fun j=>?_⟩
  rw [g,g']
  by_cases e1:j∈r
  ·have:j≠i:=fun e=>hn.1 (e ▸ e1)
   rw [if_pos e1,if_neg this,if_pos (List.mem_cons_of_mem _ e1)]
  ·rw [if_neg e1]
   by_cases e2:j=i
   ·subst e2; rw [if_pos rfl,if_pos (List.mem_cons_self ..)]
   ·rw [if_neg e2,if_neg (fun h=>by rcases List.mem_cons.1 h with h | h <;> contradiction)]
def RunPl (σ : St) (L:List Nat):Prop:=L.Nodup∧∀ p∈L,∃ x,σ.servs[p]? = some x∧x.s.mode=1∧x.jobs≠[]∧(x.sec=0→headSem x≤0)
theorem runs_iw {B:Int} {σ : St} (h:Iv B σ) {L:List Nat} (hL:RunPl σ L):Iw B (σ.now+1) (runs σ L)∧(∀ x∈(runs σ L).servs,Idl x)∧(fixed (runs σ L):Int)≤σ.m:=by
 obtain ⟨hn,hp⟩:=hL
 obtain ⟨e1,e2,e3,e4,e5,e6⟩:=runs_eq L σ hn
 have hx:∀ j x',(runs σ L).servs[j]? = some x'→∃ x,σ.servs[j]? = some x∧(x'=x∨(x'=run1 x∧x.s.mode=1∧x.jobs≠[]∧(x.sec=0→headSem x≤0))):=fun j x' hj=>by
  rw [e6] at hj
  split at hj
  ·rename_i hm
   obtain ⟨x,hx,a,b,c⟩:=hp j hm
   rw [hx] at hj
   cases hj
   exact ⟨x,hx,.inr ⟨rfl,a,b,c⟩⟩
  ·exact ⟨x',hj,.inl rfl⟩
 have hk:(runs σ L).servs.map key = σ.servs.map key:=by
  apply List.ext_getElem?
  intro j
  rw [List.getElem?_map,List.getElem?_map,e6]
  split
  ·rename_i hm
   obtain ⟨x,hx,a,b,c⟩:=hp j hm
   rw [hx]
   show some (key (run1 x))=some (key x)
   rw [(run1_good (h.serv x (List.mem_of_getElem? hx)) b c).2.1]
  ·rfl
 have eq:runs σ L = { σ with servs:=(runs σ L).servs }:=by
  cases hr:runs σ L
  rw [hr] at e1 e2 e3 e4
  simp at e1 e2 e3 e4
  simp [e1,e2,e3,e4]
 have hall:∀ x'∈(runs σ L).servs,∃ x∈σ.servs,(x'=x∨(x'=run1 x∧x.s.mode=1∧x.jobs≠[]∧(x.sec=0→headSem x≤0))):=fun x' hm=>by
  obtain ⟨j,hj⟩:=List.getElem?_of_mem hm
  obtain ⟨x,a,b⟩:=hx j x' hj
  exact ⟨x,List.mem_of_getElem? a,b⟩
 have h0:Iw B (σ.now+1) σ:={ h.toIw with ran:=fun x hx=>⟨(h.ran x hx).1,by have:=(h.ran x hx).2; omega⟩,back:=fun b hb=>⟨(h.back b hb).1,(h.back b hb).2.1,(h.back b hb).2.2.1,by have:=(h.back b hb).2.2.2; omega⟩ }
 refine ⟨?_,fun x' hm=>?_,?_⟩
 ·rw [eq]
  refine h0.withS hk (fun x' hm=>?_) (fun x' hm=>?_) (fun x' hm=>?_)
  ·obtain ⟨x,hx,e | ⟨e,a,b,c⟩⟩:=hall x' hm
   ·subst e; exact h.serv x' hx
   ·subst e; exact (run1_good (h.serv x hx) b c).1
  ·obtain ⟨x,hx,e | ⟨e,a,b,c⟩⟩:=hall x' hm
   ·subst e; exact h.num x' hx
   ·subst e; rw [run1_eq]; exact h.num x hx
  ·obtain ⟨x,hx,e | ⟨e,a,b,c⟩⟩:=hall x' hm
   ·subst e; exact h0.ran x' hx
   ·subst e; rw [run1_eq]
    have:=h.ran x hx
    have:=h.now2
    show 0≤addI .i64 x.ran 1∧addI .i64 x.ran 1≤σ.now+1
    rw [addI_64 (by omega) (by omega)]
    omega
 ·obtain ⟨x,hx,e | ⟨e,a,b,c⟩⟩:=hall x' hm
  ·subst e; exact h.idle x' hx
  ·subst e; exact run1_idl (h.serv x hx) (h.idle x hx) a
 ·refine Int.le_trans (Int.ofNat_le.2 ?_) h.fix
  unfold fixed
  rw [fixed_eq,fixed_eq]
  have ha:All2 (fun x' x=>(eqI x'.s.mode 1 && neI x'.sec 0)=true→(eqI x.s.mode 1 && neI x.sec 0)=true) (runs σ L).servs σ.servs:=All2.of e5 fun j x' x hx' hx0=>by
   obtain ⟨y,hy,e | ⟨e,a,b,c⟩⟩:=hx j x' hx'
   ·subst e; rw [hx0] at hy; cases hy; exact fun h=>h
   ·rw [hx0] at hy; cases hy
    subst e
    intro hb
    simp only [Bool.and_eq_true] at hb ⊢
    refine ⟨eqI_true.2 a,?_⟩
    have:=hb.2
    rw [run1_eq] at this
    exact this
  generalize (runs σ L).servs=l' at ha
  generalize σ.servs=l at ha
  clear hx hall h0 eq hk e6 e5 e4 e3 e2 e1
  induction ha with
  | nil=>exact Nat.le_refl _
  | cons hab _ ih=>
   rw [List.countP_cons,List.countP_cons]
   rename_i a b _ _ _
   cases hb:(eqI a.s.mode 1 && neI a.sec 0) with
   | true=>rw [hab hb]; simp; exact ih
   | false=>simp; omega
end Go.AX.pm
