import Derived.Test.YtiehbnmpaeedpaaGreatQJ16
set_option linter.unusedSimpArgs false
set_option linter.unusedVariables false
set_option linter.unusedSectionVars false
namespace Go.AX
variable [Kap]
variable {P:Program} {cx:Cx} {φ : Phi} {m:Mem} {w:World}
omit [Kap] in
theorem putT_facts {st st':St} {dst:Option Tmp} {ov:Option Value} {m':Mem} (h:putT st dst ov m'=some st') :
  st'.m=m'∧st'.sz=st.sz∧(∀ t,dst≠some t→st'.tm.get t=st.tm.get t)∧∀ d,dst=some d→d < st.sz∧st'.tm.get d=ov:=by
 cases dst with
 | none=>
  simp only [putT,Option.some.injEq] at h; subst h
  exact ⟨rfl,rfl,fun _ _=>rfl,fun d hd=>by cases hd⟩
 | some d=>
  simp only [putT] at h
  split at h
  ·rename_i hd
   have hd':d < st.sz:=Nat.le_of_ble_eq_true hd
   cases ov with
   | some x=>
    simp only [Option.some.injEq] at h; subst h
    refine ⟨rfl,rfl,fun t ht=>?_,fun e he=>?_⟩
    ·dsimp only; rw [Tr.get_put,if_neg]; rintro rfl; exact ht rfl
    ·cases he; exact ⟨hd',by dsimp only; rw [Tr.get_put,if_pos rfl]⟩
   | none=>
    simp only [Option.some.injEq] at h; subst h
    refine ⟨rfl,rfl,fun t ht=>?_,fun e he=>?_⟩
    ·dsimp only; rw [Tr.get_del,if_neg]; rintro rfl; exact ht rfl
    ·cases he; exact ⟨hd',by dsimp only; rw [Tr.get_del,if_pos rfl]⟩
  ·cases h
omit [Kap] in
theorem seesNone_get {p:Nat→Bool} {i:Nat} {made:List (Nat×Nat×AObj)}:∀ {q:List Nat} {l:List Oper} {j s:Nat} {o:Oper},seesNone p i made q l=true→q[j]? = some s→l[j]? = some o→0 < kindO o.op→makesO o.op=false→hasBit s i=false →
  ∀ e∈made,p e.1=true→hasBit s e.1=false
 | [],l,j,s,o,h,hs,ho,_,_,_=>by simp at hs
 | t :: q,[],j,s,o,h,hs,ho,_,_,_=>by simp at ho
 | t :: q,z :: l,j,s,o,h,hs,ho,hk,hm,hb=>by
  simp only [seesNone] at h
  split at h
  ·rename_i hc
   split at h
   ·rename_i ha
    cases j with
    | zero=>
     simp at hs ho; subst hs; subst ho
     intro e he hp
     have:=List.all_eq_true.1 ha e he
     simpa [hp] using this
    | succ j=>exact seesNone_get (j:=j) h (by simpa using hs) (by simpa using ho) hk hm hb
   ·cases h
  ·rename_i hc
   cases j with
   | zero=>
    simp at hs ho; subst hs; subst ho
    have hk':Nat.blt 0 (kindO z.op)=true:=Nat.ble_eq_true_of_le hk
    rw [hk',hm,hb] at hc
    simp at hc
   | succ j=>exact seesNone_get (j:=j) h (by simpa using hs) (by simpa using ho) hk hm hb
omit [Kap] in
theorem readsNone_get {p:Nat→Bool} {rd s:Nat} {made:List (Nat×Nat×AObj)}:∀ {l:List Nat} {n j t:Nat},readsNone p rd s made n l=true→l[j]? = some t→hasBit rd (n+j)=true→hasBit s (n+j)=false→∀ e∈made,p e.1=true→hasBit t e.1=false
 | [],n,j,t,h,hl,_,_=>by simp at hl
 | x :: r,n,j,t,h,hl,h1,h2=>by
  simp only [readsNone] at h
  split at h
  ·split at h
   ·rename_i ha
    cases j with
    | zero=>
     simp at hl; subst hl
     intro e he hp
     have:=List.all_eq_true.1 ha e he
     simpa [hp] using this
    | succ j=>exact readsNone_get (n:=n+1) (j:=j) h (by simpa using hl) (by rw [show n+1+j=n+(j+1) by omega]; exact h1) (by rw [show n+1+j=n+(j+1) by omega]; exact h2)
   ·cases h
  ·rename_i hc
   cases j with
   | zero=>
    rw [Nat.add_zero] at h1 h2
    rw [h1,h2] at hc
    simp at hc
   | succ j=>exact readsNone_get (n:=n+1) (j:=j) h (by simpa using hl) (by rw [show n+1+j=n+(j+1) by omega]; exact h1) (by rw [show n+1+j=n+(j+1) by omega]; exact h2)
omit [Kap] in
theorem ownC_facts {ops:List Oper} {s i:Nat} {d:Dr} {q:List Nat} {r:List Oper} (h:ownC ops s i d q r=true):d.hist=[]∧readsNone (newIn s d.took) d.rd s d.made 0 (ancs ops [])=true∧seesNone (newIn s d.took) i d.made q r=true:=by
 unfold ownC at h
 split at h
 ·rename_i h1
  split at h
  ·rename_i h2
   exact ⟨h1,h2,h⟩
  ·cases h
 ·cases h
omit [Kap] in
theorem drawOp_plain {call:Caller} {ops:List Oper} {o:Oper} {r:List Oper} {s:Nat} {q:List Nat} {i base:Nat} {d:Dr} {st:St} (hk:kindO o.op=0):drawOp cx call ops o r s q i base d st=drawPlain cx call o d st:=by
 unfold drawOp; rw [hk]; rfl
omit [Kap] in
theorem drawOp_read {call:Caller} {ops:List Oper} {o:Oper} {r:List Oper} {s:Nat} {q:List Nat} {i base:Nat} {d:Dr} {st:St} (hk:kindO o.op=1):drawOp cx call ops o r s q i base d st=drawRead cx call o s i d st:=by
 unfold drawOp; rw [hk]; rfl
omit [Kap] in
theorem drawOp_make {call:Caller} {ops:List Oper} {o:Oper} {r:List Oper} {s:Nat} {q:List Nat} {i base:Nat} {d:Dr} {st:St} (hk:kindO o.op=2) (hm:makesO o.op=true):drawOp cx call ops o r s q i base d st=drawMake cx call o i base d st:=by
 unfold drawOp; rw [hk,hm]; rfl
omit [Kap] in
theorem drawOp_change {call:Caller} {ops:List Oper} {o:Oper} {r:List Oper} {s:Nat} {q:List Nat} {i base:Nat} {d:Dr} {st:St} (hk:kindO o.op=2) (hm:makesO o.op=false):drawOp cx call ops o r s q i base d st=drawChange cx call ops o r s q i base d st:=by
 unfold drawOp; rw [hk,hm]; rfl
section
variable {call:Caller} {ops:List Oper} {base:Nat} {st0 st':St} (T:Trace cx call ops (ancs ops []) base 0 ⟨0,[],[],0⟩ st0 st')
def Trace.isH (i:Nat):Prop:=∃ o,ops[i]? = some o∧wantedA ops (T.S i) o=some true∧kindO o.op=2∧makesO o.op=false
def Trace.soft (h:Nat):Prop:=∃ r,(T.D (h+1)).hist=(h,true,(T.S h).m,(T.D h).took) :: r
def Trace.own (h:Nat):Prop:=∃ s,(ancs ops [])[h]? = some s∧ownC ops s h (T.D h) ((ancs ops []).drop (h+1)) (ops.drop (h+1))=true
omit [Kap] in
theorem Trace.at' {i:Nat} {o:Oper} (ho:ops[i]? = some o):∃ s,(ancs ops [])[i]? = some s∧OneStep cx call ops base i o s (ops.drop (i+1)) ((ancs ops []).drop (i+1)) (T.D i) (T.S i) (T.D (i+1)) (T.S (i+1)):=by
 obtain ⟨s,hs⟩:=anc_some ho
 exact ⟨s,hs,T.step i o s (Nat.zero_le _) ho hs⟩
omit [Kap] in
theorem Trace.skip {i:Nat} {o:Oper} (ho:ops[i]? = some o) (hw:wantedA ops (T.S i) o=some false):T.D (i+1)=T.D i∧putT (T.S i) o.dst skipV (T.S i).m=some (T.S (i+1)):=by
 obtain ⟨s,hs,h⟩:=T.at' ho
 rcases h with ⟨h1,_⟩ | ⟨_,h2,h3⟩
 ·rw [hw] at h1; cases h1
 ·exact ⟨h2,h3⟩
omit [Kap] in
theorem Trace.plain {i:Nat} {o:Oper} (ho:ops[i]? = some o) (hw:wantedA ops (T.S i) o=some true) (hk:kindO o.op=0) :
  T.D (i+1)=T.D i∧∃ v m1,opA cx call { T.S i with m:={ hp:=.nil,nx:=0,fl:=0 } } o=some (v,m1)∧putT (T.S i) o.dst v (T.S i).m=some (T.S (i+1)):=by
 obtain ⟨s,hs,h⟩:=T.at' ho
 rcases h with ⟨_,v,m1,h2,h3⟩ | ⟨h1,_⟩
 ·rw [drawOp_plain hk] at h2
  unfold drawPlain at h2
  split at h2
  ·rename_i v' m2 ho2
   simp only [Option.some.injEq,Prod.mk.injEq] at h2
   obtain ⟨rfl,rfl,h4⟩:=h2
   exact ⟨h4.symm,_,_,ho2,h3⟩
  ·cases h2
 ·rw [hw] at h1; cases h1
omit [Kap] in
theorem Trace.read {i s:Nat} {o:Oper} (ho:ops[i]? = some o) (hs:(ancs ops [])[i]? = some s) (hw:wantedA ops (T.S i) o=some true) (hk:kindO o.op=1) :
  T.D (i+1) = { T.D i with rd:=Nat.lor (T.D i).rd (bit i) }∧∃ m0 tk v m1,memAt s (T.S i).m (T.D i).took (T.D i).hist=some (m0,tk) ∧
   opA cx call { T.S i with m:=addMade (newIn s tk) (T.D i).made m0 } o=some (v,m1)∧putT (T.S i) o.dst v (T.S i).m=some (T.S (i+1)):=by
 obtain ⟨s',hs',h⟩:=T.at' ho
 rw [hs] at hs'; cases hs'
 rcases h with ⟨_,v,m1,h2,h3⟩ | ⟨h1,_⟩
 ·rw [drawOp_read hk] at h2
  unfold drawRead at h2
  split at h2
  ·rename_i m0 tk hm
   split at h2
   ·rename_i v' m2 ho2
    simp only [Option.some.injEq,Prod.mk.injEq] at h2
    obtain ⟨rfl,rfl,h4⟩:=h2
    exact ⟨h4.symm,m0,tk,_,_,hm,ho2,h3⟩
   ·cases h2
  ·cases h2
 ·rw [hw] at h1; cases h1
omit [Kap] in
theorem Trace.make {i:Nat} {o:Oper} (ho:ops[i]? = some o) (hw:wantedA ops (T.S i) o=some true) (hk:kindO o.op=2) (hm:makesO o.op=true) :
  ∃ v m1 ob,T.D (i+1) = { T.D i with made:=(i,base+i,ob) :: (T.D i).made }∧opA cx call { T.S i with m:={ hp:=.nil,nx:=base+i,fl:=0 } } o=some (v,m1)∧m1.hp.get (base+i)=some ob ∧
   putT (T.S i) o.dst v (T.S i).m=some (T.S (i+1)):=by
 obtain ⟨s,hs,h⟩:=T.at' ho
 rcases h with ⟨_,v,m1,h2,h3⟩ | ⟨h1,_⟩
 ·rw [drawOp_make hk hm] at h2
  unfold drawMake at h2
  split at h2
  ·rename_i v' m2 ho2
   split at h2
   ·rename_i ob hob
    simp only [Option.some.injEq,Prod.mk.injEq] at h2
    obtain ⟨rfl,rfl,h4⟩:=h2
    exact ⟨_,_,ob,h4.symm,ho2,hob,h3⟩
   ·cases h2
  ·cases h2
 ·rw [hw] at h1; cases h1
omit [Kap] in
theorem Trace.change {i s:Nat} {o:Oper} (ho:ops[i]? = some o) (hs:(ancs ops [])[i]? = some s) (hw:wantedA ops (T.S i) o=some true) (hk:kindO o.op=2) (hm:makesO o.op=false) :
  ((T.D i).hist=[]∨∃ j x r,(T.D i).hist=(j,x) :: r∧hasBit s j=true) ∧
  ∃ v m1,(T.D (i+1)).took=Nat.lor (T.D i).took s∧(T.D (i+1)).made=(T.D i).made∧(T.D (i+1)).rd=(T.D i).rd∧putT (T.S i) o.dst v (T.S (i+1)).m=some (T.S (i+1)) ∧
   (((T.D (i+1)).hist=(i,true,(T.S i).m,(T.D i).took) :: (T.D i).hist∧opA cx call { T.S i with m:={ addMade (newIn s (T.D i).took) (T.D i).made (T.S i).m with fl:=softFl ops base (T.S i).m.nx s i (T.D i) ((ancs ops []).drop (i+1)) (ops.drop (i+1)) } } o=some (v,m1)∧(T.S (i+1)).m = { m1 with fl:=(T.S i).m.fl }) ∨
    ((T.D (i+1)).hist=(i,false,(T.S i).m,(T.D i).took) :: (T.D i).hist∧opA cx call { T.S i with m:=addMade (newIn s (T.D i).took) (T.D i).made (T.S i).m } o=some (v,m1)∧(T.S (i+1)).m=m1 ∧
     (Nat.land (T.D i).rd s=(T.D i).rd∨(apartS (T.D i).rd s i ops 0=true∧apartD cx (T.S i) o.op ops base (T.D i).rd s=true))∧laterFree i ((ancs ops []).drop (i+1)) (ops.drop (i+1))=false)):=by
 obtain ⟨s',hs',h⟩:=T.at' ho
 rw [hs] at hs'; cases hs'
 rcases h with ⟨_,v,m1,h2,h3⟩ | ⟨h1,_⟩
 ·have hpm:=(putT_facts h3).1
  rw [drawOp_change hk hm] at h2
  unfold drawChange at h2
  split at h2
  ·cases h2
  ·rename_i hch
   refine ⟨?_,?_⟩
   ·cases hh:(T.D i).hist with
    | nil=>exact .inl rfl
    | cons e r=>
     obtain ⟨j,x⟩:=e
     rw [hh] at hch
     obtain ⟨x1,x2,x3⟩:=x
     exact .inr ⟨j,_,r,rfl,hch⟩
   ·split at h2
    ·split at h2
     ·rename_i hap
      split at h2
      ·rename_i hdn
       split at h2
       ·rename_i v' m2 ho2
        simp only [Option.some.injEq,Prod.mk.injEq] at h2
        obtain ⟨rfl,rfl,h4⟩:=h2
        unfold apartW at hap
        simp only [Bool.and_eq_true,Bool.not_eq_true'] at hap
        exact ⟨_,_,by rw [← h4],by rw [← h4],by rw [← h4],by rw [hpm]; exact h3,.inr ⟨by rw [← h4],ho2,hpm,.inr ⟨hap.2.2,hdn⟩,hap.1⟩⟩
       ·cases h2
      ·cases h2
     ·split at h2
      ·rename_i v' m2 ho2
       simp only [Option.some.injEq,Prod.mk.injEq] at h2
       obtain ⟨rfl,rfl,h4⟩:=h2
       refine ⟨_,m2,by rw [← h4],by rw [← h4],by rw [← h4],by rw [hpm]; exact h3,.inl ⟨by rw [← h4],ho2,hpm⟩⟩
      ·cases h2
    ·rename_i hsoft
     split at h2
     ·rename_i v' m2 ho2
      simp only [Option.some.injEq,Prod.mk.injEq] at h2
      obtain ⟨rfl,rfl,h4⟩:=h2
      simp only [Bool.or_eq_false_iff,Bool.not_eq_false'] at hsoft
      exact ⟨_,_,by rw [← h4],by rw [← h4],by rw [← h4],by rw [hpm]; exact h3,.inr ⟨by rw [← h4],ho2,hpm,.inl (Nat.eq_of_beq_eq_true hsoft.1),hsoft.2⟩⟩
     ·cases h2
 ·rw [hw] at h1; cases h1
omit [Kap] in
theorem kind_cases (o:Op):kindO o=0∨kindO o=1∨kindO o=2:=by
 cases o
 case call c=>
  obtain ⟨callee,args,ats⟩:=c
  cases callee with
  | builtin b=>cases b <;> simp [kindO]
  | _=>simp [kindO]
 case binOp op _ _ _ _=>cases op <;> simp [kindO]
 all_goals simp [kindO]
omit [Kap] in
theorem Trace.wanted {i:Nat} {o:Oper} (ho:ops[i]? = some o):wantedA ops (T.S i) o=some true∨wantedA ops (T.S i) o=some false:=by
 obtain ⟨s,hs,h⟩:=T.at' ho
 rcases h with ⟨h1,_⟩ | ⟨h1,_⟩
 ·exact .inl h1
 ·exact .inr h1
omit [Kap] in
theorem Trace.noH {i:Nat} {o:Oper} (ho:ops[i]? = some o) (hn:¬ T.isH i):(T.S (i+1)).m=(T.S i).m∧(T.D (i+1)).took=(T.D i).took∧(T.D (i+1)).hist=(T.D i).hist:=by
 obtain ⟨s,hs⟩:=anc_some ho
 rcases T.wanted ho with hw | hw
 ·rcases kind_cases o.op with hk | hk | hk
  ·obtain ⟨h1,v,m1,_,h3⟩:=T.plain ho hw hk
   exact ⟨(putT_facts h3).1,by rw [h1],by rw [h1]⟩
  ·obtain ⟨h1,m0,tk,v,m1,_,_,h3⟩:=T.read ho hs hw hk
   exact ⟨(putT_facts h3).1,by rw [h1],by rw [h1]⟩
  ·cases hm:makesO o.op with
   | true=>
    obtain ⟨v,m1,ob,h1,_,_,h3⟩:=T.make ho hw hk hm
    exact ⟨(putT_facts h3).1,by rw [h1],by rw [h1]⟩
   | false=>exact absurd ⟨o,ho,hw,hk,hm⟩ hn
 ·obtain ⟨h1,h3⟩:=T.skip ho hw
  exact ⟨(putT_facts h3).1,by rw [h1],by rw [h1]⟩
omit [Kap] in
theorem Trace.same {a:Nat}:∀ {b:Nat},a≤b→b≤ops.length→(∀ h,a≤h→h < b→¬ T.isH h)→(T.S b).m=(T.S a).m∧(T.D b).took=(T.D a).took
 | b,hab,hb,hn=>by
  induction b with
  | zero=>
   obtain rfl:a=0:=by omega
   exact ⟨rfl,rfl⟩
  | succ b ih=>
   by_cases e:a=b+1
   ·subst e; exact ⟨rfl,rfl⟩
   ·have ho:=List.getElem?_eq_getElem (show b < ops.length by omega)
    obtain ⟨h1,h2,_⟩:=T.noH ho (hn b (by omega) (by omega))
    obtain ⟨h3,h4⟩:=ih (by omega) (by omega) (fun h h1 h2=>hn h h1 (by omega))
    exact ⟨h1.trans h3,h2.trans h4⟩
omit [Kap] in
theorem Trace.hist_head:∀ {i:Nat},i≤ops.length→((T.D i).hist=[]∧∀ h,h < i→¬ T.isH h)∨(∃ j x r,(T.D i).hist=(j,x) :: r∧j < i∧T.isH j∧∀ h,j < h→h < i→¬ T.isH h)
 | 0,_=>by left; rw [T.d0]; exact ⟨rfl,fun h hh=>by omega⟩
 | i+1,hi=>by
  have ho:=List.getElem?_eq_getElem (show i < ops.length by omega)
  by_cases hH:T.isH i
  ·obtain ⟨o,ho',hw,hk,hm⟩:=hH
   obtain ⟨s,hs⟩:=anc_some ho'
   obtain ⟨_,v,m1,_,_,_,_,h5⟩:=T.change ho' hs hw hk hm
   right
   rcases h5 with ⟨h5,_⟩ | ⟨h5,_⟩
   ·exact ⟨i,_,_,h5,by omega,⟨o,ho',hw,hk,hm⟩,fun h a b=>by omega⟩
   ·exact ⟨i,_,_,h5,by omega,⟨o,ho',hw,hk,hm⟩,fun h a b=>by omega⟩
  ·obtain ⟨_,_,h3⟩:=T.noH ho hH
   rw [h3]
   rcases Trace.hist_head (i:=i) (by omega) with ⟨q1,q2⟩ | ⟨j,x,r,q1,q2,q3,q4⟩
   ·refine .inl ⟨q1,fun h hh=>?_⟩
    by_cases e:h=i
    ·subst e; exact hH
    ·exact q2 h (by omega)
   ·refine .inr ⟨j,x,r,q1,by omega,q3,fun h a b=>?_⟩
    by_cases e:h=i
    ·subst e; exact hH
    ·exact q4 h a (by omega)
omit [Kap] in
theorem Trace.memAt_ok {s:Nat}:∀ {i:Nat} {m0:Mem} {tk:Nat},i≤ops.length→memAt s (T.S i).m (T.D i).took (T.D i).hist=some (m0,tk) →
  ∃ t,t≤i∧m0=(T.S t).m∧tk=(T.D t).took∧(t=0∨∃ h,t=h+1∧T.isH h∧hasBit s h=true)∧∀ h,t≤h→h < i→T.isH h→T.soft h∧hasBit s h=false
 | 0,m0,tk,_,h=>by
  rw [T.d0] at h
  simp only [memAt,Option.some.injEq,Prod.mk.injEq] at h
  exact ⟨0,Nat.le_refl _,h.1.symm,by rw [T.d0]; exact h.2.symm,.inl rfl,fun h a b=>by omega⟩
 | i+1,m0,tk,hi,h=>by
  have ho:=List.getElem?_eq_getElem (show i < ops.length by omega)
  by_cases hH:T.isH i
  ·obtain ⟨o,ho',hw,hk,hm⟩:=hH
   obtain ⟨s',hs⟩:=anc_some ho'
   obtain ⟨_,v,m1,_,_,_,_,h5⟩:=T.change ho' hs hw hk hm
   rcases h5 with ⟨h5,_⟩ | ⟨h5,_⟩
   ·rw [h5] at h
    simp only [memAt] at h
    split at h
    ·rename_i hbit
     simp only [Option.some.injEq,Prod.mk.injEq] at h
     exact ⟨i+1,Nat.le_refl _,h.1.symm,h.2.symm,.inr ⟨i,rfl,⟨o,ho',hw,hk,hm⟩,hbit⟩,fun h a b=>by omega⟩
    ·rename_i hb
     obtain ⟨t,q1,q2,q3,q5,q4⟩:=Trace.memAt_ok (i:=i) (by omega) h
     refine ⟨t,by omega,q2,q3,q5,fun h a b hh=>?_⟩
     by_cases e:h=i
     ·subst e; exact ⟨⟨_,h5⟩,hb⟩
     ·exact q4 h a (by omega) hh
   ·rw [h5] at h
    simp only [memAt] at h
    split at h
    ·rename_i hbit
     simp only [Option.some.injEq,Prod.mk.injEq] at h
     exact ⟨i+1,Nat.le_refl _,h.1.symm,h.2.symm,.inr ⟨i,rfl,⟨o,ho',hw,hk,hm⟩,hbit⟩,fun h a b=>by omega⟩
    ·cases h
  ·obtain ⟨g1,g2,g3⟩:=T.noH ho hH
   rw [g1,g2,g3] at h
   obtain ⟨t,q1,q2,q3,q5,q4⟩:=Trace.memAt_ok (i:=i) (by omega) h
   refine ⟨t,by omega,q2,q3,q5,fun h a b hh=>?_⟩
   by_cases e:h=i
   ·subst e; exact absurd hh hH
   ·exact q4 h a (by omega) hh
omit [Kap] in
theorem Trace.rd_mono {k:Nat}:∀ {j:Nat} {i:Nat},i≤j→j≤ops.length→hasBit (T.D i).rd k=true→hasBit (T.D j).rd k=true
 | 0,i,hij,hj,h=>by
  obtain rfl:i=0:=by omega
  exact h
 | j+1,i,hij,hj,h=>by
  by_cases e:i=j+1
  ·subst e; exact h
  ·have ih:=Trace.rd_mono (j:=j) (i:=i) (by omega) (by omega) h
   have ho:=List.getElem?_eq_getElem (show j < ops.length by omega)
   obtain ⟨s,hs⟩:=anc_some ho
   rcases T.wanted ho with hw | hw
   ·rcases kind_cases ops[j].op with hk | hk | hk
    ·obtain ⟨h1,_⟩:=T.plain ho hw hk
     rw [h1]; exact ih
    ·obtain ⟨h1,_⟩:=T.read ho hs hw hk
     rw [h1]
     dsimp only
     rw [hasBit_lor,ih]; rfl
    ·cases hm:makesO ops[j].op with
     | true=>
      obtain ⟨v,m1,ob,h1,_⟩:=T.make ho hw hk hm
      rw [h1]; exact ih
     | false=>
      obtain ⟨_,v,m1,_,_,h3,_⟩:=T.change ho hs hw hk hm
      rw [h3]; exact ih
   ·obtain ⟨h1,_⟩:=T.skip ho hw
    rw [h1]; exact ih
omit [Kap] in
theorem Trace.tm_step {i:Nat} {o:Oper} (ho:ops[i]? = some o) {t:Nat} (hd:o.dst≠some t):(T.S (i+1)).tm.get t=(T.S i).tm.get t:=by
 obtain ⟨s,hs,h⟩:=T.at' ho
 rcases h with ⟨_,v,m1,_,h3⟩ | ⟨_,_,h3⟩
 ·exact (putT_facts h3).2.2.1 t hd
 ·exact (putT_facts h3).2.2.1 t hd
omit [Kap] in
theorem Trace.tm_between {t i:Nat}:∀ {n:Nat},i+n≤ops.length→(∀ j o,i≤j→j < i+n→ops[j]? = some o→o.dst≠some t)→(T.S (i+n)).tm.get t=(T.S i).tm.get t
 | 0,_,_=>rfl
 | n+1,hn,h=>by
  have ih:=Trace.tm_between (n:=n) (by omega) (fun j o a b c=>h j o a (by omega) c)
  have ho:=List.getElem?_eq_getElem (show i+n < ops.length by omega)
  rw [← Nat.add_assoc,T.tm_step ho (h (i+n) _ (by omega) (by omega) ho)]
  exact ih
def Trace.keeps (h b:Nat):Prop:=∃ o,ops[h]? = some o∧((∃ t c x ad,o.op = .store t c x∧evalA cx (T.S h) c=some (.pointer (some ad))∧ad.block≠b) ∨
 ∃ t c k x r,o.op = .mapUpdate t c k x∧evalA cx (T.S h) c=some (.map (some r))∧r≠b)
def Trace.keepsC (h b lo hi:Nat):Prop:=∃ o t c x ad n,ops[h]? = some o∧o.op = .store t c x∧evalA cx (T.S h) c=some (.pointer (some ad))∧sizeT cx t=some n∧ad.block=b∧(hi≤ad.off∨ad.off+n≤lo)
omit [Kap] in
theorem loadP_some {o:Op} {x:Operand} (h:loadP o=some x):∃ t,o = .load t x:=by
 cases o <;> simp [loadP] at h
 subst h; exact ⟨_,rfl⟩
omit [Kap] in
theorem ptrA_some {st:St} {x:Operand} {ad:Addr} (h:ptrA cx st x=some ad):evalA cx st x=some (.pointer (some ad)):=by
 unfold ptrA at h
 split at h
 ·rename_i a ha; cases h; exact ha
 ·cases h
omit [Kap] in
theorem chgB_some {st:St} {o:Op} {b:Nat} {rng:Option (Nat×Nat)} (h:chgB cx st o=some (b,rng)):(∃ t x v ad,o = .store t x v∧evalA cx st x=some (.pointer (some ad))∧ad.block=b∧∀ lo n,rng=some (lo,n)→sizeT cx t=some n∧ad.off=lo)∨∃ t x k v,o = .mapUpdate t x k v∧evalA cx st x=some (.map (some b))∧rng=none:=by
 unfold chgB at h
 split at h
 ·rename_i t x v
  split at h
  ·rename_i a ha
   simp only [Option.some.injEq,Prod.mk.injEq] at h
   obtain ⟨h1,h2⟩:=h
   refine .inl ⟨t,x,v,a,rfl,ptrA_some ha,h1,fun lo n e=>?_⟩
   rw [e] at h2
   split at h2
   ·rename_i n' hn; cases h2; exact ⟨hn,rfl⟩
   ·cases h2
  ·cases h
 ·rename_i t x k v
  split at h
  ·rename_i r hr
   cases h
   exact .inr ⟨t,x,k,v,rfl,hr,rfl⟩
  ·cases h
 ·cases h
omit [Kap] in
theorem apartS_get {rd s h:Nat}:∀ {l:List Oper} {n j:Nat} {o:Oper},apartS rd s h l n=true→l[j]? = some o→hasBit rd (n+j)=true→hasBit s (n+j)=false→∃ a,loadP o.op=some a∧keepsO a ((l.drop j).take (h - (n+j)))=true
 | [],n,j,o,_,hj,_,_=>by cases hj
 | x :: r,n,0,o,e,hj,h1,h2=>by
  cases hj
  unfold apartS at e
  rw [Nat.add_zero] at h1 h2
  simp only [h1,h2,Bool.not_false,Bool.and_self] at e
  split at e
  ·rename_i a ha
   split at e
   ·rename_i hk
    exact ⟨a,ha,by simpa using hk⟩
   ·cases e
  ·cases e
 | x :: r,n,j+1,o,e,hj,h1,h2=>by
  have e':apartS rd s h r (n+1)=true:=by
   unfold apartS at e
   split at e
   ·exact e
   ·split at e
    ·split at e
     ·exact e
     ·cases e
    ·cases e
  obtain ⟨a,p,q⟩:=apartS_get (n:=n+1) (j:=j) e' (by simpa using hj) (by rw [show n+1+j=n+(j+1) by omega]; exact h1) (by rw [show n+1+j=n+(j+1) by omega]; exact h2)
  refine ⟨a,p,?_⟩
  rw [show n+(j+1)=n+1+j by omega]
  simpa using q
omit [Kap] in
theorem apartB_get {st:St} {bw base rd s:Nat} {rng:Option (Nat×Nat)}:∀ {l:List Oper} {n j:Nat} {o:Oper},apartB cx st bw rng base rd s l n=true→l[j]? = some o→hasBit rd (n+j)=true→hasBit s (n+j)=false→∃ a ad,loadP o.op=some a∧ptrA cx st a=some ad∧(ad.block≠bw∨(bw < base∧apartR cx rng (loadTy o.op) ad.off=true))
 | [],n,j,o,_,hj,_,_=>by cases hj
 | x :: r,n,0,o,e,hj,h1,h2=>by
  cases hj
  unfold apartB at e
  rw [Nat.add_zero] at h1 h2
  simp only [h1,h2,Bool.not_false,Bool.and_self] at e
  split at e
  ·rename_i a ha
   split at e
   ·rename_i ad hb
    split at e
    ·cases e
    ·rename_i hne
     refine ⟨a,ad,ha,hb,?_⟩
     by_cases q:ad.block=bw
     ·right
      rw [q,Nat.beq_refl,Bool.true_and,Bool.not_eq_false',Bool.and_eq_true] at hne
      exact ⟨Nat.lt_of_lt_of_le (Nat.lt_succ_self _) (Nat.le_of_ble_eq_true hne.1),hne.2⟩
     ·exact .inl q
   ·cases e
  ·cases e
 | x :: r,n,j+1,o,e,hj,h1,h2=>by
  have e':apartB cx st bw rng base rd s r (n+1)=true:=by
   unfold apartB at e
   split at e
   ·exact e
   ·split at e
    ·split at e
     ·split at e
      ·cases e
      ·exact e
     ·cases e
    ·cases e
  exact apartB_get (n:=n+1) (j:=j) e' (by simpa using hj) (by rw [show n+1+j=n+(j+1) by omega]; exact h1) (by rw [show n+1+j=n+(j+1) by omega]; exact h2)
omit [Kap] in
theorem apartR_some {lo n off:Nat} {t:TypeId} (h:apartR cx (some (lo,n)) t off=true):∃ k,sizeT cx t=some k∧1≤k∧(off+k≤lo∨lo+n≤off):=by
 unfold apartR at h
 simp only at h
 split at h
 ·rename_i k hk
  simp only [Bool.and_eq_true,Bool.or_eq_true] at h
  exact ⟨k,hk,Nat.le_of_ble_eq_true h.1,h.2.imp Nat.le_of_ble_eq_true Nat.le_of_ble_eq_true⟩
 ·cases h
omit [Kap] in
theorem Trace.soft_of {i h:Nat} {o:Oper} {sh:Nat} (hih:i < h) (ho:ops[i]? = some o) (hw:wantedA ops (T.S i) o=some true) (hk:kindO o.op=1) (hh:T.isH h) (hs:(ancs ops [])[h]? = some sh) (hb:hasBit sh i=false) :
  T.soft h∨∃ t x ad,o.op = .load t x∧evalA cx (T.S i) x=some (.pointer (some ad))∧(T.keeps h ad.block∨(ad.block < base∧∃ k,sizeT cx t=some k∧1≤k∧T.keepsC h ad.block ad.off (ad.off+k))):=by
 obtain ⟨oh,hoh,hwh,hkh,hmh⟩:=hh
 have hhl:h < ops.length:=(List.getElem?_eq_some_iff.1 hoh).1
 obtain ⟨s,hsi⟩:=anc_some ho
 obtain ⟨h1,_⟩:=T.read ho hsi hw hk
 have hrd:hasBit (T.D (i+1)).rd i=true:=by
  rw [h1]; dsimp only
  rw [hasBit_lor,hasBit_bit]; simp
 have hrd':=T.rd_mono (j:=h) (i:=i+1) (by omega) (by omega) hrd
 obtain ⟨_,v,m1,_,_,_,_,h5⟩:=T.change hoh hs hwh hkh hmh
 rcases h5 with ⟨h5,_⟩ | ⟨_,_,_,h6 | ⟨h6,h7⟩,_⟩
 ·exact .inl ⟨_,h5⟩
 ·have:=land_eq h6 hrd'
  rw [hb] at this; cases this
 ·right
  obtain ⟨a,a1,a2⟩:=apartS_get (n:=0) (j:=i) h6 ho (by rw [Nat.zero_add]; exact hrd') (by rw [Nat.zero_add]; exact hb)
  unfold apartD at h7
  split at h7
  ·rename_i bw rng hbw
   obtain ⟨a',ad,b1,b2,b3⟩:=apartB_get (n:=0) (j:=i) h7 ho (by rw [Nat.zero_add]; exact hrd') (by rw [Nat.zero_add]; exact hb)
   rw [a1] at b1; cases b1
   obtain ⟨t,e1⟩:=loadP_some a1
   have d1:=ptrA_some b2
   have hty:loadTy o.op=t:=by rw [e1]; rfl
   rw [hty] at b3
   refine ⟨t,a,ad,e1,?_,?_⟩
   ·rw [← d1]
    cases a with
    | tmp k=>
     show (T.S i).tm.get k=(T.S h).tm.get k
     have hbt:=T.tm_between (t:=k) (i:=i) (n:=h - i) (by omega) (fun j oj q1 q2 q3=>by
      unfold keepsO at a2
      intro hd
      have hmem:oj∈(ops.drop i).take (h - (0+i)):=by
       refine List.mem_of_getElem? (i:=j - i) ?_
       rw [List.getElem?_take_of_lt (by omega),List.getElem?_drop,show i+(j - i)=j by omega]; exact q3
      have:=List.all_eq_true.1 a2 oj hmem
      rw [hd] at this
      simp [Nat.beq_refl] at this)
     rw [show i+(h - i)=h by omega] at hbt
     exact hbt.symm
    | _=>rfl
   ·rcases chgB_some hbw with ⟨ts,c,vs,aw,e2,w1,w2,w3⟩ | ⟨ts,c,ks,vs,e2,w1,w3⟩
    ·rcases b3 with b3 | ⟨b3,b4⟩
     ·exact .inl ⟨oh,hoh,.inl ⟨ts,c,vs,aw,e2,w1,by rw [w2]; exact fun e=>b3 e.symm⟩⟩
     ·by_cases q:ad.block=bw
      ·right
       cases rng with
       | none=>cases b4
       | some p=>
        obtain ⟨lo,n⟩:=p
        obtain ⟨k,k1,k2,k3⟩:=apartR_some b4
        obtain ⟨w4,w5⟩:=w3 lo n rfl
        exact ⟨by rw [q]; exact b3,k,k1,k2,oh,ts,c,vs,aw,n,hoh,e2,w1,w4,by rw [w2,q],by rw [w5]; exact k3⟩
      ·exact .inl ⟨oh,hoh,.inl ⟨ts,c,vs,aw,e2,w1,by rw [w2]; exact fun e=>q e.symm⟩⟩
    ·rcases b3 with b3 | ⟨b3,b4⟩
     ·exact .inl ⟨oh,hoh,.inr ⟨ts,c,ks,vs,bw,e2,w1,fun e=>b3 e.symm⟩⟩
     ·rw [w3] at b4; cases b4
  ·cases h7
omit [Kap] in
theorem Trace.made_step (i:Nat) (hi:i < ops.length):(T.D (i+1)).made=(T.D i).made∨∃ ob,(T.D (i+1)).made=(i,base+i,ob) :: (T.D i).made:=by
 have ho:=List.getElem?_eq_getElem hi
 obtain ⟨s,hs⟩:=anc_some ho
 rcases T.wanted ho with hw | hw
 ·rcases kind_cases ops[i].op with hk | hk | hk
  ·obtain ⟨h1,_⟩:=T.plain ho hw hk
   left; rw [h1]
  ·obtain ⟨h1,_⟩:=T.read ho hs hw hk
   left; rw [h1]
  ·cases hm:makesO ops[i].op with
   | true=>
    obtain ⟨v,m1,ob,h1,_⟩:=T.make ho hw hk hm
    right; exact ⟨ob,by rw [h1]⟩
   | false=>
    obtain ⟨_,v,m1,_,h2,_⟩:=T.change ho hs hw hk hm
    left; exact h2
 ·obtain ⟨h1,_⟩:=T.skip ho hw
  left; rw [h1]
omit [Kap] in
theorem Trace.made_in:∀ {i:Nat},i≤ops.length→∀ {k id:Nat} {ob:AObj},(k,id,ob)∈(T.D i).made→k < i∧id=base+k
 | 0,_,k,id,ob,h=>by rw [T.d0] at h; cases h
 | i+1,hi,k,id,ob,h=>by
  rcases T.made_step i (by omega) with e | ⟨o,e⟩
  ·rw [e] at h
   obtain ⟨h1,h2⟩:=Trace.made_in (i:=i) (by omega) h
   exact ⟨by omega,h2⟩
  ·rw [e] at h
   rcases List.mem_cons.1 h with q | q
   ·simp only [Prod.mk.injEq] at q; obtain ⟨rfl,rfl,_⟩:=q; exact ⟨by omega,rfl⟩
   ·obtain ⟨h1,h2⟩:=Trace.made_in (i:=i) (by omega) q
    exact ⟨by omega,h2⟩
omit [Kap] in
theorem Trace.made_one:∀ {i:Nat},i≤ops.length→∀ {k k' id:Nat} {ob ob':AObj},(k,id,ob)∈(T.D i).made→(k',id,ob')∈(T.D i).made→ob'=ob
 | 0,_,k,k',id,ob,ob',h,h'=>by rw [T.d0] at h; cases h
 | i+1,hi,k,k',id,ob,ob',h,h'=>by
  rcases T.made_step i (by omega) with e | ⟨o,e⟩
  ·rw [e] at h h'
   exact Trace.made_one (i:=i) (by omega) h h'
  ·rw [e] at h h'
   have hne:∀ {k:Nat} {ob:AObj},(k,base+i,ob)∈(T.D i).made→False:=by
    intro k ob q
    obtain ⟨h1,h2⟩:=Trace.made_in T (i:=i) (by omega) q
    omega
   rcases List.mem_cons.1 h with q | q
   ·simp only [Prod.mk.injEq] at q; obtain ⟨rfl,rfl,rfl⟩:=q
    rcases List.mem_cons.1 h' with q' | q'
    ·simp only [Prod.mk.injEq] at q'; exact q'.2.2
    ·exact (hne q').elim
   ·rcases List.mem_cons.1 h' with q' | q'
    ·simp only [Prod.mk.injEq] at q'; obtain ⟨rfl,rfl,rfl⟩:=q'
     exact (hne q).elim
    ·exact Trace.made_one (i:=i) (by omega) q q'
omit [Kap] in
theorem Trace.made_mono:∀ {j i:Nat},i≤j→j≤ops.length→∀ {e:Nat×Nat×AObj},e∈(T.D i).made→e∈(T.D j).made
 | 0,i,hij,hj,e,h=>by
  obtain rfl:i=0:=by omega
  exact h
 | j+1,i,hij,hj,e,h=>by
  by_cases q:i=j+1
  ·subst q; exact h
  ·have ih:=Trace.made_mono (j:=j) (i:=i) (by omega) (by omega) h
   rcases T.made_step j (by omega) with q | ⟨o,q⟩
   ·rw [q]; exact ih
   ·rw [q]; exact List.mem_cons_of_mem _ ih
omit [Kap] in
theorem Trace.made_back:∀ {j i:Nat},i≤j→j≤ops.length→∀ {k id:Nat} {ob:AObj},(k,id,ob)∈(T.D j).made→k < i→(k,id,ob)∈(T.D i).made
 | 0,i,hij,hj,k,id,ob,h,hk=>by omega
 | j+1,i,hij,hj,k,id,ob,h,hk=>by
  by_cases q:i=j+1
  ·subst q; exact h
  ·rcases T.made_step j (by omega) with q' | ⟨o,q'⟩
   ·rw [q'] at h
    exact Trace.made_back (j:=j) (i:=i) (by omega) (by omega) h hk
   ·rw [q'] at h
    rcases List.mem_cons.1 h with e | e
    ·simp only [Prod.mk.injEq] at e; omega
    ·exact Trace.made_back (j:=j) (i:=i) (by omega) (by omega) e hk
omit [Kap] in
theorem Trace.sz:∀ {i:Nat},i≤ops.length→(T.S i).sz=st0.sz
 | 0,_=>by rw [T.s0]
 | i+1,hi=>by
  have ho:=List.getElem?_eq_getElem (show i < ops.length by omega)
  rw [← Trace.sz (i:=i) (by omega)]
  obtain ⟨s,hs,h⟩:=T.at' ho
  rcases h with ⟨_,v,m1,_,h3⟩ | ⟨_,_,h3⟩
  ·exact (putT_facts h3).2.1
  ·exact (putT_facts h3).2.1
omit [Kap] in
theorem Trace.took_in:∀ {i:Nat},i≤ops.length→∀ {k:Nat},hasBit (T.D i).took k=true→∃ h s,h < i∧T.isH h∧(ancs ops [])[h]? = some s∧hasBit s k=true
 | 0,_,k,h=>by rw [T.d0] at h; rw [hasBit_zero] at h; cases h
 | i+1,hi,k,h=>by
  have ho:=List.getElem?_eq_getElem (show i < ops.length by omega)
  by_cases hH:T.isH i
  ·obtain ⟨o,ho',hw,hk,hm⟩:=hH
   obtain ⟨s,hs⟩:=anc_some ho'
   obtain ⟨_,v,m1,h1,_⟩:=T.change ho' hs hw hk hm
   rw [h1,hasBit_lor] at h
   simp only [Bool.or_eq_true] at h
   rcases h with h | h
   ·obtain ⟨j,s',q1,q2⟩:=Trace.took_in (i:=i) (by omega) h
    exact ⟨j,s',by omega,q2⟩
   ·exact ⟨i,s,by omega,⟨o,ho',hw,hk,hm⟩,hs,h⟩
  ·obtain ⟨_,h2,_⟩:=T.noH ho hH
   rw [h2] at h
   obtain ⟨j,s',q1,q2⟩:=Trace.took_in (i:=i) (by omega) h
   exact ⟨j,s',by omega,q2⟩
omit [Kap] in
theorem Trace.own_first {i:Nat} (hi:i≤ops.length) (h:T.own i):(T.S i).m=st0.m∧(T.D i).took=0:=by
 obtain ⟨s,_,h⟩:=h
 obtain ⟨h1,_,_⟩:=ownC_facts h
 rcases T.hist_head hi with ⟨_,q⟩ | ⟨j,x,r,q,_⟩
 ·obtain ⟨e1,e2⟩:=T.same (a:=0) (Nat.zero_le _) hi (fun h _ b=>q h b)
  rw [e1,e2,T.s0,T.d0]
  exact ⟨rfl,rfl⟩
 ·rw [h1] at q; cases q
omit [Kap] in
theorem Trace.own_away {i h s sh k id:Nat} {o:Oper} {ob:AObj} (hown:T.own h) (hsh:(ancs ops [])[h]? = some sh) (hkh:k < h) (hm:(k,id,ob)∈(T.D ops.length).made) (hb:hasBit sh k=true) (hhi:h < i)
  (ho:ops[i]? = some o) (hs:(ancs ops [])[i]? = some s) (hk:kindO o.op=1) (hsi:hasBit s h=false):hasBit s k=false:=by
 have hil:i < ops.length:=(List.getElem?_eq_some_iff.1 ho).1
 obtain ⟨_,q2⟩:=T.own_first (by omega) hown
 obtain ⟨s',hs',hc⟩:=hown
 rw [hsh] at hs'; cases hs'
 obtain ⟨_,_,h3⟩:=ownC_facts hc
 have hmk:makesO o.op=false:=by
  revert hk
  cases o.op
  case call c=>
   intro _; rfl
  all_goals first | (intro _; rfl) | (intro hk; simp [kindO] at hk) | skip
 have hmh:=T.made_back (i:=h) (by omega) (Nat.le_refl _) hm hkh
 exact seesNone_get (j:=i - (h+1)) h3 (by rw [List.getElem?_drop]; rw [show h+1+(i - (h+1))=i by omega]; exact hs) (by rw [List.getElem?_drop]; rw [show h+1+(i - (h+1))=i by omega]; exact ho) (by omega) hmk hsi _ hmh (by
  simp only [newIn]
  rw [q2,hb,hasBit_zero]; rfl)
omit [Kap] in
theorem Trace.own_back {i h s sh k id:Nat} {o:Oper} {ob:AObj} (hown:T.own h) (hsh:(ancs ops [])[h]? = some sh) (hih:i < h) (hhl:h < ops.length) (ho:ops[i]? = some o) (hs:(ancs ops [])[i]? = some s) (hw:wantedA ops (T.S i) o=some true) (hk:kindO o.op=1)
  (hkh:k < h) (hm:(k,id,ob)∈(T.D ops.length).made) (hb:hasBit sh k=true) (hno:hasBit sh i=false):hasBit s k=false:=by
 obtain ⟨_,q2⟩:=T.own_first (by omega) hown
 obtain ⟨s',hs',hc⟩:=hown
 rw [hsh] at hs'; cases hs'
 obtain ⟨_,h2,_⟩:=ownC_facts hc
 obtain ⟨h1,_⟩:=T.read ho hs hw hk
 have hrd:hasBit (T.D (i+1)).rd i=true:=by
  rw [h1]; dsimp only
  rw [hasBit_lor,hasBit_bit]; simp
 have hrd':=T.rd_mono (j:=h) (i:=i+1) (by omega) (by omega) hrd
 have hmh:=T.made_back (i:=h) (by omega) (Nat.le_refl _) hm hkh
 exact readsNone_get (j:=i) h2 hs (by rw [Nat.zero_add]; exact hrd') (by rw [Nat.zero_add]; exact hno) _ hmh (by
  simp only [newIn]
  rw [q2,hb,hasBit_zero]; rfl)
omit [Kap] in
theorem Trace.made_who {k id:Nat} {ob:AObj} (h:(k,id,ob)∈(T.D ops.length).made):∃ o,ops[k]? = some o∧wantedA ops (T.S k) o=some true∧kindO o.op=2∧makesO o.op=true∧(T.D (k+1)).made=(k,base+k,ob) :: (T.D k).made:=by
 obtain ⟨hk,rfl⟩:=T.made_in (Nat.le_refl _) h
 have h1:=T.made_back (i:=k+1) (by omega) (Nat.le_refl _) h (by omega)
 have ho:=List.getElem?_eq_getElem hk
 obtain ⟨s,hs⟩:=anc_some ho
 have hno:∀ {ob:AObj},(k,base+k,ob)∈(T.D k).made→False:=by
  intro ob q
  have:=(T.made_in (i:=k) (by omega) q).1
  omega
 rcases T.wanted ho with hw | hw
 ·rcases kind_cases ops[k].op with hk' | hk' | hk'
  ·obtain ⟨e,_⟩:=T.plain ho hw hk'
   rw [e] at h1; exact (hno h1).elim
  ·obtain ⟨e,_⟩:=T.read ho hs hw hk'
   rw [e] at h1; exact (hno h1).elim
  ·cases hm:makesO ops[k].op with
   | true=>
    obtain ⟨v,m1,ob',e,_⟩:=T.make ho hw hk' hm
    rw [e] at h1
    rcases List.mem_cons.1 h1 with q | q
    ·simp only [Prod.mk.injEq,true_and] at q
     subst q
     exact ⟨_,ho,hw,hk',hm,by rw [e]⟩
    ·exact (hno q).elim
   | false=>
    obtain ⟨_,v,m1,_,e,_⟩:=T.change ho hs hw hk' hm
    rw [e] at h1; exact (hno h1).elim
 ·obtain ⟨e,_⟩:=T.skip ho hw
  rw [e] at h1; exact (hno h1).elim
end
end Go.AX
