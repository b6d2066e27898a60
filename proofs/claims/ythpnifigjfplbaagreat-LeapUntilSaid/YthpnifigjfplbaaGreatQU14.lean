import Derived.Test.YthpnifigjfplbaaGreatQU13
set_option linter.unusedSimpArgs false
set_option linter.unusedVariables false
set_option linter.unusedSectionVars false
namespace Go.AX
variable [Kap]
variable {P:Program} {cx:Cx} {φ : cV} {m:Mem} {w:World}
omit [Kap]in
theorem dH{st1 st2:St}{x:Operand}(h:∀t,x = .tmp t->st1.tm.get t=st2.tm.get t):cU cx st1 x=cU cx st2 x:=by
 cases x with
 | tmp t=>exact h t rfl
 | _=>rfl
omit [Kap]in
theorem mr{st1 st2:St}:∀{xs:List Operand},(∀t,Operand.tmp t∈xs->st1.tm.get t=st2.tm.get t)->gZ cx st1 xs=gZ cx st2 xs
 | [],_=>rfl
 | x::r,h=>by
  simp only[gZ];rw[dH (x:=x) (fun t e=>h t (by simp[e])),mr (xs:=r) (fun t ht=>h t (by simp[ht]))]
omit [Kap]in
theorem vh{st1 st2:St}:∀{xs:List (Nat×Operand)},(∀t,Operand.tmp t∈xs.map (·.2)->st1.tm.get t=st2.tm.get t)->gT cx st1 xs=gT cx st2 xs
 | [],_=>rfl
 | (i,x)::r,h=>by
  simp only[gT];rw[dH (x:=x) (fun t e=>h t (by simp[e])),vh (xs:=r) (fun t ht=>h t (by rw[List.map_cons];exact gQ5 _ ht))]
omit [Kap]in
theorem vj{st1 st2:St}{x:Option Operand}(h:∀t,x=some (.tmp t)->st1.tm.get t=st2.tm.get t):iI cx st1 x=iI cx st2 x:=by
 cases x with
 | none=>rfl
 | some x=>
  simp only[iI];rw[dH (x:=x) (fun t e=>h t (by rw[e]))]
omit [Kap]in
theorem JY{call:dB}{st1 st2:St}{o:Oper}(hm:st1.m=st2.m)(h:∀t,Operand.tmp t∈o.op.operands.toList->st1.tm.get t=st2.tm.get t):dh cx call st1 o=dh cx call st2 o:=by
 cases hop:o.op<;>simp only[hop,Op.operands]at h
 case call c=>
  obtain⟨callee,args,ats⟩:=c;simp only[dh,hop,gq];cases callee with
  | builtin b=>
   dsimp only;rw[mr (xs:=args.toList) (fun t ht=>h t (by simpa [Call.operands]using ht)),hm]
  | value f=>
   dsimp only;rw[mr (xs:=args.toList) (fun t ht=>h t (by simp[Call.operands];right;simpa using ht)),dH (x:=f) (fun t e=>h t (by simp[Call.operands,e])),hm]
  | invoke f n=>
   dsimp only;rw[mr (xs:=args.toList) (fun t ht=>h t (by simp[Call.operands];right;simpa using ht)),dH (x:=f) (fun t e=>h t (by simp[Call.operands,e])),hm]
 case build t ps=>
  simp only[dh,hop];rw[vh (xs:=ps.toList) (fun t ht=>h t (by simpa using ht)),hm]
 case buildSlice t n ps=>
  simp only[dh,hop];rw[vh (xs:=ps.toList) (fun t ht=>h t (by simpa using ht)),hm]
 case makeFunc fn f c=>
  simp only[dh,hop];rw[mr (xs:=f.toList) (fun t ht=>h t (by simp;left;simpa using ht)),mr (xs:=c.toList) (fun t ht=>h t (by simp;right;simpa using ht)),hm]
 case makeMap t r=>
  cases r<;>simp only[dh,hop,hm]
 case slice t x lo hi mx=>
  simp only[dh,hop];rw[dH (x:=x) (fun t e=>h t (by simp[e])),vj (x:=lo) (fun t e=>h t (by simp[e])),vj (x:=hi) (fun t e=>h t (by simp[e])),vj (x:=mx) (fun t e=>h t (by simp[e])),hm]
 case pick c x y=>
  simp only[dh,hop];rw[dH (x:=c) (fun t e=>h t (by simp[e])),dH (x:=x) (fun t e=>h t (by simp[e])),dH (x:=y) (fun t e=>h t (by simp[e])),hm]
 case mapUpdate t x k y=>
  simp only[dh,hop];rw[dH (x:=x) (fun t e=>h t (by simp[e])),dH (x:=k) (fun t e=>h t (by simp[e])),dH (x:=y) (fun t e=>h t (by simp[e])),hm]
 case insert t x k y=>
  simp only[dh,hop];rw[dH (x:=x) (fun t e=>h t (by simp[e])),dH (x:=k) (fun t e=>h t (by simp[e])),dH (x:=y) (fun t e=>h t (by simp[e])),hm]
 case entryStore t x k y=>
  simp only[dh,hop];rw[dH (x:=x) (fun t e=>h t (by simp[e])),dH (x:=k) (fun t e=>h t (by simp[e])),dH (x:=y) (fun t e=>h t (by simp[e])),hm]
 case store t x y|makeSlice t x y|indexAddr t x y|index t x y|mapEntry t x y=>
  simp only[dh,hop];rw[dH (x:=x) (fun t e=>h t (by simp[e])),dH (x:=y) (fun t e=>h t (by simp[e])),hm]
 case lookup t x y ok=>
  simp only[dh,hop];rw[dH (x:=x) (fun t e=>h t (by simp[e])),dH (x:=y) (fun t e=>h t (by simp[e])),hm]
 case binOp op t x y yt=>
  simp only[dh,hop];rw[dH (x:=x) (fun t e=>h t (by simp[e])),dH (x:=y) (fun t e=>h t (by simp[e])),hm]
 case move x|assign x|nilCheck x=>
  simp only[dh,hop];rw[dH (x:=x) (fun t e=>h t (by simp[e])),hm]
 case box t x|load t x|makeInterface t x=>
  simp only[dh,hop];rw[dH (x:=x) (fun t e=>h t (by simp[e])),hm]
 case unOp u t x|convert u t x|fieldAddr u x t|field u x t=>
  simp only[dh,hop];rw[dH (x:=x) (fun t e=>h t (by simp[e])),hm]
 case typeAssert x a b ok=>
  simp only[dh,hop];rw[dH (x:=x) (fun t e=>h t (by simp[e])),hm]
 case extract x i=>
  simp only[dh,hop];rw[dH (x:=x) (fun t e=>h t (by simp[e])),hm]
 all_goals simp only[dh,hop,hm]
omit [Kap]in
theorem EK{ops:List Oper}{st1 st2:St}{o:Oper}(h:∀d∈ml ops o,st1.tm.get d=st2.tm.get d):fa ops st1 o=fa ops st2 o:=by
 unfold fa;cases hg:o.guard with
 | none=>rfl
 | some p=>
  obtain⟨j,want⟩:=p;cases hj:ops[j]? with
  | none=>simp[hj]
  | some g=>
   cases hd:g.dst with
   | none=>simp[hj,hd]
   | some d=>
    simp only[hj,hd];rw[h d (by simp[ml,hg,hj,hd])]
omit [Kap]in
theorem EJ{ops:List Oper}{o:Oper}{t:Nat}(h:Operand.tmp t∈o.op.operands.toList):t∈ml ops o:=by
 unfold ml;refine List.mem_append_left _ ?_;exact List.mem_filterMap.2 ⟨.tmp t,h,rfl⟩
def OneStep(cx:Cx)(call:dB)(ops:List Oper)(base:Nat)(i:Nat)(o:Oper)(s:Nat)(r:List Oper)(q:List Nat)(d:Dr)(st:St)(d':Dr)(st':St):Prop:=
 (fa ops st o=some true/\∃v m,fE cx call ops o r s q i base d st=some (v,m,d')/\gu st o.dst v m=some st')∨
 (fa ops st o=some false/\d'=d/\gu st o.dst eD st.m=some st')
structure Trace (cx:Cx) (call:dB) (ops:List Oper) (anc:List Nat) (base i:Nat) (d:Dr) (st st':St) where
 D:Nat->Dr
 S:Nat->St
 d0:D i=d
 s0:S i=st
 step:∀(j:Nat) (o:Oper) (s:Nat),i<=j->ops[j]? = some o->anc[j]? = some s->OneStep cx call ops base j o s (ops.drop (j+1)) (anc.drop (j+1)) (D j) (S j) (D (j+1)) (S (j+1))
 last:st' = { S ops.length with m:=addMade (fun k=>!hasBit (D ops.length).took k) (D ops.length).made (S ops.length).m }
omit [Kap]in
theorem FE{call:dB}{ops:List Oper}{anc:List Nat}{base:Nat}:∀(l:List Oper) (q:List Nat) (i:Nat) (d:Dr) (st st':St),l=ops.drop i->q=anc.drop i->i<=ops.length->
  eJ cx call ops base l q i d st=some st'->Nonempty (Trace cx call ops anc base i d st st')
 | [],q,i,d,st,st',hl,hq,hi,h=>by
  simp only[eJ,gQ7]at h;have hin:i=ops.length:=by
   have:=congrArg List.length hl;simp at this;omega
  refine⟨⟨fun _=>d,fun _=>st,rfl,rfl,fun j o s hj ho=>?_,h.symm⟩⟩;have:=(gQ1 ho).1;omega
 | o::r,[],i,d,st,st',hl,hq,hi,h=>by simp[eJ]at h
 | o::r,s::q,i,d,st,st',hl,hq,hi,h=>by
  have hio:ops[i]? = some o:=by
   have:=congrArg (fun x=>x[0]?) hl;simpa using this.symm
  have his:anc[i]? = some s:=by
   have:=congrArg (fun x=>x[0]?) hq;simpa using this.symm
  have hil:i<ops.length:=(gQ1 hio).1;have hr:r=ops.drop (i+1):=by
   have:=congrArg List.tail hl;simpa [List.tail_drop]using this
  have hq':q=anc.drop (i+1):=by
   have:=congrArg List.tail hq;simpa [List.tail_drop]using this
  have go:∀(d1:Dr) (st1:St),OneStep cx call ops base i o s r q d st d1 st1->eJ cx call ops base r q (i+1) d1 st1=some st'->Nonempty (Trace cx call ops anc base i d st st'):=by
   intro d1 st1 hs1 h1;obtain⟨T⟩:=FE r q (i+1) d1 st1 st' hr hq' (by omega) h1;refine⟨⟨fun j=>if j=i then d else T.D j,fun j=>if j=i then st else T.S j,by simp,by simp,fun j o' s' hj ho' hs'=>?_,?_⟩⟩
   .by_cases e:j=i
    .subst e;rw[hio]at ho';cases ho';rw[his]at hs';cases hs';simp only[if_true,if_neg (show ¬j+1=j by omega),T.d0,T.s0];rw[<-hr,<-hq'];exact hs1
    .simp only[if_neg e,if_neg (show ¬j+1=i by omega)];exact T.step j o' s' (by omega) ho' hs'
   .simp only[if_neg (show ¬ops.length=i by omega)];exact T.last
  simp only[eJ]at h;split at h
  .rename_i hw;split at h
   .rename_i v m1 d1 hd;split at h
    .rename_i st1 hp;exact go d1 st1 (.inl ⟨hw,v,m1,hd,hp⟩) h
    .cases h
   .cases h
  .rename_i hw;split at h
   .rename_i st1 hp;exact go d st1 (.inr ⟨hw,rfl,hp⟩) h
   .cases h
  .cases h
end Go.AX
namespace Go.AX
variable [Kap]
variable {P:Program} {cx:Cx} {φ : cV} {m:Mem} {w:World}
omit [Kap]in
theorem fg(p:Nat->Bool):∀(l:List (Nat×Nat×AObj)) (m:Mem),(addMade p l m).nx=m.nx/\(addMade p l m).fl=m.fl
 | [],m=>⟨rfl,rfl⟩
 | (i,id,o)::r,m=>by
  simp only[addMade];split
  .exact fg p r m
  .exact fg p r m
omit [Kap]in
theorem li{p:Nat->Bool}:∀{l:List (Nat×Nat×AObj)} {m:Mem} {b:Nat} {o:AObj},(addMade p l m).hp.get b=some o->(∃k,(k,b,o)∈l/\p k=true)∨(m.hp.get b=some o/\∀k o',(k,b,o')∈l->p k=false)
 | [],m,b,o,h=>.inr ⟨h,fun k o' hm=>by cases hm⟩
 | (i,id,ob)::r,m,b,o,h=>by
  simp only[addMade]at h;split at h
  .rename_i hp;dsimp only at h;rw[Tr.get_put]at h;by_cases e:b=id
   .subst e;rw[if_pos rfl]at h;cases h;exact .inl ⟨i,by simp,hp⟩
   .rw[if_neg e]at h;rcases li h with⟨k,h1,h2⟩|⟨h1,h2⟩
    .exact .inl ⟨k,gQ5 _ h1,h2⟩
    .refine .inr ⟨h1,fun k o' hm=>?_⟩;rcases List.mem_cons.1 hm with q|q
     .simp only[Prod.mk.injEq]at q;exact absurd q.2.1 e
     .exact h2 k o' q
  .rename_i hp;rcases li h with⟨k,h1,h2⟩|⟨h1,h2⟩
   .exact .inl ⟨k,gQ5 _ h1,h2⟩
   .refine .inr ⟨h1,fun k o' hm=>?_⟩;rcases List.mem_cons.1 hm with q|q
    .simp only[Prod.mk.injEq]at q;obtain⟨rfl,rfl,rfl⟩:=q;simpa using hp
    .exact h2 k o' q
omit [Kap]in
theorem eX{p:Nat->Bool}:∀{l:List (Nat×Nat×AObj)} {m:Mem} {b:Nat},(∀k o',(k,b,o')∈l->p k=false)->(addMade p l m).hp.get b=m.hp.get b
 | [],m,b,h=>rfl
 | (i,id,ob)::r,m,b,h=>by
  have hr:=eX (p:=p) (l:=r) (m:=m) (b:=b) (fun k o' hm=>h k o' (gQ5 _ hm));simp only[addMade];split
  .rename_i hp;dsimp only;rw[Tr.get_put,if_neg]
   .exact hr
   .rintro rfl;have:=h i ob (by simp);rw[hp]at this;cases this
  .exact hr
omit [Kap]in
theorem jA{p:Nat->Bool}:∀{l:List (Nat×Nat×AObj)} {m:Mem} {b k:Nat} {o:AObj},(∀k' o',(k',b,o')∈l->o'=o)->(k,b,o)∈l->p k=true->(addMade p l m).hp.get b=some o
 | (i,id,ob)::r,m,b,k,o,hu,hm,hp=>by
  simp only[addMade];rcases List.mem_cons.1 hm with q|q
  .simp only[Prod.mk.injEq]at q;obtain⟨rfl,rfl,rfl⟩:=q;rw[hp];dsimp only;rw[Tr.get_put,if_pos rfl]
  .have hr:=jA (m:=m) (fun k' o' h=>hu k' o' (gQ5 _ h)) q hp;split
   .dsimp only;rw[Tr.get_put];by_cases e:b=id
    .subst e;rw[if_pos rfl,hu i ob (by simp)]
    .rw[if_neg e];exact hr
   .exact hr
omit [Kap]in
theorem iH(a b k:Nat):hasBit (Nat.lor a b) k=(hasBit a k || hasBit b k):=by
 show Nat.testBit (a ||| b) k=_;rw[Nat.testBit_or];rfl
omit [Kap]in
theorem wz(i k:Nat):hasBit (bit i) k=decide (i=k):=Nat.testBit_two_pow
omit [Kap]in
theorem kI(k:Nat):hasBit 0 k=false:=Nat.zero_testBit k
omit [Kap]in
theorem Oa{a b k:Nat}(h:Nat.land a b=a)(hk:hasBit a k=true):hasBit b k=true:=by
 have:Nat.testBit (a&&& b) k=true:=by
  have e:a&&& b=a:=h;rw[e];exact hk
 rw[Nat.testBit_and]at this;simp at this;exact this.2
omit [Kap]in
theorem uF{anc:List Nat}:∀{es:List Edge} {k:Nat},hasBit (qX anc es) k=true->∃e∈es,Region.binds .any e=true/\∃s,anc[e.on]? = some s/\(hasBit s k=true∨e.on=k)
 | [],k,h=>by simp only[qX,kI]at h;cases h
 | e::r,k,h=>by
  simp only[qX]at h;split at h
  .rename_i hb;split at h
   .rename_i s hs;rw[iH,iH,wz]at h;simp only[Bool.or_eq_true,decide_eq_true_eq]at h;rcases h with(h|h)|h
    .exact⟨e,by simp,hb,s,hs,.inl h⟩
    .exact⟨e,by simp,hb,s,hs,.inr h⟩
    .obtain⟨e',h1,h2⟩:=uF h;exact⟨e',gQ5 _ h1,h2⟩
   .obtain⟨e',h1,h2⟩:=uF h;exact⟨e',gQ5 _ h1,h2⟩
  .obtain⟨e',h1,h2⟩:=uF h;exact⟨e',gQ5 _ h1,h2⟩
omit [Kap]in
theorem AE:∀(l:List Oper) (acc:List Nat),∃ext,eN l acc=acc++ext/\ext.length=l.length/\∀j o,l[j]? = some o->ext[j]? = some (qX (acc++ext.take j) o.after.toList)
 | [],acc=>⟨[],by simp[eN],rfl,fun j o h=>by simp at h⟩
 | o::r,acc=>by
  obtain⟨ext,h1,h2,h3⟩:=AE r (acc++[qX acc o.after.toList]);refine⟨qX acc o.after.toList::ext,by simp[eN,h1],by simp[h2],fun j o' h=>?_⟩;cases j with
  | zero=>simp at h;subst h;simp
  | succ j=>
   have:=h3 j o' (by simpa using h);simpa using this
omit [Kap]in
theorem ti{ops:List Oper}{i s k:Nat}{o:Oper}(ho:ops[i]? = some o)(hs:(eN ops [])[i]? = some s)(hk:hasBit s k=true) :
  ∃e∈o.after.toList,Region.binds .any e=true/\(e.on=k∨∃s',(eN ops [])[e.on]? = some s'/\hasBit s' k=true):=by
 obtain⟨ext,h1,h2,h3⟩:=AE ops [];rw[h1]at hs ⊢;simp only[List.nil_append]at hs ⊢ h3;have:=h3 i o ho;rw[hs]at this;cases this;obtain⟨e,q1,q2,s',q3,q4⟩:=uF hk;refine⟨e,q1,q2,?_⟩;rcases q4 with q4|q4
 .right;refine⟨s',?_,q4⟩;rw[List.getElem?_take]at q3;split at q3
  .exact q3
  .cases q3
 .exact .inl q4
omit [Kap]in
theorem gY{ops:List Oper}{i:Nat}{o:Oper}(ho:ops[i]? = some o):∃s,(eN ops [])[i]? = some s:=by
 obtain⟨ext,h1,h2,h3⟩:=AE ops [];rw[h1];exact⟨_,by simpa using h3 i o ho⟩
omit [Kap]in
theorem DF{ops:List Oper}{y:Oper}{s:Nat}:∀{l:List Oper} {i j:Nat} {x:Oper},apart ops y s l i=true->l[j]? = some x->clash ops x y=true->hasBit s (i+j)=true
 | [],i,j,x,h,hx,hc=>by simp at hx
 | z::r,i,j,x,h,hx,hc=>by
  simp only[apart,Bool.and_eq_true]at h;cases j with
  | zero=>
   simp at hx;subst hx;simpa [hc]using h.1
  | succ j=>
   have:=DF (j:=j) h.2 (by simpa using hx) hc
   rwa [show i+(j+1)=i+1+j by omega]
omit [Kap]in
theorem yf{ops:List Oper}:∀{l:List Oper} {q:List Nat} {i j:Nat} {o:Oper} {s:Nat},gO ops l q i=true->l[j]? = some o->q[j]? = some s->
  apart ops o s (ops.take (i+j)) 0=true/\∀e∈o.after.toList,Region.binds .any e=true->e.on<i+j
 | [],q,i,j,o,s,h,ho,hs=>by simp at ho
 | z::r,[],i,j,o,s,h,ho,hs=>by simp at hs
 | z::r,t::q,i,j,o,s,h,ho,hs=>by
  simp only[gO,Bool.and_eq_true]at h;cases j with
  | zero=>
   simp at ho hs;subst ho;subst hs;refine⟨h.1.1,fun e he hb=>?_⟩;have:=List.all_eq_true.1 h.1.2 e he;simp only[hb,Bool.not_true,Bool.false_or]at this;exact gQ6 this
  | succ j=>
   have:=yf (j:=j) h.2 (by simpa using ho) (by simpa using hs)
   rwa [show i+(j+1)=i+1+j by omega]
omit [Kap]in
theorem vg{ops:List Oper}(h:gO ops ops (eN ops []) 0=true){i j:Nat}{x y:Oper}{s:Nat}(hij:i<j)(hx:ops[i]? = some x)(hy:ops[j]? = some y)(hs:(eN ops [])[j]? = some s)(hc:clash ops x y=true):hasBit s i=true:=by
 obtain⟨h1,_⟩:=yf h hy hs;have:=DF (j:=i) h1 (by rw[Nat.zero_add,List.getElem?_take,if_pos hij];exact hx) hc;simpa using this
omit [Kap]in
theorem nL{ops:List Oper}(h:gO ops ops (eN ops []) 0=true){j:Nat}{y:Oper}(hy:ops[j]? = some y):∀e∈y.after.toList,Region.binds .any e=true->e.on<j:=by
 obtain⟨s,hs⟩:=gY hy;obtain⟨_,h2⟩:=yf h hy hs;simpa using h2
omit [Kap]in
theorem jo{ops:List Oper}(hsl:gO ops ops (eN ops []) 0=true){L:Nat->Bool}(dc:∀i o,ops[i]? = some o->L i=true->∀e∈o.after.toList,Region.binds .any e=true->L e.on=true) :
  ∀(i:Nat) (o:Oper) (s k:Nat),ops[i]? = some o->(eN ops [])[i]? = some s->(∀e∈o.after.toList,Region.binds .any e=true->L e.on=true)->hasBit s k=true->L k=true:=by
 intro i
 induction i using Nat.strongRecOn with
 | _ i ih=>
  intro o s k ho hs hr hk;obtain⟨e,h1,h2,h3⟩:=ti ho hs hk;rcases h3 with rfl|⟨s',h3,h4⟩
  .exact hr e h1 h2
  .have hlt:=nL hsl ho e h1 h2;have hilt:i<ops.length:=(gQ1 ho).1;obtain⟨o',ho'⟩:∃o',ops[e.on]? = some o':=⟨ops[e.on]'(by omega),gQ2 (by omega)⟩;exact ih e.on hlt o' s' k ho' h3 (dc e.on o' ho' (hr e h1 h2)) h4
end Go.AX
namespace Go.AX
variable [Kap]
variable {P:Program} {cx:Cx} {φ : cV} {m:Mem} {w:World}
omit [Kap]in
theorem gp{st st':St}{dst:Option Tmp}{ov:Option Value}{m':Mem}(h:gu st dst ov m'=some st') :
  st'.m=m'/\st'.sz=st.sz/\(∀t,dst≠some t->st'.tm.get t=st.tm.get t)/\∀d,dst=some d->d<st.sz/\st'.tm.get d=ov:=by
 cases dst with
 | none=>
  simp only[gu,gQ7]at h;subst h;exact⟨rfl,rfl,fun _ _=>rfl,fun d hd=>by cases hd⟩
 | some d=>
  simp only[gu]at h;split at h
  .rename_i hd;have hd':d<st.sz:=gQ6 hd;cases ov with
   | some x=>
    simp only[gQ7]at h;subst h;refine⟨rfl,rfl,fun t ht=>?_,fun e he=>?_⟩
    .dsimp only;rw[Tr.get_put,if_neg];rintro rfl;exact ht rfl
    .cases he;exact⟨hd',by dsimp only;rw[Tr.get_put,if_pos rfl]⟩
   | none=>
    simp only[gQ7]at h;subst h;refine⟨rfl,rfl,fun t ht=>?_,fun e he=>?_⟩
    .dsimp only;rw[Tr.get_del,if_neg];rintro rfl;exact ht rfl
    .cases he;exact⟨hd',by dsimp only;rw[Tr.get_del,if_pos rfl]⟩
  .cases h
omit [Kap]in
theorem tl{p:Nat->Bool}{i:Nat}{made:List (Nat×Nat×AObj)}:∀{q:List Nat} {l:List Oper} {j s:Nat} {o:Oper},qE p i made q l=true->q[j]? = some s->l[j]? = some o->0<fD o.op->gC o.op=false->hasBit s i=false->
  ∀e∈made,p e.1=true->hasBit s e.1=false
 | [],l,j,s,o,h,hs,ho,_,_,_=>by simp at hs
 | t::q,[],j,s,o,h,hs,ho,_,_,_=>by simp at ho
 | t::q,z::l,j,s,o,h,hs,ho,hk,hm,hb=>by
  simp only[qE]at h;split at h
  .rename_i hc;split at h
   .rename_i ha;cases j with
    | zero=>
     simp at hs ho;subst hs;subst ho;intro e he hp;have:=List.all_eq_true.1 ha e he;simpa [hp]using this
    | succ j=>exact tl (j:=j) h (by simpa using hs) (by simpa using ho) hk hm hb
   .cases h
  .rename_i hc;cases j with
   | zero=>
    simp at hs ho;subst hs;subst ho;have hk':Nat.blt 0 (fD z.op)=true:=gQ8 hk;rw[hk',hm,hb]at hc;simp at hc
   | succ j=>exact tl (j:=j) h (by simpa using hs) (by simpa using ho) hk hm hb
omit [Kap]in
theorem rZ{p:Nat->Bool}{rd s:Nat}{made:List (Nat×Nat×AObj)}:∀{l:List Nat} {n j t:Nat},pB p rd s made n l=true->l[j]? = some t->hasBit rd (n+j)=true->hasBit s (n+j)=false->∀e∈made,p e.1=true->hasBit t e.1=false
 | [],n,j,t,h,hl,_,_=>by simp at hl
 | x::r,n,j,t,h,hl,h1,h2=>by
  simp only[pB]at h;split at h
  .split at h
   .rename_i ha;cases j with
    | zero=>
     simp at hl;subst hl;intro e he hp;have:=List.all_eq_true.1 ha e he;simpa [hp]using this
    | succ j=>exact rZ (n:=n+1) (j:=j) h (by simpa using hl) (by rw[show n+1+j=n+(j+1) by omega];exact h1) (by rw[show n+1+j=n+(j+1) by omega];exact h2)
   .cases h
  .rename_i hc;cases j with
   | zero=>
    rw[Nat.add_zero]at h1 h2;rw[h1,h2]at hc;simp at hc
   | succ j=>exact rZ (n:=n+1) (j:=j) h (by simpa using hl) (by rw[show n+1+j=n+(j+1) by omega];exact h1) (by rw[show n+1+j=n+(j+1) by omega];exact h2)
omit [Kap]in
theorem wA{ops:List Oper}{s i:Nat}{d:Dr}{q:List Nat}{r:List Oper}(h:vm ops s i d q r=true):d.hist=[]/\pB (dQ s d.took) d.rd s d.made 0 (eN ops [])=true/\qE (dQ s d.took) i d.made q r=true:=by
 unfold vm at h;split at h
 .rename_i h1;split at h
  .rename_i h2;exact⟨h1,h2,h⟩
  .cases h
 .cases h
omit [Kap]in
theorem FG{call:dB}{ops:List Oper}{o:Oper}{r:List Oper}{s:Nat}{q:List Nat}{i base:Nat}{d:Dr}{st:St}(hk:fD o.op=0):fE cx call ops o r s q i base d st=kj cx call o d st:=by
 unfold fE;rw[hk];rfl
omit [Kap]in
theorem Hh{call:dB}{ops:List Oper}{o:Oper}{r:List Oper}{s:Nat}{q:List Nat}{i base:Nat}{d:Dr}{st:St}(hk:fD o.op=1):fE cx call ops o r s q i base d st=kJ cx call o s i d st:=by
 unfold fE;rw[hk];rfl
omit [Kap]in
theorem Hi{call:dB}{ops:List Oper}{o:Oper}{r:List Oper}{s:Nat}{q:List Nat}{i base:Nat}{d:Dr}{st:St}(hk:fD o.op=2)(hm:gC o.op=true):fE cx call ops o r s q i base d st=lL cx call o i base d st:=by
 unfold fE;rw[hk,hm];rfl
omit [Kap]in
theorem EL{call:dB}{ops:List Oper}{o:Oper}{r:List Oper}{s:Nat}{q:List Nat}{i base:Nat}{d:Dr}{st:St}(hk:fD o.op=2)(hm:gC o.op=false):fE cx call ops o r s q i base d st=gF cx call ops o r s q i base d st:=by
 unfold fE;rw[hk,hm];rfl
section
variable {call:dB} {ops:List Oper} {base:Nat} {st0 st':St} (T:Trace cx call ops (eN ops []) base 0 ⟨0,[],[],0⟩ st0 st')
def Trace.isH(i:Nat):Prop:=∃o,ops[i]? = some o/\fa ops (T.S i) o=some true/\fD o.op=2/\gC o.op=false
def Trace.soft(h:Nat):Prop:=∃r,(T.D (h+1)).hist=(h,true,(T.S h).m,(T.D h).took)::r
def Trace.own(h:Nat):Prop:=∃s,(eN ops [])[h]? = some s/\vm ops s h (T.D h) ((eN ops []).drop (h+1)) (ops.drop (h+1))=true
omit [Kap]in
theorem Trace.at'{i:Nat}{o:Oper}(ho:ops[i]? = some o):∃s,(eN ops [])[i]? = some s/\OneStep cx call ops base i o s (ops.drop (i+1)) ((eN ops []).drop (i+1)) (T.D i) (T.S i) (T.D (i+1)) (T.S (i+1)):=by
 obtain⟨s,hs⟩:=gY ho;exact⟨s,hs,T.step i o s (Nat.zero_le _) ho hs⟩
omit [Kap]in
theorem Trace.skip{i:Nat}{o:Oper}(ho:ops[i]? = some o)(hw:fa ops (T.S i) o=some false):T.D (i+1)=T.D i/\gu (T.S i) o.dst eD (T.S i).m=some (T.S (i+1)):=by
 obtain⟨s,hs,h⟩:=T.at' ho;rcases h with⟨h1,_⟩|⟨_,h2,h3⟩
 .rw[hw]at h1;cases h1
 .exact⟨h2,h3⟩
omit [Kap]in
theorem Trace.plain{i:Nat}{o:Oper}(ho:ops[i]? = some o)(hw:fa ops (T.S i) o=some true)(hk:fD o.op=0) :
  T.D (i+1)=T.D i/\∃v m1,dh cx call { T.S i with m:={ hp:=.nil,nx:=0,fl:=0 } } o=some (v,m1)/\gu (T.S i) o.dst v (T.S i).m=some (T.S (i+1)):=by
 obtain⟨s,hs,h⟩:=T.at' ho;rcases h with⟨_,v,m1,h2,h3⟩|⟨h1,_⟩
 .rw[FG hk]at h2;unfold kj at h2;split at h2
  .rename_i v' m2 ho2;simp only[gQ7,Prod.mk.injEq]at h2;obtain⟨rfl,rfl,h4⟩:=h2;exact⟨h4.symm,_,_,ho2,h3⟩
  .cases h2
 .rw[hw]at h1;cases h1
omit [Kap]in
theorem Trace.read{i s:Nat}{o:Oper}(ho:ops[i]? = some o)(hs:(eN ops [])[i]? = some s)(hw:fa ops (T.S i) o=some true)(hk:fD o.op=1) :
  T.D (i+1) = { T.D i with rd:=Nat.lor (T.D i).rd (bit i) }/\∃m0 tk v m1,kY s (T.S i).m (T.D i).took (T.D i).hist=some (m0,tk)/\
   dh cx call { T.S i with m:=addMade (dQ s tk) (T.D i).made m0 } o=some (v,m1)/\gu (T.S i) o.dst v (T.S i).m=some (T.S (i+1)):=by
 obtain⟨s',hs',h⟩:=T.at' ho;rw[hs]at hs';cases hs';rcases h with⟨_,v,m1,h2,h3⟩|⟨h1,_⟩
 .rw[Hh hk]at h2;unfold kJ at h2;split at h2
  .rename_i m0 tk hm;split at h2
   .rename_i v' m2 ho2;simp only[gQ7,Prod.mk.injEq]at h2;obtain⟨rfl,rfl,h4⟩:=h2;exact⟨h4.symm,m0,tk,_,_,hm,ho2,h3⟩
   .cases h2
  .cases h2
 .rw[hw]at h1;cases h1
omit [Kap]in
theorem Trace.make{i:Nat}{o:Oper}(ho:ops[i]? = some o)(hw:fa ops (T.S i) o=some true)(hk:fD o.op=2)(hm:gC o.op=true) :
  ∃v m1 ob,T.D (i+1) = { T.D i with made:=(i,base+i,ob)::(T.D i).made }/\dh cx call { T.S i with m:={ hp:=.nil,nx:=base+i,fl:=0 } } o=some (v,m1)/\m1.hp.get (base+i)=some ob/\
   gu (T.S i) o.dst v (T.S i).m=some (T.S (i+1)):=by
 obtain⟨s,hs,h⟩:=T.at' ho;rcases h with⟨_,v,m1,h2,h3⟩|⟨h1,_⟩
 .rw[Hi hk hm]at h2;unfold lL at h2;split at h2
  .rename_i v' m2 ho2;split at h2
   .rename_i ob hob;simp only[gQ7,Prod.mk.injEq]at h2;obtain⟨rfl,rfl,h4⟩:=h2;exact⟨_,_,ob,h4.symm,ho2,hob,h3⟩
   .cases h2
  .cases h2
 .rw[hw]at h1;cases h1
omit [Kap]in
theorem Trace.change{i s:Nat}{o:Oper}(ho:ops[i]? = some o)(hs:(eN ops [])[i]? = some s)(hw:fa ops (T.S i) o=some true)(hk:fD o.op=2)(hm:gC o.op=false) :
  ((T.D i).hist=[]∨∃j x r,(T.D i).hist=(j,x)::r/\hasBit s j=true)/\
  ∃v m1,(T.D (i+1)).took=Nat.lor (T.D i).took s/\(T.D (i+1)).made=(T.D i).made/\(T.D (i+1)).rd=(T.D i).rd/\gu (T.S i) o.dst v (T.S (i+1)).m=some (T.S (i+1))/\
   (((T.D (i+1)).hist=(i,true,(T.S i).m,(T.D i).took)::(T.D i).hist/\dh cx call { T.S i with m:={ addMade (dQ s (T.D i).took) (T.D i).made (T.S i).m with fl:=gh ops base (T.S i).m.nx s i (T.D i) ((eN ops []).drop (i+1)) (ops.drop (i+1)) } } o=some (v,m1)/\(T.S (i+1)).m = { m1 with fl:=(T.S i).m.fl })∨
    ((T.D (i+1)).hist=(i,false,(T.S i).m,(T.D i).took)::(T.D i).hist/\dh cx call { T.S i with m:=addMade (dQ s (T.D i).took) (T.D i).made (T.S i).m } o=some (v,m1)/\(T.S (i+1)).m=m1/\
     (Nat.land (T.D i).rd s=(T.D i).rd∨(apartS (T.D i).rd s i ops 0=true/\oE cx (T.S i) o.op ops base (T.D i).rd s=true))/\lF i ((eN ops []).drop (i+1)) (ops.drop (i+1))=false)):=by
 obtain⟨s',hs',h⟩:=T.at' ho;rw[hs]at hs';cases hs';rcases h with⟨_,v,m1,h2,h3⟩|⟨h1,_⟩
 .have hpm:=(gp h3).1;rw[EL hk hm]at h2;unfold gF at h2;split at h2
  .cases h2
  .rename_i hch;refine⟨?_,?_⟩
   .cases hh:(T.D i).hist with
    | nil=>exact .inl rfl
    | cons e r=>
     obtain⟨j,x⟩:=e;rw[hh]at hch;obtain⟨x1,x2,x3⟩:=x;exact .inr ⟨j,_,r,rfl,hch⟩
   .split at h2
    .split at h2
     .rename_i hap;split at h2
      .rename_i hdn;split at h2
       .rename_i v' m2 ho2;simp only[gQ7,Prod.mk.injEq]at h2;obtain⟨rfl,rfl,h4⟩:=h2;unfold yg at hap;simp only[Bool.and_eq_true,Bool.not_eq_true']at hap;exact⟨_,_,by rw[<-h4],by rw[<-h4],by rw[<-h4],by rw[hpm];exact h3,.inr ⟨by rw[<-h4],ho2,hpm,.inr ⟨hap.2.2,hdn⟩,hap.1⟩⟩
       .cases h2
      .cases h2
     .split at h2
      .rename_i v' m2 ho2;simp only[gQ7,Prod.mk.injEq]at h2;obtain⟨rfl,rfl,h4⟩:=h2;refine⟨_,m2,by rw[<-h4],by rw[<-h4],by rw[<-h4],by rw[hpm];exact h3,.inl ⟨by rw[<-h4],ho2,hpm⟩⟩
      .cases h2
    .rename_i hsoft;split at h2
     .rename_i v' m2 ho2;simp only[gQ7,Prod.mk.injEq]at h2;obtain⟨rfl,rfl,h4⟩:=h2;simp only[Bool.or_eq_false_iff,Bool.not_eq_false']at hsoft;exact⟨_,_,by rw[<-h4],by rw[<-h4],by rw[<-h4],by rw[hpm];exact h3,.inr ⟨by rw[<-h4],ho2,hpm,.inl (gR3 hsoft.1),hsoft.2⟩⟩
     .cases h2
 .rw[hw]at h1;cases h1
omit [Kap]in
theorem pR(o:Op):fD o=0∨fD o=1∨fD o=2:=by
 cases o
 case call c=>
  obtain⟨callee,args,ats⟩:=c;cases callee with
  | builtin b=>cases b<;>simp[fD]
  | _=>simp[fD]
 case binOp op _ _ _ _=>cases op<;>simp[fD]
 all_goals simp[fD]
omit [Kap]in
theorem Trace.wanted{i:Nat}{o:Oper}(ho:ops[i]? = some o):fa ops (T.S i) o=some true∨fa ops (T.S i) o=some false:=by
 obtain⟨s,hs,h⟩:=T.at' ho;rcases h with⟨h1,_⟩|⟨h1,_⟩
 .exact .inl h1
 .exact .inr h1
omit [Kap]in
theorem Trace.noH{i:Nat}{o:Oper}(ho:ops[i]? = some o)(hn:¬T.isH i):(T.S (i+1)).m=(T.S i).m/\(T.D (i+1)).took=(T.D i).took/\(T.D (i+1)).hist=(T.D i).hist:=by
 obtain⟨s,hs⟩:=gY ho;rcases T.wanted ho with hw|hw
 .rcases pR o.op with hk|hk|hk
  .obtain⟨h1,v,m1,_,h3⟩:=T.plain ho hw hk;exact⟨(gp h3).1,by rw[h1],by rw[h1]⟩
  .obtain⟨h1,m0,tk,v,m1,_,_,h3⟩:=T.read ho hs hw hk;exact⟨(gp h3).1,by rw[h1],by rw[h1]⟩
  .cases hm:gC o.op with
   | true=>
    obtain⟨v,m1,ob,h1,_,_,h3⟩:=T.make ho hw hk hm;exact⟨(gp h3).1,by rw[h1],by rw[h1]⟩
   | false=>exact absurd ⟨o,ho,hw,hk,hm⟩ hn
 .obtain⟨h1,h3⟩:=T.skip ho hw;exact⟨(gp h3).1,by rw[h1],by rw[h1]⟩
omit [Kap]in
theorem Trace.same{a:Nat}:∀{b:Nat},a<=b->b<=ops.length->(∀h,a<=h->h<b->¬T.isH h)->(T.S b).m=(T.S a).m/\(T.D b).took=(T.D a).took
 | b,hab,hb,hn=>by
  induction b with
  | zero=>
   obtain rfl:a=0:=by omega
   exact⟨rfl,rfl⟩
  | succ b ih=>
   by_cases e:a=b+1
   .subst e;exact⟨rfl,rfl⟩
   .have ho:=gQ2 (show b<ops.length by omega);obtain⟨h1,h2,_⟩:=T.noH ho (hn b (by omega) (by omega));obtain⟨h3,h4⟩:=ih (by omega) (by omega) (fun h h1 h2=>hn h h1 (by omega));exact⟨h1.trans h3,h2.trans h4⟩
omit [Kap]in
theorem Trace.hist_head:∀{i:Nat},i<=ops.length->((T.D i).hist=[]/\∀h,h<i->¬T.isH h)∨(∃j x r,(T.D i).hist=(j,x)::r/\j<i/\T.isH j/\∀h,j<h->h<i->¬T.isH h)
 | 0,_=>by left;rw[T.d0];exact⟨rfl,fun h hh=>by omega⟩
 | i+1,hi=>by
  have ho:=gQ2 (show i<ops.length by omega);by_cases hH:T.isH i
  .obtain⟨o,ho',hw,hk,hm⟩:=hH;obtain⟨s,hs⟩:=gY ho';obtain⟨_,v,m1,_,_,_,_,h5⟩:=T.change ho' hs hw hk hm;right;rcases h5 with⟨h5,_⟩|⟨h5,_⟩
   .exact⟨i,_,_,h5,by omega,⟨o,ho',hw,hk,hm⟩,fun h a b=>by omega⟩
   .exact⟨i,_,_,h5,by omega,⟨o,ho',hw,hk,hm⟩,fun h a b=>by omega⟩
  .obtain⟨_,_,h3⟩:=T.noH ho hH;rw[h3];rcases Trace.hist_head (i:=i) (by omega)with⟨q1,q2⟩|⟨j,x,r,q1,q2,q3,q4⟩
   .refine .inl ⟨q1,fun h hh=>?_⟩;by_cases e:h=i
    .subst e;exact hH
    .exact q2 h (by omega)
   .refine .inr ⟨j,x,r,q1,by omega,q3,fun h a b=>?_⟩;by_cases e:h=i
    .subst e;exact hH
    .exact q4 h a (by omega)
omit [Kap]in
theorem Trace.memAt_ok{s:Nat}:∀{i:Nat} {m0:Mem} {tk:Nat},i<=ops.length->kY s (T.S i).m (T.D i).took (T.D i).hist=some (m0,tk)->
  ∃t,t<=i/\m0=(T.S t).m/\tk=(T.D t).took/\(t=0∨∃h,t=h+1/\T.isH h/\hasBit s h=true)/\∀h,t<=h->h<i->T.isH h->T.soft h/\hasBit s h=false
 | 0,m0,tk,_,h=>by
  rw[T.d0]at h;simp only[kY,gQ7,Prod.mk.injEq]at h;exact⟨0,gQ4 _,h.1.symm,by rw[T.d0];exact h.2.symm,.inl rfl,fun h a b=>by omega⟩
 | i+1,m0,tk,hi,h=>by
  have ho:=gQ2 (show i<ops.length by omega);by_cases hH:T.isH i
  .obtain⟨o,ho',hw,hk,hm⟩:=hH;obtain⟨s',hs⟩:=gY ho';obtain⟨_,v,m1,_,_,_,_,h5⟩:=T.change ho' hs hw hk hm;rcases h5 with⟨h5,_⟩|⟨h5,_⟩
   .rw[h5]at h;simp only[kY]at h;split at h
    .rename_i hbit;simp only[gQ7,Prod.mk.injEq]at h;exact⟨i+1,gQ4 _,h.1.symm,h.2.symm,.inr ⟨i,rfl,⟨o,ho',hw,hk,hm⟩,hbit⟩,fun h a b=>by omega⟩
    .rename_i hb;obtain⟨t,q1,q2,q3,q5,q4⟩:=Trace.memAt_ok (i:=i) (by omega) h;refine⟨t,by omega,q2,q3,q5,fun h a b hh=>?_⟩;by_cases e:h=i
     .subst e;exact⟨⟨_,h5⟩,hb⟩
     .exact q4 h a (by omega) hh
   .rw[h5]at h;simp only[kY]at h;split at h
    .rename_i hbit;simp only[gQ7,Prod.mk.injEq]at h;exact⟨i+1,gQ4 _,h.1.symm,h.2.symm,.inr ⟨i,rfl,⟨o,ho',hw,hk,hm⟩,hbit⟩,fun h a b=>by omega⟩
    .cases h
  .obtain⟨g1,g2,g3⟩:=T.noH ho hH;rw[g1,g2,g3]at h;obtain⟨t,q1,q2,q3,q5,q4⟩:=Trace.memAt_ok (i:=i) (by omega) h;refine⟨t,by omega,q2,q3,q5,fun h a b hh=>?_⟩;by_cases e:h=i
   .subst e;exact absurd hh hH
   .exact q4 h a (by omega) hh
omit [Kap]in
theorem Trace.rd_mono{k:Nat}:∀{j:Nat} {i:Nat},i<=j->j<=ops.length->hasBit (T.D i).rd k=true->hasBit (T.D j).rd k=true
 | 0,i,hij,hj,h=>by
  obtain rfl:i=0:=by omega
  exact h
 | j+1,i,hij,hj,h=>by
  by_cases e:i=j+1
  .subst e;exact h
  .have ih:=Trace.rd_mono (j:=j) (i:=i) (by omega) (by omega) h;have ho:=gQ2 (show j<ops.length by omega);obtain⟨s,hs⟩:=gY ho;rcases T.wanted ho with hw|hw
   .rcases pR ops[j].op with hk|hk|hk
    .obtain⟨h1,_⟩:=T.plain ho hw hk;rw[h1];exact ih
    .obtain⟨h1,_⟩:=T.read ho hs hw hk;rw[h1];dsimp only;rw[iH,ih];rfl
    .cases hm:gC ops[j].op with
     | true=>
      obtain⟨v,m1,ob,h1,_⟩:=T.make ho hw hk hm;rw[h1];exact ih
     | false=>
      obtain⟨_,v,m1,_,_,h3,_⟩:=T.change ho hs hw hk hm;rw[h3];exact ih
   .obtain⟨h1,_⟩:=T.skip ho hw;rw[h1];exact ih
omit [Kap]in
theorem Trace.tm_step{i:Nat}{o:Oper}(ho:ops[i]? = some o){t:Nat}(hd:o.dst≠some t):(T.S (i+1)).tm.get t=(T.S i).tm.get t:=by
 obtain⟨s,hs,h⟩:=T.at' ho;rcases h with⟨_,v,m1,_,h3⟩|⟨_,_,h3⟩
 .exact(gp h3).2.2.1 t hd
 .exact(gp h3).2.2.1 t hd
omit [Kap]in
theorem Trace.tm_between{t i:Nat}:∀{n:Nat},i+n<=ops.length->(∀j o,i<=j->j<i+n->ops[j]? = some o->o.dst≠some t)->(T.S (i+n)).tm.get t=(T.S i).tm.get t
 | 0,_,_=>rfl
 | n+1,hn,h=>by
  have ih:=Trace.tm_between (n:=n) (by omega) (fun j o a b c=>h j o a (by omega) c);have ho:=gQ2 (show i+n<ops.length by omega);rw[<-Nat.add_assoc,T.tm_step ho (h (i+n) _ (by omega) (by omega) ho)];exact ih
def Trace.keeps(h b:Nat):Prop:=∃o,ops[h]? = some o/\((∃t c x ad,o.op = .store t c x/\cU cx (T.S h) c=some (.pointer (some ad))/\ad.block≠b)∨
 ∃t c k x r,o.op = .mapUpdate t c k x/\cU cx (T.S h) c=some (.map (some r))/\r≠b)
def Trace.keepsC(h b lo hi:Nat):Prop:=∃o t c x ad n,ops[h]? = some o/\o.op = .store t c x/\cU cx (T.S h) c=some (.pointer (some ad))/\dO cx t=some n/\ad.block=b/\(hi<=ad.off∨ad.off+n<=lo)
omit [Kap]in
theorem IE{o:Op}{x:Operand}(h:wB o=some x):∃t,o = .load t x:=by
 cases o<;>simp[wB]at h;subst h;exact⟨_,rfl⟩
omit [Kap]in
theorem DG{st:St}{x:Operand}{ad:Addr}(h:tq cx st x=some ad):cU cx st x=some (.pointer (some ad)):=by
 unfold tq at h;split at h
 .rename_i a ha;cases h;exact ha
 .cases h
omit [Kap]in
theorem JZ{st:St}{o:Op}{b:Nat}{rng:Option (Nat×Nat)}(h:yh cx st o=some (b,rng)):(∃t x v ad,o = .store t x v/\cU cx st x=some (.pointer (some ad))/\ad.block=b/\∀lo n,rng=some (lo,n)->dO cx t=some n/\ad.off=lo)∨∃t x k v,o = .mapUpdate t x k v/\cU cx st x=some (.map (some b))/\rng=none:=by
 unfold yh at h;split at h
 .rename_i t x v;split at h
  .rename_i a ha;simp only[gQ7,Prod.mk.injEq]at h;obtain⟨h1,h2⟩:=h;refine .inl ⟨t,x,v,a,rfl,DG ha,h1,fun lo n e=>?_⟩;rw[e]at h2;split at h2
   .rename_i n' hn;cases h2;exact⟨hn,rfl⟩
   .cases h2
  .cases h
 .rename_i t x k v;split at h
  .rename_i r hr;cases h;exact .inr ⟨t,x,k,v,rfl,hr,rfl⟩
  .cases h
 .cases h
omit [Kap]in
theorem Bf{rd s h:Nat}:∀{l:List Oper} {n j:Nat} {o:Oper},apartS rd s h l n=true->l[j]? = some o->hasBit rd (n+j)=true->hasBit s (n+j)=false->∃a,wB o.op=some a/\FH a ((l.drop j).take (h-(n+j)))=true
 | [],n,j,o,_,hj,_,_=>by cases hj
 | x::r,n,0,o,e,hj,h1,h2=>by
  cases hj;unfold apartS at e;rw[Nat.add_zero]at h1 h2;simp only[h1,h2,Bool.not_false,Bool.and_self]at e;split at e
  .rename_i a ha;split at e
   .rename_i hk;exact⟨a,ha,by simpa using hk⟩
   .cases e
  .cases e
 | x::r,n,j+1,o,e,hj,h1,h2=>by
  have e':apartS rd s h r (n+1)=true:=by
   unfold apartS at e;split at e
   .exact e
   .split at e
    .split at e
     .exact e
     .cases e
    .cases e
  obtain⟨a,p,q⟩:=Bf (n:=n+1) (j:=j) e' (by simpa using hj) (by rw[show n+1+j=n+(j+1) by omega];exact h1) (by rw[show n+1+j=n+(j+1) by omega];exact h2);refine⟨a,p,?_⟩;rw[show n+(j+1)=n+1+j by omega];simpa using q
omit [Kap]in
theorem Bg{st:St}{bw base rd s:Nat}{rng:Option (Nat×Nat)}:∀{l:List Oper} {n j:Nat} {o:Oper},apartB cx st bw rng base rd s l n=true->l[j]? = some o->hasBit rd (n+j)=true->hasBit s (n+j)=false->∃a ad,wB o.op=some a/\tq cx st a=some ad/\(ad.block≠bw∨(bw<base/\vR cx rng (yi o.op) ad.off=true))
 | [],n,j,o,_,hj,_,_=>by cases hj
 | x::r,n,0,o,e,hj,h1,h2=>by
  cases hj;unfold apartB at e;rw[Nat.add_zero]at h1 h2;simp only[h1,h2,Bool.not_false,Bool.and_self]at e;split at e
  .rename_i a ha;split at e
   .rename_i ad hb;split at e
    .cases e
    .rename_i hne;refine⟨a,ad,ha,hb,?_⟩;by_cases q:ad.block=bw
     .right;rw[q,Nat.beq_refl,Bool.true_and,Bool.not_eq_false',Bool.and_eq_true]at hne;exact⟨Nat.lt_of_lt_of_le (Nat.lt_succ_self _) (gQ6 hne.1),hne.2⟩
     .exact .inl q
   .cases e
  .cases e
 | x::r,n,j+1,o,e,hj,h1,h2=>by
  have e':apartB cx st bw rng base rd s r (n+1)=true:=by
   unfold apartB at e;split at e
   .exact e
   .split at e
    .split at e
     .split at e
      .cases e
      .exact e
     .cases e
    .cases e
  exact Bg (n:=n+1) (j:=j) e' (by simpa using hj) (by rw[show n+1+j=n+(j+1) by omega];exact h1) (by rw[show n+1+j=n+(j+1) by omega];exact h2)
omit [Kap]in
theorem Hj{lo n off:Nat}{t:TypeId}(h:vR cx (some (lo,n)) t off=true):∃k,dO cx t=some k/\1<=k/\(off+k<=lo∨lo+n<=off):=by
 unfold vR at h;simp only at h;split at h
 .rename_i k hk;simp only[Bool.and_eq_true,Bool.or_eq_true]at h;exact⟨k,hk,gQ6 h.1,h.2.imp gQ6 gQ6⟩
 .cases h
omit [Kap]in
theorem Trace.soft_of{i h:Nat}{o:Oper}{sh:Nat}(hih:i<h)(ho:ops[i]? = some o)(hw:fa ops (T.S i) o=some true)(hk:fD o.op=1)(hh:T.isH h)(hs:(eN ops [])[h]? = some sh)(hb:hasBit sh i=false) :
  T.soft h∨∃t x ad,o.op = .load t x/\cU cx (T.S i) x=some (.pointer (some ad))/\(T.keeps h ad.block∨(ad.block<base/\∃k,dO cx t=some k/\1<=k/\T.keepsC h ad.block ad.off (ad.off+k))):=by
 obtain⟨oh,hoh,hwh,hkh,hmh⟩:=hh;have hhl:h<ops.length:=(gQ1 hoh).1;obtain⟨s,hsi⟩:=gY ho;obtain⟨h1,_⟩:=T.read ho hsi hw hk;have hrd:hasBit (T.D (i+1)).rd i=true:=by
  rw[h1];dsimp only;rw[iH,wz];simp
 have hrd':=T.rd_mono (j:=h) (i:=i+1) (by omega) (by omega) hrd;obtain⟨_,v,m1,_,_,_,_,h5⟩:=T.change hoh hs hwh hkh hmh;rcases h5 with⟨h5,_⟩|⟨_,_,_,h6|⟨h6,h7⟩,_⟩
 .exact .inl ⟨_,h5⟩
 .have:=Oa h6 hrd';rw[hb]at this;cases this
 .right;obtain⟨a,a1,a2⟩:=Bf (n:=0) (j:=i) h6 ho (by rw[Nat.zero_add];exact hrd') (by rw[Nat.zero_add];exact hb);unfold oE at h7;split at h7
  .rename_i bw rng hbw;obtain⟨a',ad,b1,b2,b3⟩:=Bg (n:=0) (j:=i) h7 ho (by rw[Nat.zero_add];exact hrd') (by rw[Nat.zero_add];exact hb);rw[a1]at b1;cases b1;obtain⟨t,e1⟩:=IE a1;have d1:=DG b2;have hty:yi o.op=t:=by rw[e1];rfl
   rw[hty]at b3;refine⟨t,a,ad,e1,?_,?_⟩
   .rw[<-d1];cases a with
    | tmp k=>
     show (T.S i).tm.get k=(T.S h).tm.get k;have hbt:=T.tm_between (t:=k) (i:=i) (n:=h-i) (by omega) (fun j oj q1 q2 q3=>by
      unfold FH at a2;intro hd;have hmem:oj∈(ops.drop i).take (h-(0+i)):=by
       refine gQ3 (i:=j-i) ?_;rw[List.getElem?_take_of_lt (by omega),List.getElem?_drop,show i+(j-i)=j by omega];exact q3
      have:=List.all_eq_true.1 a2 oj hmem;rw[hd]at this;simp[Nat.beq_refl]at this)
     rw[show i+(h-i)=h by omega]at hbt;exact hbt.symm
    | _=>rfl
   .rcases JZ hbw with⟨ts,c,vs,aw,e2,w1,w2,w3⟩|⟨ts,c,ks,vs,e2,w1,w3⟩
    .rcases b3 with b3|⟨b3,b4⟩
     .exact .inl ⟨oh,hoh,.inl ⟨ts,c,vs,aw,e2,w1,by rw[w2];exact fun e=>b3 e.symm⟩⟩
     .by_cases q:ad.block=bw
      .right;cases rng with
       | none=>cases b4
       | some p=>
        obtain⟨lo,n⟩:=p;obtain⟨k,k1,k2,k3⟩:=Hj b4;obtain⟨w4,w5⟩:=w3 lo n rfl;exact⟨by rw[q];exact b3,k,k1,k2,oh,ts,c,vs,aw,n,hoh,e2,w1,w4,by rw[w2,q],by rw[w5];exact k3⟩
      .exact .inl ⟨oh,hoh,.inl ⟨ts,c,vs,aw,e2,w1,by rw[w2];exact fun e=>q e.symm⟩⟩
    .rcases b3 with b3|⟨b3,b4⟩
     .exact .inl ⟨oh,hoh,.inr ⟨ts,c,ks,vs,bw,e2,w1,fun e=>b3 e.symm⟩⟩
     .rw[w3]at b4;cases b4
  .cases h7
omit [Kap]in
theorem Trace.made_step(i:Nat)(hi:i<ops.length):(T.D (i+1)).made=(T.D i).made∨∃ob,(T.D (i+1)).made=(i,base+i,ob)::(T.D i).made:=by
 have ho:=gQ2 hi;obtain⟨s,hs⟩:=gY ho;rcases T.wanted ho with hw|hw
 .rcases pR ops[i].op with hk|hk|hk
  .obtain⟨h1,_⟩:=T.plain ho hw hk;left;rw[h1]
  .obtain⟨h1,_⟩:=T.read ho hs hw hk;left;rw[h1]
  .cases hm:gC ops[i].op with
   | true=>
    obtain⟨v,m1,ob,h1,_⟩:=T.make ho hw hk hm;right;exact⟨ob,by rw[h1]⟩
   | false=>
    obtain⟨_,v,m1,_,h2,_⟩:=T.change ho hs hw hk hm;left;exact h2
 .obtain⟨h1,_⟩:=T.skip ho hw;left;rw[h1]
omit [Kap]in
theorem Trace.made_in:∀{i:Nat},i<=ops.length->∀{k id:Nat} {ob:AObj},(k,id,ob)∈(T.D i).made->k<i/\id=base+k
 | 0,_,k,id,ob,h=>by rw[T.d0]at h;cases h
 | i+1,hi,k,id,ob,h=>by
  rcases T.made_step i (by omega)with e|⟨o,e⟩
  .rw[e]at h;obtain⟨h1,h2⟩:=Trace.made_in (i:=i) (by omega) h;exact⟨by omega,h2⟩
  .rw[e]at h;rcases List.mem_cons.1 h with q|q
   .simp only[Prod.mk.injEq]at q;obtain⟨rfl,rfl,_⟩:=q;exact⟨by omega,rfl⟩
   .obtain⟨h1,h2⟩:=Trace.made_in (i:=i) (by omega) q;exact⟨by omega,h2⟩
omit [Kap]in
theorem Trace.made_one:∀{i:Nat},i<=ops.length->∀{k k' id:Nat} {ob ob':AObj},(k,id,ob)∈(T.D i).made->(k',id,ob')∈(T.D i).made->ob'=ob
 | 0,_,k,k',id,ob,ob',h,h'=>by rw[T.d0]at h;cases h
 | i+1,hi,k,k',id,ob,ob',h,h'=>by
  rcases T.made_step i (by omega)with e|⟨o,e⟩
  .rw[e]at h h';exact Trace.made_one (i:=i) (by omega) h h'
  .rw[e]at h h';have hne:∀{k:Nat} {ob:AObj},(k,base+i,ob)∈(T.D i).made->False:=by
    intro k ob q;obtain⟨h1,h2⟩:=Trace.made_in T (i:=i) (by omega) q;omega
   rcases List.mem_cons.1 h with q|q
   .simp only[Prod.mk.injEq]at q;obtain⟨rfl,rfl,rfl⟩:=q;rcases List.mem_cons.1 h' with q'|q'
    .simp only[Prod.mk.injEq]at q';exact q'.2.2
    .exact(hne q').elim
   .rcases List.mem_cons.1 h' with q'|q'
    .simp only[Prod.mk.injEq]at q';obtain⟨rfl,rfl,rfl⟩:=q';exact(hne q).elim
    .exact Trace.made_one (i:=i) (by omega) q q'
omit [Kap]in
theorem Trace.made_mono:∀{j i:Nat},i<=j->j<=ops.length->∀{e:Nat×Nat×AObj},e∈(T.D i).made->e∈(T.D j).made
 | 0,i,hij,hj,e,h=>by
  obtain rfl:i=0:=by omega
  exact h
 | j+1,i,hij,hj,e,h=>by
  by_cases q:i=j+1
  .subst q;exact h
  .have ih:=Trace.made_mono (j:=j) (i:=i) (by omega) (by omega) h;rcases T.made_step j (by omega)with q|⟨o,q⟩
   .rw[q];exact ih
   .rw[q];exact gQ5 _ ih
omit [Kap]in
theorem Trace.made_back:∀{j i:Nat},i<=j->j<=ops.length->∀{k id:Nat} {ob:AObj},(k,id,ob)∈(T.D j).made->k<i->(k,id,ob)∈(T.D i).made
 | 0,i,hij,hj,k,id,ob,h,hk=>by omega
 | j+1,i,hij,hj,k,id,ob,h,hk=>by
  by_cases q:i=j+1
  .subst q;exact h
  .rcases T.made_step j (by omega)with q'|⟨o,q'⟩
   .rw[q']at h;exact Trace.made_back (j:=j) (i:=i) (by omega) (by omega) h hk
   .rw[q']at h;rcases List.mem_cons.1 h with e|e
    .simp only[Prod.mk.injEq]at e;omega
    .exact Trace.made_back (j:=j) (i:=i) (by omega) (by omega) e hk
omit [Kap]in
theorem Trace.sz:∀{i:Nat},i<=ops.length->(T.S i).sz=st0.sz
 | 0,_=>by rw[T.s0]
 | i+1,hi=>by
  have ho:=gQ2 (show i<ops.length by omega);rw[<-Trace.sz (i:=i) (by omega)];obtain⟨s,hs,h⟩:=T.at' ho;rcases h with⟨_,v,m1,_,h3⟩|⟨_,_,h3⟩
  .exact(gp h3).2.1
  .exact(gp h3).2.1
omit [Kap]in
theorem Trace.took_in:∀{i:Nat},i<=ops.length->∀{k:Nat},hasBit (T.D i).took k=true->∃h s,h<i/\T.isH h/\(eN ops [])[h]? = some s/\hasBit s k=true
 | 0,_,k,h=>by rw[T.d0]at h;rw[kI]at h;cases h
 | i+1,hi,k,h=>by
  have ho:=gQ2 (show i<ops.length by omega);by_cases hH:T.isH i
  .obtain⟨o,ho',hw,hk,hm⟩:=hH;obtain⟨s,hs⟩:=gY ho';obtain⟨_,v,m1,h1,_⟩:=T.change ho' hs hw hk hm;rw[h1,iH]at h;simp only[Bool.or_eq_true]at h;rcases h with h|h
   .obtain⟨j,s',q1,q2⟩:=Trace.took_in (i:=i) (by omega) h;exact⟨j,s',by omega,q2⟩
   .exact⟨i,s,by omega,⟨o,ho',hw,hk,hm⟩,hs,h⟩
  .obtain⟨_,h2,_⟩:=T.noH ho hH;rw[h2]at h;obtain⟨j,s',q1,q2⟩:=Trace.took_in (i:=i) (by omega) h;exact⟨j,s',by omega,q2⟩
omit [Kap]in
theorem Trace.own_first{i:Nat}(hi:i<=ops.length)(h:T.own i):(T.S i).m=st0.m/\(T.D i).took=0:=by
 obtain⟨s,_,h⟩:=h;obtain⟨h1,_,_⟩:=wA h;rcases T.hist_head hi with⟨_,q⟩|⟨j,x,r,q,_⟩
 .obtain⟨e1,e2⟩:=T.same (a:=0) (Nat.zero_le _) hi (fun h _ b=>q h b);rw[e1,e2,T.s0,T.d0];exact⟨rfl,rfl⟩
 .rw[h1]at q;cases q
omit [Kap]in
theorem Trace.own_away{i h s sh k id:Nat}{o:Oper}{ob:AObj}(hown:T.own h)(hsh:(eN ops [])[h]? = some sh)(hkh:k<h)(hm:(k,id,ob)∈(T.D ops.length).made)(hb:hasBit sh k=true)(hhi:h<i)
  (ho:ops[i]? = some o) (hs:(eN ops [])[i]? = some s) (hk:fD o.op=1) (hsi:hasBit s h=false):hasBit s k=false:=by
 have hil:i<ops.length:=(gQ1 ho).1;obtain⟨_,q2⟩:=T.own_first (by omega) hown;obtain⟨s',hs',hc⟩:=hown;rw[hsh]at hs';cases hs';obtain⟨_,_,h3⟩:=wA hc;have hmk:gC o.op=false:=by
  revert hk;cases o.op
  case call c=>
   intro _;rfl
  all_goals first|(intro _;rfl)|(intro hk;simp[fD]at hk)|skip
 have hmh:=T.made_back (i:=h) (by omega) (gQ4 _) hm hkh;exact tl (j:=i-(h+1)) h3 (by rw[List.getElem?_drop];rw[show h+1+(i-(h+1))=i by omega];exact hs) (by rw[List.getElem?_drop];rw[show h+1+(i-(h+1))=i by omega];exact ho) (by omega) hmk hsi _ hmh (by
  simp only[dQ];rw[q2,hb,kI];rfl)
omit [Kap]in
theorem Trace.own_back{i h s sh k id:Nat}{o:Oper}{ob:AObj}(hown:T.own h)(hsh:(eN ops [])[h]? = some sh)(hih:i<h)(hhl:h<ops.length)(ho:ops[i]? = some o)(hs:(eN ops [])[i]? = some s)(hw:fa ops (T.S i) o=some true)(hk:fD o.op=1)
  (hkh:k<h) (hm:(k,id,ob)∈(T.D ops.length).made) (hb:hasBit sh k=true) (hno:hasBit sh i=false):hasBit s k=false:=by
 obtain⟨_,q2⟩:=T.own_first (by omega) hown;obtain⟨s',hs',hc⟩:=hown;rw[hsh]at hs';cases hs';obtain⟨_,h2,_⟩:=wA hc;obtain⟨h1,_⟩:=T.read ho hs hw hk;have hrd:hasBit (T.D (i+1)).rd i=true:=by
  rw[h1];dsimp only;rw[iH,wz];simp
 have hrd':=T.rd_mono (j:=h) (i:=i+1) (by omega) (by omega) hrd;have hmh:=T.made_back (i:=h) (by omega) (gQ4 _) hm hkh;exact rZ (j:=i) h2 hs (by rw[Nat.zero_add];exact hrd') (by rw[Nat.zero_add];exact hno) _ hmh (by
  simp only[dQ];rw[q2,hb,kI];rfl)
omit [Kap]in
theorem Trace.made_who{k id:Nat}{ob:AObj}(h:(k,id,ob)∈(T.D ops.length).made):∃o,ops[k]? = some o/\fa ops (T.S k) o=some true/\fD o.op=2/\gC o.op=true/\(T.D (k+1)).made=(k,base+k,ob)::(T.D k).made:=by
 obtain⟨hk,rfl⟩:=T.made_in (gQ4 _) h;have h1:=T.made_back (i:=k+1) (by omega) (gQ4 _) h (by omega);have ho:=gQ2 hk;obtain⟨s,hs⟩:=gY ho;have hno:∀{ob:AObj},(k,base+k,ob)∈(T.D k).made->False:=by
  intro ob q;have:=(T.made_in (i:=k) (by omega) q).1;omega
 rcases T.wanted ho with hw|hw
 .rcases pR ops[k].op with hk'|hk'|hk'
  .obtain⟨e,_⟩:=T.plain ho hw hk';rw[e]at h1;exact(hno h1).elim
  .obtain⟨e,_⟩:=T.read ho hs hw hk';rw[e]at h1;exact(hno h1).elim
  .cases hm:gC ops[k].op with
   | true=>
    obtain⟨v,m1,ob',e,_⟩:=T.make ho hw hk' hm;rw[e]at h1;rcases List.mem_cons.1 h1 with q|q
    .simp only[Prod.mk.injEq,true_and]at q;subst q;exact⟨_,ho,hw,hk',hm,by rw[e]⟩
    .exact(hno q).elim
   | false=>
    obtain⟨_,v,m1,_,e,_⟩:=T.change ho hs hw hk' hm;rw[e]at h1;exact(hno h1).elim
 .obtain⟨e,_⟩:=T.skip ho hw;rw[e]at h1;exact(hno h1).elim
end
end Go.AX
