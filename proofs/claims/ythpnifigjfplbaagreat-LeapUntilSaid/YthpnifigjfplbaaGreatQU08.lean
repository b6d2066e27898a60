import Derived.Test.YthpnifigjfplbaaGreatQU07
import Derived.Test.YthpnifigjfplbaaGreatQU06
import Derived.Test.YthpnifigjfplbaaGreatQU04
set_option linter.unusedSectionVars false
set_option linter.unusedSimpArgs false
set_option linter.unusedVariables false
namespace Go.AX
variable {cx:Cx}
def HiR(L:Nat->Prop)(base top:Nat):(Nat->Option AObj)->List (Nat×Bool×Mem×Nat)->List (Nat×Bool×Mem×Nat)->Prop
 | _,[],[]=>True
 | E,x::r,y::q=>x.1=y.1/\x.2.1=y.2.1/\x.2.2.2=y.2.2.2/\∃E0,Bes E0 x.2.2.1 y.2.2.1/\Wf x.2.2.1/\top<=x.2.2.1.nx/\(∀b o,E0 b=some o->b<base∨top<=b)/\(x.2.1=true->∀b,L b->E0 b=E b)/\HiR L base top E0 r q
 | _,_,_=>False
structure DrR (L:Nat->Prop) (base top i:Nat) (E:Nat->Option AObj) (d d':Dr):Prop where
 took:d'.took=d.took
 made:d'.made=d.made
 rd:d'.rd=d.rd
 hist:HiR L base top E d.hist d'.hist
 free:∀b o,E b=some o->b<base∨top<=b
 ids:∀e∈d.made,base<=e.2.1/\e.2.1<base+i
 le:base+i<=top
theorem lu{base top i:Nat}{E:Nat->Option AObj}(hfree:∀b o,E b=some o->b<base∨top<=b)(hle:base+i<=top){p:Nat->Bool}:∀{made:List (Nat×Nat×AObj)},(∀e∈made,base<=e.2.1/\e.2.1<base+i)->∀{u m:Mem},Bes E u m->Bes E (addMade p made u) (addMade p made m)
 | [],_,u,m,h=>h
 | (j,id,o)::r,hid,u,m,h=>by
  unfold addMade;have ih:=lu hfree hle (p:=p) (made:=r) (fun e he=>hid e (gQ5 _ he)) h;split
  .refine ih.put ?_ o;cases hE:E id with
   | none=>rfl
   | some o'=>
    have h1:=hfree _ _ hE;have h2:=hid _ (gQ9 ..);simp only at h2;omega
  .exact ih
theorem If{L:Nat->Prop}{base top anc:Nat}:∀{hist hist':List (Nat×Bool×Mem×Nat)} {E:Nat->Option AObj} {cur cur':Mem} {tk:Nat} {r:Mem×Nat},HiR L base top E hist hist'->Bes E cur cur'->Wf cur->top<=cur.nx->(∀b o,E b=some o->b<base∨top<=b)->kY anc cur tk hist=some r->
  ∃m' E0,kY anc cur' tk hist'=some (m',r.2)/\Bes E0 r.1 m'/\Wf r.1/\top<=r.1.nx/\(∀b o,E0 b=some o->b<base∨top<=b)/\∀b,L b->E0 b=E b
 | [],[],E,cur,cur',tk,r,_,h,hw,hn,hf,e=>by unfold kY at e;cases e;exact⟨cur',E,rfl,h,hw,hn,hf,fun _ _=>rfl⟩
 | [],_::_,_,_,_,_,_,hh,_,_,_,_,_=>hh.elim
 | _::_,[],_,_,_,_,_,hh,_,_,_,_,_=>hh.elim
 | (i,s,b,t)::l,(i',s',b',t')::l',E,cur,cur',tk,r,hh,h,hw,hn,hf,e=>by
  obtain⟨h1,h2,h3,E0,h4,h5,h6,h7,h8,h9⟩:=hh;simp only at h1 h2 h3 h4 h5 h6 h8;subst h1;subst h2;subst h3;unfold kY at e ⊢;split at e
  .cases e;exact⟨cur',E,rfl,h,hw,hn,hf,fun _ _=>rfl⟩
  .split at e
   .obtain⟨m',E1,k1,k2,k3,k4,k5,k6⟩:=If h9 h4 h5 h6 h7 e;exact⟨m',E1,k1,k2,k3,k4,k5,fun x hx=>(k6 x hx).trans (h8 rfl x hx)⟩
   .cases e
theorem Jm{L:Nat->Prop}{base top s:Nat}{E:Nat->Option AObj}{hist hist':List (Nat×Bool×Mem×Nat)}(h:HiR L base top E hist hist'):waitsFor s hist'=waitsFor s hist:=by
 cases hist with
 | nil=>
  cases hist' with
  | nil=>rfl
  | cons=>exact h.elim
 | cons x r=>
  cases hist' with
  | nil=>exact h.elim
  | cons y q=>
   obtain⟨i,a,b,c⟩:=x;obtain⟨i',a',b',c'⟩:=y;obtain⟨h1,_⟩:=h;simp only at h1;subst h1;rfl
theorem P1{L:Nat->Prop}{base top j:Nat}{E:Nat->Option AObj}{ops:List Oper}{s i:Nat}{d d':Dr}{q:List Nat}{r:List Oper}(hd:DrR L base top j E d d'):vm ops s i d' q r=vm ops s i d q r:=by
 obtain⟨took,made,hist,rd⟩:=d;obtain⟨took',made',hist',rd'⟩:=d';obtain⟨h1,h2,h3,h4,_,_,_⟩:=hd;simp only at h1 h2 h3 h4;subst h1;subst h2;subst h3;unfold vm;cases hist with
 | nil=>
  cases hist' with
  | nil=>rfl
  | cons x y=>exact h4.elim
 | cons x y=>
  cases hist' with
  | nil=>exact h4.elim
  | cons x y=>rfl
def Jn(L:Nat->Prop)(β : Nat->Nat)(s:VS):Prop:=∀id x,s.loc.get id=some x->L (β id)
theorem M6{p:Nat->Bool}{s:VS}{u:Mem}{made:List (Nat×Nat×AObj)}{K:VS->Mem->Prop}(h:Jk p s u made K):∃s' u',fmV s' u'=addMade p made (fmV s u)/\s'.tm=s.tm/\s'.lp=s.lp/\s'.loc=s.loc/\s'.cnt=s.cnt/\K s' u':=by
 unfold Jk at h;split at h
 .exact⟨s,u,rfl,rfl,rfl,rfl,rfl,h⟩
 .exact⟨{ s with pend:=0 },_,rfl,rfl,rfl,rfl,rfl,h⟩
section
variable {n0:Nat} {β : Nat->Nat} {E:Nat->Option AObj} {s:VS} {u:Mem} {tm1:Tr Value} {m:Mem} {sz:Nat}
theorem rM(hr:Rel n0 β E s u tm1 m){M M1:Mem}(hb:Bes E M M1){bw base rd sm:Nat}{rng:Option (Nat×Nat)}(hbw:∃ob,M.hp.get bw=some ob)(sz:Nat)(m':Mem):∀{l:List Oper} {j:Nat} {K:Prop},tS cx s bw rng base rd sm l j K->apartB cx ⟨tm1,sz,m'⟩ bw rng base rd sm l j=true/\K
 | [],j,K,h=>⟨rfl,h⟩
 | x::r,j,K,h=>by
  unfold tS at h;unfold apartB;split at h
  .rename_i e;simp only[e];exact rM hr hb hbw sz m' h
  .rename_i e;simp only[e];split at h
   .rename_i a ha;simp only[ha];split at h
    .rename_i id off hl;split at h
     .rename_i c hc;obtain⟨h1,h2⟩:=rM hr hb hbw sz m' h;obtain⟨_,hev⟩:=qh (cx:=cx) (sz:=sz) hr hl m';obtain⟨v0,hcc⟩:=nX hc;obtain⟨_,_,_,tr,et,hE,_⟩:=hr.loc id v0 c hcc;have hne:Nat.beq (β id) bw=false:=by
       refine Tr.beq_false.2 fun e=>?_
       obtain⟨ob,hob⟩:=hbw;rw[<-e]at hob;rw[hb.noE hob]at hE;cases hE
      refine⟨?_,h2⟩;unfold tq;simp only[hev,hne,Bool.false_and];exact h1
     .exact h.elim
    .split at h
     .rename_i ad hv;obtain⟨h0,h⟩:=h;obtain⟨h1,h2⟩:=rM hr hb hbw sz m' h;rw[dX s.tm sz m']at hv;have hx:=da hr.tm hv;refine⟨?_,h2⟩;unfold tq;have hc:(Nat.beq ad.block bw&&!(Nat.blt bw base&&vR cx rng (yi x.op) ad.off))=false:=by
       rcases h0 with h0|⟨h0,h3⟩
       .rw[Tr.beq_false.2 h0];rfl
       .rw[h3,show Nat.blt bw base=true from gQ8 h0];simp
      simp only[hx,hc];exact h1
     .exact h.elim
   .exact h.elim
theorem La(hr:Rel n0 β E s u tm1 m){M M1:Mem}(hb:Bes E M M1){o:Op}{ops:List Oper}{base rd sm:Nat}{K:Prop}(h:GK cx s M o ops base rd sm K)(sz:Nat)(m':Mem):oE cx ⟨tm1,sz,m'⟩ o ops base rd sm=true/\K:=by
 unfold GK at h;unfold oE;split at h
 .split at h
  .rename_i ad hv;obtain⟨⟨_,c,k,e,y,hg,_⟩,h⟩:=h;rw[dX s.tm sz m']at hv;have hx:=da hr.tm hv;simp only[yh,tq,hx];exact rM hr hb ⟨_,hg⟩ sz m' h
  .exact h.elim
 .split at h
  .rename_i r hv;obtain⟨⟨es,cl,hg⟩,h⟩:=h;rw[dX s.tm sz m']at hv;have hx:=da hr.tm hv;simp only[yh,hx];exact rM hr hb ⟨_,hg⟩ sz m' h
  .exact h.elim
 .exact h.elim
theorem HD(hof:oo cx)(hon:mG cx){LS:List Nat}{ops:List Oper}{o:Oper}{r:List Oper}{sm:Nat}{q:List Nat}{i base top:Nat}{L:Nat->Prop}{d d':Dr}{K:VS->Mem->Dr->Prop}
  (h:AS cx LS sz ops s u o r sm q i base d K) (hr:Rel n0 β E s u tm1 m) (hd:DrR L base top i E d d') (hL:Jn L β s) (hLb:∀b,L b->b<base) (hlt:base+i<top) (htop:top<=(fmV s u).nx) :
  ∃n v m1 tm2 d1',fE cx (dU cx (eI cx n)) ops o r sm q i base d' ⟨tm1,sz,m⟩=some (v,m1,d1')/\gu ⟨tm1,sz,m⟩ o.dst v m1=some ⟨tm2,sz,m1⟩/\
   ∃E' s' u' d1,Rel n0 β E' s' u' tm2 m1/\Lat s s' β β/\DrR L base top (i+1) E' d1 d1'/\Jn L β s'/\top<=(fmV s' u').nx/\K s' u' d1:=by
 have hids:∀e∈d.made,e.2.1<(fmV s u).nx:=fun e he=>by have:=hd.ids e he;omega
 have hids':∀e∈d.made,base<=e.2.1/\e.2.1<base+(i+1):=fun e he=>by have:=hd.ids e he;omega
 have hist1:∀(sf:Bool) (E':Nat->Option AObj),(sf=true->∀b,L b->E b=E' b)->HiR L base top E' ((i,sf,fmV s u,d.took)::d.hist) ((i,sf,m,d'.took)::d'.hist):=fun sf E' he=>
  ⟨rfl,rfl,hd.took.symm,E,hr.bes,hr.wf,htop,hd.free,he,hd.hist⟩
 unfold AS at h;split at h
 .rename_i hk;split at h
  ·
   rename_i hm;split at h
   .exact h.elim
   .obtain⟨v,ob,h1,h2⟩:=qP (call:=dU cx (eI cx 0)) (sz:=sz) h;have h3:=HU hr.tm (h1 ⟨.nil,base+i,0⟩ rfl);obtain⟨tm2,p1,s',p2,p3,p5,p6,p7,p4⟩:=iX h2 hr m;refine⟨0,some v,m,tm2,{ d' with made:=(i,base+i,ob)::d'.made },?_,p1,E,s',u,{ d with made:=(i,base+i,ob)::d.made },p2,p3,⟨hd.took,by simp only[hd.made],hd.rd,hd.hist,hd.free,fun e he=>?_,by omega⟩,fun id x hx=>hL id x (by rw[<-p5];exact hx),by unfold fmV at htop ⊢;rw[p7];exact htop,p4⟩
    .unfold fE;simp only[hk,hm];unfold lL;simp only[h3];have:(newO ⟨.nil,base+i,0⟩ ob).hp.get (base+i)=some ob:=by unfold newO;rw[Tr.get_put,if_pos rfl]
     simp only[this]
    .rcases List.mem_cons.1 he with rfl|he
     .simp only;omega
     .exact hids' e he
  .rename_i hm;split at h
   .exact h.elim
   .rename_i hwt;have hwt':waitsFor sm d'.hist=true:=by rw[Jm hd.hist];exact hwt
    split at h
    ·
     rename_i hc;have hc0:(!(Nat.land d'.rd sm).beq d'.rd || lF i q r)=true:=by rw[hd.rd];exact hc
     split at h
     ·
      rename_i hap;have hap':yg ops o.op r sm q i d'.rd=true:=by rw[hd.rd];exact hap
      have hc':=hc0;obtain⟨a1,a2,a3⟩:=ku (p:=dQ sm d.took) hr.wf hids;have hb:=lu hd.free hd.le (p:=dQ sm d.took) hd.ids hr.bes;split at h
      .obtain⟨hdn0,hV⟩:=La hr hb h sz m;have hdn:oE cx ⟨tm1,sz,m⟩ o.op ops base d'.rd sm=true:=by rw[hd.rd];exact hdn0
       obtain⟨n,v,m1,k1,E',M',k2,k3,k4,k5,k6⟩:=qQ hof hon hV hb a1 hr.tm sz;have hnice:Nice (fmV s u) M':=⟨k3.wf,k3.fl.trans a3,by have:=k3.nx;rw[a2]at this;exact this⟩;have hfree':∀b o,E' b=some o->b<base∨top<=b:=fun b o hE=>by
        rcases k5 b o hE with h|h
        .exact hd.free b o h
        .rw[a2]at h;omega
       have hstep:=hr.step k2 hnice k4 (fun b o hE=>by
        rcases k5 b o hE with h|h
        ·exact .inl h
        ·rw[a2]at h;exact .inr h)
       obtain⟨tm2,p1,s',p2,p3,p5,p6,p7,p4⟩:=iX k6 hstep m;refine⟨n,v,m1,tm2,{ d' with took:=Nat.lor d'.took sm,hist:=(i,false,m,d'.took)::d'.hist },?_,p1,E',s',_,{ d with took:=Nat.lor d.took sm,hist:=(i,false,fmV s u,d.took)::d.hist },p2,⟨p3.cnt,p3.ver,p3.beta⟩,⟨?_,hd.made,hd.rd,hist1 false E' (fun h=>by cases h),hfree',hids',by omega⟩,fun id x hx=>hL id x (by rw[<-show s'.loc=s.loc from p5];exact hx),?_,p4⟩
       .unfold fE;simp only[hk,hm];unfold gF;simp only[hwt',hc',hap',hdn];rw[hd.took,hd.made];simp only[k1]
       .simp only[hd.took]
       .have:fmV s' M'=M':=by unfold fmV;rw[p7]
        rw[this];exact Nat.le_trans htop hnice.nx
      .exact h.elim
     .rename_i hap;have hap':yg ops o.op r sm q i d'.rd=false:=by rw[hd.rd];exact hap
      split at h
      .obtain⟨a1,a2,a3⟩:=ku (p:=dQ sm d.took) hr.wf hids;have hfl:gh ops base (fmV s u).nx sm i d q r<=(fmV s u).nx:=by
        unfold gh;split
        .omega
        .exact gQ4 _
       have hb:=(lu hd.free hd.le (p:=dQ sm d.took) hd.ids hr.bes).setFl (gh ops base (fmV s u).nx sm i d q r);have hw:Wf (setFl (addMade (dQ sm d.took) d.made (fmV s u)) (gh ops base (fmV s u).nx sm i d q r)):=⟨by show gh _ _ _ _ _ _ _ _<=(addMade _ _ _).nx;rw[a2];exact hfl,a1.2⟩;obtain⟨n,v,m1,k1,E',M',k2,k3,k4,k5,k6⟩:=qQ hof hon h hb hw hr.tm sz;have e1:gh ops base m.nx sm i d' q r=gh ops base (fmV s u).nx sm i d q r:=by unfold gh;rw[P1 hd,hr.bes.nx]
       have hnx:(fmV s u).nx<=M'.nx:=by have:=k3.nx;change (addMade _ _ _).nx<=_ at this;rw[a2]at this;exact this
       have hfree':∀b o,E' b=some o->b<base∨top<=b:=fun b o hE=>by
        rcases k5 b o hE with h|h
        .exact hd.free b o h
        .change (addMade _ _ _).nx<=b at h;rw[a2]at h;omega
       have hnice:Nice (fmV s u) (setFl M' (fmV s u).fl):=⟨⟨Nat.le_trans hr.wf.1 hnx,k3.wf.2⟩,rfl,hnx⟩;have hbes':Bes E' (setFl M' (fmV s u).fl) (setFl m1 m.fl):=by rw[hr.bes.fl];exact k2.setFl _
       have hL':∀b,L b->E b=E' b:=fun b hb=>by
        cases hE:E b with
        | some o=>exact(k4 _ _ hE).symm
        | none=>
         cases hE':E' b with
         | none=>rfl
         | some o'=>
          rcases k5 b o' hE' with h|h
          .rw[hE]at h;cases h
          .change (addMade _ _ _).nx<=b at h;rw[a2]at h;have:=hLb b hb;omega
       have hstep:=hr.step hbes' hnice k4 (fun b o hE=>by
        rcases k5 b o hE with h|h
        ·exact .inl h
        ·change (addMade _ _ _).nx<=b at h;rw[a2]at h;exact .inr h)
       obtain⟨tm2,p1,s',p2,p3,p5,p6,p7,p4⟩:=iX k6 (show Rel n0 β E' { s with pend:=0 } (setFl M' (fmV s u).fl) tm1 (setFl m1 m.fl)from hstep) m;refine⟨n,v,setFl m1 m.fl,tm2,{ d' with took:=Nat.lor d'.took sm,hist:=(i,true,m,d'.took)::d'.hist },?_,p1,E',s',_,{ d with took:=Nat.lor d.took sm,hist:=(i,true,fmV s u,d.took)::d.hist },p2,⟨p3.cnt,p3.ver,p3.beta⟩,⟨?_,hd.made,hd.rd,?_,hfree',hids',by omega⟩,fun id x hx=>hL id x (by rw[<-show s'.loc=s.loc from p5];exact hx),?_,p4⟩
       .unfold fE;simp only[hk,hm];unfold gF;have hc':(!(Nat.land d'.rd sm).beq d'.rd || lF i q r)=true:=by rw[hd.rd];exact hc
        simp only[hwt',hc',hap'];rw[e1,hd.took,hd.made];have k1':dh cx (dU cx (eI cx n)) ⟨tm1,sz,{ addMade (dQ sm d.took) d.made m with fl:=gh ops base (fmV s u).nx sm i d q r }⟩ o=some (v,m1):=k1;simp only[k1'];rfl
       .simp only[hd.took]
       .exact hist1 true E' (fun _=>hL')
       .show top<=(fmV s' (setFl M' (fmV s u).fl)).nx;have:fmV s' (setFl M' (fmV s u).fl)=setFl M' (fmV s u).fl:=by unfold fmV;rw[p7]
        rw[this];exact Nat.le_trans htop hnx
      .exact h.elim
    .rename_i hc;have hc':(!(Nat.land d'.rd sm).beq d'.rd || lF i q r)=false:=by rw[hd.rd];exact hc
     obtain⟨a1,a2,a3⟩:=ku (p:=dQ sm d.took) hr.wf hids;have hb:=lu hd.free hd.le (p:=dQ sm d.took) hd.ids hr.bes;split at h
     .obtain⟨n,v,m1,k1,E',M',k2,k3,k4,k5,k6⟩:=qQ hof hon h hb a1 hr.tm sz;have hnice:Nice (fmV s u) M':=⟨k3.wf,k3.fl.trans a3,by have:=k3.nx;rw[a2]at this;exact this⟩;have hfree':∀b o,E' b=some o->b<base∨top<=b:=fun b o hE=>by
       rcases k5 b o hE with h|h
       .exact hd.free b o h
       .rw[a2]at h;omega
      have hstep:=hr.step k2 hnice k4 (fun b o hE=>by
       rcases k5 b o hE with h|h
       ·exact .inl h
       ·rw[a2]at h;exact .inr h)
      obtain⟨tm2,p1,s',p2,p3,p5,p6,p7,p4⟩:=iX k6 hstep m;refine⟨n,v,m1,tm2,{ d' with took:=Nat.lor d'.took sm,hist:=(i,false,m,d'.took)::d'.hist },?_,p1,E',s',_,{ d with took:=Nat.lor d.took sm,hist:=(i,false,fmV s u,d.took)::d.hist },p2,⟨p3.cnt,p3.ver,p3.beta⟩,⟨?_,hd.made,hd.rd,hist1 false E' (fun h=>by cases h),hfree',hids',by omega⟩,fun id x hx=>hL id x (by rw[<-show s'.loc=s.loc from p5];exact hx),?_,p4⟩
      .unfold fE;simp only[hk,hm];unfold gF;simp only[hwt',hc'];rw[hd.took,hd.made];simp only[k1]
      .simp only[hd.took]
      .have:fmV s' M'=M':=by unfold fmV;rw[p7]
       rw[this];exact Nat.le_trans htop hnice.nx
     ·
      rename_i t id off x hlk;obtain⟨a,ho,hl⟩:=Al hlk;obtain⟨v,h0,h⟩:=dz h;obtain⟨c,h1,h2⟩:=nC h;obtain⟨v0,hcc⟩:=nX h1;obtain⟨_,_,hrowE⟩:=hr.loc id v0 c hcc;obtain⟨e,hrow⟩:=hrowE.row hb;have hfl:(addMade (dQ sm d.took) d.made m).fl<=β id:=by rw[hb.fl,a3,<-hr.bes.fl];exact hrowE.1
      obtain⟨l,c',h3,h4,h5,h6⟩:=K9 h2 hrow hfl;obtain⟨_,hev⟩:=qh (cx:=cx) (sz:=sz) hr hl (addMade (dQ sm d.took) d.made m);rw[dX s.tm sz (addMade (dQ sm d.took) d.made m)]at h0;have hx:=da hr.tm h0;obtain⟨s1,u1,t1,t2,t3,t4,t5,h6⟩:=M6 h6;have hr1:Rel n0 β E s1 u1 tm1 (addMade (dQ sm d.took) d.made m):=by
       refine⟨by rw[t1];exact hb,by rw[t1];exact a1,hr.lo,by rw[t1,a2];exact hr.nx,by rw[t2];exact hr.tm,fun t id off e=>?_,fun id v c e=>?_,fun id id' x y e e'=>?_⟩
       .rw[t3]at e;rw[t5];exact hr.lp t id off e
       .rw[t4]at e;obtain⟨w1,w2,w3,w4⟩:=hr.loc id v c e;rw[t5];exact⟨w1,w2,by rw[hb.fl,a3,<-hr.bes.fl];exact w3,w4⟩
       .rw[t4]at e e';exact hr.inj id id' x y e e'
      have hcc1:s1.loc.get id=some (v0,c):=by rw[t4];exact hcc
      obtain⟨E',q1,q2,q3⟩:=hr1.setL hcc1 h4 h5;obtain⟨tm2,p1,s',p2,p3,p5,p6,p7,p4⟩:=iX h6 q1 m;have hlat:Lat s s' β β:=by
       have:=q2.trans p3;exact⟨by have:=this.cnt;rw[t5]at this;exact this,fun id v c e hv=>by have:=this.ver id v c e (by rw[t5];exact hv);rw[t4]at this;exact this,fun _ _=>rfl⟩
      have hfree':∀b o,E' b=some o->b<base∨top<=b:=fun b o hE=>by
       by_cases hbb:b = β id
       .rw[hbb];exact .inl (hLb _ (hL id _ hcc))
       .rw[q3 b hbb]at hE;exact hd.free b o hE
      refine⟨0,none,_,tm2,{ d' with took:=Nat.lor d'.took sm,hist:=(i,false,m,d'.took)::d'.hist },?_,p1,E',s',_,{ d with took:=Nat.lor d.took sm,hist:=(i,false,fmV s u,d.took)::d.hist },p2,hlat,⟨?_,hd.made,hd.rd,hist1 false E' (fun h=>by cases h),hfree',hids',by omega⟩,fun id' x' hx'=>?_,?_,p4⟩
      .unfold fE;simp only[hk,hm];unfold gF;simp only[hwt',hc'];rw[hd.took,hd.made];have:dh cx (dU cx (eI cx 0)) ⟨tm1,sz,addMade (dQ sm d.took) d.made m⟩ o=some (none,wr (addMade (dQ sm d.took) d.made m) (β id) off l):=by
        unfold dh;simp only[ho,hev,hx,h3]
       simp only[this]
      .simp only[hd.took]
      .rw[p5]at hx';change (s1.loc.put id (s1.cnt,c')).get id'=_ at hx';rw[Tr.get_put]at hx';split at hx'
       .rename_i hi;subst hi;exact hL _ _ hcc
       .rw[t4]at hx';exact hL _ _ hx'
      .have:fmV s' u1=fmV s1 u1:=by unfold fmV;rw[p7];rfl
       rw[this,t1,a2];exact htop
     .exact h.elim
 .rename_i hk;split at h
  .rename_i m0 tk hm;obtain⟨m0',E0,k1,k2,k3,k4,k5,k6⟩:=If hd.hist hr.bes hr.wf htop hd.free hm;simp only at k1 k2 k3 k4;have hb:=lu k5 hd.le (p:=dQ sm tk) hd.ids k2;obtain⟨a1,a2,a3⟩:=ku (p:=dQ sm tk) k3 (fun e he=>by have:=hd.ids e he;omega:∀e∈d.made,e.2.1<m0.nx);split at h
   .obtain⟨n,v,m1,j1,E',M',_,_,_,_,j6⟩:=qQ hof hon h hb a1 hr.tm sz;obtain⟨tm2,p1,s',p2,p3,p5,p6,p7,p4⟩:=iX j6 hr m;refine⟨n,v,m,tm2,{ d' with rd:=Nat.lor d'.rd (bit i) },?_,p1,E,s',u,{ d with rd:=Nat.lor d.rd (bit i) },p2,p3,⟨hd.took,hd.made,by simp only[hd.rd],hd.hist,hd.free,hids',by omega⟩,fun id x hx=>hL id x (by rw[<-p5];exact hx),by unfold fmV at htop ⊢;rw[p7];exact htop,p4⟩;unfold fE;simp only[hk];unfold kJ;rw[hd.took];simp only[k1];rw[hd.made];simp only[j1]
   ·
    rename_i t id off hlk;obtain⟨a,ho,hl⟩:=Ca hlk;obtain⟨c,h1,h2⟩:=nC h;obtain⟨v0,hcc⟩:=nX h1;obtain⟨_,_,hrowE⟩:=hr.loc id v0 c hcc;obtain⟨e,hrow⟩:=(hrowE.mono (k6 _ (hL id _ hcc))).row hb;obtain⟨v,h3,h4⟩:=GN h2 hrow;obtain⟨_,hev⟩:=qh (cx:=cx) (sz:=sz) hr hl (addMade (dQ sm tk) d.made m0');obtain⟨tm2,p1,s',p2,p3,p5,p6,p7,p4⟩:=iX h4 hr m;refine⟨0,some v,m,tm2,{ d' with rd:=Nat.lor d'.rd (bit i) },?_,p1,E,s',u,{ d with rd:=Nat.lor d.rd (bit i) },p2,p3,⟨hd.took,hd.made,by simp only[hd.rd],hd.hist,hd.free,hids',by omega⟩,fun id x hx=>hL id x (by rw[<-p5];exact hx),by unfold fmV at htop ⊢;rw[p7];exact htop,p4⟩;unfold fE;simp only[hk];unfold kJ;rw[hd.took];simp only[k1];rw[hd.made];have:dh cx (dU cx (eI cx 0)) ⟨tm1,sz,addMade (dQ sm tk) d.made m0'⟩ o=some (some v,addMade (dQ sm tk) d.made m0'):=by
     unfold dh;simp only[ho,hev,h3]
    simp only[this]
   .exact h.elim
  .exact h.elim
 .rename_i hk1 hk2;have plain:∀{n:Nat} {v:Option Value} {x:Mem},dh cx (dU cx (eI cx n)) ⟨tm1,sz,⟨.nil,0,0⟩⟩ o=some (v,x)->fE cx (dU cx (eI cx n)) ops o r sm q i base d' ⟨tm1,sz,m⟩=some (v,m,d'):=by
   intro n v x e;unfold fE;split
   .rename_i e;exact(hk1 e).elim
   .rename_i e;exact(hk2 e).elim
   .unfold kj;simp only[e]
  have hd1:DrR L base top (i+1) E d d':=⟨hd.took,hd.made,hd.rd,hd.hist,hd.free,hids',by omega⟩;split at h
  .obtain⟨n,v,m1,j1,E',M',_,_,_,_,j6⟩:=qQ (m:=⟨.nil,0,0⟩) hof hon h (Bes.refl _) ⟨gQ4 _,fun b _=>Tr.get_nil b⟩ hr.tm sz;obtain⟨tm2,p1,s',p2,p3,p5,p6,p7,p4⟩:=iX j6 hr m;exact⟨n,v,m,tm2,d',plain j1,p1,E,s',u,d,p2,p3,hd1,fun id x hx=>hL id x (by rw[<-p5];exact hx),by unfold fmV at htop ⊢;rw[p7];exact htop,p4⟩
  .rename_i t id off f hlk;obtain⟨a,ho,hl⟩:=Am hlk;obtain⟨hid,hev⟩:=qh (cx:=cx) (sz:=sz) hr hl ⟨.nil,0,0⟩;obtain⟨o',h1,h2⟩:=Ee h (β id) off;obtain⟨tm2,p1,s',p2,p3,p5,p6,p7,p4⟩:=wd h2 hid hr m;exact⟨0,_,m,tm2,d',plain (n:=0) (by unfold dh;simp only[ho,hev,h1];rfl),p1,E,s',u,d,p2,p3,hd1,fun id x hx=>hL id x (by rw[<-p5];exact hx),by unfold fmV at htop ⊢;rw[p7];exact htop,p4⟩
  .rename_i id off hlk;obtain⟨a,ho,hl⟩:=Cb hlk;obtain⟨hid,hev⟩:=qh (cx:=cx) (sz:=sz) hr hl ⟨.nil,0,0⟩;obtain⟨tm2,p1,s',p2,p3,p5,p6,p7,p4⟩:=wd h hid hr m;refine⟨0,_,m,tm2,d',plain (n:=0) (x:=⟨.nil,0,0⟩) ?_,p1,E,s',u,d,p2,p3,hd1,fun id x hx=>hL id x (by rw[<-p5];exact hx),by unfold fmV at htop ⊢;rw[p7];exact htop,p4⟩;unfold dh;rcases ho with ho|ho|ho<;>simp only[ho,hev]
  .exact h.elim
end
theorem yX(hof:oo cx)(hon:mG cx){LS:List Nat}{sz n0:Nat}{ops:List Oper}{base top:Nat}{L:Nat->Prop}{β : Nat->Nat}(hLb:∀b,L b->b<base):∀{rest:List Oper} {ss:List Nat} {i:Nat} {d d':Dr} {s:VS} {u:Mem} {K:VS->Mem->Prop},
  tT cx LS sz ops base rest ss i d s u K->∀{E:Nat->Option AObj} {tm1:Tr Value} {m:Mem},Rel n0 β E s u tm1 m->DrR L base top i E d d'->Jn L β s->base+i+rest.length<=top->top<=(fmV s u).nx->
  ∃n tm2 m2,eJ cx (dU cx (eI cx n)) ops base rest ss i d' ⟨tm1,sz,m⟩=some ⟨tm2,sz,m2⟩/\∃E' s' u',Rel n0 β E' s' u' tm2 m2/\Lat s s' β β/\K s' u'
 | [],ss,i,d,d',s,u,K,h,E,tm1,m,hr,hd,hL,hl,ht=>by
  unfold tT at h;have hb:=lu hd.free hd.le (p:=fun k=>!hasBit d.took k) hd.ids hr.bes;obtain⟨a1,a2,a3⟩:=ku (p:=fun k=>!hasBit d.took k) hr.wf (fun e he=>by have:=hd.ids e he;omega:∀e∈d.made,e.2.1<(fmV s u).nx);have key:∀(s':VS) (u':Mem),fmV s' u'=addMade (fun k=>!hasBit d.took k) d.made (fmV s u)->s'.tm=s.tm->s'.lp=s.lp->s'.loc=s.loc->s'.cnt=s.cnt->K s' u'->
    ∃n tm2 m2,eJ cx (dU cx (eI cx n)) ops base [] ss i d' ⟨tm1,sz,m⟩=some ⟨tm2,sz,m2⟩/\∃E' s' u',Rel n0 β E' s' u' tm2 m2/\Lat s s' β β/\K s' u':=by
   intro s' u' t1 t2 t3 t4 t5 hK;refine⟨0,tm1,addMade (fun k=>!hasBit d.took k) d.made m,by unfold eJ;rw[hd.took,hd.made],E,s',u',⟨by rw[t1];exact hb,by rw[t1];exact a1,hr.lo,by rw[t1,a2];exact hr.nx,by rw[t2];exact hr.tm,fun t id off e=>?_,fun id v c e=>?_,fun id id' x y e e'=>?_⟩,⟨by rw[t5];exact gQ4 _,fun id v c e _=>by rw[t4]at e;exact e,fun _ _=>rfl⟩,hK⟩
   .rw[t3]at e;rw[t5];exact hr.lp t id off e
   .rw[t4]at e;obtain⟨w1,w2,w3,w4⟩:=hr.loc id v c e;rw[t5];exact⟨w1,w2,by rw[hb.fl,a3,<-hr.bes.fl];exact w3,w4⟩
   .rw[t4]at e e';exact hr.inj id id' x y e e'
  split at h
  .rename_i hm;exact key s u (by rw[hm];rfl) rfl rfl rfl rfl h
  .exact key { s with pend:=0 } _ rfl rfl rfl rfl rfl (nD h)
 | o::r,[],i,d,d',s,u,K,h,E,tm1,m,hr,hd,hL,hl,ht=>by unfold tT at h;exact h.elim
 | o::r,sm::q,i,d,d',s,u,K,h,E,tm1,m,hr,hd,hL,hl,ht=>by
  have hl':base+i+(r.length+1)<=top:=hl;unfold tT at h;obtain⟨b,tm2,h1,h2,h3⟩:=Ed h hr.tm sz m;cases b with
  | true=>
   obtain⟨n1,v,m1,tm3,d1',k1,k2,E1,s1,u1,d1,k3,k4,k5,k6,k7,k8⟩:=HD hof hon h3 (hr.withTm h2) hd hL hLb (by omega) ht;obtain⟨n2,tm4,m4,q1,E2,s2,u2,q2,q3,q4⟩:=yX hof hon hLb k8 k3 k5 k6 (by omega) k7;refine⟨max n1 n2,tm4,m4,?_,E2,s2,u2,q2,(⟨k4.cnt,k4.ver,k4.beta⟩:Lat s s1 β β).trans q3,q4⟩;unfold eJ;simp only[h1,zQ (nP (Nat.le_max_left n1 n2)) k1,k2];exact pY (nP (Nat.le_max_right n1 n2)) q1
  | false=>
   obtain⟨tm3,k2,s1,k3,k4,k5,k6,k7,k8⟩:=iX h3 (hr.withTm h2) m;obtain⟨n2,tm4,m4,q1,E2,s2,u2,q2,q3,q4⟩:=yX hof hon hLb k8 k3 (d':=d') ⟨hd.took,hd.made,hd.rd,hd.hist,hd.free,fun e he=>by have:=hd.ids e he;omega,by omega⟩ (fun id x hx=>hL id x (by rw[<-show s1.loc=s.loc from k5];exact hx)) (by omega) (by unfold fmV at ht ⊢;rw[k7];exact ht);refine⟨n2,tm4,m4,?_,E2,s2,u2,q2,(⟨k4.cnt,k4.ver,k4.beta⟩:Lat s s1 β β).trans q3,q4⟩;unfold eJ;simp only[h1,k2];exact q1
def GO(cx:Cx)(sz:Nat)(c:Code)(s:VS)(u:Mem)(Q:Ex->VS->Mem->Prop):Prop:=
 ∀(n0:Nat) (β : Nat->Nat) (E:Nat->Option AObj) (tm1:Tr Value) (m:Mem),Rel n0 β E s u tm1 m->
  ∃n ex tm2 m2,eI cx n c ⟨tm1,sz,m⟩=some (ex,⟨tm2,sz,m2⟩)/\∃β' E' s' u',Rel n0 β' E' s' u' tm2 m2/\Lat s s' β β'/\Q ex s' u'
theorem GO.region(hof:oo cx)(hon:mG cx){LS:List Nat}{sz id:Nat}{ops:Array Oper}{draw:Bool}{s:VS}{u:Mem}{Q:Ex->VS->Mem->Prop}(h:AT cx LS sz ops.toList draw s u fun s u=>Q .normal s u):GO cx sz (.region id ops draw) s u Q:=by
 intro n0 β E tm1 m hr;unfold AT at h;cases draw with
 | false=>
  simp only at h;obtain⟨n,tm2,m2,h1,β',E',s',u',h2,h3,h4⟩:=AU hof hon h hr;refine⟨n+1,.normal,tm2,m2,?_,β',E',s',u',h2,h3,h4⟩;rw[gf];simp only[step,h1]
 | true=>
  simp only at h;split at h
  .rename_i hsl;have hE:∀b o,E b=some o->b<(fmV s u).nx:=fun b o hb=>(hr.bes.gap b o hb).2
   have hfm:fmV { s with pend:=s.pend+ops.toList.length } u=bump (fmV s u) ops.toList.length:=by
    unfold fmV;simp only;cases hp:s.pend with
    | zero=>
     simp only[Nat.zero_add];cases ops.toList.length with
     | zero=>rfl
     | succ k=>rfl
    | succ k=>
     rw[show k+1+ops.toList.length=(k+ops.toList.length)+1 by omega];show bump u _=bump (bump u (k+1)) _;unfold bump;simp only;congr 1;omega
   have hr1:Rel n0 β E { s with pend:=s.pend+ops.toList.length } u tm1 (bump m ops.toList.length):=by
    refine⟨by rw[hfm];exact hr.bes.bump _,by rw[hfm];exact hr.wf.bump,hr.lo,by rw[hfm];exact Nat.le_trans hr.nx (Nat.le_add_right _ _),hr.tm,hr.lp,hr.loc,hr.inj⟩
   obtain⟨n,tm2,m2,h1,E',s',u',h2,h3,h4⟩:=yX (top:=(fmV s u).nx+ops.toList.length) (L:=fun b=>∃id x,s.loc.get id=some x/\b = β id) (d':=⟨0,[],[],0⟩) hof hon
    (fun b ⟨id,x,e1,e2⟩=>by
     obtain⟨_,_,_,tr,e,h5,_⟩:=hr.loc id x.1 x.2 e1;rw[e2];exact hE _ _ h5) h hr1 ⟨rfl,rfl,rfl,trivial,fun b o hb=>.inl (hE b o hb),(fun e he=>by cases he),Nat.le_add_right _ _⟩ (fun id x e=>⟨id,x,e,rfl⟩) (by omega) (by rw[hfm];exact gQ4 _)
   refine⟨n+1,.normal,tm2,m2,?_,β,E',s',u',h2,⟨h3.cnt,h3.ver,h3.beta⟩,h4⟩;rw[gf];simp only[step,hsl];rw[hr.bes.nx];unfold bump at h1;rw[hr.bes.nx]at h1;simp only[h1]
  .exact h.elim
theorem Lc{l:List Nat}(h:B9 l=true):l.Nodup:=by
 induction l with
 | nil=>exact List.nodup_nil
 | cons a r ih=>
  simp only[B9]at h;split at h
  .cases h
  .rename_i hm;exact List.nodup_cons.2 ⟨fun hx=>B2 hm a hx rfl,ih h⟩
theorem vw{tm:Tr Value}:∀{sl:List Nat} {c:List Value} {i:Nat},i∉sl->(rm tm sl c).get i=tm.get i
 | [],_,i,_=>by cases ‹List Value›<;>rfl
 | j::r,[],i,_=>rfl
 | j::r,v::q,i,h=>by
  unfold rm;rw[Tr.get_put,if_neg (fun e=>h (by rw[e];exact gQ9 ..))];exact vw (fun h'=>h (gQ5 _ h'))
theorem Ef{tm tm':Tr Value}:∀{sl:List Nat} {c c':List Value},sl.Nodup->c.length=sl.length->(∀i∈sl,∀v,tm'.get i=some v->(rm tm sl c).get i=some v)->B7 tm' sl=some c'->c'=c
 | [],c,c',_,hl,_,e=>by
  unfold B7 at e;cases e;exact(List.eq_nil_of_length_eq_zero hl).symm
 | j::r,[],c',_,hl,_,e=>by cases hl
 | j::r,v::q,c',hn,hl,hs,e=>by
  obtain⟨n1,n2⟩:=List.nodup_cons.1 hn;unfold B7 at e;split at e
  .rename_i w l hw hl';cases e;have h1:=hs j (gQ9 ..) w hw;unfold rm at h1;rw[Tr.get_put,if_pos rfl]at h1;cases h1;congr 1;refine Ef (tm:=tm) n2 (by simpa using hl) (fun i hi x hx=>?_) hl';have:=hs i (gQ5 _ hi) x hx;unfold rm at this;rw[Tr.get_put,if_neg (fun e=>n1 (by rw[<-e];exact hi))]at this;exact this
  .cases e
theorem qj{loc:Tr (Nat×List Value)}:∀{cts:List (Nat×List Nat)} {tm tm':Tr Value} {i:Nat},lr loc cts tm=some tm'->i∉jQ cts->tm'.get i=tm.get i
 | [],tm,tm',i,h,_=>by unfold lr at h;cases h;rfl
 | (id,sl)::r,tm,tm',i,h,hi=>by
  unfold lr at h;have hi':i∉sl++jQ r:=hi;rw[List.mem_append,not_or]at hi';split at h
  .split at h
   .split at h
    .rename_i t ht;cases h;rw[vw hi'.1];exact qj ht hi'.2
    .cases h
   .cases h
  .cases h
theorem Eh{a b:Tr Value}(h:Sub a b):∀{sl:List Nat} {c:List Value},Sub (rm a sl c) (rm b sl c)
 | [],c=>by cases c<;>exact h
 | j::r,[]=>h
 | j::r,v::q=>(Eh h (sl:=r) (c:=q)).put j v
theorem xj{loc:Tr (Nat×List Value)}{a b:Tr Value}(h:Sub a b):∀{cts:List (Nat×List Nat)} {ta:Tr Value},lr loc cts a=some ta->∃tb,lr loc cts b=some tb/\Sub ta tb
 | [],ta,e=>by unfold lr at e;cases e;exact⟨b,rfl,h⟩
 | (id,sl)::r,ta,e=>by
  unfold lr at e ⊢;split at e
  .rename_i v c hc;split at e
   .rename_i hl;split at e
    .rename_i t ht;cases e;obtain⟨tb,k1,k2⟩:=xj h ht;refine⟨rm tb sl c,by simp only[hl,k1],Eh k2⟩
    .cases e
   .cases e
  .cases e
theorem Ei{loc:Tr (Nat×List Value)}{v0:Nat}:∀{cts:List (Nat×List Nat)} {tm big tm':Tr Value} {l0 l1:Tr (Nat×List Value)},(jQ cts).Nodup->lr loc cts tm=some big->(∀i∈jQ cts,∀v,tm'.get i=some v->big.get i=some v)->yV tm' v0 cts l0=some l1->
  ∀id v c,l1.get id=some (v,c)->(v=v0/\(∃w,loc.get id=some (w,c))/\∃sl,(id,sl)∈cts)∨l0.get id=some (v,c)
 | [],tm,big,tm',l0,l1,_,_,_,e,id,v,c,h=>by unfold yV at e;cases e;exact .inr h
 | (i,sl)::r,tm,big,tm',l0,l1,hn,hp,hs,e,id,v,c,h=>by
  have hn':(sl++jQ r).Nodup:=hn;rw[List.nodup_append]at hn';obtain⟨n1,n2,n3⟩:=hn';unfold lr at hp;split at hp
  .rename_i w c0 hc0;split at hp
   .rename_i hlen;have hlen:=gR3 hlen;split at hp
    .rename_i t ht;cases hp;unfold yV at e;split at e
     .rename_i c1 loc1 hg1 hg2;cases e;have e1:c1=c0:=Ef (tm:=t) n1 hlen (fun j hj x hx=>hs j (List.mem_append.2 (.inl hj)) x hx) hg1;subst e1;rw[Tr.get_put]at h;split at h
      .rename_i hid;cases h;subst hid;exact .inl ⟨rfl,⟨w,hc0⟩,sl,gQ9 ..⟩
      .have hs':∀j∈jQ r,∀x,tm'.get j=some x->t.get j=some x:=fun j hj x hx=>by
        have:=hs j (List.mem_append.2 (.inr hj)) x hx;rw[vw (fun hj'=>n3 j hj' j hj rfl)]at this;exact this
       rcases Ei n2 ht hs' hg2 id v c h with⟨k1,k2,sl',k3⟩|k
       .exact .inl ⟨k1,k2,sl',gQ5 _ k3⟩
       .exact .inr k
     .cases e
    .cases hp
   .cases hp
  .cases hp
theorem Ej{tm:Tr Value}:∀{sl:List Nat} {i:Nat} {v:Value},(Fy tm sl).get i=some v->i∉sl/\tm.get i=some v
 | [],i,v,h=>⟨List.not_mem_nil,h⟩
 | j::r,i,v,h=>by
  unfold Fy at h;rw[Tr.get_del]at h;split at h
  .cases h
  .rename_i hne;obtain⟨h1,h2⟩:=Ej h;exact⟨fun hm=>by rcases List.mem_cons.1 hm with e|e;exact hne e;exact h1 e,h2⟩
theorem Cc{tm:Tr Value}:∀{cts:List (Nat×List Nat)} {i:Nat} {v:Value},(B8 cts tm).get i=some v->i∉jQ cts/\tm.get i=some v
 | [],i,v,h=>⟨List.not_mem_nil,h⟩
 | (id,sl)::r,i,v,h=>by
  unfold B8 at h;obtain⟨h1,h2⟩:=Ej h;obtain⟨h3,h4⟩:=Cc h2;exact⟨fun hm=>by rcases List.mem_append.1 hm with e|e;exact h1 e;exact h3 e,h4⟩
theorem GP:∀{l:List (Nat×Nat×Nat)} {t id off:Nat},(GM l).get t=some (id,off)->(t,id,off)∈l
 | [],t,id,off,h=>by unfold GM at h;rw[Tr.get_nil]at h;cases h
 | (a,b,c)::r,t,id,off,h=>by
  unfold GM at h;rw[Tr.get_put]at h;split at h
  .rename_i e;cases h;rw[e];exact gQ9 ..
  .exact gQ5 _ (GP h)
theorem El{s:VS}:∀{l:List (Nat×Nat×Nat)},zF s l=true->∀{t id off:Nat},(t,id,off)∈l->s.lp.get t=some (id,off)
 | [],_,t,id,off,h=>by cases h
 | (a,b,c)::r,hl,t,id,off,h=>by
  unfold zF at hl;split at hl
  .rename_i b' c' hg;split at hl
   .rename_i hb;simp only[Bool.and_eq_true]at hb;have e1:=gR3 hb.1;have e2:=gR3 hb.2;rcases List.mem_cons.1 h with e|e
    .cases e;rw[hg,e1,e2]
    .exact El hl e
   .cases hl
  .cases hl
theorem AW{loc:Tr (Nat×List Value)}:∀{l:List Nat} {id:Nat} {x:Nat×List Value},(Dd loc l).get id=some x->id∈l/\loc.get id=some x
 | [],id,x,h=>by unfold Dd at h;rw[Tr.get_nil]at h;cases h
 | j::r,id,x,h=>by
  unfold Dd at h;split at h
  .rename_i y hy;rw[Tr.get_put]at h;split at h
   .rename_i e;cases h;subst e;exact⟨gQ9 ..,hy⟩
   .obtain⟨h1,h2⟩:=AW h;exact⟨gQ5 _ h1,h2⟩
  .obtain⟨h1,h2⟩:=AW h;exact⟨gQ5 _ h1,h2⟩
theorem Em{s0 s:VS}:∀{l:List Nat},zG s0 s l=true->∀{id:Nat},id∈l->∃v c c',s0.loc.get id=some (v,c)/\s.loc.get id=some (v,c')
 | [],_,id,h=>by cases h
 | j::r,hl,id,h=>by
  unfold zG at hl;split at hl
  .rename_i v c v' c' h1 h2;split at hl
   .rename_i hb;have e:=gR3 hb;subst e;rcases List.mem_cons.1 h with e|e
    .subst e;exact⟨v,c,c',h1,h2⟩
    .exact Em hl e
   .cases hl
  .cases hl
theorem Rel.join{n0:Nat}{β β':Nat->Nat}{E E':Nat->Option AObj}{s0 s' s1:VS}{u u':Mem}{tm1 tm2 tm' big:Tr Value}{m m2:Mem}{j:JA}
  (hr0:Rel n0 β E s0 u tm1 m) (hr:Rel n0 β' E' s' u' tm2 m2) (hlat:Lat s0 s' β β') (hj:yW j s0=true) (hlk:zF s' j.lks=true) (hfx:zG s0 s' j.fix=true)
  (hbig:lr s'.loc j.cts tm2=some big) (hsub:Sub tm' big) (hh:sL j s0 tm'=some s1) :
  Rel n0 β' E' s1 (fmV s' u') tm2 m2/\Lat s0 s1 β β':=by
 unfold yW at hj;simp only[Bool.and_eq_true,List.all_eq_true]at hj;obtain⟨j1,j2,j3,j4,j5,j6⟩:=hj;have j1:=gQ6 j1;have hnd:=Lc j6;unfold sL at hh;split at hh
 .rename_i loc hg;cases hh;have hloc:=Ei hnd hbig (fun i _ v hv=>hsub i v hv) hg;have hall:∀id v c,loc.get id=some (v,c)->id<j.cnt+1/\v<j.cnt+1/\(∃w,s'.loc.get id=some (w,c))/\(v<s0.cnt->s0.loc.get id=some (v,c)):=by
   intro id v c h;rcases hloc id v c h with⟨rfl,k2,sl,k3⟩|k
   .have:=gQ6 (j4 _ k3);exact⟨Nat.lt_succ_of_le this,Nat.lt_succ_self _,k2,fun hv=>by omega⟩
   .obtain⟨k1,k2⟩:=AW k;obtain⟨v1,c1,c2,q1,q2⟩:=Em hfx k1;rw[k2]at q1;cases q1;obtain⟨w1,w2,_⟩:=hr0.loc id v c k2;have:=hlat.ver id v c2 q2 w2;rw[k2]at this;cases this;exact⟨by have:=gQ6 (j3 _ k1);omega,by omega,⟨v,q2⟩,fun _=>k2⟩
  refine⟨⟨hr.bes,hr.wf,hr.lo,hr.nx,fun i v h=>?_,fun t id off h=>?_,fun id v c h=>?_,fun id id' x y h h' hb=>?_⟩,⟨?_,fun id v c h hv=>?_,hlat.beta⟩⟩
  .obtain⟨h1,h2⟩:=Cc h;rw[<-qj hbig h1];exact hsub _ _ h2
  .have h1:=GP h;have h2:=El hlk h1;obtain⟨_,h3⟩:=hr.lp t id off h2;exact⟨Nat.lt_succ_of_le (gQ6 (j2 _ h1)),h3⟩
  .obtain⟨h1,h2,⟨w,h3⟩,_⟩:=hall id v c h;exact⟨h1,h2,(hr.loc id w c h3).2.2⟩
  .obtain⟨_,_,⟨w,h3⟩,_⟩:=hall id x.1 x.2 h;obtain⟨_,_,⟨w',h3'⟩,_⟩:=hall id' y.1 y.2 h';exact hr.inj _ _ _ _ h3 h3' hb
  .exact Nat.le_succ_of_le j1
  .exact(hall id v c h).2.2.2 hv
 .cases hh
theorem Cd{j:JA}{s:VS}(h:yW j s=true):∀i∈j.keep,i∉jQ j.cts:=by
 unfold yW at h;simp only[Bool.and_eq_true]at h;exact fun i hi hx=>yT h.2.2.2.2.1 i hi i hx rfl
theorem OM(hof:oo cx)(hon:mG cx){LS:List Nat}{sz:Nat}:∀{c:AD} {s:VS} {u:Mem} {Q:Ex->VS->Mem->Prop},mH cx LS sz c s u Q->GO cx sz c.code s u Q:=by
 intro c;have now:∀{c:Code} {ex:Ex} {s:VS} {u:Mem} {Q:Ex->VS->Mem->Prop},(∀n st,eI cx (n+1) c st=some (ex,st))->Q ex s u->GO cx sz c s u Q:=by
  intro c ex s u Q hc h n0 β E tm1 m hr;exact⟨1,ex,tm1,m,hc 0 _,β,E,s,u,hr,Lat.refl _ _,h⟩
 induction c with
 | skip=>intro s u Q h;exact now (fun _ _=>rfl) h
 | label l=>intro s u Q h;exact now (fun _ _=>rfl) h
 | exit id=>intro s u Q h;exact now (fun _ _=>rfl) h
 | ret=>intro s u Q h;exact now (fun _ _=>rfl) h
 | region id ops draw=>intro s u Q h;exact GO.region hof hon h
 | seq a b iha ihb=>
  intro s u Q h n0 β E tm1 m hr;obtain⟨n1,ex,tm2,m2,h1,β1,E1,s1,u1,h2,h3,h4⟩:=iha h n0 β E tm1 m hr;cases ex with
  | normal=>
   obtain⟨n2,ex2,tm3,m3,k1,β2,E2,s2,u2,k2,k3,k4⟩:=ihb h4 n0 β1 E1 tm2 m2 h2;refine⟨max n1 n2+1,ex2,tm3,m3,?_,β2,E2,s2,u2,k2,h3.trans k3,k4⟩;show eI cx _ (.seq a.code b.code) _=_;rw[gf];simp only[step,nr (Nat.le_max_left n1 n2) _ _ _ h1];exact nr (Nat.le_max_right n1 n2) _ _ _ k1
  | exit i=>
   refine⟨n1+1,_,_,_,?_,β1,E1,s1,u1,h2,h3,h4⟩;show eI cx _ (.seq a.code b.code) _=_;rw[gf];simp only[step,h1]
  | ret=>
   refine⟨n1+1,_,_,_,?_,β1,E1,s1,u1,h2,h3,h4⟩;show eI cx _ (.seq a.code b.code) _=_;rw[gf];simp only[step,h1]
 | seqJ a j b iha ihb=>
  intro s u Q h n0 β E tm1 m hr;have h':(match rK j.keep (iy a.code)&&yW j s with
   | true=>mH cx LS sz a s u fun
    | .normal,s',u=>M4 j s s' (qy j.live (mQ s.tm j.keep) fun tm u=>match sL j s tm with
     | some s=>mH cx LS sz b s u Q
     | none=>False) u
    | .exit i,s,u=>Q (.exit i) s u
    | .ret,s,u=>Q .ret s u
   | false=>False):=h
  split at h'
  .rename_i hap;simp only[Bool.and_eq_true]at hap;obtain⟨hap,hja⟩:=hap;obtain⟨n1,ex,tm2,m2,h1,β1,E1,s1,u1,h2,h3,h4⟩:=iha h' n0 β E tm1 m hr;cases ex with
   | normal=>
    simp only at h4;unfold M4 at h4;split at h4
    .rename_i hok;simp only[Bool.and_eq_true]at hok;split at h4
     .rename_i tmJ hJ;obtain⟨big,hb1,hb2⟩:=xj h2.tm hJ;have hk:Sub (mQ s.tm j.keep) big:=by
       intro i v hv;obtain⟨g1,g2⟩:=pG hv;rw[qj hb1 (Cd hja i g1),B3 (yT hap i g1) h1];exact hr.tm i v g2
      rcases OI (d:=fun _=>False) hb2 (live:=j.live) (f:=fun tm u=>match sL j s tm with
       | some s=>mH cx LS sz b s u Q
       | none=>False) (m:=fmV s1 u1) hk with e|⟨tm',hs',e⟩
      .rw[e]at h4;exact h4.elim
      .rw[e]at h4;cases hh:sL j s tm' with
       | none=>rw[hh]at h4;exact h4.elim
       | some s2=>
        rw[hh]at h4;obtain⟨q1,q2⟩:=Rel.join hr h2 h3 hja hok.1 hok.2 hb1 hs' hh;obtain⟨n2,ex2,tm3,m3,k1,β2,E2,s3,u2,k2,k3,k4⟩:=ihb h4 n0 β1 E1 tm2 m2 q1;refine⟨max n1 n2+1,ex2,tm3,m3,?_,β2,E2,s3,u2,k2,q2.trans k3,k4⟩;show eI cx _ (.seq a.code b.code) _=_;rw[gf];simp only[step,nr (Nat.le_max_left n1 n2) _ _ _ h1];exact nr (Nat.le_max_right n1 n2) _ _ _ k1
     .exact h4.elim
    .exact h4.elim
   | exit i=>
    refine⟨n1+1,_,_,_,?_,β1,E1,s1,u1,h2,h3,h4⟩;show eI cx _ (.seq a.code b.code) _=_;rw[gf];simp only[step,h1]
   | ret=>
    refine⟨n1+1,_,_,_,?_,β1,E1,s1,u1,h2,h3,h4⟩;show eI cx _ (.seq a.code b.code) _=_;rw[gf];simp only[step,h1]
  .exact h'.elim
 | cond c x y ihx ihy=>
  intro s u Q h n0 β E tm1 m hr;have key:∃b tm2,cU cx ⟨tm1,sz,m⟩ c=some (.bool b)/\Sub tm2 tm1/\(match b with
    | true=>mH cx LS sz x { s with tm:=tm2 } u Q
    | false=>mH cx LS sz y { s with tm:=tm2 } u Q):=by
   have h':Ji cx s.tm c fun tm b=>match b with
    | true=>mH cx LS sz x { s with tm:=tm } u Q
    | false=>mH cx LS sz y { s with tm:=tm } u Q:=h
   unfold Ji at h';split at h'
   .rename_i t;split at h'
    .rename_i b hb;have hb1:=hr.tm _ _ hb;rcases uS h' with⟨rfl,h2⟩|⟨rfl,h2⟩
     .exact⟨true,_,hb1,hr.tm.put_of hb1,h2⟩
     .exact⟨false,_,hb1,hr.tm.put_of hb1,h2⟩
    .exact h'.elim
   .split at h'
    .rename_i b hb;have hev:cU cx ⟨tm1,sz,m⟩ c=some (.bool b):=da hr.tm (by rw[<-dX];exact hb);rcases uS h' with⟨rfl,h2⟩|⟨rfl,h2⟩
     .exact⟨true,s.tm,hev,hr.tm,h2⟩
     .exact⟨false,s.tm,hev,hr.tm,h2⟩
    .exact h'.elim
  obtain⟨b,tm2,e1,e2,h2⟩:=key;cases b with
  | true=>
   obtain⟨n,ex,tm3,m3,k1,β1,E1,s1,u1,k2,k3,k4⟩:=ihx h2 n0 β E tm1 m (hr.withTm e2);refine⟨n+1,ex,tm3,m3,?_,β1,E1,s1,u1,k2,⟨k3.cnt,k3.ver,k3.beta⟩,k4⟩;show eI cx _ (.cond c x.code y.code) _=_;rw[gf];simp only[step,e1,k1]
  | false=>
   obtain⟨n,ex,tm3,m3,k1,β1,E1,s1,u1,k2,k3,k4⟩:=ihy h2 n0 β E tm1 m (hr.withTm e2);refine⟨n+1,ex,tm3,m3,?_,β1,E1,s1,u1,k2,⟨k3.cnt,k3.ver,k3.beta⟩,k4⟩;show eI cx _ (.cond c x.code y.code) _=_;rw[gf];simp only[step,e1,k1]
 | block id c ih=>
  intro s u Q h n0 β E tm1 m hr;obtain⟨n1,ex,tm2,m2,h1,β1,E1,s1,u1,h2,h3,h4⟩:=ih h n0 β E tm1 m hr;cases ex with
  | normal=>
   refine⟨n1+1,.normal,tm2,m2,?_,β1,E1,s1,u1,h2,h3,h4⟩;show eI cx _ (.block id c.code) _=_;rw[gf];simp only[step,h1]
  | exit i=>
   cases hb:Nat.beq i id with
   | true=>
    simp only[hb]at h4;refine⟨n1+1,.normal,tm2,m2,?_,β1,E1,s1,u1,h2,h3,h4⟩;show eI cx _ (.block id c.code) _=_;rw[gf];simp only[step,h1,hb]
   | false=>
    simp only[hb]at h4;refine⟨n1+1,.exit i,tm2,m2,?_,β1,E1,s1,u1,h2,h3,h4⟩;show eI cx _ (.block id c.code) _=_;rw[gf];simp only[step,h1,hb]
  | ret=>
   refine⟨n1+1,.ret,tm2,m2,?_,β1,E1,s1,u1,h2,h3,h4⟩;show eI cx _ (.block id c.code) _=_;rw[gf];simp only[step,h1]
 | loop j c ih=>
  intro s u Q h n0 β E tm1 m hr;have h':(match rK j.keep (iy c.code)&&yW j s with
   | true=>∃Inv:tQ j.live (Mem->Nat->Prop),(∃n,De j s s Inv u n)/\
    Ah j.live Inv (mQ s.tm j.keep) fun I tm=>∀u n,I u n->match sL j s tm with
     | some s1=>mH cx LS sz c s1 u fun
      | .normal,s',u=>∃n',n'<n/\De j s s' Inv u n'
      | .exit i,s,u=>Q (.exit i) s u
      | .ret,s,u=>Q .ret s u
     | none=>False
   | false=>False):=h
  split at h'
  .rename_i hap;simp only[Bool.and_eq_true]at hap;obtain⟨hap,hja⟩:=hap;obtain⟨Inv,⟨n,h0⟩,hb⟩:=h';have key:∀n β' E' s' u' tm2 m2,Rel n0 β' E' s' u' tm2 m2->Lat s s' β β'->Sub (mQ s.tm j.keep) tm2->De j s s' Inv u' n->
     ∃n ex tm3 m3,eI cx n (.loop c.code) ⟨tm2,sz,m2⟩=some (ex,⟨tm3,sz,m3⟩)/\∃β2 E2 s2 u2,Rel n0 β2 E2 s2 u2 tm3 m3/\Lat s s2 β β2/\Q ex s2 u2:=by
    intro n
    induction n using Nat.strongRecOn with
    | ind n ihn=>
     intro β' E' s' u' tm2 m2 hr' hlat hk hI;unfold De at hI;split at hI
     .rename_i hok;simp only[Bool.and_eq_true]at hok;split at hI
      .rename_i tmJ hJ;obtain⟨big,hb1,hb2⟩:=xj hr'.tm hJ;have hk':Sub (mQ s.tm j.keep) big:=by
        intro i v hv;rw[qj hb1 (Cd hja i (pG hv).1)];exact hk i v hv
       rcases OJ (d:=fun _ _=>False) hb2 hb hk' with e|⟨I,tm',hs',e,hF⟩
       .rw[e]at hI;exact hI.elim
       .rw[e]at hI;have hF':=hF _ n hI;cases hh:sL j s tm' with
        | none=>rw[hh]at hF';exact hF'.elim
        | some s2=>
         rw[hh]at hF';obtain⟨q1,q2⟩:=Rel.join hr hr' hlat hja hok.1 hok.2 hb1 hs' hh;obtain⟨n1,ex,tm3,m3,k1,β2,E2,s3,u2,k2,k3,k4⟩:=ih hF' n0 β' E' tm2 m2 q1;cases ex with
         | normal=>
          obtain⟨n',hlt,hI'⟩:=k4;have hk2:Sub (mQ s.tm j.keep) tm3:=fun i v hv=>by
           rw[B3 (yT hap i (pG hv).1) k1];exact hk i v hv
          obtain⟨n2,ex2,tm4,m4,g1,g2⟩:=ihn n' hlt β2 E2 s3 u2 tm3 m3 k2 (q2.trans k3) hk2 hI';refine⟨max n1 n2+1,ex2,tm4,m4,?_,g2⟩;rw[gf];simp only[step,nr (Nat.le_max_left n1 n2) _ _ _ k1];exact nr (Nat.le_max_right n1 n2) _ _ _ g1
         | exit i=>
          refine⟨n1+1,_,_,_,?_,β2,E2,s3,u2,k2,q2.trans k3,k4⟩;rw[gf];simp only[step,k1]
         | ret=>
          refine⟨n1+1,_,_,_,?_,β2,E2,s3,u2,k2,q2.trans k3,k4⟩;rw[gf];simp only[step,k1]
      .exact hI.elim
     .exact hI.elim
   exact key n β E s u tm1 m hr (Lat.refl _ _) (K7 hr.tm (fun _ _=>rfl)) h0
  .exact h'.elim
 | other c=>intro s u Q h;exact h.elim
theorem qk{n0:Nat}{β : Nat->Nat}{E:Nat->Option AObj}{s:VS}{u:Mem}{tm1:Tr Value}{m:Mem}{sz:Nat}(hr:Rel n0 β E s u tm1 m):∀{l:List ResultVar} {K:List Value->Prop},kr cx s u l K->∃vs,gI cx ⟨tm1,sz,m⟩ l=some vs/\K vs
 | [],K,h=>⟨[],rfl,h⟩
 | .tmp t::r,K,h=>by
  unfold kr at h;obtain⟨v,h1,h2⟩:=dz h;obtain⟨vs,h3,h4⟩:=qk (sz:=sz) hr h2;exact⟨v::vs,by simp only[gI,hr.tm _ _ h1,h3],h4⟩
 | .cell a t::r,K,h=>by
  unfold kr at h;split at h
  .rename_i id off hl;obtain⟨c,h1,h2⟩:=nC h;obtain⟨v0,hc⟩:=nX h1;obtain⟨_,_,hrow⟩:=hr.loc id v0 c hc;obtain⟨e,hrow⟩:=hrow.row hr.bes;obtain⟨v,h3,h4⟩:=GN h2 hrow;obtain⟨vs,h5,h6⟩:=qk (sz:=sz) hr h4;exact⟨v::vs,by simp only[gI,(hr.lp _ _ _ hl).2,h3,h5],h6⟩
  .split at h
   .rename_i p hp;obtain⟨b,o,rfl,h2⟩:=sX h;obtain⟨v,h3,h4⟩:=GI h2;obtain⟨vs,h5,h6⟩:=qk (sz:=sz) hr h4;exact⟨v::vs,by simp only[gI,hr.tm _ _ hp,yj hr.bes h3,h5],h6⟩
   .exact h.elim
theorem AD.of_code:∀{c:Code} {n:GL},(AD.of c n).1.code=c:=by
 intro c
 induction c with
 | seq a b iha ihb=>
  intro n;simp only[AD.of];rcases B6 n with⟨_|j,n'⟩
  .exact congr (congrArg Code.seq (iha (n:=n'))) (ihb (n:=(AD.of a n').2))
  .exact congr (congrArg Code.seq (iha (n:=n'))) (ihb (n:=(AD.of a n').2))
 | cond c a b iha ihb=>
  intro n;exact congr (congrArg (Code.cond c) (iha (n:=n))) (ihb (n:=(AD.of a n).2))
 | block id c ih=>intro n;exact congrArg (Code.block id) (ih (n:=n))
 | loop c ih=>
  intro n;simp only[AD.of];rcases B6 n with⟨_|j,n'⟩
  .rfl
  .exact congrArg Code.loop (ih (n:=n'))
 | _=>intro n;rfl
theorem ah.of(hof:oo cx)(hon:mG cx){k:FuncId}{fn:Func}{LS:List Nat}{ann:GL}{args:List Value}{u:Mem}{Q:Value->Mem->Prop}(ho:cx.ov.get k=none)(hf:cx.fn.get k=some fn)(h:iz cx fn LS ann args u Q):ah cx k args u Q:=by
 intro hw;unfold iz at h;split at h
 .exact h.elim
 .rename_i c hb;split at h
  .exact h.elim
  .rename_i hl;have hr:Rel u.nx (fun _=>0) (fun _=>none) ⟨ec .nil args 0,.nil,.nil,0,0⟩ u (ec .nil args 0) u:=
    ⟨Bes.refl u,hw,(fun b o e=>by cases e),gQ4 _,(fun _ _ h=>h),(fun t id off e=>by rw[Tr.get_nil]at e;cases e),(fun id v c e=>by rw[Tr.get_nil]at e;cases e),(fun id id' x y e=>by rw[Tr.get_nil]at e;cases e)⟩
   obtain⟨n,ex,tm2,m2,h1,β,E,s,u',h2,h3,h4⟩:=OM hof hon h _ _ _ _ _ hr;rw[AD.of_code]at h1;have fc:∀{K:List Value->Prop},kr cx s u' fn.results.toList K->(∀l,K l->Q (oneOf l) (fmV s u'))->(ex = .normal∨ex = .ret)->
     ∃n r m',dU cx (eI cx n) k args u=some (r,m')/\∃E u',Bes E u' m'/\Wf u'/\(∀b o,E b=some o->u.nx<=b)/\Q r u':=by
    intro K hK hQ hex;obtain⟨vs,k1,k2⟩:=qk (sz:=fn.ntmps) h2 hK;refine⟨n,oneOf vs,m2,?_,E,fmV s u',h2.bes,h2.wf,h2.lo,hQ vs k2⟩;unfold dU;rw[ho];simp only;unfold kL;rcases hex with rfl|rfl<;>simp only[hf,hb,hl,h1,qY,k1]
   cases ex with
   | normal=>exact fc h4 (fun _ h=>h) (.inl rfl)
   | ret=>exact fc h4 (fun _ h=>h) (.inr rfl)
   | exit i=>exact h4.elim
theorem ah.mono{k:FuncId}{args:List Value}{u:Mem}{Q R:Value->Mem->Prop}(h:ah cx k args u Q)(hq:∀r u',Q r u'->R r u'):ah cx k args u R:=by
 intro hw;obtain⟨n,r,m',h1,E,u',h2,h3,h4,h5⟩:=h hw;exact⟨n,r,m',h1,E,u',h2,h3,h4,hq _ _ h5⟩
theorem ah.ov(hon:mG cx){k:FuncId}{f:List Value->Mem->Option (Value×Mem)}{args:List Value}{u:Mem}{Q:Value->Mem->Prop}(ho:cx.ov.get k=some f){r:Value}{u':Mem}(h:f args u=some (r,u'))(hq:Q r u'):ah cx k args u Q:=by
 intro hw;exact⟨0,r,u',by unfold dU;rw[ho];exact h,_,u',Bes.refl u',(hon k f ho _ _ _ _ h hw).wf,(fun b o e=>by cases e),hq⟩
end Go.AX
namespace Go.Proofs.YthpnifigjfplbaaGreat.vc
open Go Go.AX
abbrev uZ:FuncId:=9
abbrev kR:FuncId:=10
abbrev vI:FuncId:=11
abbrev qS:FuncId:=12
abbrev uY:FuncId:=13
abbrev uh:FuncId:=14
abbrev ui:FuncId:=15
abbrev uj:FuncId:=18
abbrev xA:FuncId:=19
abbrev nG:FuncId:=27
abbrev oS:FuncId:=28
abbrev kE:FuncId:=29
abbrev nH:FuncId:=30
abbrev gg:FuncId:=31
abbrev iq:FuncId:=32
abbrev iC:FuncId:=33
abbrev ql:FuncId:=34
abbrev rp:FuncId:=35
abbrev iT:FuncId:=36
abbrev sO:FuncId:=37
abbrev gS:FuncId:=38
abbrev vB:FuncId:=39
abbrev qm:FuncId:=40
abbrev gL:FuncId:=41
abbrev mb:FuncId:=42
abbrev gM:FuncId:=43
abbrev mc:FuncId:=44
abbrev iD:FuncId:=45
abbrev tX:FuncId:=46
abbrev gm:FuncId:=60
abbrev nI:FuncId:=61
abbrev ir:FuncId:=62
abbrev oy:FuncId:=63
abbrev iU:FuncId:=64
abbrev jS:FuncId:=65
abbrev me:FuncId:=66
abbrev gr:FuncId:=67
abbrev iA:FuncId:=68
abbrev iB:FuncId:=69
abbrev gV:FuncId:=70
abbrev iY:FuncId:=71
abbrev jk:FuncId:=72
abbrev sN:FuncId:=73
abbrev dF:FuncId:=74
abbrev ic:FuncId:=75
abbrev kF:FuncId:=76
abbrev ig:FuncId:=77
abbrev mf:FuncId:=78
abbrev uW:FuncId:=79
abbrev vd:FuncId:=80
abbrev ue:FuncId:=81
abbrev xu:FuncId:=82
abbrev iZ:FuncId:=83
abbrev uk:FuncId:=84
abbrev zb:FuncId:=85
abbrev fb:FuncId:=86
abbrev vJ:FuncId:=87
abbrev mI:FuncId:=88
abbrev zg:FuncId:=89
abbrev xo:FuncId:=90
abbrev it:FuncId:=91
abbrev mU:FuncId:=92
abbrev ip:FuncId:=93
abbrev fU:FuncId:=104
abbrev kG:FuncId:=105
abbrev ij:FuncId:=106
abbrev iV:FuncId:=107
abbrev kC:FuncId:=108
abbrev xC:FuncId:=109
abbrev xl:FuncId:=110
abbrev lX:FuncId:=111
abbrev za:FuncId:=112
abbrev mD:FuncId:=113
abbrev sr:FuncId:=114
abbrev xm:FuncId:=115
abbrev jd:FuncId:=116
abbrev xD:FuncId:=117
abbrev vK:FuncId:=118
abbrev mK:FuncId:=119
abbrev lZ:FuncId:=120
abbrev vH:FuncId:=121
abbrev fO:FuncId:=122
abbrev jT:FuncId:=123
abbrev sM:FuncId:=124
abbrev fj:FuncId:=125
abbrev kf:FuncId:=126
abbrev su:FuncId:=127
abbrev oK:FuncId:=128
abbrev fV:FuncId:=129
abbrev iO:FuncId:=130
abbrev xk:FuncId:=131
abbrev tY:FuncId:=132
abbrev jU:FuncId:=133
abbrev gB:FuncId:=143
abbrev pJ:FuncId:=144
abbrev rn:FuncId:=145
abbrev ua:FuncId:=146
abbrev sP:FuncId:=147
abbrev mL:FuncId:=148
abbrev lh:FuncId:=149
abbrev oz:FuncId:=150
abbrev mg:FuncId:=151
abbrev kS:FuncId:=152
abbrev xt:FuncId:=153
abbrev vG:FuncId:=154
abbrev sw:FuncId:=158
abbrev iE:FuncId:=159
abbrev sB:FuncId:=161
abbrev mh:FuncId:=162
abbrev jz:FuncId:=163
abbrev eQ:FuncId:=164
abbrev fA:FuncId:=165
abbrev oR:FuncId:=166
abbrev uc:FuncId:=180
abbrev mJ:FuncId:=181
abbrev lg:FuncId:=195
abbrev jK:TypeId:=2
abbrev t_int:TypeId:=3
abbrev G0:TypeId:=4
abbrev cP:TypeId:=23
abbrev je:TypeId:=24
abbrev cS:TypeId:=25
abbrev mq:TypeId:=27
abbrev bJ:TypeId:=32
abbrev dk:TypeId:=38
abbrev kw:TypeId:=48
abbrev dt:TypeId:=63
abbrev eZ:TypeId:=75
abbrev fR:TypeId:=76
abbrev dr:TypeId:=78
abbrev t_model_Event:TypeId:=79
abbrev jR:TypeId:=85
abbrev fY:TypeId:=97
abbrev Ds:TypeId:=98
abbrev vL:TypeId:=99
abbrev EB:TypeId:=106
abbrev fH:TypeId:=109
abbrev ib:TypeId:=163
abbrev iS:TypeId:=165
abbrev t_robin_Robin:TypeId:=236
abbrev t_fifo_Fifo:TypeId:=247
abbrev qU:TypeId:=251
end Go.Proofs.YthpnifigjfplbaaGreat.vc
namespace Go.AX
open Go
structure Keep (m m':Mem):Prop where
 wf:Wf m'
 nx:m.nx<=m'.nx
 fl:m'.fl=m.fl
 get:∀b,b<m.nx->m'.hp.get b=m.hp.get b
theorem Keep.refl{m:Mem}(h:Wf m):Keep m m:=⟨h,gQ4 _,rfl,fun _ _=>rfl⟩
theorem Keep.trans{m m1 m2:Mem}(h:Keep m m1)(k:Keep m1 m2):Keep m m2:=
 ⟨k.wf,Nat.le_trans h.nx k.nx,k.fl.trans h.fl,fun b hb=>(k.get b (Nat.lt_of_lt_of_le hb h.nx)).trans (h.get b hb)⟩
theorem Keep.newO{m m1:Mem}{o:AObj}(h:Keep m m1):Keep m (newO m1 o):=
 ⟨h.wf.newO,by simp;have:=h.nx;omega,h.fl,fun b hb=>by rw[kM,if_neg (by have:=h.nx;omega)];exact h.get b hb⟩
theorem Keep.bump{m m1:Mem}{n:Nat}(h:Keep m m1):Keep m (AX.bump m1 n):=
 ⟨h.wf.bump,by simp;have:=h.nx;omega,h.fl,fun b hb=>h.get b hb⟩
theorem Keep.wr{m m1:Mem}{b o:Nat}{l:List Value}(h:Keep m m1)(hb:m.nx<=b):Keep m (AX.wr m1 b o l):=
 ⟨h.wf.wr,by simpa using h.nx,by simpa using h.fl,fun b' hb'=>by rw[ln (by omega)];exact h.get b' hb'⟩
theorem Keep.addO{m m1:Mem}{b:Nat}{o:AObj}(h:Keep m m1)(hb:m.nx<=b)(hb2:b<m1.nx):Keep m (AX.addO m1 b o):=
 ⟨h.wf.addO hb2,by simpa using h.nx,by simpa using h.fl,fun b' hb'=>by rw[gJ,if_neg (by omega)];exact h.get b' hb'⟩
theorem Keep.row{m m':Mem}(h:Keep m m')(hw:Wf m){b:Nat}{l:List Value}{e:TypeId}{x:Bool}(hr:Row m b l e x):Row m' b l e x:=hr.congr (h.get b (hw.row hr))
theorem Keep.grow{m m':Mem}(h:Keep m m')(hw:Wf m){a:Option Addr}{n c s:Nat}{e:TypeId}{l:List Value}(hg:Grow m a n c s e l):Grow m' a n c s e l:=by
 refine⟨hg.1,?_⟩;rcases hg.2 with h1|⟨b,h1,h2,h3,h4⟩
 .exact .inl h1
 .exact .inr ⟨b,h1,h2,by rw[h.fl];exact h3,h.row hw h4⟩
def blk:Option Addr->List Nat
 | none=>[]
 | some a=>[a.block]
theorem Grow.fr{m m':Mem}{S:List Nat}(h:Fr m m' S)(hw:Wf m){a:Option Addr}{n c s:Nat}{e:TypeId}{l:List Value}(hg:Grow m a n c s e l)(hn:∀b∈blk a,b∉S):Grow m' a n c s e l:=by
 refine⟨hg.1,?_⟩;rcases hg.2 with h1|⟨b,h1,h2,h3,h4⟩
 .exact .inl h1
 .exact .inr ⟨b,h1,h2,by rw[h.fl];exact h3,h.row h4 (hw.row h4) (hn b (by rw[h1];simp[blk]))⟩
theorem Grow.blk_lt{m:Mem}(hw:Wf m){a:Option Addr}{n c s:Nat}{e:TypeId}{l:List Value}(hg:Grow m a n c s e l):∀b∈blk a,b<m.nx:=by
 intro b hb;rcases hg.2 with⟨h1,_⟩|⟨b',h1,_,_,h2⟩
 .rw[h1]at hb;cases hb
 .rw[h1]at hb;simp[blk]at hb;subst hb;exact hw.row h2
theorem Oe{cx:Cx}{m2 m3:Mem}{a:Option Addr}{n c s:Nat}{e t:TypeId}{i:TypeInfo}{z:Value}{vs l:List Value}(hw2:Wf m2)(hG:Grow m2 a n c s e l)
  (hm3:newO m2 (row vs e false)=m3) (hvs:vs.length=s) (hs:0<s) (ht:cx.un.get t=some (.slice e)) (hi:cx.ty.get e=some i) (his:i.size=s) (hz:fB cx e=some z) (hzl:(bQ z).length=s) (ho:vs.all one1=true) (hb:i.bytes<=1000) (hn:n<=1000000) :
  ∃m4,cQ cx m3 [t,t] [.slice a n c,.slice (some ⟨m2.nx,0,none⟩) 1 1]=some (.slice (some ⟨m2.nx+1,0,none⟩) (n+1) (n+1),m4)/\Wf m4/\Fr m2 m4 (blk a)/\m4.nx=m2.nx+2/\Grow m4 (some ⟨m2.nx+1,0,none⟩) (n+1) (n+1) s e (l++vs):=by
 have hw3:Wf m3:=hm3▸hw2.newO;have nx3:m3.nx=m2.nx+1:=by rw[<-hm3];rfl
 have fl3:m3.fl=m2.fl:=by rw[<-hm3];rfl
 have f3:Fr m2 m3 []:=hm3▸(Fr.refl m2 []).newO;have hT:Row m3 m2.nx vs e false:=hm3▸Row.newO;have hG3:Grow m3 a n c s e l:=hG.fr f3 hw2 (fun _ _ h=>by cases h);have hbl:=hG.blk_lt hw2;have hbb:(2*(n+1)+192)*i.bytes<=140737488355328:=by
  have h1:(2*(n+1)+192)<=2000194:=by omega
  have h2:=Nat.mul_le_mul h1 hb;omega
 have hrow:fk m3 ⟨m2.nx,0,none⟩ (1*s)=some vs:=by
  have:=hT.rowAt (o:=0) (k:=1*s) (by omega);rw[this];congr 1;simp;rw[List.take_of_length_le (by omega)]
 obtain⟨m4,h4,nx4,fl4,hR4,g4⟩:=oF hG3 ht ht rfl hi his hz hzl hs (x:=.slice (some ⟨m2.nx,0,none⟩) 1 1) (k:=1) rfl (by simp only[dA];exact hrow) (by omega) ho (by omega) hbb (by omega);rw[nx3]at h4 hR4;have hfl:=hw2.1;have g4':∀b',b'≠m3.nx->b'∉blk a->m4.hp.get b'=m3.hp.get b':=fun b' h1 h2=>g4 b' h1 (fun b e e'=>h2 (by rw[e,e'];simp[blk]))
 refine⟨m4,h4,⟨by omega,fun b hb=>?_⟩,⟨by omega,by omega,fun b hb hn'=>?_⟩,by omega,⟨?_,.inr ⟨_,rfl,rfl,by omega,hR4⟩⟩⟩
 .rw[nx4]at hb;rw[g4' b (by omega) (fun h=>by have:=hbl b h;omega)];exact hw3.2 b (by omega)
 .rw[g4' b (by omega) hn',f3.get b hb (by simp)]
 .have:=hG.1;simp[this,hvs,Nat.succ_mul]
noncomputable def oO(cx:Cx)(t e s:Nat):Bool:=match cx.un.get t,cx.ty.get e,fB cx e with
 | some (.slice e'),some i,some z=>Nat.beq e' e&&(Nat.beq i.size s&&(Nat.blt 0 s&&(Nat.beq (bQ z).length s&&Nat.ble i.bytes 1000)))
 | _,_,_=>false
theorem jg{cx:Cx}{t e s:Nat}(h:oO cx t e s=true):∃i z,cx.un.get t=some (.slice e)/\cx.ty.get e=some i/\i.size=s/\fB cx e=some z/\(bQ z).length=s/\0<s/\i.bytes<=1000:=by
 unfold oO at h;split at h
 .next e' i z h1 h2 h3=>
  simp only[Bool.and_eq_true]at h;obtain⟨a,b,c,d,f⟩:=h;have ea:e'=e:=gR3 a;exact⟨i,z,ea▸h1,h2,gR3 b,h3,gR3 d,gQ6 c,gQ6 f⟩
 .cases h
theorem push{cx:Cx}{m2:Mem}{a:Option Addr}{n c s e t:Nat}{vs l:List Value}(hp:oO cx t e s=true)(hw2:Wf m2)(hG:Grow m2 a n c s e l)(hvs:vs.length=s)(ho:vs.all one1=true)(hn:n<=1000000) :
  ∃m4,cQ cx (newO m2 (row vs e false)) [t,t] [.slice a n c,.slice (some ⟨m2.nx,0,none⟩) 1 1]=some (.slice (some ⟨m2.nx+1,0,none⟩) (n+1) (n+1),m4)/\Wf m4/\Fr m2 m4 (blk a)/\m4.nx=m2.nx+2/\Grow m4 (some ⟨m2.nx+1,0,none⟩) (n+1) (n+1) s e (l++vs):=by
 obtain⟨i,z,h1,h2,h3,h4,h5,h6,h7⟩:=jg hp;exact Oe hw2 hG rfl hvs h6 h1 h2 h3 h4 h5 ho h7 hn
theorem Keep.of_fr{m m1 m2:Mem}{S:List Nat}(k:Keep m m1)(hw:Wf m2)(f:Fr m1 m2 S)(hS:∀b∈S,m.nx<=b):Keep m m2:=
 ⟨hw,Nat.le_trans k.nx f.nx,f.fl.trans k.fl,fun b hb=>(f.get b (Nat.lt_of_lt_of_le hb k.nx) (fun h=>by have:=hS b h;omega)).trans (k.get b hb)⟩
theorem Keep.fr{m m':Mem}(k:Keep m m')(S:List Nat):Fr m m' S:=⟨k.nx,k.fl,fun b hb _=>k.get b hb⟩
end Go.AX
namespace Go.AX
variable {P:Program} {cx:Cx} {φ : cV} {m:Mem} {w:World}
def TR(φ : cV)(st:St)(a:Act):Prop:=
 a.tmps.size=st.sz/\a.defers=[]/\∀(t:Nat) (v:Value),st.tm.get t=some v->VR φ v (a.tmps.getD t undef)
theorem dD(hcx:CxOk P cx)(hg:∀g,g<=P.globals.size->∃l,φ g=some l/\l.rb=g/\l.ro=0){st:St}{a:Act}(ht:TR φ st a){x:Operand}{v:Value}(h:cU cx st x=some v):VR φ v (a.eval x):=by
 cases x with
 | tmp t=>exact ht.2.2 t v h
 | const c=>
  simp only[cU]at h;split at h
  .rename_i hp;cases h;exact VR.plain φ hp
  .cases h
 | global g=>
  simp only[cU]at h;split at h
  .rename_i hp;cases h;have hlt:g<P.globals.size:=by rw[<-hcx.gl];exact gQ6 hp
   obtain⟨l,h1,h2,h3⟩:=hg g (Nat.le_of_lt hlt);have:=VR.ptr (φ:=φ) g 0 l h1;rw[h2,h3]at this;exact this
  .cases h
 | func f=>
  simp only[cU]at h;cases h;exact .func _ _ _ _ _ rfl (fun i v v' h1=>by simp at h1) rfl (fun i v v' h1=>by simp at h1)
theorem tA(hcx:CxOk P cx)(hg:∀g,g<=P.globals.size->∃l,φ g=some l/\l.rb=g/\l.ro=0){st:St}{a:Act}(ht:TR φ st a):∀{xs:List Operand} {l:List Value},gZ cx st xs=some l->LR φ l (xs.map a.eval)
 | [],l,h=>by simp only[gZ]at h;cases h;exact LR.nil φ
 | x::r,l,h=>by
  simp only[gZ]at h;split at h
  .rename_i v hv;split at h
   .rename_i l0 hl;cases h;exact(tA hcx hg ht hl).cons (dD hcx hg ht hv)
   .cases h
  .cases h
theorem uH{t:TypeId}{d:TypeDesc}(h:P.underlying t=some d)(w:World):(isAgg t).run P w = .ok (mX d) w:=by
 simp only[isAgg,Sem.run_bind,run_underlying h,Result.andThen_ok];cases d<;>rfl
theorem eC{t:TypeId}{i:TypeInfo}(h:P.info? t=some i)(w:World):(sizeOf t).run P w = .ok i.size w:=by
 simp[sizeOf,typeInfo,h]
theorem hY{t:TypeId}{i:TypeInfo}(h:P.info? t=some i)(w:World):(typeInfo t).run P w = .ok i w:=by
 simp[typeInfo,h]
theorem gv(hcx:CxOk P cx){t:TypeId}{n:Nat}(h:dO cx t=some n):∃i,P.info? t=some i/\i.size=n:=by
 simp only[dO]at h;split at h
 .rename_i i hi;cases h;exact⟨i,hcx.ty _ _ hi,rfl⟩
 .cases h
theorem gK(hcx:CxOk P cx){t:TypeId}{z:Value}(h:fB cx t=some z)(w:World):(zeroValue t).run P w = .ok z w/\nf z=true:=by
 simp only[fB]at h;split at h
 .rename_i i hi;split at h
  .rename_i y hy;split at h
   .rename_i hp;cases h;exact⟨by simp[zeroValue,typeInfo,hcx.ty _ _ hi,hy],hp⟩
   .cases h
  .cases h
 .cases h
theorem wK:∀(n i:Nat) (c:Tr Value) (l:List Value),iG c n i=some l->l.length=n/\∀j,j<n->c.get (i+j)=l[j]?
 | 0,i,c,l,h=>by simp only[iG]at h;cases h;exact⟨rfl,fun j hj=>by omega⟩
 | n+1,i,c,l,h=>by
  simp only[iG]at h;split at h
  .rename_i v hv;split at h
   .rename_i l0 hl;cases h;obtain⟨h1,h2⟩:=wK n (i+1) c l0 hl;refine⟨by simp[h1],fun j hj=>?_⟩;cases j with
    | zero=>simpa using hv
    | succ j=>
     have:=h2 j (by omega);rw[show i+(j+1)=i+1+j by omega,this];simp
   .cases h
  .cases h
theorem lQ(b o n:Nat):(⟨b,o,none⟩:Addr).add n=⟨b,o+n,none⟩:=by
 unfold Addr.add;split<;>simp_all
theorem yu(h0:R0 P φ m w){a:Addr}{a':Addr}{n:Nat}{l:List Value}(h:fk m a n=some l)(ha:VR φ (.pointer (some a)) (.pointer (some a'))) :
  a'.spot=none/\∃l',LR φ l l'/\l.length=n/\∀(j:Nat) (v:Value),l'[j]? = some v->w.cell? (a'.add j)=some v:=by
 cases ha with
 | ptr b off lc hb=>
  refine⟨rfl,?_⟩;simp only[fk]at h;split at h
  .rename_i c k e x hk;split at h
   .rename_i hle;obtain⟨l0,hl0,c',hc',hn,hre,hsz,hcells,hx1,hx2⟩:=h0.obj _ _ hk;rw[hb]at hl0;cases hl0;obtain⟨r1,r2⟩:=wK _ _ _ _ h;have hle':off+n<=k:=gQ6 hle;refine⟨(c'.toList.drop (lc.ro+off)).take n,⟨?_,?_⟩,r1,?_⟩
    .rw[r1,List.length_take,List.length_drop];simp;omega
    .intro i v v' h1 h2;have hi:i<n:=by rw[<-r1];exact(gQ1 h1).1
     have e1:=r2 i hi;rw[h1]at e1;obtain⟨u',g2,g3⟩:=hcells (off+i) (by omega);have g3:=g3 _ e1;rw[List.getElem?_take,if_pos hi,List.getElem?_drop]at h2;rw[show lc.ro+(off+i)=lc.ro+off+i by omega,<-Array.getElem?_toList,h2]at g2;cases g2;exact g3
    .intro j v h1;rw[List.getElem?_take]at h1;split at h1
     .rw[List.getElem?_drop,Array.getElem?_toList]at h1;rw[lQ];simp[World.cell?,hc',h1]
     .cases h1
   .cases h
  .rename_i c k hk;split at h
   .rename_i hle;obtain⟨l0,hl0,c',e,fr,hc',hn,hs0,hsz,hcells⟩:=h0.obj _ _ hk;rw[hb]at hl0;cases hl0;obtain⟨r1,r2⟩:=wK _ _ _ _ h;have hle':off+n<=k:=gQ6 hle;refine⟨(c'.toList.drop (lc.ro+off)).take n,⟨?_,?_⟩,r1,?_⟩
    .rw[r1,List.length_take,List.length_drop];simp;omega
    .intro i v v' h1 h2;have hi:i<n:=by rw[<-r1];exact(gQ1 h1).1
     have e1:=r2 i hi;rw[h1]at e1;obtain⟨u',g2,g3⟩:=hcells (off+i) v (by omega) e1;rw[List.getElem?_take,if_pos hi,List.getElem?_drop]at h2;rw[show lc.ro+(off+i)=lc.ro+off+i by omega,<-Array.getElem?_toList,h2]at g2;cases g2;exact g3
    .intro j v h1;rw[List.getElem?_take]at h1;split at h1
     .rw[List.getElem?_drop,Array.getElem?_toList]at h1;rw[lQ];simp[World.cell?,hc',h1]
     .cases h1
   .cases h
  .cases h
theorem FT(hcx:CxOk P cx)(h0:R0 P φ m w){t:TypeId}{a:Addr}{v:Value}{x:Value}(h:loadT cx m t a=some v)(ha:VR φ (.pointer (some a)) x) :
  ∃v',(Instr.loadAt t x).run P w = .ok v' w/\VR φ v v':=by
 obtain⟨a',rfl⟩:∃a',x = .pointer (some a'):=by cases ha;exact⟨_,rfl⟩
 simp only[loadT]at h;split at h
 .rename_i d n hd hn;obtain⟨i,hi,rfl⟩:=gv hcx hn;have hu:=hcx.un _ _ hd;split at h
  .rename_i hag;split at h
   .rename_i l hl;cases h;obtain⟨hs,l',hlr,hlen,hc⟩:=yu h0 hl ha;have hrun:=run_loadCells_list (P:=P) w a' l' hc;refine⟨.agg l'.toArray,?_,.agg _ _ (by simpa using hlr.1) (by simpa using hlr.2)⟩;simp only[Instr.loadAt,Instr.sureAddr,loadVar,Sem.run_bind,Sem.run_pure,Result.andThen_ok,uH hu,hag,if_true,eC hi];rw[<-hlen,hlr.1];simp[hrun]
   .cases h
  .rename_i hag;split at h
   .rename_i u hl;cases h;obtain⟨hs,l',hlr,hlen,hc⟩:=yu h0 hl ha;obtain⟨v',r',rfl,hv,hr⟩:=hlr.uncons;refine⟨v',?_,hv⟩;have hc0:w.cell? a'=some v':=by
     have:=hc 0 v' rfl;simpa [Addr.add]using this
    simp[Instr.loadAt,Instr.sureAddr,loadVar,uH hu,hag,load,Sem.run,hc0]
   .cases h
 .cases h
end Go.AX
