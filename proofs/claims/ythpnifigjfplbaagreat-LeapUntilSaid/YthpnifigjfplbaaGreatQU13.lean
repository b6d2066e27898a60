import Derived.Test.YthpnifigjfplbaaGreatQU12
set_option linter.unusedSimpArgs false
set_option linter.unusedVariables false
set_option linter.unusedSectionVars false
namespace Go.AX
variable [Kap]
variable {P:Program} {cx:Cx} {φ : cV} {m:Mem} {w:World}
omit [Kap]in
set_option maxHeartbeats 1000000 in
theorem run_append_grow{ts:Array TypeId}{ty t tx e:TypeId}{ux:TypeDesc}{i:TypeInfo}{z x':Value}{b':Option Addr}{len cap' n:Nat}{old' new':Array Value}
  (h0:ts[0]? = some t) (h1:ts[1]? = some tx) (hu:P.underlying t=some (.slice e)) (hux:P.underlying tx=some ux) (hni:iR ux=true) (hi:P.info? e=some i)
  (hz:(zeroValue e).run P w.drew = .ok z w.drew)
  (hlen:(Builtin.lenOf x').run P w = .ok n w) (hold:(Builtin.firstCells i.size len (.slice b' len cap')).run P w.drew = .ok old' w.drew)
  (hnew:(Builtin.firstCells i.size n x').run P w.drew = .ok new' w.drew)
  (hgt:¬len+n<=cap') (hbig:Builtin.nextslicecap (len+n) cap'*i.bytes<=281474976710656) (hsm:len+n<=1099511627776) :
  ∃nc,len+n<=nc/\(Builtin.append_ ts ty #[.slice b' len cap',x']).run P w =
   .ok (.slice (some ⟨w.heap.size,0,none⟩) (len+n) nc) (w.drew.alloc (.cells (old'++(new'++Builtin.zeroCells z.cells (nc-(len+n)))) e)):=by
 refine⟨(Question.appendCap (len+n) cap' e).cut (w.tape w.drawn (.appendCap (len+n) cap' e)),by simp[Question.cut],?_⟩;have hf:(Question.appendCap (len+n) cap' e).forced=false:=rfl;have hm1:¬(9223372036854775807<(len:Int)+n/\i.bytes=0):=by omega
 have hm2:¬281474976710656<Builtin.nextslicecap (len+n) cap'*i.bytes:=by omega
 have hsz:w.drew.heap.size=w.heap.size:=rfl;cases ux<;>first
  | (simp[iR]at hni;done)
  | simp[Builtin.append_,h0,h1,run_underlying hu,run_underlying hux,eC hi,hY hi,hlen,hgt,hm1,hm2,hf,hold,hnew,hz,newRow]
omit [Kap]in
set_option maxHeartbeats 1000000 in
theorem run_append_fits{ts:Array TypeId}{ty t tx e:TypeId}{ux:TypeDesc}{i:TypeInfo}{x':Value}{b':Option Addr}{len cap' n:Nat}{new':List Value}{w':World}
  (h0:ts[0]? = some t) (h1:ts[1]? = some tx) (hu:P.underlying t=some (.slice e)) (hux:P.underlying tx=some ux) (hni:iR ux=true) (hi:P.info? e=some i)
  (hlen:(Builtin.lenOf x').run P w = .ok n w)
  (hnew:(Builtin.firstCells i.size n x').run P w = .ok new'.toArray w)
  (hle:len+n<=cap') (hst:match b' with|some a=>(storeCells (a.add (len*i.size)) new').run P w = .ok () w'|none=>w'=w) :
  (Builtin.append_ ts ty #[.slice b' len cap',x']).run P w = .ok (.slice b' (len+n) cap') w':=by
 cases b' with
 | none=>
  subst hst;cases ux<;>first
   | (simp[iR]at hni;done)
   | simp[Builtin.append_,h0,h1,run_underlying hu,run_underlying hux,eC hi,hlen,hle,hnew]
 | some a=>
  dsimp only at hst;cases ux<;>first
   | (simp[iR]at hni;done)
   | simp[Builtin.append_,h0,h1,run_underlying hu,run_underlying hux,eC hi,hlen,hle,hnew,hst]
omit [Kap]in
theorem zX(h0:R0 P φ m w){s len n c b off:Nat}{lc:Loc}{old:List Value}(h:dA m s len (.slice (some ⟨b,off,none⟩) n c)=some old)(hb:φ b=some lc) :
  ∃old',LR φ old old'/\∀(j:Nat) (v:Value),old'[j]? = some v->w.cell? ((⟨lc.rb,lc.ro+off,none⟩:Addr).add j)=some v:=by
 simp only[dA]at h;split at h
 .cases h;exact⟨[],LR.nil φ,fun j v h=>by simp at h⟩
 .obtain⟨_,l',h1,_,h2⟩:=yu h0 h (.ptr b off lc hb);exact⟨l',h1,h2⟩
theorem F8(h0:R0 P φ m w){m1:Mem}(hs:∀b o,m1.hp.get b=some o->m.hp.get b=some o)(_hn:m1.nx=m.nx)(_hf:m1.fl=m.fl)(hlow:∀b,b<m.fl->m1.hp.get b=m.hp.get b)
  {b:Nat} {lb l:Loc} {o0 o:AObj} {w':World} (hb:m.hp.get b=some o0) (hlb:φ b=some lb) (hgone:m1.hp.get b=none) (hrb:l.rb=lb.rb) (hid:φ m.nx=none) (hfl:m.fl<=m.nx)
  (hw:∀r,r≠lb.rb->w'.heap[r]? = w.heap[r]?) (hsz:w'.heap.size=w.heap.size) (q1:w'.os=w.os) (q2:w'.tape=w.tape) (q3:w'.output=w.output) (q4:w.drawn<=w'.drawn)
  (ho:OR P (cV.put φ m.nx l) w' l o) :
  R0 P (cV.put φ m.nx l) { hp:=m1.hp.put m.nx o,nx:=m.nx+1,fl:=m.fl } w'/\Stp φ m w (cV.put φ m.nx l) { hp:=m1.hp.put m.nx o,nx:=m.nx+1,fl:=m.fl } w':=by
 have hext:=cV.put_ext (l:=l) hid;have hfb:m.fl<=b:=by
  rcases Nat.lt_or_ge b m.fl with q|q
  .have:=hlow b q;rw[hgone,hb]at this;cases this
  .exact q
 have key:∀b' o' l',b'≠m.nx->m1.hp.get b'=some o'->cV.put φ m.nx l b'=some l'->φ b'=some l'/\m.hp.get b'=some o'/\l'.rb≠lb.rb:=by
  intro b' o' l' hne hg hp;have hp':φ b'=some l':=by simpa [cV.put,hne]using hp
  refine⟨hp',hs _ _ hg,fun e=>?_⟩;have:=h0.inj _ _ _ _ _ _ (hs _ _ hg) hb hp' hlb e;subst this;rw[hgone]at hg;cases hg
 refine⟨⟨?_,?_,?_⟩,⟨hext,?_,?_,by omega,q1,q2,q3,by simp,rfl,?_,?_,?_,fun _=>q4⟩⟩
 .intro b' o' hb';rw[Tr.get_put]at hb';by_cases e:b'=m.nx
  .subst e;rw[if_pos rfl]at hb';cases hb';exact⟨l,cV.put_self,ho⟩
  .rw[if_neg e]at hb';obtain⟨l',hl',ho'⟩:=h0.obj _ _ (hs _ _ hb');obtain⟨_,_,hne⟩:=key _ _ _ e hb' (hext _ _ hl');exact⟨l',hext _ _ hl',ho'.mono hext (hw _ hne)⟩
 .intro b1 b2 o1 o2 l1 l2 g1 g2 p1 p2 hr;rw[Tr.get_put]at g1 g2;by_cases e1:b1=m.nx
  .by_cases e2:b2=m.nx
   .rw[e1,e2]
   .rw[if_neg e2]at g2;obtain⟨_,_,hne⟩:=key _ _ _ e2 g2 p2;subst e1;rw[cV.put_self]at p1;cases p1;exact absurd (by rw[<-hr,hrb]) hne
  .rw[if_neg e1]at g1;obtain⟨a1,a2,hne⟩:=key _ _ _ e1 g1 p1;by_cases e2:b2=m.nx
   .subst e2;rw[cV.put_self]at p2;cases p2;exact absurd (by rw[hr,hrb]) hne
   .rw[if_neg e2]at g2;obtain⟨a3,a4,_⟩:=key _ _ _ e2 g2 p2;exact h0.inj _ _ _ _ _ _ a2 a4 a1 a3 hr
 .intro g hg;obtain⟨l',h1,h2⟩:=h0.glob g hg;exact⟨l',hext _ _ h1,h2⟩
 .rintro r ⟨b',o',l',hfb',hb',hp,hr⟩;dsimp only at hb' hfb';rw[Tr.get_put]at hb';by_cases e:b'=m.nx
  .subst e;rw[cV.put_self]at hp;cases hp;exact .inr ⟨b,_,lb,hfb,hb,hlb,by rw[<-hr,hrb]⟩
  .rw[if_neg e]at hb';obtain⟨a1,a2,_⟩:=key _ _ _ e hb' hp;exact .inr ⟨b',o',l',hfb',a2,a1,hr⟩
 .intro r hr hn';exact hw r (fun e=>hn' ⟨b,_,lb,hfb,hb,hlb,e.symm⟩)
 .intro b' hb';rw[Tr.get_put,if_neg (by omega)];exact hlow _ hb'
 .intro b' hb' hnn;rw[Tr.get_put,if_neg (by omega)];cases hg:m1.hp.get b' with
  | none=>rfl
  | some o=>rw[hs _ _ hg]at hnn;cases hnn
 .intro b' hb';simp only[cV.put];rw[if_neg (by omega)]
theorem Stp.world{φ':cV}{m':Mem}{w1 w2:World}(h:Stp φ m w φ' m' w1)(e:w2.heap=w1.heap)(h1:w2.os=w1.os)(h2:w2.tape=w1.tape)(h3:w2.output=w1.output)(h4:w1.drawn<=w2.drawn):Stp φ m w φ' m' w2:=
 ⟨h.ext,h.own,fun r hr hn=>by rw[e];exact h.same r hr hn,by rw[e];exact h.size,h1.trans h.os,h2.trans h.tape,h3.trans h.output,h.nx,h.fl,h.low,h.old,h.keep,fun hk=>Nat.le_trans (h.drawn hk) h4⟩
set_option maxHeartbeats 1000000 in
theorem IR(hcx:CxOk P cx)(hr:RR P φ m w){ts:Array TypeId}{ty e:TypeId}{i:TypeInfo}{s' x' v:Value}{base:Option Addr}{len cap n:Nat}{new new':List Value}{m':Mem}(hi:P.info? e=some i)
  (h:kh cx m e i base len cap n new=some (v,m')) (hsv:VR φ (.slice base len cap) s') (hlr:LR φ new new')
  (fits:∀{b':Option Addr} {cap':Nat} {w':World},len+n<=cap'->(match b' with|some a=>(storeCells (a.add (len*i.size)) new').run P w = .ok () w'|none=>w'=w)->(Builtin.append_ ts ty #[.slice b' len cap',x']).run P w = .ok (.slice b' (len+n) cap') w')
  (grows:∀{z:Value} {b':Option Addr} {cap':Nat} {old':Array Value},(zeroValue e).run P w.drew = .ok z w.drew->(Builtin.firstCells i.size len (.slice b' len cap')).run P w.drew = .ok old' w.drew->¬len+n<=cap'->Builtin.nextslicecap (len+n) cap'*i.bytes<=281474976710656->len+n<=1099511627776->
   ∃nc,len+n<=nc/\(Builtin.append_ ts ty #[.slice b' len cap',x']).run P w = .ok (.slice (some ⟨w.heap.size,0,none⟩) (len+n) nc) (w.drew.alloc (.cells (old'++(new'.toArray++Builtin.zeroCells z.cells (nc-(len+n)))) e))) :
  ∃v' w' φ',(Builtin.append_ ts ty #[s',x']).run P w = .ok v' w'/\VR φ' v v'/\RR P φ' m' w'/\Stp φ m w φ' m' w':=by
 have h0:=hr.r0;unfold kh at h;split at h
 .cases h
 .rename_i hc;simp only[Bool.and_eq_true]at hc;have c1:new.length=n*i.size:=gR3 hc.1.1;have c2:0<i.size:=gQ6 hc.1.2;have c0:=hc.2;split at h
  ·
   rename_i hle;have hle':len+n<=cap:=gQ6 hle;split at h
   .rename_i a;split at h
    ·
     simp only[gQ7,Prod.mk.injEq]at h;obtain⟨rfl,rfl⟩:=h;have hn0:=hlr.nil_iff;subst hn0;have hnz:n=0:=by
      simp only[List.length_nil]at c1;rcases Nat.mul_eq_zero.1 c1.symm with q|q
      .exact q
      .omega
     subst hnz;cases hsv with
     | sl b off _ _ cap' lc hb hcr=>
      have hcc:cap<=cap':=by
       rcases hcr with rfl|⟨_,_,h3,_⟩
       .exact gQ4 _
       .exact h3
      exact⟨_,w,φ,fits (by omega) (by simp[storeCells]),.sl _ _ _ _ _ _ hb hcr,hr,Stp.refl _ _ _⟩
     | slE a a'=>
      exact⟨_,w,φ,fits (by omega) (by simp[storeCells]),.slE _ _,hr,Stp.refl _ _ _⟩
    .rename_i hne;split at h
     .rename_i m1 hst;simp only[gQ7,Prod.mk.injEq]at h;obtain⟨rfl,rfl⟩:=h;cases hsv with
      | sl b off _ _ cap' lc hb hcr=>
       have hcc:cap<=cap':=by
        rcases hcr with rfl|⟨_,_,h3,_⟩
        .exact gQ4 _
        .exact h3
       obtain⟨w1,g1,g2,g3,g4⟩:=rD h0 hst (tC hb) hlr;refine⟨_,w1,φ,fits (by omega) g1,.sl _ _ _ _ _ _ hb hcr,⟨g2,by rw[g4];exact hr.fresh,by rw[g4,g3.fl];exact hr.fl⟩,g3⟩
      | slE a a'=>
       exfalso;have:n=0:=by omega
       subst this;simp only[Nat.zero_mul]at c1;exact hne (List.length_eq_zero_iff.1 c1)
     .cases h
   .split at h
    .simp only[gQ7,Prod.mk.injEq]at h;obtain⟨rfl,rfl⟩:=h;cases hsv;exact⟨_,w,φ,fits hle' rfl,.sl0 _ _,hr,Stp.refl _ _ _⟩
    .cases h
  ·
   rename_i hgt;have hgt':¬len+n<=cap:=by
    intro q;have:=gQ8 q;rw[this]at hgt;cases hgt
   split at h
   .rename_i old z hbd hold hz;simp only[Bool.and_eq_true]at hbd;have b1:(2*(len+n)+192)*i.bytes<=140737488355328:=gQ6 hbd.1;have b2:len+n<=1099511627776:=gQ6 hbd.2;split at h
    .rename_i m1 hgu hc3;simp only[Bool.and_eq_true]at hc3;have c3:old.length=len*i.size:=gR3 hc3.1;have c4:(bQ z).length=i.size:=gR3 hc3.2;simp only[mB,gQ7,Prod.mk.injEq]at h;obtain⟨rfl,rfl⟩:=h;obtain⟨u1,u2,u3,u4⟩:=By hgu;have hnew_len:(old++new).length=(len+n)*i.size:=by rw[gR2,c1,c3,Nat.add_mul]
     obtain⟨hzr,hzp⟩:=gK hcx hz w.drew;have h0d:R0 P φ m w.drew:=h0.world rfl;have hzs:z.cells.size=i.size:=by rw[<-c4,<-eK];simp
     have fresh_case:∀(b':Option Addr) (cap':Nat),VR φ (.slice base len cap) (.slice b' len cap')->¬len+n<=cap'->
       ∃v' w' φ',(Builtin.append_ ts ty #[.slice b' len cap',x']).run P w = .ok v' w'/\VR φ' (.slice (some ⟨m1.nx,0,none⟩) (len+n) (len+n)) v'/\
        RR P φ' { hp:=m1.hp.put m1.nx (.cells (ec .nil (old++new) 0) (old++new).length e true),nx:=m1.nx+1,fl:=m1.fl } w'/\
        Stp φ m w φ' { hp:=m1.hp.put m1.nx (.cells (ec .nil (old++new) 0) (old++new).length e true),nx:=m1.nx+1,fl:=m1.fl } w':=by
      intro b' cap' hvr hng;obtain⟨oldd,hod,hlod⟩:=rE h0d hold hvr rfl (gQ4 len);have hbig:Builtin.nextslicecap (len+n) cap'*i.bytes<=281474976710656:=by
       have:=HX (need:=len+n) (c:=cap') (by omega);have:=Nat.mul_le_mul_right i.bytes this;omega
      obtain⟨nc,hnc,hrun⟩:=grows hzr hod hng hbig b2;generalize hcn:(oldd.toArray++(new'.toArray++Builtin.zeroCells z.cells (nc-(len+n))))=cn at hrun;have hcnl:cn.toList=(oldd++new')++ey (bQ z) (nc-(len+n)):=by
       rw[<-hcn];simp only[Array.toList_append,List.append_assoc];unfold Builtin.zeroCells;rw[yx z.cells _ z.cells.size rfl (by omega),eK]
      have hpre:LR φ (old++new) (oldd++new'):=hlod.append hlr;have hcsz:cn.size=nc*i.size:=by
       have e1:cn.size=cn.toList.length:=by simp
       rw[e1,hcnl,gR2,<-hpre.1,hnew_len,oG,c4,<-Nat.add_mul];congr 1;omega
      have hle2:(len+n)*i.size<=nc*i.size:=Nat.mul_le_mul_right _ hnc;obtain⟨φ',rfl,g1,g2⟩:=Bv (P:=P) (pz h0 u3) (l:=old++new) (c':=cn) (e:=e) (loose:=true) (s:=i.size) (id:=m1.nx) (n:=m1.nx+1) (f:=m1.fl)
       (by rw[u1];exact hr.fresh_id) rfl (by rw[u1,u2];exact hr.fl) (by omega) (gQ4 _) (by rw[hnew_len,hcsz];exact hle2)
       (fun j a b p q=>hpre.2 j a b p (by
        have hj:j<(oldd++new').length:=by rw[<-hpre.1];exact(gQ1 p).1
        rw[<-Array.getElem?_toList,hcnl,List.getElem?_append_left hj]at q;exact q))
       (fun q=>by cases q) (fun _=>⟨c2,fun i' hi'=>by rw[hi]at hi';cases hi';rfl⟩)
      refine⟨_,_,_,hrun,?_,⟨g1.world rfl,?_,?_⟩,?_⟩
      .refine qb (.inr ⟨c2,?_,hnc,?_⟩)
       .show 0+(len+n)*i.size=(old++new).length;rw[hnew_len];omega
       .show 0+nc*i.size<=cn.size;rw[hcsz];omega
      .exact nj (by rw[u1];exact hr.fresh)
      .show m1.fl<=m1.nx+1;rw[u1,u2];have:=hr.fl;omega
      .exact(FY u3 (by omega) u2 u4).trans (g2.world rfl rfl rfl rfl (Nat.le_succ _))
     cases hsv with
     | sl0 _ _=>exact fresh_case none cap (.sl0 _ _) hgt'
     | slE a a'=>exact fresh_case (some a') 0 (.slE _ _) hgt'
     | sl b off _ _ cap' lc hb hcr=>
      by_cases hin:len+n<=cap'
      ·
       rcases zW h0 hi rfl hgu hb hcr with rfl|⟨d1,d2,d3,d4,d5,d6,d7,c',hc',hcs,o0,ho0⟩
       .exact absurd hin hgt'
       .have hm1:off+len*i.size+new'.length<=lc.re:=by
         rw[<-hlr.1,c1,Nat.add_assoc,<-Nat.add_mul];have:=Nat.mul_le_mul_right i.size hin;omega
        have hone:∀u∈new',u.oneCell'=true:=hlr.one1 c0;have hst:=run_storeCells_at P lc.rb (lc.ro+(off+len*i.size)) e new' 0 c' w hc' (by omega) hone;generalize hcn:(c'.toList.take (lc.ro+(off+len*i.size)+0)++new'++c'.toList.drop (lc.ro+(off+len*i.size)+0+new'.length)).toArray=cn at hst;have hcnl:cn.toList=splice c'.toList (lc.ro+(off+len*i.size)) new':=by rw[<-hcn];simp[AX.splice]
        have hcsz:cn.size=c'.size:=by
         have:=sg (a:=c'.toList) (b:=new') (off:=lc.ro+(off+len*i.size)) (by simp;omega);rw[<-hcnl]at this;simpa using this
        obtain⟨old',hlo,hoc⟩:=zX h0 hold hb;have hrun:=fits (b':=some ⟨lc.rb,lc.ro+off,none⟩) (w':=w.setRow lc.rb cn) hin (by
         (try dsimp only)
         rw[lQ,Nat.add_assoc];exact hst)
        have hid:=hr.fresh_id;have hext:=cV.put_ext (l:=⟨lc.rb,lc.ro+off,(old++new).length,lc.re-off,i.size⟩) hid;have hru:=F8 (P:=P) h0 u3 u1 u2 u4 (l:=⟨lc.rb,lc.ro+off,(old++new).length,lc.re-off,i.size⟩) (o:=.cells (ec .nil (old++new) 0) (old++new).length e true) (w':=w.setRow lc.rb cn)
         ho0 hb d1 rfl hid hr.fl (fun r hr=>setRow_other w lc.rb r cn hr) (by simp) rfl rfl rfl (gQ4 _) (by
          refine⟨cn,setRow_heap w lc.rb c' cn e (0,0) hc',rfl,?_,?_,?_,(fun q=>by cases q),fun _=>⟨c2,fun i' hi'=>by rw[hi]at hi';cases hi';rfl⟩⟩
          ·show (old++new).length<=lc.re-off;rw[hnew_len];have:=Nat.mul_le_mul_right i.size hin;omega
          ·show lc.ro+off+(lc.re-off)<=cn.size;omega
          ·intro j hj;have hj2:j<(len+n)*i.size:=by rw[<-hnew_len];exact hj
           by_cases hjl:j<len*i.size
           ·have h1:j<old.length:=by omega
            have h2:j<old'.length:=by rw[<-hlo.1];exact h1
            refine lP (v:=old[j]) (v':=old'[j]) ?_ ?_ ((hlo.2 _ _ _ (gQ2 h1) (gQ2 h2)).mono hext)
            ·rw[gn,if_pos (by simpa using hj),Nat.sub_zero,List.getElem?_append_left h1];exact gQ2 h1
            ·have:=hoc j _ (gQ2 h2);rw[lQ]at this;simp only[World.cell?,hc']at this;show cn[lc.ro+off+j]? = some old'[j];rw[<-Array.getElem?_toList,hcnl];unfold AX.splice;rw[List.append_assoc,List.getElem?_append_left (by simp;omega),List.getElem?_take,if_pos (by omega),Array.getElem?_toList];simpa using this
           ·have h1:j-len*i.size<new.length:=by rw[c1];rw[Nat.add_mul]at hj2;omega
            have h2:j-len*i.size<new'.length:=by rw[<-hlr.1];exact h1
            refine lP (v:=new[j-len*i.size]) (v':=new'[j-len*i.size]) ?_ ?_ ((hlr.2 _ _ _ (gQ2 h1) (gQ2 h2)).mono hext)
            ·rw[gn,if_pos (by simpa using hj),Nat.sub_zero,List.getElem?_append_right (by omega),c3];exact gQ2 h1
            ·show cn[lc.ro+off+j]? = some new'[j-len*i.size];rw[<-Array.getElem?_toList,hcnl];unfold AX.splice;have e1:(List.take (lc.ro+(off+len*i.size)) c'.toList).length=lc.ro+(off+len*i.size):=by simp;omega
             rw[List.append_assoc,List.getElem?_append_right (by omega),e1,List.getElem?_append_left (by omega)];rw[show lc.ro+off+j-(lc.ro+(off+len*i.size))=j-len*i.size by omega];exact gQ2 h2)
        rw[u1,u2];refine⟨_,_,_,hrun,?_,⟨hru.1,?_,?_⟩,hru.2⟩
        .refine .sl m.nx 0 _ _ _ ⟨lc.rb,lc.ro+off,(old++new).length,lc.re-off,i.size⟩ cV.put_self (.inr ⟨c2,?_,hin,?_⟩)
         .show 0+(len+n)*i.size=(old++new).length;rw[hnew_len];omega
         .show 0+cap'*i.size<=lc.re-off;omega
        .exact nj hr.fresh
        .show m.fl<=m.nx+1;have:=hr.fl;omega
      .exact fresh_case _ cap' (.sl _ _ _ _ _ _ hb hcr) hin
    .cases h
   .cases h
omit [Kap]in
theorem Km{ux:TypeDesc}(h:Bi ux=true):∃k,ux = .int k:=by
 cases ux with
 | int k=>exact⟨k,rfl⟩
 | _=>cases h
set_option maxHeartbeats 1000000 in
theorem IS(hcx:CxOk P cx)(hr:RR P φ m w){ts:Array TypeId}{ty t tx e:TypeId}{i:TypeInfo}{ux:TypeDesc}{s' x x' v:Value}{base:Option Addr}{len cap:Nat}{m':Mem}
  (ht0:ts[0]? = some t) (ht1:ts[1]? = some tx) (hu:P.underlying t=some (.slice e)) (hux:P.underlying tx=some ux) (hi:P.info? e=some i)
  (h:lj cx m e i ux x base len cap=some (v,m')) (hsv:VR φ (.slice base len cap) s') (hxv:VR φ x x') :
  ∃v' w' φ',(Builtin.append_ ts ty #[s',x']).run P w = .ok v' w'/\VR φ' v v'/\RR P φ' m' w'/\Stp φ m w φ' m' w':=by
 unfold lj at h;split at h
 .rename_i l z hint hz;obtain⟨k,rfl⟩:=Km hint;split at h
  .rename_i hc;simp only[Bool.and_eq_true,decide_eq_true_eq]at hc;obtain⟨⟨⟨⟨hc1,hc2⟩,hc3⟩,hc4⟩,hc5⟩:=hc;have hc3:=gQ6 hc3;have hc4:=gR3 hc4;have hc5:0<i.size:=gQ6 hc5;cases hxv;obtain⟨hzr,hzp⟩:=gK hcx hz w;obtain⟨hzd,_⟩:=gK hcx hz w.drew;have hwrap:IntKind.i64.wrap l=l:=by
    apply yv;simp[zr,IntKind.min,IntKind.max,IntKind.bits,IntKind.signed];omega
   have hzs:z.cells.size=i.size:=by rw[<-hc4,<-eK];simp
   have hcells:Builtin.zeroCells z.cells l.toNat=(ey (bQ z) l.toNat).toArray:=by
    apply Array.ext';unfold Builtin.zeroCells;rw[yx z.cells _ z.cells.size rfl (by omega),eK]
   have hneg:¬l<0:=by omega
   have hbig:¬l*(i.bytes:Int)>281474976710656:=by
    have:((l.toNat*i.bytes:Nat):Int)=l*i.bytes:=by rw[Int.natCast_mul,Int.toNat_of_nonneg hc1]
    omega
   have hzero:l.toNat*i.size=0->l.toNat=0:=fun h0=>by
    rcases Nat.mul_eq_zero.1 h0 with q|q
    .exact q
    .omega
   refine IR hcx hr hi h hsv ((VR.plain φ hzp).cells.rep l.toNat) ?_ ?_
   .intro b' cap' w' hle hst;by_cases h0:l.toNat*i.size=0
    .have hl:=hzero h0;have hl':l=0:=by omega
     subst hl';have hw0:IntKind.i64.wrap 0=0:=hwrap;have hle':len<=cap':=hle;cases b' with
     | none=>
      subst hst;simp[Builtin.append_,ht0,ht1,run_underlying hu,run_underlying hux,eC hi,hY hi,asInt,asIntOf,hw0,hle',ey]
     | some a=>
      have hst':(storeCells (a.add (len*i.size)) []).run P w = .ok () w':=hst;simp[Builtin.append_,ht0,ht1,run_underlying hu,run_underlying hux,eC hi,hY hi,asInt,asIntOf,hw0,hle',hst',ey]
    .cases b' with
     | none=>
      subst hst;simp[Builtin.append_,ht0,ht1,run_underlying hu,run_underlying hux,eC hi,hY hi,asInt,asIntOf,hwrap,hneg,hbig,hle,h0,hzr,hcells]
     | some a=>
      dsimp only at hst;simp[Builtin.append_,ht0,ht1,run_underlying hu,run_underlying hux,eC hi,hY hi,asInt,asIntOf,hwrap,hneg,hbig,hle,h0,hzr,hcells,hst]
   .intro z' b' cap' old' hz' hold hgt hbg hsm;have e1:z'=z:=by rw[hzd]at hz';cases hz';rfl
    subst e1;refine⟨(Question.appendCap (len+l.toNat) cap' e).cut (w.tape w.drawn (.appendCap (len+l.toNat) cap' e)),by simp[Question.cut],?_⟩;have hf:(Question.appendCap (len+l.toNat) cap' e).forced=false:=rfl;have hm1:¬9223372036854775807<(len:Int)+max l 0:=by omega
    have hm2:¬281474976710656<Builtin.nextslicecap (len+l.toNat) cap'*i.bytes:=by omega
    have hsz:w.drew.heap.size=w.heap.size:=rfl;by_cases h0:l.toNat*i.size=0
    .have hl:=hzero h0;have hl':l=0:=by omega
     subst hl';have hw0:IntKind.i64.wrap 0=0:=hwrap;have hgt':¬len<=cap':=hgt;have hm1':¬9223372036854775807<(len:Int):=by omega
     have hm2':¬281474976710656<Builtin.nextslicecap len cap'*i.bytes:=hm2;have hf':(Question.appendCap len cap' e).forced=false:=rfl;simp[Builtin.append_,ht0,ht1,run_underlying hu,run_underlying hux,eC hi,hY hi,asInt,asIntOf,hw0,hgt',hm1',hm2',hf',hold,hzd,newRow,ey]
    .simp[Builtin.append_,ht0,ht1,run_underlying hu,run_underlying hux,eC hi,hY hi,asInt,asIntOf,hwrap,hneg,hbig,hgt,hm1,hm2,hf,hold,h0,hzd,hcells,newRow]
  .cases h
 .cases h
set_option maxHeartbeats 1000000 in
theorem Kn(hcx:CxOk P cx)(hr:RR P φ m w){ts:Array TypeId}{ty:TypeId}{args:List Value}{args':Array Value}{v:Value}{m':Mem}(h:cQ cx m ts.toList args=some (v,m'))(ha:LR φ args args'.toList) :
  ∃v' w' φ',(Builtin.append_ ts ty args').run P w = .ok v' w'/\VR φ' v v'/\RR P φ' m' w'/\Stp φ m w φ' m' w':=by
 have h0:=hr.r0;unfold cQ at h;split at h
 .rename_i t tx base len cap x hts;obtain⟨s',r1,e1,hsv,hr1⟩:=ha.uncons;obtain⟨x',r2,e2,hxv,hr2⟩:=hr1.uncons;have:=hr2.nil_iff;subst this;subst e2;have ea:args' = #[s',x']:=Array.ext' (by simpa using e1);subst ea;have ht0:ts[0]? = some t:=by rw[<-Array.getElem?_toList,hts];rfl
  have ht1:ts[1]? = some tx:=by rw[<-Array.getElem?_toList,hts];rfl
  split at h
  .rename_i e ux hd hdx;have hu:=hcx.un _ _ hd;have hux:=hcx.un _ _ hdx;split at h
   .rename_i i n hi0 hn hrow;have hi:=hcx.ty _ _ hi0;have hlen:=HY (P:=P) (w:=w) hn hxv;split at h
    .rename_i new hnew;split at h
     .cases h
     .rename_i hc;simp only[Bool.and_eq_true]at hc;have c1:new.length=n*i.size:=gR3 hc.1.1;have c2:0<i.size:=gQ6 hc.1.2;have c0:=hc.2;obtain⟨new',hf,hlr⟩:=rE h0 hnew hxv hn (gQ4 n);split at h
      ·
       rename_i hle;have hle':len+n<=cap:=gQ6 hle;split at h
       .rename_i a;split at h
        ·
         simp only[gQ7,Prod.mk.injEq]at h;obtain⟨rfl,rfl⟩:=h;have hn0:=hlr.nil_iff;subst hn0;have hnz:n=0:=by
          simp only[List.length_nil]at c1;rcases Nat.mul_eq_zero.1 c1.symm with q|q
          .exact q
          .omega
         subst hnz;cases hsv with
         | sl b off _ _ cap' lc hb hcr=>
          have hcc:cap<=cap':=by
           rcases hcr with rfl|⟨_,_,h3,_⟩
           .exact gQ4 _
           .exact h3
          exact⟨_,w,φ,run_append_fits (w':=w) ht0 ht1 hu hux hrow hi hlen hf (by omega) (by simp[storeCells]),.sl _ _ _ _ _ _ hb hcr,hr,Stp.refl _ _ _⟩
         | slE a a'=>
          exact⟨_,w,φ,run_append_fits (w':=w) ht0 ht1 hu hux hrow hi hlen hf (by omega) (by simp[storeCells]),.slE _ _,hr,Stp.refl _ _ _⟩
        .rename_i hne;split at h
         .rename_i m1 hst;simp only[gQ7,Prod.mk.injEq]at h;obtain⟨rfl,rfl⟩:=h;cases hsv with
          | sl b off _ _ cap' lc hb hcr=>
           have hcc:cap<=cap':=by
            rcases hcr with rfl|⟨_,_,h3,_⟩
            .exact gQ4 _
            .exact h3
           obtain⟨w1,g1,g2,g3,g4⟩:=rD h0 hst (tC hb) hlr;refine⟨_,w1,φ,run_append_fits (w':=w1) ht0 ht1 hu hux hrow hi hlen hf (by omega) g1,.sl _ _ _ _ _ _ hb hcr,⟨g2,by rw[g4];exact hr.fresh,by rw[g4,g3.fl];exact hr.fl⟩,g3⟩
          | slE a a'=>
           exfalso;have:n=0:=by omega
           subst this;simp only[Nat.zero_mul]at c1;exact hne (List.length_eq_zero_iff.1 c1)
         .cases h
       .split at h
        .simp only[gQ7,Prod.mk.injEq]at h;obtain⟨rfl,rfl⟩:=h;cases hsv;exact⟨_,w,φ,run_append_fits (b':=none) (w':=w) ht0 ht1 hu hux hrow hi hlen hf hle' rfl,.sl0 _ _,hr,Stp.refl _ _ _⟩
        .cases h
      ·
       rename_i hgt;have hgt':¬len+n<=cap:=by
        intro q;have:=gQ8 q;rw[this]at hgt;cases hgt
       split at h
       .rename_i old z hbd hold hz;simp only[Bool.and_eq_true]at hbd;have b1:(2*(len+n)+192)*i.bytes<=140737488355328:=gQ6 hbd.1;have b2:len+n<=1099511627776:=gQ6 hbd.2;split at h
        .rename_i m1 hgu hc3;simp only[Bool.and_eq_true]at hc3;have c3:old.length=len*i.size:=gR3 hc3.1;have c4:(bQ z).length=i.size:=gR3 hc3.2;simp only[mB,gQ7,Prod.mk.injEq]at h;obtain⟨rfl,rfl⟩:=h;obtain⟨u1,u2,u3,u4⟩:=By hgu;have hnew_len:(old++new).length=(len+n)*i.size:=by rw[gR2,c1,c3,Nat.add_mul]
         obtain⟨hzr,hzp⟩:=gK hcx hz w.drew;have h0d:R0 P φ m w.drew:=h0.world rfl;obtain⟨newd,hfd,hlrd⟩:=rE h0d hnew hxv hn (gQ4 n);have hzs:z.cells.size=i.size:=by rw[<-c4,<-eK];simp
         have fresh_case:∀(b':Option Addr) (cap':Nat),VR φ (.slice base len cap) (.slice b' len cap')->¬len+n<=cap'->
           ∃v' w' φ',(Builtin.append_ ts ty #[.slice b' len cap',x']).run P w = .ok v' w'/\VR φ' (.slice (some ⟨m1.nx,0,none⟩) (len+n) (len+n)) v'/\
            RR P φ' { hp:=m1.hp.put m1.nx (.cells (ec .nil (old++new) 0) (old++new).length e true),nx:=m1.nx+1,fl:=m1.fl } w'/\
            Stp φ m w φ' { hp:=m1.hp.put m1.nx (.cells (ec .nil (old++new) 0) (old++new).length e true),nx:=m1.nx+1,fl:=m1.fl } w':=by
          intro b' cap' hvr hng;obtain⟨oldd,hod,hlod⟩:=rE h0d hold hvr rfl (gQ4 len);have hbig:Builtin.nextslicecap (len+n) cap'*i.bytes<=281474976710656:=by
           have:=HX (need:=len+n) (c:=cap') (by omega);have:=Nat.mul_le_mul_right i.bytes this;omega
          obtain⟨nc,hnc,hrun⟩:=run_append_grow (ty:=ty) ht0 ht1 hu hux hrow hi hzr hlen hod hfd hng hbig b2;generalize hcn:(oldd.toArray++(newd.toArray++Builtin.zeroCells z.cells (nc-(len+n))))=cn at hrun;have hcnl:cn.toList=(oldd++newd)++ey (bQ z) (nc-(len+n)):=by
           rw[<-hcn];simp only[Array.toList_append,List.append_assoc];unfold Builtin.zeroCells;rw[yx z.cells _ z.cells.size rfl (by omega),eK]
          have hpre:LR φ (old++new) (oldd++newd):=hlod.append hlrd;have hcsz:cn.size=nc*i.size:=by
           have e1:cn.size=cn.toList.length:=by simp
           rw[e1,hcnl,gR2,<-hpre.1,hnew_len,oG,c4,<-Nat.add_mul];congr 1;omega
          have hle2:(len+n)*i.size<=nc*i.size:=Nat.mul_le_mul_right _ hnc;obtain⟨φ',rfl,g1,g2⟩:=Bv (P:=P) (pz h0 u3) (l:=old++new) (c':=cn) (e:=e) (loose:=true) (s:=i.size) (id:=m1.nx) (n:=m1.nx+1) (f:=m1.fl)
           (by rw[u1];exact hr.fresh_id) rfl (by rw[u1,u2];exact hr.fl) (by omega) (gQ4 _) (by rw[hnew_len,hcsz];exact hle2)
           (fun j a b p q=>hpre.2 j a b p (by
            have hj:j<(oldd++newd).length:=by rw[<-hpre.1];exact(gQ1 p).1
            rw[<-Array.getElem?_toList,hcnl,List.getElem?_append_left hj]at q;exact q))
           (fun q=>by cases q) (fun _=>⟨c2,fun i' hi'=>by rw[hi]at hi';cases hi';rfl⟩)
          refine⟨_,_,_,hrun,?_,⟨g1.world rfl,?_,?_⟩,?_⟩
          .refine qb (.inr ⟨c2,?_,hnc,?_⟩)
           .show 0+(len+n)*i.size=(old++new).length;rw[hnew_len];omega
           .show 0+nc*i.size<=cn.size;rw[hcsz];omega
          .exact nj (by rw[u1];exact hr.fresh)
          .show m1.fl<=m1.nx+1;rw[u1,u2];have:=hr.fl;omega
          .exact(FY u3 (by omega) u2 u4).trans (g2.world rfl rfl rfl rfl (Nat.le_succ _))
         cases hsv with
         | sl0 _ _=>exact fresh_case none cap (.sl0 _ _) hgt'
         | slE a a'=>exact fresh_case (some a') 0 (.slE _ _) hgt'
         | sl b off _ _ cap' lc hb hcr=>
          by_cases hin:len+n<=cap'
          ·
           rcases zW h0 hi rfl hgu hb hcr with rfl|⟨d1,d2,d3,d4,d5,d6,d7,c',hc',hcs,o0,ho0⟩
           .exact absurd hin hgt'
           .have hm1:off+len*i.size+new'.length<=lc.re:=by
             rw[<-hlr.1,c1,Nat.add_assoc,<-Nat.add_mul];have:=Nat.mul_le_mul_right i.size hin;omega
            have hone:∀u∈new',u.oneCell'=true:=hlr.one1 c0;have hst:=run_storeCells_at P lc.rb (lc.ro+(off+len*i.size)) e new' 0 c' w hc' (by omega) hone;generalize hcn:(c'.toList.take (lc.ro+(off+len*i.size)+0)++new'++c'.toList.drop (lc.ro+(off+len*i.size)+0+new'.length)).toArray=cn at hst;have hcnl:cn.toList=splice c'.toList (lc.ro+(off+len*i.size)) new':=by rw[<-hcn];simp[AX.splice]
            have hcsz:cn.size=c'.size:=by
             have:=sg (a:=c'.toList) (b:=new') (off:=lc.ro+(off+len*i.size)) (by simp;omega);rw[<-hcnl]at this;simpa using this
            obtain⟨old',hlo,hoc⟩:=zX h0 hold hb;have hrun:=run_append_fits (ty:=ty) (b':=some ⟨lc.rb,lc.ro+off,none⟩) (w':=w.setRow lc.rb cn) ht0 ht1 hu hux hrow hi hlen hf hin (by
             dsimp only;rw[lQ,Nat.add_assoc];exact hst)
            have hid:=hr.fresh_id;have hext:=cV.put_ext (l:=⟨lc.rb,lc.ro+off,(old++new).length,lc.re-off,i.size⟩) hid;have hru:=F8 (P:=P) h0 u3 u1 u2 u4 (l:=⟨lc.rb,lc.ro+off,(old++new).length,lc.re-off,i.size⟩) (o:=.cells (ec .nil (old++new) 0) (old++new).length e true) (w':=w.setRow lc.rb cn)
             ho0 hb d1 rfl hid hr.fl (fun r hr=>setRow_other w lc.rb r cn hr) (by simp) rfl rfl rfl (gQ4 _) (by
              refine⟨cn,setRow_heap w lc.rb c' cn e (0,0) hc',rfl,?_,?_,?_,(fun q=>by cases q),fun _=>⟨c2,fun i' hi'=>by rw[hi]at hi';cases hi';rfl⟩⟩
              ·show (old++new).length<=lc.re-off;rw[hnew_len];have:=Nat.mul_le_mul_right i.size hin;omega
              ·show lc.ro+off+(lc.re-off)<=cn.size;omega
              ·intro j hj;have hj2:j<(len+n)*i.size:=by rw[<-hnew_len];exact hj
               by_cases hjl:j<len*i.size
               ·have h1:j<old.length:=by omega
                have h2:j<old'.length:=by rw[<-hlo.1];exact h1
                refine lP (v:=old[j]) (v':=old'[j]) ?_ ?_ ((hlo.2 _ _ _ (gQ2 h1) (gQ2 h2)).mono hext)
                ·rw[gn,if_pos (by simpa using hj),Nat.sub_zero,List.getElem?_append_left h1];exact gQ2 h1
                ·have:=hoc j _ (gQ2 h2);rw[lQ]at this;simp only[World.cell?,hc']at this;show cn[lc.ro+off+j]? = some old'[j];rw[<-Array.getElem?_toList,hcnl];unfold AX.splice;rw[List.append_assoc,List.getElem?_append_left (by simp;omega),List.getElem?_take,if_pos (by omega),Array.getElem?_toList];simpa using this
               ·have h1:j-len*i.size<new.length:=by rw[c1];rw[Nat.add_mul]at hj2;omega
                have h2:j-len*i.size<new'.length:=by rw[<-hlr.1];exact h1
                refine lP (v:=new[j-len*i.size]) (v':=new'[j-len*i.size]) ?_ ?_ ((hlr.2 _ _ _ (gQ2 h1) (gQ2 h2)).mono hext)
                ·rw[gn,if_pos (by simpa using hj),Nat.sub_zero,List.getElem?_append_right (by omega),c3];exact gQ2 h1
                ·show cn[lc.ro+off+j]? = some new'[j-len*i.size];rw[<-Array.getElem?_toList,hcnl];unfold AX.splice;have e1:(List.take (lc.ro+(off+len*i.size)) c'.toList).length=lc.ro+(off+len*i.size):=by simp;omega
                 rw[List.append_assoc,List.getElem?_append_right (by omega),e1,List.getElem?_append_left (by omega)];rw[show lc.ro+off+j-(lc.ro+(off+len*i.size))=j-len*i.size by omega];exact gQ2 h2)
            rw[u1,u2];refine⟨_,_,_,hrun,?_,⟨hru.1,?_,?_⟩,hru.2⟩
            .refine .sl m.nx 0 _ _ _ ⟨lc.rb,lc.ro+off,(old++new).length,lc.re-off,i.size⟩ cV.put_self (.inr ⟨c2,?_,hin,?_⟩)
             .show 0+(len+n)*i.size=(old++new).length;rw[hnew_len];omega
             .show 0+cap'*i.size<=lc.re-off;omega
            .exact nj hr.fresh
            .show m.fl<=m.nx+1;have:=hr.fl;omega
          .exact fresh_case _ cap' (.sl _ _ _ _ _ _ hb hcr) hin
        .cases h
       .cases h
    .cases h
   .rename_i i hi0 hn hrow;exact IS hcx hr ht0 ht1 hu hux (hcx.ty _ _ hi0) h hsv hxv
   .cases h
  .cases h
 .cases h
end Go.AX
namespace Go.AX
variable {P:Program} {cx:Cx} {φ : cV} {m:Mem} {w:World}
theorem AO(hcx:CxOk P cx)(hg:∀g,g<=P.globals.size->∃l,φ g=some l/\l.rb=g/\l.ro=0){st:St}{a:Act}(ht:TR φ st a){x:Option Operand}{v:Option Value}(h:iI cx st x=some v):zS φ v (x.map a.eval):=by
 cases x with
 | none=>simp only[iI,gQ7]at h;subst h;trivial
 | some x=>
  simp only[iI]at h;split at h
  .rename_i y hy;simp only[gQ7]at h;subst h;exact dD hcx hg ht hy
  .cases h
set_option maxHeartbeats 1000000 in
theorem wy(hcx:CxOk P cx){call:dB}{st:St}{a:Act}(ht:TR φ st a)(h0:R0 P φ st.m w){o:Oper}(hk:fD o.op<=1){ov:Option Value}{m':Mem}(h:dh cx call st o=some (ov,m')) :
  m'=st.m/\∃v v',ov=some v/\(execOp a.eval o).run P w = .ok (.value v') w/\VR φ v v':=by
 have fc:∀{r:Option Value} {s:Sem Value},(match r with|some x=>some (some x,st.m)|none=>(none:Out (Option Value)))=some (ov,m')->
   (∀v,r=some v->∃v',s.run P w = .ok v' w/\VR φ v v')->execOp a.eval o=(do pure (.value (<-s)))->
   m'=st.m/\∃v v',ov=some v/\(execOp a.eval o).run P w = .ok (.value v') w/\VR φ v v':=by
  intro r s hr hs he;cases r with
  | none=>cases hr
  | some v=>
   simp only[gQ7,Prod.mk.injEq]at hr;obtain⟨rfl,rfl⟩:=hr;obtain⟨v',h1,h2⟩:=hs v rfl;exact⟨rfl,v,v',rfl,by rw[he];simp[h1],h2⟩
 have hg:=h0.glob;cases hop:o.op<;>simp only[hop,fD]at hk<;>try omega
 case move x=>
  simp only[dh,hop]at h;refine fc (s:=pure (a.eval x)) h (fun v hv=>⟨_,rfl,dD hcx hg ht hv⟩) (by simp[execOp,hop])
 case assign x=>
  simp only[dh,hop]at h;refine fc (s:=pure (a.eval x)) h (fun v hv=>⟨_,rfl,dD hcx hg ht hv⟩) (by simp[execOp,hop])
 case pick c x y=>
  simp only[dh,hop]at h;split at h
  .rename_i vx hc hx;have h1:=dD hcx hg ht hc;have h2:=dD hcx hg ht hx;have hb:a.eval c = .bool true:=by generalize a.eval c=q at h1;cases h1;rfl
   refine fc (r:=some vx) (s:=pure (a.eval x)) h (fun v hv=>by cases hv;exact⟨_,rfl,h2⟩) (by simp[execOp,hop,hb,asBool])
  .rename_i vy hc hy;have h1:=dD hcx hg ht hc;have h2:=dD hcx hg ht hy;have hb:a.eval c = .bool false:=by generalize a.eval c=q at h1;cases h1;rfl
   refine fc (r:=some vy) (s:=pure (a.eval y)) h (fun v hv=>by cases hv;exact⟨_,rfl,h2⟩) (by simp[execOp,hop,hb,asBool])
  .cases h
 case build t ps=>
  simp only[dh,hop]at h;split at h
  .rename_i l hl;have hpr:=AH hcx hg ht hl;refine fc (s:=Instr.build t (ps.map fun(i,x)=>(i,a.eval x))) h (fun v hv=>Ml hcx hv (by rw[Array.toList_map];exact hpr)) (by simp[execOp,hop])
  .cases h
 case load t x=>
  simp only[dh,hop]at h;split at h
  .rename_i p hp;have h1:=dD hcx hg ht hp;refine fc (s:=Instr.loadAt t (a.eval x)) h (fun v hv=>FT hcx h0 hv h1) (by simp[execOp,hop])
  .cases h
 case nilCheck x=>
  simp only[dh,hop]at h;split at h
  .rename_i p hp;have h1:=dD hcx hg ht hp;obtain⟨p',hq⟩:∃p',a.eval x = .pointer (some p'):=by generalize a.eval x=q at h1;cases h1;exact⟨_,rfl⟩
   refine fc (r:=some (.pointer (some p))) (s:=pure (a.eval x)) h (fun v hv=>by cases hv;exact⟨_,rfl,h1⟩) (by simp[execOp,hop,hq])
  .rename_i t y hp;have h1:=dD hcx hg ht hp;obtain⟨p',hq⟩:∃p',a.eval x = .iface t p':=by generalize a.eval x=q at h1;cases h1;exact⟨_,rfl⟩
   refine fc (r:=some (.iface t y)) (s:=pure (a.eval x)) h (fun v hv=>by cases hv;exact⟨_,rfl,h1⟩) (by simp[execOp,hop,hq])
  .rename_i k f c hp;have h1:=dD hcx hg ht hp;obtain⟨f',c',hq⟩:∃f' c',a.eval x = .func (.func k) f' c':=by generalize a.eval x=q at h1;cases h1;exact⟨_,_,rfl⟩
   refine fc (r:=some (.func (.func k) f c)) (s:=pure (a.eval x)) h (fun v hv=>by cases hv;exact⟨_,rfl,h1⟩) (by simp[execOp,hop,hq])
  .cases h
 case binOp op t x y yt=>
  simp only[dh,hop]at h;split at h
  .rename_i va vb hx hy;have h1:=dD hcx hg ht hx;have h2:=dD hcx hg ht hy;split at h
   .rename_i hgd;have hgu:=Mj (P:=P) (w:=w) hcx hgd h1 h2;refine fc (s:=do eqGuard op t x y (a.eval x) (a.eval y);binOp op t (a.eval x) (a.eval y)) h (fun v hv=>?_) (by simp[execOp,hop]);obtain⟨g1,g2⟩:=Mi hcx h0 hv h1 h2;exact⟨v,by simp[hgu,g1],g2⟩
   .cases h
  .cases h
 case unOp op t x=>
  simp only[dh,hop]at h;split at h
  .rename_i va hx;have h1:=dD hcx hg ht hx;refine fc (s:=Op.unary op (a.eval x)) h (fun v hv=>⟨v,Oh hv h1⟩) (by simp[execOp,hop])
  .cases h
 case convert s d x=>
  simp only[dh,hop]at h;split at h
  .rename_i va hx;have h1:=dD hcx hg ht hx;refine fc (s:=convert s d (a.eval x)) h (fun v hv=>IQ hcx h0 hv h1) (by simp[execOp,hop])
  .cases h
 case makeInterface t x=>
  simp only[dh,hop]at h;split at h
  .cases h
  .rename_i va d hne hx hd;have h1:=dD hcx hg ht hx;have hu:=hcx.un _ _ hd;refine fc (r:=some (.iface t va)) (s:=Instr.makeInterface t (a.eval x)) h (fun v hv=>?_) (by simp[execOp,hop]);cases hv;refine⟨.iface t (a.eval x),?_,.iface _ _ _ h1⟩;simp only[Instr.makeInterface,Sem.run_bind,run_underlying hu,Result.andThen_ok];cases d<;>first|rfl|exact(hne _ _ hx hd).elim
  .cases h
 case makeFunc fn f c=>
  simp only[dh,hop]at h;split at h
  .rename_i lf lc hf hc;have h1:=tA hcx hg ht hf;have h2:=tA hcx hg ht hc;refine fc (r:=some (.func fn lf.toArray lc.toArray)) (s:=Instr.makeFunc fn (f.map a.eval) (c.map a.eval)) h (fun v hv=>?_) (by simp[execOp,hop]);cases hv;refine⟨_,rfl,.func _ _ _ _ _ ?_ ?_ ?_ ?_⟩
   .simpa using h1.1
   .simpa [Array.toList_map]using h1.2
   .simpa using h2.1
   .simpa [Array.toList_map]using h2.2
  .cases h
 case slice t x lo hi mx=>
  simp only[dh,hop]at h;split at h
  .rename_i vx vlo vhi vmx hx hlo hhi hmx;have h1:=dD hcx hg ht hx;refine fc (s:=Instr.sliceAt t (a.eval x) (lo.map a.eval) (hi.map a.eval) (mx.map a.eval)) h
    (fun v hv=>IO hcx h0 hv h1 (AO hcx hg ht hlo) (AO hcx hg ht hhi) (AO hcx hg ht hmx)) (by simp[execOp,hop])
  .cases h
 case fieldAddr t x f=>
  simp only[dh,hop]at h;split at h
  .rename_i va hx;have h1:=dD hcx hg ht hx;refine fc (s:=Instr.fieldAt t (a.eval x) f) h (fun v hv=>FW hcx hv h1) (by simp[execOp,hop])
  .cases h
 case field t x f=>
  simp only[dh,hop]at h;split at h
  .rename_i va hx;have h1:=dD hcx hg ht hx;refine fc (s:=Instr.field t (a.eval x) f) h (fun v hv=>Mk hcx hv h1) (by simp[execOp,hop])
  .cases h
 case indexAddr t x i=>
  simp only[dh,hop]at h;split at h
  .rename_i va vi hx hi;have h1:=dD hcx hg ht hx;have h2:=dD hcx hg ht hi;refine fc (s:=Instr.indexAt t (a.eval x) (a.eval i)) h (fun v hv=>FV hcx hv h1 h2) (by simp[execOp,hop])
  .cases h
 case index t x i=>
  simp only[dh,hop]at h;split at h
  .rename_i va vi hx hi;have h1:=dD hcx hg ht hx;have h2:=dD hcx hg ht hi;refine fc (s:=Instr.index t (a.eval x) (a.eval i)) h (fun v hv=>wQ hcx hv h1 h2) (by simp[execOp,hop])
  .cases h
 case lookup t x k ok=>
  simp only[dh,hop]at h;split at h
  .rename_i va vk hx hk;have h1:=dD hcx hg ht hx;have h2:=dD hcx hg ht hk;refine fc (s:=Instr.lookup t (a.eval x) (a.eval k) ok) h (fun v hv=>Kh hcx h0 hv h1 h2) (by simp[execOp,hop])
  .cases h
 case typeAssert x xT t ok=>
  simp only[dh,hop]at h;split at h
  .rename_i va hx;have h1:=dD hcx hg ht hx;refine fc (s:=Instr.typeAssert (a.eval x) xT t ok) h (fun v hv=>Kj hcx hv h1) (by simp[execOp,hop])
  .cases h
 case extract x i=>
  simp only[dh,hop]at h;split at h
  .rename_i vs hx;have h1:=dD hcx hg ht hx;obtain⟨vs',hq,hl⟩:∃vs',a.eval x = .tuple vs'/\LR φ vs.toList vs'.toList:=by
    generalize a.eval x=q at h1;cases h1 with
    | tuple c c' hc hcv=>exact⟨_,rfl,hc,hcv⟩
   refine fc (s:=Instr.extract (a.eval x) i) h (fun v hv=>?_) (by simp[execOp,hop]);obtain⟨v',g1,g2⟩:=hl.get hv;refine⟨v',?_,g2⟩;have g1':vs'[i]? = some v':=by simpa using g1
   simp[Instr.extract,hq,g1']
  .cases h
 case call c=>
  simp only[dh,hop]at h;cases hc:gq cx call st c with
  | none=>rw[hc]at h;cases h
  | some p=>
   rw[hc]at h;obtain⟨v,m1⟩:=p;simp only[gQ7,Prod.mk.injEq]at h;obtain⟨rfl,rfl⟩:=h;obtain⟨callee,args,ats⟩:=c;cases callee with
   | value f=>simp at hk
   | invoke r n=>simp at hk
   | builtin bi=>
    simp only[gq]at hc;split at hc
    .cases hc
    .rename_i l hl;have hlr:=tA hcx hg ht hl;rw[<-Array.toList_map]at hlr;have key:∀{r:Option Value} {s:Sem Value},(match r with|some x=>some (x,st.m)|none=>(none:Out Value))=some (v,m1)->(∀u,r=some u->∃v',s.run P w = .ok v' w/\VR φ u v')->
       (execOp a.eval o)=(do pure (.value (<-s)))->
       m1=st.m/\∃u v',some v=some u/\(execOp a.eval o).run P w = .ok (.value v') w/\VR φ u v':=by
      intro r s hr hs he;cases r with
      | none=>cases hr
      | some u=>
       simp only[gQ7,Prod.mk.injEq]at hr;obtain⟨rfl,rfl⟩:=hr;obtain⟨v',g1,g2⟩:=hs _ rfl;exact⟨rfl,_,v',rfl,by rw[he];simp[g1],g2⟩
     cases bi<;>simp only[]at hk<;>try omega
     case len=>
      simp only[ge]at hc;exact key (s:=Builtin.len_ ats o.type (args.map a.eval)) hc (fun u hu=>Pr hcx h0 hu hlr) (by simp[execOp,hop,resolve,invoke,builtin])
     case cap=>
      simp only[ge]at hc;exact key (s:=Builtin.cap_ ats o.type (args.map a.eval)) hc (fun u hu=>Ps hcx h0 hu hlr) (by simp[execOp,hop,resolve,invoke,builtin])
     case max=>
      simp only[ge]at hc;split at hc
      .rename_i x r;refine key (s:=Builtin.max_ ats o.type (args.map a.eval)) hc (fun u hu=>?_) (by simp[execOp,hop,resolve,invoke,builtin]);obtain⟨x',r',e1,hx,hr⟩:=hlr.uncons;obtain⟨v',g1,g2⟩:=uI (P:=P) (w:=w) true _ _ _ _ _ hu hx hr;exact⟨v',by simp only[Builtin.max_,e1];exact g1,g2⟩
      .cases hc
     case min=>
      simp only[ge]at hc;split at hc
      .rename_i x r;refine key (s:=Builtin.min_ ats o.type (args.map a.eval)) hc (fun u hu=>?_) (by simp[execOp,hop,resolve,invoke,builtin]);obtain⟨x',r',e1,hx,hr⟩:=hlr.uncons;obtain⟨v',g1,g2⟩:=uI (P:=P) (w:=w) false _ _ _ _ _ hu hx hr;exact⟨v',by simp only[Builtin.min_,e1];exact g1,g2⟩
      .cases hc
end Go.AX
namespace Go.AX
variable [Kap]
variable {P:Program} {cx:Cx} {φ : cV} {m:Mem} {w:World}
def yo(P:Program)(k:FuncId)(args':Array Value)(w:World)(R:Ending->World->Prop):Prop:=
 ((callFunc k args').run P w = .ok (.enter k args') w/\Calls P k args' w R)∨(∃v' w',(callFunc k args').run P w = .ok (.value v') w'/\R (.returned v') w')
def jZ(P:Program)(k:FuncId)(f:List Value->Mem->Option (Value×Mem)):Prop:=
 ∀(args:List Value) (m:Mem) (v:Value) (m':Mem),f args m=some (v,m')->
  ∀(φ : cV) (w:World) (args':Array Value),LR φ args args'.toList->RR P φ m w->
   yo P k args' w (fun e w'=>∃v' φ',e = .returned v'/\VR φ' v v'/\RR P φ' m' w'/\Stp φ m w φ' m' w')
def tj(P:Program)(call:dB):Prop:=∀(k:FuncId),jZ P k (call k)
def oX(P:Program)(cx:Cx):Prop:=∀k f,cx.ov.get k=some f->jZ P k f
omit [Kap]in
theorem qd{k:FuncId}{fn:Func}{c:Code}(hf:P.funcs[k]? = some fn)(hb:fn.body=some c)(hn:(fn.name == "runtime.NumGoroutine")=false)(args:Array Value)(w:World) :
  (callFunc k args).run P w = .ok (.enter k args) w:=by
 have hn':¬fn.name = "runtime.NumGoroutine":=by simpa using hn
 simp[callFunc,hf,hn',hb]
def Qt(P:Program)(φ : cV)(m:Mem)(w:World)(ov:Option Value)(m':Mem)(a:Act)(dst:Option Tmp)(next:Act->World->Prop):Prop:=
 ∀φ' w' v',RR P φ' m' w'->Stp φ m w φ' m' w'->(∀v,ov=some v->VR φ' v v')->next (a.put dst v') w'
omit [Kap]in
theorem mZ{o:Oper}{a:Act}{next:Act->World->Prop}{Q:Exit->Act->World->Prop}{v':Value}{w':World}(h:(execOp a.eval o).run P w = .ok (.value v') w')(hn:next (a.put o.dst v') w'):o.wp P a w next Q:=by
 unfold Oper.wp;rw[h];exact hn
omit [Kap]in
theorem MJ{o:Oper}{a:Act}{next:Act->World->Prop}{Q:Exit->Act->World->Prop}{w':World}(h:(execOp a.eval o).run P w = .ok .skip w')(hn:next (a.put o.dst undef) w'):o.wp P a w next Q:=by
 unfold Oper.wp;rw[h];exact hn
omit [Kap]in
theorem MK{o:Oper}{a:Act}{next:Act->World->Prop}{Q:Exit->Act->World->Prop}{k:FuncId}{args:Array Value}(h:(execOp a.eval o).run P w = .ok (.enter k args) w){R:Ending->World->Prop}
  (hc:Calls P k args w R) (hn:∀e w',R e w'->∃v',e = .returned v'/\next (a.put o.dst v') w'):o.wp P a w next Q:=by
 unfold Oper.wp;rw[h];show Calls P k args w _;refine hc.mono (fun e w' hr=>?_);obtain⟨v',rfl,hq⟩:=hn e w' hr;exact hq
omit [Kap]in
theorem RR.same{m':Mem}{w':World}(hr:RR P φ m w)(h0:R0 P φ m' w')(hn:m'.nx=m.nx)(hf:m'.fl=m.fl):RR P φ m' w':=
 ⟨h0,by rw[hn];exact hr.fresh,by rw[hn,hf];exact hr.fl⟩
omit [Kap]in
theorem Ja(v:Value)(l:Array Value):(#[v]++l)[0]? = some v:=by
 rw[<-Array.getElem?_toList,Array.toList_append];rfl
omit [Kap]in
theorem KV(v:Value)(l:Array Value):(#[v]++l).extract 1 (#[v]++l).size=l:=by
 apply Array.ext';rw[Array.toList_extract,Array.toList_append];simp only[List.extract_eq_take_drop];exact List.take_of_length_le (by simp)
omit [Kap]in
theorem KW(hcx:CxOk P cx){t:TypeId}{v v' r:Value}{name:String}{k:FuncId}(h:vU cx t v name=some (k,r))(hv:VR φ v v')(n:Nat) :
  ∃r',(method (n+1) t v' name).run P w = .ok (k,r') w/\VR φ r r':=by
 unfold vU at h;split at h
 .rename_i i u hi hd;have hu:=hcx.un _ _ hd;split at h
  .rename_i md hmd;have hmd':i.methods.find? (fun x=>x.name == name)=some md:=by
    rw[<-Array.find?_toList,<-hmd]
   split at h
   .rename_i f b hp hf;have hp':md.path = #[]:=Array.ext' (by simpa using hp);split at h
    .rename_i hpt;simp only[gQ7,Prod.mk.injEq]at h;obtain⟨rfl,rfl⟩:=h;refine⟨v',?_,hv⟩;cases u<;>first
      | (simp[FI]at hpt;done)
      | simp[method,hY (hcx.ty _ _ hi),hmd',follow,hp',hf,receiverAt,run_underlying hu,Place.get]
    .rename_i hpt;simp only[gQ7,Prod.mk.injEq]at h;obtain⟨rfl,rfl⟩:=h;refine⟨v',?_,hv⟩;cases u<;>first
      | (simp[FI]at hpt;done)
      | simp[method,hY (hcx.ty _ _ hi),hmd',follow,hp',hf,receiverAt,run_underlying hu,Place.get]
    .cases h
   .rename_i s f b hp hf;have hp':md.path = #[s]:=Array.ext' (by simpa using hp);split at h
    .rename_i fs c hd1 hst;split at h
     .rename_i fd hfd;split at h
      .rename_i e a hut hca;simp only[gQ7,Prod.mk.injEq]at h;obtain⟨rfl,rfl⟩:=h;cases hv with
       | agg _ c' hc hcv=>
        obtain⟨x,hx⟩:∃x,c'.toList[fd.offset]? = some x:=⟨_,gQ2 (by rw[<-hc];exact(gQ1 hca).1)⟩;have hx':c'[fd.offset]? = some x:=by rw[<-Array.getElem?_toList];exact hx
        refine⟨x,?_,hcv _ _ _ hca hx⟩;have hu1:=hcx.un _ _ hst;have hu2:=hcx.un _ _ hut;simp[method,hY (hcx.ty _ _ hi),hmd',follow,hp',hf,hd1,receiverAt,run_underlying hu1,run_underlying hu2,hfd,part,isAgg,hx',Place.get]
      .cases h
     .cases h
    .cases h
   .cases h
  .cases h
 .cases h
set_option maxHeartbeats 1000000 in
theorem NO(hcx:CxOk P cx){call:dB}(hcall:tj P call){st:St}{a:Act}(ht:TR φ st a)(hr:RR P φ st.m w){o:Oper}{ov:Option Value}{m':Mem}(h:dh cx call st o=some (ov,m'))
  {next:Act->World->Prop} {Q:Exit->Act->World->Prop} (hn:Qt P φ st.m w ov m' a o.dst next):o.wp P a w next Q:=by
 have h0:=hr.r0;have hg:=h0.glob;by_cases hk:fD o.op<=1
 .obtain⟨rfl,v,v',rfl,hrun,hv⟩:=wy hcx ht h0 hk h;exact mZ hrun (hn φ w v' hr (Stp.refl _ _ _) (fun u hu=>by cases hu;exact hv))
 by_cases hm:gC o.op=true
 .obtain⟨v,v',ob',ob,l,rfl,rfl,hl,hrun,hv,ho⟩:=FD (w:=w) hcx hg ht hm h hr.fresh_id;obtain⟨g1,g2⟩:=Bu (P:=P) h0 (n:=st.m.nx+1) (f:=st.m.fl) hr.fresh_id hl ho hr.fl rfl (by omega) (gQ4 _);exact mZ hrun (hn _ _ v' ⟨g1,nj hr.fresh,by have:=hr.fl;show st.m.fl<=st.m.nx+1;omega⟩ g2 (fun u hu=>by cases hu;exact hv))
 have unit:∀{r:Option Mem} {s:Sem Unit},(match r with|some m=>some ((none:Option Value),m)|none=>none)=some (ov,m')->
   (∀m1,r=some m1->∃w',s.run P w = .ok () w'/\R0 P φ m1 w'/\Stp φ st.m w φ m1 w'/\m1.nx=st.m.nx)->execOp a.eval o=(do s;pure .skip)->o.wp P a w next Q:=by
  intro r s hr1 hs he;cases r with
  | none=>cases hr1
  | some m1=>
   simp only[gQ7,Prod.mk.injEq]at hr1;obtain⟨rfl,rfl⟩:=hr1;obtain⟨w',g1,g2,g3,g4⟩:=hs _ rfl;exact MJ (by rw[he];simp[g1]) (hn φ w' undef (hr.same g2 g4 g3.fl) g3 (fun u hu=>by cases hu))
 have val:∀{r:Out Value} {s:Sem Value},(match r with|some (x,m)=>some (some x,m)|none=>none)=some (ov,m')->
   (∀v m1,r=some (v,m1)->∃v' w',s.run P w = .ok v' w'/\VR φ v v'/\R0 P φ m1 w'/\Stp φ st.m w φ m1 w'/\m1.nx=st.m.nx)->execOp a.eval o=(do pure (.value (<-s)))->o.wp P a w next Q:=by
  intro r s hr1 hs he;cases r with
  | none=>cases hr1
  | some p=>
   obtain⟨v,m1⟩:=p;simp only[gQ7,Prod.mk.injEq]at hr1;obtain⟨rfl,rfl⟩:=hr1;obtain⟨v',w',g1,g2,g3,g4,g5⟩:=hs _ _ rfl;exact mZ (by rw[he];simp[g1]) (hn φ w' v' (hr.same g3 g5 g4.fl) g4 (fun u hu=>by cases hu;exact g2))
 cases hop:o.op<;>simp only[hop,fD,gC]at hk hm<;>try (first|omega|(exact absurd rfl hm)|(exact absurd trivial hm))
 case store t x y=>
  simp only[dh,hop]at h;split at h
  .rename_i p vy hx hy;exact unit (s:=Instr.storeAt t (a.eval x) (a.eval y)) h (fun m1 hm1=>Mm hcx h0 hm1 (dD hcx hg ht hx) (dD hcx hg ht hy)) (by simp[execOp,hop])
  .cases h
 case insert t x k y=>
  simp only[dh,hop]at h;split at h
  .rename_i vx vk vy hx hk' hy;exact unit (s:=Instr.mapUpdate t (a.eval x) (a.eval k) (a.eval y)) h (fun m1 hm1=>yA hcx h0 hm1 (dD hcx hg ht hx) (dD hcx hg ht hk') (dD hcx hg ht hy)) (by simp[execOp,hop])
  .cases h
 case mapUpdate t x k y=>
  simp only[dh,hop]at h;split at h
  .rename_i vx vk vy hx hk' hy;exact unit (s:=Instr.mapUpdate t (a.eval x) (a.eval k) (a.eval y)) h (fun m1 hm1=>yA hcx h0 hm1 (dD hcx hg ht hx) (dD hcx hg ht hk') (dD hcx hg ht hy)) (by simp[execOp,hop])
  .cases h
 case mapEntry t x k=>
  simp only[dh,hop]at h;split at h
  .rename_i vx vk hx hk';exact val (s:=Instr.mapEntry t (a.eval x) (a.eval k)) h (fun v m1 hm1=>Hr hcx h0 hm1 (dD hcx hg ht hx) (dD hcx hg ht hk')) (by simp[execOp,hop])
  .cases h
 case entryStore t x s y=>
  simp only[dh,hop]at h;split at h
  .rename_i vx vs vy hx hs hy;exact unit (s:=Instr.entryStore t (a.eval x) (a.eval s) (a.eval y)) h (fun m1 hm1=>EV h0 hm1 (dD hcx hg ht hx) (dD hcx hg ht hs) (dD hcx hg ht hy)) (by simp[execOp,hop])
  .cases h
 case call c=>
  simp only[dh,hop]at h;cases hc:gq cx call st c with
  | none=>rw[hc]at h;cases h
  | some p=>
   rw[hc]at h;obtain⟨v,m1⟩:=p;simp only[gQ7,Prod.mk.injEq]at h;obtain⟨rfl,rfl⟩:=h;obtain⟨callee,args,ats⟩:=c;simp only[gq]at hc;split at hc
   .cases hc
   .rename_i l hl;have hlr:=tA hcx hg ht hl;rw[<-Array.toList_map]at hlr;have enter:∀{k:FuncId} {asZ:List Value} {as':Array Value},call k asZ st.m=some (v,m1)->LR φ asZ as'.toList->(execOp a.eval o).run P w=(callFunc k as').run P w->o.wp P a w next Q:=by
     intro k asZ as' hk' hla hrun;rcases hcall _ _ _ _ _ hk' φ w as' hla hr with⟨q1,hC⟩|⟨v',w',q1,v'',φ',hv,g1,g2,g3⟩
     .refine MK (hrun.trans q1) hC ?_;rintro e w' ⟨v',φ',rfl,g1,g2,g3⟩;exact⟨v',rfl,hn φ' w' v' g2 g3 (fun u hu=>by cases hu;exact g1)⟩
     .cases hv;exact mZ (hrun.trans q1) (hn φ' w' v' g2 g3 (fun u hu=>by cases hu;exact g1))
    cases callee with
    | value f=>
     dsimp only at hc;split at hc
     .rename_i k first captured hf;have h1:=dD hcx hg ht hf;obtain⟨f',c',hq,hf1,hf2⟩:∃f' c',a.eval f = .func (.func k) f' c'/\LR φ first.toList f'.toList/\LR φ captured.toList c'.toList:=by
       generalize a.eval f=q at h1;cases h1 with
       | func fn f f' c c' a1 a2 a3 a4=>exact⟨_,_,rfl,⟨a1,a2⟩,⟨a3,a4⟩⟩
      refine enter (as':=(f'++args.map a.eval)++c') hc ?_ ?_
      .simp only[Array.toList_append];exact(hf1.append hlr).append hf2
      .simp only[execOp,hop,resolve,hq,Deferred.ofValue,Sem.run_bind,Sem.run_pure,Result.andThen_ok,invoke]
     .cases hc
    | invoke x name=>
     dsimp only at hc;split at hc
     .rename_i t vv hx;have h1:=dD hcx hg ht hx;obtain⟨vv',hq,hvv⟩:∃vv',a.eval x = .iface t vv'/\VR φ vv vv':=by
       generalize a.eval x=q at h1;cases h1 with
       | iface _ _ v' hv=>exact⟨_,rfl,hv⟩
      split at hc
      .rename_i k r hmt;obtain⟨n,hnn⟩:∃n,P.types.size+Made.depth=n+1:=⟨P.types.size+Made.depth-1,by have:0<Made.depth:=(by decide);omega⟩;obtain⟨r',g1,g2⟩:=KW (P:=P) (w:=w) hcx hmt hvv n;refine enter (as':=#[r']++args.map a.eval) hc ?_ ?_
       .rw[Array.toList_append];exact hlr.cons g2
       .have he:(#[a.eval x]++args.map a.eval)[0]? = some (a.eval x):=Ja _ _;have he2:(#[a.eval x]++args.map a.eval).extract 1 (#[a.eval x]++args.map a.eval).size=args.map a.eval:=KV _ _;rw[hq]at he he2;simp only[execOp,hop,resolve,Sem.run_bind,Sem.run_pure,Result.andThen_ok,invoke,hq,he,he2,callMethod,run_program,hnn,g1]
      .cases hc
     .cases hc
    | builtin bi=>
     dsimp only at hc;have bval:∀{s:Sem Value},(∃v' w',s.run P w = .ok v' w'/\VR φ v v'/\R0 P φ m1 w'/\Stp φ st.m w φ m1 w'/\m1.nx=st.m.nx)->execOp a.eval o=(do pure (.value (<-s)))->o.wp P a w next Q:=by
      rintro s ⟨v',w',g1,g2,g3,g4,g5⟩ he;exact mZ (by rw[he];simp[g1]) (hn φ w' v' (hr.same g3 g5 g4.fl) g4 (fun u hu=>by cases hu;exact g2))
     cases bi<;>simp only[ge,reduceCtorEq]at hc hk<;>try (first|omega|(cases hc;done))
     case append=>
      obtain⟨v',w',φ',g1,g2,g3,g4⟩:=Kn (ty:=o.type) hcx hr hc hlr;exact mZ (by simp[execOp,hop,resolve,invoke,builtin,g1]) (hn φ' w' v' g3 g4 (fun u hu=>by cases hu;exact g2))
     case copy=>exact bval (s:=Builtin.copy_ ats o.type (args.map a.eval)) (Oi hcx h0 hc hlr) (by simp[execOp,hop,resolve,invoke,builtin])
     case clear=>exact bval (s:=Builtin.clear_ ats o.type (args.map a.eval)) (Mn hcx h0 hc hlr) (by simp[execOp,hop,resolve,invoke,builtin])
     case delete=>
      split at hc
      .rename_i t r x k hts;split at hc
       .rename_i m2 hd;simp only[gQ7,Prod.mk.injEq]at hc;obtain⟨rfl,rfl⟩:=hc;have ht0:ats[0]? = some t:=by rw[<-Array.getElem?_toList,hts];rfl
        obtain⟨w',g1,g2,g3,g4⟩:=Kl (ty:=o.type) hcx h0 ht0 hd hlr;exact bval (s:=Builtin.delete_ ats o.type (args.map a.eval)) ⟨_,w',g1,.tuple _ _ rfl (LR.nil φ).2,g2,g3,g4⟩ (by simp[execOp,hop,resolve,invoke,builtin])
       .cases hc
      .cases hc
 case binOp op t x y yt=>
  exfalso;cases op<;>simp at hk
 case makeMap t r=>
  cases r with
  | none=>exact absurd rfl hm
  | some r=>simp only[dh,hop,reduceCtorEq]at h
 all_goals (simp only[dh,hop,reduceCtorEq]at h)
omit [Kap]in
theorem tg(a:Act)(d:Option Tmp)(v:Value):(a.put d v).tmps.size=a.tmps.size:=by
 cases d<;>simp[Act.put]
omit [Kap]in
theorem pA(a:Act)(d t:Nat)(v:Value)(hd:d<a.tmps.size):(a.put (some d) v).tmps.getD t undef=if t=d then v else a.tmps.getD t undef:=by
 simp only[Act.put,Array.getD_eq_getD_getElem?,Array.getElem?_setIfInBounds];by_cases h:d=t
 .subst h;simp[hd]
 .rw[if_neg h,if_neg (Ne.symm h)]
omit [Kap]in
theorem yO{φ':cV}{st st':St}{a:Act}{dst:Option Tmp}{ov:Option Value}{m':Mem}(he:Ext φ φ')(ht:TR φ st a)(h:gu st dst ov m'=some st'){v':Value}(hv:∀v,ov=some v->VR φ' v v') :
  TR φ' st' (a.put dst v')/\st'.m=m'/\st'.sz=st.sz:=by
 have h2:∀(t:Nat) (v:Value),st.tm.get t=some v->VR φ' v (a.tmps.getD t undef):=fun t v g=>(ht.2.2 t v g).mono he
 cases dst with
 | none=>
  simp only[gu,gQ7]at h;subst h;exact⟨⟨ht.1,ht.2.1,h2⟩,rfl,rfl⟩
 | some d=>
  simp only[gu]at h;split at h
  .rename_i hd;have hd':d<st.sz:=gQ6 hd;have hda:d<a.tmps.size:=by rw[ht.1];exact hd'
   have hdf:(a.put (some d) v').defers=[]:=ht.2.1;cases ov with
   | some x=>
    simp only[gQ7]at h;subst h;refine⟨⟨by rw[tg];exact ht.1,hdf,fun t v g=>?_⟩,rfl,rfl⟩;rw[Tr.get_put]at g;rw[pA a d t v' hda];by_cases e:t=d
    .rw[if_pos e]at g ⊢;cases g;exact hv x rfl
    .rw[if_neg e]at g ⊢;exact h2 t v g
   | none=>
    simp only[gQ7]at h;subst h;refine⟨⟨by rw[tg];exact ht.1,hdf,fun t v g=>?_⟩,rfl,rfl⟩;rw[Tr.get_del]at g;rw[pA a d t v' hda];by_cases e:t=d
    .rw[if_pos e]at g;cases g
    .rw[if_neg e]at g ⊢;exact h2 t v g
  .cases h
omit [Kap]in
theorem getD_some{xs:Array Value}{d:Nat}{v:Value}(h:xs.getD d undef=v)(hne:v≠undef):xs[d]? = some v:=by
 rw[Array.getD_eq_getD_getElem?]at h;cases hx:xs[d]? with
 | none=>rw[hx]at h;exact absurd h.symm hne
 | some u=>rw[hx]at h;simp at h;rw[h]
omit [Kap]in
theorem ye{ops:Array Oper}{st:St}{a:Act}(ht:TR φ st a){o:Oper}{b:Bool}(h:fa ops.toList st o=some b):Region.wanted o (yielded ops a.tmps)=b:=by
 unfold fa at h;unfold Region.wanted;split at h
 .rename_i hg;simp only[gQ7]at h;subst h;simp[hg]
 .rename_i j want hg;simp only[hg];split at h
  .rename_i g hj;have hj':ops[j]? = some g:=by simpa using hj
   split at h
   .rename_i d hd;split at h
    .rename_i c hc;simp only[gQ7]at h;subst h;have hv:=ht.2.2 d _ hc;have hq:a.tmps.getD d undef = .bool c:=by
      generalize a.tmps.getD d undef=q at hv;cases hv;rfl
     have hs:=getD_some hq (by simp[undef]);simp only[yielded,hj',Option.bind_some,hd,hs];cases c<;>cases want<;>rfl
    .rename_i c hne hc;simp only[gQ7]at h;subst h;have hv:=ht.2.2 d _ hc;have hnb:∀q,a.tmps.getD d undef≠.bool q:=by
      intro q e;rw[e]at hv;cases hv;exact hne _ rfl
     have hy:yielded ops a.tmps j=none:=by
      unfold yielded;simp only[hj',Option.bind_some,hd];cases hx:a.tmps[d]? with
      | none=>rfl
      | some u=>
       cases u with
       | bool q=>exact(hnb q (by rw[Array.getD_eq_getD_getElem?,hx];rfl)).elim
       | _=>rfl
     rw[hy];rfl
    .cases h
   .cases h
  .cases h
theorem Gw(hcx:CxOk P cx){call:dB}(hcall:tj P call){ops:Array Oper}{Q:Exit->Act->World->Prop} :
  ∀(l:List Oper) (k:Nat) (φ : cV) (w:World) (st:St) (a:Act) (st':St),(∀j,l[j]? = ops[k+j]?)->k+l.length=ops.size->RR P φ st.m w->TR φ st a->gD cx call ops.toList l st=some st'->
   (∀φ' a' w',RR P φ' st'.m w'->TR φ' st' a'->Stp φ st.m w φ' st'.m w'->st'.sz=st.sz->Q .normal a' w')->wpOps P ops Q (List.range' k l.length) a w
 | [],k,φ,w,st,a,st',hl,hk,hr,ht,h,hq=>by
  simp only[gD,gQ7]at h;subst h;exact hq φ a w hr ht (Stp.refl _ _ _) rfl
 | o::r,k,φ,w,st,a,st',hl,hk,hr,ht,h,hq=>by
  have ho:ops[k]? = some o:=by have:=hl 0;simpa using this.symm
  have hl':∀j,r[j]? = ops[k+1+j]?:=fun j=>by have:=hl (j+1);rw[show k+1+j=k+(j+1) by omega,<-this];simp
  have hk':k+1+r.length=ops.size:=by simp at hk;omega
  rw[List.length_cons,List.range'_succ];simp only[wpOps,ho];simp only[gD]at h;split at h
  .rename_i hw;rw[ye ht hw];simp only[if_true];split at h
   .rename_i ov m1 hop;split at h
    .rename_i st1 hput;left;refine NO hcx hcall ht hr hop ?_;intro φ1 w1 v1 hr1 hs1 hv1;obtain⟨ht1,hm1,hz1⟩:=yO hs1.ext ht hput hv1;refine Gw hcx hcall r (k+1) φ1 w1 st1 _ st' hl' hk' (by rw[hm1];exact hr1) ht1 h ?_;intro φ' a' w' g1 g2 g3 g4;exact hq φ' a' w' g1 g2 (hs1.trans (by rw[hm1]at g3;exact g3)) (by rw[g4,hz1])
    .cases h
   .cases h
  .rename_i hw;rw[ye ht hw];simp only[Bool.false_eq_true,if_false];split at h
   .rename_i st1 hput;obtain⟨ht1,hm1,hz1⟩:=yO (fun _ _ h=>h) ht hput (v':=undef) (fun v hv=>by cases hv;exact .tuple _ _ rfl (LR.nil φ).2);refine Gw hcx hcall r (k+1) φ w st1 _ st' hl' hk' (by rw[hm1];exact hr) ht1 h ?_;intro φ' a' w' g1 g2 g3 g4;exact hq φ' a' w' g1 g2 (by rw[hm1]at g3;exact g3) (by rw[g4,hz1])
   .cases h
  .cases h
end Go.AX
