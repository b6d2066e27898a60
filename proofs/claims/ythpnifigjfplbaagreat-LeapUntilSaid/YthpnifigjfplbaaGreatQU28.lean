import Derived.Test.YthpnifigjfplbaaGreatQU23
import Derived.Test.YthpnifigjfplbaaGreatQU17
import Derived.Laws.StandIn
set_option linter.unusedVariables false
set_option linter.unusedSectionVars false
set_option linter.unusedSimpArgs false
namespace Go.AX
open Go
variable [Kap]
omit [Kap]in
theorem VR.slice_some{φ : cV}{a:Addr}{n c:Nat}{v':Value}(h:VR φ (.slice (some a) n c) v') :
  (∃l c',a.spot=none/\φ a.block=some l/\CapR l a.off c c'/\v' = .slice (some ⟨l.rb,l.ro+a.off,none⟩) n c')∨(n=0/\c=0/\∃a',v' = .slice (some a') 0 0):=by
 cases h with
 | sl b off len cap cap' l h hc=>exact .inl ⟨l,cap',rfl,h,hc,rfl⟩
 | slE a a'=>exact .inr ⟨rfl,rfl,a',rfl⟩
section
variable {P:Program} {φ : cV} {m:Mem} {w w':World}
theorem Pp{k:FuncId}{fn:Func}{t tb e s:TypeId}(hf:P.funcs[k]? = some fn)(hn:(fn.name == "runtime.NumGoroutine")=false)(hb:fn.body.isNone=true)(hx:Extern.findNext fn=none)
  (he:Extern.find fn=some (Extern.SlicesOverlaps.overlaps #[t,t] #[tb])) (ht:P.underlying t=some (.slice e)) (hz:∀w,(Go.sizeOf e).run P w = .ok s w):jZ P k oW:=by
 intro args m v m' h φ w args' hl hr;unfold oW at h;split at h
 .rename_i a n c b n' c';split at h
  .rename_i h1 h2;split at h
   .rename_i g1 g2 g3 g4;cases h;obtain⟨x1,r1,e1,q1,hl⟩:=hl.one;obtain⟨x2,r2,e2,q2,hl⟩:=hl.one;rw[hl.none]at e2;rw[e2]at e1;obtain⟨l'⟩:=args';simp only at e1;subst e1;refine .inr ⟨.bool false,w,?_,_,φ,rfl,.bool _,hr,Stp.refl _ _ _⟩;rw[run_callFunc_extern hf hn hb hx he];simp only[Bool.and_eq_true]at g2;rcases q1.slice_some with⟨la,ca',sa,pa,_,rfl⟩|⟨rfl,rfl,a',rfl⟩
    .rcases q2.slice_some with⟨lb,cb',sb,pb,_,rfl⟩|⟨rfl,rfl,a',rfl⟩
     ·
      obtain⟨ba,oa,spa⟩:=a;obtain⟨bb,ob,spb⟩:=b;simp only at h1 h2 g1 g2 g3 g4 sa sb pa pb;have live:∀{b:Nat} {l:Loc},gQ m b=true->φ b=some l->∃(c':Array Value) (e:TypeId),w.heap[l.rb]? = some (.cells c' e (0,0))/\∃c n x y,m.hp.get b=some (.cells c n x y)/\n<=c'.size:=by
       intro b l hc hp;unfold gQ at hc;split at hc
       .rename_i c n x y hg;obtain⟨l',hl',ho⟩:=hr.r0.obj _ _ hg;rw[hp]at hl';cases hl';obtain⟨c',w1,w2,w3,w4,_⟩:=ho;exact⟨c',_,w1,c,n,x,y,hg,by omega⟩
       .cases hc
      obtain⟨cA,eA,wa,_,_,_,_,ga,_⟩:=live g2.1.1 pa;obtain⟨cB,eB,wb,cb,nb,_,_,gb,hnb⟩:=live g3 pb;have hne:la.rb≠lb.rb:=fun e=>by
       have:=hr.r0.inj _ _ _ _ _ _ ga gb pa pb e;rw[this,Tr.beq_true.2 rfl]at g1;cases g1
      have hnb0:0<nb:=by
       rw[gb]at g4;exact gQ6 g4
      rw[Lib.run_overlaps_apart w t tb e ht s hz ⟨la.rb,la.ro+oa,none⟩ ⟨lb.rb,lb.ro+ob,none⟩ _ _ _ _ (by exact hne) eA eB cA.size cB.size ?_ ?_ (by omega) ?_ ?_]
      .rfl
      .show w.shape? la.rb=_;unfold World.shape?;rw[wa]
      .show w.shape? lb.rb=_;unfold World.shape?;rw[wb]
      .unfold World.frozen?;show (match w.heap[la.rb]? with|some (.cells _ _ (lo,hi))=>_|_=>_)=_;rw[wa];simp
      .unfold World.frozen?;show (match w.heap[la.rb]? with|some (.cells _ _ (lo,hi))=>_|_=>_)=_;rw[wa];simp
     .exact absurd g2.2 (by decide)
    .exact absurd g2.1.2 (by decide)
   .cases h
  .cases h
 .cases h
noncomputable def uG(m:Mem)(b off N2:Nat)(l:List Value)(e:TypeId):Mem:=
 { hp:=(m.hp.del b).put m.nx (.cells (ec .nil l off) N2 e false),nx:=m.nx+1,fl:=m.nx }
omit [Kap]in
theorem ru(m:Mem)(b off N2:Nat)(l:List Value)(e:TypeId)(b':Nat):(uG m b off N2 l e).hp.get b'=if b'=m.nx then some (.cells (ec .nil l off) N2 e false) else if b'=b then none else m.hp.get b':=by
 show ((m.hp.del b).put m.nx _).get b'=_;rw[Tr.get_put,Tr.get_del]
omit [Kap]in
theorem Od(hr:RR P φ m w){b off N N2:Nat}{c:Tr Value}{e:TypeId}{l:List Value}{lc:Loc}(hg:m.hp.get b=some (.cells c N e true))(hp:φ b=some lc)(hN:off+l.length<=N)(hc:∀i,i<l.length->c.get (off+i)=l[i]?)
  (h2:N2<=lc.re):RR P (cV.put φ m.nx ⟨lc.rb,lc.ro,N2,N2,0⟩) (uG m b off N2 l e) w:=by
 have hid:=hr.fresh_id;have h0:=hr.r0;have hext:=cV.put_ext (l:=⟨lc.rb,lc.ro,N2,N2,0⟩) hid;obtain⟨lc',hp',ho⟩:=h0.obj _ _ hg;rw[hp]at hp';cases hp';obtain⟨c',q1,q2,q3,q4,q5,q6,q7⟩:=ho;refine⟨⟨?_,?_,?_⟩,nj hr.fresh,Nat.le_succ _⟩
 .intro b' o' hb';rw[ru]at hb';by_cases e1:b'=m.nx
  .subst e1;rw[if_pos rfl]at hb';cases hb';refine⟨_,cV.put_self,c',q1,rfl,gQ4 _,by simp only;omega,fun i hi=>?_,fun _=>⟨rfl,rfl⟩,(fun h=>by cases h)⟩;simp only;have hi':lc.ro+i<c'.size:=by omega
   refine⟨c'[lc.ro+i],by simp[hi'],fun v hv=>?_⟩;rw[kN]at hv;split at hv
   .rename_i hh;have h1:=hc (i-off) (by omega);rw[show off+(i-off)=i by omega,hv]at h1;obtain⟨v',a1,a2⟩:=q5 i (by omega);have:=a2 v h1;rw[Array.getElem?_eq_getElem hi']at a1;cases a1;exact this.mono hext
   .rw[Tr.get_nil]at hv;cases hv
  .rw[if_neg e1]at hb';by_cases e2:b'=b
   .rw[if_pos e2]at hb';cases hb'
   .rw[if_neg e2]at hb';obtain⟨l',hl',ho'⟩:=h0.obj _ _ hb';exact⟨l',hext _ _ hl',ho'.mono hext rfl⟩
 .intro b1 b2 o1 o2 l1 l2 h1 h2 p1 p2 hrb;rw[ru]at h1 h2;have key:∀b' o' l',b'≠m.nx->(if b'=b then none else m.hp.get b')=some o'->cV.put φ m.nx ⟨lc.rb,lc.ro,N2,N2,0⟩ b'=some l'->φ b'=some l'/\b'≠b/\m.hp.get b'=some o':=by
   intro b' o' l' hb hgg hpp;have hp':φ b'=some l':=by simpa [cV.put,hb]using hpp
   by_cases e2:b'=b
   .rw[if_pos e2]at hgg;cases hgg
   .rw[if_neg e2]at hgg;exact⟨hp',e2,hgg⟩
  by_cases e1:b1=m.nx
  .by_cases e2:b2=m.nx
   .rw[e1,e2]
   .rw[if_neg e2]at h2;obtain⟨k1,k2,k3⟩:=key b2 _ _ e2 h2 p2;subst e1;rw[cV.put_self]at p1;cases p1;exact absurd (h0.inj _ _ _ _ _ _ k3 hg k1 hp hrb.symm) k2
  .rw[if_neg e1]at h1;obtain⟨k1,k2,k3⟩:=key b1 _ _ e1 h1 p1;by_cases e2:b2=m.nx
   .subst e2;rw[cV.put_self]at p2;cases p2;exact absurd (h0.inj _ _ _ _ _ _ k3 hg k1 hp hrb) k2
   .rw[if_neg e2]at h2;obtain⟨j1,j2,j3⟩:=key b2 _ _ e2 h2 p2;exact h0.inj _ _ _ _ _ _ k3 j3 k1 j1 hrb
 .intro g hgl;obtain⟨l',h1,h2⟩:=h0.glob g hgl;exact⟨l',hext _ _ h1,h2⟩
omit [Kap]in
theorem VR.low{φ φ2:cV}{nx:Nat}(hk:∀b,b<nx->φ2 b = φ b){v v':Value}(hl:qH nx v=true)(h:VR φ2 v v'):VR φ v v':=by
 cases h with
 | bool b=>exact .bool b
 | int k n=>exact .int k n
 | string s=>exact .string s
 | ptr0=>exact .ptr0
 | ptr b off l hb=>exact .ptr b off l (by rw[<-hk b (gQ6 hl)];exact hb)
 | sl0 len cap=>exact .sl0 len cap
 | sl b off len cap cap' l hb hc=>exact .sl b off len cap cap' l (by rw[<-hk b (gQ6 hl)];exact hb) hc
 | slE a a'=>exact .slE a a'
 | map0=>exact .map0
 | nilFunc=>exact .nilFunc
 | nilIface=>exact .nilIface
 | map r l hb=>exact absurd hl (by simp[qH,AX.plain1])
 | func fn f f' c c' _ _ _ _=>exact absurd hl (by simp[qH,AX.plain1])
 | iface t v v' _=>exact absurd hl (by simp[qH,AX.plain1])
 | agg c c' _ _=>exact absurd hl (by simp[qH,AX.plain1])
 | tuple c c' _ _=>exact absurd hl (by simp[qH,AX.plain1])
theorem Me(hr:RR P φ m w){b off N N2:Nat}{c:Tr Value}{e:TypeId}{l:List Value}{lc:Loc}(hg:m.hp.get b=some (.cells c N e true))(hp:φ b=some lc)(hfb:m.fl<=b)
  {φ':cV} {u:Mem} (hr':RR P φ' u w') (hs:Stp (cV.put φ m.nx ⟨lc.rb,lc.ro,N2,N2,0⟩) (uG m b off N2 l e) w φ' u w')
  {q o2 N3 n capR:Nat} {x:Bool} {f:Nat->Option Value} {l3:Loc} {res:List Value} (hq:m.nx<=q) (hcq:ni u q N3 e x f) (hl3:φ' q=some l3) (hroom:o2+capR*lc.s<=l3.re) (hcap:n<=capR) (hres:res.length=n*lc.s) (hget:∀j,j<res.length->f (o2+j)=res[j]?) (hN3:o2+n*lc.s<=N3)
  (hlow:res.all (qH m.nx)=true) (hsp:0<lc.s) :
  RR P (cV.put φ m.nx ⟨l3.rb,l3.ro+o2,res.length,capR*lc.s,lc.s⟩) (gd { m with hp:=m.hp.del b } res e true).2 w'/\
   Stp φ m w (cV.put φ m.nx ⟨l3.rb,l3.ro+o2,res.length,capR*lc.s,lc.s⟩) (gd { m with hp:=m.hp.del b } res e true).2 w':=by
 have hid:=hr.fresh_id;have h0:=hr.r0;have hfl:=hr.fl;have hext:=cV.put_ext (l:=⟨l3.rb,l3.ro+o2,res.length,capR*lc.s,lc.s⟩) hid;obtain⟨lc',hp',ho⟩:=h0.obj _ _ hg;rw[hp]at hp';cases hp';have hlt:=ho.lt;obtain⟨c0,_,_,_,_,_,_,q7⟩:=ho;obtain⟨cc,hcc,hcf⟩:=hcq;obtain⟨l3',p3,o3⟩:=hr'.r0.obj _ _ hcc;rw[hl3]at p3;cases p3;obtain⟨c',r1,r2,r3,r4,r5,r6,r7⟩:=o3;have hkeep:∀b',b'<m.nx->φ' b' = φ b':=fun b' hb'=>by
  rw[hs.keep b' (by show b'<m.nx+1;omega)];simp only[cV.put];rw[if_neg (by omega)]
 have own1:∀r,Owned (cV.put φ m.nx ⟨lc.rb,lc.ro,N2,N2,0⟩) (uG m b off N2 l e) r->r=lc.rb:=by
  rintro r ⟨b',o',l',h1,h2,h3,h4⟩;have h1:m.nx<=b':=h1;rw[ru]at h2;by_cases e1:b'=m.nx
  .subst e1;rw[cV.put_self]at h3;cases h3;exact h4.symm
  .rw[if_neg e1]at h2;have:φ b'=some l':=by simpa [cV.put,e1]using h3
   rw[hr.fresh b' h1]at this;cases this
 have same1:∀r,r<w.heap.size->r≠lc.rb->w'.heap[r]? = w.heap[r]?:=fun r h1 h2=>hs.same r h1 (fun ho=>h2 (own1 r ho))
 have new1:w.heap.size<=l3.rb∨l3.rb=lc.rb:=by
  rcases hs.own l3.rb ⟨q,_,l3,by rw[hs.fl];exact hq,hcc,hl3,rfl⟩with h|h
  .exact .inl h
  .exact .inr (own1 _ h)
 have gget:∀b',(gd { m with hp:=m.hp.del b } res e true).2.hp.get b'=if b'=m.nx then some (.cells (ec .nil res 0) res.length e true) else if b'=b then none else m.hp.get b':=by
  intro b';show ((m.hp.del b).put m.nx _).get b'=_;rw[Tr.get_put,Tr.get_del]
 have old1:∀b' o',b'≠b->m.hp.get b'=some o'->∀l',φ b'=some l'->w'.heap[l'.rb]? = w.heap[l'.rb]?/\l'.rb≠l3.rb:=by
  intro b' o' hb hgg l' hl';obtain⟨l'',hl'',ho''⟩:=h0.obj _ _ hgg;rw[hl']at hl'';cases hl'';have hne:l'.rb≠lc.rb:=fun e=>hb (h0.inj _ _ _ _ _ _ hgg hg hl' hp e)
  refine⟨same1 _ ho''.lt hne,fun e=>?_⟩;rcases new1 with h|h
  .have:=ho''.lt;omega
  .exact hne (e.trans h)
 refine⟨⟨⟨?_,?_,?_⟩,nj hr.fresh,Nat.le_succ_of_le hr.fl⟩,⟨hext,?_,?_,hs.size,hs.os,hs.tape,hs.output,Nat.le_succ _,rfl,?_,?_,?_,hs.drawn⟩⟩
 .intro b' o' hb';rw[gget]at hb';by_cases e1:b'=m.nx
  .subst e1;rw[if_pos rfl]at hb';cases hb';have hcs:n*lc.s<=capR*lc.s:=Nat.mul_le_mul_right _ hcap;refine⟨_,cV.put_self,c',r1,rfl,by simp only;omega,by simp only;omega,fun i hi=>?_,(fun h=>by cases h),fun _=>⟨hsp,(q7 rfl).2⟩⟩;have hge:=hget i hi;obtain⟨v',a1,a2⟩:=r5 (o2+i) (by omega);have hri:res[i]? = some (res[i]):=gQ2 hi;refine lP (v:=res[i]) (v':=v') ?_ ?_ ?_
   .rw[kN,if_pos ⟨by omega,by omega⟩];simp[hi]
   .simp only;rw[Nat.add_assoc];exact a1
   .have h5:=a2 res[i] (by rw[hcf,hge,hri]);exact(VR.low hkeep (List.all_eq_true.1 hlow _ (List.getElem_mem hi)) h5).mono hext
  .rw[if_neg e1]at hb';by_cases e2:b'=b
   .rw[if_pos e2]at hb';cases hb'
   .rw[if_neg e2]at hb';obtain⟨l',hl',ho'⟩:=h0.obj _ _ hb';exact⟨l',hext _ _ hl',ho'.mono hext (old1 _ _ e2 hb' _ hl').1⟩
 .intro b1 b2 u1 u2 l1 l2 h1 h2 p1 p2 hrb;rw[gget]at h1 h2;have key:∀b' o' l',b'≠m.nx->(if b'=b then none else m.hp.get b')=some o'->cV.put φ m.nx ⟨l3.rb,l3.ro+o2,res.length,capR*lc.s,lc.s⟩ b'=some l'->φ b'=some l'/\b'≠b/\m.hp.get b'=some o':=by
   intro b' o' l' hb hgg hpp;have hp':φ b'=some l':=by simpa [cV.put,hb]using hpp
   by_cases e2:b'=b
   .rw[if_pos e2]at hgg;cases hgg
   .rw[if_neg e2]at hgg;exact⟨hp',e2,hgg⟩
  by_cases e1:b1=m.nx
  .by_cases e2:b2=m.nx
   .rw[e1,e2]
   .rw[if_neg e2]at h2;obtain⟨k1,k2,k3⟩:=key b2 _ _ e2 h2 p2;subst e1;rw[cV.put_self]at p1;cases p1;exact absurd hrb.symm (old1 _ _ k2 k3 _ k1).2
  .rw[if_neg e1]at h1;obtain⟨k1,k2,k3⟩:=key b1 _ _ e1 h1 p1;by_cases e2:b2=m.nx
   .subst e2;rw[cV.put_self]at p2;cases p2;exact absurd hrb (old1 _ _ k2 k3 _ k1).2
   .rw[if_neg e2]at h2;obtain⟨j1,j2,j3⟩:=key b2 _ _ e2 h2 p2;exact h0.inj _ _ _ _ _ _ k3 j3 k1 j1 hrb
 .intro g hgl;obtain⟨l',h1,h2⟩:=h0.glob g hgl;exact⟨l',hext _ _ h1,h2⟩
 .rintro r ⟨b',o',l',hfb',hb',hpp,hrr⟩;rw[gget]at hb';by_cases e1:b'=m.nx
  .subst e1;rw[cV.put_self]at hpp;cases hpp;simp only at hrr;rcases new1 with h|h
   .left;omega
   .right;exact⟨b,_,lc,hfb,hg,hp,by omega⟩
  .rw[if_neg e1]at hb';by_cases e2:b'=b
   .rw[if_pos e2]at hb';cases hb'
   .rw[if_neg e2]at hb';have hp':φ b'=some l':=by simpa [cV.put,e1]using hpp
    exact .inr ⟨b',o',l',hfb',hb',hp',hrr⟩
 .intro r hr1 hno;exact same1 r hr1 (fun e=>hno ⟨b,_,lc,hfb,hg,hp,e.symm⟩)
 .intro b' hb';rw[gget,if_neg (by omega),if_neg (by omega)]
 .intro b' hb' hnn;rw[gget,if_neg (by omega)];split
  .rfl
  .exact hnn
 .intro b' hb';simp only[cV.put];rw[if_neg (by omega)]
omit [Kap]in
theorem RR.wf(hr:RR P φ m w):Wf m:=⟨hr.fl,fun b hb=>by
 cases hg:m.hp.get b with
 | none=>rfl
 | some o=>
  obtain⟨l,hl,_⟩:=hr.r0.obj _ _ hg;rw[hr.fresh b hb]at hl;cases hl⟩
omit [Kap]in
theorem RR.forget{E:Nat->Option AObj}{u:Mem}(hr:RR P φ m w)(hb:Bes E u m):RR P φ u w:=
 ⟨⟨fun b o h=>hr.r0.obj b o (hb.got h),fun b1 b2 o1 o2 l1 l2 h1 h2=>hr.r0.inj b1 b2 o1 o2 l1 l2 (hb.got h1) (hb.got h2),hr.r0.glob⟩,by rw[<-hb.nx];exact hr.fresh,by rw[<-hb.nx,<-hb.fl];exact hr.fl⟩
theorem Stp.forget{E:Nat->Option AObj}{φ':cV}{u m':Mem}(hs:Stp φ m w φ' m' w')(hb:Bes E u m')(hlo:∀b o,E b=some o->m.nx<=b)(hfl:m.fl<=m.nx):Stp φ m w φ' u w':=by
 have noE:∀b,b<m.nx->E b=none:=fun b h=>by
  cases he:E b with
  | none=>rfl
  | some o=>have:=hlo b o he;omega
 have same:∀b,b<m.nx->u.hp.get b=m'.hp.get b:=fun b h=>by rw[hb.get,noE b h]
 refine⟨hs.ext,?_,hs.same,hs.size,hs.os,hs.tape,hs.output,by rw[<-hb.nx];exact hs.nx,by rw[<-hb.fl];exact hs.fl,fun b h=>by rw[same b (by omega)];exact hs.low b h,fun b h hn=>by rw[same b h];exact hs.old b h hn,hs.keep,hs.drawn⟩;rintro r ⟨b,o,l,h1,h2,h3,h4⟩;exact hs.own r ⟨b,o,l,by rw[hb.fl];exact h1,hb.got h2,h3,h4⟩
theorem yo.mono{k:FuncId}{args':Array Value}{R R':Ending->World->Prop}(h:yo P k args' w R)(hm:∀e w',R e w'->R' e w'):yo P k args' w R':=by
 rcases h with⟨h1,h2⟩|⟨v',w',h1,h2⟩
 .exact .inl ⟨h1,h2.mono hm⟩
 .exact .inr ⟨v',w',h1,hm _ _ h2⟩
theorem ah.called{cx:Cx}(hcx:CxOk P cx)(hov:oX P cx)(jt:P.follows .mixedOrders=true){k:FuncId}{args:List Value}{Q:Value->Mem->Prop}(h:ah cx k args m Q)(hr:RR P φ m w){args':Array Value}(hl:LR φ args args'.toList) :
  yo P k args' w fun e w'=>∃v u v' φ',e = .returned v'/\VR φ' v v'/\RR P φ' u w'/\Stp φ m w φ' u w'/\Q v u:=by
 obtain⟨n,r,m',h1,E,u',h2,h3,h4,h5⟩:=h hr.wf;refine(DL hcx hov (CZ hcx hov jt n) k _ _ _ _ h1 φ w args' hl hr).mono ?_;rintro e w' ⟨v',φ',rfl,hv,hr',hs⟩;exact⟨r,u',v',φ',rfl,hv,hr'.forget h2,hs.forget h2 h4 hr.fl,h5⟩
noncomputable def Pq(cx:Cx)(t e sz by_ tint:Nat):Bool:=match cx.un.get t,cx.un.get tint,cx.ty.get e,fB cx e with
 | some (.slice e'),some (.int .i64),some i,some z=>Nat.beq e' e&&(Nat.beq i.size sz&&(Nat.blt 0 sz&&(Nat.beq (bQ z).length sz&&(Nat.beq i.bytes by_&&(bQ z).all one1))))
 | _,_,_,_=>false
omit [Kap]in
theorem EN{cx:Cx}{m m':Mem}{e:TypeId}{i:TypeInfo}{base:Option Addr}{len cap n:Nat}{new:List Value}{v:Value}(h:kh cx m e i base len cap n new=some (v,m')):∃a n c,v = .slice a n c:=by
 unfold kh at h;split at h
 .cases h
 .split at h
  .split at h
   .split at h
    .cases h;exact⟨_,_,_,rfl⟩
    .split at h
     .cases h;exact⟨_,_,_,rfl⟩
     .cases h
   .split at h
    .cases h;exact⟨_,_,_,rfl⟩
    .cases h
  .split at h
   .split at h
    .cases h;exact⟨_,_,_,rfl⟩
    .cases h
   .cases h
omit [Kap]in
theorem EO{cx:Cx}{m m':Mem}{ts:List TypeId}{args:List Value}{v:Value}(h:cQ cx m ts args=some (v,m')):∃a n c,v = .slice a n c:=by
 unfold cQ at h;split at h
 .split at h
  .split at h
   .split at h
    .split at h
     .cases h
     .split at h
      .split at h
       .split at h
        .cases h;exact⟨_,_,_,rfl⟩
        .split at h
         .cases h;exact⟨_,_,_,rfl⟩
         .cases h
       .split at h
        .cases h;exact⟨_,_,_,rfl⟩
        .cases h
      .split at h
       .split at h
        .cases h;exact⟨_,_,_,rfl⟩
        .cases h
       .cases h
    .cases h
   .unfold lj at h;split at h
    .split at h
     .exact EN h
     .cases h
    .cases h
   .cases h
  .cases h
 .cases h
theorem Mf{cx:Cx}{k kov krot:FuncId}{t tint e sz by_:Nat}(hcx:CxOk P cx)(hov:oX P cx)(jt:P.follows .mixedOrders=true)(hni:mG cx)(hk:cx.ov.get kov=some oW)(hT:Pq cx t e sz by_ tint=true)
  (hG:∀a0 n0 c0 x1 a2 n2 c2 m Q,IK cx t tint kov krot a0 n0 c0 x1 a2 n2 c2 m Q->ah cx k [.slice a0 n0 c0,.int .i64 x1,.slice a2 n2 c2] m Q):jZ P k (pX cx t e sz by_):=by
 obtain⟨inf,z,ht,htint,hi,his,hz,hzl,hzo,hsz,hby⟩:∃inf z,cx.un.get t=some (.slice e)/\cx.un.get tint=some (.int .i64)/\cx.ty.get e=some inf/\inf.size=sz/\fB cx e=some z/\(bQ z).length=sz/\(bQ z).all one1=true/\0<sz/\inf.bytes=by_:=by
  unfold Pq at hT;split at hT
  .rename_i e' i z h1 h2 h3 h4;simp only[Bool.and_eq_true]at hT;obtain⟨a,b,c,d,f,g⟩:=hT;have ea:e'=e:=gR3 a;exact⟨i,z,ea▸h1,h2,h3,gR3 b,h4,gR3 d,g,gQ6 c,gR3 f⟩
  .cases hT
 intro args m v m' h φ w args' hl hr;unfold pX at h;split at h
 .rename_i a n c i av k' ck;split at h
  .rename_i hd;have hd:=of_decide_eq_true hd;split at h
   .rename_i h1 h2;have hk0:0<k':=gQ6 h2;have hC:ah cx k [.slice a n c,.int .i64 i,.slice av k' ck] m (fun r u=>r=v/\u=m'):=by
     refine hG _ _ _ _ _ _ _ _ _ ?_;unfold IK;cases hso:cX cx m t (.slice a n c) (some (.int .i64 i)) none none with
     | none=>rw[hso]at h1;cases h1
     | some x=>
      rw[hso]at h1;cases x with
      | slice a1 n1 c1=>
       refine⟨a1,n1,c1,rfl,?_⟩;refine fe.2 ⟨fun h=>?_,fun _=>?_⟩
       .have:=eH.1 h;simp[aQ]at this;omega
       refine fe.2 ⟨fun _=>?_,fun h=>?_⟩
       .have:∃a n c,v = .slice a n c:=by
         exact EO h
        obtain⟨a2,n2,c2,rfl⟩:=this;exact⟨a2,n2,c2,m',h,rfl,rfl⟩
       .have:=dY.1 h;exact absurd (by rw[hd];rfl) this
      | _=>cases h1
    refine(hC.called hcx hov jt hr hl).mono ?_;rintro e0 w' ⟨v0,u,v',φ',rfl,hv,hr',hs,rfl,rfl⟩;exact⟨v',φ',rfl,hv,hr',hs⟩
   .cases h
  .rename_i hd;split at h
   .rename_i b off av' h1;split at h
    .rename_i hsp;have h1:=of_decide_eq_true h1;obtain⟨ii,rfl⟩:∃j:Nat,i=(j:Int):=⟨i.toNat,by omega⟩;rw[Int.toNat_natCast]at h;unfold ym at h;split at h
     .rename_i cc N e' l vs g1 g2 g3;split at h
      .rename_i hok;cases h;unfold wI at hok;simp only[Bool.and_eq_true,Bool.not_eq_true']at hok;obtain⟨⟨⟨⟨⟨⟨⟨⟨⟨⟨⟨⟨⟨⟨⟨⟨o1,o2⟩,o3⟩,o4⟩,o5⟩,o6⟩,o7⟩,o8⟩,o9⟩,o10⟩,o11⟩,o12⟩,o13⟩,o14⟩,o15⟩,o16⟩,o17⟩:=hok;have o1:e'=e:=gR3 o1;have o2:off+c*sz=N:=gR3 o2;have o3:=gQ6 o3;have o4:=Tr.beq_false.1 o4;have o10:0<k':=gQ6 o10;have o11:ii<n:=gQ6 o11;have o12:=gQ6 o12;have o13:=gR3 o13;have o14:=gR3 o14;have o16:=gQ6 o16;have o17:=gQ6 o17;subst e';obtain⟨x1,r1,e1,q1,hl⟩:=hl.one;obtain⟨x2,r2,e2,q2,hl⟩:=hl.one;obtain⟨x3,r3,e3,q3,hl⟩:=hl.one;rw[hl.none]at e3;rw[e3]at e2;rw[e2]at e1;obtain⟨lc,hlc,ho⟩:=hr.r0.obj _ _ g1;obtain⟨ca,w1,w2,w3,w4,w5,w6,w7⟩:=id ho;have hls:lc.s=sz:=by rw[<-his];exact((w7 rfl).2 _ (hcx.ty _ _ hi)).symm
       obtain⟨cap',hcap,hx1⟩:∃cap',CapR lc off c cap'/\x1 = .slice (some ⟨lc.rb,lc.ro+off,none⟩) n cap':=by
        rcases q1.slice_some with⟨l',c',_,p2,p3,p4⟩|⟨h0,_⟩
        .rw[hlc]at p2;cases p2;exact⟨c',p3,p4⟩
        .omega
       have hroom:c<=cap'/\off+cap'*sz<=lc.re:=by
        rcases hcap with h|⟨_,_,h3,h4⟩
        .subst h;exact⟨gQ4 _,by omega⟩
        .rw[hls]at h4;exact⟨h3,h4⟩
       have hNc:N<=off+cap'*sz:=by
        have:=Nat.mul_le_mul_right sz hroom.1;omega
       have hnn:n*sz<=c*sz:=Nat.mul_le_mul_right _ o12;have hcl:∀j,j<l.length->cc.get (off+j)=l[j]?:=by
        intro j hj;rw[lH,g1]at g2;simp only[wG]at g2;split at g2
        .obtain⟨d1,d2⟩:=wK _ _ _ _ g2;exact d2 j (by omega)
        .cases g2
       have hbn:b<m.nx:=hr.wf.lt g1;have hrO:=Od hr g1 hlc (by omega) hcl (N2:=off+cap'*sz) hroom.2;have hCel:ni (uG m b off (off+cap'*sz) l e) m.nx (off+cap'*sz) e false (fun j=>if off<=j/\j<off+l.length then l[j-off]? else none):=by
        refine⟨ec .nil l off,by rw[ru,if_pos rfl],fun j=>?_⟩;rw[kN,Tr.get_nil]
       have hlive:∀o,m.hp.get av'.block=some o->(uG m b off (off+cap'*sz) l e).hp.get av'.block=some o:=fun o ho=>by
        rw[ru,if_neg (by have:=hr.wf.lt ho;omega),if_neg o4,ho]
       have hcb:gQ (uG m b off (off+cap'*sz) l e) av'.block=true:=by
        have o5':=o5;unfold gQ at o5' ⊢;split at o5'
        .rename_i hg;rw[hlive _ hg]
        .cases o5'
       have hvn:av'.block<m.nx:=by
        unfold gQ at o5;split at o5
        .rename_i hg;exact hr.wf.lt hg
        .cases o5
       have hfv:dA (uG m b off (off+cap'*sz) l e) sz k' (.slice (some av') k' ck)=some vs:=by
        cases k' with
        | zero=>omega
        | succ k'=>
         simp only[dA]at g3 ⊢;obtain⟨ab,ao,asp⟩:=av';simp only at hsp;subst hsp;rw[lH]at g3 ⊢;cases hgo:m.hp.get ab with
         | none=>rw[hgo]at g3;cases g3
         | some o=>rw[hlive _ hgo];rw[hgo]at g3;exact g3
       have hrun:=Md (kov:=kov) (krot:=krot) (k:=k') (ck:=ck) hni hk ht htint hi his hz hzl hzo (by omega) hsz hrO.wf hCel rfl rfl rfl o14 (fun j hj=>by
        show (if _ then _ else _)=_;rw[if_pos ⟨by omega,by omega⟩];congr 1;omega) o8 (by omega:n<=cap') hsp (by omega) hcb hfv o13 o9 o10 o11 o17
       have hC:=hG _ _ _ _ _ _ _ _ _ hrun;have hext:=cV.put_ext (l:=⟨lc.rb,lc.ro,off+cap'*sz,off+cap'*sz,0⟩) hr.fresh_id;have hlO:LR (cV.put φ m.nx ⟨lc.rb,lc.ro,off+cap'*sz,off+cap'*sz,0⟩) [.slice (some ⟨m.nx,off,none⟩) n cap',.int .i64 (ii:Int),.slice (some av') k' ck] args'.toList:=by
        rw[e1,hx1];refine LR.cons ?_ (LR.cons (q2.mono hext) (LR.cons (q3.mono hext) (LR.nil _)));exact VR.sl m.nx off n cap' cap' ⟨lc.rb,lc.ro,off+cap'*sz,off+cap'*sz,0⟩ cV.put_self (.inl rfl)
       refine(hC.called hcx hov jt hrO hlO).mono ?_;rintro e0 w' ⟨v0,u,v',φ',rfl,hv,hr',hs,q,p2,cp,N3,x,f,rfl,z1,z2,z3,z4,z5⟩;obtain⟨ccq,zc1,zc2⟩:=id z2;obtain⟨l3,z6,z7⟩:=hr'.r0.obj _ _ zc1;obtain⟨ca3,y1,y2,y3,y4,y5,y6,y7⟩:=id z7;obtain⟨cpR,hcapR,rfl⟩:∃cpR,CapR l3 p2 cp cpR/\v' = .slice (some ⟨l3.rb,l3.ro+p2,none⟩) (n+k') cpR:=by
        rcases hv.slice_some with⟨l',c',_,a2,a3,a4⟩|⟨h0,_⟩
        .rw[z6]at a2;cases a2;exact⟨c',a3,a4⟩
        .omega
       have hresl:(l.take (ii*sz)++vs++l.drop (ii*sz)).length=(n+k')*sz:=by
        have:ii*sz<=n*sz:=Nat.mul_le_mul_right _ (by omega);rw[Nat.add_mul];simp;omega
       have hl3s:l3.s=0∨l3.s=sz:=by
        cases x with
        | false=>exact .inl (y6 rfl).1
        | true=>right;rw[<-his];exact((y7 rfl).2 _ (hcx.ty _ _ hi)).symm
       have hroom3:cp<=cpR/\p2+cpR*sz<=l3.re:=by
        rcases hcapR with h|⟨h1,_,h3,h4⟩
        .subst h;exact⟨gQ4 _,by omega⟩
        .rcases hl3s with h|h
         .omega
         .rw[h]at h4;exact⟨h3,h4⟩
       have hlow:(l.take (ii*sz)++vs++l.drop (ii*sz)).all (qH m.nx)=true:=by
        refine List.all_eq_true.2 fun y hy=>?_
        rw[List.append_assoc,List.mem_append,List.mem_append]at hy;rcases hy with hy|hy|hy
        .exact List.all_eq_true.1 o6 _ (List.mem_of_mem_take hy)
        .exact List.all_eq_true.1 o7 _ hy
        .exact List.all_eq_true.1 o6 _ (List.mem_of_mem_drop hy)
       have hn4:(n+k')*sz<=cp*sz:=Nat.mul_le_mul_right _ z4;subst hls;obtain⟨f1,f2⟩:=Me hr g1 hlc o3 hr' hs z1 z2 z6 (n:=n+k') (capR:=cpR) hroom3.2 (by omega) hresl z5 (by omega) hlow hsz;refine⟨_,_,rfl,?_,f1,f2⟩;refine .sl m.nx 0 (n+k') (n+k') cpR _ cV.put_self ?_;refine .inr ⟨hsz,?_,by omega,?_⟩
       .simp only;omega
       .simp only;omega
      .cases h
     .cases h
    .cases h
   .cases h
 .cases h
end
end Go.AX
namespace Go.AX
open Go Go.RowKit
variable [Kap]
theorem IT{P:Program}{cx:Cx}(hcx:CxOk P cx)(hov:oX P cx)(jt:P.follows .mixedOrders=true){k:Nat}(w:World)(args:Array Value)
  (hno:cx.ov.get k=none) (hg:args.toList.all (Be (iP P w))=true) (h:ah cx k args.toList (mW P w) fun r _=>r = .bool true) :
  Calls P k args w fun e w'=>e = .returned (.bool true)/\Below w.heap.size w w':=by
 obtain⟨n,r,m',h1,E,u',h2,h3,h4,h5⟩:=h (NQ P w);subst h5;have hl:LR (φW P w) args.toList args.toList:=⟨rfl,fun i v v' a b=>by
  rw[a]at b;cases b;exact Mo (List.all_eq_true.1 hg v (gQ3 a))⟩
 unfold dU at h1;rw[hno]at h1;refine(Gb hcx hov jt (n:=n) h1 (φW P w) w args hl (QH P w)).mono ?_;rintro e w' ⟨v',φ',rfl,hv,_,hs⟩;refine⟨?_,hs.belowW⟩;cases hv;rfl
end Go.AX
