import Derived.Test.YtiehbnmpaeedpaaGreatQK26
import Derived.Test.YtiehbnmpaeedpaaGreatQK20
import Derived.Test.YtiehbnmpaeedpaaGreatQK24
set_option linter.unusedSimpArgs false
set_option linter.unusedVariables false
set_option linter.unusedSectionVars false
namespace Go.AX.pm
open Go.AX
noncomputable section
theorem EK{m most bud left:Int}(h:jW m most bud left=true):1<=m/\m<=64/\1<=most/\most<=1048576/\m*most<=bud:=by
 unfold jW lN at h;cases hc:(dJ m 1 || (dJ 64 m || (dJ most 1 || dJ 1048576 most)))with
 | true=>rw[hc]at h;simp at h
 | false=>
  rw[hc]at h;simp only[cond_false,Bool.true_and,Bool.and_eq_true,hY]at h;simp only[Bool.or_eq_false_iff,eL]at hc;have h1:0<=m*most:=Int.mul_nonneg (by omega) (by omega);have h2:m*most<=64*1048576:=Int.mul_le_mul (by omega) (by omega) (by omega) (by omega);rw[pJ (by omega) (by omega)]at h;exact⟨by omega,by omega,by omega,by omega,h.1⟩
abbrev chain(l:Lock):List Int:=l.holder::l.queue
structure Fp (W:Int->Int)(m most h:Int)(k:Nat)(x:Serv):Prop where
 bud:((k:Int)+1)*most-h<=x.s.bud
 mode:x.s.mode=1∨x.s.bud=0
 wait:1<=k->W x.id<=(m-1-k)*most+h
def Nw(W:Int->Int)(m most:Int)(x:Serv):Prop:=m*most<=x.s.bud/\x.s.mode=1/\W x.id<=0
structure Fd (N:Prop)(W:Int->Int)(m:Int)(L:List Serv)(l:Lock)(h:Int):Prop where
 h0:0<=h
 h1:h<=l.most
 held:∀x∈L,x.id=l.holder->x.held=h
 pl:∀(k:Nat) x,x∈L->(chain l)[k]? = some x.id->Fp W m l.most h k x∨(N/\Nw W m l.most x)
def Fds(N:Prop)(W:Int->Int)(s:St):Prop:=∀(q:Nat) l,s.sems[q]? = some l->∃h,Fd N W s.m s.servs l h
theorem Fd.any{N:Prop}{W:Int->Int}{m:Int}{L:List Serv}{l:Lock}{h:Int}(H:Fd False W m L l h):Fd N W m L l h:=
 ⟨H.h0,H.h1,H.held,fun k x hx hk=>(H.pl k x hx hk).elim .inl fun e=>e.1.elim⟩
theorem Fds.any{N:Prop}{W:Int->Int}{s:St}(H:Fds False W s):Fds N W s:=fun q l hl=>(H q l hl).imp fun _ h=>h.any
theorem Fp.s{W:Int->Int}{m most h:Int}{k:Nat}{x x':Serv}(f:Fp W m most h k x)(e:x'.s=x.s)(i:x.id=x'.id):Fp W m most h k x':=
 ⟨by rw[e];exact f.bud,by rw[e];exact f.mode,by rw[<-i];exact f.wait⟩
theorem Nw.s{W:Int->Int}{m most:Int}{x x':Serv}(f:Nw W m most x)(e:x'.s=x.s)(i:x.id=x'.id):Nw W m most x':=by
 unfold Nw at *;rw[e,<-i];exact f
theorem Fd.ofS{N:Prop}{W:Int->Int}{m:Int}{L L':List Serv}{l l':Lock}{h:Int}(H:Fd N W m L l h)(hm:l'.most=l.most)(hc:chain l'=chain l)
  (hL:∀x'∈L',x'.id∈chain l->∃x∈L,x.id=x'.id/\x'.held=x.held/\x'.s=x.s):Fd N W m L' l' h:=by
 have hh:l'.holder=l.holder:=by injection hc
 refine⟨H.h0,by rw[hm];exact H.h1,fun x' hx' e=>?_,fun k x' hx' hk=>?_⟩
 .obtain⟨x,hx,e1,e2,e3⟩:=hL x' hx' (by rw[e,hh];exact List.mem_cons_self ..);rw[e2];exact H.held x hx (e1.trans (e.trans hh))
 .rw[hc]at hk;obtain⟨x,hx,e1,e2,e3⟩:=hL x' hx' (List.mem_of_getElem? hk);rw[hm];rcases H.pl k x hx (by rw[e1];exact hk)with f|⟨n,f⟩
  .exact .inl (f.s e3 e1)
  .exact .inr ⟨n,f.s e3 e1⟩
theorem AQ{l:List Serv}(hr:Rise l){x y:Serv}(hx:x∈l)(hy:y∈l)(e:x.id=y.id):x=y:=by
 have a:=at_mem hr hx;have b:=at_mem hr hy;rw[e,b]at a;cases a;rfl
theorem sQ{B R:Int}{σ : St}(h:Iw B R σ){q:Nat}{l:Lock}(hl:σ.sems[q]? = some l){x:Serv}(hx:x∈σ.servs)(hc:x.id∈chain l):headSem x=(q:Int)+1/\(x.id=l.holder/\x.sec=2∨x.id∈l.queue/\x.sec=1):=by
 have hL:=h.lock q l hl;have hk:key x∈σ.servs.map key:=List.mem_map_of_mem hx;have id1:=(h.serv x hx).id1;have fB:∀s:Int,s≠0->(x.id,s,(q:Int)+1)∈σ.servs.map key->x.sec=s/\headSem x=(q:Int)+1:=fun s hs hz=>by
  obtain⟨i,hi⟩:=List.getElem?_of_mem hk;have e:=uM (tP h) hi hz rfl;unfold key at e;simp only[Prod.mk.injEq]at e;obtain⟨_,e2,e3⟩:=e;rw[if_neg (by omega)]at e3;exact⟨e2.symm,e3.symm⟩
 rcases List.mem_cons.1 hc with e|hm
 .obtain⟨a,b⟩:=fB 2 (by omega) ((hL.hold x.id).1 ⟨by omega,e.symm⟩);exact⟨b,.inl ⟨e,a⟩⟩
 .obtain⟨a,b⟩:=fB 1 (by omega) ((hL.wait x.id).1 hm);exact⟨b,.inr ⟨hm,a⟩⟩
theorem qw{B R:Int}{σ : St}(h:Iw B R σ){q:Nat}{l:Lock}(hl:σ.sems[q]? = some l){x:Serv}(hx:x∈σ.servs)(hs:x.sec=0∨headSem x≠(q:Int)+1):x.id∉chain l:=fun hc=>by
 obtain⟨a,b⟩:=sQ h hl hx hc;omega
theorem wv{B R:Int}{σ : St}(h:Iw B R σ){q:Nat}{l:Lock}(hl:σ.sems[q]? = some l){x:Serv}(hx:x∈σ.servs)(hc:x.id∈chain l):∃y∈σ.servs,y.id=l.holder/\y.sec=2:=by
 have hL:=h.lock q l hl;have id1:=(h.serv x hx).id1;have hne:l.holder≠0:=fun e=>by
  rcases List.mem_cons.1 hc with e1|hm
  .omega
  .rw[hL.free e]at hm;cases hm
 obtain⟨y,hy,e⟩:=List.mem_map.1 ((hL.hold l.holder).1 ⟨hne,rfl⟩);unfold key at e;simp only[Prod.mk.injEq]at e;exact⟨y,hy,e.1,e.2.1⟩
theorem yx{B R:Int}{σ : St}(h:Iw B R σ){q:Nat}{l:Lock}(hl:σ.sems[q]? = some l)(hne:l.holder≠0):(chain l).Nodup:=by
 have hL:=h.lock q l hl;refine List.nodup_cons.2 ⟨fun hm=>?_,hL.nd⟩;have a:=(hL.hold l.holder).1 ⟨hne,rfl⟩;have b:=(hL.wait l.holder).1 hm;obtain⟨i,hi⟩:=List.getElem?_of_mem a;have:=uM (tP h) hi b rfl;simp at this
theorem Bu{B:Int}{σ : St}(h:Iv B σ){q:Nat}{l:Lock}(hl:σ.sems[q]? = some l)(hm:∀x∈σ.servs,x.id∈chain l->x.s.mode=1)(hne:l.holder≠0):((chain l).length:Int)<=σ.m:=by
 have hL:=h.lock q l hl;refine Int.le_trans (Int.ofNat_le.2 ?_) h.fix;unfold fixed;rw[nK,List.countP_eq_length_filter];have:(chain l).length<=((σ.servs.filter fun y=>(dO y.s.mode 1&&eX y.sec 0)).map (·.id)).length:=by
  refine List.Nodup.length_le_of_subset (yx h.toIw hl hne) (fun id hid=>?_);have hk:∃s:Int,s≠0/\(id,s,(q:Int)+1)∈σ.servs.map key:=by
   rcases List.mem_cons.1 hid with e|hq
   .exact⟨2,by omega,(hL.hold id).1 ⟨by omega,e.symm⟩⟩
   .exact⟨1,by omega,(hL.wait id).1 hq⟩
  obtain⟨s,hs,hz⟩:=hk;obtain⟨y,hy,e⟩:=List.mem_map.1 hz;unfold key at e;simp only[Prod.mk.injEq]at e;obtain⟨rfl,e2,_⟩:=e;refine List.mem_map.2 ⟨y,List.mem_filter.2 ⟨hy,?_⟩,rfl⟩;rw[Bool.and_eq_true];exact⟨eP.2 (hm y hy hid),jl.2 (by omega)⟩
 rwa [List.length_map]at this
def Hl(s:St):Prop:=∀(q:Nat) l,s.sems[q]? = some l->∀x∈s.servs,x.id=l.holder->x.held<l.most
theorem Fd.full{B:Int}{N:Prop}{W:Int->Int}{σ : St}(h:Iv B σ){q:Nat}{l:Lock}(hl:σ.sems[q]? = some l){h0:Int}(H:Fd N W σ.m σ.servs l h0)(hlt:∀x∈σ.servs,x.id=l.holder->x.held<l.most) :
  ∀(k:Nat) x,x∈σ.servs->(chain l)[k]? = some x.id->Fp W σ.m l.most h0 k x/\x.s.mode=1/\(k:Int)+1<=σ.m/\h0<l.most:=by
 have hmost:=h.most l (List.mem_of_getElem? hl);have pos:∀(k:Nat),0<=(k:Int)*l.most:=fun k=>Int.mul_nonneg (by omega) (by omega)
 have hlt':∀x∈σ.servs,x.id∈chain l->h0<l.most:=fun x hx hc=>by
  obtain⟨y,hy,e,_⟩:=wv h.toIw hl hx hc;rw[<-H.held y hy e];exact hlt y hy e
 have mode:∀x∈σ.servs,x.id∈chain l->x.s.mode=1:=fun x hx hc=>by
  obtain⟨k,hk⟩:=List.getElem?_of_mem hc;rcases H.pl k x hx hk with f|⟨_,f⟩
  .rcases f.mode with e|e
   .exact e
   .have:=f.bud;have:=hlt' x hx hc;have:=pos k;rw[Int.add_mul]at *;omega
  .exact f.2.1
 intro k x hx hk;have hc:=List.mem_of_getElem? hk;have hlt0:=hlt' x hx hc;have hne:l.holder≠0:=fun e=>by
  obtain⟨y,hy,e1,_⟩:=wv h.toIw hl hx hc;have:=(h.serv y hy).id1;omega
 have hlen:=Bu h hl mode hne;have hkl:=(List.getElem?_eq_some_iff.1 hk).1;have hkm:(k:Int)+1<=σ.m:=by omega
 refine⟨?_,mode x hx hc,hkm,hlt0⟩;rcases H.pl k x hx hk with f|⟨_,f1,f2,f3⟩
 .exact f
 .have h0':=H.h0;have a:((k:Int)+1)*l.most<=σ.m*l.most:=Int.mul_le_mul_of_nonneg_right hkm (by omega);have b:0<=(σ.m-1-k)*l.most:=Int.mul_nonneg (by omega) (by omega);exact⟨by omega,.inl f2,fun _=>by omega⟩
theorem Fds.full{B:Int}{N:Prop}{W:Int->Int}{σ : St}(h:Iv B σ)(H:Fds N W σ)(hlt:Hl σ):Fds False W σ:=fun q l hl=>by
 obtain⟨h0,F⟩:=H q l hl;exact⟨h0,F.h0,F.h1,F.held,fun k x hx hk=>.inl (F.full h hl (hlt q l hl) k x hx hk).1⟩
theorem Hl.ofS{s s':St}(H:Hl s)(hs:∀(q:Nat) l',s'.sems[q]? = some l'->∃l,s.sems[q]? = some l/\l'.most=l.most/\chain l'=chain l/\∀x'∈s'.servs,x'.id∈chain l->∃x∈s.servs,x.id=x'.id/\x'.held=x.held):Hl s':=fun q l' hl' x' hx' e=>by
 obtain⟨l,hl,e1,e2,e3⟩:=hs q l' hl';have hh:l'.holder=l.holder:=by injection e2
 obtain⟨x,hx,e4,e5⟩:=e3 x' hx' (by rw[e,hh];exact List.mem_cons_self ..);rw[e5,e1];exact H q l hl x hx (e4.trans (e.trans hh))
theorem Fds.ofS{N:Prop}{W:Int->Int}{s s':St}(H:Fds N W s)(hm:s'.m=s.m)(hq:s'.sems=s.sems)(hL:∀(q:Nat) l,s.sems[q]? = some l->∀x'∈s'.servs,x'.id∈chain l->∃x∈s.servs,x.id=x'.id/\x'.held=x.held/\x'.s=x.s):Fds N W s'/\(Hl s->Hl s'):=by
 refine⟨fun q l hl=>?_,fun h=>h.ofS fun q l hl=>?_⟩
 .rw[hq]at hl;obtain⟨h0,F⟩:=H q l hl;rw[hm];exact⟨h0,F.ofS rfl rfl (hL q l hl)⟩
 .rw[hq]at hl;exact⟨l,hl,rfl,rfl,fun x' hx' hc=>by obtain⟨x,a,b,c,_⟩:=hL q l hl x' hx' hc;exact⟨x,a,b,c⟩⟩
theorem Fds.setS{B R:Int}{N:Prop}{W:Int->Int}{s:St}(h:Iw B R s)(H:Fds N W s){i:Nat}{x x':Serv}(hx:s.servs[i]? = some x)(hid:x'.id=x.id)(hs:x.sec=0∨x'.held=x.held/\x'.s=x.s):Fds N W { s with servs:=s.servs.set i x' }/\(Hl s->Hl { s with servs:=s.servs.set i x' }):=
 H.ofS (s':={ s with servs:=s.servs.set i x' }) rfl rfl fun q l hl y hy hc=>by
  rcases List.mem_or_eq_of_mem_set hy with h1|h1
  .exact⟨y,h1,rfl,rfl,rfl⟩
  .subst h1;have hxm:=List.mem_of_getElem? hx;rcases hs with e|⟨e1,e2⟩
   .exact absurd (hid▸hc) (qw h hl hxm (.inl e))
   .exact⟨x,hxm,hid.symm,e1,e2⟩
theorem Lq{B:Int}{N:Prop}{W:Int->Int}{s:St}(h:Iv B s)(H:Fds N W s)(id q p:Int):Fds N W (add s id q p).1/\(Hl s->Hl (add s id q p).1):=by
 unfold add;cases hid:(dJ id 1 || dJ 255 id)with
 | true=>exact⟨H,fun h=>h⟩
 | false=>
 rw[Bool.or_eq_false_iff,eL,eL]at hid;cases hh:has s.servs id with
 | true=>exact⟨H,fun h=>h⟩
 | false=>
 cases leI 32 (aQ s.servs.length)with
 | true=>exact⟨H,fun h=>h⟩
 | false=>
 cases eX (gk q p).2 0 with
 | true=>exact⟨H,fun h=>h⟩
 | false=>
  refine H.ofS (s':={ s with servs:=s.servs.take (at_ s.servs id)++⟨id,(gk q p).1,[],0,0,0,0⟩::s.servs.drop (at_ s.servs id) }) rfl rfl fun q l hl y hy hc=>?_
  rcases pM.1 hy with e|e
  .exfalso;subst e;have hL:=h.lock q l hl;have hm:∃z:Key,z∈s.servs.map key/\z.1=id:=by
    rcases List.mem_cons.1 hc with e|hm
    .have e:id=l.holder:=e;by_cases h0:l.holder=0
     .omega
     .exact⟨_,(hL.hold l.holder).1 ⟨h0,rfl⟩,e.symm⟩
    .exact⟨_,(hL.wait id).1 hm,rfl⟩
   obtain⟨z,hz,e⟩:=hm;obtain⟨y,hy,rfl⟩:=List.mem_map.1 hz;have:has s.servs id=true:=(tT h.rise).2 ⟨y,hy,e⟩;rw[hh]at this;cases this
  .exact⟨y,e,rfl,rfl,rfl⟩
theorem EH{B:Int}{N:Prop}{W:Int->Int}{s:St}(h:Iv B s)(H:Fds N W s)(id:Int)(p:List Step):Fds N W (release s id p).1/\(Hl s->Hl (release s id p).1):=by
 unfold release;cases (!has s.servs id)with
 | true=>exact⟨H,fun h=>h⟩
 | false=>
 cases (!ma p s.sems.length)with
 | true=>exact⟨H,fun h=>h⟩
 | false=>
  simp only[cond_false];split
  .exact⟨H,fun h=>h⟩
  .rename_i v hv;cases leI 8 (aQ v.jobs.length)with
   | true=>exact⟨H,fun h=>h⟩
   | false=>
    simp only[cond_false];cases hi:(!v.idle)with
    | true=>exact H.setS h.toIw hv rfl (.inr ⟨rfl,rfl⟩)
    | false=>
     simp only[cond_false];cases eX (gn v.s s.now).2 0 with
     | true=>exact⟨H,fun h=>h⟩
     | false=>
      refine H.setS h.toIw hv rfl (.inl ?_);have hvm:=List.mem_of_getElem? hv;have hm:v.s.mode=0:=by
       unfold Serv.idle at hi;rw[Bool.not_eq_false']at hi;exact eP.1 hi
      have hj:=(h.idle v hvm).2 hm;rcases(h.serv v hvm).sec with e|⟨_,e⟩
      .exact e
      .unfold headSem at e;rw[hj]at e;simp at e
theorem HW{B:Int}{N:Prop}{W:Int->Int}{s:St}(h:Iv B s)(H:Fds N W s):Fds N W (gj s)/\(Hl s->Hl (gj s)):=
 H.ofS rfl rfl fun q l hl y hy hc=>by
  obtain⟨x,hx,rfl⟩:=List.mem_map.1 hy;obtain⟨e1,_,_,_,_,e2⟩:=mT s.now x;refine⟨x,hx,e1.symm,e2,?_⟩;rcases nL s.now x with e|⟨_,hs,e⟩
  .rw[e]
  .rw[e1]at hc;exact absurd hc (qw h.toIw hl hx (.inl hs))
theorem Gu{B:Int}{N:Prop}{W:Int->Int}{s s':St}{e:Ev}(h:Iv B s)(H:Fds N W s)(hr:refuse s=some (s',e)):Fds N W s'/\(Hl s->Hl s'):=by
 obtain⟨p,hp,v,k,h1,h2,_,rfl,_⟩:=gE hr;obtain⟨x,hx,_,_,hs,_⟩:=nJ h hp;rw[h1]at hx;cases hx;exact H.setS h.toIw h1 rfl (.inl hs)
theorem xI{B:Int}{N:Prop}{W:Int->Int}:∀(n:Nat){s:St},Iv B s->Fds N W s->Fds N W (dS n s).1/\(Hl s->Hl (dS n s).1)
 | 0,s,_,H=>⟨H,fun h=>h⟩
 | n+1,s,h,H=>by
  unfold dS;cases hr:refuse s with
  | none=>exact⟨H,fun h=>h⟩
  | some p=>
   obtain⟨s',e⟩:=p;obtain⟨a,b⟩:=Gu h H hr;obtain⟨c,d⟩:=xI n (oe h hr).1 a;exact⟨c,fun h=>d (b h)⟩
theorem vw{s:St}:∀{L:List (Nat×Int)},jM s L=none->∀p∈L,∀v l,s.servs[p.1]? = some v->s.sems[(p.2-1).toNat]? = some l->(∀p∈L,∃v l,s.servs[p.1]? = some v/\s.sems[(p.2-1).toNat]? = some l)->jW s.m l.most v.s.bud (dY .i64 v.s.due s.now)=true
 | [],_,p,hp,_,_,_,_,_=>by cases hp
 | (i,q)::r,h,p,hp,v,l,hv,hl,hall=>by
  obtain⟨v0,l0,a,b⟩:=hall (i,q) (List.mem_cons_self ..);simp only at a b;unfold jM at h;rw[a,b]at h;simp only at h;cases hg:jW s.m l0.most v0.s.bud (dY .i64 v0.s.due s.now)with
  | false=>rw[hg]at h;cases h
  | true=>
   rw[hg,cond_true]at h;rcases List.mem_cons.1 hp with e|hp
   .subst e;simp only at hv hl;rw[a]at hv;cases hv;rw[b]at hl;cases hl;exact hg
   .exact vw h p hp v l hv hl fun p hp=>hall p (List.mem_cons_of_mem _ hp)
theorem Gv{B R:Int}{W:Int->Int}{σ : St}(h:Iw B R σ)(H:Fds True W σ)(hlt:Hl σ){i q:Nat}{x:Serv}(hx:σ.servs[i]? = some x)(hs:x.sec=0){l:Lock}(hl:σ.sems[q]? = some l)(hn:Nw W σ.m l.most x) :
  Fds True W (fe σ i ((q:Int)+1)).1/\Hl (fe σ i ((q:Int)+1)).1/\∀(r:Nat) k,(fe σ i ((q:Int)+1)).1.sems[r]? = some k->∃k0,σ.sems[r]? = some k0/\k.most=k0.most:=by
 rw[sP hx hl];have hxm:=List.mem_of_getElem? hx;have hmost:=h.most l (List.mem_of_getElem? hl);obtain⟨h0,F⟩:=H q l hl;have hql:=(List.getElem?_eq_some_iff.1 hl).1;have hL:=h.lock q l hl;have mst:∀(l':Lock),l'.most=l.most->∀(r:Nat) k,(σ.sems.set q l')[r]? = some k->∃k0,σ.sems[r]? = some k0/\k.most=k0.most:=fun l' e r k hk=>by
  rw[List.getElem?_set]at hk;by_cases hr:q=r
  .subst hr;rw[if_pos rfl,if_pos hql]at hk;cases hk;exact⟨l,hl,e⟩
  .rw[if_neg hr]at hk;exact⟨k,hk,rfl⟩
 cases hh:eX l.holder 0 with
 | true=>
  have hh:=jl.1 hh;rw[cond_true];have cor:∀y∈σ.servs.set i { x with sec:=1 },∃y0∈σ.servs,y0.id=y.id/\y.held=y0.held/\y.s=y0.s:=fun y hy=>by
   rcases List.mem_or_eq_of_mem_set hy with h1|h1
   .exact⟨y,h1,rfl,rfl,rfl⟩
   .subst h1;exact⟨x,hxm,rfl,rfl,rfl⟩
  refine⟨fun r k hk=>?_,fun r k hk y hy e=>?_,mst _ rfl⟩
  .have hk:(σ.sems.set q { l with queue:=l.queue++[x.id] })[r]? = some k:=hk;show ∃h,Fd True W σ.m (σ.servs.set i { x with sec:=1 }) k h;rw[List.getElem?_set]at hk;by_cases hr:q=r
   .subst hr;rw[if_pos rfl,if_pos hql]at hk;cases hk;refine⟨h0,F.h0,F.h1,fun y hy e=>?_,fun n y hy hn'=>?_⟩
    .obtain⟨y0,a,b,c,d⟩:=cor y hy;rw[c];exact F.held y0 a (b.trans e)
    .obtain⟨y0,a,b,c,d⟩:=cor y hy;have hn':(chain l++[x.id])[n]? = some y.id:=hn';rw[List.getElem?_append]at hn';split at hn'
     .rcases F.pl n y0 a (by rw[b];exact hn')with f|⟨_,f⟩
      .exact .inl (f.s d b)
      .exact .inr ⟨trivial,f.s d b⟩
     .have hm:=List.mem_of_getElem? hn';simp only[List.mem_singleton]at hm;have:y0=x:=AQ h.rise a hxm (b.trans hm);subst this;exact .inr ⟨trivial,hn.s d b⟩
   .rw[if_neg hr]at hk;obtain⟨h2,F2⟩:=H r k hk;exact⟨h2,F2.ofS rfl rfl fun y hy _=>cor y hy⟩
  .have hk:(σ.sems.set q { l with queue:=l.queue++[x.id] })[r]? = some k:=hk;obtain⟨y0,a,b,c,d⟩:=cor y hy;rw[c];rw[List.getElem?_set]at hk;by_cases hr:q=r
   .subst hr;rw[if_pos rfl,if_pos hql]at hk;cases hk;exact hlt q l hl y0 a (b.trans e)
   .rw[if_neg hr]at hk;exact hlt r k hk y0 a (b.trans e)
 | false=>
  have hh:=fP.1 hh;have hq0:=hL.free hh;rw[cond_false];have hrise:Rise (σ.servs.set i { x with sec:=2,held:=0 }):=iw (il hx (x':={ x with sec:=2,held:=0 }) rfl).symm h.rise;have hxm':({ x with sec:=2,held:=0 }:Serv)∈σ.servs.set i { x with sec:=2,held:=0 }:=List.mem_of_getElem? (i:=i) (by rw[List.getElem?_set,if_pos rfl,if_pos (List.getElem?_eq_some_iff.1 hx).1]);have mine:∀y∈σ.servs.set i { x with sec:=2,held:=0 },y.id=x.id->y = { x with sec:=2,held:=0 }:=fun y hy e=>AQ hrise hy hxm' e
  have oth:∀y∈σ.servs.set i { x with sec:=2,held:=0 },∀(r:Nat) k,σ.sems[r]? = some k->y.id∈chain k->∃y0∈σ.servs,y0.id=y.id/\y.held=y0.held/\y.s=y0.s:=fun y hy r k hk hc=>by
   rcases List.mem_or_eq_of_mem_set hy with h1|h1
   .exact⟨y,h1,rfl,rfl,rfl⟩
   .subst h1;exact absurd (show x.id∈chain k from hc) (qw h hk hxm (.inl hs))
  refine⟨fun r k hk=>?_,fun r k hk y hy e=>?_,mst _ rfl⟩
  .have hk:(σ.sems.set q { l with holder:=x.id,dead:=false })[r]? = some k:=hk;show ∃h,Fd True W σ.m (σ.servs.set i { x with sec:=2,held:=0 }) k h;rw[List.getElem?_set]at hk;by_cases hr:q=r
   .subst hr;rw[if_pos rfl,if_pos hql]at hk;cases hk;refine⟨0,Int.le_refl _,by show 0<=l.most;omega,fun y hy e=>by rw[mine y hy e],fun n y hy hn'=>?_⟩;have hn':(x.id::l.queue)[n]? = some y.id:=hn';rw[hq0]at hn';have hm:=List.mem_of_getElem? hn';simp only[List.mem_singleton]at hm;rw[mine y hy hm];exact .inr ⟨trivial,hn.s rfl rfl⟩
   .rw[if_neg hr]at hk;obtain⟨h2,F2⟩:=H r k hk;exact⟨h2,F2.ofS rfl rfl fun y hy hc=>oth y hy r k hk hc⟩
  .have hk:(σ.sems.set q { l with holder:=x.id,dead:=false })[r]? = some k:=hk;rw[List.getElem?_set]at hk;by_cases hr:q=r
   .subst hr;rw[if_pos rfl,if_pos hql]at hk;cases hk;rw[mine y hy e];show (0:Int)<l.most;omega
   .rw[if_neg hr]at hk;obtain⟨y0,a,b,c,d⟩:=oth y hy r k hk (by rw[e];exact List.mem_cons_self ..);rw[c];exact hlt r k hk y0 a (b.trans e)
theorem zD{B R:Int}{W:Int->Int}:∀{L:List (Nat×Int)}{σ : St},Iw B R σ->Fds True W σ->Hl σ->(∀p∈L,∃x l,σ.servs[p.1]? = some x/\x.sec=0/\headSem x=p.2/\1<=p.2/\σ.sems[(p.2-1).toNat]? = some l/\Nw W σ.m l.most x)->(L.map (·.1)).Nodup->Fds True W (eY σ L).1/\Hl (eY σ L).1
 | [],σ,_,H,hlt,_,_=>⟨H,hlt⟩
 | (i,q)::r,σ,h,H,hlt,ha,hn=>by
  obtain⟨x,l,hx,hs,hq,q1,hl,hw⟩:=ha (i,q) (List.mem_cons_self ..);obtain⟨n,rfl⟩:∃n:Nat,q=(n:Int)+1:=⟨(q-1).toNat,by simp at q1;omega⟩;simp only at hx hq q1 hl hw;rw[show ((n:Int)+1-1).toNat=n by omega]at hl;have hnl:=(List.getElem?_eq_some_iff.1 hl).1;have h1:=Bp h hx hs hq hnl;obtain⟨f1,f2,f3⟩:=Gv h H hlt hx hs hl hw;obtain⟨g1,g2,g3,g4,g5,g6,x',g7,g8,g9,g10,g11,g12,g13⟩:=wn hx hl;rw[List.map_cons,List.nodup_cons]at hn;have hne:∀p∈r,p.1≠i:=fun p hp e=>hn.1 (List.mem_map.2 ⟨p,hp,e⟩)
  refine zD (L:=r) h1 f1 f2 (fun p hp=>?_) hn.2;obtain⟨y,k,a,b,c,d,e,f⟩:=ha p (List.mem_cons_of_mem _ hp);have hlen:(p.2-1).toNat<(fe σ i ((n:Int)+1)).1.sems.length:=by rw[g3];exact(List.getElem?_eq_some_iff.1 e).1
  have hk':=List.getElem?_eq_getElem hlen;obtain⟨k0,b1,b2⟩:=f3 _ _ hk';rw[e]at b1;cases b1;refine⟨y,_,by rw[g2 _ (hne p hp)];exact a,b,c,d,hk',?_⟩;rw[g4,b2];exact f
theorem Gw{B:Int}{W:Int->Int}{σ : St}(h:Iv B σ)(H:Fds False W σ)(hlt:Hl σ)(hW:∀x∈σ.servs,x.sec=0->W x.id<=0):Fds False W (settle σ).1/\Hl (settle σ).1:=by
 have i1:=rO h;obtain⟨a1,a2⟩:=HW h (H.any (N:=True));have i2:=pd (σ.servs.length+1) i1;obtain⟨b1,b2⟩:=xI (σ.servs.length+1) i1 a1;have hend:refuse (dS (σ.servs.length+1) (gj σ)).1=none:=xH _ i1 (Nat.le_trans (zC _) (by show (σ.servs.map _).length<=_;rw[List.length_map];omega));have hkeys:(dS (σ.servs.length+1) (gj σ)).1.servs.map (fun x=>(x.id,x.sec)) = σ.servs.map (fun x=>(x.id,x.sec)):=by
  have gen:∀(n:Nat) (τ : St),(dS n τ).1.servs.map (fun x=>(x.id,x.sec)) = τ.servs.map (fun x=>(x.id,x.sec)):=by
   intro n
   induction n with
   | zero=>intro τ;rfl
   | succ n ih=>
    intro τ;unfold dS;split
    .rfl
    .rename_i σ' e hr;show (dS n σ').1.servs.map _=_;rw[ih];obtain⟨p,_,v,_,hv,_,_,e,_⟩:=gE hr;rw[e];show (τ.servs.set p.1 { v with s:=(fO v.s).1 }).map (fun x=>(x.id,x.sec))=_;rw[jm];exact pe (by rw[List.getElem?_map,hv];rfl)
  rw[gen];show (σ.servs.map fun v=>(gi σ.now v).1).map _=_;rw[List.map_map];exact List.map_congr_left fun v _=>by
   obtain⟨e1,_,_,_,e2,_⟩:=mT σ.now v;simp only[Function.comp,e1,e2]
 have i3:=(qt i2).1;obtain⟨c1,c2⟩:Fds True W (settle σ).1/\Hl (settle σ).1:=by
  show Fds True W (eY (dS (σ.servs.length+1) (gj σ)).1 (asks (dS (σ.servs.length+1) (gj σ)).1)).1/\Hl (eY (dS (σ.servs.length+1) (gj σ)).1 (asks (dS (σ.servs.length+1) (gj σ)).1)).1;have b2:=b2 (a2 hlt);generalize (dS (σ.servs.length+1) (gj σ)).1 = τ at *;have hall:∀p∈asks τ,∃v l,τ.servs[p.1]? = some v/\τ.sems[(p.2-1).toNat]? = some l:=fun p hp=>by
   obtain⟨x,hx,_,_,_,_,q1,q2,_⟩:=nJ i2 hp;exact⟨x,_,hx,List.getElem?_eq_getElem (show (p.2-1).toNat < τ.sems.length by omega)⟩
  refine zD i2.toIw b1 b2 (fun p hp=>?_) (AN i2);obtain⟨x,hx,_,hm,hs,hq,q1,q2,_⟩:=nJ i2 hp;obtain⟨_,l,_,hl⟩:=hall p hp;refine⟨x,l,hx,hs,hq,q1,hl,?_⟩;have hg:=vw hend p hp x l hx hl hall;refine⟨(EK hg).2.2.2.2,hm,?_⟩;have hz:(x.id,x.sec)∈σ.servs.map (fun x=>(x.id,x.sec)):=by
   rw[<-hkeys];exact List.mem_map.2 ⟨x,List.mem_of_getElem? hx,rfl⟩
  obtain⟨y,hy,e⟩:=List.mem_map.1 hz;simp only[Prod.mk.injEq]at e;rw[<-e.1];exact hW y hy (by rw[e.2];exact hs)
 exact⟨c1.full i3 c2,c2⟩
theorem Do{B:Int}{σ : St}(h:Iv B σ){x:Serv}(hx:x∈σ.servs)(hm:x.s.mode=1)(hs:x.sec≠0):x.id∈dU σ:=by
 have hr:x∈ready σ.servs:=List.mem_filter.2 ⟨hx,eP.2 hm⟩;have he:x.ent∈yy σ:=List.mem_map_of_mem hr;have hg:=Bv h;exact(pl.mem_pick_id hg he).2 (pl.fixed_runs hg he (jl.2 hs))
theorem JL{B:Int}{W:Int->Int}{σ : St}(h:Iv B σ)(ha:CG σ)(hd:Hd σ)(hn:σ.now<4611686018427387904)(H:Fds False W σ)(hlt:Hl σ):let L:=(dU σ).map (at_ σ.servs);Fds False (fun id=>W id+1) (runs σ L):=by
 intro L q l hl;have hL:uN σ L:=iY h ha;obtain⟨e1,e2,e3,e4,e5,e6⟩:=jh L σ hL.1;rw[e3]at hl;rw[e1];obtain⟨h0,F⟩:=H q l hl;have full:=F.full h hl (hlt q l hl);have hmost:=h.most l (List.mem_of_getElem? hl);have ran:∀y∈(runs σ L).servs,y.id∈chain l->∃x∈σ.servs,y=gU x/\x.id=y.id/\x.s.mode=1/\x.sec≠0/\x.jobs≠[]:=fun y hy hc=>by
  obtain⟨j,hj⟩:=List.getElem?_of_mem hy;rw[e6]at hj;have key:∀x,σ.servs[j]? = some x->x.id∈chain l->j∈L/\x.s.mode=1/\x.sec≠0:=fun x hx hc=>by
   have hxm:=List.mem_of_getElem? hx;obtain⟨k,hk⟩:=List.getElem?_of_mem hc;obtain⟨_,hm,_,_⟩:=full k x hxm hk;have hs:x.sec≠0:=by obtain⟨_,a⟩:=sQ h.toIw hl hxm hc;omega
   exact⟨List.mem_map.2 ⟨x.id,Do h hxm hm hs,AO h.rise hx⟩,hm,hs⟩
  split at hj
  .rename_i hjL;obtain⟨x,hx,rfl⟩:=Option.map_eq_some_iff.1 hj;have hid:(gU x).id=x.id:=by rw[jg]
   rw[hid]at hc;obtain⟨_,hm,hs⟩:=key x hx hc;obtain⟨z,hz,_,hzj,_⟩:=hL.2 j hjL;rw[hx]at hz;cases hz;exact⟨x,List.mem_of_getElem? hx,rfl,hid.symm,hm,hs,hzj⟩
  .rename_i hjL;exact absurd (key y hj hc).1 hjL
 by_cases hex:∃y∈σ.servs,y.id∈chain l
 .obtain⟨y0,hy0,hc0⟩:=hex;obtain⟨k0,hk0⟩:=List.getElem?_of_mem hc0;have hlt0:=(full k0 y0 hy0 hk0).2.2.2;have h00:=F.h0;refine⟨h0+1,by omega,by omega,fun y hy e=>?_,fun k y hy hk=>.inl ?_⟩
  .obtain⟨x,hx,rfl,hid,hm,hs,hj⟩:=ran y hy (by rw[e];exact List.mem_cons_self ..);have hxh:=F.held x hx (hid.trans e);have hs2:x.sec=2:=by
    obtain⟨_,a⟩:=sQ h.toIw hl hx (by rw[hid,e];exact List.mem_cons_self ..);rcases a with a|a
    .exact a.2
    .exfalso;have hne:l.holder≠0:=by have:=(h.serv x hx).id1;omega
     have:=yx h.toIw hl hne;rw[List.nodup_cons]at this;exact this.1 (by rw[<-hid.trans e];exact a.1)
   have hHO:=hd x hx;have hR:=h.ran x hx;rw[jg];show od x=_;unfold od;rw[if_neg (by omega)];cases hjs:x.jobs with
   | nil=>exact absurd hjs hj
   | cons j r=>
    simp only;rw[eP.2 hs2,cond_true,hxh];unfold HO at hHO;exact fq (by omega) (by omega)
  .obtain⟨x,hx,rfl,hid,hm,hs,hj⟩:=ran y hy (List.mem_of_getElem? hk);obtain⟨f,_,hkm,_⟩:=full k x hx (by rw[hid];exact hk);obtain⟨u1,u2,u3⟩:=Fg (h.serv x hx).s hm;have hc:=(wl (h.serv x hx).s).1;have hs':(gU x).s=(fm x.s 1).1:=by rw[jg]
   refine⟨?_,?_,fun hk1=>?_⟩
   .rw[hs',u3];have:=f.bud;omega
   .rw[hs'];have hmd:(fm x.s 1).1.mode=1∨(fm x.s 1).1.bud=0:=by
     unfold fm;rw[ka.2 (h.serv x hx).s];have hr:=(h.serv x hx).s.r;rw[show dJ x.s.bud 1=false from eL.2 (by omega),show eX x.s.mode 1=false from fP.2 hm];simp only[Bool.not_true,Bool.false_or,Bool.or_false,show dJ 1 1=false from eL.2 (by decide),cond_false];obtain⟨_,_,a,_,b⟩:=HJ { x.s with bud:=dY .i64 x.s.bud 1 };rw[a,b];simp only;split
     .rename_i h;exact .inr h
     .exact .inl rfl
    exact hmd
   .rw[<-hid];have:=f.wait hk1;show W x.id+1<=_;omega
 .refine⟨0,Int.le_refl _,by omega,fun y hy e=>?_,fun k y hy hk=>?_⟩
  .obtain⟨x,hx,_,hid,_⟩:=ran y hy (by rw[e];exact List.mem_cons_self ..);exact absurd ⟨x,hx,by rw[hid,e];exact List.mem_cons_self ..⟩ hex
  .obtain⟨x,hx,_,hid,_⟩:=ran y hy (List.mem_of_getElem? hk);exact absurd ⟨x,hx,by rw[hid];exact List.mem_of_getElem? hk⟩ hex
theorem Lt{B R:Int}{W:Int->Int}{σ : St}(h:Iw B R σ)(H:Fds False W σ){i q:Nat}{x x':Serv}{l:Lock}(t:Bool)(hx:σ.servs[i]? = some x)(hq:headSem x=(q:Int)+1)(hs:x.sec=2)(hl:σ.sems[q]? = some l)(hid:x'.id=x.id)(hs':x'.sec=0)(hh:l.holder=x.id) :
  let τ:=(free { σ with servs:=σ.servs.set i x' } ((q:Int)+1) t).1
  Fds False W τ/\∀(r:Nat) k,τ.sems[r]? = some k->∃k0,σ.sems[r]? = some k0/\k.most=k0.most:=by
 intro τ;have hxm:=List.mem_of_getElem? hx;have hmost:=h.most l (List.mem_of_getElem? hl);have hql:=(List.getElem?_eq_some_iff.1 hl).1;have hL:=h.lock q l hl;obtain⟨h0,F⟩:=H q l hl;have id1:=(h.serv x hxm).id1;have mst:∀(l':Lock),l'.most=l.most->∀(r:Nat) k,(σ.sems.set q l')[r]? = some k->∃k0,σ.sems[r]? = some k0/\k.most=k0.most:=fun l' e r k hk=>by
  rw[List.getElem?_set]at hk;by_cases hr:q=r
  .subst hr;rw[if_pos rfl,if_pos hql]at hk;cases hk;exact⟨l,hl,e⟩
  .rw[if_neg hr]at hk;exact⟨k,hk,rfl⟩
 have oth:∀y∈σ.servs.set i x',∀(r:Nat) k,r≠q->σ.sems[r]? = some k->y.id∈chain k->y∈σ.servs:=fun y hy r k hr hk hc=>by
  rcases List.mem_or_eq_of_mem_set hy with h1|h1
  .exact h1
  .subst h1;rw[hid]at hc;exact absurd hc (qw h hk hxm (.inr (by omega)))
 cases hqq:l.queue with
 | nil=>
  have e:τ = { σ with servs:=σ.servs.set i x',sems:=σ.sems.set q { l with holder:=0,dead:=t } }:=by
   show (free { σ with servs:=σ.servs.set i x' } ((q:Int)+1) t).1=_;rw[rK (σ:={ σ with servs:=σ.servs.set i x' }) t hl hqq]
  rw[e];refine⟨fun r k hk=>?_,mst _ rfl⟩;have hk:(σ.sems.set q { l with holder:=0,dead:=t })[r]? = some k:=hk;show ∃h,Fd False W σ.m (σ.servs.set i x') k h;have ids:∀y∈σ.servs.set i x',1<=y.id:=fun y hy=>by
   rcases List.mem_or_eq_of_mem_set hy with h1|h1
   .exact(h.serv y h1).id1
   .subst h1;omega
  rw[List.getElem?_set]at hk;by_cases hr:q=r
  .subst hr;rw[if_pos rfl,if_pos hql]at hk;cases hk;refine⟨0,Int.le_refl _,by show 0<=l.most;omega,fun y hy e=>?_,fun n y hy hn'=>?_⟩
   .have:=ids y hy;have e:y.id=0:=e;omega
   .have hn':((0:Int)::l.queue)[n]? = some y.id:=hn';rw[hqq]at hn';have hm:=List.mem_of_getElem? hn';simp only[List.mem_singleton]at hm;have:=ids y hy;omega
  .rw[if_neg hr]at hk;obtain⟨h2,F2⟩:=H r k hk;exact⟨h2,F2.ofS rfl rfl fun y hy hc=>⟨y,oth y hy r k (fun h=>hr h.symm) hk hc,rfl,rfl,rfl⟩⟩
 | cons y rr=>
  obtain⟨v,hv,hvid,hvs,hvq⟩:=qq h hl (y:=y) (by rw[hqq];exact List.mem_cons_self ..);have hvm:=List.mem_of_getElem? hv;have hat:at_ (σ.servs.set i x') y=at_ σ.servs y:=lG (il hx hid) y
  have hki:at_ σ.servs y≠i:=fun e=>by
   rw[e,hx]at hv;cases hv;omega
  have hv':(σ.servs.set i x')[at_ (σ.servs.set i x') y]? = some v:=by rw[hat,List.getElem?_set,if_neg (fun h=>hki h.symm)];exact hv
  have e:τ = { σ with servs:=(σ.servs.set i x').set (at_ (σ.servs.set i x') y) { v with sec:=2,held:=0 },sems:=σ.sems.set q { l with holder:=y,queue:=rr } }:=by
   show (free { σ with servs:=σ.servs.set i x' } ((q:Int)+1) t).1=_;rw[rM (σ:={ σ with servs:=σ.servs.set i x' }) t hl hqq hv']
  rw[e,hat];refine⟨fun r k hk=>?_,mst _ rfl⟩;have hk:(σ.sems.set q { l with holder:=y,queue:=rr })[r]? = some k:=hk;show ∃h,Fd False W σ.m ((σ.servs.set i x').set (at_ σ.servs y) { v with sec:=2,held:=0 }) k h;have hrise1:Rise (σ.servs.set i x'):=iw (il hx hid).symm h.rise;have hvx:(σ.servs.set i x')[at_ σ.servs y]? = some v:=by rw[<-hat];rw[hat]at hv';rw[hat];exact hv'
  have hrise2:Rise ((σ.servs.set i x').set (at_ σ.servs y) { v with sec:=2,held:=0 }):=iw (il hvx (x':={ v with sec:=2,held:=0 }) rfl).symm hrise1;have hvm2:({ v with sec:=2,held:=0 }:Serv)∈(σ.servs.set i x').set (at_ σ.servs y) { v with sec:=2,held:=0 }:=List.mem_of_getElem? (i:=at_ σ.servs y) (by rw[List.getElem?_set,if_pos rfl,if_pos (List.getElem?_eq_some_iff.1 hvx).1]);rw[List.getElem?_set]at hk;by_cases hr:q=r
  .subst hr;rw[if_pos rfl,if_pos hql]at hk;cases hk;refine⟨0,Int.le_refl _,by show 0<=l.most;omega,fun z hz e=>?_,fun n z hz hn'=>.inl ?_⟩
   .have e:z.id=y:=e;rw[AQ hrise2 hz hvm2 (e.trans hvid.symm)]
   .have hn':(y::rr)[n]? = some z.id:=hn';have hold:(chain l)[n+1]? = some z.id:=by
     show (l.holder::l.queue)[n+1]? = _;rw[hqq];exact hn'
    have hz0:∃z0∈σ.servs,z0.id=z.id/\z.s=z0.s:=by
     rcases List.mem_or_eq_of_mem_set hz with h1|h1
     .rcases List.mem_or_eq_of_mem_set h1 with h2|h2
      .exact⟨z,h2,rfl,rfl⟩
      .exfalso;subst h2;rw[hid]at hn';have hm:=List.mem_of_getElem? hn';rw[<-hqq]at hm;obtain⟨z,hz,e⟩:=List.mem_map.1 ((hL.wait x.id).1 hm);unfold key at e;simp only[Prod.mk.injEq]at e;have:z=x:=AQ h.rise hz hxm e.1;subst this;omega
     .subst h1;exact⟨v,hvm,rfl,rfl⟩
    obtain⟨z0,a,b,c⟩:=hz0;have f:Fp W σ.m l.most h0 (n+1) z0:=by
     rcases F.pl (n+1) z0 a (by rw[b];exact hold)with f|f
     .exact f
     .exact f.1.elim
    have f:=f.s c b;have hb:=f.bud;have F1:=F.h1;refine⟨?_,f.mode,fun hn1=>?_⟩
    .show ((n:Int)+1)*l.most-0<=z.s.bud;have e1:(((n+1:Nat):Int)+1)*l.most=((n:Int)+1)*l.most+l.most:=by
      rw[Int.natCast_add,Int.natCast_one,Int.add_mul ((n:Int)+1) 1,Int.one_mul]
     omega
    .have hw:=f.wait (by omega);show W z.id<=(σ.m-1-n)*l.most+0;have e1:(σ.m-1-((n+1:Nat):Int))*l.most=(σ.m-1-n)*l.most-l.most:=by
      rw[Int.natCast_add,Int.natCast_one,show σ.m-1-((n:Int)+1)=(σ.m-1-n)-1 by omega,Int.sub_mul (σ.m-1-n) 1,Int.one_mul]
     omega
  .rw[if_neg hr]at hk;obtain⟨h2,F2⟩:=H r k hk;refine⟨h2,F2.ofS rfl rfl fun z hz hc=>?_⟩;rcases List.mem_or_eq_of_mem_set hz with h1|h1
   .exact⟨z,oth z h1 r k (fun h=>hr h.symm) hk hc,rfl,rfl,rfl⟩
   .subst h1;exact absurd (show v.id∈chain k from hc) (qw h hk hvm (.inr (by omega)))
def Late(σ : St)(L:List Nat):Prop:=∀i x,σ.servs[i]? = some x->x.sec=2->i∉L->∀(q:Nat) l,headSem x=(q:Int)+1->σ.sems[q]? = some l->x.held≠l.most
theorem Lu{B:Int}{W:Int->Int}{σ : St}(h:Iv B σ)(H:Fds False W σ){i:Nat}{L:List Nat}(hlate:Late σ (i::L))(hiL:i∉L){x:Serv}(hx:σ.servs[i]? = some x)(hj:x.jobs≠[]):Fds False W (gp σ i).1/\Late (gp σ i).1 L:=by
 cases hjs:x.jobs with
 | nil=>exact absurd hjs hj
 | cons j r=>
  obtain⟨v1,v2,v3,v4,v5,v6,v7⟩:=zv h hx hjs;have hlen:(gp σ i).1.servs.length = σ.servs.length:=by have:=congrArg List.length v6;simpa using this
  have others:(∀(r:Nat) k,(gp σ i).1.sems[r]? = some k->∃k0,σ.sems[r]? = some k0/\k.most=k0.most)->(∀x',(gp σ i).1.servs[i]? = some x'->x'.sec=2->x'=x/\(gp σ i).1 = σ/\∀(q:Nat) l,headSem x=(q:Int)+1->σ.sems[q]? = some l->x.held≠l.most)->Late (gp σ i).1 L:=fun hms hme k y' hy' hs2 hkL q l hq hl=>by
   by_cases e:k=i
   .subst e;obtain⟨e1,e2,e3⟩:=hme y' hy' hs2;subst e1;rw[e2]at hl;exact e3 q l hq hl
   .obtain⟨k0,a,b⟩:=hms q l hl;have hkl:k < σ.servs.length:=by rw[<-hlen];exact(List.getElem?_eq_some_iff.1 hy').1
    obtain⟨y2,c,d⟩:=v7 k _ e (List.getElem?_eq_getElem hkl);rw[hy']at c;cases c;have hmost:=h.most k0 (List.mem_of_getElem? a);rw[b];rcases d with d|⟨_,d⟩
    .rw[d]at hs2 hq ⊢;exact hlate k _ (List.getElem?_eq_getElem hkl) hs2 (fun hm=>by rcases List.mem_cons.1 hm with h|h<;>contradiction) q k0 hq a
    .rw[d];show (0:Int)≠k0.most;omega
  have hi:=(List.getElem?_eq_some_iff.1 hx).1;rcases HI h.toIw hx hjs with⟨_,hne,e⟩|⟨hd,hs,_,e⟩|⟨q,l,hs,hq,hl,hh,hk,hE⟩
  .refine⟨by rw[e];exact H,others (fun r k hk=>⟨k,by rw[e]at hk;exact hk,rfl⟩) fun x' hx' hs2=>?_⟩;rw[e,hx]at hx';cases hx';exact⟨rfl,e,fun q l hq hl=>hne q l hs2 hq hl⟩
  .obtain⟨f1,f2,f3,f4,f5⟩:=tR x (after j r);refine⟨by rw[e];exact(H.setS h.toIw hx f1 (.inl hs)).1,others (fun r k hk=>⟨k,by rw[e]at hk;exact hk,rfl⟩) fun x' hx' hs2=>?_⟩;rw[e]at hx';have hx':(σ.servs.set i (fB x (after j r)))[i]? = some x':=hx';rw[List.getElem?_set,if_pos rfl,if_pos hi]at hx';cases hx';omega
  .have go:∀(J:List Job)(t:Bool),(gp σ i).1=(free { σ with servs:=σ.servs.set i (fB x J) } ((q:Int)+1) t).1->(J=r∨(j.done=j.cur.2/\J=after j r))->Fds False W (gp σ i).1/\Late (gp σ i).1 L:=fun J t e hJ=>by
    obtain⟨f1,f2,f3,f4,f5⟩:=tR x J;obtain⟨g1,g2⟩:=yw (h.serv x (List.mem_of_getElem? hx)) hjs (h.idle x (List.mem_of_getElem? hx)) hJ;obtain⟨_,_,_,_,_,_,a7,_⟩:=HH (t:=t) h.toIw hx hk hl hh f1 f2 g1 (by rw[f4];exact h.num x (List.mem_of_getElem? hx)) (by rw[f5];exact h.ran x (List.mem_of_getElem? hx));obtain⟨b1,b2⟩:=Lt h.toIw H t hx hq hs hl f1 f2 hh;refine⟨by rw[e];exact b1,others (by rw[e];exact b2) fun x' hx' hs2=>?_⟩;rw[e,a7]at hx';cases hx';omega
   rcases hE with⟨hd,e⟩|⟨hd,hm,e⟩
   .exact go _ false e (.inr ⟨hd,rfl⟩)
   .exact go _ true e (.inl rfl)
theorem Dp{B:Int}{W:Int->Int}:∀{L:List Nat}{σ : St},Iv B σ->Fds False W σ->Late σ L->L.Nodup->(∀p∈L,∃x,σ.servs[p]? = some x/\x.jobs≠[])->Fds False W (ends σ L).1/\Late (ends σ L).1 []
 | [],σ,_,H,hl,_,_=>⟨H,hl⟩
 | i::r,σ,h,H,hl,hn,hj=>by
  rw[List.nodup_cons]at hn;obtain⟨x,hx,hxj⟩:=hj i (List.mem_cons_self ..);obtain⟨a,b⟩:=Lu h H hl hn.1 hx hxj;cases hjs:x.jobs with
  | nil=>exact absurd hjs hxj
  | cons j rr=>
   obtain⟨v1,v2,v3,v4,v5,v6,v7⟩:=zv h hx hjs;refine Dp (L:=r) (σ:=(gp σ i).1) v1 a b hn.2 fun p hp=>?_
   obtain⟨y,hy,hyj⟩:=hj p (List.mem_cons_of_mem _ hp);obtain⟨y',hy',hN⟩:=v7 p y (fun e=>hn.1 (e▸hp)) hy;refine⟨y',hy',?_⟩;rcases hN with e|⟨_,e⟩
   .rw[e];exact hyj
   .rw[e];exact hyj
theorem Lv{B R:Int}{W:Int->Int}{σ : St}(h:Iw B R σ)(H:Fds False W σ)(hl:Late σ []):Hl σ:=fun q l hq x hx e=>by
 obtain⟨h0,F⟩:=H q l hq;have a:=F.held x hx e;have b:=F.h1;have hc:x.id∈chain l:=by rw[e];exact List.mem_cons_self ..
 obtain⟨c,d⟩:=sQ h hq hx hc;have hs:x.sec=2:=by
  rcases d with d|d
  .exact d.2
  .exfalso;have hne:l.holder≠0:=by have:=(h.serv x hx).id1;omega
   have:=yx h hq hne;rw[List.nodup_cons]at this;exact this.1 (by rw[<-e];exact d.1)
 obtain⟨i,hi⟩:=List.getElem?_of_mem hx;have:=hl i x hi hs (by simp) q l c hq;omega
theorem JK{B:Int}{W:Int->Int}{σ : St}(h:Iv B σ)(hd:Hd σ)(hn:σ.now<4611686018427387904)(H:Fds False W σ)(hlt:Hl σ)(hW:∀x∈σ.servs,x.sec=0->W x.id<=0):Fds False (fun id=>W id+1) (tick σ).1/\Hl (tick σ).1:=by
 have hI:=(tO h).1;rw[pL hn]at hI ⊢;simp only at hI ⊢;obtain⟨s1,s2,s3⟩:=mH h;obtain⟨s4,s5,s6,s7⟩:=oZ h;obtain⟨a1,a2⟩:=Gw h H hlt hW;have hd1:=Br hd;have hL:=iY s1 s2;have hn':(settle σ).1.now<4611686018427387904:=by rw[s4];exact hn
 obtain⟨u1,u2⟩:=wt s1 hn' hL (gI (settle σ).1).length;have b1:=JL s1 s2 hd1 hn' a1 a2;simp only at b1;have e3:=(jh _ (settle σ).1 hL.1).2.2.1;have e6:=(jh _ (settle σ).1 hL.1).2.2.2.2.2;generalize (dU (settle σ).1).map (at_ (settle σ).1.servs)=L at *;have hlate:Late { runs (settle σ).1 L with backs:=gV (runs (settle σ).1 L).backs (gI (settle σ).1).length,now:=aJ .i64 (runs (settle σ).1 L).now 1 } L:=by
  intro i x hx hs hiL q l hq hl;have hx:(runs (settle σ).1 L).servs[i]? = some x:=hx;have hl:(runs (settle σ).1 L).sems[q]? = some l:=hl;rw[e6,if_neg hiL]at hx;rw[e3]at hl;have hxm:=List.mem_of_getElem? hx;have:x.id=l.holder:=by
   obtain⟨q',l',q1,q2,q3,_⟩:=sN s1.toIw hx hs;have:q'=q:=by omega
   subst this;rw[hl]at q2;cases q2;exact q3.symm
  have:=a2 q l hl x hxm this;omega
 obtain⟨c1,c2⟩:=Dp (W:=fun id=>W id+1) (L:=L) u1 (fun q l hl=>b1 q l hl) hlate hL.1 (fun p hp=>qv hL p hp);exact⟨c1,Lv hI.toIw c1 c2⟩
end
end Go.AX.pm
namespace Go.AX.pm
open Go.AX
noncomputable section
structure Gh (σ : St) (W U D:Int→Int):Prop where
  fd:Fds False W σ
  hl:Hl σ
  hd:Hd σ
  w0:∀ x∈σ.servs,x.sec=0→W x.id≤0
  wb:∀ id,0≤W id∧W id≤σ.now
  us:∀ x∈σ.servs,Us (U x.id) (D x.id) x.s
  no:∀ id,(∀ x∈σ.servs,x.id≠id)→W id=0∧U id=0∧D id=0
theorem Ml {m:Int} {most:List Int} (h:(new m most).2=0):Gh (new m most).1 (fun _=>0) (fun _=>0) (fun _=>0):=by
  obtain ⟨hI,e,_,_,_,hm⟩:=HQ h
  rw [e] at hI ⊢
  refine ⟨fun q l hl=>⟨0,Int.le_refl _,?_,fun x hx=>(nomatch hx),fun k x hx=>(nomatch hx)⟩,fun q l hl x hx=>(nomatch hx),fun x hx=>(nomatch hx),fun x hx=>(nomatch hx),fun _=>⟨Int.le_refl _,Int.le_refl _⟩,fun x hx=>(nomatch hx),fun _ _=>⟨rfl,rfl,rfl⟩⟩
  have:=hI.most l (List.mem_of_getElem? hl)
  omega
theorem Mm {B:Int} {σ : St} {W U D:Int→Int} (h:Iv B σ) (hB:0≤B) (G:Gh σ W U D) (id q p:Int):Gh (add σ id q p).1 W U D:=by
  obtain ⟨f1,f2⟩:=Lq h G.fd id q p
  have f3:=Mk G.hd id q p
  have f4:=(HR h hB id q p).2.2.1
  refine ⟨f1,f2 G.hl,f3,?_,by rw [f4]; exact G.wb,?_,?_⟩
  all_goals
    unfold add
    cases (dJ id 1 || dJ 255 id) with
    | true=>first | exact G.w0 | exact G.us | exact G.no
    | false=>
    cases hh:has σ.servs id with
    | true=>first | exact G.w0 | exact G.us | exact G.no
    | false=>
    cases leI 32 (aQ σ.servs.length) with
    | true=>first | exact G.w0 | exact G.us | exact G.no
    | false=>
    cases hc:eX (gk q p).2 0 with
    | true=>first | exact G.w0 | exact G.us | exact G.no
    | false=>
      have hno:∀ x∈σ.servs,x.id≠id:=fun x hx e=>by
        have:=(tT h.rise).2 ⟨x,hx,e⟩
        rw [hh] at this; cases this
      obtain ⟨z1,z2,z3⟩:=G.no id hno
      simp only [cond_false]
      first
      | intro x hx hs
        rcases pM.1 hx with e | e
        · rw [e]; show W id≤0; omega
        · exact G.w0 x e hs
      | intro x hx
        rcases pM.1 hx with e | e
        · obtain ⟨c1,_,c3⟩:=wk (fP.1 hc)
          rw [e]
          show Us (U id) (D id) (gk q p).1
          have hq:=c1.q1
          rw [c3] at hq ⊢
          rw [z2,z3]
          exact ⟨Int.le_refl _,Int.le_refl _,by show (0:Int)≤q; have hq:1≤q:=hq; omega,fun _=>by show (0:Int)+0≤q; have hq:1≤q:=hq; omega⟩
        · exact G.us x e
      | exact fun id' hid'=>G.no id' fun x hx=>hid' x (pM.2 (.inr hx))
theorem HV {l l':List Serv} (e:l'.map (·.id)=l.map (·.id)) {id:Int} (h:∀ x∈l',x.id≠id):∀ x∈l,x.id≠id:=fun x hx hid=>by
  have:id∈l'.map (·.id):=by rw [e]; exact List.mem_map.2 ⟨x,hx,hid⟩
  obtain ⟨y,hy,e2⟩:=List.mem_map.1 this
  exact h y hy e2
theorem EG {B:Int} {σ : St} (h:Iv B σ) (id:Int) (p:List Step):(release σ id p).1.servs.map (fun x=>(x.id,x.sec)) = σ.servs.map (fun x=>(x.id,x.sec)):=by
  have st:∀ {i:Nat} {v v':Serv},σ.servs[i]? = some v→(v'.id,v'.sec)=(v.id,v.sec)→(σ.servs.set i v').map (fun x=>(x.id,x.sec)) = σ.servs.map (fun x=>(x.id,x.sec)):=fun hv e=>by
    rw [jm,e]
    exact pe (by rw [List.getElem?_map,hv]; rfl)
  unfold release
  cases (!has σ.servs id) with
  | true=>rfl
  | false=>
  cases (!ma p σ.sems.length) with
  | true=>rfl
  | false=>
    simp only [cond_false]
    split
    · rfl
    · rename_i v hv
      cases leI 8 (aQ v.jobs.length) with
      | true=>rfl
      | false=>
        simp only [cond_false]
        cases (!v.idle) with
        | true=>exact st hv rfl
        | false=>
          simp only [cond_false]
          cases eX (gn v.s σ.now).2 0 with
          | true=>rfl
          | false=>exact st hv rfl
theorem Gs {B:Int} {σ : St} {W U D:Int→Int} (h:Iv B σ) (hB:B < 4611686018427387904) (G:Gh σ W U D) (id:Int) (p:List Step):Gh (release σ id p).1 W U D:=by
  obtain ⟨f1,f2⟩:=EH h G.fd id p
  have f3:=Gk G.hd id p
  have f4:=(zB h hB id p).2.2.1
  have f5:=Gt h id p
  have f6:=EG h id p
  have f7:(release σ id p).1.servs.map (·.id) = σ.servs.map (·.id):=by
    have:=congrArg (List.map (·.1)) f6
    rw [List.map_map,List.map_map] at this
    exact this
  have idx:∀ x'∈(release σ id p).1.servs,∃ x∈σ.servs,x.id=x'.id∧x.sec=x'.sec∧Sv x.s x'.s:=fun x' hx'=>by
    obtain ⟨k,hk⟩:=List.getElem?_of_mem hx'
    obtain ⟨x,hx,hv⟩:=f5 k x' hk
    have e:=congrArg (·[k]?) f6
    simp only [List.getElem?_map,hk,hx,Option.map_some,Option.some.injEq,Prod.mk.injEq] at e
    exact ⟨x,List.mem_of_getElem? hx,e.1.symm,e.2.symm,hv⟩
  refine ⟨f1,f2 G.hl,f3,fun x' hx' hs=>?_,by rw [f4]; exact G.wb,fun x' hx'=>?_,fun id' hid'=>G.no id' (HV f7 hid')⟩
  · obtain ⟨x,hx,e1,e2,_⟩:=idx x' hx'
    rw [← e1]; exact G.w0 x hx (e2.trans hs)
  · obtain ⟨x,hx,e1,_,e3⟩:=idx x' hx'
    rw [← e1]; exact (G.us x hx).still e3
theorem EI (s:St):jo (settle s).1=jo s:=by
  have h1:jo (gj s)=jo s:=by
    show (s.servs.map fun v=>(gi s.now v).1).map _=_
    rw [List.map_map]
    exact List.map_congr_left fun v _=>(mT s.now v).2.2.1
  have h2:∀ (n:Nat) (τ : St),jo (dS n τ).1=jo τ:=by
    intro n
    induction n with
    | zero=>intro τ; rfl
    | succ n ih=>
      intro τ
      unfold dS
      split
      · rfl
      · rename_i σ' e hr
        show jo (dS n σ').1=_
        rw [ih]
        obtain ⟨p,_,v,_,hv,_,_,e,_⟩:=gE hr
        rw [e]
        exact lH hv rfl
  have h3:∀ (L:List (Nat×Int)) (τ : St),jo (eY τ L).1=jo τ:=by
    intro L
    induction L with
    | nil=>intro τ; rfl
    | cons p r ih=>
      intro τ
      obtain ⟨i,q⟩:=p
      show jo (eY (fe τ i q).1 r).1=_
      rw [ih]
      unfold fe
      split
      · rename_i v l hv hl
        cases eX l.holder 0 with
        | true=>exact lH hv rfl
        | false=>exact lH hv rfl
      · rfl
  unfold settle
  simp only
  rw [h3,h2,h1]
theorem Dm {B:Int} {σ : St} (h:Iv B σ) (hn:σ.now < 4611686018427387904):(tick σ).1.servs.map (·.id) = σ.servs.map (·.id):=by
  rw [pL hn]
  simp only
  obtain ⟨s1,s2,s3⟩:=mH h
  obtain ⟨s4,s5,s6,s7⟩:=oZ h
  have hL:=iY s1 s2
  have hn':(settle σ).1.now < 4611686018427387904:=by rw [s4]; exact hn
  obtain ⟨u1,u2⟩:=wt s1 hn' hL (gI (settle σ).1).length
  obtain ⟨v1,v2,v3,v4,v5,v6⟩:=tS (L:=(dU (settle σ).1).map (at_ (settle σ).1.servs)) u1 hL.1 (fun p hp=>qv hL p hp)
  refine v6.trans (Eq.trans ?_ s7)
  obtain ⟨e1,e2,e3,e4,e5,e6⟩:=jh ((dU (settle σ).1).map (at_ (settle σ).1.servs)) (settle σ).1 hL.1
  apply List.ext_getElem?
  intro j
  rw [List.getElem?_map,List.getElem?_map]
  show ((runs (settle σ).1 ((dU (settle σ).1).map (at_ (settle σ).1.servs))).servs[j]?).map _=_
  rw [e6]
  split
  · cases (settle σ).1.servs[j]? with
    | none=>rfl
    | some x=>simp only [Option.map_some,jg]
  · rfl
theorem JI {B:Int} {σ : St} {W U D:Int→Int} (h:Iv B σ) (G:Gh σ W U D) (hn:σ.now < 4611686018427387904) {k:Nat} {x':Serv} (hx':(tick σ).1.servs[k]? = some x') :
    ∃ x,σ.servs[k]? = some x∧x.id=x'.id∧((x'.ran=x.ran+1∧Us ((if x'.s.due≠D x'.id then 0 else U x'.id)+1) x'.s.due x'.s)∨(x'.ran=x.ran∧Us (U x'.id) (D x'.id) x'.s)):=by
  obtain ⟨x,hx,hS⟩:=Lr h hn k x' hx'
  obtain ⟨r1,r2,r3,r4,r5⟩:=JJ h hn
  have hI:=(tO h).1
  have hid:x.id=x'.id:=by
    have e:=congrArg (·[k]?) (Dm h hn)
    simp only [List.getElem?_map,hx',hx,Option.map_some,Option.some.injEq] at e
    exact e.symm
  refine ⟨x,hx,hid,?_⟩
  have hxl:k < (settle σ).1.servs.length:=by rw [← r5]; exact (List.getElem?_eq_some_iff.1 hx').1
  have hy:=List.getElem?_eq_getElem hxl
  have hr:=r1 k x' _ hx' hy
  have hyr:(settle σ).1.servs[k].ran=x.ran:=by
    have e:=congrArg (·[k]?) (EI σ)
    unfold jo at e
    simp only [List.getElem?_map,hy,hx,Option.map_some,Option.some.injEq] at e
    exact e
  have hU:=G.us x (List.mem_of_getElem? hx)
  rw [← hid]
  by_cases hk:k∈(dU (settle σ).1).map (at_ (settle σ).1.servs)
  · rw [if_pos hk] at hr hS
    exact .inl ⟨by omega,hU.run hS (hI.serv x' (List.mem_of_getElem? hx')).s.b1⟩
  · rw [if_neg hk] at hr hS
    exact .inr ⟨by omega,hU.still hS⟩
theorem Ls {B:Int} {σ : St} {W U D W' U' D':Int→Int} (h:Iv B σ) (G:Gh σ W U D) (hn:σ.now < 4611686018427387904)
    (h1:∀ x∈(tick σ).1.servs,W' x.id=(if x.sec=1 then W x.id+1 else 0)∧Us (U' x.id) (D' x.id) x.s) (h2:∀ id,(∀ x∈(tick σ).1.servs,x.id≠id)→W' id=W id∧U' id=U id∧D' id=D id):Gh (tick σ).1 W' U' D':=by
  obtain ⟨f1,f2⟩:=JK h G.hd hn G.fd G.hl G.w0
  have hnow:(tick σ).1.now = σ.now+1:=by have:=(tO h).2.2.2.1; rw [if_pos hn] at this; exact this
  refine ⟨fun q l hl=>?_,f2,Lo h G.hd,fun x hx hs=>?_,fun id=>?_,fun x hx=>(h1 x hx).2,fun id hid=>?_⟩
  · obtain ⟨h0,F⟩:=f1 q l hl
    refine ⟨h0,F.h0,F.h1,F.held,fun k x hx hk=>?_⟩
    rcases F.pl k x hx hk with f | f
    · refine .inl ⟨f.bud,f.mode,fun hk1=>?_⟩
      have a:=f.wait hk1
      have a:W x.id+1≤_:=a
      have b:=(G.wb x.id).1
      rw [(h1 x hx).1]
      split <;> omega
    · exact f.1.elim
  · rw [(h1 x hx).1,if_neg (by omega)]; exact Int.le_refl _
  · have b:=G.wb id
    rw [hnow]
    by_cases hc:∃ x∈(tick σ).1.servs,x.id=id
    · obtain ⟨x,hx,rfl⟩:=hc
      rw [(h1 x hx).1]
      split <;> omega
    · rw [(h2 id fun x hx e=>hc ⟨x,hx,e⟩).1]; omega
  · obtain ⟨a,b,c⟩:=h2 id hid
    obtain ⟨d,e,f⟩:=G.no id (HV (Dm h hn) hid)
    exact ⟨a.trans d,b.trans e,c.trans f⟩
def fI (l:Lock) (x:Serv):Bool:=dO x.sec 2 && dO l.holder x.id
theorem Dn (l:Lock) (L:List Serv) (x:Serv):((L ++ [x]).filter (fI l)).length=(L.filter (fI l)).length+(if fI l x=true then 1 else 0):=by
  rw [List.filter_append,List.length_append]
  by_cases h:fI l x=true
  · simp [h]
  · simp [h]
theorem EJ {B R:Int} {σ : St} (h:Iw B R σ) {q:Nat} {l:Lock} (hl:σ.sems[q]? = some l):(σ.servs.filter (fI l)).length=if l.holder=0 then 0 else 1:=by
  have hL:=h.lock q l hl
  have hnd:(σ.servs.filter (fI l)).Nodup:=List.Nodup.sublist List.filter_sublist ((List.pairwise_map.1 (Rise.nd h.rise)).imp fun h e=>h (congrArg (·.id) e))
  have hid:∀ x∈σ.servs.filter (fI l),x∈σ.servs∧l.holder=x.id:=fun x hx=>by
    obtain ⟨a,b⟩:=List.mem_filter.1 hx
    unfold fI at b
    rw [Bool.and_eq_true] at b
    exact ⟨a,eP.1 b.2⟩
  split
  · rename_i h0
    rw [List.length_eq_zero_iff,List.eq_nil_iff_forall_not_mem]
    intro x hx
    obtain ⟨a,b⟩:=hid x hx
    have:=(h.serv x a).id1
    omega
  · rename_i h0
    obtain ⟨y,hy,e⟩:=List.mem_map.1 ((hL.hold l.holder).1 ⟨h0,rfl⟩)
    unfold key at e
    simp only [Prod.mk.injEq] at e
    have hym:y∈σ.servs.filter (fI l):=List.mem_filter.2 ⟨hy,by unfold fI; rw [eP.2 e.2.1,eP.2 e.1.symm]; rfl⟩
    have hall:∀ x∈σ.servs.filter (fI l),x=y:=fun x hx=>by
      obtain ⟨a,b⟩:=hid x hx
      exact AQ h.rise a hy (b.symm.trans e.1.symm)
    generalize σ.servs.filter (fI l)=F at hnd hym hall
    cases F with
    | nil=>cases hym
    | cons a r=>
      cases r with
      | nil=>rfl
      | cons b r=>
        exfalso
        rw [List.nodup_cons] at hnd
        exact hnd.1 (by rw [hall a (by simp),← hall b (by simp)]; simp)
theorem Gh.held {σ : St} {W U D:Int→Int} (G:Gh σ W U D) {q:Nat} {l:Lock} (hl:σ.sems[q]? = some l) {x:Serv} (hx:x∈σ.servs) (hh:fI l x=true):0≤x.held∧x.held < l.most:=by
  unfold fI at hh
  rw [Bool.and_eq_true] at hh
  obtain ⟨h0,F⟩:=G.fd q l hl
  have e:=(eP.1 hh.2).symm
  have:=F.held x hx e
  have:=F.h0
  exact ⟨by omega,G.hl q l hl x hx e⟩
theorem Gh.few {B:Int} {σ : St} {W U D:Int→Int} (h:Iv B σ) (G:Gh σ W U D) {q:Nat} {l:Lock} (hl:σ.sems[q]? = some l):(l.queue.length:Int) < σ.m:=by
  obtain ⟨h0,F⟩:=G.fd q l hl
  have hm:=h.m1
  by_cases hne:l.holder=0
  · rw [(h.lock q l hl).free hne]
    show ((0:Nat):Int) < σ.m
    omega
  · have full:=F.full h hl (G.hl q l hl)
    have:=Bu h hl (fun x hx hc=>by
      obtain ⟨k,hk⟩:=List.getElem?_of_mem hc
      exact (full k x hx hk).2.1) hne
    unfold chain at this
    rw [List.length_cons] at this
    omega
theorem Gh.waits {B:Int} {σ : St} {W U D:Int→Int} (h:Iv B σ) (G:Gh σ W U D) {q:Nat} {l:Lock} (hl:σ.sems[q]? = some l) {k:Nat} {id:Int} (hk:l.queue[k]? = some id):W id≤(σ.m - 1)*l.most:=by
  obtain ⟨h0,F⟩:=G.fd q l hl
  have hmost:=h.most l (List.mem_of_getElem? hl)
  obtain ⟨x,hx,e⟩:=List.mem_map.1 (((h.lock q l hl).wait id).1 (List.mem_of_getElem? hk))
  unfold key at e
  simp only [Prod.mk.injEq] at e
  obtain ⟨rfl,_⟩:=e
  rcases F.pl (k+1) x hx (by show (l.holder :: l.queue)[k+1]? = _; exact hk) with f | f
  · have a:=f.wait (by omega)
    have b:=F.h1
    have e1:(σ.m - 1 - ((k+1:Nat):Int))*l.most=(σ.m - 1)*l.most - ((k:Int)*l.most+l.most):=by
      rw [Int.natCast_add,Int.natCast_one,Int.sub_mul,Int.add_mul,Int.one_mul]
    have c:0≤(k:Int)*l.most:=Int.mul_nonneg (by omega) (by omega)
    omega
  · exact f.1.elim
end
end Go.AX.pm
namespace Go.AX
open Go
section
variable {cx:Cx}{m0 u mm mm' m:Mem}{E:Nat->Option AObj}
theorem Bes.wf'(h:Bes E u mm)(hw:Wf u):Wf mm:=⟨by rw[h.fl,h.nx];exact hw.1,fun b hb=>by
 rw[h.get b];cases he:E b with
 | some o=>have:=(h.gap b o he).2;rw[h.nx]at hb;omega
 | none=>exact hw.2 b (by rw[<-h.nx];exact hb)⟩
theorem Bes.rd'{b o:Nat}{v:Value}(h:Bes E u mm)(e:rd u b o=some v):rd mm b o=some v:=by
 cases hg:u.hp.get b with
 | none=>
  unfold rd at e;rw[hg]at e;cases e
 | some ob=>rw[rs ((h.got hg).trans hg.symm)];exact e
theorem Bes.cells{α : Type}{enc:α->List Value}{b o:Nat}{x:α}(h:Bes E u mm)(hc:sF enc u b o x):sF enc mm b o x:=fun j v hv=>h.rd' (hc j v hv)
theorem Bes.arr{α : Type}{enc:α->List Value}{s:Nat}{a:Option Addr}{n:Nat}{l:List α}(h:Bes E u mm)(ha:Arr enc s u a n l):Arr enc s mm a n l:=ha.imp fun _ _ _ _ hc=>h.cells hc
def MapI(m:Mem)(r:Nat)(F:Int->Int):Prop:=∃f,mB m r .i64 f/\∀k,f k=some (.int .i64 (F k))∨(f k=none/\F k=0)
theorem MapI.congr{r:Nat}{F:Int->Int}(h:MapI m r F)(hg:mm.hp.get r=m.hp.get r):MapI mm r F:=let ⟨f,a,b⟩:=h;⟨f,a.congr hg,b⟩
theorem MapI.newO:MapI (newO m (.map [] 0)) m.nx fun _=>0:=⟨_,mB.newO,fun _=>.inr ⟨rfl,rfl⟩⟩
theorem MapI.look{r:Nat}{F:Int->Int}(h:MapI m r F){t et:TypeId}{n:Int}(hk:AX.mapKey cx t (.int .i64 n)=some (.int .i64,et))(hz:fN cx et=some (.int .i64 0)) :
  iA cx m t (.map (some r)) (.int .i64 n) false=some (.int .i64 (F n)):=by
 obtain⟨f,a,b⟩:=h;rw[a.look hk hz];rcases b n with e|⟨e,e2⟩
 .rw[e];rfl
 .rw[e,e2];rfl
theorem MapI.isMap{r:Nat}{F:Int->Int}(h:MapI m r F):∃es cl,m.hp.get r=some (.map es cl):=by
 obtain⟨f,⟨es,cl,h1,_⟩,_⟩:=h;exact⟨es,cl,h1⟩
def oR(F:Int->Int)(n v:Int):Int->Int:=fun k=>if k=n then v else F k
theorem MapI.update{r:Nat}{F:Int->Int}(h:MapI m r F)(hf:m.fl<=r){t et:TypeId}{n:Int}(hk:AX.mapKey cx t (.int .i64 n)=some (.int .i64,et))(v:Int) :
  ∃m',eZ cx m t (.map (some r)) (.int .i64 n) (.int .i64 v)=some m'/\MapI m' r (oR F n v)/\m'.nx=m.nx/\m'.fl=m.fl/\∀b,b≠r->m'.hp.get b=m.hp.get b:=by
 obtain⟨f,a,b⟩:=h;obtain⟨m',h1,h2,h3,h4,h5⟩:=a.update hf hk (.int .i64 v);refine⟨m',h1,⟨_,h2,fun k=>?_⟩,h3,h4,h5⟩;unfold AJ oR;by_cases e:k=n
 .left;rw[if_pos e,if_pos e]
 .rw[if_neg e,if_neg e];exact b k
structure MapsS (m0 u mm:Mem)(r1 r2 r3:Nat)(W U D:Int->Int):Prop where
 ex:∃E,Bes E u mm/\(∃o,E r1=some o)/\(∃o,E r2=some o)/\(∃o,E r3=some o)/\∀b o,E b=some o->m0.nx<=b
 wu:Wf u
 k:Keep m0 u
 m1:MapI mm r1 W
 m2:MapI mm r2 U
 m3:MapI mm r3 D
 ne:r1≠r2/\r1≠r3/\r2≠r3
 fl:m0.fl<=r1/\m0.fl<=r2/\m0.fl<=r3
variable {r1 r2 r3:Nat}{W U D:Int->Int}
theorem MapsS.bes(h:MapsS m0 u mm r1 r2 r3 W U D):∃E,Bes E u mm:=let ⟨E,a,_⟩:=h.ex;⟨E,a⟩
theorem MapsS.wm(h:MapsS m0 u mm r1 r2 r3 W U D):Wf mm:=let ⟨E,a⟩:=h.bes;a.wf' h.wu
theorem MapsS.arr(h:MapsS m0 u mm r1 r2 r3 W U D){α : Type}{enc:α->List Value}{s:Nat}{a:Option Addr}{n:Nat}{l:List α}(ha:Arr enc s u a n l):Arr enc s mm a n l:=let ⟨E,e⟩:=h.bes;e.arr ha
theorem MapsS.keep(h:MapsS m0 u mm r1 r2 r3 W U D):Keep m0 mm:=by
 obtain⟨E,e,_,_,_,new⟩:=h.ex;refine⟨h.wm,by have:=h.k.nx;rw[e.nx];exact this,e.fl.trans h.k.fl,fun b hb=>?_⟩;rw[e.get b];cases he:E b with
 | some o=>have:=new b o he;omega
 | none=>exact h.k.get b hb
theorem MapsS.begin(hw:Wf m)(k:Keep m0 m):MapsS m0 (AX.bump m 3) (AX.newO (AX.newO (AX.newO m (.map [] 0)) (.map [] 0)) (.map [] 0)) m.nx (AX.newO m (.map [] 0)).nx (AX.newO (AX.newO m (.map [] 0)) (.map [] 0)).nx (fun _=>0) (fun _=>0) (fun _=>0):=by
 have hf:=hw.1;have hkf:=k.fl;have hkn:=k.nx;have n1:(AX.newO m (.map [] 0)).nx=m.nx+1:=rfl;have n2:(AX.newO (AX.newO m (.map [] 0)) (.map [] 0)).nx=m.nx+2:=rfl;refine⟨⟨fun b=>if b=m.nx∨b=m.nx+1∨b=m.nx+2 then some (.map [] 0) else none,⟨rfl,rfl,fun b=>?_,fun b o e=>?_⟩,⟨_,if_pos (.inl rfl)⟩,⟨_,by rw[n1];exact if_pos (.inr (.inl rfl))⟩,⟨_,by rw[n2];exact if_pos (.inr (.inr rfl))⟩,fun b o e=>?_⟩,hw.bump,k.bump,?_,?_,MapI.newO,?_,?_⟩
 .show _=match (if b=m.nx∨b=m.nx+1∨b=m.nx+2 then some (AObj.map [] 0) else none)with|some o=>some o|none=>m.hp.get b
  rw[gK,gK,gK,n1,n2];by_cases h0:b=m.nx
  .rw[if_neg (by omega),if_neg (by omega),if_pos h0,if_pos (.inl h0)]
  .by_cases h1:b=m.nx+1
   .rw[if_neg (by omega),if_pos h1,if_pos (.inr (.inl h1))]
   .by_cases h2:b=m.nx+2
    .rw[if_pos h2,if_pos (.inr (.inr h2))]
    .rw[if_neg h2,if_neg h1,if_neg h0,if_neg (by omega)]
 .have e':(if b=m.nx∨b=m.nx+1∨b=m.nx+2 then some (AObj.map [] 0) else none)=some o:=e;split at e'
  .rename_i hb;exact⟨hw.2 b (by omega),by show b<m.nx+3;omega⟩
  .cases e'
 .have e':(if b=m.nx∨b=m.nx+1∨b=m.nx+2 then some (AObj.map [] 0) else none)=some o:=e;split at e'
  .omega
  .cases e'
 .exact MapI.congr (MapI.newO (m:=m)) (by rw[gK,gK,if_neg (by rw[n2];omega),if_neg (by rw[n1];omega)])
 .exact MapI.congr (MapI.newO (m:=AX.newO m (.map [] 0))) (by rw[gK,if_neg (by rw[n1,n2];omega)])
 .rw[n1,n2];omega
 .rw[n1,n2];omega
theorem MapsS.call{u':Mem}(h:MapsS m0 u mm r1 r2 r3 W U D)(hB:∀E,Bes E u mm->Bes E u' mm')(hw:Wf u')(k:Keep u u'):MapsS m0 u' mm' r1 r2 r3 W U D:=by
 obtain⟨E,e,⟨o1,e1⟩,⟨o2,e2⟩,⟨o3,e3⟩,new⟩:=h.ex;have e':=hB E e;have g:∀r o,E r=some o->mm'.hp.get r=mm.hp.get r:=fun r o he=>by rw[e'.get r,e.get r,he]
 exact⟨⟨E,e',⟨o1,e1⟩,⟨o2,e2⟩,⟨o3,e3⟩,new⟩,hw,h.k.trans k,h.m1.congr (g r1 o1 e1),h.m2.congr (g r2 o2 e2),h.m3.congr (g r3 o3 e3),h.ne,h.fl⟩
theorem MapsS.bump{n:Nat}(h:MapsS m0 u mm r1 r2 r3 W U D):MapsS m0 (AX.bump u n) (AX.bump mm n) r1 r2 r3 W U D:=
 h.call (fun E e=>e.bump n) h.wu.bump (Keep.refl h.wu).bump
theorem MapsS.put{r:Nat}{W' U' D':Int->Int}(h:MapsS m0 u mm r1 r2 r3 W U D)(hr:r=r1∨r=r2∨r=r3)(hn:mm'.nx=mm.nx)(hf:mm'.fl=mm.fl)(hg:∀b,b≠r->mm'.hp.get b=mm.hp.get b)(hex:∃o,mm'.hp.get r=some o)
  (h1:MapI mm' r1 W')(h2:MapI mm' r2 U')(h3:MapI mm' r3 D'):MapsS m0 u mm' r1 r2 r3 W' U' D':=by
 obtain⟨E,e,⟨o1,e1⟩,⟨o2,e2⟩,⟨o3,e3⟩,new⟩:=h.ex;obtain⟨o,ho⟩:=hex;have hE:∃o,E r=some o:=by rcases hr with rfl|rfl|rfl<;>exact⟨_,by assumption⟩
 obtain⟨oo,hE⟩:=hE;have st:∀r',(∃o,E r'=some o)->∃o',(if r'=r then some o else E r')=some o':=fun r' ⟨o',e'⟩=>by
  by_cases q:r'=r
  .exact⟨o,if_pos q⟩
  .exact⟨o',by rw[if_neg q];exact e'⟩
 refine⟨⟨fun b=>if b=r then some o else E b,⟨hn.trans e.nx,hf.trans e.fl,fun b=>?_,fun b o' e'=>?_⟩,st r1 ⟨o1,e1⟩,st r2 ⟨o2,e2⟩,st r3 ⟨o3,e3⟩,fun b o' e'=>?_⟩,h.wu,h.k,h1,h2,h3,h.ne,h.fl⟩
 .show _=match (if b=r then some o else E b)with|some o=>some o|none=>u.hp.get b
  by_cases q:b=r
  .subst q;rw[if_pos rfl];exact ho
  .rw[if_neg q,hg b q];exact e.get b
 .have e':(if b=r then some o else E b)=some o':=e';by_cases q:b=r
  .subst q;exact e.gap b oo hE
  .rw[if_neg q]at e';exact e.gap b o' e'
 .have e':(if b=r then some o else E b)=some o':=e';by_cases q:b=r
  .subst q;exact new b oo hE
  .rw[if_neg q]at e';exact new b o' e'
theorem MapsS.flm(h:MapsS m0 u mm r1 r2 r3 W U D):mm.fl=m0.fl:=let ⟨E,e⟩:=h.bes;e.fl.trans h.k.fl
theorem MapsS.upd1(h:MapsS m0 u mm r1 r2 r3 W U D){t et:TypeId}{n:Int}(hk:AX.mapKey cx t (.int .i64 n)=some (.int .i64,et))(v:Int) :
  ∃m',eZ cx mm t (.map (some r1)) (.int .i64 n) (.int .i64 v)=some m'/\MapsS m0 u m' r1 r2 r3 (oR W n v) U D:=by
 obtain⟨m',a,b,c,d,e⟩:=h.m1.update (cx:=cx) (by rw[h.flm];exact h.fl.1) hk v;obtain⟨es,cl,q⟩:=b.isMap;exact⟨m',a,h.put (.inl rfl) c d e ⟨_,q⟩ b (h.m2.congr (e _ (fun q=>h.ne.1 q.symm))) (h.m3.congr (e _ (fun q=>h.ne.2.1 q.symm)))⟩
theorem MapsS.upd2(h:MapsS m0 u mm r1 r2 r3 W U D){t et:TypeId}{n:Int}(hk:AX.mapKey cx t (.int .i64 n)=some (.int .i64,et))(v:Int) :
  ∃m',eZ cx mm t (.map (some r2)) (.int .i64 n) (.int .i64 v)=some m'/\MapsS m0 u m' r1 r2 r3 W (oR U n v) D:=by
 obtain⟨m',a,b,c,d,e⟩:=h.m2.update (cx:=cx) (by rw[h.flm];exact h.fl.2.1) hk v;obtain⟨es,cl,q⟩:=b.isMap;exact⟨m',a,h.put (.inr (.inl rfl)) c d e ⟨_,q⟩ (h.m1.congr (e _ h.ne.1)) b (h.m3.congr (e _ (fun q=>h.ne.2.2 q.symm)))⟩
theorem MapsS.upd3(h:MapsS m0 u mm r1 r2 r3 W U D){t et:TypeId}{n:Int}(hk:AX.mapKey cx t (.int .i64 n)=some (.int .i64,et))(v:Int) :
  ∃m',eZ cx mm t (.map (some r3)) (.int .i64 n) (.int .i64 v)=some m'/\MapsS m0 u m' r1 r2 r3 W U (oR D n v):=by
 obtain⟨m',a,b,c,d,e⟩:=h.m3.update (cx:=cx) (by rw[h.flm];exact h.fl.2.2) hk v;obtain⟨es,cl,q⟩:=b.isMap;exact⟨m',a,h.put (.inr (.inr rfl)) c d e ⟨_,q⟩ (h.m1.congr (e _ h.ne.2.1)) (h.m2.congr (e _ h.ne.2.2)) b⟩
theorem MapsS.callV(hof:mh cx){f:FuncId}{args:List Value}{Q R:Value->Mem->Prop}(h:MapsS m0 u mm r1 r2 r3 W U D)(hc:ah cx f args u fun r u'=>Keep u u'/\R r u')
  (hQ:∀r u' mm',MapsS m0 u' mm' r1 r2 r3 W U D->Keep u u'->R r u'->Q r mm'):ah cx f args mm Q:=by
 obtain⟨E,e,⟨o1,e1⟩,⟨o2,e2⟩,⟨o3,e3⟩,new⟩:=h.ex;refine ah.mono (ah.beside hof e h.wu hc) ?_;rintro r mm' ⟨u',hB,hw,k,hR⟩;refine hQ r u' mm' ?_ k hR;have g:∀r o,E r=some o->mm'.hp.get r=mm.hp.get r:=fun r o he=>by rw[hB.get r,e.get r,he]
 exact⟨⟨E,hB,⟨o1,e1⟩,⟨o2,e2⟩,⟨o3,e3⟩,new⟩,hw,h.k.trans k,h.m1.congr (g r1 o1 e1),h.m2.congr (g r2 o2 e2),h.m3.congr (g r3 o3 e3),h.ne,h.fl⟩
end
end Go.AX
