import Derived.Test.YthpnifigjfplbaaGreatQU34
import Derived.Test.YthpnifigjfplbaaGreatQU24
import Derived.Test.YthpnifigjfplbaaGreatQU26
set_option linter.unusedVariables false
set_option linter.unusedSimpArgs false
set_option linter.unusedSectionVars false
namespace Go.Proofs.YthpnifigjfplbaaGreat.vc
open Go Go.AX
theorem fT{α : Type}(f:Nat->α)(i:Nat):il f i (f i)=f:=by
 funext z;unfold il;split
 .rename_i e;rw[e]
 .rfl
theorem dZ{α : Type}{l:List α}{i:Nat}{x y:α}(h:l[i]? = some x):(l.set i y)[i]? = some y:=by
 rw[List.getElem?_set];simp[(gQ1 h).1]
def xw(w w':Nat->Kd):Prop:=∀k,(∃b,w k = .own b)->∃b,w' k = .own b
theorem xw.refl(w:Nat->Kd):xw w w:=fun _ h=>h
theorem xw.up(w:Nat->Kd)(i:Nat)(b:Bool):xw w (il w i (.own b)):=fun k h=>by
 by_cases e:k=i
 .subst e;exact⟨b,fy ..⟩
 .rw[eV e];exact h
section
variable {wj wq:Nat->Kd} {m0 m:Mem} {lam:Nat->Lb} {Q:Value->Mem->Prop} {M now:Int} {a1 a2 a3:Option Addr} {n1 c1 n2 c2 n3 c3:Nat} {ss:List SV} {js:Nat->List JV} {ls:List LV} {qs:Nat->List Int} {σ : pm.St}
theorem Dp:cx.un.get dt=some (.slice t_int):=by kernel_rfl
theorem A8:dO cx t_int=some 1:=by kernel_rfl
theorem Io{j:Nat}{thrown:Bool}{l:pm.Lock}{w:Bool}(hO:Ow TT wj wq m0 m lam a1 n1 c1 a2 n2 c2 a3 n3 c3 ss js ls qs σ)(eM:M = σ.m)(en:now = σ.now)(hn1:n1<=100000)(hr:Rise σ.servs)(hl:σ.sems[j]? = some l)(hn2:n2<=100000)(hκ : wq j = .own w)
  (hq:∀x r,l.queue=x::r->∃v,σ.servs[pm.at_ σ.servs x]? = some v)
  (h:∀m' a n c ss' ls' qs' wq',Ow TT wj wq' m0 m' lam a1 n1 c1 a2 n2 c2 a3 n3 c3 ss' js ls' qs' (pm.free σ ((j:Int)+1) thrown).1->xw wq wq'->(∃S,Fr m m' S/\∀b∈S,lam b = .sv∨lam b = .lk)->
   EvS m m' a n c (pm.free σ ((j:Int)+1) thrown).2->n<=2->Q (.slice a n c) m') :
  ah cx kC [.agg #[.int .i64 M,.int .i64 now,.slice a1 n1 c1,.slice a2 n2 c2,.slice a3 n3 c3],.int .i64 ((j:Int)+1),.bool thrown] m Q:=by
 apply wi;unfold rP;have hw:=hO.keep.wf;have hjl:=(gQ1 hl).1;have l2:=hO.s2d;have ej:de .i64 ((j:Int)+1) 1=(j:Int):=by rw[eO (by omega) (by omega)];omega
 have ej2:((j:Int)+1-1).toNat=j:=by omega
 rw[ej];obtain⟨u,hu⟩:∃u,ls[j]? = some u:=⟨_,gQ2 (by rw[hO.s2n];omega)⟩;have k0:Keep m (bump m 1):=(Keep.refl hw).bump;have hO0:=hO.then k0;obtain⟨b2,o2,rfl,hlb2,_⟩:=hO0.atL hu;refine⟨⟨by omega,by omega⟩,?_⟩;rw[cW];obtain⟨dl0,dq0⟩:=hO0.dl j u l hu hl;obtain⟨g1,hO1⟩:=hO0.setL (κ:=wq j) (qs':=qs j) (x':={ l with holder:=0 }) (v':={ u with holder:=0 }) (k:=1) (vs:=[.int .i64 0]) hu rfl (by simp) rfl (hO0.qu j u hu) ⟨⟨dl0.most,rfl,dl0.dead⟩,dq0⟩;rw[fT,fT]at hO1;refine⟨g1,?_⟩;rw[cO];have f1:Fr m (wr (bump m 1) b2 (o2+Int.toNat (j:Int)*4+1) [.int .i64 0]) [b2]:=(k0.fr [b2]).wr (.inl (by simp));generalize wr (bump m 1) b2 (o2+Int.toNat (j:Int)*4+1) [.int .i64 0]=m1 at hO1 f1;have hu1:=dZ (y:={ u with holder:=0 }) hu;have hl1:=dZ (y:={ l with holder:=0 }) hl;obtain⟨b2',o2',e,_,hc1⟩:=hO1.atL hu1;cases e;refine⟨u.qa,u.qn,u.qc,hc1 2 _ rfl,?_⟩;have hQ1:=hO1.qu j _ hu1;have hql:(qs j).length=u.qn:=(hQ1.arr dV).1;refine fC (fun he=>?_) (fun he=>?_)
 ·
  have hq0:l.queue=[]:=by rw[<-dq0];exact List.length_eq_zero_iff.1 (by simp[aQ]at he;omega)
  obtain⟨g2,hO2⟩:=hO1.setL (κ:=wq j) (qs':=qs j) (x':={ l with holder:=0,dead:=thrown }) (v':={ u with holder:=0,dead:=thrown }) (k:=3) (vs:=[.bool thrown]) hu1 rfl (by simp) rfl hQ1 ⟨⟨dl0.most,rfl,rfl⟩,dq0⟩;rw[fT,fT]at hO2;refine⟨g2,?_⟩;rw[cO];have ef:pm.free σ ((j:Int)+1) thrown=({ σ with sems:=σ.sems.set j { l with holder:=0,dead:=thrown } },[]):=by
   unfold pm.free;rw[ej2];simp only[hl,hq0]
  refine h _ none 0 0 _ _ _ _ (by rw[ef];simpa [List.set_set]using hO2) (xw.refl _) ⟨[b2],f1.wr (.inl (by simp)),fun b hb=>.inr (by rw[List.mem_singleton.1 hb];exact hlb2)⟩ (by rw[ef];exact EvS.nil _ _) (by omega)
 ·
  obtain⟨x,r,hxr⟩:∃x r,l.queue=x::r:=by
   cases hq0:l.queue with
   | nil=>rw[hq0]at dq0;rw[dq0]at hql;simp[aQ]at he;simp at hql;omega
   | cons x r=>exact⟨x,r,rfl⟩
  rw[hxr]at dq0;refine⟨u.qa,u.qn,u.qc,hc1 2 _ rfl,?_⟩;have hA1:=hQ1.arr dV;refine hA1.open (k:=0) (x:=x) (by rw[dq0];rfl) fun b o hc=>⟨x,hc 0 _ rfl,?_⟩
  obtain⟨g2,hO2⟩:=hO1.setL (κ:=wq j) (qs':=qs j) (x':={ l with holder:=x }) (v':={ u with holder:=x }) (k:=1) (vs:=[.int .i64 x]) hu1 rfl (by simp) rfl hQ1 ⟨⟨dl0.most,rfl,dl0.dead⟩,by rw[dq0,<-hxr]⟩;rw[fT,fT]at hO2;refine⟨g2,?_⟩;rw[cO];have f2:=f1.wr (b:=b2) (o:=o2+Int.toNat (j:Int)*4+1) (l:=[.int .i64 x]) (.inl (by simp));generalize wr m1 b2 (o2+Int.toNat (j:Int)*4+1) [.int .i64 x]=m3 at hO2 f2;have hu2:=dZ (y:={ u with holder:=x }) hu1;have hl2:=dZ (y:={ l with holder:=x }) hl1;obtain⟨b2',o2',e,_,hc2⟩:=hO2.atL hu2;cases e;refine⟨u.qa,u.qn,u.qc,hc2 2 _ rfl,?_⟩;have hH:=hO2.qu j _ hu2;rw[hκ]at hH;obtain⟨p1,p2,p3⟩:=hH;rw[dq0]at p1 p3;obtain⟨a',t1,t2,t3⟩:=p1.tail (cx:=cx) dV p3 Dp A8;refine⟨_,_,_,t1,?_⟩;obtain⟨g3,hO3⟩:=hO2.setL (κ:=.own false) (qs':=r) (x':={ l with holder:=x,queue:=r }) (v':={ u with holder:=x,qa:=a',qn:=u.qn-1,qc:=u.qc-1 }) (k:=2) (vs:=[.slice a' (u.qn-1) (u.qc-1)]) hu2 rfl (by simp) rfl
   ⟨t2,by rw[t3];exact p2,by have:(x::r).length=u.qn:=p3;simp at this;simp;omega⟩ ⟨⟨dl0.most,rfl,dl0.dead⟩,rfl⟩
  refine⟨g3,?_⟩;rw[cO];have f3:=f2.wr (b:=b2) (o:=o2+Int.toNat (j:Int)*4+2) (l:=[.slice a' (u.qn-1) (u.qc-1)]) (.inl (by simp));generalize wr m3 b2 (o2+Int.toNat (j:Int)*4+2) [.slice a' (u.qn-1) (u.qc-1)]=m4 at hO3 f3;have hu3:=dZ (y:={ u with holder:=x,qa:=a',qn:=u.qn-1,qc:=u.qc-1 }) hu2;have k4:Keep m4 (bump m4 11):=(Keep.refl hO3.keep.wf).bump;have hO4:=hO3.then k4;obtain⟨b2',o2',e,_,hc4⟩:=hO4.atL hu3;cases e;refine⟨x,hc4 1 _ rfl,?_⟩;refine zH k4.wf (hO4.reads (cx:=cx) eM en iN) hr hn1 fun m5 k5=>⟨_,_,rfl,?_⟩
  obtain⟨v,hv⟩:=hq x r hxr;generalize hp:pm.at_ σ.servs x=p at hv
  have hpl:=(gQ1 hv).1;have l1:=hO.s1d;obtain⟨sv,hsv⟩:∃sv,ss[p]? = some sv:=⟨_,gQ2 (by rw[hO.s1n];omega)⟩;have k6:Keep m5 (bump m5 12):=(Keep.refl k5.wf).bump;have hO6:=hO4.then (k5.trans k6);obtain⟨b1,o1,rfl,hlb1,_⟩:=hO6.atS hsv;refine⟨⟨by omega,by omega⟩,?_⟩;rw[cW];have f6:Fr m (bump m5 12) [b2]:=(f3.trans ((k4.trans (k5.trans k6)).fr []) (fun b hb=>by cases hb));generalize bump m5 12=m6 at hO6 f6;obtain⟨ds0,dj0⟩:=hO6.ds p sv v hsv hv;obtain⟨g4,hO7⟩:=hO6.setS (κ:=wj p) (js':=js p) (x':={ v with sec:=2 }) (v':={ sv with sec:=2 }) (k:=7) (vs:=[.int .i64 2]) hsv rfl (by simp) rfl (hO6.jb p sv hsv) ⟨⟨ds0.id,ds0.s,rfl,ds0.held,ds0.num,ds0.ran⟩,dj0⟩;rw[fT,fT]at hO7;refine⟨⟨g4.1,?_⟩,g4,?_⟩
  .obtain⟨_,cc,kk,ee,xx,hg,_⟩:=g4;exact⟨cc,kk,ee,xx,hg,Nat.zero_le _⟩
  rw[cO];have f7:Fr m (wr m6 b1 (o1+Int.toNat (p:Int)*11+7) [.int .i64 2]) [b1,b2]:=(f6.mono (S':=[b1,b2]) (fun b hb=>.inl (by simp at hb;subst hb;simp))).wr (.inl (by simp));generalize wr m6 b1 (o1+Int.toNat (p:Int)*11+7) [.int .i64 2]=m7 at hO7 f7;have hsv7:=dZ (y:={ sv with sec:=2 }) hsv;have hv7:=dZ (y:={ v with sec:=2 }) hv;refine⟨⟨by omega,by omega⟩,?_⟩;rw[cW];have hJ7:=hO7.jb p _ hsv7;obtain⟨g5,hO8⟩:=hO7.setS (κ:=wj p) (js':=js p) (x':={ v with sec:=2,held:=0 }) (v':={ sv with sec:=2,held:=0 }) (k:=8) (vs:=[.int .i64 0]) hsv7 rfl (by simp) rfl hJ7 ⟨⟨ds0.id,ds0.s,rfl,rfl,ds0.num,ds0.ran⟩,(hO7.ds p _ _ hsv7 hv7).2⟩;rw[fT,fT]at hO8;refine⟨g5,?_⟩;rw[cO];have f8:=f7.wr (b:=b1) (o:=o1+Int.toNat (p:Int)*11+8) (l:=[.int .i64 0]) (.inl (by simp));generalize wr m7 b1 (o1+Int.toNat (p:Int)*11+8) [.int .i64 0]=m8 at hO8 f8;have ef:pm.free σ ((j:Int)+1) thrown=({ σ with sems:=σ.sems.set j { l with holder:=x,queue:=r },servs:=σ.servs.set p { v with sec:=2,held:=0 } },(bif thrown then [pm.dS σ 7 x 0] else [])++[pm.dS σ 6 x ((j:Int)+1)]):=by
   unfold pm.free;rw[ej2];simp only[hl,hxr,hp,hv]
  have hO9:=hO8.cast (σ':=(pm.free σ ((j:Int)+1) thrown).1) (by rw[ef];simp[List.set_set]);have hev:(pm.free σ ((j:Int)+1) thrown).2=(bif thrown then [pm.dS σ 7 x 0] else [])++[pm.dS σ 6 x ((j:Int)+1)]:=by rw[ef]
  have hN8:m.nx<=m8.nx:=f8.nx;generalize (pm.free σ ((j:Int)+1) thrown).1 = σ9 at hO9 h;generalize (pm.free σ ((j:Int)+1) thrown).2=E9 at hev h;refine dL (fun f:Option Addr->Nat->Nat->Mem->Prop=>∀a n c mm,Acc m8 mm a n c 4 t_model_Event ((bif thrown then [pm.dS σ 7 x 0] else []).flatMap encEv)->n<=1->f a n c mm) ?_ ?_
  .intro a n c mm hacc hn;have hO9':=hO9.then hacc.keep;have k10:Keep mm (bump mm 11):=(Keep.refl hacc.keep.wf).bump;obtain⟨b2',o2',e,_,hc10⟩:=(hO9'.then k10).atL hu3;cases e;refine⟨x,hc10 1 _ rfl,?_⟩;refine sY (m:=m) (E:=bif thrown then [pm.dS σ 7 x 0] else []) hO9' hO.lab (Nat.le_trans hN8 hacc.keep.nx) ⟨hacc.grow,fun b hb=>Nat.le_trans hN8 (hacc.new b hb)⟩ (by omega) (by omega) fun m2 hOz hEz hfz hxz=>?_
   refine h m2 _ _ _ _ _ _ _ hOz (xw.up _ _ _) ⟨[b1,b2],(f8.trans (hacc.keep.fr []) (fun b hb=>by cases hb)).trans hfz (fun b hb=>.inr (Nat.le_trans hN8 (hacc.new b hb))),fun b hb=>?_⟩ (by rw[hev];rw[en]at hEz;exact hEz) (by omega);simp at hb;rcases hb with rfl|rfl
   .exact .inl hlb1
   .exact .inr hlb2
  .intro J hJ;refine cJ (fun ht=>?_) (fun ht=>?_)
   .rw[ht,cond_true]at hJ;have k10:Keep m8 (bump m8 10):=(Keep.refl hO9.keep.wf).bump;obtain⟨b2',o2',e,_,hc10⟩:=(hO9.then k10).atL hu3;cases e;refine⟨x,hc10 1 _ rfl,?_⟩;refine sY (m:=m8) hO9 hO9.lab (gQ4 _) (EvS.nil m8 m8) (by omega) (by omega) fun m2 hOz hEz hfz hxz=>?_
    refine hJ _ _ _ _ ⟨Keep.of_fr (Keep.refl hO9.keep.wf) hOz.keep.wf hfz (fun b hb=>by cases hb),?_,hEz.new⟩ (by omega);have:=hEz.grow;rw[en]at this;exact this
   .rw[ht,cond_false]at hJ;exact hJ _ _ _ _ (Acc.nil (Keep.refl hO9.keep.wf) _ _) (by omega)
end
end Go.Proofs.YthpnifigjfplbaaGreat.vc
namespace Go.Proofs.YthpnifigjfplbaaGreat.vc
open Go Go.AX
section
variable {wj wq:Nat->Kd} {m0 m:Mem} {lam:Nat->Lb} {Q:Value->Mem->Prop} {M now:Int} {a1 a2 a3:Option Addr} {n1 c1 n2 c2 n3 c3:Nat} {ss:List SV} {js:Nat->List JV} {ls:List LV} {qs:Nat->List Int} {σ : pm.St}
theorem Qd{i b o:Nat}{x:pm.Serv}{w:Bool}(hO:Ow TT wj wq m0 m lam a1 n1 c1 a2 n2 c2 a3 n3 c3 ss js ls qs σ)(hx:σ.servs[i]? = some x)(hab:a1=some ⟨b,o,none⟩)(hκ : wj i = .own w)(hj:cT x.sec 1=false->x.jobs≠[])
  (h:∀m' ss' js',Ow TT wj wq m0 m' lam a1 n1 c1 a2 n2 c2 a3 n3 c3 ss' js' ls qs { σ with servs:=σ.servs.set i (pm.gW x) }->(∃S,Fr m m' S/\∀b∈S,lam b = .sv∨∃k,lam b = .jb k)->Q (.tuple #[]) m') :
  ah cx nI [.pointer (some ⟨b,o+Int.toNat (i:Int)*11,none⟩)] m Q:=by
 apply wo;unfold rU;have hi:=(gQ1 hx).1;have l1:=hO.s1d;obtain⟨v,hv⟩:∃v,ss[i]? = some v:=⟨_,gQ2 (by rw[hO.s1n];omega)⟩;obtain⟨b',o',e,hlb,hc⟩:=hO.atS hv;rw[hab]at e;cases e;obtain⟨d0,dj⟩:=hO.ds i v x hv hx;rw[cW];refine⟨_,hc 1 _ rfl,_,hc 2 _ rfl,_,hc 3 _ rfl,_,hc 4 _ rfl,_,hc 5 _ rfl,?_⟩;refine Ij hO.keep.wf fun m1 k1=>⟨_,_,_,_,_,_,rfl,?_⟩
 have ev:(⟨v.s.q,v.s.p,v.s.bud,v.s.due,v.s.mode⟩:pm.Srv)=x.s:=d0.s;rw[ev];generalize (pm.dM x.s 1).2=unused;have hO1:=hO.then k1;rw[cW];obtain⟨g1,hO2⟩:=hO1.setS (κ:=wj i) (js':=js i) (x':={ x with s:=(pm.dM x.s 1).1 }) (v':={ v with s:=(pm.dM x.s 1).1 }) (k:=1) (vs:=[.int .i64 (pm.dM x.s 1).1.q,.int .i64 (pm.dM x.s 1).1.p,.int .i64 (pm.dM x.s 1).1.bud,.int .i64 (pm.dM x.s 1).1.due,.int .i64 (pm.dM x.s 1).1.mode]) hv hab (by simp) rfl (hO1.jb i v hv) ⟨⟨d0.id,rfl,d0.sec,d0.held,d0.num,d0.ran⟩,(hO1.ds i v x hv hx).2⟩;rw[fT,fT]at hO2;refine⟨g1,?_⟩;rw[cO];have f2:Fr m (wr m1 b (o+Int.toNat (i:Int)*11+1) [.int .i64 (pm.dM x.s 1).1.q,.int .i64 (pm.dM x.s 1).1.p,.int .i64 (pm.dM x.s 1).1.bud,.int .i64 (pm.dM x.s 1).1.due,.int .i64 (pm.dM x.s 1).1.mode]) [b]:=(k1.fr [b]).wr (.inl (by simp));generalize wr m1 b (o+Int.toNat (i:Int)*11+1) [.int .i64 (pm.dM x.s 1).1.q,.int .i64 (pm.dM x.s 1).1.p,.int .i64 (pm.dM x.s 1).1.bud,.int .i64 (pm.dM x.s 1).1.due,.int .i64 (pm.dM x.s 1).1.mode]=m2 at hO2 f2;have hv2:=dZ (y:={ v with s:=(pm.dM x.s 1).1 }) hv;have hx2:=dZ (y:={ x with s:=(pm.dM x.s 1).1 }) hx;obtain⟨b',o',e,_,hc2⟩:=hO2.atS hv2;rw[hab]at e;cases e;rw[cW];refine⟨_,hc2 10 _ rfl,?_⟩;rw[cW];have hJ2:=hO2.jb i _ hv2;obtain⟨g2,hO3⟩:=hO2.setS (κ:=wj i) (js':=js i) (x':={ x with s:=(pm.dM x.s 1).1,ran:=bh .i64 x.ran 1 }) (v':={ v with s:=(pm.dM x.s 1).1,ran:=bh .i64 v.ran 1 }) (k:=10) (vs:=[.int .i64 (bh .i64 v.ran 1)]) hv2 hab (by simp) rfl hJ2 ⟨⟨d0.id,rfl,d0.sec,d0.held,d0.num,by show bh .i64 v.ran 1=bh .i64 x.ran 1;rw[d0.ran]⟩,(hO2.ds i _ _ hv2 hx2).2⟩;rw[fT,fT]at hO3;refine⟨g2,?_⟩;rw[cO];have f3:=f2.wr (b:=b) (o:=o+Int.toNat (i:Int)*11+10) (l:=[.int .i64 (bh .i64 v.ran 1)]) (.inl (by simp));generalize wr m2 b (o+Int.toNat (i:Int)*11+10) [.int .i64 (bh .i64 v.ran 1)]=m3 at hO3 f3;have hv3:=dZ (y:={ v with s:=(pm.dM x.s 1).1,ran:=bh .i64 v.ran 1 }) hv2;have hx3:=dZ (y:={ x with s:=(pm.dM x.s 1).1,ran:=bh .i64 x.ran 1 }) hx2;obtain⟨b',o',e,_,hc3⟩:=hO3.atS hv3;rw[hab]at e;cases e;rw[cW];refine⟨_,hc3 7 _ rfl,?_⟩;have esec:v.sec=x.sec:=d0.sec;rw[show ({ v with s:=(pm.dM x.s 1).1,ran:=bh .i64 v.ran 1 }:SV).sec=x.sec from esec];refine cJ (fun hs=>?_) (fun hs=>?_)
 .have er:pm.gW x = { x with s:=(pm.dM x.s 1).1,ran:=bh .i64 x.ran 1 }:=by
   unfold pm.gW;simp only[hs,cond_true]
  refine h m3 _ _ (hO3.cast ?_) ⟨[b],f3,fun b' hb'=>.inl (by rw[List.mem_singleton.1 hb'];exact hlb)⟩;rw[er];simp[List.set_set]
 .obtain⟨j,r,hxr⟩:∃j r,x.jobs=j::r:=by
   cases hjj:x.jobs with
   | nil=>exact absurd hjj (hj hs)
   | cons j r=>exact⟨j,r,rfl⟩
  have k4:Keep m3 (bump m3 16):=(Keep.refl hO3.keep.wf).bump;have hO4:=hO3.then k4;obtain⟨b',o',e,_,hc4⟩:=hO4.atS hv3;rw[hab]at e;cases e;have x4:m3.nx<=(bump m3 16).nx:=by simp
  generalize bump m3 16=m4 at k4 hO4 hc4 x4;rw[cW];refine⟨_,_,_,hc4 6 _ rfl,?_⟩;rw[cW];refine⟨_,_,_,hc4 6 _ rfl,?_⟩;have hH:=hO4.jb i _ hv3;have dj4:=(hO4.ds i _ _ hv3 hx3).2;have hA:=hH.arr fh;obtain⟨jv,hjv,hJ⟩:=dj4.get' (i:=0) (b:=j) (by show x.jobs[0]? = _;rw[hxr];rfl);obtain⟨bj,oj,hjab,hcj⟩:=hA.2 0 jv hjv;have hjn:0<v.jn:=by
   have h1:=hA.1;have h2:=(gQ1 hjv).1;have:(js i).length=v.jn:=h1;omega
  have hjab':v.ja=some ⟨bj,oj,none⟩:=hjab;refine⟨⟨by omega,by show (0:Int)<((v.jn:Nat):Int);omega⟩,?_⟩;show cZ v.ja _;rw[hjab',cW];have hcj':∀k u,(encJ jv)[k]? = some u->rd m4 bj (oj+Int.toNat ((0:Nat):Int)*4+k)=some u:=hcj;refine⟨_,hcj' 0 _ rfl,_,_,_,hcj' 1 _ rfl,_,hcj' 2 _ rfl,_,hcj' 3 _ rfl,?_⟩;have hwf:Wf (setFl m4 m3.nx):=k4.wf.setFl x4;have ej:(⟨jv.num,j.prog,jv.at_,jv.done⟩:pm.Job)=j:=by rw[hJ.num,hJ.at_,hJ.done]
  refine It hwf (hJ.prog.hp rfl) fun m5 k5=>?_
  rw[ej];refine⟨_,_,_,_,_,_,_,rfl,⟨⟨by omega,by show (0:Int)<((v.jn:Nat):Int);omega⟩,?_⟩⟩;rw[cW];have k5':Keep m4 (setFl m5 m4.fl):=Keep.unset k4.wf k5;generalize setFl m5 m4.fl=m6 at k5';have hO6:=hO4.then k5';have hlj:lam bj = .jb i:=by
   have:=hO6.jb i _ hv3;rw[hκ]at this;exact this.2.1 bj (by rw[show ({ v with s:=(pm.dM x.s 1).1,ran:=bh .i64 v.ran 1 }:SV).ja=v.ja from rfl,hjab'];simp[blk])
  obtain⟨jv',hjv'⟩:∃jv':JV,jv'=⟨(pm.eY j 1).1.num,jv.pa,jv.pn,jv.pc,(pm.eY j 1).1.at_,(pm.eY j 1).1.done⟩:=⟨_,rfl⟩;have ep:(pm.eY j 1).1.prog=j.prog:=by unfold pm.eY;cases (pm.dI j).2<;>rfl
  have hJ6:DpJob m6 lam jv j:=by
   obtain⟨jv2,h1,h2⟩:=((hO6.ds i _ _ hv3 hx3).2).get' (i:=0) (b:=j) (by show x.jobs[0]? = _;rw[hxr];rfl);rw[hjv]at h1;cases h1;exact h2
  obtain⟨g3,hO7⟩:=hO6.setJ (q:=0) (k:=0) (jv':=jv') (j':=(pm.eY j 1).1) (vs:=encJ jv') hv3 hx3 hjv hjab hκ (by simp[encJ]) (Da rfl) (by
   subst hjv';exact⟨rfl,rfl,rfl,by rw[ep];exact hJ6.prog,by rw[ep];exact hJ6.lab⟩)
  have evs:encJ jv'=[.int .i64 (pm.eY j 1).1.num,.slice jv.pa jv.pn jv.pc,.int .i64 (pm.eY j 1).1.at_,.int .i64 (pm.eY j 1).1.done]:=by rw[hjv'];rfl
  rw[evs]at g3 hO7;refine⟨g3,?_⟩;rw[cO];have f7:Fr m (wr m6 bj (oj+Int.toNat ((0:Nat):Int)*4+0) [.int .i64 (pm.eY j 1).1.num,.slice jv.pa jv.pn jv.pc,.int .i64 (pm.eY j 1).1.at_,.int .i64 (pm.eY j 1).1.done]) [b,bj]:=
   ((f3.mono (S':=[b,bj]) (fun b' hb'=>.inl (by simp at hb';subst hb';simp))).trans ((k4.trans k5').fr []) (fun b hb=>by cases hb)).wr (.inl (by simp))
  obtain⟨m7,hm7⟩:∃m7,m7=wr m6 bj (oj+Int.toNat (0:Int)*4) [.int .i64 (pm.eY j 1).1.num,.slice jv.pa jv.pn jv.pc,.int .i64 (pm.eY j 1).1.at_,.int .i64 (pm.eY j 1).1.done]:=⟨_,rfl⟩;have hm7':wr m6 bj (oj+Int.toNat ((0:Nat):Int)*4+0) [.int .i64 (pm.eY j 1).1.num,.slice jv.pa jv.pn jv.pc,.int .i64 (pm.eY j 1).1.at_,.int .i64 (pm.eY j 1).1.done]=m7:=hm7.symm;rw[<-hm7];rw[hm7']at hO7 f7;have hS7:∀b'∈[b,bj],lam b' = .sv∨∃k,lam b' = .jb k:=fun b' hb'=>by
   simp at hb';rcases hb' with rfl|rfl
   .exact .inl hlb
   .exact .inr ⟨i,hlj⟩
  have ejob:({ x with s:=(pm.dM x.s 1).1,ran:=bh .i64 x.ran 1 }:pm.Serv).jobs.set 0 (pm.eY j 1).1=(pm.eY j 1).1::r:=by
   show x.jobs.set 0 _=_;rw[hxr];rfl
  rw[ejob]at hO7;have hx7:=dZ (y:={ x with s:=(pm.dM x.s 1).1,ran:=bh .i64 x.ran 1,jobs:=(pm.eY j 1).1::r }) hx3;obtain⟨b',o',e,_,hc7⟩:=hO7.atS hv3;rw[hab]at e;cases e;refine⟨_,hc7 7 _ rfl,?_⟩;rw[show ({ v with s:=(pm.dM x.s 1).1,ran:=bh .i64 v.ran 1 }:SV).sec=x.sec from esec];refine cJ (fun hs2=>?_) (fun hs2=>?_)
  .rw[cW];refine⟨_,hc7 8 _ rfl,?_⟩;rw[cW];have hJ7:=hO7.jb i _ hv3;obtain⟨q1,q2⟩:=hO7.ds i _ _ hv3 hx7;obtain⟨g4,hO8⟩:=hO7.setS (κ:=wj i) (x':={ x with s:=(pm.dM x.s 1).1,ran:=bh .i64 x.ran 1,jobs:=(pm.eY j 1).1::r,held:=bh .i64 x.held 1 }) (v':={ v with s:=(pm.dM x.s 1).1,ran:=bh .i64 v.ran 1,held:=bh .i64 v.held 1 }) (k:=8) (vs:=[.int .i64 (bh .i64 v.held 1)]) hv3 hab (by simp) rfl hJ7 ⟨⟨q1.id,q1.s,q1.sec,by show bh .i64 v.held 1=bh .i64 x.held 1;rw[d0.held],q1.num,q1.ran⟩,q2⟩;rw[fT]at hO8;refine⟨g4,?_⟩;rw[cO];refine h _ _ _ (hO8.cast ?_) ⟨[b,bj],f7.wr (.inl (by simp)),hS7⟩;have er:pm.gW x = { x with s:=(pm.dM x.s 1).1,ran:=bh .i64 x.ran 1,jobs:=(pm.eY j 1).1::r,held:=bh .i64 x.held 1 }:=by
    unfold pm.gW;simp only[hs,cond_false,hxr,hs2,cond_true]
   rw[er];simp[List.set_set]
  .refine h _ _ _ (hO7.cast ?_) ⟨[b,bj],f7,hS7⟩;have er:pm.gW x = { x with s:=(pm.dM x.s 1).1,ran:=bh .i64 x.ran 1,jobs:=(pm.eY j 1).1::r }:=by
    unfold pm.gW;simp only[hs,cond_false,hxr,hs2]
   rw[er];simp[List.set_set]
end
end Go.Proofs.YthpnifigjfplbaaGreat.vc
namespace Go.Proofs.YthpnifigjfplbaaGreat.vc
open Go Go.AX
theorem Qx:cx.un.get fR=some (.slice fH):=by kernel_rfl
theorem Qy:dO cx fH=some 4:=by kernel_rfl
def pk(w:Nat->Kd):Prop:=∀k,∃b,w k = .own b
theorem pk.up{w:Nat->Kd}(h:pk w)(i:Nat)(b:Bool):pk (il w i (.own b)):=fun k=>by
 by_cases e:k=i
 .subst e;exact⟨b,fy ..⟩
 .rw[eV e];exact h k
theorem xw.all{w w':Nat->Kd}(h:xw w w')(ha:pk w):pk w':=fun k=>h k (ha k)
theorem free_at(s:pm.St)(q:Int)(t:Bool){i:Nat}{x:pm.Serv}(hx:s.servs[i]? = some x):∃y,(pm.free s q t).1.servs[i]? = some y/\y.jobs=x.jobs/\y.id=x.id/\y.s=x.s/\y.num=x.num/\y.ran=x.ran:=by
 have same:∃y,s.servs[i]? = some y/\y.jobs=x.jobs/\y.id=x.id/\y.s=x.s/\y.num=x.num/\y.ran=x.ran:=⟨x,hx,rfl,rfl,rfl,rfl,rfl⟩;unfold pm.free;split
 .exact same
 .split
  .exact same
  .rename_i y r _;split
   .exact same
   .rename_i v hv;by_cases e:pm.at_ s.servs y=i
    .rw[e]at hv;rw[hv]at hx;cases hx;simp only[e];exact⟨_,dZ hv,rfl,rfl,rfl,rfl,rfl⟩
    .simp only[List.getElem?_set,if_neg e];exact same
theorem A7(s:pm.St)(q:Int)(t:Bool):(pm.free s q t).1.now=s.now:=by
 unfold pm.free;split
 .rfl
 .split
  .rfl
  .split<;>rfl
theorem Ez{σ : pm.St}{i:Nat}{x w:pm.Serv}{j:pm.Job}{r:List pm.Job}{σ':pm.St}{E:List pm.Ev}(hx:σ.servs[i]? = some x)(hxr:x.jobs=j::r)(hd:cT j.done (pm.dI j).1.2=true)
  (ha:(bif cT x.sec 2 then pm.free { σ with servs:=σ.servs.set i { x with sec:=0 } } (pm.dI j).1.1 false else (σ,[]))=(σ',E)) (hen:σ'.now = σ.now) (hw:σ'.servs[i]? = some w) :
  pm.gE σ i=(bif cT (pm.eL j).1.at_ (aQ j.prog.length) then ({ σ' with servs:=σ'.servs.set i { w with jobs:=r } },E++[pm.dS σ 2 w.id j.num]) else ({ σ' with servs:=σ'.servs.set i { w with jobs:=(pm.eL j).1::r } },E)):=by
 obtain⟨i1,i2,i3,i4,i5,i6,i7⟩:=x;dsimp only at hxr ha;subst hxr;unfold pm.gE;rw[hx];dsimp only;rw[hd,cond_true];generalize hA:(bif cT i4 2 then _ else _:pm.St×List pm.Ev)=A;have:A=(σ',E):=hA.symm.trans ha;subst this;rw[hw]
theorem EA{σ : pm.St}{i:Nat}{x:pm.Serv}{j:pm.Job}{r:List pm.Job}(hx:σ.servs[i]? = some x)(hxr:x.jobs=j::r)(hd:cT j.done (pm.dI j).1.2=false)(c:Bool)
  (hc:(cT x.sec 2&&(match σ.sems[((pm.dI j).1.1-1).toNat]? with|some l=>cT x.held l.most|none=>false))=c) :
  pm.gE σ i=(bif c then ((pm.free { σ with servs:=σ.servs.set i { x with jobs:=r,sec:=0 } } (pm.dI j).1.1 true).1,pm.dS σ 3 x.id j.num::(pm.free { σ with servs:=σ.servs.set i { x with jobs:=r,sec:=0 } } (pm.dI j).1.1 true).2) else (σ,[])):=by
 obtain⟨i1,i2,i3,i4,i5,i6,i7⟩:=x;dsimp only at hxr hc ⊢;subst hxr;unfold pm.gE;rw[hx];dsimp only;rw[hd,cond_false];subst hc;rfl
section
variable {wj wq:Nat->Kd} {m0 m:Mem} {lam:Nat->Lb} {Q:Value->Mem->Prop} {M now:Int} {a1 a2 a3:Option Addr} {n1 c1 n2 c2 n3 c3:Nat} {ss:List SV} {js:Nat->List JV} {ls:List LV} {qs:Nat->List Int} {σ : pm.St}
theorem P7{i b o:Nat}{v:SV}{x:pm.Serv}{j:pm.Job}{r:List pm.Job}{w:Bool}(hO:Ow TT wj wq m0 m lam a1 n1 c1 a2 n2 c2 a3 n3 c3 ss js ls qs σ)(hv:ss[i]? = some v)(hx:σ.servs[i]? = some x)(hxr:x.jobs=j::r)(hκ : wj i = .own w)(hab:a1=some ⟨b,o,none⟩) :
  ∃a',cX cx m fR (.slice v.ja v.jn v.jc) (some (.int .i64 (1:Int))) none none=some (.slice a' (v.jn-1) (v.jc-1))/\okW m b (o+Int.toNat (i:Int)*11+6) 1/\
   ∃ss' js',Ow TT (il wj i (.own false)) wq m0 (wr m b (o+Int.toNat (i:Int)*11+6) [.slice a' (v.jn-1) (v.jc-1)]) lam a1 n1 c1 a2 n2 c2 a3 n3 c3 ss' js' ls qs { σ with servs:=σ.servs.set i { x with jobs:=r } }:=by
 obtain⟨d0,dj⟩:=hO.ds i v x hv hx;have hH:=hO.jb i v hv;rw[hκ]at hH;obtain⟨p1,p2,p3⟩:=hH;rw[hxr]at dj;cases hjs:js i with
 | nil=>rw[hjs]at dj;cases dj
 | cons jv jr=>
  rw[hjs]at dj p1 p3;cases dj with
  | cons h1 h2=>
   obtain⟨a',t1,t2,t3⟩:=p1.tail (cx:=cx) fh p3 Qx Qy;refine⟨a',t1,?_⟩;obtain⟨g1,g2⟩:=hO.setS (κ:=.own false) (js':=jr) (x':={ x with jobs:=r }) (v':={ v with ja:=a',jn:=v.jn-1,jc:=v.jc-1 }) (k:=6) (vs:=[.slice a' (v.jn-1) (v.jc-1)]) hv hab (by simp) rfl
    ⟨t2,by rw[t3];exact p2,by have:(jv::jr).length=v.jn:=p3;simp at this;show jr.length=v.jn-1;omega⟩ ⟨⟨d0.id,d0.s,d0.sec,d0.held,d0.num,d0.ran⟩,h2⟩
   exact⟨g1,_,_,g2⟩
theorem P8{mm:Mem}{a a':Option Addr}{n c k ck:Nat}{E F:List pm.Ev}(hw:Wf mm)(hE:EvS m mm a n c E)(hF:Grow mm a' k ck 4 t_model_Event (F.flatMap encEv))(hn:n+k<=1000000)(hmm:m.nx<=mm.nx) :
  ∃a9 c9 m9,cQ cx mm [bJ,bJ] [.slice a n c,.slice a' k ck]=some (.slice a9 (n+k) c9,m9)/\Wf m9/\Fr mm m9 (blk a)/\EvS m m9 a9 (n+k) c9 (E++F):=by
 obtain⟨i,z,h1,h2,h3,h4,h5,h6,h7⟩:=jg (cx:=cx) (t:=bJ) (e:=t_model_Event) (s:=4) (by kernel_rfl);have hA:=Arr.of_grow fo (by omega) hF;by_cases hk:k=0
 .subst hk;have hF0:F=[]:=List.length_eq_zero_iff.1 hA.1;subst hF0;have hc:c=n:=by
   rcases hE.grow.2 with⟨_,q1,q2⟩|⟨_,_,q2,_⟩<;>omega
  subst hc;refine⟨a,c,mm,?_,hw,Fr.refl _ _,by simpa using hE⟩;unfold cQ;have hf:dA mm i.size 0 (.slice a' 0 ck)=some []:=by cases a'<;>rfl
  have b1:(Nat.beq ([]:List Value).length (0*i.size)&&Nat.blt 0 i.size&&([]:List Value).all one1)=true:=by
   rw[h3,Nat.zero_mul,show Nat.blt 0 4=true from rfl];rfl
  simp only[h1,h2,mE,iR,hf,b1,gQ8 (show c+0<=c by omega)];cases a<;>rfl
 .have hbb:(2*(n+k)+192)*i.bytes<=140737488355328:=by
   have h1:(2*(n+k)+192)<=2000192:=by omega
   have h2:=Nat.mul_le_mul h1 h7;omega
  obtain⟨m',q1,q2,q3,q4,q5⟩:=oF hE.grow h1 h1 rfl h2 h3 h4 h5 h6 (x:=.slice a' k ck) (k:=k) rfl (hA.first fo h6) (by rw[dm fo,hA.1]) (by
   rw[List.all_eq_true];intro v hv;obtain⟨x,_,hx⟩:=List.mem_flatMap.1 hv;exact List.all_eq_true.1 (xd x) v hx) (by omega) hbb (by omega)
  have hbl:=hE.grow.blk_lt hw;have q5':∀b',b'≠mm.nx->b'∉blk a->m'.hp.get b'=mm.hp.get b':=fun b' h1 h2=>q5 b' h1 (fun b e e'=>h2 (by rw[e,e'];simp[blk]))
  have hgl:=hE.grow.1;refine⟨_,_,m',q1,⟨by have:=hw.1;omega,fun b hb=>?_⟩,⟨by omega,q3,fun b hb hn'=>q5' b (by omega) hn'⟩,⟨⟨?_,.inr ⟨_,rfl,rfl,?_,?_⟩⟩,fun b hb=>?_⟩⟩
  .rw[q5' b (by omega) (fun h=>by have:=hbl b h;omega)];exact hw.2 b (by omega)
  .rw[List.flatMap_append,gR2,hgl,dm fo,hA.1,Nat.add_mul]
  .rw[q3];exact hw.1
  .rw[List.flatMap_append];exact q4
  .simp[blk]at hb;omega
def Fz(L:Lb):Prop:=L = .sv∨L = .lk∨∃k,L = .jb k
theorem P9{i:Nat}{x:pm.Serv}{j:pm.Job}{r:List pm.Job}(hO:Ow TT wj wq m0 m lam a1 n1 c1 a2 n2 c2 a3 n3 c3 ss js ls qs σ)(eM:M = σ.m)(en:now = σ.now)(hn1:n1<=100000)(hn2:n2<=100000)(hr:Rise σ.servs)(hx:σ.servs[i]? = some x)(hxr:x.jobs=j::r)(hwj:pk wj)(hwq:pk wq)
  (hS:cT x.sec 2=true->1<=(pm.dI j).1.1/\(pm.dI j).1.1<=(σ.sems.length:Int)/\∀l,σ.sems[((pm.dI j).1.1-1).toNat]? = some l->∀y r',l.queue=y::r'->∃v,σ.servs[pm.at_ σ.servs y]? = some v)
  (h:∀m' a n c ss' js' ls' qs' wj' wq',Ow TT wj' wq' m0 m' lam a1 n1 c1 a2 n2 c2 a3 n3 c3 ss' js' ls' qs' (pm.gw σ i).1->pk wj'->pk wq'->(∃S,Fr m m' S/\∀b∈S,Fz (lam b))->EvS m m' a n c (pm.gw σ i).2->n<=10->Q (.slice a n c) m') :
  ah cx oy [.agg #[.int .i64 M,.int .i64 now,.slice a1 n1 c1,.slice a2 n2 c2,.slice a3 n3 c3],.int .i64 (i:Int)] m Q:=by
 apply xy;unfold sA;have hi:=(gQ1 hx).1;have l1:=hO.s1d;obtain⟨v,hv⟩:∃v,ss[i]? = some v:=⟨_,gQ2 (by rw[hO.s1n];omega)⟩;have k0:Keep m (bump m 1):=(Keep.refl hO.keep.wf).bump;have hO0:=hO.then k0;obtain⟨b,o,hab,hlb,hc⟩:=hO0.atS hv;subst hab;refine⟨⟨by omega,by omega⟩,?_⟩;rw[cW];refine⟨_,_,_,hc 6 _ rfl,?_⟩;obtain⟨d0,dj⟩:=hO0.ds i v x hv hx;have hA:=(hO0.jb i v hv).arr fh;obtain⟨jv,hjv,hJ⟩:=dj.get' (i:=0) (b:=j) (by rw[hxr];rfl);refine hA.open (k:=0) hjv fun bj oj hcj=>?_
 refine⟨_,hcj 0 _ rfl,_,_,_,hcj 1 _ rfl,_,hcj 2 _ rfl,_,hcj 3 _ rfl,?_⟩;have k1:Keep m (bump m 2):=(Keep.refl hO.keep.wf).bump;have hJm:=(hO.then k1).ds i v x hv hx;have hJ1:DpJob (bump m 2) lam jv j:=by
  obtain⟨jv2,q1,q2⟩:=hJm.2.get' (i:=0) (b:=j) (by rw[hxr];rfl);rw[hjv]at q1;cases q1;exact q2
 have ej:(⟨jv.num,j.prog,jv.at_,jv.done⟩:pm.Job)=j:=by rw[hJ.num,hJ.at_,hJ.done]
 refine ud k1.wf hJ1.prog fun m1 k2=>⟨_,_,_,rfl,?_⟩
 rw[ej];have k12:=k1.trans k2;refine dL (fun f:Option Addr->Nat->Nat->Mem->Prop=>∀a n c mm σ' ss' js' ls' qs' wj' wq' E,Ow TT wj' wq' m0 mm lam (some ⟨b,o,none⟩) n1 c1 a2 n2 c2 a3 n3 c3 ss' js' ls' qs' σ'->pk wj'->pk wq'->(∃S,Fr m mm S/\∀b∈S,Fz (lam b))->EvS m mm a n c E->n<=9->pm.gE σ i=(σ',E)->σ'.now = σ.now->(∃y,σ'.servs[i]? = some y)->f a n c mm) ?_ ?_
 .intro a n c mm σ' ss' js' ls' qs' wj' wq' E hO' hwj' hwq' hfr hE hn e1 enow hy;obtain⟨y,hy⟩:=hy;have hmm:m.nx<=mm.nx:=by obtain⟨S,f,_⟩:=hfr;exact f.nx
  obtain⟨u,hu⟩:∃u,ss'[i]? = some u:=⟨_,gQ2 (by rw[hO'.s1n];omega)⟩;obtain⟨b',o',e,_,hcu⟩:=hO'.atS hu;cases e;obtain⟨dy,djy⟩:=hO'.ds i u y hu hy;have hAu:=(hO'.jb i u hu).arr fh;refine⟨_,_,_,hcu 6 _ rfl,?_⟩;have hend:pm.gw σ i=((pm.kQ σ' i).1,E++(pm.kQ σ' i).2):=by unfold pm.gw;rw[e1]
  have hul:y.jobs.length=u.jn:=by rw[<-djy.len,hAu.1]
  refine fC (fun h0=>?_) (fun h0=>?_)
  .have hyj:y.jobs=[]:=List.length_eq_zero_iff.1 (by rw[hul];simp[aQ]at h0;exact h0);have e2:pm.kQ σ' i=({ σ' with servs:=σ'.servs.set i { y with s:=(pm.fL y.s).1 } },[pm.dS σ' 10 y.id 0]):=by
    unfold pm.kQ;simp only[hy,hyj]
   refine⟨_,hcu 1 _ rfl,_,hcu 2 _ rfl,_,hcu 3 _ rfl,_,hcu 4 _ rfl,_,hcu 5 _ rfl,?_⟩;refine M9 hO'.keep.wf fun m3 k3=>⟨_,_,_,_,_,_,rfl,?_⟩
   have eu:(⟨u.s.q,u.s.p,u.s.bud,u.s.due,u.s.mode⟩:pm.Srv)=y.s:=dy.s;rw[eu];have hO3:=hO'.then k3;obtain⟨g1,hO4⟩:=hO3.setS (κ:=wj' i) (js':=js' i) (x':={ y with s:=(pm.fL y.s).1 }) (v':={ u with s:=(pm.fL y.s).1 }) (k:=1) (vs:=[.int .i64 (pm.fL y.s).1.q,.int .i64 (pm.fL y.s).1.p,.int .i64 (pm.fL y.s).1.bud,.int .i64 (pm.fL y.s).1.due,.int .i64 (pm.fL y.s).1.mode]) hu rfl (by simp) rfl (hO3.jb i u hu) ⟨⟨dy.id,rfl,dy.sec,dy.held,dy.num,dy.ran⟩,(hO3.ds i u y hu hy).2⟩;rw[fT,fT]at hO4;refine⟨g1,?_⟩;rw[cO];have f4:Fr mm (wr m3 b (o+Int.toNat (i:Int)*11+1) [.int .i64 (pm.fL y.s).1.q,.int .i64 (pm.fL y.s).1.p,.int .i64 (pm.fL y.s).1.bud,.int .i64 (pm.fL y.s).1.due,.int .i64 (pm.fL y.s).1.mode]) [b]:=(k3.fr [b]).wr (.inl (by simp));generalize wr m3 b (o+Int.toNat (i:Int)*11+1) [.int .i64 (pm.fL y.s).1.q,.int .i64 (pm.fL y.s).1.p,.int .i64 (pm.fL y.s).1.bud,.int .i64 (pm.fL y.s).1.due,.int .i64 (pm.fL y.s).1.mode]=m4 at hO4 f4;have hu4:=dZ (y:={ u with s:=(pm.fL y.s).1 }) hu;obtain⟨b',o',e,_,hc4⟩:=(hO4.then ((Keep.refl hO4.keep.wf).bump (n:=10))).atS hu4;cases e;refine⟨_,hc4 0 _ rfl,?_⟩;have hE4:EvS m m4 a n c E:=hE.fr hO'.keep.wf f4 (fun b' hb' hs=>by
    have h1:=hE.new b' hb';rw[List.mem_singleton.1 hs]at h1;have:=hO.lab b (by rw[hlb];simp);omega)
   refine sY (m:=m) hO4 hO.lab (Nat.le_trans hmm f4.nx) hE4 (by omega) (by omega) fun m5 hO5 hE5 hf5 _=>?_
   rw[hend,e2]at h;refine h m5 _ _ _ _ _ _ _ _ _ hO5 hwj' hwq' ?_ ?_ (by omega)
   .obtain⟨S,q1,q2⟩:=hfr;refine⟨b::S,((q1.mono (S':=b::S) (fun b' hb'=>.inl (gQ5 _ hb'))).trans f4 (fun b' hb'=>.inl (by rw[List.mem_singleton.1 hb'];simp))).trans hf5 (fun b' hb'=>.inr (hE.new b' hb')),fun b' hb'=>?_⟩;rcases List.mem_cons.1 hb' with rfl|hb'
    .exact .inl hlb
    .exact q2 b' hb'
   .have:(⟨now,10,u.id,0⟩:pm.Ev)=pm.dS σ' 10 y.id 0:=by unfold pm.dS;rw[enow,en,dy.id]
    rw[this]at hE5;exact hE5
  .obtain⟨y0,yr,hyj⟩:∃y0 yr,y.jobs=y0::yr:=by
    cases hyj:y.jobs with
    | nil=>rw[hyj]at hul;simp at hul;simp[aQ]at h0;omega
    | cons y0 yr=>exact⟨y0,yr,rfl⟩
   have e2:pm.kQ σ' i=(σ',bif cT y.s.mode 2 then [pm.dS σ' 4 y.id 0] else []):=by
    unfold pm.kQ;simp only[hy,hyj]
   refine⟨_,hcu 5 _ rfl,?_⟩;rw[show u.s.mode=y.s.mode by rw[dy.s]];refine cJ (fun hm2=>?_) (fun hm2=>?_)
   .obtain⟨b',o',e,_,hc4⟩:=(hO'.then ((Keep.refl hO'.keep.wf).bump (n:=10))).atS hu;cases e;refine⟨_,hc4 0 _ rfl,?_⟩;refine sY (m:=m) hO' hO.lab hmm hE (by omega) (by omega) fun m5 hO5 hE5 hf5 _=>?_
    rw[hend,e2,hm2,cond_true]at h;refine h m5 _ _ _ _ _ _ _ _ _ hO5 hwj' hwq' ?_ ?_ (by omega)
    .obtain⟨S,q1,q2⟩:=hfr;exact⟨S,q1.trans hf5 (fun b' hb'=>.inr (hE.new b' hb')),q2⟩
    .have:(⟨now,4,u.id,0⟩:pm.Ev)=pm.dS σ' 4 y.id 0:=by unfold pm.dS;rw[enow,en,dy.id]
     rw[this]at hE5;exact hE5
   .rw[hend,e2,hm2,cond_false,List.append_nil]at h;exact h mm _ _ _ _ _ _ _ _ _ hO' hwj' hwq' hfr hE (by omega)
 .intro J hJJ;refine dL (fun f:Option Addr->Nat->Nat->Mem->Prop=>∀mm,Keep m mm->cT x.sec 2=true->
   pm.gE σ i=((pm.free { σ with servs:=σ.servs.set i { x with jobs:=r,sec:=0 } } (pm.dI j).1.1 true).1,pm.dS σ 3 x.id j.num::(pm.free { σ with servs:=σ.servs.set i { x with jobs:=r,sec:=0 } } (pm.dI j).1.1 true).2)->f none 0 0 mm) ?_ ?_
  .intro mm k hs e1;obtain⟨hq1,hq2,hq3⟩:=hS hs;obtain⟨jq,hjq⟩:∃jq:Nat,(pm.dI j).1.1=(jq:Int)+1:=⟨((pm.dI j).1.1-1).toNat,by omega⟩;have l2:=hO.s2d;obtain⟨l,hl⟩:∃l,σ.sems[jq]? = some l:=⟨_,gQ2 (by omega)⟩;have hOm:=hO.then k;obtain⟨b',o',e,_,hc1⟩:=(hOm.then ((Keep.refl hOm.keep.wf).bump (n:=12))).atS hv;cases e;refine⟨_,hc1 0 _ rfl,?_⟩;refine sY (m:=m) (d:=9) hOm hO.lab k.nx (EvS.nil m mm) (by omega) (by omega) fun m2 hO2 hE2 hf2 hx2=>?_
   have f2:Fr m m2 []:=(k.fr []).trans hf2 (fun b hb=>by cases hb);obtain⟨b',o',e,_,hc2⟩:=hO2.atS hv;cases e;obtain⟨wb,hκ⟩:=hwj i;obtain⟨a',t1,t2,ss2,js2,hO3⟩:=P7 hO2 hv hx hxr hκ rfl;refine⟨_,_,_,hc2 6 _ rfl,_,_,_,t1,t2,?_⟩;rw[cO];have fw:Fr m2 (wr m2 b (o+Int.toNat (i:Int)*11+6) [.slice a' (v.jn-1) (v.jc-1)]) [b]:=(Fr.refl m2 [b]).wr (.inl (by simp));generalize wr m2 b (o+Int.toNat (i:Int)*11+6) [.slice a' (v.jn-1) (v.jc-1)]=m3 at hO3 fw;have hx3:=dZ (y:={ x with jobs:=r }) hx;obtain⟨v3,hv3⟩:∃v3,ss2[i]? = some v3:=⟨_,gQ2 (by rw[hO3.s1n];omega)⟩;obtain⟨dx,djx⟩:=hO3.ds i v3 _ hv3 hx3;obtain⟨g4,hO4⟩:=hO3.setS (κ:=(il wj i (.own false)) i) (js':=js2 i) (x':={ x with jobs:=r,sec:=0 }) (v':={ v3 with sec:=0 }) (k:=7) (vs:=[.int .i64 0]) hv3 rfl (by simp) rfl (hO3.jb i v3 hv3) ⟨⟨dx.id,dx.s,rfl,dx.held,dx.num,dx.ran⟩,djx⟩;rw[fT,fT]at hO4;refine⟨g4,?_⟩;rw[cO];have fw4:=fw.wr (b:=b) (o:=o+Int.toNat (i:Int)*11+7) (l:=[.int .i64 0]) (.inl (by simp));generalize wr m3 b (o+Int.toNat (i:Int)*11+7) [.int .i64 0]=m4 at hO4 fw4;have hO4:=hO4.cast (σ':={ σ with servs:=σ.servs.set i { x with jobs:=r,sec:=0 } }) (by simp[List.set_set]);have hids:(σ.servs.set i { x with jobs:=r,sec:=0 }).map (·.id) = σ.servs.map (·.id):=jH hx rfl;rw[hjq]at e1 ⊢;obtain⟨wq1,hwb⟩:=hwq jq;refine Io hO4 eM en hn1 (kq hids.symm hr) hl hn2 hwb (fun y r' hy=>?_) fun m5 a n c ss' ls' qs' wq' hO5 hK hfr hE hn=>⟨_,_,_,rfl,?_⟩
   .obtain⟨z,hz⟩:=hq3 l (by rw[hjq,show ((jq:Int)+1-1).toNat=jq by omega];exact hl) y r' hy;have e:=nA hids y;show ∃v,(σ.servs.set i { x with jobs:=r,sec:=0 })[pm.at_ (σ.servs.set i { x with jobs:=r,sec:=0 }) y]? = some v;rw[e];by_cases e2:pm.at_ σ.servs y=i
    .rw[e2];exact⟨_,dZ hx⟩
    .rw[List.getElem?_set,if_neg (fun h=>e2 h.symm)];exact⟨z,hz⟩
   .obtain⟨S5,f5,hS5⟩:=hfr;have f25:Fr m2 m5 (b::S5):=(fw4.mono (S':=b::S5) (fun b' hb'=>.inl (by rw[List.mem_singleton.1 hb'];simp))).trans f5 (fun b' hb'=>.inl (gQ5 _ hb'));have hlS:∀b'∈b::S5,lam b' = .sv∨lam b' = .lk:=fun b' hb'=>by
     rcases List.mem_cons.1 hb' with rfl|hb'
     .exact .inl hlb
     .exact hS5 b' hb'
    have hE5:EvS m m5 (some ⟨m2.nx-1,0,none⟩) (0+1) (0+1) ([]++[⟨now,3,v.id,jv.num⟩]):=hE2.fr hO2.keep.wf f25 (fun b' hb' hs=>by
     have h1:=hE2.new b' hb';have h2:lam b'≠.no:=by rcases hlS b' hs with h|h<;>rw[h]<;>simp
     have:=hO.lab b' h2;omega)
    have hmm5:m.nx<=m5.nx:=Nat.le_trans (Nat.le_trans k.nx (Nat.le_of_lt hx2)) f25.nx;obtain⟨a9,c9,m9,r1,r2,r3,r4⟩:=P8 (m:=m) hO5.keep.wf hE5 hE.grow (by omega) hmm5;refine⟨a9,_,c9,m9,r1,?_⟩;have hO9:=hO5.fr r2 r3 (fun b' hb'=>G1 hO.lab (hE5.new b' hb'));obtain⟨y,hy1,_⟩:=free_at { σ with servs:=σ.servs.set i { x with jobs:=r,sec:=0 } } ((jq:Int)+1) true (dZ (y:={ x with jobs:=r,sec:=0 }) hx);have e3:(⟨now,3,v.id,jv.num⟩:pm.Ev)=pm.dS σ 3 x.id j.num:=by unfold pm.dS;rw[en,d0.id,hJ.num]
    rw[e3]at r4;refine hJJ _ _ _ _ _ _ _ _ _ _ _ _ hO9 (hwj.up i false) (hK.all hwq) ⟨b::S5,((f2.mono (S':=b::S5) (fun b' hb'=>by cases hb')).trans f25 (fun b' hb'=>.inl hb')).trans r3 (fun b' hb'=>.inr (hE5.new b' hb')),fun b' hb'=>?_⟩ r4 (by omega) e1 (by rw[A7]) ⟨y,hy1⟩
    .rcases hlS b' hb' with h|h
     .exact .inl h
     .exact .inr (.inl h)
  intro J26 hJ26;refine dL (fun f:Option Addr->Nat->Nat->Mem->Prop=>∀a n c mm σ' ss' js' ls' qs' wj' wq' E w,Ow TT wj' wq' m0 mm lam (some ⟨b,o,none⟩) n1 c1 a2 n2 c2 a3 n3 c3 ss' js' ls' qs' σ'->pk wj'->pk wq'->(∃S,Fr m mm S/\∀b∈S,Fz (lam b))->EvS m mm a n c E->n<=2->σ'.now = σ.now->σ'.servs[i]? = some w->w.jobs=j::r->
   pm.gE σ i=(bif cT (pm.eL j).1.at_ (aQ j.prog.length) then ({ σ' with servs:=σ'.servs.set i { w with jobs:=r } },E++[pm.dS σ 2 w.id j.num]) else ({ σ' with servs:=σ'.servs.set i { w with jobs:=(pm.eL j).1::r } },E))->f a n c mm) ?_ ?_
  .intro a n c mm σ' ss' js' ls' qs' wj' wq' E w hO' hwj' hwq' hfr hE hn enow hw hwr e1;obtain⟨S,fS,hSl⟩:=hfr;have hwm:=hO'.keep.wf;have k0:Keep mm (bump mm 11):=(Keep.refl hwm).bump;have hO1:=hO'.then k0;obtain⟨u,hu⟩:∃u,ss'[i]? = some u:=⟨_,gQ2 (by rw[hO'.s1n];omega)⟩;obtain⟨b',o',e,_,hc1⟩:=hO1.atS hu;cases e;refine⟨_,_,_,hc1 6 _ rfl,?_⟩;have hJmm:DpJob mm lam jv j:=by
    obtain⟨jv2,q1,q2⟩:=dj.get' (i:=0) (b:=j) (by rw[hxr];rfl);obtain⟨jv3,q3,q4⟩:=(hO.ds i v x hv hx).2.get' (i:=0) (b:=j) (by rw[hxr];rfl);rw[hjv]at q3;cases q3;refine q4.fr hO.keep.wf fS fun b hb=>?_
    rcases hSl b hb with h|h|⟨k,h⟩<;>rw[h]<;>simp
   have hJb:DpJob (bump mm 11) lam jv j:=hJmm.fr hwm (k0.fr []) (fun b hb=>by cases hb);have x0:mm.nx<=(bump mm 11).nx:=by simp
   refine Nq (k0.wf.setFl x0) (hJb.prog.hp rfl) fun m20 k20=>?_
   rw[ej];have hjs:=(hO1.ds i u w hu hw).2;have hA1:=(hO1.jb i u hu).arr fh;obtain⟨jw,hjw,hJw⟩:=hjs.get' (i:=0) (b:=j) (by rw[hwr];rfl);obtain⟨bj1,oj1,hjab,hcj1⟩:=hA1.2 0 jw hjw;have hjn:0<u.jn:=by
    have h1:=hA1.1;have h2:=(gQ1 hjw).1;omega
   refine⟨_,_,_,_,_,_,_,rfl,⟨⟨by omega,by omega⟩,?_⟩⟩;rw[hjab,cW];have k2:Keep (bump mm 11) (setFl m20 (bump mm 11).fl):=Keep.unset k0.wf k20;generalize setFl m20 (bump mm 11).fl=m6 at k2;have hO6:=hO1.then k2;obtain⟨wb,hκ⟩:=hwj' i;have ep:(pm.eL j).1.prog=j.prog:=by unfold pm.eL;cases (!(pm.dI j).2 || dT j.done (pm.dI j).1.2)<;>rfl
   obtain⟨jv',hjv'⟩:∃jv':JV,jv'=⟨(pm.eL j).1.num,jv.pa,jv.pn,jv.pc,(pm.eL j).1.at_,(pm.eL j).1.done⟩:=⟨_,rfl⟩;have hJ6:DpJob m6 lam jv j:=hJb.fr k0.wf (k2.fr []) (fun b hb=>by cases hb);obtain⟨g3,hO7⟩:=hO6.setJ (q:=0) (k:=0) (jv':=jv') (j':=(pm.eL j).1) (vs:=encJ jv') hu hw hjw hjab hκ (by simp[encJ]) (Da rfl) (by
    subst hjv';exact⟨rfl,rfl,rfl,by rw[ep];exact hJ6.prog,by rw[ep];exact hJ6.lab⟩)
   have evs:encJ jv'=[.int .i64 (pm.eL j).1.num,.slice jv.pa jv.pn jv.pc,.int .i64 (pm.eL j).1.at_,.int .i64 (pm.eL j).1.done]:=by rw[hjv'];rfl
   rw[evs]at g3 hO7;refine⟨g3,?_⟩;rw[cO];have ejob:w.jobs.set 0 (pm.eL j).1=(pm.eL j).1::r:=by rw[hwr];rfl
   rw[ejob]at hO7;have hlj:lam bj1 = .jb i:=by
    have:=hO6.jb i u hu;rw[hκ]at this;exact this.2.1 bj1 (by rw[hjab];simp[blk])
   obtain⟨m7,hm7⟩:∃m7,m7=wr m6 bj1 (oj1+Int.toNat (0:Int)*4) [.int .i64 (pm.eL j).1.num,.slice jv.pa jv.pn jv.pc,.int .i64 (pm.eL j).1.at_,.int .i64 (pm.eL j).1.done]:=⟨_,rfl⟩;have hm7':wr m6 bj1 (oj1+Int.toNat ((0:Nat):Int)*4+0) [.int .i64 (pm.eL j).1.num,.slice jv.pa jv.pn jv.pc,.int .i64 (pm.eL j).1.at_,.int .i64 (pm.eL j).1.done]=m7:=hm7.symm;have f7:Fr mm m7 [bj1]:=by
    rw[hm7];exact((k0.trans k2).fr [bj1]).wr (.inl (by simp))
   rw[<-hm7];rw[hm7']at hO7;have hw7:=dZ (y:={ w with jobs:=(pm.eL j).1::r }) hw;have fr7:∃S,Fr m m7 S/\∀b∈S,Fz (lam b):=by
    refine⟨bj1::S,(fS.mono (S':=bj1::S) (fun b' hb'=>.inl (gQ5 _ hb'))).trans f7 (fun b' hb'=>.inl (by rw[List.mem_singleton.1 hb'];simp)),fun b' hb'=>?_⟩;rcases List.mem_cons.1 hb' with rfl|hb'
    .exact .inr (.inr ⟨i,hlj⟩)
    .exact hSl b' hb'
   have hE7:EvS m m7 a n c E:=hE.fr hwm f7 (fun b' hb' hs=>by
    have h1:=hE.new b' hb';rw[List.mem_singleton.1 hs]at h1;have:=hO.lab bj1 (by rw[hlj];simp);omega)
   have hmm:m.nx<=mm.nx:=fS.nx;have hmm7:m.nx<=m7.nx:=Nat.le_trans hmm f7.nx;have k8:Keep m7 (bump m7 11):=(Keep.refl hO7.keep.wf).bump;have hO8:=hO7.then k8;obtain⟨b',o',e,_,hc8⟩:=hO8.atS hu;cases e;refine⟨_,_,_,hc8 6 _ rfl,⟨by omega,by omega⟩,?_⟩;have hA8:=(hO8.jb i u hu).arr fh;obtain⟨jy,hjy,hJy⟩:=((hO8.ds i u _ hu hw7).2).get' (i:=0) (b:=(pm.eL j).1) rfl;obtain⟨bj2,oj2,hjab2,hcj2⟩:=hA8.2 0 jy hjy;rw[hjab2,cW];refine⟨_,hcj2 2 _ rfl,?_⟩;rw[hJy.at_,show aQ jv.pn=aQ j.prog.length by rw[hJmm.prog.1]];refine cJ (fun hl=>?_) (fun hl=>?_)
   .rw[hl,cond_true]at e1;obtain⟨b',o',e,_,hc9⟩:=(hO7.then ((Keep.refl hO7.keep.wf).bump (n:=23))).atS hu;cases e;refine⟨_,hc9 0 _ rfl,?_⟩;have hid:u.id=w.id:=(hO'.ds i u w hu hw).1.id;have e20:(bump m7 11).nx+9=m7.nx+20:=by show m7.nx+11+9=m7.nx+20;omega
    rw[e20];refine sY (m:=m) (d:=20) hO7 hO.lab hmm7 hE7 (by omega) (by omega) fun m9 hO9 hE9 hf9 _=>?_
    obtain⟨S7,g7,hS7⟩:=fr7;have f9:=g7.trans hf9 (fun b' hb'=>.inr (hE7.new b' hb'));obtain⟨b',o',e,_,hc9'⟩:=hO9.atS hu;cases e;refine⟨_,_,_,hc9' 6 _ rfl,?_⟩;obtain⟨a',t1,t2,ss2,js2,hO10⟩:=P7 hO9 hu hw7 rfl hκ rfl;refine⟨_,_,_,t1,t2,?_⟩;rw[cO];have fw:Fr m9 (wr m9 b (o+Int.toNat (i:Int)*11+6) [.slice a' (u.jn-1) (u.jc-1)]) [b]:=(Fr.refl m9 [b]).wr (.inl (by simp));have e2:(⟨now,2,u.id,jv.num⟩:pm.Ev)=pm.dS σ 2 w.id j.num:=by unfold pm.dS;rw[en,hid,hJ.num]
    rw[e2]at hE9;refine hJJ _ _ _ _ _ _ _ _ _ _ _ _ (hO10.cast ?_) (hwj'.up i false) hwq' ⟨b::S7,(f9.mono (S':=b::S7) (fun b' hb'=>.inl (gQ5 _ hb'))).trans fw (fun b' hb'=>.inl (by rw[List.mem_singleton.1 hb'];simp)),fun b' hb'=>?_⟩ (hE9.fr hO9.keep.wf fw fun b' hb' hs=>?_) (by omega) e1 enow ⟨_,dZ hw⟩
    .simp[List.set_set]
    .rcases List.mem_cons.1 hb' with rfl|hb'
     .exact .inl hlb
     .exact hS7 b' hb'
    .have h1:=hE9.new b' hb';rw[List.mem_singleton.1 hs]at h1;have:=hO.lab b (by rw[hlb];simp);omega
   .rw[hl,cond_false]at e1;obtain⟨S7,g7,hS7⟩:=fr7;exact hJJ a n c _ _ _ _ _ _ _ _ _ hO8 hwj' hwq' ⟨S7,g7.trans (k8.fr []) (fun b hb=>by cases hb),hS7⟩ (hE7.fr hO7.keep.wf (k8.fr []) (fun b _ hb=>by cases hb)) (by omega) e1 enow ⟨_,hw7⟩
  intro J33 hJ33;have hm:∀b,lam b≠.no->b<m.nx:=hO.lab;refine dL (fun f:Mem->Prop=>∀mm,Keep m mm->cT x.sec 2=true->cT j.done (pm.dI j).1.2=true->f mm) ?_ ?_
  .intro mm k hs hd;obtain⟨hq1,hq2,hq3⟩:=hS hs;obtain⟨jq,hjq⟩:∃jq:Nat,(pm.dI j).1.1=(jq:Int)+1:=⟨((pm.dI j).1.1-1).toNat,by omega⟩;have l2:=hO.s2d;obtain⟨l,hl⟩:∃l,σ.sems[jq]? = some l:=⟨_,gQ2 (by omega)⟩;have hOm:=hO.then k;obtain⟨dx,djx⟩:=hOm.ds i v x hv hx;obtain⟨g1,hO1⟩:=hOm.setS (κ:=wj i) (js':=js i) (x':={ x with sec:=0 }) (v':={ v with sec:=0 }) (k:=7) (vs:=[.int .i64 0]) hv rfl (by simp) rfl (hOm.jb i v hv) ⟨⟨dx.id,dx.s,rfl,dx.held,dx.num,dx.ran⟩,djx⟩;rw[fT,fT]at hO1;refine⟨g1,?_⟩;rw[cO];have f1:Fr m (wr mm b (o+Int.toNat (i:Int)*11+7) [.int .i64 0]) [b]:=(k.fr [b]).wr (.inl (by simp));generalize wr mm b (o+Int.toNat (i:Int)*11+7) [.int .i64 0]=m2 at hO1 f1;have hids:(σ.servs.set i { x with sec:=0 }).map (·.id) = σ.servs.map (·.id):=jH hx rfl;rw[hjq];obtain⟨wb,hwb⟩:=hwq jq;refine Io hO1 eM en hn1 (kq hids.symm hr) hl hn2 hwb (fun y r' hy=>?_) fun m3 a n c ss' ls' qs' wq' hO3 hK hfr hE hn=>⟨_,_,_,rfl,?_⟩
   .obtain⟨z,hz⟩:=hq3 l (by rw[hjq,show ((jq:Int)+1-1).toNat=jq by omega];exact hl) y r' hy;have e:=nA hids y;show ∃v,(σ.servs.set i { x with sec:=0 })[pm.at_ (σ.servs.set i { x with sec:=0 }) y]? = some v;rw[e];by_cases e2:pm.at_ σ.servs y=i
    .rw[e2];exact⟨_,dZ hx⟩
    .rw[List.getElem?_set,if_neg (fun h=>e2 h.symm)];exact⟨z,hz⟩
   .obtain⟨w,hw1,hw2,hw3,_⟩:=free_at { σ with servs:=σ.servs.set i { x with sec:=0 } } ((jq:Int)+1) false (dZ (y:={ x with sec:=0 }) hx);refine hJ33 a n c m3 _ _ _ _ _ _ _ _ w hO3 hwj (hK.all hwq) ?_ ⟨hE.grow,fun b' hb'=>Nat.le_trans f1.nx (hE.new b' hb')⟩ hn ?_ hw1 (by rw[hw2];exact hxr) ?_
    .obtain⟨S,q1,q2⟩:=hfr;refine⟨b::S,(f1.mono (S':=b::S) (fun b' hb'=>.inl (by rw[List.mem_singleton.1 hb'];simp))).trans q1 (fun b' hb'=>.inl (gQ5 _ hb')),fun b' hb'=>?_⟩;rcases List.mem_cons.1 hb' with rfl|hb'
     .exact .inl hlb
     .rcases q2 b' hb' with h|h
      .exact .inl h
      .exact .inr (.inl h)
    .rw[A7]
    .exact Ez hx hxr hd (by rw[hs,cond_true,hjq]) (by rw[A7]) hw1
  intro J42 hJ42;refine dL (fun f:Mem->Prop=>∀mm,Keep m mm->(cT j.done (pm.dI j).1.2=true->cT x.sec 2=false)->f mm) ?_ ?_
  .intro mm k hcd;rw[hJ.done];refine cJ (fun hd=>?_) (fun hd=>?_)
   .have hs:=hcd hd;refine hJ33 none 0 0 mm σ _ _ _ _ _ _ [] x (hO.then k) hwj hwq ⟨[],k.fr [],fun b hb=>by cases hb⟩ (EvS.nil _ _) (by omega) rfl hx hxr ?_;exact Ez hx hxr hd (by rw[hs,cond_false]) rfl hx
   .have k21:Keep m (bump mm 21):=k.bump;have hO21:=hO.then k21;obtain⟨b',o',e,_,hc3⟩:=hO21.atS hv;cases e;refine⟨_,hc3 7 _ rfl,?_⟩;rw[d0.sec];have stop:∀mm',Keep m mm'->(cT x.sec 2&&(match σ.sems[((pm.dI j).1.1-1).toNat]? with|some l=>cT x.held l.most|none=>false))=false->J none 0 0 mm':=fun mm' k' hc=>by
     refine hJJ none 0 0 mm' σ _ _ _ _ _ _ [] (hO.then k') hwj hwq ⟨[],k'.fr [],fun b hb=>by cases hb⟩ (EvS.nil _ _) (by omega) ?_ rfl ⟨x,hx⟩;exact EA hx hxr hd false hc
    refine cJ (fun hs=>?_) (fun hs=>?_)
    .obtain⟨hq1,hq2,hq3⟩:=hS hs;obtain⟨jq,hjq⟩:∃jq:Nat,(pm.dI j).1.1=(jq:Int)+1:=⟨((pm.dI j).1.1-1).toNat,by omega⟩;have l2:=hO.s2d;obtain⟨l,hl⟩:∃l,σ.sems[jq]? = some l:=⟨_,gQ2 (by omega)⟩;obtain⟨u,hu⟩:∃u,ls[jq]? = some u:=⟨_,gQ2 (by rw[hO.s2n];omega)⟩;have ej:de .i64 (pm.dI j).1.1 1=(jq:Int):=by rw[hjq,eO (by omega) (by omega)];omega
     obtain⟨b2,o2,rfl,_,hc2⟩:=hO21.atL hu;refine⟨_,hc3 8 _ rfl,?_⟩;rw[ej];refine⟨⟨by omega,by omega⟩,?_⟩;rw[cW];refine⟨_,hc2 0 _ rfl,?_⟩;obtain⟨dl,_⟩:=hO21.dl jq u l hu hl;rw[d0.held,dl.most];have hmost:(match σ.sems[((pm.dI j).1.1-1).toNat]? with|some l=>cT x.held l.most|none=>false)=cT x.held l.most:=by
      rw[hjq,show ((jq:Int)+1-1).toNat=jq by omega,hl]
     refine cJ (fun hh=>?_) (fun hh=>?_)
     .refine hJ26 _ k21 hs ?_;exact EA hx hxr hd true (by rw[hmost,hs,hh,Bool.and_self])
     .exact stop _ k21 (by rw[hmost,hh,Bool.and_false])
    .exact stop _ k21 (by rw[hs,Bool.false_and])
  intro J43 hJ43;have k3:Keep m (bump m1 1):=k12.bump;rw[hJ.done];refine cJ (fun hd=>?_) (fun hd=>?_)
  .obtain⟨b',o',e,_,hc3⟩:=(hO.then k3).atS hv;cases e;refine⟨_,hc3 7 _ rfl,?_⟩;rw[d0.sec];refine cJ (fun hs=>hJ42 _ k3 hs hd) (fun hs=>hJ43 _ k3 (fun _=>hs))
  .exact hJ43 _ k3 (fun h=>by rw[hd]at h;cases h)
end
end Go.Proofs.YthpnifigjfplbaaGreat.vc
namespace Go.Proofs.YthpnifigjfplbaaGreat.vc
open Go Go.AX
structure OwE (wj wq:Nat->Kd) (m0 m:Mem) (lam:Nat->Lb) (a1:Option Addr) (n1 c1:Nat) (a2:Option Addr) (n2 c2:Nat) (a3:Option Addr) (n3 c3:Nat) (ss:List SV) (js:Nat->List JV) (ls:List LV) (qs:Nat->List Int) (σ : pm.St) (ae:Option Addr) (ne ce:Nat) (E:List pm.Ev):Prop where
 ow:Ow TT wj wq m0 m lam a1 n1 c1 a2 n2 c2 a3 n3 c3 ss js ls qs σ
 ev:Grow m ae ne ce 4 t_model_Event (E.flatMap encEv)
 evn:∀b∈blk ae,m0.nx<=b/\lam b = .no
section
variable {wj wq wj' wq':Nat->Kd} {m0 m m':Mem} {lam:Nat->Lb} {Q:Value->Mem->Prop} {M now:Int} {a1 a2 a3 ae:Option Addr} {n1 c1 n2 c2 n3 c3 ne ce:Nat} {ss ss':List SV} {js js':Nat->List JV} {ls ls':List LV} {qs qs':Nat->List Int} {σ σ':pm.St} {E:List pm.Ev}
theorem OwE.wf(h:OwE wj wq m0 m lam a1 n1 c1 a2 n2 c2 a3 n3 c3 ss js ls qs σ ae ne ce E):Wf m:=h.ow.keep.wf
theorem OwE.evlt(h:OwE wj wq m0 m lam a1 n1 c1 a2 n2 c2 a3 n3 c3 ss js ls qs σ ae ne ce E):∀b∈blk ae,b<m.nx:=h.ev.blk_lt h.wf
theorem OwE.arr(h:OwE wj wq m0 m lam a1 n1 c1 a2 n2 c2 a3 n3 c3 ss js ls qs σ ae ne ce E):Arr encEv 4 m ae ne E:=Arr.of_grow fo (by omega) h.ev
theorem OwE.len(h:OwE wj wq m0 m lam a1 n1 c1 a2 n2 c2 a3 n3 c3 ss js ls qs σ ae ne ce E):E.length=ne:=h.arr.1
theorem OwE.go(h:OwE wj wq m0 m lam a1 n1 c1 a2 n2 c2 a3 n3 c3 ss js ls qs σ ae ne ce E)(hO:Ow TT wj' wq' m0 m' lam a1 n1 c1 a2 n2 c2 a3 n3 c3 ss' js' ls' qs' σ')(hf:∃S,Fr m m' S/\∀b∈S,lam b≠.no):OwE wj' wq' m0 m' lam a1 n1 c1 a2 n2 c2 a3 n3 c3 ss' js' ls' qs' σ' ae ne ce E:=by
 obtain⟨S,f,hS⟩:=hf;exact⟨hO,h.ev.fr f h.wf (fun b hb hs=>hS b hs (h.evn b hb).2),h.evn⟩
theorem OwE.then(h:OwE wj wq m0 m lam a1 n1 c1 a2 n2 c2 a3 n3 c3 ss js ls qs σ ae ne ce E)(k:Keep m m'):OwE wj wq m0 m' lam a1 n1 c1 a2 n2 c2 a3 n3 c3 ss js ls qs σ ae ne ce E:=
 h.go (h.ow.then k) ⟨[],k.fr [],fun b hb=>by cases hb⟩
theorem OwE.cast(h:OwE wj wq m0 m lam a1 n1 c1 a2 n2 c2 a3 n3 c3 ss js ls qs σ ae ne ce E){F:List pm.Ev}(e:σ = σ')(e2:E=F):OwE wj wq m0 m lam a1 n1 c1 a2 n2 c2 a3 n3 c3 ss js ls qs σ' ae ne ce F:=e▸e2▸h
theorem OwE.start(h:Ow TT wj wq m0 m lam a1 n1 c1 a2 n2 c2 a3 n3 c3 ss js ls qs σ):OwE wj wq m0 m lam a1 n1 c1 a2 n2 c2 a3 n3 c3 ss js ls qs σ none 0 0 []:=⟨h,Grow.nil _ _ _,fun b hb=>by cases hb⟩
theorem OwE.setS(h:OwE wj wq m0 m lam a1 n1 c1 a2 n2 c2 a3 n3 c3 ss js ls qs σ ae ne ce E){b o i k:Nat}{v v':SV}{vs:List Value}{x x':pm.Serv}(hv:ss[i]? = some v)(hx:σ.servs[i]? = some x)(hab:a1=some ⟨b,o,none⟩)(hk:k+vs.length<=11)(he:over (encS v) k vs=encS v')(ej:v'.ja=v.ja/\v'.jn=v.jn/\v'.jc=v.jc)(ex:x'.jobs=x.jobs)(hd:DpServ v' x') :
  okW m b (o+Int.toNat (i:Int)*11+k) vs.length/\OwE wj wq m0 (wr m b (o+Int.toNat (i:Int)*11+k) vs) lam a1 n1 c1 a2 n2 c2 a3 n3 c3 (ss.set i v') js ls qs { σ with servs:=σ.servs.set i x' } ae ne ce E:=by
 obtain⟨g1,g2⟩:=h.ow.setS (κ:=wj i) (js':=js i) (x':=x') hv hab hk he (by obtain⟨e1,e2,e3⟩:=ej;rw[e1,e2,e3];exact h.ow.jb i v hv) ⟨hd,by rw[ex];exact(h.ow.ds i v x hv hx).2⟩;rw[fT,fT]at g2;refine⟨g1,h.go g2 ⟨[b],(Fr.refl m [b]).wr (.inl (by simp)),fun b' hb'=>?_⟩⟩;rw[List.mem_singleton.1 hb',h.ow.s1l b (by rw[hab];simp[blk])];simp
theorem OwE.setL(h:OwE wj wq m0 m lam a1 n1 c1 a2 n2 c2 a3 n3 c3 ss js ls qs σ ae ne ce E){b o i k:Nat}{v v':LV}{vs:List Value}{x x':pm.Lock}(hv:ls[i]? = some v)(hx:σ.sems[i]? = some x)(hab:a2=some ⟨b,o,none⟩)(hk:k+vs.length<=4)(he:over (encL v) k vs=encL v')(ej:v'.qa=v.qa/\v'.qn=v.qn/\v'.qc=v.qc)(ex:x'.queue=x.queue)(hd:DpLock v' x') :
  okW m b (o+Int.toNat (i:Int)*4+k) vs.length/\OwE wj wq m0 (wr m b (o+Int.toNat (i:Int)*4+k) vs) lam a1 n1 c1 a2 n2 c2 a3 n3 c3 ss js (ls.set i v') qs { σ with sems:=σ.sems.set i x' } ae ne ce E:=by
 obtain⟨g1,g2⟩:=h.ow.setL (κ:=wq i) (qs':=qs i) (x':=x') hv hab hk he (by obtain⟨e1,e2,e3⟩:=ej;rw[e1,e2,e3];exact h.ow.qu i v hv) ⟨hd,by rw[ex];exact(h.ow.dl i v x hv hx).2⟩;rw[fT,fT]at g2;refine⟨g1,h.go g2 ⟨[b],(Fr.refl m [b]).wr (.inl (by simp)),fun b' hb'=>?_⟩⟩;rw[List.mem_singleton.1 hb',h.ow.s2l b (by rw[hab];simp[blk])];simp
theorem OwE.app(h:OwE wj wq m0 m lam a1 n1 c1 a2 n2 c2 a3 n3 c3 ss js ls qs σ ae ne ce E){a':Option Addr}{k ck:Nat}{F:List pm.Ev}(hF:Arr encEv 4 m a' k F)(hn:ne+k<=1000000) :
  ∃a9 c9 m9,cQ cx m [bJ,bJ] [.slice ae ne ce,.slice a' k ck]=some (.slice a9 (ne+k) c9,m9)/\OwE wj wq m0 m9 lam a1 n1 c1 a2 n2 c2 a3 n3 c3 ss js ls qs σ a9 (ne+k) c9 (E++F)/\Fr m m9 (blk ae):=by
 obtain⟨i,z,h1,h2,h3,h4,h5,h6,h7⟩:=jg (cx:=cx) (t:=bJ) (e:=t_model_Event) (s:=4) (by kernel_rfl);have hw:=h.wf;by_cases hk:k=0
 .subst hk;have hF0:F=[]:=List.length_eq_zero_iff.1 hF.1;subst hF0;have hc:ce=ne:=by
   rcases h.ev.2 with⟨_,q1,q2⟩|⟨_,_,q2,_⟩<;>omega
  subst hc;refine⟨ae,ce,m,?_,by simpa using h,Fr.refl _ _⟩;unfold cQ;have hf:dA m i.size 0 (.slice a' 0 ck)=some []:=by cases a'<;>rfl
  have b1:(Nat.beq ([]:List Value).length (0*i.size)&&Nat.blt 0 i.size&&([]:List Value).all one1)=true:=by
   rw[h3,Nat.zero_mul,show Nat.blt 0 4=true from rfl];rfl
  simp only[h1,h2,mE,iR,hf,b1,gQ8 (show ce+0<=ce by omega)];cases ae<;>rfl
 .have hbb:(2*(ne+k)+192)*i.bytes<=140737488355328:=by
   have h1:(2*(ne+k)+192)<=2000192:=by omega
   have h2:=Nat.mul_le_mul h1 h7;omega
  obtain⟨m',q1,q2,q3,q4,q5⟩:=oF h.ev h1 h1 rfl h2 h3 h4 h5 h6 (x:=.slice a' k ck) (k:=k) rfl (hF.first fo h6) (by rw[dm fo,hF.1]) (by
   rw[List.all_eq_true];intro v hv;obtain⟨x,_,hx⟩:=List.mem_flatMap.1 hv;exact List.all_eq_true.1 (xd x) v hx) (by omega) hbb (by omega)
  have hbl:=h.evlt;have q5':∀b',b'≠m.nx->b'∉blk ae->m'.hp.get b'=m.hp.get b':=fun b' h1 h2=>q5 b' h1 (fun b e e'=>h2 (by rw[e,e'];simp[blk]))
  have hgl:=h.ev.1;have hw':Wf m':=⟨by have:=hw.1;omega,fun b hb=>by
   rw[q5' b (by omega) (fun h=>by have:=hbl b h;omega)];exact hw.2 b (by omega)⟩
  have f:Fr m m' (blk ae):=⟨by omega,q3,fun b hb hn'=>q5' b (by omega) hn'⟩;refine⟨_,_,m',q1,⟨h.ow.fr hw' f (fun b hb=>(h.evn b hb).2),⟨?_,.inr ⟨_,rfl,rfl,?_,?_⟩⟩,fun b hb=>?_⟩,f⟩
  .rw[List.flatMap_append,gR2,hgl,dm fo,hF.1,Nat.add_mul]
  .rw[q3];exact hw.1
  .rw[List.flatMap_append];exact q4
  .simp[blk]at hb;subst hb;exact⟨h.ow.keep.nx,h.ow.noNew (gQ4 _)⟩
theorem OwE.tell{k d:Nat}{kind who num:Int}{K:Option Addr->Nat->Nat->Mem->Prop}(h:OwE wj wq m0 m lam a1 n1 c1 a2 n2 c2 a3 n3 c3 ss js ls qs σ ae ne ce E)(hn:ne<=100000)(hd:d<k)
  (hK:∀a9 c9 m9,OwE wj wq m0 m9 lam a1 n1 c1 a2 n2 c2 a3 n3 c3 ss js ls qs σ a9 (ne+1) c9 (E++[⟨now,kind,who,num⟩])->Fr m m9 (blk ae)->K a9 (ne+1) c9 m9) :
  ah cx dF [.agg #[.int .i64 M,.int .i64 now,.slice a1 n1 c1,.slice a2 n2 c2,.slice a3 n3 c3],.int .i64 kind,.int .i64 who,.int .i64 num] (bump m k) fun r m9=>
   ∃(x1:Int),(∃(x2:Int),(∃(x3:Int),(∃(x4:Int),r=(.agg #[.int .i64 x1,.int .i64 x2,.int .i64 x3,.int .i64 x4])/\(∃(a84:Option Addr) (n84 c84:Nat) (m10:Mem),cQ cx (addO m9 (m.nx+d) (row [.int .i64 x1,.int .i64 x2,.int .i64 x3,.int .i64 x4] t_model_Event false)) [bJ,bJ] [.slice ae ne ce,.slice (some ⟨m.nx+d,0,none⟩) 1 1]=some (.slice a84 n84 c84,m10)/\(cY m10 fun m11=>K a84 n84 c84 m11))))):=by
 have hw:=h.wf;have k10:Keep m (bump m k):=(Keep.refl hw).bump;have x10:(bump m k).nx=m.nx+k:=rfl;refine ul k10.wf fun m9 k11=>⟨_,_,_,_,rfl,?_⟩
 have x11:=k11.nx;have k12:Keep m (addO m9 (m.nx+d) (row [.int .i64 now,.int .i64 kind,.int .i64 who,.int .i64 num] t_model_Event false)):=(k10.trans k11).addO (by omega) (by omega);have hR:Row (addO m9 (m.nx+d) (row [.int .i64 now,.int .i64 kind,.int .i64 who,.int .i64 num] t_model_Event false)) (m.nx+d) [.int .i64 now,.int .i64 kind,.int .i64 who,.int .i64 num] t_model_Event false:=Row.of_row (by rw[gJ,if_pos rfl]);generalize addO m9 (m.nx+d) (row [.int .i64 now,.int .i64 kind,.int .i64 who,.int .i64 num] t_model_Event false)=m10 at k12 hR;obtain⟨a9,c9,m11,q1,q2,q3⟩:=(h.then k12).app (a':=some ⟨m.nx+d,0,none⟩) (k:=1) (ck:=1) (F:=[⟨now,kind,who,num⟩]) (Arr.of_row fo (l:=[(⟨now,kind,who,num⟩:pm.Ev)]) hR) (by omega);refine⟨a9,_,c9,m11,q1,?_⟩;rw[cO];exact hK a9 c9 m11 q2 ((k12.fr (blk ae)).trans q3 (fun b hb=>.inl hb))
theorem OwE.stay(h:OwE wj wq m0 m lam a1 n1 c1 a2 n2 c2 a3 n3 c3 ss js ls qs σ ae ne ce E){b0:Nat}(hb0:lam b0 = .no)(hlt:b0<m.nx)(hne:b0∉blk ae):OwE wj wq m0 m (il lam b0 .pr) a1 n1 c1 a2 n2 c2 a3 n3 c3 ss js ls qs σ ae ne ce E:=
 ⟨h.ow.own hb0 hlt,h.ev,fun b hb=>⟨(h.evn b hb).1,(eV (f:=lam) (k:=b) (i:=b0) (fun e=>hne (by rw[<-e];exact hb))).trans (h.evn b hb).2⟩⟩
theorem OwE.pushQ(h:OwE wj wq m0 m lam a1 n1 c1 a2 n2 c2 a3 n3 c3 ss js ls qs σ ae ne ce E){j b o:Nat}{u:LV}{l:pm.Lock}{x:Int}{xa:Option Addr}(hu:ls[j]? = some u)(hl:σ.sems[j]? = some l)(hab:a2=some ⟨b,o,none⟩)(hκ : wq j = .own true)(hx:dA m 1 1 (.slice xa 1 1)=some [.int .i64 x])(hn:u.qn<=900000) :
  ∃m',cQ cx m [dt,dt] [.slice u.qa u.qn u.qc,.slice xa 1 1]=some (.slice (some ⟨m.nx,0,none⟩) (u.qn+1) (u.qn+1),m')/\okW m' b (o+Int.toNat (j:Int)*4+2) 1/\
   OwE wj wq m0 (wr m' b (o+Int.toNat (j:Int)*4+2) [.slice (some ⟨m.nx,0,none⟩) (u.qn+1) (u.qn+1)]) (il lam m.nx (.qu j)) a1 n1 c1 a2 n2 c2 a3 n3 c3 ss js (ls.set j { u with qa:=some ⟨m.nx,0,none⟩,qn:=u.qn+1,qc:=u.qn+1 }) (il qs j (qs j++[x])) { σ with sems:=σ.sems.set j { l with queue:=l.queue++[x] } } ae ne ce E/\
   ∃S,Fr m (wr m' b (o+Int.toNat (j:Int)*4+2) [.slice (some ⟨m.nx,0,none⟩) (u.qn+1) (u.qn+1)]) S/\∀b∈S,lam b = .lk∨∃k,lam b = .qu k:=by
 have hw:=h.wf;have hH:=h.ow.qu j u hu;rw[hκ]at hH;obtain⟨p1,p2,p3⟩:=hH;obtain⟨m',q1,q2,q3,q4,q5⟩:=wL (cx:=cx) (t:=dt) (e:=t_int) (s:=1) (vs:=[.int .i64 x]) (by kernel_rfl) hw (by have:=h.ow.keep.fl;have:=h.ow.fl0;omega) p1.own (by rw[dm dV,p3]) hx rfl rfl hn;have hR:Row m' m.nx ((qs j++[x]).flatMap encI) t_int true:=by rw[List.flatMap_append];exact q5
 obtain⟨g1,g2⟩:=h.ow.pushQ hu hl hab q2 q3 hκ (gQ4 _) (by omega) hR;have hlb:lam b = .lk:=h.ow.s2l b (by rw[hab];simp[blk]);have f2:Fr m (wr m' b (o+Int.toNat (j:Int)*4+2) [.slice (some ⟨m.nx,0,none⟩) (u.qn+1) (u.qn+1)]) (b::blk u.qa):=(q3.mono (S':=b::blk u.qa) (fun b' hb'=>.inl (gQ5 _ hb'))).wr (.inl (gQ9 ..));have hS:∀b'∈b::blk u.qa,lam b' = .lk∨∃k,lam b' = .qu k:=fun b' hb'=>by
  rcases List.mem_cons.1 hb' with e|hb'
  .subst e;exact .inl hlb
  .exact .inr ⟨j,p2 b' hb'⟩
 refine⟨m',q1,g1,⟨g2,h.ev.fr f2 hw (fun b' hb' hs=>?_),fun b' hb'=>⟨(h.evn b' hb').1,?_⟩⟩,_,f2,hS⟩
 .have:=(h.evn b' hb').2;rcases hS b' hs with e|⟨k,e⟩<;>rw[e]at this<;>cases this
 .rw[eV (fun e=>by have:=h.evlt b' hb';omega)];exact(h.evn b' hb').2
end
structure PrF (lam:Nat->Lb) (m m':Mem):Prop where
 nx:m.nx<=m'.nx
 get:∀b,lam b = .pr->b<m.nx->m'.hp.get b=m.hp.get b
theorem PrF.refl(lam:Nat->Lb)(m:Mem):PrF lam m m:=⟨gQ4 _,fun _ _ _=>rfl⟩
theorem PrF.trans{lam:Nat->Lb}{m m1 m2:Mem}(h:PrF lam m m1)(k:PrF lam m1 m2):PrF lam m m2:=
 ⟨Nat.le_trans h.nx k.nx,fun b hb hl=>(k.get b hb (Nat.lt_of_lt_of_le hl h.nx)).trans (h.get b hb hl)⟩
theorem PrF.keep{lam:Nat->Lb}{m m1 m2:Mem}(h:PrF lam m m1)(k:Keep m1 m2):PrF lam m m2:=h.trans ⟨k.nx,fun b _ hl=>k.get b hl⟩
theorem PrF.wr{lam:Nat->Lb}{m m1:Mem}(h:PrF lam m m1){b o:Nat}{l:List Value}(hb:lam b≠.pr):PrF lam m (wr m1 b o l):=
 h.trans ⟨by simp,fun b' hb' _=>ln (fun e=>hb (by rw[<-e];exact hb'))⟩
theorem PrF.fr{lam:Nat->Lb}{m m1 m2:Mem}{S:List Nat}(h:PrF lam m m1)(f:Fr m1 m2 S)(hS:∀b∈S,lam b≠.pr):PrF lam m m2:=
 h.trans ⟨f.nx,fun b hb hl=>f.get b hl (fun hs=>hS b hs hb)⟩
theorem PrF.arr{lam:Nat->Lb}{m m':Mem}{α : Type}{enc:α->List Value}{s:Nat}{a:Option Addr}{n:Nat}{l:List α}(h:PrF lam m m')(hw:Wf m)(hA:Arr enc s m a n l)(hl:l≠[]->∀b∈blk a,lam b = .pr):Arr enc s m' a n l:=by
 refine⟨hA.1,fun i x hx=>?_⟩;obtain⟨b,o,rfl,hc⟩:=hA.2 i x hx;have hne:l≠[]:=fun e=>by rw[e]at hx;cases hx
 refine⟨b,o,rfl,fun j v hv=>?_⟩;have h1:=hc j v hv;rw[tf (h.get b (hl hne b (by simp[blk])) (hw.rd h1))];exact h1
theorem OwE.hold{wj wq:Nat->Kd}{m0 m:Mem}{lam:Nat->Lb}{a1 a2 a3 ae:Option Addr}{n1 c1 n2 c2 n3 c3 ne ce:Nat}{ss:List SV}{js:Nat->List JV}{ls:List LV}{qs:Nat->List Int}{σ : pm.St}{E:List pm.Ev}(h:OwE wj wq m0 m lam a1 n1 c1 a2 n2 c2 a3 n3 c3 ss js ls qs σ ae ne ce E){α : Type}{enc:α->List Value}{s:Nat}(hs:∀x,(enc x).length=s)(h0:0<s){a:Option Addr}{n:Nat}{l:List α}(hA:Arr enc s m a n l)(hb:∀b∈blk a,lam b = .no∨lam b = .pr)(hne:∀b∈blk a,b∉blk ae) :
  ∃lam',OwE wj wq m0 m lam' a1 n1 c1 a2 n2 c2 a3 n3 c3 ss js ls qs σ ae ne ce E/\(l≠[]->∀b∈blk a,lam' b = .pr)/\∀b,(lam' b=lam b∨lam' b = .pr)/\(lam b≠.no->lam' b=lam b):=by
 by_cases hl:l=[]
 .exact⟨lam,h,fun e=>absurd hl e,fun b=>⟨.inl rfl,fun _=>rfl⟩⟩
 .have hlt:=hA.blk_lt hs h0 h.wf hl;cases a with
  | none=>exact⟨lam,h,fun _ b hb=>(by cases hb),fun b=>⟨.inl rfl,fun _=>rfl⟩⟩
  | some ad=>
   have hm:ad.block∈blk (some ad):=by simp[blk]
   have hbs:∀b∈blk (some ad),b=ad.block:=fun b hb=>by simpa [blk]using hb
   rcases hb _ hm with h1|h1
   .refine⟨_,h.stay h1 (hlt _ hm) (hne _ hm),fun _ b hb=>by rw[hbs b hb];exact fy ..,fun b=>?_⟩;by_cases e:b=ad.block
    .subst e;exact⟨.inr (fy ..),fun h=>absurd h1 h⟩
    .rw[eV e];exact⟨.inl rfl,fun _=>rfl⟩
   .exact⟨lam,h,fun _ b hb=>by rw[hbs b hb];exact h1,fun b=>⟨.inl rfl,fun _=>rfl⟩⟩
theorem A9{B R:Int}{σ : pm.St}(h:pm.Iw B R σ){l:pm.Lock}(hl:l∈σ.sems):l.queue.length<=32:=by
 obtain⟨q,hq⟩:=List.getElem?_of_mem hl;have hL:=h.lock q l hq;have:l.queue.length<=(σ.servs.map (·.id)).length:=hL.nd.length_le_of_subset fun id hid=>by
  have:=(hL.wait id).1 hid;rw[<-pm.oY];exact List.mem_map.2 ⟨_,this,rfl⟩
 rw[List.length_map]at this;have:=h.len1;omega
theorem qR{B R:Int}{σ : pm.St}(h:pm.Iw B R σ):Small σ:=
 ⟨by have:=h.len1;omega,by have:=h.len2;omega,by have:=h.len3;omega,fun x hx=>by have:=(h.serv x hx).len;omega,fun l hl=>by have:=A9 h hl;omega⟩
theorem Iq{B:Int}{σ : pm.St}(h:pm.Iv B σ):Nw σ:=fun id hid=>by
 obtain⟨x,hx,_,_,hj⟩:=pm.jC h hid;exact⟨x,hx,hj⟩
theorem Qb{B:Int}{σ : pm.St}(h:pm.Iv B σ):N5 σ:=fun p hp=>by
 obtain⟨x,_,_,_,_,_,h1,h2,_⟩:=pm.qK h hp;exact⟨h1,h2⟩
end Go.Proofs.YthpnifigjfplbaaGreat.vc
