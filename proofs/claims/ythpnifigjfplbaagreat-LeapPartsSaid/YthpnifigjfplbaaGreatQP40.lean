import Derived.Test.YthpnifigjfplbaaGreatQP39
import Derived.Test.YthpnifigjfplbaaGreatQP32
import Derived.KernelRfl
set_option linter.unusedVariables false
set_option linter.unusedSimpArgs false
set_option linter.unusedSectionVars false
namespace Go.Proofs.YthpnifigjfplbaaGreat.vc
open Go Go.AX
section
variable {B:Int} {m:Mem} {Q:Value->Mem->Prop} {M now:Int} {a a' a1 a2 a3 b1 b2 b3:Option Addr} {n n' c c' n1 c1 n2 c2 n3 c3 n4 n5 n6 d1 d2 d3:Nat} {σ : pm.St}
noncomputable def qK(a b:Option Bool):Option Bool:=match a with
 | some true=>b
 | some false=>some false
 | none=>none
theorem ON(x y x' y':Int)(m:Mem):fM cx m 40 fV (.agg #[.int .i64 x,.int .i64 y]) (.agg #[.int .i64 x',.int .i64 y'])=qK (some (decide (x=x'))) (qK (some (decide (y=y'))) (some true)):=by kernel_rfl
theorem OO(x y x' y':Int)(m:Mem):fM cx m 40 di (.agg #[.int .i64 x,.int .i64 y]) (.agg #[.int .i64 x',.int .i64 y'])=qK (some (decide (x=x'))) (qK (some (decide (y=y'))) (some true)):=by kernel_rfl
theorem OP(x y z u w x' y' z' u' w':Int)(m:Mem):fM cx m 40 eW (.agg #[.int .i64 x,.int .i64 y,.int .i64 z,.int .i64 u,.int .i64 w]) (.agg #[.int .i64 x',.int .i64 y',.int .i64 z',.int .i64 u',.int .i64 w'])=qK (some (decide (x=x'))) (qK (some (decide (y=y'))) (qK (some (decide (z=z'))) (qK (some (decide (u=u'))) (qK (some (decide (w=w'))) (some true))))):=by kernel_rfl
theorem oS(x:Int):decide (x=x)=true:=decide_eq_true rfl
theorem K7{l:List pm.Step}(hw:Wf m)(h1:Arr encP 2 m a n l)(h2:Arr encP 2 m a' n' l)(hn:n<=1000)(h:∀m',Keep m m'->Q (.bool true) m'):ah cx jI [.slice a n c,.slice a' n' c'] m Q:=by
 apply rF;unfold ny;have e:n=n':=by rw[<-h1.1,<-h2.1]
 subst e;refine fX (fun hne=>absurd rfl hne) (fun _=>?_);refine pD (show n<=4611686018427387904 by omega) (fun k mm=>Keep m mm) (Keep.refl hw) ?_;intro k m1 hk k1 I w hI;refine dH (fun hlt=>?_) (fun hge=>h m1 k1);obtain⟨x,hx⟩:∃x,l[k]? = some x:=⟨_,List.getElem?_eq_getElem (by rw[h1.1];exact hlt)⟩;have kb:Keep m (bump m1 9):=k1.bump;refine(h1.keep hw kb).open (k:=k) hx fun b o hc=>⟨_,hc 0 _ rfl,_,hc 1 _ rfl,?_⟩
 refine(h2.keep hw kb).open (k:=k) hx fun b o hc=>⟨_,hc 0 _ rfl,_,hc 1 _ rfl,?_⟩
 refine⟨true,by rw[ON];simp only[oS];rfl,?_⟩;exact hI _ hlt kb
theorem K8{l:List Int}(hw:Wf m)(h1:Arr encI 1 m a n l)(h2:Arr encI 1 m a' n' l)(hn:n<=1000)(h:∀m',Keep m m'->Q (.bool true) m'):ah cx lj [.slice a n c,.slice a' n' c'] m Q:=by
 apply tV;unfold pu;have e:n=n':=by rw[<-h1.1,<-h2.1]
 subst e;refine fX (fun hne=>absurd rfl hne) (fun _=>?_);refine pD (show n<=4611686018427387904 by omega) (fun k mm=>Keep m mm) (Keep.refl hw) ?_;intro k m1 hk k1 I w hI;refine dH (fun hlt=>?_) (fun hge=>h m1 k1);obtain⟨x,hx⟩:∃x,l[k]? = some x:=⟨_,List.getElem?_eq_getElem (by rw[h1.1];exact hlt)⟩;have kb:Keep m (bump m1 9):=k1.bump;refine(h1.keep hw kb).open (k:=k) hx fun b o hc=>⟨_,hc 0 _ rfl,?_⟩
 refine(h2.keep hw kb).open (k:=k) hx fun b o hc=>⟨_,hc 0 _ rfl,?_⟩
 exact fX (fun hne=>absurd rfl hne) (fun _=>hI _ hlt kb)
theorem Jf{l:List pm.Back}(hw:Wf m)(h1:Arr encB 2 m a n l)(h2:Arr encB 2 m a' n' l)(hn:n<=1000)(h:∀m',Keep m m'->Q (.bool true) m'):ah cx it [.slice a n c,.slice a' n' c'] m Q:=by
 apply pC;unfold lu;have e:n=n':=by rw[<-h1.1,<-h2.1]
 subst e;refine fX (fun hne=>absurd rfl hne) (fun _=>?_);refine pD (show n<=4611686018427387904 by omega) (fun k mm=>Keep m mm) (Keep.refl hw) ?_;intro k m1 hk k1 I w hI;refine dH (fun hlt=>?_) (fun hge=>h m1 k1);obtain⟨x,hx⟩:∃x,l[k]? = some x:=⟨_,List.getElem?_eq_getElem (by rw[h1.1];exact hlt)⟩;have kb:Keep m (bump m1 9):=k1.bump;refine(h1.keep hw kb).open (k:=k) hx fun b o hc=>⟨_,hc 0 _ rfl,_,hc 1 _ rfl,?_⟩
 refine(h2.keep hw kb).open (k:=k) hx fun b o hc=>⟨_,hc 0 _ rfl,_,hc 1 _ rfl,?_⟩
 refine⟨true,by rw[OO];simp only[oS];rfl,?_⟩;exact hI _ hlt kb
theorem Jg{v v':JV}{j:pm.Job}(hw:Wf m)(h1:RdJob m v j)(h2:RdJob m v' j)(hn:j.prog.length<=1000)(h:∀m',Keep m m'->Q (.bool true) m'):ah cx mJ [.agg #[.int .i64 v.num,.slice v.pa v.pn v.pc,.int .i64 v.at_,.int .i64 v.done],.agg #[.int .i64 v'.num,.slice v'.pa v'.pn v'.pc,.int .i64 v'.at_,.int .i64 v'.done]] m Q:=by
 apply yK;unfold uF;refine fy (fun _=>?_) (fun e=>absurd (h1.num.trans h2.num.symm) e);refine fy (fun _=>?_) (fun e=>absurd (h1.at_.trans h2.at_.symm) e);refine fy (fun _=>?_) (fun e=>absurd (h1.done.trans h2.done.symm) e);have kb:Keep m (bump m 2):=(Keep.refl hw).bump;exact K7 kb.wf (h1.prog.keep hw kb) (h2.prog.keep hw kb) (by rw[<-h1.prog.1];exact hn) fun m' k=>⟨_,rfl,h m' (kb.trans k)⟩
theorem K9{jl jl':List JV}{l:List pm.Job}(hw:Wf m)(h1:Arr encJ 4 m a n jl)(r1:All2 (RdJob m) jl l)(h2:Arr encJ 4 m a' n' jl')(r2:All2 (RdJob m) jl' l)(hn:n<=1000)(hp:∀j∈l,j.prog.length<=1000)(h:∀m',Keep m m'->Q (.bool true) m'):ah cx im [.slice a n c,.slice a' n' c',.func (.func mJ) #[] #[]] m Q:=by
 apply oT;unfold kK;have e:n=n':=by rw[<-h1.1,<-h2.1,r1.len,r2.len]
 subst e;refine fX (fun hne=>absurd rfl hne) (fun _=>?_);refine pD (show n<=4611686018427387904 by omega) (fun k mm=>Keep m mm) (Keep.refl hw) ?_;intro k m1 hk k1 I w hI;refine dH (fun hlt=>?_) (fun hge=>h m1 k1);obtain⟨x,hx⟩:∃x,l[k]? = some x:=⟨_,List.getElem?_eq_getElem (by rw[<-r1.len,h1.1];exact hlt)⟩;obtain⟨v,hv,hR⟩:=r1.get' hx;obtain⟨v',hv',hR'⟩:=r2.get' hx;have k2:Keep m (bump m1 2):=k1.bump;refine(h1.keep hw k1).open (k:=k) hv fun b o hc=>⟨_,hc 0 _ rfl,_,_,_,hc 1 _ rfl,_,hc 2 _ rfl,_,hc 3 _ rfl,?_⟩
 refine(h2.keep hw (k1.bump (n:=1))).open (k:=k) hv' fun b o hc=>⟨_,hc 0 _ rfl,_,_,_,hc 1 _ rfl,_,hc 2 _ rfl,_,hc 3 _ rfl,?_⟩
 exact Jg k2.wf (hR.keep hw k2) (hR'.keep hw k2) (hp x (List.mem_of_getElem? hx)) fun m' k'=>⟨_,rfl,hI _ hlt (k2.trans k')⟩
theorem Hj{v v':SV}{x:pm.Serv}(hw:Wf m)(h1:RdServ m v x)(h2:RdServ m v' x)(hn:x.jobs.length<=1000)(hp:∀j∈x.jobs,j.prog.length<=1000)(h:∀m',Keep m m'->Q (.bool true) m'):ah cx lT [.agg #[.int .i64 v.id,.int .i64 v.s.q,.int .i64 v.s.p,.int .i64 v.s.bud,.int .i64 v.s.due,.int .i64 v.s.mode,.slice v.ja v.jn v.jc,.int .i64 v.sec,.int .i64 v.held,.int .i64 v.num,.int .i64 v.ran],.agg #[.int .i64 v'.id,.int .i64 v'.s.q,.int .i64 v'.s.p,.int .i64 v'.s.bud,.int .i64 v'.s.due,.int .i64 v'.s.mode,.slice v'.ja v'.jn v'.jc,.int .i64 v'.sec,.int .i64 v'.held,.int .i64 v'.num,.int .i64 v'.ran]] m Q:=by
 apply xy;unfold tW;refine fy (fun _=>?_) (fun e=>absurd (h1.id.trans h2.id.symm) e);have kb:Keep m (bump m 2):=(Keep.refl hw).bump;have es:v.s=v'.s:=h1.s.trans h2.s.symm;refine⟨true,by rw[OP,es];simp only[oS];rfl,?_⟩;obtain⟨jl,q1,q2⟩:=(h1.keep hw kb).jobs;obtain⟨jl',q1',q2'⟩:=(h2.keep hw kb).jobs;rw[eF];refine K9 kb.wf q1 q2 q1' q2' (by rw[<-q1.1,q2.len];exact hn) hp fun m' k=>⟨_,rfl,?_⟩
 rw[eF];refine fy (fun _=>?_) (fun e=>absurd (h1.sec.trans h2.sec.symm) e);refine fy (fun _=>?_) (fun e=>absurd (h1.held.trans h2.held.symm) e);refine fy (fun _=>?_) (fun e=>absurd (h1.num.trans h2.num.symm) e);rw[show cU v.ran v'.ran=true from eC.2 (h1.ran.trans h2.ran.symm)];exact h m' (kb.trans k)
theorem Jh{sl sl':List SV}{l:List pm.Serv}(hw:Wf m)(h1:Arr encS 11 m a n sl)(r1:All2 (RdServ m) sl l)(h2:Arr encS 11 m a' n' sl')(r2:All2 (RdServ m) sl' l)(hn:n<=1000)(hj:∀x∈l,x.jobs.length<=1000/\∀j∈x.jobs,j.prog.length<=1000)(h:∀m',Keep m m'->Q (.bool true) m'):ah cx gI [.slice a n c,.slice a' n' c',.func (.func lT) #[] #[]] m Q:=by
 apply nM;unfold jL;have e:n=n':=by rw[<-h1.1,<-h2.1,r1.len,r2.len]
 subst e;refine fX (fun hne=>absurd rfl hne) (fun _=>?_);refine pD (show n<=4611686018427387904 by omega) (fun k mm=>Keep m mm) (Keep.refl hw) ?_;intro k m1 hk k1 I w hI;refine dH (fun hlt=>?_) (fun hge=>h m1 k1);obtain⟨x,hx⟩:∃x,l[k]? = some x:=⟨_,List.getElem?_eq_getElem (by rw[<-r1.len,h1.1];exact hlt)⟩;obtain⟨v,hv,hR⟩:=r1.get' hx;obtain⟨v',hv',hR'⟩:=r2.get' hx;have k2:Keep m (bump m1 2):=k1.bump;refine(h1.keep hw k1).open (k:=k) hv fun b o hc=>⟨_,hc 0 _ rfl,_,hc 1 _ rfl,_,hc 2 _ rfl,_,hc 3 _ rfl,_,hc 4 _ rfl,_,hc 5 _ rfl,_,_,_,hc 6 _ rfl,_,hc 7 _ rfl,_,hc 8 _ rfl,_,hc 9 _ rfl,_,hc 10 _ rfl,?_⟩
 refine(h2.keep hw (k1.bump (n:=1))).open (k:=k) hv' fun b o hc=>⟨_,hc 0 _ rfl,_,hc 1 _ rfl,_,hc 2 _ rfl,_,hc 3 _ rfl,_,hc 4 _ rfl,_,hc 5 _ rfl,_,_,_,hc 6 _ rfl,_,hc 7 _ rfl,_,hc 8 _ rfl,_,hc 9 _ rfl,_,hc 10 _ rfl,?_⟩
 obtain⟨j1,j2⟩:=hj x (List.mem_of_getElem? hx);exact Hj k2.wf (hR.keep hw k2) (hR'.keep hw k2) j1 j2 fun m' k'=>⟨_,rfl,hI _ hlt (k2.trans k')⟩
theorem Hk{v v':LV}{x:pm.Lock}(hw:Wf m)(h1:RdLock m v x)(h2:RdLock m v' x)(hn:x.queue.length<=1000)(h:∀m',Keep m m'->Q (.bool true) m'):ah cx lU [.agg #[.int .i64 v.most,.int .i64 v.holder,.slice v.qa v.qn v.qc,.bool v.dead],.agg #[.int .i64 v'.most,.int .i64 v'.holder,.slice v'.qa v'.qn v'.qc,.bool v'.dead]] m Q:=by
 apply xz;unfold tX;refine fy (fun _=>?_) (fun e=>absurd (h1.most.trans h2.most.symm) e);refine fy (fun _=>?_) (fun e=>absurd (h1.holder.trans h2.holder.symm) e);have kb:Keep m (bump m 2):=(Keep.refl hw).bump;refine K8 kb.wf (h1.queue.keep hw kb) (h2.queue.keep hw kb) (by rw[<-h1.queue.1];exact hn) fun m' k=>⟨_,rfl,?_⟩
 rw[eF];rw[show (v.dead == v'.dead)=true by rw[h1.dead,h2.dead];exact beq_self_eq_true _];exact h m' (kb.trans k)
theorem Ji{sl sl':List LV}{l:List pm.Lock}(hw:Wf m)(h1:Arr encL 4 m a n sl)(r1:All2 (RdLock m) sl l)(h2:Arr encL 4 m a' n' sl')(r2:All2 (RdLock m) sl' l)(hn:n<=1000)(hj:∀x∈l,x.queue.length<=1000)(h:∀m',Keep m m'->Q (.bool true) m'):ah cx gJ [.slice a n c,.slice a' n' c',.func (.func lU) #[] #[]] m Q:=by
 apply nN;unfold jM;have e:n=n':=by rw[<-h1.1,<-h2.1,r1.len,r2.len]
 subst e;refine fX (fun hne=>absurd rfl hne) (fun _=>?_);refine pD (show n<=4611686018427387904 by omega) (fun k mm=>Keep m mm) (Keep.refl hw) ?_;intro k m1 hk k1 I w hI;refine dH (fun hlt=>?_) (fun hge=>h m1 k1);obtain⟨x,hx⟩:∃x,l[k]? = some x:=⟨_,List.getElem?_eq_getElem (by rw[<-r1.len,h1.1];exact hlt)⟩;obtain⟨v,hv,hR⟩:=r1.get' hx;obtain⟨v',hv',hR'⟩:=r2.get' hx;have k2:Keep m (bump m1 2):=k1.bump;refine(h1.keep hw k1).open (k:=k) hv fun b o hc=>⟨_,hc 0 _ rfl,_,hc 1 _ rfl,_,_,_,hc 2 _ rfl,_,hc 3 _ rfl,?_⟩
 refine(h2.keep hw (k1.bump (n:=1))).open (k:=k) hv' fun b o hc=>⟨_,hc 0 _ rfl,_,hc 1 _ rfl,_,_,_,hc 2 _ rfl,_,hc 3 _ rfl,?_⟩
 exact Hk k2.wf (hR.keep hw k2) (hR'.keep hw k2) (hj x (List.mem_of_getElem? hx)) fun m' k'=>⟨_,rfl,hI _ hlt (k2.trans k')⟩
theorem OJ{M' now':Int}(hw:Wf m)(h1:RdSt cx m M now a1 n1 a2 n2 a3 n3 c3 σ)(h2:RdSt cx m M' now' b1 n4 b2 n5 b3 n6 d3 σ)(hI:pm.Iv B σ)(h:∀m',Keep m m'->Q (.bool true) m') :
  ah cx tR [.agg #[.int .i64 M,.int .i64 now,.slice a1 n1 c1,.slice a2 n2 c2,.slice a3 n3 c3],.agg #[.int .i64 M',.int .i64 now',.slice b1 n4 d1,.slice b2 n5 d2,.slice b3 n6 d3]] m Q:=by
 apply Cm;unfold yL;have z1:=hI.len1;have z2:=hI.len2;have z3:=hI.len3;have e1:=h1.len1;have e2:=h1.len2;have e3:=h1.len3;refine fy (fun _=>?_) (fun e=>absurd (h1.em.trans h2.em.symm) e);refine fy (fun _=>?_) (fun e=>absurd (h1.enow.trans h2.enow.symm) e);have kb:Keep m (bump m 2):=(Keep.refl hw).bump;obtain⟨sl,q1,q2⟩:=(h1.keep hw kb).servs;obtain⟨sl',q1',q2'⟩:=(h2.keep hw kb).servs;refine Jh kb.wf q1 q2 q1' q2' (by omega) (fun x hx=>⟨by have:=(hI.serv x hx).len;omega,fun j hj=>by have:=(pm.rk.1 ((hI.serv x hx).jobs j hj).good.prog).2.1;omega⟩) fun m3 k3=>⟨_,rfl,?_⟩
 rw[eF];have k03:=kb.trans k3;obtain⟨ll,p1,p2⟩:=(h1.keep hw k03).sems;obtain⟨ll',p1',p2'⟩:=(h2.keep hw k03).sems;refine Ji k03.wf p1 p2 p1' p2' (by omega) (fun l hl=>by have:=AK hI.toIw hl;omega) fun m4 k4=>⟨_,rfl,?_⟩
 rw[eF];have k04:=k03.trans k4;refine Jf k04.wf (h1.keep hw k04).backs (h2.keep hw k04).backs (by omega) fun m5 k5=>⟨_,rfl,h m5 (k04.trans k5)⟩
theorem OQ{x:Int}(hw:Wf m)(h:∀m',Keep m m'->Q (.bool (pm.qx x)) m'):ah cx oD [.int .i64 x] m Q:=by
 apply AO;unfold xu;refine cJ (fun h1=>?_) (fun h1=>?_)
 .exact dw h (Keep.refl hw) (by unfold pm.qx;rw[h1];rfl)
 .exact dw h (Keep.refl hw) (by unfold pm.qx;rw[h1];rfl)
theorem OS{l:List Int}(hw:Wf m)(ha:Arr encI 1 m a n l)(hn:n<=4611686018427387904)
  (h:∀m',Keep m m'->Q (.int .i64 (match l.findIdx? pm.qx with|some i=>(i:Int)|none=>-1)) m'):ah cx iK [.slice a n c,.func (.func oD) #[] #[]] m Q:=by
 apply qe;unfold lB;refine pD hn (fun k mm=>Keep m mm/\∀x∈l.take k,pm.qx x=false) ⟨Keep.refl hw,by simp⟩ ?_;rintro k m1 hk ⟨k1,hno⟩ I w hI;refine dH (fun hlt=>?_) (fun hge=>?_)
 .obtain⟨x,hx⟩:∃x,l[k]? = some x:=⟨_,List.getElem?_eq_getElem (by rw[ha.1];exact hlt)⟩;have hkl:=(List.getElem?_eq_some_iff.1 hx).1;refine(ha.keep hw k1).open (k:=k) hx fun b o hc=>⟨_,hc 0 _ rfl,?_⟩
  refine OQ k1.wf fun m2 k2=>⟨_,rfl,?_⟩
  refine cJ (fun ht=>?_) (fun ht=>?_)
  .have e:l.findIdx? pm.qx=some k:=by
    rw[List.findIdx?_eq_some_iff_getElem];refine⟨hkl,by rw[<-(List.getElem?_eq_some_iff.1 hx).2]at ht;exact ht,fun j hj=>?_⟩;have:=hno l[j] (List.mem_of_getElem? (i:=j) (by rw[List.getElem?_take,if_pos hj,List.getElem?_eq_getElem (by omega)]));rw[this];simp
   have:=h m2 (k1.trans k2);rw[e]at this;exact this
  .refine hI m2 hlt ⟨k1.trans k2,fun y hy=>?_⟩;rw[List.take_add_one,hx]at hy;rcases List.mem_append.1 hy with hy|hy
   .exact hno y hy
   .simp at hy;subst hy;exact ht
 .have e:l.findIdx? pm.qx=none:=by
   rw[List.findIdx?_eq_none_iff];intro y hy;rw[<-List.take_of_length_le (l:=l) (i:=k) (by rw[ha.1];exact hge)]at hy;exact hno y hy
  have:=h m1 k1;rw[e]at this;exact this
theorem tl{α β γ : Type}{R:α->β->Prop}{f:γ->α}{g:γ->β}(h:∀x,R (f x) (g x)):∀l:List γ,All2 R (l.map f) (l.map g)
 | []=>.nil
 | x::r=>.cons (h x) (tl h r)
theorem Ba{cpus:Int}{most:List Int}(hw:Wf m)(ha:Arr encI 1 m a n most)
  (h0:∀m',Keep m m'->(pm.new cpus most).2≠0->pm.new cpus most=(⟨0,0,[],[],[]⟩,1)->Q (.tuple #[.agg #[.int .i64 0,.int .i64 0,.slice none 0 0,.slice none 0 0,.slice none 0 0],.int .i64 1]) m')
  (h1:∀m' b2 d2,Keep m m'->(pm.new cpus most).2=0->RdSt cx m' cpus 0 none 0 b2 n none 0 0 (pm.new cpus most).1->Q (.tuple #[.agg #[.int .i64 cpus,.int .i64 0,.slice none 0 0,.slice b2 n d2,.slice none 0 0],.int .i64 0]) m') :
  ah cx vd [.int .i64 cpus,.slice a n c] m Q:=by
 apply C7;unfold Ac;have hlm:most.length=n:=ha.1;have en:pm.new cpus most=bif (cR cpus 1 || (cR 64 cpus || (cR 8 (aQ n) || most.any pm.qx))) then (⟨0,0,[],[],[]⟩,1) else (⟨cpus,0,[],most.map fun n=>⟨n,0,[],false⟩,[]⟩,0):=by unfold pm.new;rw[hlm]
 refine dR (fun f:Bool->Mem->Prop=>∀b mm,Keep m mm->b=(cR cpus 1 || (cR 64 cpus || (cR 8 (aQ n) || most.any pm.qx)))->f b mm) ?_ ?_
 .rintro b mm k rfl;refine cJ (fun hb=>?_) (fun hb=>?_)
  .rw[hb,cond_true]at en;exact h0 mm k (by rw[en];simp) en
  .rw[hb,cond_false]at en;rw[en]at h1;simp only[Bool.or_eq_false_iff,dS,pm.fN]at hb;have hn8:n<=8:=by have:=hb.2.2.1;unfold aQ at this;omega
   refine⟨fun x31 xc xc1 ac nc cc a2 n2 c2 a5 n5 c5 m2 w=>∃k:Nat,x31=(k:Int)/\k<=n/\w=n-k/\xc=cpus/\xc1=0/\ac=none/\nc=0/\cc=0/\a5=none/\n5=0/\c5=0/\n2=k/\Acc m m2 a2 n2 c2 4 jG (((most.take k).map fun x=>(⟨x,0,none,0,0,false⟩:LV)).flatMap encL),⟨n,0,rfl,Nat.zero_le _,rfl,rfl,rfl,rfl,rfl,rfl,rfl,rfl,rfl,rfl,by simpa using Acc.nil k.bump _ _⟩,?_⟩;rintro x31 xc xc1 ac nc cc a2 n2 c2 a5 n5 c5 m2 w ⟨k',rfl,hk,rfl,rfl,rfl,rfl,rfl,rfl,rfl,rfl,rfl,rfl,hacc⟩;refine dH (fun hlt=>?_) (fun hge=>?_)
   .obtain⟨x,hx⟩:∃x,most[n2]? = some x:=⟨_,List.getElem?_eq_getElem (by omega)⟩;refine(ha.keep hw hacc.keep).open (k:=n2) hx fun b o hc=>⟨_,hc 0 _ rfl,?_⟩
    rw[cP];obtain⟨m4,q1,q2,q3,q4,q5⟩:=hacc.push (cx:=cx) (t:=iQ) (vs:=encL ⟨x,0,none,0,0,false⟩) (by kernel_rfl) rfl rfl (by omega);refine⟨_,_,_,m4,q1,n-(n2+1),by omega,n2+1,?_,by omega,rfl,rfl,rfl,rfl,rfl,rfl,rfl,rfl,rfl,rfl,?_⟩
    .rw[dG (by omega) (by omega)];rfl
    .have e:((most.take (n2+1)).map fun x=>(⟨x,0,none,0,0,false⟩:LV)).flatMap encL=((most.take n2).map fun x=>(⟨x,0,none,0,0,false⟩:LV)).flatMap encL++encL ⟨x,0,none,0,0,false⟩:=by
      rw[List.take_add_one,hx];simp
     rw[e];exact q2
   .obtain rfl:n2=n:=by omega
    have htk:most.take n2=most:=List.take_of_length_le (by omega);rw[htk]at hacc;refine h1 m2 a2 c2 hacc.keep rfl ⟨rfl,rfl,⟨[],jA.nil,.nil⟩,⟨_,hacc.arr nf (by omega),?_⟩,jA.nil,Nat.le_refl _,.inl rfl⟩;exact tl (fun x=>⟨rfl,rfl,rfl,jA.nil⟩) most
 .intro J hJ;have k1:Keep m (bump m 1):=(Keep.refl hw).bump;refine cJ (fun h1=>hJ _ _ k1 (by rw[h1];rfl)) (fun h1=>?_);refine cJ (fun h2=>hJ _ _ k1 (by rw[h1,h2];rfl)) (fun h2=>?_);refine cJ (fun h3=>hJ _ _ k1 (by rw[h1,h2,h3];rfl)) (fun h3=>?_);apply ox;unfold kl;have hn8:n<=8:=by rw[dS]at h3;unfold aQ at h3;omega
  refine OS k1.wf (ha.keep hw k1) (by omega) fun m2 k2=>⟨_,rfl,_,rfl,hJ _ _ (k1.trans k2) ?_⟩
  rw[h1,h2,h3,Bool.false_or,Bool.false_or,Bool.false_or];exact C3
end
end Go.Proofs.YthpnifigjfplbaaGreat.vc
namespace Go.Proofs.YthpnifigjfplbaaGreat.vc
open Go Go.AX
set_option maxRecDepth 100000
noncomputable section
def wX(x0:Int)(a1:Option Addr)(n1 c1:Nat)(a2:Option Addr)(n2 c2:Nat)(m:Mem)(Q:Value->Mem->Prop):Prop:=
 (ah cx vd [.int .i64 (x0),.slice a1 (n1) (c1)] ((bump m 1)) fun r16 m1=>(∃(x16:Int),(∃(x16_1:Int),(∃(a16:Option Addr) (n16 c16:Nat),(∃(a16_2:Option Addr) (n16_3 c16_4:Nat),(∃(a16_5:Option Addr) (n16_6 c16_7:Nat),(∃(x16_8:Int),r16=(.tuple #[.agg #[.int .i64 (x16),.int .i64 (x16_1),.slice a16 (n16) (c16),.slice a16_2 (n16_3) (c16_4),.slice a16_5 (n16_6) (c16_7)],.int .i64 (x16_8)])/\(dN (fun(b30:Bool) (m2:Mem)=>(splitB (b30)
 (Q (.tuple #[.agg #[.int .i64 (x16),.int .i64 (x16_1),.slice a16 (n16) (c16),.slice a16_2 (n16_3) (c16_4),.slice a16_5 (n16_6) (c16_7)],.bool (false)]) m2)
 (∃Inv:Int->Int->Int->Option Addr->Nat->Nat->Option Addr->Nat->Nat->Option Addr->Nat->Nat->Mem->Nat->Prop,(∃n:Nat,Inv (0:Int) (x16) (x16_1) a16 (n16) (c16) a16_2 (n16_3) (c16_4) a16_5 (n16_6) (c16_7) m2 n)/\
 (∀(x10:Int) (xc:Int) (xc_9:Int) (ac:Option Addr) (nc cc:Nat) (ac_10:Option Addr) (nc_11 cc_12:Nat) (ac_13:Option Addr) (nc_14 cc_15:Nat),∀(m3:Mem) (n_16:Nat),Inv (x10) (xc) (xc_9) ac (nc) (cc) ac_10 (nc_11) (cc_12) ac_13 (nc_14) (cc_15) m3 n_16->
 (splitB (cR (x10) (aQ (n2)))
 ((0<=(x10)/\(x10)<((n2:Nat):Int))/\(da a2 fun ba2 oa2=>(∃(x41:Int),rd m3 ba2 (oa2+Int.toNat (x10)*6)=some (.int .i64 (x41))/\(∃(x41_17:Int),rd m3 ba2 (oa2+Int.toNat (x10)*6+1)=some (.int .i64 (x41_17))/\(∃(x41_18:Int),rd m3 ba2 (oa2+Int.toNat (x10)*6+2)=some (.int .i64 (x41_18))/\(∃(x41_19:Int),rd m3 ba2 (oa2+Int.toNat (x10)*6+3)=some (.int .i64 (x41_19))/\(∃(x41_20:Int),rd m3 ba2 (oa2+Int.toNat (x10)*6+4)=some (.int .i64 (x41_20))/\(∃(a41:Option Addr) (n41 c41:Nat),rd m3 ba2 (oa2+Int.toNat (x10)*6+5)=some (.slice a41 (n41) (c41))/\(splitB (cR (12:Int) (aQ (n41)))
 (Q (.tuple #[.agg #[.int .i64 (xc),.int .i64 (xc_9),.slice ac (nc) (cc),.slice ac_10 (nc_11) (cc_12),.slice ac_13 (nc_14) (cc_15)],.bool (false)]) (bump m3 1))
 (splitB (cU (x41) (0:Int))
 (ah cx uT [.agg #[.int .i64 (xc),.int .i64 (xc_9),.slice ac (nc) (cc),.slice ac_10 (nc_11) (cc_12),.slice ac_13 (nc_14) (cc_15)],.int .i64 (x41_17),.int .i64 (x41_18),.int .i64 (x41_19)] ((bump m3 1)) fun r75 m4=>(∃(x75:Int),(∃(x75_21:Int),(∃(a75:Option Addr) (n75 c75:Nat),(∃(a75_22:Option Addr) (n75_23 c75_24:Nat),(∃(a75_25:Option Addr) (n75_26 c75_27:Nat),(∃(x75_28:Int),r75=(.tuple #[.agg #[.int .i64 (x75),.int .i64 (x75_21),.slice a75 (n75) (c75),.slice a75_22 (n75_23) (c75_24),.slice a75_25 (n75_26) (c75_27)],.int .i64 (x75_28)])/\(∃n_29:Nat,n_29<n_16/\Inv (bh .i64 (x10) (1:Int)) (x75) (x75_21) a75 (n75) (c75) a75_22 (n75_23) (c75_24) a75_25 (n75_26) (c75_27) m4 n_29))))))))
 (splitB (cU (x41) (1:Int))
 (ah cx tG [.agg #[.int .i64 (xc),.int .i64 (xc_9),.slice ac (nc) (cc),.slice ac_10 (nc_11) (cc_12),.slice ac_13 (nc_14) (cc_15)],.int .i64 (x41_17)] ((bump m3 1)) fun r84 m5=>(∃(x84:Int),(∃(x84_30:Int),(∃(a84:Option Addr) (n84 c84:Nat),(∃(a84_31:Option Addr) (n84_32 c84_33:Nat),(∃(a84_34:Option Addr) (n84_35 c84_36:Nat),(∃(x84_37:Int),r84=(.tuple #[.agg #[.int .i64 (x84),.int .i64 (x84_30),.slice a84 (n84) (c84),.slice a84_31 (n84_32) (c84_33),.slice a84_34 (n84_35) (c84_36)],.int .i64 (x84_37)])/\(∃n_38:Nat,n_38<n_16/\Inv (bh .i64 (x10) (1:Int)) (x84) (x84_30) a84 (n84) (c84) a84_31 (n84_32) (c84_33) a84_34 (n84_35) (c84_36) m5 n_38))))))))
 (splitB (cU (x41) (2:Int))
 (ah cx pY [.agg #[.int .i64 (xc),.int .i64 (xc_9),.slice ac (nc) (cc),.slice ac_10 (nc_11) (cc_12),.slice ac_13 (nc_14) (cc_15)],.int .i64 (x41_17),.slice a41 (n41) (c41)] ((bump m3 1)) fun r95 m6=>(∃(x95:Int),(∃(x95_39:Int),(∃(a95:Option Addr) (n95 c95:Nat),(∃(a95_40:Option Addr) (n95_41 c95_42:Nat),(∃(a95_43:Option Addr) (n95_44 c95_45:Nat),(∃(a95_46:Option Addr) (n95_47 c95_48:Nat),(∃(x95_49:Int),r95=(.tuple #[.agg #[.int .i64 (x95),.int .i64 (x95_39),.slice a95 (n95) (c95),.slice a95_40 (n95_41) (c95_42),.slice a95_43 (n95_44) (c95_45)],.slice a95_46 (n95_47) (c95_48),.int .i64 (x95_49)])/\(∃n_50:Nat,n_50<n_16/\Inv (bh .i64 (x10) (1:Int)) (x95) (x95_39) a95 (n95) (c95) a95_40 (n95_41) (c95_42) a95_43 (n95_44) (c95_45) m6 n_50)))))))))
 (dN (fun(b99:Bool) (m7:Mem)=>(splitB (b99)
 (ah cx qG [.agg #[.int .i64 (xc),.int .i64 (xc_9),.slice ac (nc) (cc),.slice ac_10 (nc_11) (cc_12),.slice ac_13 (nc_14) (cc_15)],.int .i64 (x41_17),.bool (cU (x41) (3:Int))] m7 fun r109 m8=>(∃(x109:Int),(∃(x109_52:Int),(∃(a109:Option Addr) (n109 c109:Nat),(∃(a109_53:Option Addr) (n109_54 c109_55:Nat),(∃(a109_56:Option Addr) (n109_57 c109_58:Nat),(∃(x109_59:Int),r109=(.tuple #[.agg #[.int .i64 (x109),.int .i64 (x109_52),.slice a109 (n109) (c109),.slice a109_53 (n109_54) (c109_55),.slice a109_56 (n109_57) (c109_58)],.int .i64 (x109_59)])/\(∃n_60:Nat,n_60<n_16/\Inv (bh .i64 (x10) (1:Int)) (x109) (x109_52) a109 (n109) (c109) a109_53 (n109_54) (c109_55) a109_56 (n109_57) (c109_58) m8 n_60))))))))
 (∃Inv_61:Int->Int->Int->Option Addr->Nat->Nat->Option Addr->Nat->Nat->Option Addr->Nat->Nat->Mem->Nat->Prop,(∃n_62:Nat,Inv_61 (0:Int) (xc) (xc_9) ac (nc) (cc) ac_10 (nc_11) (cc_12) ac_13 (nc_14) (cc_15) m7 n_62)/\
 (∀(x12:Int) (xc_63:Int) (xc_64:Int) (ac_65:Option Addr) (nc_66 cc_67:Nat) (ac_68:Option Addr) (nc_69 cc_70:Nat) (ac_71:Option Addr) (nc_72 cc_73:Nat),∀(m9:Mem) (n_74:Nat),Inv_61 (x12) (xc_63) (xc_64) ac_65 (nc_66) (cc_67) ac_68 (nc_69) (cc_70) ac_71 (nc_72) (cc_73) m9 n_74->
 (dN (fun(m10:Mem)=>(ah cx pX [.agg #[.int .i64 (xc_63),.int .i64 (xc_64),.slice ac_65 (nc_66) (cc_67),.slice ac_68 (nc_69) (cc_70),.slice ac_71 (nc_72) (cc_73)]] m10 fun r61 m11=>(∃(x61:Int),(∃(x61_76:Int),(∃(a61:Option Addr) (n61 c61:Nat),(∃(a61_77:Option Addr) (n61_78 c61_79:Nat),(∃(a61_80:Option Addr) (n61_81 c61_82:Nat),(∃(a61_83:Option Addr) (n61_84 c61_85:Nat),(∃(x61_86:Int),r61=(.tuple #[.agg #[.int .i64 (x61),.int .i64 (x61_76),.slice a61 (n61) (c61),.slice a61_77 (n61_78) (c61_79),.slice a61_80 (n61_81) (c61_82)],.slice a61_83 (n61_84) (c61_85),.int .i64 (x61_86)])/\(∃n_87:Nat,n_87<n_74/\Inv_61 (bh .i64 (x12) (1:Int)) (x61) (x61_76) a61 (n61) (c61) a61_77 (n61_78) (c61_79) a61_80 (n61_81) (c61_82) m11 n_87)))))))))) fun J_75=>
 (splitB (cR (x12) (x41_20)) (splitB (cR (x12) (30:Int))
 (J_75 m9)
 (∃n_88:Nat,n_88<n_16/\Inv (bh .i64 (x10) (1:Int)) (xc_63) (xc_64) ac_65 (nc_66) (cc_67) ac_68 (nc_69) (cc_70) ac_71 (nc_72) (cc_73) m9 n_88)) (∃n_89:Nat,n_89<n_16/\Inv (bh .i64 (x10) (1:Int)) (xc_63) (xc_64) ac_65 (nc_66) (cc_67) ac_68 (nc_69) (cc_70) ac_71 (nc_72) (cc_73) m9 n_89))))))) fun J_51=>
 (splitB (cU (x41) (3:Int))
 (J_51 (true) (bump m3 1))
 (J_51 (cU (x41) (4:Int)) (bump m3 1))))))))))))))))
 (Q (.tuple #[.agg #[.int .i64 (xc),.int .i64 (xc_9),.slice ac (nc) (cc),.slice ac_10 (nc_11) (cc_12),.slice ac_13 (nc_14) (cc_15)],.bool (true)]) m3)))))) fun J=>
 (splitB (dV (x16_8) (0:Int)) (J (true) (bump m1 1)) (splitB (cR (40:Int) (aQ (n2))) (J (true) (bump m1 1)) (J (cR (12:Int) (aQ (n1))) (bump m1 1))))))))))))
theorem EN{x0:Int}{a1:Option Addr}{n1 c1:Nat}{a2:Option Addr}{n2 c2:Nat}{m:Mem}{Q:Value->Mem->Prop}(h:wX x0 a1 n1 c1 a2 n2 c2 m Q):ah cx wW [.int .i64 (x0),.slice a1 (n1) (c1),.slice a2 (n2) (c2)] m Q:=
 have e:wX x0 a1 n1 c1 a2 n2 c2 m Q=kE cx Tryz.f19 [6,8,11] [none,none,none,some ⟨[2],[(30,.bool)],[(6,0,0),(8,1,0)],[0,1],[],3⟩,none,none,none,some ⟨[2],[(10,.int .i64),(116,.int .i64),(117,.int .i64),(118,.sl),(119,.sl),(120,.sl)],[(6,0,0),(8,1,0)],[0],[(1,[116,117,118,119,120])],4⟩,none,none,none,none,none,none,none,none,none,none,none,some ⟨[2,10],[(99,.bool)],[(6,0,0),(8,1,0),(11,5,0)],[0,1,5],[],7⟩,none,none,some ⟨[2,10],[(12,.int .i64),(116,.int .i64),(117,.int .i64),(118,.sl),(119,.sl),(120,.sl)],[(6,0,0),(8,1,0),(11,5,0)],[0,5],[(1,[116,117,118,119,120])],8⟩,some ⟨[2,10,12],[],[(6,0,0),(8,1,0),(11,5,0)],[0,1,5],[],9⟩] [.int .i64 (x0),.slice a1 (n1) (c1),.slice a2 (n2) (c2)] m Q:=by kernel_rfl
 ah.of dm dh (by kernel_rfl) (by kernel_rfl) (Eq.mp e h)
def pZ(x0:Int)(a1:Option Addr)(n1 c1:Nat)(a2:Option Addr)(n2 c2:Nat)(x3:Int)(x4:Int)(m:Mem)(Q:Value->Mem->Prop):Prop:=
 (ah cx kF [] m fun r24 m1=>(∃(b24:Bool),r24=(.bool (b24))/\(splitB (!(b24))
 (Q (.bool (false)) m1)
 (ah cx wW [.int .i64 (x0),.slice a1 (n1) (c1),.slice a2 (n2) (c2)] m1 fun r30 m2=>(∃(x30:Int),(∃(x30_1:Int),(∃(a30:Option Addr) (n30 c30:Nat),(∃(a30_2:Option Addr) (n30_3 c30_4:Nat),(∃(a30_5:Option Addr) (n30_6 c30_7:Nat),(∃(b30:Bool),r30=(.tuple #[.agg #[.int .i64 (x30),.int .i64 (x30_1),.slice a30 (n30) (c30),.slice a30_2 (n30_3) (c30_4),.slice a30_5 (n30_6) (c30_7)],.bool (b30)])/\(dN (fun(m3:Mem)=>(dN (fun(m4:Mem)=>(ah cx rz [.agg #[.int .i64 (x30),.int .i64 (x30_1),.slice a30 (n30) (c30),.slice a30_2 (n30_3) (c30_4),.slice a30_5 (n30_6) (c30_7)],.int .i64 (x3)] m4 fun r75 m5=>(∃(x75:Int),(∃(x75_9:Int),(∃(a75:Option Addr) (n75 c75:Nat),(∃(a75_10:Option Addr) (n75_11 c75_12:Nat),(∃(a75_13:Option Addr) (n75_14 c75_15:Nat),(∃(a75_16:Option Addr) (n75_17 c75_18:Nat),(∃(x75_19:Int),r75=(.tuple #[.agg #[.int .i64 (x75),.int .i64 (x75_9),.slice a75 (n75) (c75),.slice a75_10 (n75_11) (c75_12),.slice a75_13 (n75_14) (c75_15)],.slice a75_16 (n75_17) (c75_18),.int .i64 (x75_19)])/\(ah cx rz [.agg #[.int .i64 (x75),.int .i64 (x75_9),.slice a75 (n75) (c75),.slice a75_10 (n75_11) (c75_12),.slice a75_13 (n75_14) (c75_15)],.int .i64 (x4)] ((bump m5 1)) fun r82 m6=>(∃(x82:Int),(∃(x82_20:Int),(∃(a82:Option Addr) (n82 c82:Nat),(∃(a82_21:Option Addr) (n82_22 c82_23:Nat),(∃(a82_24:Option Addr) (n82_25 c82_26:Nat),(∃(a82_27:Option Addr) (n82_28 c82_29:Nat),(∃(x82_30:Int),r82=(.tuple #[.agg #[.int .i64 (x82),.int .i64 (x82_20),.slice a82 (n82) (c82),.slice a82_21 (n82_22) (c82_23),.slice a82_24 (n82_25) (c82_26)],.slice a82_27 (n82_28) (c82_29),.int .i64 (x82_30)])/\(ah cx rz [.agg #[.int .i64 (x30),.int .i64 (x30_1),.slice a30 (n30) (c30),.slice a30_2 (n30_3) (c30_4),.slice a30_5 (n30_6) (c30_7)],.int .i64 (bh .i64 (x3) (x4))] ((bump m6 1)) fun r91 m7=>(∃(x91:Int),(∃(x91_31:Int),(∃(a91:Option Addr) (n91 c91:Nat),(∃(a91_32:Option Addr) (n91_33 c91_34:Nat),(∃(a91_35:Option Addr) (n91_36 c91_37:Nat),(∃(a91_38:Option Addr) (n91_39 c91_40:Nat),(∃(x91_41:Int),r91=(.tuple #[.agg #[.int .i64 (x91),.int .i64 (x91_31),.slice a91 (n91) (c91),.slice a91_32 (n91_33) (c91_34),.slice a91_35 (n91_36) (c91_37)],.slice a91_38 (n91_39) (c91_40),.int .i64 (x91_41)])/\(dN (fun(m8:Mem)=>(∃Inv:Int->Mem->Nat->Prop,(∃n:Nat,Inv (0:Int) m8 n)/\
 (∀(x23:Int),∀(m9:Mem) (n_43:Nat),Inv (x23) m9 n_43->
 (splitB (cR (x23) (aQ (n91_39)))
 (splitB (cR (x23) (aQ (n75_17))) ((0<=(x23)/\(x23)<((n91_39:Nat):Int))/\(da a91_38 fun ba91_38 oa91_38=>(∃(x135:Int),rd ((bump m9 35)) ba91_38 (oa91_38+Int.toNat (x23)*4)=some (.int .i64 (x135))/\(∃(x135_44:Int),rd ((bump m9 35)) ba91_38 (oa91_38+Int.toNat (x23)*4+1)=some (.int .i64 (x135_44))/\(∃(x135_45:Int),rd ((bump m9 35)) ba91_38 (oa91_38+Int.toNat (x23)*4+2)=some (.int .i64 (x135_45))/\(∃(x135_46:Int),rd ((bump m9 35)) ba91_38 (oa91_38+Int.toNat (x23)*4+3)=some (.int .i64 (x135_46))/\((0<=(x23)/\(x23)<((n75_17:Nat):Int))/\(da a75_16 fun ba75_16 oa75_16=>(∃(x139:Int),rd ((bump m9 35)) ba75_16 (oa75_16+Int.toNat (x23)*4)=some (.int .i64 (x139))/\(∃(x139_47:Int),rd ((bump m9 35)) ba75_16 (oa75_16+Int.toNat (x23)*4+1)=some (.int .i64 (x139_47))/\(∃(x139_48:Int),rd ((bump m9 35)) ba75_16 (oa75_16+Int.toNat (x23)*4+2)=some (.int .i64 (x139_48))/\(∃(x139_49:Int),rd ((bump m9 35)) ba75_16 (oa75_16+Int.toNat (x23)*4+3)=some (.int .i64 (x139_49))/\(∃r:Bool,fM cx ((bump m9 35)) 40 t_model_Event (.agg #[.int .i64 (x135),.int .i64 (x135_44),.int .i64 (x135_45),.int .i64 (x135_46)]) (.agg #[.int .i64 (x139),.int .i64 (x139_47),.int .i64 (x139_48),.int .i64 (x139_49)])=some r/\(splitB (!r) (Q (.bool (false)) (bump m9 35)) (splitB (leI (aQ (n75_17)) (x23)) ((0<=(x23)/\(x23)<((n91_39:Nat):Int))/\(da a91_38 fun ba91_38_50 oa91_38_51=>(∃(x151:Int),rd ((bump m9 35)) ba91_38_50 (oa91_38_51+Int.toNat (x23)*4)=some (.int .i64 (x151))/\(∃(x151_52:Int),rd ((bump m9 35)) ba91_38_50 (oa91_38_51+Int.toNat (x23)*4+1)=some (.int .i64 (x151_52))/\(∃(x151_53:Int),rd ((bump m9 35)) ba91_38_50 (oa91_38_51+Int.toNat (x23)*4+2)=some (.int .i64 (x151_53))/\(∃(x151_54:Int),rd ((bump m9 35)) ba91_38_50 (oa91_38_51+Int.toNat (x23)*4+3)=some (.int .i64 (x151_54))/\((0<=(cY .i64 (x23) (aQ (n75_17)))/\(cY .i64 (x23) (aQ (n75_17)))<((n82_28:Nat):Int))/\(da a82_27 fun ba82_27 oa82_27=>(∃(x158:Int),rd ((bump m9 35)) ba82_27 (oa82_27+Int.toNat (cY .i64 (x23) (aQ (n75_17)))*4)=some (.int .i64 (x158))/\(∃(x158_55:Int),rd ((bump m9 35)) ba82_27 (oa82_27+Int.toNat (cY .i64 (x23) (aQ (n75_17)))*4+1)=some (.int .i64 (x158_55))/\(∃(x158_56:Int),rd ((bump m9 35)) ba82_27 (oa82_27+Int.toNat (cY .i64 (x23) (aQ (n75_17)))*4+2)=some (.int .i64 (x158_56))/\(∃(x158_57:Int),rd ((bump m9 35)) ba82_27 (oa82_27+Int.toNat (cY .i64 (x23) (aQ (n75_17)))*4+3)=some (.int .i64 (x158_57))/\(∃r_58:Bool,fM cx ((bump m9 35)) 40 t_model_Event (.agg #[.int .i64 (x151),.int .i64 (x151_52),.int .i64 (x151_53),.int .i64 (x151_54)]) (.agg #[.int .i64 (x158),.int .i64 (x158_55),.int .i64 (x158_56),.int .i64 (x158_57)])=some r_58/\(splitB (!r_58)
 (Q (.bool (false)) (bump m9 35))
 (∃n_59:Nat,n_59<n_43/\Inv (bh .i64 (x23) (1:Int)) (bump m9 35) n_59))))))))))))))) (∃n_60:Nat,n_60<n_43/\Inv (bh .i64 (x23) (1:Int)) (bump m9 35) n_60)))))))))))))))) (splitB (leI (aQ (n75_17)) (x23)) ((0<=(x23)/\(x23)<((n91_39:Nat):Int))/\(da a91_38 fun ba91_38_61 oa91_38_62=>(∃(x151_63:Int),rd ((bump m9 35)) ba91_38_61 (oa91_38_62+Int.toNat (x23)*4)=some (.int .i64 (x151_63))/\(∃(x151_64:Int),rd ((bump m9 35)) ba91_38_61 (oa91_38_62+Int.toNat (x23)*4+1)=some (.int .i64 (x151_64))/\(∃(x151_65:Int),rd ((bump m9 35)) ba91_38_61 (oa91_38_62+Int.toNat (x23)*4+2)=some (.int .i64 (x151_65))/\(∃(x151_66:Int),rd ((bump m9 35)) ba91_38_61 (oa91_38_62+Int.toNat (x23)*4+3)=some (.int .i64 (x151_66))/\((0<=(cY .i64 (x23) (aQ (n75_17)))/\(cY .i64 (x23) (aQ (n75_17)))<((n82_28:Nat):Int))/\(da a82_27 fun ba82_27_67 oa82_27_68=>(∃(x158_69:Int),rd ((bump m9 35)) ba82_27_67 (oa82_27_68+Int.toNat (cY .i64 (x23) (aQ (n75_17)))*4)=some (.int .i64 (x158_69))/\(∃(x158_70:Int),rd ((bump m9 35)) ba82_27_67 (oa82_27_68+Int.toNat (cY .i64 (x23) (aQ (n75_17)))*4+1)=some (.int .i64 (x158_70))/\(∃(x158_71:Int),rd ((bump m9 35)) ba82_27_67 (oa82_27_68+Int.toNat (cY .i64 (x23) (aQ (n75_17)))*4+2)=some (.int .i64 (x158_71))/\(∃(x158_72:Int),rd ((bump m9 35)) ba82_27_67 (oa82_27_68+Int.toNat (cY .i64 (x23) (aQ (n75_17)))*4+3)=some (.int .i64 (x158_72))/\(∃r_73:Bool,fM cx ((bump m9 35)) 40 t_model_Event (.agg #[.int .i64 (x151_63),.int .i64 (x151_64),.int .i64 (x151_65),.int .i64 (x151_66)]) (.agg #[.int .i64 (x158_69),.int .i64 (x158_70),.int .i64 (x158_71),.int .i64 (x158_72)])=some r_73/\(splitB (!r_73)
 (Q (.bool (false)) (bump m9 35))
 (∃n_74:Nat,n_74<n_43/\Inv (bh .i64 (x23) (1:Int)) (bump m9 35) n_74))))))))))))))) (∃n_75:Nat,n_75<n_43/\Inv (bh .i64 (x23) (1:Int)) (bump m9 35) n_75)))
 (Q (.bool (true)) m9))))) fun J_42=>
 (splitB (dV (x75_19) (0:Int)) (Q (.bool (false)) (bump m7 1)) (splitB (dV (x82_30) (0:Int)) (Q (.bool (false)) (bump m7 1)) (splitB (dV (x91_41) (0:Int)) (Q (.bool (false)) (bump m7 1)) (ah cx tR [.agg #[.int .i64 (x82),.int .i64 (x82_20),.slice a82 (n82) (c82),.slice a82_21 (n82_22) (c82_23),.slice a82_24 (n82_25) (c82_26)],.agg #[.int .i64 (x91),.int .i64 (x91_31),.slice a91 (n91) (c91),.slice a91_32 (n91_33) (c91_34),.slice a91_35 (n91_36) (c91_37)]] ((bump m7 1)) fun r108 m10=>(∃(b108:Bool),r108=(.bool (b108))/\(splitB (!(b108)) (Q (.bool (false)) m10) (splitB (dV (bh .i64 (aQ (n75_17)) (aQ (n82_28))) (aQ (n91_39)))
 (Q (.bool (false)) m10)
 (J_42 m10)))))))))))))))))))))))))))))))))) fun J_8=>
 (dN (fun(b56:Bool) (m11:Mem)=>(splitB (b56)
 (∃Inv_77:Int->Mem->Nat->Prop,(∃n_78:Nat,Inv_77 (0:Int) m11 n_78)/\
 (∀(x13:Int),∀(m12:Mem) (n_79:Nat),Inv_77 (x13) m12 n_79->
 (splitB (cR (x13) (aQ (n30)))
 ((0<=(x13)/\(x13)<((n30:Nat):Int))/\(da a30 fun ba30 oa30=>(∃(x70:Int),rd m12 ba30 (oa30+Int.toNat (x13)*11+5)=some (.int .i64 (x70))/\(splitB (dV (x70) (0:Int))
 (Q (.bool (true)) m12)
 (∃n_80:Nat,n_80<n_79/\Inv_77 (bh .i64 (x13) (1:Int)) m12 n_80)))))
 (J_8 m12))))
 (J_8 m11))) fun J_76=>
 (splitB (cR (3000:Int) (x3)) (J_76 (true) m3) (J_76 (cR (3000:Int) (x4)) m3))))) fun J=>
 (splitB (!(b30)) (Q (.bool (true)) (bump m2 1)) (splitB (cR (x3) (0:Int)) (Q (.bool (true)) (bump m2 1)) (splitB (cR (x4) (0:Int)) (Q (.bool (true)) (bump m2 1)) (splitB (cR (1099511627776:Int) (x3)) (Q (.bool (true)) (bump m2 1)) (splitB (cR (1099511627776:Int) (x4))
 (Q (.bool (true)) (bump m2 1))
 (J (bump m2 1))))))))))))))))))
theorem yH{x0:Int}{a1:Option Addr}{n1 c1:Nat}{a2:Option Addr}{n2 c2:Nat}{x3:Int}{x4:Int}{m:Mem}{Q:Value->Mem->Prop}(h:pZ x0 a1 n1 c1 a2 n2 c2 x3 x4 m Q):ah cx uC [.int .i64 (x0),.slice a1 (n1) (c1),.slice a2 (n2) (c2),.int .i64 (x3),.int .i64 (x4)] m Q:=
 have e:pZ x0 a1 n1 c1 a2 n2 c2 x3 x4 m Q=kE cx Tryz.f7 [11,14,17,20] [none,none,none,none,none,some ⟨[3,4],[],[(11,0,0)],[0],[],2⟩,none,none,some ⟨[3,4],[],[(11,0,0)],[0],[],5⟩,some ⟨[3,4],[(56,.bool)],[(11,0,0)],[0],[],3⟩,none,some ⟨[3,4],[(13,.int .i64)],[(11,0,0)],[0],[],4⟩,none,none,none,none,none,none,none,none,some ⟨[15,18,21],[],[],[],[],12⟩,none,none,none,none,some ⟨[15,18,21],[(23,.int .i64)],[],[],[],13⟩] [.int .i64 (x0),.slice a1 (n1) (c1),.slice a2 (n2) (c2),.int .i64 (x3),.int .i64 (x4)] m Q:=by kernel_rfl
 ah.of dm dh (by kernel_rfl) (by kernel_rfl) (Eq.mp e h)
end
end Go.Proofs.YthpnifigjfplbaaGreat.vc
