import Derived.Test.YthpnifigjfplbaaGreatQU39
import Derived.Test.YthpnifigjfplbaaGreatQU32
import Derived.KernelRfl
set_option linter.unusedVariables false
set_option linter.unusedSimpArgs false
set_option linter.unusedSectionVars false
namespace Go.Proofs.YthpnifigjfplbaaGreat.vc
open Go Go.AX
section
variable {B:Int} {m:Mem} {Q:Value->Mem->Prop} {M now:Int} {a a' a1 a2 a3 b1 b2 b3:Option Addr} {n n' c c' n1 c1 n2 c2 n3 c3 n4 n5 n6 d1 d2 d3:Nat} {σ : pm.St}
noncomputable def qW(a b:Option Bool):Option Bool:=match a with
 | some true=>b
 | some false=>some false
 | none=>none
theorem Pb(x y x' y':Int)(m:Mem):gj cx m 40 fY (.agg #[.int .i64 x,.int .i64 y]) (.agg #[.int .i64 x',.int .i64 y'])=qW (some (decide (x=x'))) (qW (some (decide (y=y'))) (some true)):=by kernel_rfl
theorem Pd(x y x' y':Int)(m:Mem):gj cx m 40 dk (.agg #[.int .i64 x,.int .i64 y]) (.agg #[.int .i64 x',.int .i64 y'])=qW (some (decide (x=x'))) (qW (some (decide (y=y'))) (some true)):=by kernel_rfl
theorem Pe(x y z u w x' y' z' u' w':Int)(m:Mem):gj cx m 40 eZ (.agg #[.int .i64 x,.int .i64 y,.int .i64 z,.int .i64 u,.int .i64 w]) (.agg #[.int .i64 x',.int .i64 y',.int .i64 z',.int .i64 u',.int .i64 w'])=qW (some (decide (x=x'))) (qW (some (decide (y=y'))) (qW (some (decide (z=z'))) (qW (some (decide (u=u'))) (qW (some (decide (w=w'))) (some true))))):=by kernel_rfl
theorem pp(x:Int):decide (x=x)=true:=decide_eq_true rfl
theorem Ly{l:List pm.Step}(hw:Wf m)(h1:Arr encP 2 m a n l)(h2:Arr encP 2 m a' n' l)(hn:n<=1000)(h:∀m',Keep m m'->Q (.bool true) m'):ah cx jU [.slice a n c,.slice a' n' c'] m Q:=by
 apply rW;unfold nK;have e:n=n':=by rw[<-h1.1,<-h2.1]
 subst e;refine fu (fun hne=>absurd rfl hne) (fun _=>?_);refine og (show n<=4611686018427387904 by omega) (fun k mm=>Keep m mm) (Keep.refl hw) ?_;intro k m1 hk k1 I w hI;refine dG (fun hlt=>?_) (fun hge=>h m1 k1);obtain⟨x,hx⟩:∃x,l[k]? = some x:=⟨_,gQ2 (by rw[h1.1];exact hlt)⟩;have kb:Keep m (bump m1 9):=k1.bump;refine(h1.keep hw kb).open (k:=k) hx fun b o hc=>⟨_,hc 0 _ rfl,_,hc 1 _ rfl,?_⟩
 refine(h2.keep hw kb).open (k:=k) hx fun b o hc=>⟨_,hc 0 _ rfl,_,hc 1 _ rfl,?_⟩
 refine⟨true,by rw[Pb];simp only[pp];rfl,?_⟩;exact hI _ hlt kb
theorem Lz{l:List Int}(hw:Wf m)(h1:Arr encI 1 m a n l)(h2:Arr encI 1 m a' n' l)(hn:n<=1000)(h:∀m',Keep m m'->Q (.bool true) m'):ah cx gS [.slice a n c,.slice a' n' c'] m Q:=by
 apply nJ;unfold lA;have e:n=n':=by rw[<-h1.1,<-h2.1]
 subst e;refine fu (fun hne=>absurd rfl hne) (fun _=>?_);refine og (show n<=4611686018427387904 by omega) (fun k mm=>Keep m mm) (Keep.refl hw) ?_;intro k m1 hk k1 I w hI;refine dG (fun hlt=>?_) (fun hge=>h m1 k1);obtain⟨x,hx⟩:∃x,l[k]? = some x:=⟨_,gQ2 (by rw[h1.1];exact hlt)⟩;have kb:Keep m (bump m1 9):=k1.bump;refine(h1.keep hw kb).open (k:=k) hx fun b o hc=>⟨_,hc 0 _ rfl,?_⟩
 refine(h2.keep hw kb).open (k:=k) hx fun b o hc=>⟨_,hc 0 _ rfl,?_⟩
 exact fu (fun hne=>absurd rfl hne) (fun _=>hI _ hlt kb)
theorem JG{l:List pm.Back}(hw:Wf m)(h1:Arr encB 2 m a n l)(h2:Arr encB 2 m a' n' l)(hn:n<=1000)(h:∀m',Keep m m'->Q (.bool true) m'):ah cx iD [.slice a n c,.slice a' n' c'] m Q:=by
 apply pP;unfold lE;have e:n=n':=by rw[<-h1.1,<-h2.1]
 subst e;refine fu (fun hne=>absurd rfl hne) (fun _=>?_);refine og (show n<=4611686018427387904 by omega) (fun k mm=>Keep m mm) (Keep.refl hw) ?_;intro k m1 hk k1 I w hI;refine dG (fun hlt=>?_) (fun hge=>h m1 k1);obtain⟨x,hx⟩:∃x,l[k]? = some x:=⟨_,gQ2 (by rw[h1.1];exact hlt)⟩;have kb:Keep m (bump m1 9):=k1.bump;refine(h1.keep hw kb).open (k:=k) hx fun b o hc=>⟨_,hc 0 _ rfl,_,hc 1 _ rfl,?_⟩
 refine(h2.keep hw kb).open (k:=k) hx fun b o hc=>⟨_,hc 0 _ rfl,_,hc 1 _ rfl,?_⟩
 refine⟨true,by rw[Pd];simp only[pp];rfl,?_⟩;exact hI _ hlt kb
theorem JH{v v':JV}{j:pm.Job}(hw:Wf m)(h1:RdJob m v j)(h2:RdJob m v' j)(hn:j.prog.length<=1000)(h:∀m',Keep m m'->Q (.bool true) m'):ah cx mU [.agg #[.int .i64 v.num,.slice v.pa v.pn v.pc,.int .i64 v.at_,.int .i64 v.done],.agg #[.int .i64 v'.num,.slice v'.pa v'.pn v'.pc,.int .i64 v'.at_,.int .i64 v'.done]] m Q:=by
 apply zj;unfold vf;refine fC (fun _=>?_) (fun e=>absurd (h1.num.trans h2.num.symm) e);refine fC (fun _=>?_) (fun e=>absurd (h1.at_.trans h2.at_.symm) e);refine fC (fun _=>?_) (fun e=>absurd (h1.done.trans h2.done.symm) e);have kb:Keep m (bump m 2):=(Keep.refl hw).bump;exact Ly kb.wf (h1.prog.keep hw kb) (h2.prog.keep hw kb) (by rw[<-h1.prog.1];exact hn) fun m' k=>⟨_,rfl,h m' (kb.trans k)⟩
theorem LA{jl jl':List JV}{l:List pm.Job}(hw:Wf m)(h1:Arr encJ 4 m a n jl)(r1:All2 (RdJob m) jl l)(h2:Arr encJ 4 m a' n' jl')(r2:All2 (RdJob m) jl' l)(hn:n<=1000)(hp:∀j∈l,j.prog.length<=1000)(h:∀m',Keep m m'->Q (.bool true) m'):ah cx it [.slice a n c,.slice a' n' c',.func (.func mU) #[] #[]] m Q:=by
 apply pq;unfold kW;have e:n=n':=by rw[<-h1.1,<-h2.1,r1.len,r2.len]
 subst e;refine fu (fun hne=>absurd rfl hne) (fun _=>?_);refine og (show n<=4611686018427387904 by omega) (fun k mm=>Keep m mm) (Keep.refl hw) ?_;intro k m1 hk k1 I w hI;refine dG (fun hlt=>?_) (fun hge=>h m1 k1);obtain⟨x,hx⟩:∃x,l[k]? = some x:=⟨_,gQ2 (by rw[<-r1.len,h1.1];exact hlt)⟩;obtain⟨v,hv,hR⟩:=r1.get' hx;obtain⟨v',hv',hR'⟩:=r2.get' hx;have k2:Keep m (bump m1 2):=k1.bump;refine(h1.keep hw k1).open (k:=k) hv fun b o hc=>⟨_,hc 0 _ rfl,_,_,_,hc 1 _ rfl,_,hc 2 _ rfl,_,hc 3 _ rfl,?_⟩
 refine(h2.keep hw (k1.bump (n:=1))).open (k:=k) hv' fun b o hc=>⟨_,hc 0 _ rfl,_,_,_,hc 1 _ rfl,_,hc 2 _ rfl,_,hc 3 _ rfl,?_⟩
 exact JH k2.wf (hR.keep hw k2) (hR'.keep hw k2) (hp x (gQ3 hx)) fun m' k'=>⟨_,rfl,hI _ hlt (k2.trans k')⟩
theorem HL{v v':SV}{x:pm.Serv}(hw:Wf m)(h1:RdServ m v x)(h2:RdServ m v' x)(hn:x.jobs.length<=1000)(hp:∀j∈x.jobs,j.prog.length<=1000)(h:∀m',Keep m m'->Q (.bool true) m'):ah cx mb [.agg #[.int .i64 v.id,.int .i64 v.s.q,.int .i64 v.s.p,.int .i64 v.s.bud,.int .i64 v.s.due,.int .i64 v.s.mode,.slice v.ja v.jn v.jc,.int .i64 v.sec,.int .i64 v.held,.int .i64 v.num,.int .i64 v.ran],.agg #[.int .i64 v'.id,.int .i64 v'.s.q,.int .i64 v'.s.p,.int .i64 v'.s.bud,.int .i64 v'.s.due,.int .i64 v'.s.mode,.slice v'.ja v'.jn v'.jc,.int .i64 v'.sec,.int .i64 v'.held,.int .i64 v'.num,.int .i64 v'.ran]] m Q:=by
 apply xX;unfold uv;refine fC (fun _=>?_) (fun e=>absurd (h1.id.trans h2.id.symm) e);have kb:Keep m (bump m 2):=(Keep.refl hw).bump;have es:v.s=v'.s:=h1.s.trans h2.s.symm;refine⟨true,by rw[Pe,es];simp only[pp];rfl,?_⟩;obtain⟨jl,q1,q2⟩:=(h1.keep hw kb).jobs;obtain⟨jl',q1',q2'⟩:=(h2.keep hw kb).jobs;rw[eG];refine LA kb.wf q1 q2 q1' q2' (by rw[<-q1.1,q2.len];exact hn) hp fun m' k=>⟨_,rfl,?_⟩
 rw[eG];refine fC (fun _=>?_) (fun e=>absurd (h1.sec.trans h2.sec.symm) e);refine fC (fun _=>?_) (fun e=>absurd (h1.held.trans h2.held.symm) e);refine fC (fun _=>?_) (fun e=>absurd (h1.num.trans h2.num.symm) e);rw[show cT v.ran v'.ran=true from eH.2 (h1.ran.trans h2.ran.symm)];exact h m' (kb.trans k)
theorem JI{sl sl':List SV}{l:List pm.Serv}(hw:Wf m)(h1:Arr encS 11 m a n sl)(r1:All2 (RdServ m) sl l)(h2:Arr encS 11 m a' n' sl')(r2:All2 (RdServ m) sl' l)(hn:n<=1000)(hj:∀x∈l,x.jobs.length<=1000/\∀j∈x.jobs,j.prog.length<=1000)(h:∀m',Keep m m'->Q (.bool true) m'):ah cx gL [.slice a n c,.slice a' n' c',.func (.func mb) #[] #[]] m Q:=by
 apply od;unfold jX;have e:n=n':=by rw[<-h1.1,<-h2.1,r1.len,r2.len]
 subst e;refine fu (fun hne=>absurd rfl hne) (fun _=>?_);refine og (show n<=4611686018427387904 by omega) (fun k mm=>Keep m mm) (Keep.refl hw) ?_;intro k m1 hk k1 I w hI;refine dG (fun hlt=>?_) (fun hge=>h m1 k1);obtain⟨x,hx⟩:∃x,l[k]? = some x:=⟨_,gQ2 (by rw[<-r1.len,h1.1];exact hlt)⟩;obtain⟨v,hv,hR⟩:=r1.get' hx;obtain⟨v',hv',hR'⟩:=r2.get' hx;have k2:Keep m (bump m1 2):=k1.bump;refine(h1.keep hw k1).open (k:=k) hv fun b o hc=>⟨_,hc 0 _ rfl,_,hc 1 _ rfl,_,hc 2 _ rfl,_,hc 3 _ rfl,_,hc 4 _ rfl,_,hc 5 _ rfl,_,_,_,hc 6 _ rfl,_,hc 7 _ rfl,_,hc 8 _ rfl,_,hc 9 _ rfl,_,hc 10 _ rfl,?_⟩
 refine(h2.keep hw (k1.bump (n:=1))).open (k:=k) hv' fun b o hc=>⟨_,hc 0 _ rfl,_,hc 1 _ rfl,_,hc 2 _ rfl,_,hc 3 _ rfl,_,hc 4 _ rfl,_,hc 5 _ rfl,_,_,_,hc 6 _ rfl,_,hc 7 _ rfl,_,hc 8 _ rfl,_,hc 9 _ rfl,_,hc 10 _ rfl,?_⟩
 obtain⟨j1,j2⟩:=hj x (gQ3 hx);exact HL k2.wf (hR.keep hw k2) (hR'.keep hw k2) j1 j2 fun m' k'=>⟨_,rfl,hI _ hlt (k2.trans k')⟩
theorem HM{v v':LV}{x:pm.Lock}(hw:Wf m)(h1:RdLock m v x)(h2:RdLock m v' x)(hn:x.queue.length<=1000)(h:∀m',Keep m m'->Q (.bool true) m'):ah cx mc [.agg #[.int .i64 v.most,.int .i64 v.holder,.slice v.qa v.qn v.qc,.bool v.dead],.agg #[.int .i64 v'.most,.int .i64 v'.holder,.slice v'.qa v'.qn v'.qc,.bool v'.dead]] m Q:=by
 apply xY;unfold uw;refine fC (fun _=>?_) (fun e=>absurd (h1.most.trans h2.most.symm) e);refine fC (fun _=>?_) (fun e=>absurd (h1.holder.trans h2.holder.symm) e);have kb:Keep m (bump m 2):=(Keep.refl hw).bump;refine Lz kb.wf (h1.queue.keep hw kb) (h2.queue.keep hw kb) (by rw[<-h1.queue.1];exact hn) fun m' k=>⟨_,rfl,?_⟩
 rw[eG];rw[show (v.dead == v'.dead)=true by rw[h1.dead,h2.dead];exact beq_self_eq_true _];exact h m' (kb.trans k)
theorem JJ{sl sl':List LV}{l:List pm.Lock}(hw:Wf m)(h1:Arr encL 4 m a n sl)(r1:All2 (RdLock m) sl l)(h2:Arr encL 4 m a' n' sl')(r2:All2 (RdLock m) sl' l)(hn:n<=1000)(hj:∀x∈l,x.queue.length<=1000)(h:∀m',Keep m m'->Q (.bool true) m'):ah cx gM [.slice a n c,.slice a' n' c',.func (.func mc) #[] #[]] m Q:=by
 apply oe;unfold jY;have e:n=n':=by rw[<-h1.1,<-h2.1,r1.len,r2.len]
 subst e;refine fu (fun hne=>absurd rfl hne) (fun _=>?_);refine og (show n<=4611686018427387904 by omega) (fun k mm=>Keep m mm) (Keep.refl hw) ?_;intro k m1 hk k1 I w hI;refine dG (fun hlt=>?_) (fun hge=>h m1 k1);obtain⟨x,hx⟩:∃x,l[k]? = some x:=⟨_,gQ2 (by rw[<-r1.len,h1.1];exact hlt)⟩;obtain⟨v,hv,hR⟩:=r1.get' hx;obtain⟨v',hv',hR'⟩:=r2.get' hx;have k2:Keep m (bump m1 2):=k1.bump;refine(h1.keep hw k1).open (k:=k) hv fun b o hc=>⟨_,hc 0 _ rfl,_,hc 1 _ rfl,_,_,_,hc 2 _ rfl,_,hc 3 _ rfl,?_⟩
 refine(h2.keep hw (k1.bump (n:=1))).open (k:=k) hv' fun b o hc=>⟨_,hc 0 _ rfl,_,hc 1 _ rfl,_,_,_,hc 2 _ rfl,_,hc 3 _ rfl,?_⟩
 exact HM k2.wf (hR.keep hw k2) (hR'.keep hw k2) (hj x (gQ3 hx)) fun m' k'=>⟨_,rfl,hI _ hlt (k2.trans k')⟩
theorem Pf{M' now':Int}(hw:Wf m)(h1:RdSt cx m M now a1 n1 a2 n2 a3 n3 c3 σ)(h2:RdSt cx m M' now' b1 n4 b2 n5 b3 n6 d3 σ)(hI:pm.Iv B σ)(h:∀m',Keep m m'->Q (.bool true) m') :
  ah cx uj [.agg #[.int .i64 M,.int .i64 now,.slice a1 n1 c1,.slice a2 n2 c2,.slice a3 n3 c3],.agg #[.int .i64 M',.int .i64 now',.slice b1 n4 d1,.slice b2 n5 d2,.slice b3 n6 d3]] m Q:=by
 apply CM;unfold zk;have z1:=hI.len1;have z2:=hI.len2;have z3:=hI.len3;have e1:=h1.len1;have e2:=h1.len2;have e3:=h1.len3;refine fC (fun _=>?_) (fun e=>absurd (h1.em.trans h2.em.symm) e);refine fC (fun _=>?_) (fun e=>absurd (h1.enow.trans h2.enow.symm) e);have kb:Keep m (bump m 2):=(Keep.refl hw).bump;obtain⟨sl,q1,q2⟩:=(h1.keep hw kb).servs;obtain⟨sl',q1',q2'⟩:=(h2.keep hw kb).servs;refine JI kb.wf q1 q2 q1' q2' (by omega) (fun x hx=>⟨by have:=(hI.serv x hx).len;omega,fun j hj=>by have:=(pm.rF.1 ((hI.serv x hx).jobs j hj).good.prog).2.1;omega⟩) fun m3 k3=>⟨_,rfl,?_⟩
 rw[eG];have k03:=kb.trans k3;obtain⟨ll,p1,p2⟩:=(h1.keep hw k03).sems;obtain⟨ll',p1',p2'⟩:=(h2.keep hw k03).sems;refine JJ k03.wf p1 p2 p1' p2' (by omega) (fun l hl=>by have:=A9 hI.toIw hl;omega) fun m4 k4=>⟨_,rfl,?_⟩
 rw[eG];have k04:=k03.trans k4;refine JG k04.wf (h1.keep hw k04).backs (h2.keep hw k04).backs (by omega) fun m5 k5=>⟨_,rfl,h m5 (k04.trans k5)⟩
theorem Pg{x:Int}(hw:Wf m)(h:∀m',Keep m m'->Q (.bool (pm.qJ x)) m'):ah cx oS [.int .i64 x] m Q:=by
 apply Bd;unfold xV;refine cJ (fun h1=>?_) (fun h1=>?_)
 .exact dw h (Keep.refl hw) (by unfold pm.qJ;rw[h1];rfl)
 .exact dw h (Keep.refl hw) (by unfold pm.qJ;rw[h1];rfl)
theorem Ph{l:List Int}(hw:Wf m)(ha:Arr encI 1 m a n l)(hn:n<=4611686018427387904)
  (h:∀m',Keep m m'->Q (.int .i64 (match l.findIdx? pm.qJ with|some i=>(i:Int)|none=>-1)) m'):ah cx iU [.slice a n c,.func (.func oS) #[] #[]] m Q:=by
 apply qq;unfold lI;refine og hn (fun k mm=>Keep m mm/\∀x∈l.take k,pm.qJ x=false) ⟨Keep.refl hw,by simp⟩ ?_;rintro k m1 hk ⟨k1,hno⟩ I w hI;refine dG (fun hlt=>?_) (fun hge=>?_)
 .obtain⟨x,hx⟩:∃x,l[k]? = some x:=⟨_,gQ2 (by rw[ha.1];exact hlt)⟩;have hkl:=(gQ1 hx).1;refine(ha.keep hw k1).open (k:=k) hx fun b o hc=>⟨_,hc 0 _ rfl,?_⟩
  refine Pg k1.wf fun m2 k2=>⟨_,rfl,?_⟩
  refine cJ (fun ht=>?_) (fun ht=>?_)
  .have e:l.findIdx? pm.qJ=some k:=by
    rw[List.findIdx?_eq_some_iff_getElem];refine⟨hkl,by rw[<-(gQ1 hx).2]at ht;exact ht,fun j hj=>?_⟩;have:=hno l[j] (gQ3 (i:=j) (by rw[List.getElem?_take,if_pos hj,gQ2 (by omega)]));rw[this];simp
   have:=h m2 (k1.trans k2);rw[e]at this;exact this
  .refine hI m2 hlt ⟨k1.trans k2,fun y hy=>?_⟩;rw[List.take_add_one,hx]at hy;rcases List.mem_append.1 hy with hy|hy
   .exact hno y hy
   .simp at hy;subst hy;exact ht
 .have e:l.findIdx? pm.qJ=none:=by
   rw[List.findIdx?_eq_none_iff];intro y hy;rw[<-List.take_of_length_le (l:=l) (i:=k) (by rw[ha.1];exact hge)]at hy;exact hno y hy
  have:=h m1 k1;rw[e]at this;exact this
theorem tM{α β γ : Type}{R:α->β->Prop}{f:γ->α}{g:γ->β}(h:∀x,R (f x) (g x)):∀l:List γ,All2 R (l.map f) (l.map g)
 | []=>.nil
 | x::r=>.cons (h x) (tM h r)
theorem Bv{cpus:Int}{most:List Int}(hw:Wf m)(ha:Arr encI 1 m a n most)
  (h0:∀m',Keep m m'->(pm.new cpus most).2≠0->pm.new cpus most=(⟨0,0,[],[],[]⟩,1)->Q (.tuple #[.agg #[.int .i64 0,.int .i64 0,.slice none 0 0,.slice none 0 0,.slice none 0 0],.int .i64 1]) m')
  (h1:∀m' b2 d2,Keep m m'->(pm.new cpus most).2=0->RdSt cx m' cpus 0 none 0 b2 n none 0 0 (pm.new cpus most).1->Q (.tuple #[.agg #[.int .i64 cpus,.int .i64 0,.slice none 0 0,.slice b2 n d2,.slice none 0 0],.int .i64 0]) m') :
  ah cx vI [.int .i64 cpus,.slice a n c] m Q:=by
 apply Dx;unfold AA;have hlm:most.length=n:=ha.1;have en:pm.new cpus most=bif (cR cpus 1 || (cR 64 cpus || (cR 8 (aQ n) || most.any pm.qJ))) then (⟨0,0,[],[],[]⟩,1) else (⟨cpus,0,[],most.map fun n=>⟨n,0,[],false⟩,[]⟩,0):=by unfold pm.new;rw[hlm]
 refine dL (fun f:Bool->Mem->Prop=>∀b mm,Keep m mm->b=(cR cpus 1 || (cR 64 cpus || (cR 8 (aQ n) || most.any pm.qJ)))->f b mm) ?_ ?_
 .rintro b mm k rfl;refine cJ (fun hb=>?_) (fun hb=>?_)
  .rw[hb,cond_true]at en;exact h0 mm k (by rw[en];simp) en
  .rw[hb,cond_false]at en;rw[en]at h1;simp only[Bool.or_eq_false_iff,dW,pm.fP]at hb;have hn8:n<=8:=by have:=hb.2.2.1;unfold aQ at this;omega
   refine⟨fun x31 xc xc1 ac nc cc a2 n2 c2 a5 n5 c5 m2 w=>∃k:Nat,x31=(k:Int)/\k<=n/\w=n-k/\xc=cpus/\xc1=0/\ac=none/\nc=0/\cc=0/\a5=none/\n5=0/\c5=0/\n2=k/\Acc m m2 a2 n2 c2 4 jR (((most.take k).map fun x=>(⟨x,0,none,0,0,false⟩:LV)).flatMap encL),⟨n,0,rfl,Nat.zero_le _,rfl,rfl,rfl,rfl,rfl,rfl,rfl,rfl,rfl,rfl,by simpa using Acc.nil k.bump _ _⟩,?_⟩;rintro x31 xc xc1 ac nc cc a2 n2 c2 a5 n5 c5 m2 w ⟨k',rfl,hk,rfl,rfl,rfl,rfl,rfl,rfl,rfl,rfl,rfl,rfl,hacc⟩;refine dG (fun hlt=>?_) (fun hge=>?_)
   .obtain⟨x,hx⟩:∃x,most[n2]? = some x:=⟨_,gQ2 (by omega)⟩;refine(ha.keep hw hacc.keep).open (k:=n2) hx fun b o hc=>⟨_,hc 0 _ rfl,?_⟩
    rw[cO];obtain⟨m4,q1,q2,q3,q4,q5⟩:=hacc.push (cx:=cx) (t:=je) (vs:=encL ⟨x,0,none,0,0,false⟩) (by kernel_rfl) rfl rfl (by omega);refine⟨_,_,_,m4,q1,n-(n2+1),by omega,n2+1,?_,by omega,rfl,rfl,rfl,rfl,rfl,rfl,rfl,rfl,rfl,rfl,?_⟩
    .rw[dN (by omega) (by omega)];rfl
    .have e:((most.take (n2+1)).map fun x=>(⟨x,0,none,0,0,false⟩:LV)).flatMap encL=((most.take n2).map fun x=>(⟨x,0,none,0,0,false⟩:LV)).flatMap encL++encL ⟨x,0,none,0,0,false⟩:=by
      rw[List.take_add_one,hx];simp
     rw[e];exact q2
   .obtain rfl:n2=n:=by omega
    have htk:most.take n2=most:=List.take_of_length_le (by omega);rw[htk]at hacc;refine h1 m2 a2 c2 hacc.keep rfl ⟨rfl,rfl,⟨[],jm.nil,.nil⟩,⟨_,hacc.arr nz (by omega),?_⟩,jm.nil,gQ4 _,.inl rfl⟩;exact tM (fun x=>⟨rfl,rfl,rfl,jm.nil⟩) most
 .intro J hJ;have k1:Keep m (bump m 1):=(Keep.refl hw).bump;refine cJ (fun h1=>hJ _ _ k1 (by rw[h1];rfl)) (fun h1=>?_);refine cJ (fun h2=>hJ _ _ k1 (by rw[h1,h2];rfl)) (fun h2=>?_);refine cJ (fun h3=>hJ _ _ k1 (by rw[h1,h2,h3];rfl)) (fun h3=>?_);apply oL;unfold kH;have hn8:n<=8:=by rw[dW]at h3;unfold aQ at h3;omega
  refine Ph k1.wf (ha.keep hw k1) (by omega) fun m2 k2=>⟨_,rfl,_,rfl,hJ _ _ (k1.trans k2) ?_⟩
  rw[h1,h2,h3,Bool.false_or,Bool.false_or,Bool.false_or];exact Dt
end
end Go.Proofs.YthpnifigjfplbaaGreat.vc
namespace Go.Proofs.YthpnifigjfplbaaGreat.vc
open Go Go.AX
set_option maxRecDepth 100000
noncomputable section
def xB(x0:Int)(a1:Option Addr)(n1 c1:Nat)(a2:Option Addr)(n2 c2:Nat)(m:Mem)(Q:Value->Mem->Prop):Prop:=
 (ah cx vI [.int .i64 (x0),.slice a1 (n1) (c1)] ((bump m 1)) fun r16 m1=>(∃(x16:Int),(∃(x16_1:Int),(∃(a16:Option Addr) (n16 c16:Nat),(∃(a16_2:Option Addr) (n16_3 c16_4:Nat),(∃(a16_5:Option Addr) (n16_6 c16_7:Nat),(∃(x16_8:Int),r16=(.tuple #[.agg #[.int .i64 (x16),.int .i64 (x16_1),.slice a16 (n16) (c16),.slice a16_2 (n16_3) (c16_4),.slice a16_5 (n16_6) (c16_7)],.int .i64 (x16_8)])/\(dJ (fun(b30:Bool) (m2:Mem)=>(splitB (b30)
 (Q (.tuple #[.agg #[.int .i64 (x16),.int .i64 (x16_1),.slice a16 (n16) (c16),.slice a16_2 (n16_3) (c16_4),.slice a16_5 (n16_6) (c16_7)],.bool (false)]) m2)
 (∃Inv:Int->Int->Int->Option Addr->Nat->Nat->Option Addr->Nat->Nat->Option Addr->Nat->Nat->Mem->Nat->Prop,(∃n:Nat,Inv (0:Int) (x16) (x16_1) a16 (n16) (c16) a16_2 (n16_3) (c16_4) a16_5 (n16_6) (c16_7) m2 n)/\
 (∀(x10:Int) (xc:Int) (xc_9:Int) (ac:Option Addr) (nc cc:Nat) (ac_10:Option Addr) (nc_11 cc_12:Nat) (ac_13:Option Addr) (nc_14 cc_15:Nat),∀(m3:Mem) (n_16:Nat),Inv (x10) (xc) (xc_9) ac (nc) (cc) ac_10 (nc_11) (cc_12) ac_13 (nc_14) (cc_15) m3 n_16->
 (splitB (cR (x10) (aQ (n2)))
 ((0<=(x10)/\(x10)<((n2:Nat):Int))/\(cZ a2 fun ba2 oa2=>(∃(x41:Int),rd m3 ba2 (oa2+Int.toNat (x10)*6)=some (.int .i64 (x41))/\(∃(x41_17:Int),rd m3 ba2 (oa2+Int.toNat (x10)*6+1)=some (.int .i64 (x41_17))/\(∃(x41_18:Int),rd m3 ba2 (oa2+Int.toNat (x10)*6+2)=some (.int .i64 (x41_18))/\(∃(x41_19:Int),rd m3 ba2 (oa2+Int.toNat (x10)*6+3)=some (.int .i64 (x41_19))/\(∃(x41_20:Int),rd m3 ba2 (oa2+Int.toNat (x10)*6+4)=some (.int .i64 (x41_20))/\(∃(a41:Option Addr) (n41 c41:Nat),rd m3 ba2 (oa2+Int.toNat (x10)*6+5)=some (.slice a41 (n41) (c41))/\(splitB (cR (12:Int) (aQ (n41)))
 (Q (.tuple #[.agg #[.int .i64 (xc),.int .i64 (xc_9),.slice ac (nc) (cc),.slice ac_10 (nc_11) (cc_12),.slice ac_13 (nc_14) (cc_15)],.bool (false)]) (bump m3 1))
 (splitB (cT (x41) (0:Int))
 (ah cx vB [.agg #[.int .i64 (xc),.int .i64 (xc_9),.slice ac (nc) (cc),.slice ac_10 (nc_11) (cc_12),.slice ac_13 (nc_14) (cc_15)],.int .i64 (x41_17),.int .i64 (x41_18),.int .i64 (x41_19)] ((bump m3 1)) fun r75 m4=>(∃(x75:Int),(∃(x75_21:Int),(∃(a75:Option Addr) (n75 c75:Nat),(∃(a75_22:Option Addr) (n75_23 c75_24:Nat),(∃(a75_25:Option Addr) (n75_26 c75_27:Nat),(∃(x75_28:Int),r75=(.tuple #[.agg #[.int .i64 (x75),.int .i64 (x75_21),.slice a75 (n75) (c75),.slice a75_22 (n75_23) (c75_24),.slice a75_25 (n75_26) (c75_27)],.int .i64 (x75_28)])/\(∃n_29:Nat,n_29<n_16/\Inv (bh .i64 (x10) (1:Int)) (x75) (x75_21) a75 (n75) (c75) a75_22 (n75_23) (c75_24) a75_25 (n75_26) (c75_27) m4 n_29))))))))
 (splitB (cT (x41) (1:Int))
 (ah cx tX [.agg #[.int .i64 (xc),.int .i64 (xc_9),.slice ac (nc) (cc),.slice ac_10 (nc_11) (cc_12),.slice ac_13 (nc_14) (cc_15)],.int .i64 (x41_17)] ((bump m3 1)) fun r84 m5=>(∃(x84:Int),(∃(x84_30:Int),(∃(a84:Option Addr) (n84 c84:Nat),(∃(a84_31:Option Addr) (n84_32 c84_33:Nat),(∃(a84_34:Option Addr) (n84_35 c84_36:Nat),(∃(x84_37:Int),r84=(.tuple #[.agg #[.int .i64 (x84),.int .i64 (x84_30),.slice a84 (n84) (c84),.slice a84_31 (n84_32) (c84_33),.slice a84_34 (n84_35) (c84_36)],.int .i64 (x84_37)])/\(∃n_38:Nat,n_38<n_16/\Inv (bh .i64 (x10) (1:Int)) (x84) (x84_30) a84 (n84) (c84) a84_31 (n84_32) (c84_33) a84_34 (n84_35) (c84_36) m5 n_38))))))))
 (splitB (cT (x41) (2:Int))
 (ah cx qm [.agg #[.int .i64 (xc),.int .i64 (xc_9),.slice ac (nc) (cc),.slice ac_10 (nc_11) (cc_12),.slice ac_13 (nc_14) (cc_15)],.int .i64 (x41_17),.slice a41 (n41) (c41)] ((bump m3 1)) fun r95 m6=>(∃(x95:Int),(∃(x95_39:Int),(∃(a95:Option Addr) (n95 c95:Nat),(∃(a95_40:Option Addr) (n95_41 c95_42:Nat),(∃(a95_43:Option Addr) (n95_44 c95_45:Nat),(∃(a95_46:Option Addr) (n95_47 c95_48:Nat),(∃(x95_49:Int),r95=(.tuple #[.agg #[.int .i64 (x95),.int .i64 (x95_39),.slice a95 (n95) (c95),.slice a95_40 (n95_41) (c95_42),.slice a95_43 (n95_44) (c95_45)],.slice a95_46 (n95_47) (c95_48),.int .i64 (x95_49)])/\(∃n_50:Nat,n_50<n_16/\Inv (bh .i64 (x10) (1:Int)) (x95) (x95_39) a95 (n95) (c95) a95_40 (n95_41) (c95_42) a95_43 (n95_44) (c95_45) m6 n_50)))))))))
 (dJ (fun(b99:Bool) (m7:Mem)=>(splitB (b99)
 (ah cx qS [.agg #[.int .i64 (xc),.int .i64 (xc_9),.slice ac (nc) (cc),.slice ac_10 (nc_11) (cc_12),.slice ac_13 (nc_14) (cc_15)],.int .i64 (x41_17),.bool (cT (x41) (3:Int))] m7 fun r109 m8=>(∃(x109:Int),(∃(x109_52:Int),(∃(a109:Option Addr) (n109 c109:Nat),(∃(a109_53:Option Addr) (n109_54 c109_55:Nat),(∃(a109_56:Option Addr) (n109_57 c109_58:Nat),(∃(x109_59:Int),r109=(.tuple #[.agg #[.int .i64 (x109),.int .i64 (x109_52),.slice a109 (n109) (c109),.slice a109_53 (n109_54) (c109_55),.slice a109_56 (n109_57) (c109_58)],.int .i64 (x109_59)])/\(∃n_60:Nat,n_60<n_16/\Inv (bh .i64 (x10) (1:Int)) (x109) (x109_52) a109 (n109) (c109) a109_53 (n109_54) (c109_55) a109_56 (n109_57) (c109_58) m8 n_60))))))))
 (∃Inv_61:Int->Int->Int->Option Addr->Nat->Nat->Option Addr->Nat->Nat->Option Addr->Nat->Nat->Mem->Nat->Prop,(∃n_62:Nat,Inv_61 (0:Int) (xc) (xc_9) ac (nc) (cc) ac_10 (nc_11) (cc_12) ac_13 (nc_14) (cc_15) m7 n_62)/\
 (∀(x12:Int) (xc_63:Int) (xc_64:Int) (ac_65:Option Addr) (nc_66 cc_67:Nat) (ac_68:Option Addr) (nc_69 cc_70:Nat) (ac_71:Option Addr) (nc_72 cc_73:Nat),∀(m9:Mem) (n_74:Nat),Inv_61 (x12) (xc_63) (xc_64) ac_65 (nc_66) (cc_67) ac_68 (nc_69) (cc_70) ac_71 (nc_72) (cc_73) m9 n_74->
 (dJ (fun(m10:Mem)=>(ah cx nG [.agg #[.int .i64 (xc_63),.int .i64 (xc_64),.slice ac_65 (nc_66) (cc_67),.slice ac_68 (nc_69) (cc_70),.slice ac_71 (nc_72) (cc_73)]] m10 fun r61 m11=>(∃(x61:Int),(∃(x61_76:Int),(∃(a61:Option Addr) (n61 c61:Nat),(∃(a61_77:Option Addr) (n61_78 c61_79:Nat),(∃(a61_80:Option Addr) (n61_81 c61_82:Nat),(∃(a61_83:Option Addr) (n61_84 c61_85:Nat),(∃(x61_86:Int),r61=(.tuple #[.agg #[.int .i64 (x61),.int .i64 (x61_76),.slice a61 (n61) (c61),.slice a61_77 (n61_78) (c61_79),.slice a61_80 (n61_81) (c61_82)],.slice a61_83 (n61_84) (c61_85),.int .i64 (x61_86)])/\(∃n_87:Nat,n_87<n_74/\Inv_61 (bh .i64 (x12) (1:Int)) (x61) (x61_76) a61 (n61) (c61) a61_77 (n61_78) (c61_79) a61_80 (n61_81) (c61_82) m11 n_87)))))))))) fun J_75=>
 (splitB (cR (x12) (x41_20)) (splitB (cR (x12) (30:Int))
 (J_75 m9)
 (∃n_88:Nat,n_88<n_16/\Inv (bh .i64 (x10) (1:Int)) (xc_63) (xc_64) ac_65 (nc_66) (cc_67) ac_68 (nc_69) (cc_70) ac_71 (nc_72) (cc_73) m9 n_88)) (∃n_89:Nat,n_89<n_16/\Inv (bh .i64 (x10) (1:Int)) (xc_63) (xc_64) ac_65 (nc_66) (cc_67) ac_68 (nc_69) (cc_70) ac_71 (nc_72) (cc_73) m9 n_89))))))) fun J_51=>
 (splitB (cT (x41) (3:Int))
 (J_51 (true) (bump m3 1))
 (J_51 (cT (x41) (4:Int)) (bump m3 1))))))))))))))))
 (Q (.tuple #[.agg #[.int .i64 (xc),.int .i64 (xc_9),.slice ac (nc) (cc),.slice ac_10 (nc_11) (cc_12),.slice ac_13 (nc_14) (cc_15)],.bool (true)]) m3)))))) fun J=>
 (splitB (dT (x16_8) (0:Int)) (J (true) (bump m1 1)) (splitB (cR (40:Int) (aQ (n2))) (J (true) (bump m1 1)) (J (cR (12:Int) (aQ (n1))) (bump m1 1))))))))))))
theorem Fl{x0:Int}{a1:Option Addr}{n1 c1:Nat}{a2:Option Addr}{n2 c2:Nat}{m:Mem}{Q:Value->Mem->Prop}(h:xB x0 a1 n1 c1 a2 n2 c2 m Q):ah cx xA [.int .i64 (x0),.slice a1 (n1) (c1),.slice a2 (n2) (c2)] m Q:=
 have e:xB x0 a1 n1 c1 a2 n2 c2 m Q=iz cx Tryz.f19 [6,8,11] [none,none,none,some ⟨[2],[(30,.bool)],[(6,0,0),(8,1,0)],[0,1],[],3⟩,none,none,none,some ⟨[2],[(10,.int .i64),(116,.int .i64),(117,.int .i64),(118,.sl),(119,.sl),(120,.sl)],[(6,0,0),(8,1,0)],[0],[(1,[116,117,118,119,120])],4⟩,none,none,none,none,none,none,none,none,none,none,none,some ⟨[2,10],[(99,.bool)],[(6,0,0),(8,1,0),(11,5,0)],[0,1,5],[],7⟩,none,none,some ⟨[2,10],[(12,.int .i64),(116,.int .i64),(117,.int .i64),(118,.sl),(119,.sl),(120,.sl)],[(6,0,0),(8,1,0),(11,5,0)],[0,5],[(1,[116,117,118,119,120])],8⟩,some ⟨[2,10,12],[],[(6,0,0),(8,1,0),(11,5,0)],[0,1,5],[],9⟩] [.int .i64 (x0),.slice a1 (n1) (c1),.slice a2 (n2) (c2)] m Q:=by kernel_rfl
 ah.of di db (by kernel_rfl) (by kernel_rfl) (Eq.mp e h)
def qw(x0:Int)(a1:Option Addr)(n1 c1:Nat)(a2:Option Addr)(n2 c2:Nat)(x3:Int)(m:Mem)(Q:Value->Mem->Prop):Prop:=
 (ah cx kR [] m fun r23 m1=>(∃(b23:Bool),r23=(.bool (b23))/\(splitB (!(b23))
 (Q (.bool (false)) m1)
 (ah cx xA [.int .i64 (x0),.slice a1 (n1) (c1),.slice a2 (n2) (c2)] m1 fun r29 m2=>(∃(x29:Int),(∃(x29_1:Int),(∃(a29:Option Addr) (n29 c29:Nat),(∃(a29_2:Option Addr) (n29_3 c29_4:Nat),(∃(a29_5:Option Addr) (n29_6 c29_7:Nat),(∃(b29:Bool),r29=(.tuple #[.agg #[.int .i64 (x29),.int .i64 (x29_1),.slice a29 (n29) (c29),.slice a29_2 (n29_3) (c29_4),.slice a29_5 (n29_6) (c29_7)],.bool (b29)])/\(dJ (fun(m3:Mem)=>(ah cx uY [.agg #[.int .i64 (x29),.int .i64 (x29_1),.slice a29 (n29) (c29),.slice a29_2 (n29_3) (c29_4),.slice a29_5 (n29_6) (c29_7)],.int .i64 (x3)] m3 fun r45 m4=>(∃(x45:Int),(∃(x45_8:Int),(∃(a45:Option Addr) (n45 c45:Nat),(∃(a45_9:Option Addr) (n45_10 c45_11:Nat),(∃(a45_12:Option Addr) (n45_13 c45_14:Nat),(∃(a45_15:Option Addr) (n45_16 c45_17:Nat),(∃(x45_18:Int),r45=(.tuple #[.agg #[.int .i64 (x45),.int .i64 (x45_8),.slice a45 (n45) (c45),.slice a45_9 (n45_10) (c45_11),.slice a45_12 (n45_13) (c45_14)],.slice a45_15 (n45_16) (c45_17),.int .i64 (x45_18)])/\(dJ (fun(x15:Int) (a16:Option Addr) (n16 c16:Nat) (xc:Int) (xc_20:Int) (ac:Option Addr) (nc cc:Nat) (ac_21:Option Addr) (nc_22 cc_23:Nat) (ac_24:Option Addr) (nc_25 cc_26:Nat) (m5:Mem)=>(dJ (fun(m6:Mem)=>(∃Inv:Int->Mem->Nat->Prop,(∃n:Nat,Inv (0:Int) m6 n)/\
 (∀(x22:Int),∀(m7:Mem) (n_28:Nat),Inv (x22) m7 n_28->
 (splitB (cR (x22) (aQ (n45_16)))
 ((0<=(x22)/\(x22)<((n45_16:Nat):Int))/\(cZ a45_15 fun ba45_15 oa45_15=>(∃(x113:Int),rd ((bump m7 9)) ba45_15 (oa45_15+Int.toNat (x22)*4)=some (.int .i64 (x113))/\(∃(x113_29:Int),rd ((bump m7 9)) ba45_15 (oa45_15+Int.toNat (x22)*4+1)=some (.int .i64 (x113_29))/\(∃(x113_30:Int),rd ((bump m7 9)) ba45_15 (oa45_15+Int.toNat (x22)*4+2)=some (.int .i64 (x113_30))/\(∃(x113_31:Int),rd ((bump m7 9)) ba45_15 (oa45_15+Int.toNat (x22)*4+3)=some (.int .i64 (x113_31))/\((0<=(x22)/\(x22)<((n16:Nat):Int))/\(cZ a16 fun ba16 oa16=>(∃(x117:Int),rd ((bump m7 9)) ba16 (oa16+Int.toNat (x22)*4)=some (.int .i64 (x117))/\(∃(x117_32:Int),rd ((bump m7 9)) ba16 (oa16+Int.toNat (x22)*4+1)=some (.int .i64 (x117_32))/\(∃(x117_33:Int),rd ((bump m7 9)) ba16 (oa16+Int.toNat (x22)*4+2)=some (.int .i64 (x117_33))/\(∃(x117_34:Int),rd ((bump m7 9)) ba16 (oa16+Int.toNat (x22)*4+3)=some (.int .i64 (x117_34))/\(∃r:Bool,gj cx ((bump m7 9)) 40 t_model_Event (.agg #[.int .i64 (x113),.int .i64 (x113_29),.int .i64 (x113_30),.int .i64 (x113_31)]) (.agg #[.int .i64 (x117),.int .i64 (x117_32),.int .i64 (x117_33),.int .i64 (x117_34)])=some r/\(splitB (!r)
 (Q (.bool (false)) (bump m7 9))
 (∃n_35:Nat,n_35<n_28/\Inv (bh .i64 (x22) (1:Int)) (bump m7 9) n_35)))))))))))))))
 (Q (.bool (true)) m7))))) fun J_27=>
 (splitB (dT (x45_18) (0:Int)) (Q (.bool (false)) m5) (splitB (dT (x15) (0:Int)) (Q (.bool (false)) m5) (ah cx uj [.agg #[.int .i64 (x45),.int .i64 (x45_8),.slice a45 (n45) (c45),.slice a45_9 (n45_10) (c45_11),.slice a45_12 (n45_13) (c45_14)],.agg #[.int .i64 (xc),.int .i64 (xc_20),.slice ac (nc) (cc),.slice ac_21 (nc_22) (cc_23),.slice ac_24 (nc_25) (cc_26)]] m5 fun r94 m8=>(∃(b94:Bool),r94=(.bool (b94))/\(splitB (!(b94)) (Q (.bool (false)) m8) (splitB (dT (aQ (n16)) (aQ (n45_16)))
 (Q (.bool (false)) m8)
 (J_27 m8))))))))) fun J_19=>
 (∃Inv_36:Int->Option Addr->Nat->Nat->Int->Int->Int->Option Addr->Nat->Nat->Option Addr->Nat->Nat->Option Addr->Nat->Nat->Mem->Nat->Prop,(∃n_37:Nat,Inv_36 (x3) none (0) (0) (0:Int) (x29) (x29_1) a29 (n29) (c29) a29_2 (n29_3) (c29_4) a29_5 (n29_6) (c29_7) (bump m4 2) n_37)/\
 (∀(x15_38:Int) (a16_39:Option Addr) (n16_40 c16_41:Nat) (x17:Int) (xc_42:Int) (xc_43:Int) (ac_44:Option Addr) (nc_45 cc_46:Nat) (ac_47:Option Addr) (nc_48 cc_49:Nat) (ac_50:Option Addr) (nc_51 cc_52:Nat),∀(m9:Mem) (n_53:Nat),Inv_36 (x15_38) a16_39 (n16_40) (c16_41) (x17) (xc_42) (xc_43) ac_44 (nc_45) (cc_46) ac_47 (nc_48) (cc_49) ac_50 (nc_51) (cc_52) m9 n_53->
 (dJ (fun(m10:Mem)=>(ah cx ui [.agg #[.int .i64 (xc_42),.int .i64 (xc_43),.slice ac_44 (nc_45) (cc_46),.slice ac_47 (nc_48) (cc_49),.slice ac_50 (nc_51) (cc_52)],.int .i64 (x15_38)] m10 fun r62 m11=>(∃(x62:Int),(∃(x62_55:Int),(∃(a62:Option Addr) (n62 c62:Nat),(∃(a62_56:Option Addr) (n62_57 c62_58:Nat),(∃(a62_59:Option Addr) (n62_60 c62_61:Nat),(∃(a62_62:Option Addr) (n62_63 c62_64:Nat),(∃(x62_65:Int),(∃(x62_66:Int),r62=(.tuple #[.agg #[.int .i64 (x62),.int .i64 (x62_55),.slice a62 (n62) (c62),.slice a62_56 (n62_57) (c62_58),.slice a62_59 (n62_60) (c62_61)],.slice a62_62 (n62_63) (c62_64),.int .i64 (x62_65),.int .i64 (x62_66)])/\(dJ (fun(m12:Mem)=>(∃(a84:Option Addr) (n84 c84:Nat) (m13:Mem),cQ cx m12 [bJ,bJ] [.slice a16_39 (n16_40) (c16_41),.slice a62_62 (n62_63) (c62_64)]=some (.slice a84 (n84) (c84),m13)/\(∃n_68:Nat,n_68<n_53/\Inv_36 (de .i64 (x15_38) (x62_65)) a84 (n84) (c84) (bh .i64 (x17) (1:Int)) (x62) (x62_55) a62 (n62) (c62) a62_56 (n62_57) (c62_58) a62_59 (n62_60) (c62_61) m13 n_68))) fun J_67=>
 (splitB (dT (x62_66) (0:Int)) (Q (.bool (false)) (bump m11 1)) (splitB (cR (x62_65) (1:Int)) (Q (.bool (false)) (bump m11 1)) (splitB (cR (x15_38) (x62_65))
 (Q (.bool (false)) (bump m11 1))
 (J_67 (bump m11 1)))))))))))))))) fun J_54=>
 (splitB (cR (x17) (1000:Int)) (splitB (cR (0:Int) (x15_38))
 (J_54 m9)
 (J_19 (x15_38) a16_39 (n16_40) (c16_41) (xc_42) (xc_43) ac_44 (nc_45) (cc_46) ac_47 (nc_48) (cc_49) ac_50 (nc_51) (cc_52) m9)) (J_19 (x15_38) a16_39 (n16_40) (c16_41) (xc_42) (xc_43) ac_44 (nc_45) (cc_46) ac_47 (nc_48) (cc_49) ac_50 (nc_51) (cc_52) m9))))))))))))))) fun J=>
 (splitB (!(b29)) (Q (.bool (true)) (bump m2 1)) (splitB (cR (x3) (0:Int)) (Q (.bool (true)) (bump m2 1)) (splitB (cR (300:Int) (x3))
 (Q (.bool (true)) (bump m2 1))
 (J (bump m2 1))))))))))))))))
theorem zn{x0:Int}{a1:Option Addr}{n1 c1:Nat}{a2:Option Addr}{n2 c2:Nat}{x3:Int}{m:Mem}{Q:Value->Mem->Prop}(h:qw x0 a1 n1 c1 a2 n2 c2 x3 m Q):ah cx uZ [.int .i64 (x0),.slice a1 (n1) (c1),.slice a2 (n2) (c2),.int .i64 (x3)] m Q:=
 have e:qw x0 a1 n1 c1 a2 n2 c2 x3 m Q=iz cx Tryz.f9 [9,11,14,18] [none,none,none,none,none,some ⟨[3],[],[(9,0,0)],[0],[],2⟩,none,none,none,none,none,some ⟨[12,13],[(15,.int .i64),(16,.sl),(123,.int .i64),(124,.int .i64),(125,.sl),(126,.sl),(127,.sl)],[(11,3,0),(14,5,0)],[3],[(5,[123,124,125,126,127])],8⟩,none,some ⟨[12,13],[(15,.int .i64),(16,.sl),(17,.int .i64),(123,.int .i64),(124,.int .i64),(125,.sl),(126,.sl),(127,.sl)],[(11,3,0),(14,5,0)],[3],[(5,[123,124,125,126,127])],7⟩,some ⟨[12,13,15,16,17],[],[(11,3,0),(14,5,0)],[3,5],[],8⟩,none,none,none,some ⟨[12,13,15,16,17,19,20],[],[(11,3,0),(14,5,0),(18,9,0)],[3,5,9],[],11⟩,none,none,none,some ⟨[12,16],[],[],[],[],9⟩,none,none,none,none,some ⟨[12,16],[(22,.int .i64)],[],[],[],10⟩] [.int .i64 (x0),.slice a1 (n1) (c1),.slice a2 (n2) (c2),.int .i64 (x3)] m Q:=by kernel_rfl
 ah.of di db (by kernel_rfl) (by kernel_rfl) (Eq.mp e h)
end
end Go.Proofs.YthpnifigjfplbaaGreat.vc
