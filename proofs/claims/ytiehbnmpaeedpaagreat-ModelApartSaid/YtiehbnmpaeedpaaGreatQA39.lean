import Derived.Test.YtiehbnmpaeedpaaGreatQA38
import Derived.Test.YtiehbnmpaeedpaaGreatQA22
import Derived.KernelRfl
namespace Go.Proofs.YtiehbnmpaeedpaaGreat.vc
open Go Go.AX
set_option linter.unusedVariables false
set_option linter.unusedSimpArgs false
set_option linter.unusedSectionVars false
section
variable {B:Int} {m:Mem} {Q:Value→Mem→Prop} {M now:Int} {a a' a1 a2 a3 b1 b2 b3:Option Addr} {n n' c c' n1 c1 n2 c2 n3 c3 n4 n5 n6 d1 d2 d3:Nat} {σ : pm.St}
noncomputable def andO (a b:Option Bool):Option Bool:=match a with
 | some true=>b
 | some false=>some false
 | none=>none
theorem eqP_raw (x y x' y':Int) (m:Mem):eqV cx m 40 t_prog_Step (.agg #[.int .i64 x,.int .i64 y]) (.agg #[.int .i64 x',.int .i64 y'])=andO (some (decide (x=x'))) (andO (some (decide (y=y'))) (some true)):=by kernel_rfl
theorem eqB_raw (x y x' y':Int) (m:Mem):eqV cx m 40 t_model_Back (.agg #[.int .i64 x,.int .i64 y]) (.agg #[.int .i64 x',.int .i64 y'])=andO (some (decide (x=x'))) (andO (some (decide (y=y'))) (some true)):=by kernel_rfl
theorem eqC_raw (x y z u w x' y' z' u' w':Int) (m:Mem):eqV cx m 40 t_cbs_Server (.agg #[.int .i64 x,.int .i64 y,.int .i64 z,.int .i64 u,.int .i64 w]) (.agg #[.int .i64 x',.int .i64 y',.int .i64 z',.int .i64 u',.int .i64 w'])=andO (some (decide (x=x'))) (andO (some (decide (y=y'))) (andO (some (decide (z=z'))) (andO (some (decide (u=u'))) (andO (some (decide (w=w'))) (some true))))):=by kernel_rfl
theorem dec_self (x:Int):decide (x=x)=true:=decide_eq_true rfl
theorem eqProg_ok {l:List pm.Step} (hw:Wf m) (h1:Arr encP 2 m a n l) (h2:Arr encP 2 m a' n' l) (hn:n≤1000) (h:∀ m',Keep m m'→Q (.bool true) m'):CallV cx n_slices_Equal_prog_Prog [.slice a n c,.slice a' n' c'] m Q:=by
 apply G_slices_Equal_prog_Prog_ok; unfold G_slices_Equal_prog_Prog
 have e:n=n':=by rw [← h1.1,← h2.1]
 subst e
 refine split_ne (fun hne=>absurd rfl hne) (fun _=>?_)
 refine forN (show n≤4611686018427387904 by omega) (fun k mm=>Keep m mm) (Keep.refl hw) ?_
 intro k m1 hk k1 I w hI
 refine split_lt (fun hlt=>?_) (fun hge=>h m1 k1)
 obtain ⟨x,hx⟩:∃ x,l[k]? = some x:=⟨_,List.getElem?_eq_getElem (by rw [h1.1]; exact hlt)⟩
 have kb:Keep m (bump m1 9):=k1.bump
 refine (h1.keep hw kb).open (k:=k) hx fun b o hc=>⟨_,hc 0 _ rfl,_,hc 1 _ rfl,?_⟩
 refine (h2.keep hw kb).open (k:=k) hx fun b o hc=>⟨_,hc 0 _ rfl,_,hc 1 _ rfl,?_⟩
 refine ⟨true,by rw [eqP_raw]; simp only [dec_self]; rfl,?_⟩
 exact hI _ hlt kb
theorem eqInts_ok {l:List Int} (hw:Wf m) (h1:Arr encI 1 m a n l) (h2:Arr encI 1 m a' n' l) (hn:n≤1000) (h:∀ m',Keep m m'→Q (.bool true) m'):CallV cx n_slices_Equal_sl_int [.slice a n c,.slice a' n' c'] m Q:=by
 apply G_slices_Equal_sl_int_ok; unfold G_slices_Equal_sl_int
 have e:n=n':=by rw [← h1.1,← h2.1]
 subst e
 refine split_ne (fun hne=>absurd rfl hne) (fun _=>?_)
 refine forN (show n≤4611686018427387904 by omega) (fun k mm=>Keep m mm) (Keep.refl hw) ?_
 intro k m1 hk k1 I w hI
 refine split_lt (fun hlt=>?_) (fun hge=>h m1 k1)
 obtain ⟨x,hx⟩:∃ x,l[k]? = some x:=⟨_,List.getElem?_eq_getElem (by rw [h1.1]; exact hlt)⟩
 have kb:Keep m (bump m1 9):=k1.bump
 refine (h1.keep hw kb).open (k:=k) hx fun b o hc=>⟨_,hc 0 _ rfl,?_⟩
 refine (h2.keep hw kb).open (k:=k) hx fun b o hc=>⟨_,hc 0 _ rfl,?_⟩
 exact split_ne (fun hne=>absurd rfl hne) (fun _=>hI _ hlt kb)
theorem eqBacks_ok {l:List pm.Back} (hw:Wf m) (h1:Arr encB 2 m a n l) (h2:Arr encB 2 m a' n' l) (hn:n≤1000) (h:∀ m',Keep m m'→Q (.bool true) m'):CallV cx n_slices_Equal_sl_model_Back [.slice a n c,.slice a' n' c'] m Q:=by
 apply G_slices_Equal_sl_model_Back_ok; unfold G_slices_Equal_sl_model_Back
 have e:n=n':=by rw [← h1.1,← h2.1]
 subst e
 refine split_ne (fun hne=>absurd rfl hne) (fun _=>?_)
 refine forN (show n≤4611686018427387904 by omega) (fun k mm=>Keep m mm) (Keep.refl hw) ?_
 intro k m1 hk k1 I w hI
 refine split_lt (fun hlt=>?_) (fun hge=>h m1 k1)
 obtain ⟨x,hx⟩:∃ x,l[k]? = some x:=⟨_,List.getElem?_eq_getElem (by rw [h1.1]; exact hlt)⟩
 have kb:Keep m (bump m1 9):=k1.bump
 refine (h1.keep hw kb).open (k:=k) hx fun b o hc=>⟨_,hc 0 _ rfl,_,hc 1 _ rfl,?_⟩
 refine (h2.keep hw kb).open (k:=k) hx fun b o hc=>⟨_,hc 0 _ rfl,_,hc 1 _ rfl,?_⟩
 refine ⟨true,by rw [eqB_raw]; simp only [dec_self]; rfl,?_⟩
 exact hI _ hlt kb
theorem sameJob_ok {v v':JV} {j:pm.Job} (hw:Wf m) (h1:RdJob m v j) (h2:RdJob m v' j) (hn:j.prog.length≤1000) (h:∀ m',Keep m m'→Q (.bool true) m'):CallV cx n_model_sameJob [.agg #[.int .i64 v.num,.slice v.pa v.pn v.pc,.int .i64 v.at_,.int .i64 v.done],.agg #[.int .i64 v'.num,.slice v'.pa v'.pn v'.pc,.int .i64 v'.at_,.int .i64 v'.done]] m Q:=by
 apply G_model_sameJob_ok; unfold G_model_sameJob
 refine split_eq (fun _=>?_) (fun e=>absurd (h1.num.trans h2.num.symm) e)
 refine split_eq (fun _=>?_) (fun e=>absurd (h1.at_.trans h2.at_.symm) e)
 refine split_eq (fun _=>?_) (fun e=>absurd (h1.done.trans h2.done.symm) e)
 have kb:Keep m (bump m 2):=(Keep.refl hw).bump
 exact eqProg_ok kb.wf (h1.prog.keep hw kb) (h2.prog.keep hw kb) (by rw [← h1.prog.1]; exact hn) fun m' k=>⟨_,rfl,h m' (kb.trans k)⟩
theorem eqJobs_ok {jl jl':List JV} {l:List pm.Job} (hw:Wf m) (h1:Arr encJ 4 m a n jl) (r1:All2 (RdJob m) jl l) (h2:Arr encJ 4 m a' n' jl') (r2:All2 (RdJob m) jl' l) (hn:n≤1000) (hp:∀ j∈l,j.prog.length≤1000) (h:∀ m',Keep m m'→Q (.bool true) m'):CallV cx n_slices_EqualFunc_sl_job_Job [.slice a n c,.slice a' n' c',.func (.func n_model_sameJob) #[] #[]] m Q:=by
 apply G_slices_EqualFunc_sl_job_Job_ok; unfold G_slices_EqualFunc_sl_job_Job
 have e:n=n':=by rw [← h1.1,← h2.1,r1.len,r2.len]
 subst e
 refine split_ne (fun hne=>absurd rfl hne) (fun _=>?_)
 refine forN (show n≤4611686018427387904 by omega) (fun k mm=>Keep m mm) (Keep.refl hw) ?_
 intro k m1 hk k1 I w hI
 refine split_lt (fun hlt=>?_) (fun hge=>h m1 k1)
 obtain ⟨x,hx⟩:∃ x,l[k]? = some x:=⟨_,List.getElem?_eq_getElem (by rw [← r1.len,h1.1]; exact hlt)⟩
 obtain ⟨v,hv,hR⟩:=r1.get' hx
 obtain ⟨v',hv',hR'⟩:=r2.get' hx
 have k2:Keep m (bump m1 2):=k1.bump
 refine (h1.keep hw k1).open (k:=k) hv fun b o hc=>⟨_,hc 0 _ rfl,_,_,_,hc 1 _ rfl,_,hc 2 _ rfl,_,hc 3 _ rfl,?_⟩
 refine (h2.keep hw (k1.bump (n:=1))).open (k:=k) hv' fun b o hc=>⟨_,hc 0 _ rfl,_,_,_,hc 1 _ rfl,_,hc 2 _ rfl,_,hc 3 _ rfl,?_⟩
 exact sameJob_ok k2.wf (hR.keep hw k2) (hR'.keep hw k2) (hp x (List.mem_of_getElem? hx)) fun m' k'=>⟨_,rfl,hI _ hlt (k2.trans k')⟩
theorem sameServ_ok {v v':SV} {x:pm.Serv} (hw:Wf m) (h1:RdServ m v x) (h2:RdServ m v' x) (hn:x.jobs.length≤1000) (hp:∀ j∈x.jobs,j.prog.length≤1000) (h:∀ m',Keep m m'→Q (.bool true) m'):CallV cx n_model_sameServ [.agg #[.int .i64 v.id,.int .i64 v.s.q,.int .i64 v.s.p,.int .i64 v.s.bud,.int .i64 v.s.due,.int .i64 v.s.mode,.slice v.ja v.jn v.jc,.int .i64 v.sec,.int .i64 v.held,.int .i64 v.num,.int .i64 v.ran],.agg #[.int .i64 v'.id,.int .i64 v'.s.q,.int .i64 v'.s.p,.int .i64 v'.s.bud,.int .i64 v'.s.due,.int .i64 v'.s.mode,.slice v'.ja v'.jn v'.jc,.int .i64 v'.sec,.int .i64 v'.held,.int .i64 v'.num,.int .i64 v'.ran]] m Q:=by
 apply G_model_sameServ_ok; unfold G_model_sameServ
 refine split_eq (fun _=>?_) (fun e=>absurd (h1.id.trans h2.id.symm) e)
 have kb:Keep m (bump m 2):=(Keep.refl hw).bump
 have es:v.s=v'.s:=h1.s.trans h2.s.symm
 refine ⟨true,by rw [eqC_raw,es]; simp only [dec_self]; rfl,?_⟩
 obtain ⟨jl,q1,q2⟩:=(h1.keep hw kb).jobs
 obtain ⟨jl',q1',q2'⟩:=(h2.keep hw kb).jobs
 rw [splitB_true]
 refine eqJobs_ok kb.wf q1 q2 q1' q2' (by rw [← q1.1,q2.len]; exact hn) hp fun m' k=>⟨_,rfl,?_⟩
 rw [splitB_true]
 refine split_eq (fun _=>?_) (fun e=>absurd (h1.sec.trans h2.sec.symm) e)
 refine split_eq (fun _=>?_) (fun e=>absurd (h1.held.trans h2.held.symm) e)
 refine split_eq (fun _=>?_) (fun e=>absurd (h1.num.trans h2.num.symm) e)
 rw [show eqI v.ran v'.ran=true from eqI_true.2 (h1.ran.trans h2.ran.symm)]
 exact h m' (kb.trans k)
theorem eqServs_ok {sl sl':List SV} {l:List pm.Serv} (hw:Wf m) (h1:Arr encS 11 m a n sl) (r1:All2 (RdServ m) sl l) (h2:Arr encS 11 m a' n' sl') (r2:All2 (RdServ m) sl' l) (hn:n≤1000) (hj:∀ x∈l,x.jobs.length≤1000∧∀ j∈x.jobs,j.prog.length≤1000) (h:∀ m',Keep m m'→Q (.bool true) m'):CallV cx n_slices_EqualFunc_sl_model_Serv [.slice a n c,.slice a' n' c',.func (.func n_model_sameServ) #[] #[]] m Q:=by
 apply G_slices_EqualFunc_sl_model_Serv_ok; unfold G_slices_EqualFunc_sl_model_Serv
 have e:n=n':=by rw [← h1.1,← h2.1,r1.len,r2.len]
 subst e
 refine split_ne (fun hne=>absurd rfl hne) (fun _=>?_)
 refine forN (show n≤4611686018427387904 by omega) (fun k mm=>Keep m mm) (Keep.refl hw) ?_
 intro k m1 hk k1 I w hI
 refine split_lt (fun hlt=>?_) (fun hge=>h m1 k1)
 obtain ⟨x,hx⟩:∃ x,l[k]? = some x:=⟨_,List.getElem?_eq_getElem (by rw [← r1.len,h1.1]; exact hlt)⟩
 obtain ⟨v,hv,hR⟩:=r1.get' hx
 obtain ⟨v',hv',hR'⟩:=r2.get' hx
 have k2:Keep m (bump m1 2):=k1.bump
 refine (h1.keep hw k1).open (k:=k) hv fun b o hc=>⟨_,hc 0 _ rfl,_,hc 1 _ rfl,_,hc 2 _ rfl,_,hc 3 _ rfl,_,hc 4 _ rfl,_,hc 5 _ rfl,_,_,_,hc 6 _ rfl,_,hc 7 _ rfl,_,hc 8 _ rfl,_,hc 9 _ rfl,_,hc 10 _ rfl,?_⟩
 refine (h2.keep hw (k1.bump (n:=1))).open (k:=k) hv' fun b o hc=>⟨_,hc 0 _ rfl,_,hc 1 _ rfl,_,hc 2 _ rfl,_,hc 3 _ rfl,_,hc 4 _ rfl,_,hc 5 _ rfl,_,_,_,hc 6 _ rfl,_,hc 7 _ rfl,_,hc 8 _ rfl,_,hc 9 _ rfl,_,hc 10 _ rfl,?_⟩
 obtain ⟨j1,j2⟩:=hj x (List.mem_of_getElem? hx)
 exact sameServ_ok k2.wf (hR.keep hw k2) (hR'.keep hw k2) j1 j2 fun m' k'=>⟨_,rfl,hI _ hlt (k2.trans k')⟩
theorem sameLock_ok {v v':LV} {x:pm.Lock} (hw:Wf m) (h1:RdLock m v x) (h2:RdLock m v' x) (hn:x.queue.length≤1000) (h:∀ m',Keep m m'→Q (.bool true) m'):CallV cx n_model_sameLock [.agg #[.int .i64 v.most,.int .i64 v.holder,.slice v.qa v.qn v.qc,.bool v.dead],.agg #[.int .i64 v'.most,.int .i64 v'.holder,.slice v'.qa v'.qn v'.qc,.bool v'.dead]] m Q:=by
 apply G_model_sameLock_ok; unfold G_model_sameLock
 refine split_eq (fun _=>?_) (fun e=>absurd (h1.most.trans h2.most.symm) e)
 refine split_eq (fun _=>?_) (fun e=>absurd (h1.holder.trans h2.holder.symm) e)
 have kb:Keep m (bump m 2):=(Keep.refl hw).bump
 refine eqInts_ok kb.wf (h1.queue.keep hw kb) (h2.queue.keep hw kb) (by rw [← h1.queue.1]; exact hn) fun m' k=>⟨_,rfl,?_⟩
 rw [splitB_true]
 rw [show (v.dead == v'.dead)=true by rw [h1.dead,h2.dead]; exact beq_self_eq_true _]
 exact h m' (kb.trans k)
theorem eqLocks_ok {sl sl':List LV} {l:List pm.Lock} (hw:Wf m) (h1:Arr encL 4 m a n sl) (r1:All2 (RdLock m) sl l) (h2:Arr encL 4 m a' n' sl') (r2:All2 (RdLock m) sl' l) (hn:n≤1000) (hj:∀ x∈l,x.queue.length≤1000) (h:∀ m',Keep m m'→Q (.bool true) m'):CallV cx n_slices_EqualFunc_sl_model_Lock [.slice a n c,.slice a' n' c',.func (.func n_model_sameLock) #[] #[]] m Q:=by
 apply G_slices_EqualFunc_sl_model_Lock_ok; unfold G_slices_EqualFunc_sl_model_Lock
 have e:n=n':=by rw [← h1.1,← h2.1,r1.len,r2.len]
 subst e
 refine split_ne (fun hne=>absurd rfl hne) (fun _=>?_)
 refine forN (show n≤4611686018427387904 by omega) (fun k mm=>Keep m mm) (Keep.refl hw) ?_
 intro k m1 hk k1 I w hI
 refine split_lt (fun hlt=>?_) (fun hge=>h m1 k1)
 obtain ⟨x,hx⟩:∃ x,l[k]? = some x:=⟨_,List.getElem?_eq_getElem (by rw [← r1.len,h1.1]; exact hlt)⟩
 obtain ⟨v,hv,hR⟩:=r1.get' hx
 obtain ⟨v',hv',hR'⟩:=r2.get' hx
 have k2:Keep m (bump m1 2):=k1.bump
 refine (h1.keep hw k1).open (k:=k) hv fun b o hc=>⟨_,hc 0 _ rfl,_,hc 1 _ rfl,_,_,_,hc 2 _ rfl,_,hc 3 _ rfl,?_⟩
 refine (h2.keep hw (k1.bump (n:=1))).open (k:=k) hv' fun b o hc=>⟨_,hc 0 _ rfl,_,hc 1 _ rfl,_,_,_,hc 2 _ rfl,_,hc 3 _ rfl,?_⟩
 exact sameLock_ok k2.wf (hR.keep hw k2) (hR'.keep hw k2) (hj x (List.mem_of_getElem? hx)) fun m' k'=>⟨_,rfl,hI _ hlt (k2.trans k')⟩
theorem same_ok {M' now':Int} (hw:Wf m) (h1:RdSt cx m M now a1 n1 a2 n2 a3 n3 c3 σ) (h2:RdSt cx m M' now' b1 n4 b2 n5 b3 n6 d3 σ) (hI:pm.Iv B σ) (h:∀ m',Keep m m'→Q (.bool true) m') :
  CallV cx n_model_Same [.agg #[.int .i64 M,.int .i64 now,.slice a1 n1 c1,.slice a2 n2 c2,.slice a3 n3 c3],.agg #[.int .i64 M',.int .i64 now',.slice b1 n4 d1,.slice b2 n5 d2,.slice b3 n6 d3]] m Q:=by
 apply G_model_Same_ok; unfold G_model_Same
 have z1:=hI.len1
 have z2:=hI.len2
 have z3:=hI.len3
 have e1:=h1.len1
 have e2:=h1.len2
 have e3:=h1.len3
 refine split_eq (fun _=>?_) (fun e=>absurd (h1.em.trans h2.em.symm) e)
 refine split_eq (fun _=>?_) (fun e=>absurd (h1.enow.trans h2.enow.symm) e)
 have kb:Keep m (bump m 2):=(Keep.refl hw).bump
 obtain ⟨sl,q1,q2⟩:=(h1.keep hw kb).servs
 obtain ⟨sl',q1',q2'⟩:=(h2.keep hw kb).servs
 refine eqServs_ok kb.wf q1 q2 q1' q2' (by omega) (fun x hx=>⟨by have:=(hI.serv x hx).len; omega,fun j hj=>by have:=(pm.pGood_iff.1 ((hI.serv x hx).jobs j hj).good.prog).2.1; omega⟩) fun m3 k3=>⟨_,rfl,?_⟩
 rw [splitB_true]
 have k03:=kb.trans k3
 obtain ⟨ll,p1,p2⟩:=(h1.keep hw k03).sems
 obtain ⟨ll',p1',p2'⟩:=(h2.keep hw k03).sems
 refine eqLocks_ok k03.wf p1 p2 p1' p2' (by omega) (fun l hl=>by have:=iv_queue hI.toIw hl; omega) fun m4 k4=>⟨_,rfl,?_⟩
 rw [splitB_true]
 have k04:=k03.trans k4
 refine eqBacks_ok k04.wf (h1.keep hw k04).backs (h2.keep hw k04).backs (by omega) fun m5 k5=>⟨_,rfl,h m5 (k04.trans k5)⟩
theorem mOdd_ok {x:Int} (hw:Wf m) (h:∀ m',Keep m m'→Q (.bool (pm.mOdd x)) m'):CallV cx n_model_New_1 [.int .i64 x] m Q:=by
 apply G_model_New_1_ok; unfold G_model_New_1
 refine split_b (fun h1=>?_) (fun h1=>?_)
 ·exact leaf h (Keep.refl hw) (by unfold pm.mOdd; rw [h1]; rfl)
 ·exact leaf h (Keep.refl hw) (by unfold pm.mOdd; rw [h1]; rfl)
theorem idxM_ok {l:List Int} (hw:Wf m) (ha:Arr encI 1 m a n l) (hn:n≤4611686018427387904)
  (h:∀ m',Keep m m'→Q (.int .i64 (match l.findIdx? pm.mOdd with | some i=>(i:Int) | none=>-1)) m'):CallV cx n_slices_IndexFunc_sl_int64 [.slice a n c,.func (.func n_model_New_1) #[] #[]] m Q:=by
 apply G_slices_IndexFunc_sl_int64_ok; unfold G_slices_IndexFunc_sl_int64
 refine forN hn (fun k mm=>Keep m mm∧∀ x∈l.take k,pm.mOdd x=false) ⟨Keep.refl hw,by simp⟩ ?_
 rintro k m1 hk ⟨k1,hno⟩ I w hI
 refine split_lt (fun hlt=>?_) (fun hge=>?_)
 ·obtain ⟨x,hx⟩:∃ x,l[k]? = some x:=⟨_,List.getElem?_eq_getElem (by rw [ha.1]; exact hlt)⟩
  have hkl:=(List.getElem?_eq_some_iff.1 hx).1
  refine (ha.keep hw k1).open (k:=k) hx fun b o hc=>⟨_,hc 0 _ rfl,?_⟩
  refine mOdd_ok k1.wf fun m2 k2=>⟨_,rfl,?_⟩
  refine split_b (fun ht=>?_) (fun ht=>?_)
  ·have e:l.findIdx? pm.mOdd=some k:=by
    rw [List.findIdx?_eq_some_iff_getElem]
    refine ⟨hkl,by rw [← (List.getElem?_eq_some_iff.1 hx).2] at ht; exact ht,fun j hj=>?_⟩
    have:=hno l[j] (List.mem_of_getElem? (i:=j) (by rw [List.getElem?_take,if_pos hj,List.getElem?_eq_getElem (by omega)]))
    rw [this]; simp
   have:=h m2 (k1.trans k2)
   rw [e] at this
   exact this
  ·refine hI m2 hlt ⟨k1.trans k2,fun y hy=>?_⟩
   rw [List.take_add_one,hx] at hy
   rcases List.mem_append.1 hy with hy | hy
   ·exact hno y hy
   ·simp at hy; subst hy; exact ht
 ·have e:l.findIdx? pm.mOdd=none:=by
   rw [List.findIdx?_eq_none_iff]
   intro y hy
   rw [← List.take_of_length_le (l:=l) (i:=k) (by rw [ha.1]; exact hge)] at hy
   exact hno y hy
  have:=h m1 k1
  rw [e] at this
  exact this
theorem all2_map {α β γ : Type} {R:α→β→Prop} {f:γ→α} {g:γ→β} (h:∀ x,R (f x) (g x)):∀ l:List γ,All2 R (l.map f) (l.map g)
 | []=>.nil
 | x :: r=>.cons (h x) (all2_map h r)
theorem new_ok {cpus:Int} {most:List Int} (hw:Wf m) (ha:Arr encI 1 m a n most)
  (h0:∀ m',Keep m m'→(pm.new cpus most).2≠0→pm.new cpus most=(⟨0,0,[],[],[]⟩,1)→Q (.tuple #[.agg #[.int .i64 0,.int .i64 0,.slice none 0 0,.slice none 0 0,.slice none 0 0],.int .i64 1]) m')
  (h1:∀ m' b2 d2,Keep m m'→(pm.new cpus most).2=0→RdSt cx m' cpus 0 none 0 b2 n none 0 0 (pm.new cpus most).1→Q (.tuple #[.agg #[.int .i64 cpus,.int .i64 0,.slice none 0 0,.slice b2 n d2,.slice none 0 0],.int .i64 0]) m') :
  CallV cx n_model_New [.int .i64 cpus,.slice a n c] m Q:=by
 apply G_model_New_ok; unfold G_model_New
 have hlm:most.length=n:=ha.1
 have en:pm.new cpus most=bif (ltI cpus 1 || (ltI 64 cpus || (ltI 8 (lenI n) || most.any pm.mOdd))) then (⟨0,0,[],[],[]⟩,1) else (⟨cpus,0,[],most.map fun n=>⟨n,0,[],false⟩,[]⟩,0):=by unfold pm.new; rw [hlm]
 refine joinK_of' (fun f:Bool→Mem→Prop=>∀ b mm,Keep m mm→b=(ltI cpus 1 || (ltI 64 cpus || (ltI 8 (lenI n) || most.any pm.mOdd)))→f b mm) ?_ ?_
 ·rintro b mm k rfl
  refine split_b (fun hb=>?_) (fun hb=>?_)
  ·rw [hb,cond_true] at en
   exact h0 mm k (by rw [en]; simp) en
  ·rw [hb,cond_false] at en
   rw [en] at h1
   simp only [Bool.or_eq_false_iff,ltI_false,pm.len_eq] at hb
   have hn8:n≤8:=by have:=hb.2.2.1; unfold lenI at this; omega
   refine ⟨fun x31 xc xc1 ac nc cc a2 n2 c2 a5 n5 c5 m2 w=>∃ k:Nat,x31=(k:Int)∧k≤n∧w=n - k∧xc=cpus∧xc1=0∧ac=none∧nc=0∧cc=0∧a5=none∧n5=0∧c5=0∧n2=k∧Acc m m2 a2 n2 c2 4 t_model_Lock (((most.take k).map fun x=>(⟨x,0,none,0,0,false⟩:LV)).flatMap encL),⟨n,0,rfl,Nat.zero_le _,rfl,rfl,rfl,rfl,rfl,rfl,rfl,rfl,rfl,rfl,by simpa using Acc.nil k.bump _ _⟩,?_⟩
   rintro x31 xc xc1 ac nc cc a2 n2 c2 a5 n5 c5 m2 w ⟨k',rfl,hk,rfl,rfl,rfl,rfl,rfl,rfl,rfl,rfl,rfl,rfl,hacc⟩
   refine split_lt (fun hlt=>?_) (fun hge=>?_)
   ·obtain ⟨x,hx⟩:∃ x,most[n2]? = some x:=⟨_,List.getElem?_eq_getElem (by omega)⟩
    refine (ha.keep hw hacc.keep).open (k:=n2) hx fun b o hc=>⟨_,hc 0 _ rfl,?_⟩
    rw [mBind_iff]
    obtain ⟨m4,q1,q2,q3,q4,q5⟩:=hacc.push (cx:=cx) (t:=t_sl_model_Lock) (vs:=encL ⟨x,0,none,0,0,false⟩) (by kernel_rfl) rfl rfl (by omega)
    refine ⟨_,_,_,m4,q1,n - (n2+1),by omega,n2+1,?_,by omega,rfl,rfl,rfl,rfl,rfl,rfl,rfl,rfl,rfl,rfl,?_⟩
    ·rw [addI_64 (by omega) (by omega)]; rfl
    ·have e:((most.take (n2+1)).map fun x=>(⟨x,0,none,0,0,false⟩:LV)).flatMap encL=((most.take n2).map fun x=>(⟨x,0,none,0,0,false⟩:LV)).flatMap encL ++ encL ⟨x,0,none,0,0,false⟩:=by
      rw [List.take_add_one,hx]
      simp
     rw [e]; exact q2
   ·obtain rfl:n2=n:=by omega
    have htk:most.take n2=most:=List.take_of_length_le (by omega)
    rw [htk] at hacc
    refine h1 m2 a2 c2 hacc.keep rfl ⟨rfl,rfl,⟨[],ArrP.nil,.nil⟩,⟨_,hacc.arr encL_len (by omega),?_⟩,ArrP.nil,Nat.le_refl _,.inl rfl⟩
    exact all2_map (fun x=>⟨rfl,rfl,rfl,ArrP.nil⟩) most
 ·intro J hJ
  have k1:Keep m (bump m 1):=(Keep.refl hw).bump
  refine split_b (fun h1=>hJ _ _ k1 (by rw [h1]; rfl)) (fun h1=>?_)
  refine split_b (fun h2=>hJ _ _ k1 (by rw [h1,h2]; rfl)) (fun h2=>?_)
  refine split_b (fun h3=>hJ _ _ k1 (by rw [h1,h2,h3]; rfl)) (fun h3=>?_)
  apply G_slices_ContainsFunc_sl_int64_ok; unfold G_slices_ContainsFunc_sl_int64
  have hn8:n≤8:=by rw [ltI_false] at h3; unfold lenI at h3; omega
  refine idxM_ok k1.wf (ha.keep hw k1) (by omega) fun m2 k2=>⟨_,rfl,_,rfl,hJ _ _ (k1.trans k2) ?_⟩
  rw [h1,h2,h3,Bool.false_or,Bool.false_or,Bool.false_or]
  exact leI_idx
end
end Go.Proofs.YtiehbnmpaeedpaaGreat.vc
namespace Go.Proofs.YtiehbnmpaeedpaaGreat.vc
open Go Go.AX
set_option linter.unusedVariables false
set_option maxRecDepth 100000
noncomputable section
def G_law_act (g b a D bA bE bC:Int) (l f i bF:Option Addr) (j c e k n d bD bB:Nat) (m:Mem) (Q:Value→Mem→Prop):Prop:=
 splitB (eqI a 0) (CallV cx n_model_Add [.agg #[.int .i64 g,.int .i64 b,.slice l j c,.slice f e k,.slice i n d],.int .i64 D,.int .i64 bA,.int .i64 bE] (bump m 3) fun bx bg=>∃ au aL aG aN aY O al ao ae aE aU bc,bx=(.tuple #[.agg #[.int .i64 au,.int .i64 aL,.slice aG aN aY,.slice O al ao,.slice ae aE aU],.int .i64 bc])∧Q (.agg #[.int .i64 au,.int .i64 aL,.slice aG aN aY,.slice O al ao,.slice ae aE aU]) bg) (splitB (eqI a 1) (CallV cx n_model_Drop [.agg #[.int .i64 g,.int .i64 b,.slice l j c,.slice f e k,.slice i n d],.int .i64 D] (bump m 3) fun bo bl=>∃ aH aD aa aj aK aB aZ ag V aW aM a9,bo=(.tuple #[.agg #[.int .i64 aH,.int .i64 aD,.slice aa aj aK,.slice aB aZ ag,.slice V aW aM],.int .i64 a9])∧Q (.agg #[.int .i64 aH,.int .i64 aD,.slice aa aj aK,.slice aB aZ ag,.slice V aW aM]) bl) (splitB (eqI a 2) (CallV cx n_model_Release [.agg #[.int .i64 g,.int .i64 b,.slice l j c,.slice f e k,.slice i n d],.int .i64 D,.slice bF bD bB] (bump m 3) fun ba bq=>∃ aX aI aS L X ar ab aC G aR K bn a7 bk a8,ba=(.tuple #[.agg #[.int .i64 aX,.int .i64 aI,.slice aS L X,.slice ar ab aC,.slice G aR K],.slice bn a7 bk,.int .i64 a8])∧Q (.agg #[.int .i64 aX,.int .i64 aI,.slice aS L X,.slice ar ab aC,.slice G aR K]) bq) (joinK (fun (bz:Bool) (B:Mem)=>splitB bz (CallV cx n_model_Ground [.agg #[.int .i64 g,.int .i64 b,.slice l j c,.slice f e k,.slice i n d],.int .i64 D,.bool (eqI a 3)] B fun be a5=>∃ an Y ay a0 Z F R T a2 aT ap bd,be=(.tuple #[.agg #[.int .i64 an,.int .i64 Y,.slice ay a0 Z,.slice F R T,.slice a2 aT ap],.int .i64 bd])∧Q (.agg #[.int .i64 an,.int .i64 Y,.slice ay a0 Z,.slice F R T,.slice a2 aT ap]) a5) (splitB (eqI a 5) (CallV cx n_model_Settle [.agg #[.int .i64 g,.int .i64 b,.slice l j c,.slice f e k,.slice i n d]] B fun bw bv=>∃ ad ax aP aO ac H E ak aA M U bi a6 bb,bw=(.tuple #[.agg #[.int .i64 ad,.int .i64 ax,.slice aP aO ac,.slice H E ak,.slice aA M U],.slice bi a6 bb])∧Q (.agg #[.int .i64 ad,.int .i64 ax,.slice aP aO ac,.slice H E ak,.slice aA M U]) bv) (∃ C:Int→Int→Int→Option Addr→Nat→Nat→Option Addr→Nat→Nat→Option Addr→Nat→Nat→Mem→Nat→Prop,(∃ bf:Nat,C 0 g b l j c f e k i n d B bf)∧∀ A z w p x y v u r q t o s S,C A z w p x y v u r q t o s S→(joinK (fun (bu:Mem)=>(CallV cx n_model_Tick [.agg #[.int .i64 z,.int .i64 w,.slice p x y,.slice v u r,.slice q t o]] bu fun bs a4=>∃ I P N av aF W ai a1 af az aw bj br bt bp,bs=(.tuple #[.agg #[.int .i64 I,.int .i64 P,.slice N av aF,.slice W ai a1,.slice af az aw],.slice bj br bt,.int .i64 bp])∧∃ aq:Nat,aq < S∧C (addI .i64 A 1) I P N av aF W ai a1 af az aw a4 aq)) fun a3=>splitB (ltI A bC) (splitB (ltI A 60) (a3 s) (Q (.agg #[.int .i64 z,.int .i64 w,.slice p x y,.slice v u r,.slice q t o]) s)) (Q (.agg #[.int .i64 z,.int .i64 w,.slice p x y,.slice v u r,.slice q t o]) s))))) fun aV=>splitB (eqI a 3) (aV true (bump m 3)) (aV (eqI a 4) (bump m 3)))))
theorem G_law_act_ok {g b a D bA bE bC:Int} {l f i bF:Option Addr} {j c e k n d bD bB:Nat} {m:Mem} {Q:Value→Mem→Prop} (h:G_law_act g b a D bA bE bC l f i bF j c e k n d bD bB m Q):CallV cx n_law_act [.agg #[.int .i64 g,.int .i64 b,.slice l j c,.slice f e k,.slice i n d],.agg #[.int .i64 a,.int .i64 D,.int .i64 bA,.int .i64 bE,.int .i64 bC,.slice bF bD bB]] m Q:=
 CallV.of (fn:=Tryz.f21) (LS:=[2,3,4]) (ann:=[none,none,none,none,none,none,some ⟨[7],[(58,.bool)],[(2,0,0),(3,1,0),(4,2,0)],[0,1,2],[],3⟩,none,none,none,some ⟨[],[(5,.int .i64),(81,.int .i64),(82,.int .i64),(83,.sl),(84,.sl),(85,.sl)],[(2,0,0),(3,1,0),(4,2,0)],[1,2],[(0,[81,82,83,84,85])],4⟩,some ⟨[5],[],[(2,0,0),(3,1,0),(4,2,0)],[0,1,2],[],5⟩]) ovFr ovNi (by kernel_rfl) (by kernel_rfl) (Eq.mp (by kernel_rfl) h)
def G_law_ModelApart (bX cK cp cM cL cN:Int) (ct C cI:Option Addr) (ca bV u cO Y b5:Nat) (m:Mem) (Q:Value→Mem→Prop):Prop:=
 CallV cx n_law_awake [] (bump m 1) fun ci ax=>∃ aL,ci=(.bool aL)∧splitB (!aL) (Q (.bool false) ax) (CallV cx n_model_New [.int .i64 bX,.slice ct ca bV] ax fun bB b8=>∃ Z aM av aT al ae aD aw a6 az an au,bB=(.tuple #[.agg #[.int .i64 Z,.int .i64 aM,.slice av aT al,.slice ae aD aw,.slice a6 az an],.int .i64 au])∧(CallV cx n_model_New [.int .i64 bX,.slice ct ca bV] (bump b8 1) fun b6 v=>∃ aR aa O N L aG aX a5 U W a0 ck,b6=(.tuple #[.agg #[.int .i64 aR,.int .i64 aa,.slice O N L,.slice aG aX a5,.slice U W a0],.int .i64 ck])∧(joinK (fun (bt:Mem)=>∃ w:Int→Int→Int→Option Addr→Nat→Nat→Option Addr→Nat→Nat→Option Addr→Nat→Nat→Int→Int→Option Addr→Nat→Nat→Option Addr→Nat→Nat→Option Addr→Nat→Nat→Mem→Nat→Prop,(∃ bO:Nat,w 0 Z aM av aT al ae aD aw a6 az an aR aa O N L aG aX a5 U W a0 bt bO)∧∀ a n p e i j o d k l c g B D E z F H G A I x y f R,w a n p e i j o d k l c g B D E z F H G A I x y f R→splitB (ltI a (lenI u)) (joinK (fun (b:Mem)=>(0≤a∧a < ((u:Nat):Int))∧(vPtr C fun q r=>∃ aC,rd (bump b 14) q (r+Int.toNat a*6)=some (.int .i64 aC)∧∃ S,rd (bump b 14) q (r+Int.toNat a*6+1)=some (.int .i64 S)∧∃ ad,rd (bump b 14) q (r+Int.toNat a*6+2)=some (.int .i64 ad)∧∃ a4,rd (bump b 14) q (r+Int.toNat a*6+3)=some (.int .i64 a4)∧∃ ab,rd (bump b 14) q (r+Int.toNat a*6+4)=some (.int .i64 ab)∧∃ ao aN K,rd (bump b 14) q (r+Int.toNat a*6+5)=some (.slice ao aN K)∧(CallV cx n_law_act [.agg #[.int .i64 n,.int .i64 p,.slice e i j,.slice o d k,.slice l c g],.agg #[.int .i64 aC,.int .i64 S,.int .i64 ad,.int .i64 a4,.int .i64 ab,.slice ao aN K]] (setFl (bump b 14) b.nx) fun br bw=>∃ aU T aZ aH ag aI aP aW a2 a1 a7,br=(.agg #[.int .i64 aU,.int .i64 T,.slice aZ aH ag,.slice aI aP aW,.slice a2 a1 a7])∧(0≤a∧a < ((u:Nat):Int))∧(vPtr C fun s t=>∃ aO,rd (bump b 14) s (t+Int.toNat a*6)=some (.int .i64 aO)∧∃ a3,rd (bump b 14) s (t+Int.toNat a*6+1)=some (.int .i64 a3)∧∃ aF,rd (bump b 14) s (t+Int.toNat a*6+2)=some (.int .i64 aF)∧∃ aB,rd (bump b 14) s (t+Int.toNat a*6+3)=some (.int .i64 aB)∧∃ X,rd (bump b 14) s (t+Int.toNat a*6+4)=some (.int .i64 X)∧∃ af ac ai,rd (bump b 14) s (t+Int.toNat a*6+5)=some (.slice af ac ai)∧(CallV cx n_law_act [.agg #[.int .i64 B,.int .i64 D,.slice E z F,.slice H G A,.slice I x y],.agg #[.int .i64 aO,.int .i64 a3,.int .i64 aF,.int .i64 aB,.int .i64 X,.slice af ac ai]] (setFl bw (bump b 14).fl) fun b2 cz=>∃ aK M V aV aS aj P aY ay ap ar,b2=(.agg #[.int .i64 aK,.int .i64 M,.slice V aV aS,.slice aj P aY,.slice ay ap ar])∧∃ ak:Nat,ak < R∧w (addI .i64 a 1) aU T aZ aH ag aI aP aW a2 a1 a7 aK M V aV aS aj P aY ay ap ar cz ak))))) fun bK=>(0≤a∧a < ((u:Nat):Int))∧(vPtr C fun bz cC=>∃ cy aE bY,rd f bz (cC+Int.toNat a*6+5)=some (.slice cy aE bY)∧splitB (ltI 12 (lenI aE)) (Q (.bool true) f) ((0≤a∧a < ((u:Nat):Int))∧(vPtr C fun bf cu=>∃ aA,rd f bf (cu+Int.toNat a*6+4)=some (.int .i64 aA)∧splitB (ltI 30 aA) (Q (.bool true) f) (bK f))))) (CallV cx n_law_act [.agg #[.int .i64 n,.int .i64 p,.slice e i j,.slice o d k,.slice l c g],.agg #[.int .i64 cK,.int .i64 cp,.int .i64 cM,.int .i64 cL,.int .i64 cN,.slice cI Y b5]] f fun cl bi=>∃ bo bP bb a8 bF bv cf b1 bd cH cF,cl=(.agg #[.int .i64 bo,.int .i64 bP,.slice bb a8 bF,.slice bv cf b1,.slice bd cH cF])∧(CallV cx n_model_Settle [.agg #[.int .i64 n,.int .i64 p,.slice e i j,.slice o d k,.slice l c g]] bi fun bT be=>∃ cr cc ba b3 bG bD bu bZ b7 cs b4 cd cq cB,bT=(.tuple #[.agg #[.int .i64 cr,.int .i64 cc,.slice ba b3 bG,.slice bD bu bZ,.slice b7 cs b4],.slice cd cq cB])∧(CallV cx n_model_Tick [.agg #[.int .i64 n,.int .i64 p,.slice e i j,.slice o d k,.slice l c g]] be fun bE b0=>∃ bH cj bl bj bS bU bW cb bn bx bR cG bN ce bp,bE=(.tuple #[.agg #[.int .i64 bH,.int .i64 cj,.slice bl bj bS,.slice bU bW cb,.slice bn bx bR],.slice cG bN ce,.int .i64 bp])∧(CallV cx n_model_Release [.agg #[.int .i64 n,.int .i64 p,.slice e i j,.slice o d k,.slice l c g],.int .i64 cp,.slice cI Y b5] b0 fun bg bC=>∃ cD bc a9 bL cA co bI cn b9 bk cg cv bA bq bM,bg=(.tuple #[.agg #[.int .i64 cD,.int .i64 bc,.slice a9 bL cA,.slice co bI cn,.slice b9 bk cg],.slice cv bA bq,.int .i64 bM])∧(CallV cx n_model_Same [.agg #[.int .i64 n,.int .i64 p,.slice e i j,.slice o d k,.slice l c g],.agg #[.int .i64 B,.int .i64 D,.slice E z F,.slice H G A,.slice I x y]] bC fun cE bs=>∃ aq,cE=(.bool aq)∧Q (.bool aq) bs)))))) fun cw=>splitB (neI au 0) (Q (.bool true) (bump v 1)) (splitB (ltI 15 (lenI u)) (Q (.bool true) (bump v 1)) (splitB (ltI 12 (lenI Y)) (Q (.bool true) (bump v 1)) (cw (bump v 1)))))))
theorem G_law_ModelApart_ok {bX cK cp cM cL cN:Int} {ct C cI:Option Addr} {ca bV u cO Y b5:Nat} {m:Mem} {Q:Value→Mem→Prop} (h:G_law_ModelApart bX cK cp cM cL cN ct C cI ca bV u cO Y b5 m Q):CallV cx n_law_ModelApart [.int .i64 bX,.slice ct ca bV,.slice C u cO,.agg #[.int .i64 cK,.int .i64 cp,.int .i64 cM,.int .i64 cL,.int .i64 cN,.slice cI Y b5]] m Q:=
 CallV.of (fn:=Tryz.f9) (LS:=[7,9,11]) (ann:=[none,none,none,none,none,none,some ⟨[2],[],[(7,0,0),(9,1,0),(11,3,0)],[0,1,3],[],5⟩,none,none,none,none,some ⟨[2],[(13,.int .i64),(94,.int .i64),(95,.int .i64),(96,.sl),(97,.sl),(98,.sl),(99,.int .i64),(100,.int .i64),(101,.sl),(102,.sl),(103,.sl)],[(7,0,0),(9,1,0),(11,3,0)],[0],[(1,[94,95,96,97,98]),(3,[99,100,101,102,103])],6⟩,none,none,none,some ⟨[2,13],[],[(7,0,0),(9,1,0),(11,3,0)],[0,1,3],[],7⟩]) ovFr ovNi (by kernel_rfl) (by kernel_rfl) (Eq.mp (by kernel_rfl) h)
def G_law_ModelSettles (bO:Int) (bR bB:Option Addr) (bP bN H bS:Nat) (m:Mem) (Q:Value→Mem→Prop):Prop:=
 CallV cx n_law_awake [] m fun bG aK=>∃ aW,bG=(.bool aW)∧splitB (!aW) (Q (.bool false) aK) (CallV cx n_model_New [.int .i64 bO,.slice bR bP bN] aK fun bM I=>∃ a3 aV P N L aE an aL ad aG ax bf,bM=(.tuple #[.agg #[.int .i64 a3,.int .i64 aV,.slice P N L,.slice aE an aL,.slice ad aG ax],.int .i64 bf])∧(joinK (fun (bC:Mem)=>∃ u:Int→Int→Int→Option Addr→Nat→Nat→Option Addr→Nat→Nat→Option Addr→Nat→Nat→Mem→Nat→Prop,(∃ bu:Nat,u 0 a3 aV P N L aE an aL ad aG ax bC bu)∧∀ a bb aq T aT aX R a8 a2 aO aH ab b F,u a bb aq T aT aX R a8 a2 aO aH ab b F→splitB (ltI a (lenI H)) ((0≤a∧a < ((H:Nat):Int))∧(vPtr bB fun bt bx=>∃ bE ao bD,rd b bt (bx+Int.toNat a*6+5)=some (.slice bE ao bD)∧splitB (ltI 12 (lenI ao)) (Q (.bool true) b) ((0≤a∧a < ((H:Nat):Int))∧(vPtr bB fun c d=>∃ S,rd (bump b 7) c (d+Int.toNat a*6)=some (.int .i64 S)∧∃ a9,rd (bump b 7) c (d+Int.toNat a*6+1)=some (.int .i64 a9)∧∃ Y,rd (bump b 7) c (d+Int.toNat a*6+2)=some (.int .i64 Y)∧∃ a7,rd (bump b 7) c (d+Int.toNat a*6+3)=some (.int .i64 a7)∧∃ ae,rd (bump b 7) c (d+Int.toNat a*6+4)=some (.int .i64 ae)∧∃ a6 X aI,rd (bump b 7) c (d+Int.toNat a*6+5)=some (.slice a6 X aI)∧(CallV cx n_law_act [.agg #[.int .i64 bb,.int .i64 aq,.slice T aT aX,.slice R a8 a2,.slice aO aH ab],.agg #[.int .i64 S,.int .i64 a9,.int .i64 Y,.int .i64 a7,.int .i64 ae,.slice a6 X aI]] (bump b 7) fun bk bj=>∃ k p q l n g i j e f o,bk=(.agg #[.int .i64 k,.int .i64 p,.slice q l n,.slice g i j,.slice e f o])∧(CallV cx n_model_Settle [.agg #[.int .i64 k,.int .i64 p,.slice q l n,.slice g i j,.slice e f o]] bj fun bg bK=>∃ y v C s A B z w x r D bL ag bq,bg=(.tuple #[.agg #[.int .i64 y,.int .i64 v,.slice C s A,.slice B z w,.slice x r D],.slice bL ag bq])∧(CallV cx n_model_Settle [.agg #[.int .i64 y,.int .i64 v,.slice C s A,.slice B z w,.slice x r D]] (bump bK 1) fun bv bo=>∃ bd ak aZ bc av az al aM W aF aU bs U bi,bv=(.tuple #[.agg #[.int .i64 bd,.int .i64 ak,.slice aZ bc av,.slice az al aM,.slice W aF aU],.slice bs U bi])∧(CallV cx n_model_Tick [.agg #[.int .i64 k,.int .i64 p,.slice q l n,.slice g i j,.slice e f o]] (bump bo 1) fun bA bI=>∃ aP aC aB a0 K aw af aN a5 aY O bz V bn E,bA=(.tuple #[.agg #[.int .i64 aP,.int .i64 aC,.slice aB a0 K,.slice aw af aN,.slice a5 aY O],.slice bz V bn,.int .i64 E])∧(CallV cx n_model_Tick [.agg #[.int .i64 y,.int .i64 v,.slice C s A,.slice B z w,.slice x r D]] (bump bI 1) fun bw Z=>∃ a1 ac ay ar aA ba aR a4 M aD be bp ap bF aS,bw=(.tuple #[.agg #[.int .i64 a1,.int .i64 ac,.slice ay ar aA,.slice ba aR a4,.slice M aD be],.slice bp ap bF,.int .i64 aS])∧splitB (neI (lenI U) 0) (Q (.bool false) (bump Z 1)) (CallV cx n_model_Same [.agg #[.int .i64 y,.int .i64 v,.slice C s A,.slice B z w,.slice x r D],.agg #[.int .i64 bd,.int .i64 ak,.slice aZ bc av,.slice az al aM,.slice W aF aU]] (bump Z 1) fun br t=>∃ aa,br=(.bool aa)∧splitB (!aa) (Q (.bool false) t) (splitB (neI E aS) (Q (.bool false) t) (splitB (eqI E 0) (CallV cx n_model_Same [.agg #[.int .i64 aP,.int .i64 aC,.slice aB a0 K,.slice aw af aN,.slice a5 aY O],.agg #[.int .i64 a1,.int .i64 ac,.slice ay ar aA,.slice ba aR a4,.slice M aD be]] t fun bl G=>∃ au,bl=(.bool au)∧splitB (!au) (Q (.bool false) G) (splitB (neI (lenI V) (addI .i64 (lenI ag) (lenI ap))) (Q (.bool false) G) (∃ aj:Nat,aj < F∧u (addI .i64 a 1) k p q l n g i j e f o G aj))) (∃ ai:Nat,ai < F∧u (addI .i64 a 1) k p q l n g i j e f o t ai))))))))))))) (Q (.bool true) b)) fun bH=>splitB (neI bf 0) (Q (.bool true) (bump I 1)) (splitB (ltI 25 (lenI H)) (Q (.bool true) (bump I 1)) (bH (bump I 1)))))
theorem G_law_ModelSettles_ok {bO:Int} {bR bB:Option Addr} {bP bN H bS:Nat} {m:Mem} {Q:Value→Mem→Prop} (h:G_law_ModelSettles bO bR bB bP bN H bS m Q):CallV cx n_law_ModelSettles [.int .i64 bO,.slice bR bP bN,.slice bB H bS] m Q:=
 CallV.of (fn:=Tryz.f10) (LS:=[7,10,12,14,17]) (ann:=[none,none,none,none,none,some ⟨[2],[],[(7,0,0)],[0],[],2⟩,none,none,none,none,some ⟨[2],[(9,.int .i64),(113,.int .i64),(114,.int .i64),(115,.sl),(116,.sl),(117,.sl)],[(7,0,0)],[],[(0,[113,114,115,116,117])],3⟩]) ovFr ovNi (by kernel_rfl) (by kernel_rfl) (Eq.mp (by kernel_rfl) h)
def G_law_ModelRan (aC:Int) (bY bA:Option Addr) (bX bW H bZ:Nat) (m:Mem) (Q:Value→Mem→Prop):Prop:=
 CallV cx n_law_awake [] m fun bP aD=>∃ ay,bP=(.bool ay)∧splitB (!ay) (Q (.bool false) aD) (CallV cx n_model_New [.int .i64 aC,.slice bY bX bW] aD fun bk K=>∃ aG ao ae T aB aR Y a4 ac aE ag av,bk=(.tuple #[.agg #[.int .i64 aG,.int .i64 ao,.slice ae T aB,.slice aR Y a4,.slice ac aE ag],.int .i64 av])∧(joinK (fun (bC:Mem)=>∃ y:Int→Int→Int→Option Addr→Nat→Nat→Option Addr→Nat→Nat→Option Addr→Nat→Nat→Mem→Nat→Prop,(∃ bn:Nat,y 0 aG ao ae T aB aR Y a4 ac aE ag bC bn)∧∀ a a0 an X aP aS U aZ aU aL az aa b E,y a a0 an X aP aS U aZ aU aL az aa b E→splitB (ltI a (lenI H)) ((0≤a∧a < ((H:Nat):Int))∧(vPtr bA fun bl bt=>∃ bi ax bO,rd b bl (bt+Int.toNat a*6+5)=some (.slice bi ax bO)∧splitB (ltI 12 (lenI ax)) (Q (.bool true) b) ((0≤a∧a < ((H:Nat):Int))∧(vPtr bA fun i j=>∃ aX,rd (bump b 7) i (j+Int.toNat a*6)=some (.int .i64 aX)∧∃ aK,rd (bump b 7) i (j+Int.toNat a*6+1)=some (.int .i64 aK)∧∃ ak,rd (bump b 7) i (j+Int.toNat a*6+2)=some (.int .i64 ak)∧∃ aM,rd (bump b 7) i (j+Int.toNat a*6+3)=some (.int .i64 aM)∧∃ aq,rd (bump b 7) i (j+Int.toNat a*6+4)=some (.int .i64 aq)∧∃ aV V aj,rd (bump b 7) i (j+Int.toNat a*6+5)=some (.slice aV V aj)∧(CallV cx n_law_act [.agg #[.int .i64 a0,.int .i64 an,.slice X aP aS,.slice U aZ aU,.slice aL az aa],.agg #[.int .i64 aX,.int .i64 aK,.int .i64 ak,.int .i64 aM,.int .i64 aq,.slice aV V aj]] (bump b 7) fun bK bb=>∃ q e t l w k n r v u o,bK=(.agg #[.int .i64 q,.int .i64 e,.slice t l w,.slice k n r,.slice v u o])∧(CallV cx n_model_Settle [.agg #[.int .i64 q,.int .i64 e,.slice t l w,.slice k n r,.slice v u o]] bb fun a9 bL=>∃ W aA G B ap aF a5 aY R p a2 bF bd bu,a9=(.tuple #[.agg #[.int .i64 W,.int .i64 aA,.slice G B ap,.slice aF a5 aY,.slice R p a2],.slice bF bd bu])∧(CallV cx n_model_Runs [.agg #[.int .i64 W,.int .i64 aA,.slice G B ap,.slice aF a5 aY,.slice R p a2]] (bump bL 1) fun bv bg=>∃ bq A bD a6 s bw,bv=(.tuple #[.slice bq A bD,.slice a6 s bw])∧(CallV cx n_model_Tick [.agg #[.int .i64 q,.int .i64 e,.slice t l w,.slice k n r,.slice v u o]] bg fun bo aW=>∃ br S aI P bf bz bM bR a3 O a8 bc bH bT ad,bo=(.tuple #[.agg #[.int .i64 br,.int .i64 S,.slice aI P bf,.slice bz bM bR,.slice a3 O a8],.slice bc bH bT,.int .i64 ad])∧splitB (neI ad 0) (Q (.bool false) (bump aW 1)) (joinK (fun (bS:Int) (ba:Mem)=>∃ F:Int→Int→Mem→Nat→Prop,(∃ be:Nat,F 0 0 ba be)∧∀ M f x Z,F M f x Z→splitB (ltI f (lenI O)) ((0≤f∧f < ((O:Nat):Int))∧(vPtr a3 fun bs bj=>∃ aO,rd x bs (bj+Int.toNat f*2+1)=some (.int .i64 aO)∧∃ a1:Nat,a1 < Z∧F (addI .i64 M aO) (addI .i64 f 1) x a1)) (∃ L:Int→Int→Mem→Nat→Prop,(∃ bV:Nat,L M 0 x bV)∧∀ N g c au,L N g c au→splitB (ltI g (lenI p)) ((0≤g∧g < ((p:Nat):Int))∧(vPtr R fun bN bB=>∃ aT,rd c bN (bB+Int.toNat g*2+1)=some (.int .i64 aT)∧∃ ar:Nat,ar < au∧L (subI .i64 N aT) (addI .i64 g 1) c ar)) (splitB (neI bS (lenI A)) (Q (.bool false) c) (splitB (neI N (lenI s)) (Q (.bool false) c) (splitB (ltI aC (addI .i64 (lenI A) (lenI s))) (Q (.bool false) c) (splitB (ltI (addI .i64 (lenI A) (lenI s)) aC) (splitB (neI (lenI s) (lenI p)) (Q (.bool false) c) (splitB (neI S (addI .i64 e 1)) (Q (.bool false) c) (∃ ab:Nat,ab < E∧y (addI .i64 a 1) q e t l w k n r v u o c ab))) (splitB (neI S (addI .i64 e 1)) (Q (.bool false) c) (∃ aw:Nat,aw < E∧y (addI .i64 a 1) q e t l w k n r v u o c aw)))))))) fun aH=>∃ I:Int→Int→Mem→Nat→Prop,(∃ bE:Nat,I 0 0 (bump aW 1) bE)∧∀ C d z ai,I C d z ai→(joinK (fun (D:Mem)=>(0≤d∧d < ((P:Nat):Int))∧(vPtr aI fun bU bx=>∃ af,rd (bump D 16) bU (bx+Int.toNat d*11+10)=some (.int .i64 af)∧(0≤d∧d < ((B:Nat):Int))∧(vPtr G fun a7 bp=>∃ al,rd (bump D 16) a7 (bp+Int.toNat d*11+10)=some (.int .i64 al)∧∃ aN:Nat,aN < ai∧I (subI .i64 (addI .i64 C af) al) (addI .i64 d 1) (bump D 16) aN))) fun bG=>splitB (ltI d (lenI P)) (splitB (ltI d (lenI B)) (bG z) (aH C z)) (aH C z))))))))))) (Q (.bool true) b)) fun bI=>splitB (neI av 0) (Q (.bool true) (bump K 1)) (splitB (ltI 25 (lenI H)) (Q (.bool true) (bump K 1)) (bI (bump K 1)))))
theorem G_law_ModelRan_ok {aC:Int} {bY bA:Option Addr} {bX bW H bZ:Nat} {m:Mem} {Q:Value→Mem→Prop} (h:G_law_ModelRan aC bY bA bX bW H bZ m Q):CallV cx n_law_ModelRan [.int .i64 aC,.slice bY bX bW,.slice bA H bZ] m Q:=
 CallV.of (fn:=Tryz.f7) (LS:=[7,10,14]) (ann:=[none,none,none,none,none,some ⟨[0,2],[],[(7,0,0)],[0],[],2⟩,none,none,none,none,some ⟨[0,2],[(9,.int .i64),(180,.int .i64),(181,.int .i64),(182,.sl),(183,.sl),(184,.sl)],[(7,0,0)],[],[(0,[180,181,182,183,184])],3⟩,none,none,none,none,none,none,none,none,none,none,none,none,none,none,some ⟨[0,2,9,12,13,18],[(17,.int .i64)],[(7,0,0),(10,5,0),(14,7,0)],[0,5,7],[],10⟩,none,some ⟨[0,2,9,12,13,18],[(17,.int .i64),(19,.int .i64)],[(7,0,0),(10,5,0),(14,7,0)],[0,5,7],[],9⟩,some ⟨[0,2,9,12,13,17,18,19],[],[(7,0,0),(10,5,0),(14,7,0)],[0,5,7],[],10⟩,none,none,none,none,some ⟨[0,2,9,12,13,17],[(18,.int .i64),(20,.int .i64)],[(7,0,0),(10,5,0),(14,7,0)],[0,5,7],[],11⟩,none,none,none,none,none,some ⟨[0,2,9,12,13,17],[(18,.int .i64),(21,.int .i64)],[(7,0,0),(10,5,0),(14,7,0)],[0,5,7],[],12⟩]) ovFr ovNi (by kernel_rfl) (by kernel_rfl) (Eq.mp (by kernel_rfl) h)
end
end Go.Proofs.YtiehbnmpaeedpaaGreat.vc
