import Derived.Test.YtiehbnmpaeedpaaGreatQA38
import Derived.Test.YtiehbnmpaeedpaaGreatQA22
import Derived.KernelRfl
import Derived.Test.YtiehbnmpaeedpaaGreatQA33
namespace Go.Proofs.YtiehbnmpaeedpaaGreat.vc
open Go Go.AX
set_option linter.unusedVariables false
set_option linter.unusedSimpArgs false
set_option linter.unusedSectionVars false
section
variable {B:Int} {m:Mem} {Q:Value→Mem→Prop} {M now:Int} {a a' a1 a2 a3 b1 b2 b3:Option Addr} {n n' c c' n1 c1 n2 c2 n3 c3 n4 n5 n6 d1 d2 d3:Nat} {σ : pm.St}
noncomputable def andO (a b:Option Bool):Option Bool:=match a with
 | some true=>b
 | some false=>some false
 | none=>none
theorem eqP_raw (x y x' y':Int) (m:Mem):eqV cx m 40 t_prog_Step (.agg #[.int .i64 x,.int .i64 y]) (.agg #[.int .i64 x',.int .i64 y'])=andO (some (decide (x=x'))) (andO (some (decide (y=y'))) (some true)):=by kernel_rfl
theorem eqB_raw (x y x' y':Int) (m:Mem):eqV cx m 40 t_model_Back (.agg #[.int .i64 x,.int .i64 y]) (.agg #[.int .i64 x',.int .i64 y'])=andO (some (decide (x=x'))) (andO (some (decide (y=y'))) (some true)):=by kernel_rfl
theorem eqC_raw (x y z u w x' y' z' u' w':Int) (m:Mem):eqV cx m 40 t_cbs_Server (.agg #[.int .i64 x,.int .i64 y,.int .i64 z,.int .i64 u,.int .i64 w]) (.agg #[.int .i64 x',.int .i64 y',.int .i64 z',.int .i64 u',.int .i64 w'])=andO (some (decide (x=x'))) (andO (some (decide (y=y'))) (andO (some (decide (z=z'))) (andO (some (decide (u=u'))) (andO (some (decide (w=w'))) (some true))))):=by kernel_rfl
theorem dec_self (x:Int):decide (x=x)=true:=decide_eq_true rfl
theorem eqProg_ok {l:List pm.Step} (hw:Wf m) (h1:Arr encP 2 m a n l) (h2:Arr encP 2 m a' n' l) (hn:n≤1000) (h:∀ m',Keep m m'→Q (.bool true) m'):CallV cx n_slices_Equal_prog_Prog [.slice a n c,.slice a' n' c'] m Q:=by
 apply G_slices_Equal_prog_Prog_ok; unfold G_slices_Equal_prog_Prog
 have e:n=n':=by rw [← h1.1,← h2.1]
 subst e
 refine split_ne (fun hne=>absurd rfl hne) (fun _=>?_)
 refine forN (show n≤4611686018427387904 by omega) (fun k mm=>Keep m mm) (Keep.refl hw) ?_
 intro k m1 hk k1 I w hI
 refine split_lt (fun hlt=>?_) (fun hge=>h m1 k1)
 obtain ⟨x,hx⟩:∃ x,l[k]? = some x:=⟨_,List.getElem?_eq_getElem (by rw [h1.1]; exact hlt)⟩
 have kb:Keep m (bump m1 9):=k1.bump
 refine (h1.keep hw kb).open (k:=k) hx fun b o hc=>⟨_,hc 0 _ rfl,_,hc 1 _ rfl,?_⟩
 refine (h2.keep hw kb).open (k:=k) hx fun b o hc=>⟨_,hc 0 _ rfl,_,hc 1 _ rfl,?_⟩
 refine ⟨true,by rw [eqP_raw]; simp only [dec_self]; rfl,?_⟩
 exact hI _ hlt kb
theorem eqInts_ok {l:List Int} (hw:Wf m) (h1:Arr encI 1 m a n l) (h2:Arr encI 1 m a' n' l) (hn:n≤1000) (h:∀ m',Keep m m'→Q (.bool true) m'):CallV cx n_slices_Equal_sl_int [.slice a n c,.slice a' n' c'] m Q:=by
 apply G_slices_Equal_sl_int_ok; unfold G_slices_Equal_sl_int
 have e:n=n':=by rw [← h1.1,← h2.1]
 subst e
 refine split_ne (fun hne=>absurd rfl hne) (fun _=>?_)
 refine forN (show n≤4611686018427387904 by omega) (fun k mm=>Keep m mm) (Keep.refl hw) ?_
 intro k m1 hk k1 I w hI
 refine split_lt (fun hlt=>?_) (fun hge=>h m1 k1)
 obtain ⟨x,hx⟩:∃ x,l[k]? = some x:=⟨_,List.getElem?_eq_getElem (by rw [h1.1]; exact hlt)⟩
 have kb:Keep m (bump m1 9):=k1.bump
 refine (h1.keep hw kb).open (k:=k) hx fun b o hc=>⟨_,hc 0 _ rfl,?_⟩
 refine (h2.keep hw kb).open (k:=k) hx fun b o hc=>⟨_,hc 0 _ rfl,?_⟩
 exact split_ne (fun hne=>absurd rfl hne) (fun _=>hI _ hlt kb)
theorem eqBacks_ok {l:List pm.Back} (hw:Wf m) (h1:Arr encB 2 m a n l) (h2:Arr encB 2 m a' n' l) (hn:n≤1000) (h:∀ m',Keep m m'→Q (.bool true) m'):CallV cx n_slices_Equal_sl_model_Back [.slice a n c,.slice a' n' c'] m Q:=by
 apply G_slices_Equal_sl_model_Back_ok; unfold G_slices_Equal_sl_model_Back
 have e:n=n':=by rw [← h1.1,← h2.1]
 subst e
 refine split_ne (fun hne=>absurd rfl hne) (fun _=>?_)
 refine forN (show n≤4611686018427387904 by omega) (fun k mm=>Keep m mm) (Keep.refl hw) ?_
 intro k m1 hk k1 I w hI
 refine split_lt (fun hlt=>?_) (fun hge=>h m1 k1)
 obtain ⟨x,hx⟩:∃ x,l[k]? = some x:=⟨_,List.getElem?_eq_getElem (by rw [h1.1]; exact hlt)⟩
 have kb:Keep m (bump m1 9):=k1.bump
 refine (h1.keep hw kb).open (k:=k) hx fun b o hc=>⟨_,hc 0 _ rfl,_,hc 1 _ rfl,?_⟩
 refine (h2.keep hw kb).open (k:=k) hx fun b o hc=>⟨_,hc 0 _ rfl,_,hc 1 _ rfl,?_⟩
 refine ⟨true,by rw [eqB_raw]; simp only [dec_self]; rfl,?_⟩
 exact hI _ hlt kb
theorem sameJob_ok {v v':JV} {j:pm.Job} (hw:Wf m) (h1:RdJob m v j) (h2:RdJob m v' j) (hn:j.prog.length≤1000) (h:∀ m',Keep m m'→Q (.bool true) m'):CallV cx n_model_sameJob [.agg #[.int .i64 v.num,.slice v.pa v.pn v.pc,.int .i64 v.at_,.int .i64 v.done],.agg #[.int .i64 v'.num,.slice v'.pa v'.pn v'.pc,.int .i64 v'.at_,.int .i64 v'.done]] m Q:=by
 apply G_model_sameJob_ok; unfold G_model_sameJob
 refine split_eq (fun _=>?_) (fun e=>absurd (h1.num.trans h2.num.symm) e)
 refine split_eq (fun _=>?_) (fun e=>absurd (h1.at_.trans h2.at_.symm) e)
 refine split_eq (fun _=>?_) (fun e=>absurd (h1.done.trans h2.done.symm) e)
 have kb:Keep m (bump m 2):=(Keep.refl hw).bump
 exact eqProg_ok kb.wf (h1.prog.keep hw kb) (h2.prog.keep hw kb) (by rw [← h1.prog.1]; exact hn) fun m' k=>⟨_,rfl,h m' (kb.trans k)⟩
theorem eqJobs_ok {jl jl':List JV} {l:List pm.Job} (hw:Wf m) (h1:Arr encJ 4 m a n jl) (r1:All2 (RdJob m) jl l) (h2:Arr encJ 4 m a' n' jl') (r2:All2 (RdJob m) jl' l) (hn:n≤1000) (hp:∀ j∈l,j.prog.length≤1000) (h:∀ m',Keep m m'→Q (.bool true) m'):CallV cx n_slices_EqualFunc_sl_job_Job [.slice a n c,.slice a' n' c',.func (.func n_model_sameJob) #[] #[]] m Q:=by
 apply G_slices_EqualFunc_sl_job_Job_ok; unfold G_slices_EqualFunc_sl_job_Job
 have e:n=n':=by rw [← h1.1,← h2.1,r1.len,r2.len]
 subst e
 refine split_ne (fun hne=>absurd rfl hne) (fun _=>?_)
 refine forN (show n≤4611686018427387904 by omega) (fun k mm=>Keep m mm) (Keep.refl hw) ?_
 intro k m1 hk k1 I w hI
 refine split_lt (fun hlt=>?_) (fun hge=>h m1 k1)
 obtain ⟨x,hx⟩:∃ x,l[k]? = some x:=⟨_,List.getElem?_eq_getElem (by rw [← r1.len,h1.1]; exact hlt)⟩
 obtain ⟨v,hv,hR⟩:=r1.get' hx
 obtain ⟨v',hv',hR'⟩:=r2.get' hx
 have k2:Keep m (bump m1 2):=k1.bump
 refine (h1.keep hw k1).open (k:=k) hv fun b o hc=>⟨_,hc 0 _ rfl,_,_,_,hc 1 _ rfl,_,hc 2 _ rfl,_,hc 3 _ rfl,?_⟩
 refine (h2.keep hw (k1.bump (n:=1))).open (k:=k) hv' fun b o hc=>⟨_,hc 0 _ rfl,_,_,_,hc 1 _ rfl,_,hc 2 _ rfl,_,hc 3 _ rfl,?_⟩
 exact sameJob_ok k2.wf (hR.keep hw k2) (hR'.keep hw k2) (hp x (List.mem_of_getElem? hx)) fun m' k'=>⟨_,rfl,hI _ hlt (k2.trans k')⟩
theorem sameServ_ok {v v':SV} {x:pm.Serv} (hw:Wf m) (h1:RdServ m v x) (h2:RdServ m v' x) (hn:x.jobs.length≤1000) (hp:∀ j∈x.jobs,j.prog.length≤1000) (h:∀ m',Keep m m'→Q (.bool true) m'):CallV cx n_model_sameServ [.agg #[.int .i64 v.id,.int .i64 v.s.q,.int .i64 v.s.p,.int .i64 v.s.bud,.int .i64 v.s.due,.int .i64 v.s.mode,.slice v.ja v.jn v.jc,.int .i64 v.sec,.int .i64 v.held,.int .i64 v.num,.int .i64 v.ran],.agg #[.int .i64 v'.id,.int .i64 v'.s.q,.int .i64 v'.s.p,.int .i64 v'.s.bud,.int .i64 v'.s.due,.int .i64 v'.s.mode,.slice v'.ja v'.jn v'.jc,.int .i64 v'.sec,.int .i64 v'.held,.int .i64 v'.num,.int .i64 v'.ran]] m Q:=by
 apply G_model_sameServ_ok; unfold G_model_sameServ
 refine split_eq (fun _=>?_) (fun e=>absurd (h1.id.trans h2.id.symm) e)
 have kb:Keep m (bump m 2):=(Keep.refl hw).bump
 have es:v.s=v'.s:=h1.s.trans h2.s.symm
 refine ⟨true,by rw [eqC_raw,es]; simp only [dec_self]; rfl,?_⟩
 obtain ⟨jl,q1,q2⟩:=(h1.keep hw kb).jobs
 obtain ⟨jl',q1',q2'⟩:=(h2.keep hw kb).jobs
 rw [splitB_true]
 refine eqJobs_ok kb.wf q1 q2 q1' q2' (by rw [← q1.1,q2.len]; exact hn) hp fun m' k=>⟨_,rfl,?_⟩
 rw [splitB_true]
 refine split_eq (fun _=>?_) (fun e=>absurd (h1.sec.trans h2.sec.symm) e)
 refine split_eq (fun _=>?_) (fun e=>absurd (h1.held.trans h2.held.symm) e)
 refine split_eq (fun _=>?_) (fun e=>absurd (h1.num.trans h2.num.symm) e)
 rw [show eqI v.ran v'.ran=true from eqI_true.2 (h1.ran.trans h2.ran.symm)]
 exact h m' (kb.trans k)
theorem eqServs_ok {sl sl':List SV} {l:List pm.Serv} (hw:Wf m) (h1:Arr encS 11 m a n sl) (r1:All2 (RdServ m) sl l) (h2:Arr encS 11 m a' n' sl') (r2:All2 (RdServ m) sl' l) (hn:n≤1000) (hj:∀ x∈l,x.jobs.length≤1000∧∀ j∈x.jobs,j.prog.length≤1000) (h:∀ m',Keep m m'→Q (.bool true) m'):CallV cx n_slices_EqualFunc_sl_model_Serv [.slice a n c,.slice a' n' c',.func (.func n_model_sameServ) #[] #[]] m Q:=by
 apply G_slices_EqualFunc_sl_model_Serv_ok; unfold G_slices_EqualFunc_sl_model_Serv
 have e:n=n':=by rw [← h1.1,← h2.1,r1.len,r2.len]
 subst e
 refine split_ne (fun hne=>absurd rfl hne) (fun _=>?_)
 refine forN (show n≤4611686018427387904 by omega) (fun k mm=>Keep m mm) (Keep.refl hw) ?_
 intro k m1 hk k1 I w hI
 refine split_lt (fun hlt=>?_) (fun hge=>h m1 k1)
 obtain ⟨x,hx⟩:∃ x,l[k]? = some x:=⟨_,List.getElem?_eq_getElem (by rw [← r1.len,h1.1]; exact hlt)⟩
 obtain ⟨v,hv,hR⟩:=r1.get' hx
 obtain ⟨v',hv',hR'⟩:=r2.get' hx
 have k2:Keep m (bump m1 2):=k1.bump
 refine (h1.keep hw k1).open (k:=k) hv fun b o hc=>⟨_,hc 0 _ rfl,_,hc 1 _ rfl,_,hc 2 _ rfl,_,hc 3 _ rfl,_,hc 4 _ rfl,_,hc 5 _ rfl,_,_,_,hc 6 _ rfl,_,hc 7 _ rfl,_,hc 8 _ rfl,_,hc 9 _ rfl,_,hc 10 _ rfl,?_⟩
 refine (h2.keep hw (k1.bump (n:=1))).open (k:=k) hv' fun b o hc=>⟨_,hc 0 _ rfl,_,hc 1 _ rfl,_,hc 2 _ rfl,_,hc 3 _ rfl,_,hc 4 _ rfl,_,hc 5 _ rfl,_,_,_,hc 6 _ rfl,_,hc 7 _ rfl,_,hc 8 _ rfl,_,hc 9 _ rfl,_,hc 10 _ rfl,?_⟩
 obtain ⟨j1,j2⟩:=hj x (List.mem_of_getElem? hx)
 exact sameServ_ok k2.wf (hR.keep hw k2) (hR'.keep hw k2) j1 j2 fun m' k'=>⟨_,rfl,hI _ hlt (k2.trans k')⟩
theorem sameLock_ok {v v':LV} {x:pm.Lock} (hw:Wf m) (h1:RdLock m v x) (h2:RdLock m v' x) (hn:x.queue.length≤1000) (h:∀ m',Keep m m'→Q (.bool true) m'):CallV cx n_model_sameLock [.agg #[.int .i64 v.most,.int .i64 v.holder,.slice v.qa v.qn v.qc,.bool v.dead],.agg #[.int .i64 v'.most,.int .i64 v'.holder,.slice v'.qa v'.qn v'.qc,.bool v'.dead]] m Q:=by
 apply G_model_sameLock_ok; unfold G_model_sameLock
 refine split_eq (fun _=>?_) (fun e=>absurd (h1.most.trans h2.most.symm) e)
 refine split_eq (fun _=>?_) (fun e=>absurd (h1.holder.trans h2.holder.symm) e)
 have kb:Keep m (bump m 2):=(Keep.refl hw).bump
 refine eqInts_ok kb.wf (h1.queue.keep hw kb) (h2.queue.keep hw kb) (by rw [← h1.queue.1]; exact hn) fun m' k=>⟨_,rfl,?_⟩
 rw [splitB_true]
 rw [show (v.dead == v'.dead)=true by rw [h1.dead,h2.dead]; exact beq_self_eq_true _]
 exact h m' (kb.trans k)
theorem eqLocks_ok {sl sl':List LV} {l:List pm.Lock} (hw:Wf m) (h1:Arr encL 4 m a n sl) (r1:All2 (RdLock m) sl l) (h2:Arr encL 4 m a' n' sl') (r2:All2 (RdLock m) sl' l) (hn:n≤1000) (hj:∀ x∈l,x.queue.length≤1000) (h:∀ m',Keep m m'→Q (.bool true) m'):CallV cx n_slices_EqualFunc_sl_model_Lock [.slice a n c,.slice a' n' c',.func (.func n_model_sameLock) #[] #[]] m Q:=by
 apply G_slices_EqualFunc_sl_model_Lock_ok; unfold G_slices_EqualFunc_sl_model_Lock
 have e:n=n':=by rw [← h1.1,← h2.1,r1.len,r2.len]
 subst e
 refine split_ne (fun hne=>absurd rfl hne) (fun _=>?_)
 refine forN (show n≤4611686018427387904 by omega) (fun k mm=>Keep m mm) (Keep.refl hw) ?_
 intro k m1 hk k1 I w hI
 refine split_lt (fun hlt=>?_) (fun hge=>h m1 k1)
 obtain ⟨x,hx⟩:∃ x,l[k]? = some x:=⟨_,List.getElem?_eq_getElem (by rw [← r1.len,h1.1]; exact hlt)⟩
 obtain ⟨v,hv,hR⟩:=r1.get' hx
 obtain ⟨v',hv',hR'⟩:=r2.get' hx
 have k2:Keep m (bump m1 2):=k1.bump
 refine (h1.keep hw k1).open (k:=k) hv fun b o hc=>⟨_,hc 0 _ rfl,_,hc 1 _ rfl,_,_,_,hc 2 _ rfl,_,hc 3 _ rfl,?_⟩
 refine (h2.keep hw (k1.bump (n:=1))).open (k:=k) hv' fun b o hc=>⟨_,hc 0 _ rfl,_,hc 1 _ rfl,_,_,_,hc 2 _ rfl,_,hc 3 _ rfl,?_⟩
 exact sameLock_ok k2.wf (hR.keep hw k2) (hR'.keep hw k2) (hj x (List.mem_of_getElem? hx)) fun m' k'=>⟨_,rfl,hI _ hlt (k2.trans k')⟩
theorem same_ok {M' now':Int} (hw:Wf m) (h1:RdSt cx m M now a1 n1 a2 n2 a3 n3 c3 σ) (h2:RdSt cx m M' now' b1 n4 b2 n5 b3 n6 d3 σ) (hI:pm.Iv B σ) (h:∀ m',Keep m m'→Q (.bool true) m') :
  CallV cx n_model_Same [.agg #[.int .i64 M,.int .i64 now,.slice a1 n1 c1,.slice a2 n2 c2,.slice a3 n3 c3],.agg #[.int .i64 M',.int .i64 now',.slice b1 n4 d1,.slice b2 n5 d2,.slice b3 n6 d3]] m Q:=by
 apply G_model_Same_ok; unfold G_model_Same
 have z1:=hI.len1
 have z2:=hI.len2
 have z3:=hI.len3
 have e1:=h1.len1
 have e2:=h1.len2
 have e3:=h1.len3
 refine split_eq (fun _=>?_) (fun e=>absurd (h1.em.trans h2.em.symm) e)
 refine split_eq (fun _=>?_) (fun e=>absurd (h1.enow.trans h2.enow.symm) e)
 have kb:Keep m (bump m 2):=(Keep.refl hw).bump
 obtain ⟨sl,q1,q2⟩:=(h1.keep hw kb).servs
 obtain ⟨sl',q1',q2'⟩:=(h2.keep hw kb).servs
 refine eqServs_ok kb.wf q1 q2 q1' q2' (by omega) (fun x hx=>⟨by have:=(hI.serv x hx).len; omega,fun j hj=>by have:=(pm.pGood_iff.1 ((hI.serv x hx).jobs j hj).good.prog).2.1; omega⟩) fun m3 k3=>⟨_,rfl,?_⟩
 rw [splitB_true]
 have k03:=kb.trans k3
 obtain ⟨ll,p1,p2⟩:=(h1.keep hw k03).sems
 obtain ⟨ll',p1',p2'⟩:=(h2.keep hw k03).sems
 refine eqLocks_ok k03.wf p1 p2 p1' p2' (by omega) (fun l hl=>by have:=iv_queue hI.toIw hl; omega) fun m4 k4=>⟨_,rfl,?_⟩
 rw [splitB_true]
 have k04:=k03.trans k4
 refine eqBacks_ok k04.wf (h1.keep hw k04).backs (h2.keep hw k04).backs (by omega) fun m5 k5=>⟨_,rfl,h m5 (k04.trans k5)⟩
theorem mOdd_ok {x:Int} (hw:Wf m) (h:∀ m',Keep m m'→Q (.bool (pm.mOdd x)) m'):CallV cx n_model_New_1 [.int .i64 x] m Q:=by
 apply G_model_New_1_ok; unfold G_model_New_1
 refine split_b (fun h1=>?_) (fun h1=>?_)
 ·exact leaf h (Keep.refl hw) (by unfold pm.mOdd; rw [h1]; rfl)
 ·exact leaf h (Keep.refl hw) (by unfold pm.mOdd; rw [h1]; rfl)
theorem idxM_ok {l:List Int} (hw:Wf m) (ha:Arr encI 1 m a n l) (hn:n≤4611686018427387904)
  (h:∀ m',Keep m m'→Q (.int .i64 (match l.findIdx? pm.mOdd with | some i=>(i:Int) | none=>-1)) m'):CallV cx n_slices_IndexFunc_sl_int64 [.slice a n c,.func (.func n_model_New_1) #[] #[]] m Q:=by
 apply G_slices_IndexFunc_sl_int64_ok; unfold G_slices_IndexFunc_sl_int64
 refine forN hn (fun k mm=>Keep m mm∧∀ x∈l.take k,pm.mOdd x=false) ⟨Keep.refl hw,by simp⟩ ?_
 rintro k m1 hk ⟨k1,hno⟩ I w hI
 refine split_lt (fun hlt=>?_) (fun hge=>?_)
 ·obtain ⟨x,hx⟩:∃ x,l[k]? = some x:=⟨_,List.getElem?_eq_getElem (by rw [ha.1]; exact hlt)⟩
  have hkl:=(List.getElem?_eq_some_iff.1 hx).1
  refine (ha.keep hw k1).open (k:=k) hx fun b o hc=>⟨_,hc 0 _ rfl,?_⟩
  refine mOdd_ok k1.wf fun m2 k2=>⟨_,rfl,?_⟩
  refine split_b (fun ht=>?_) (fun ht=>?_)
  ·have e:l.findIdx? pm.mOdd=some k:=by
    rw [List.findIdx?_eq_some_iff_getElem]
    refine ⟨hkl,by rw [← (List.getElem?_eq_some_iff.1 hx).2] at ht; exact ht,fun j hj=>?_⟩
    have:=hno l[j] (List.mem_of_getElem? (i:=j) (by rw [List.getElem?_take,if_pos hj,List.getElem?_eq_getElem (by omega)]))
    rw [this]; simp
   have:=h m2 (k1.trans k2)
   rw [e] at this
   exact this
  ·refine hI m2 hlt ⟨k1.trans k2,fun y hy=>?_⟩
   rw [List.take_add_one,hx] at hy
   rcases List.mem_append.1 hy with hy | hy
   ·exact hno y hy
   ·simp at hy; subst hy; exact ht
 ·have e:l.findIdx? pm.mOdd=none:=by
   rw [List.findIdx?_eq_none_iff]
   intro y hy
   rw [← List.take_of_length_le (l:=l) (i:=k) (by rw [ha.1]; exact hge)] at hy
   exact hno y hy
  have:=h m1 k1
  rw [e] at this
  exact this
theorem all2_map {α β γ : Type} {R:α→β→Prop} {f:γ→α} {g:γ→β} (h:∀ x,R (f x) (g x)):∀ l:List γ,All2 R (l.map f) (l.map g)
 | []=>.nil
 | x :: r=>.cons (h x) (all2_map h r)
theorem new_ok {cpus:Int} {most:List Int} (hw:Wf m) (ha:Arr encI 1 m a n most)
  (h0:∀ m',Keep m m'→(pm.new cpus most).2≠0→pm.new cpus most=(⟨0,0,[],[],[]⟩,1)→Q (.tuple #[.agg #[.int .i64 0,.int .i64 0,.slice none 0 0,.slice none 0 0,.slice none 0 0],.int .i64 1]) m')
  (h1:∀ m' b2 d2,Keep m m'→(pm.new cpus most).2=0→RdSt cx m' cpus 0 none 0 b2 n none 0 0 (pm.new cpus most).1→Q (.tuple #[.agg #[.int .i64 cpus,.int .i64 0,.slice none 0 0,.slice b2 n d2,.slice none 0 0],.int .i64 0]) m') :
  CallV cx n_model_New [.int .i64 cpus,.slice a n c] m Q:=by
 apply G_model_New_ok; unfold G_model_New
 have hlm:most.length=n:=ha.1
 have en:pm.new cpus most=bif (ltI cpus 1 || (ltI 64 cpus || (ltI 8 (lenI n) || most.any pm.mOdd))) then (⟨0,0,[],[],[]⟩,1) else (⟨cpus,0,[],most.map fun n=>⟨n,0,[],false⟩,[]⟩,0):=by unfold pm.new; rw [hlm]
 refine joinK_of' (fun f:Bool→Mem→Prop=>∀ b mm,Keep m mm→b=(ltI cpus 1 || (ltI 64 cpus || (ltI 8 (lenI n) || most.any pm.mOdd)))→f b mm) ?_ ?_
 ·rintro b mm k rfl
  refine split_b (fun hb=>?_) (fun hb=>?_)
  ·rw [hb,cond_true] at en
   exact h0 mm k (by rw [en]; simp) en
  ·rw [hb,cond_false] at en
   rw [en] at h1
   simp only [Bool.or_eq_false_iff,ltI_false,pm.len_eq] at hb
   have hn8:n≤8:=by have:=hb.2.2.1; unfold lenI at this; omega
   refine ⟨fun x31 xc xc1 ac nc cc a2 n2 c2 a5 n5 c5 m2 w=>∃ k:Nat,x31=(k:Int)∧k≤n∧w=n - k∧xc=cpus∧xc1=0∧ac=none∧nc=0∧cc=0∧a5=none∧n5=0∧c5=0∧n2=k∧Acc m m2 a2 n2 c2 4 t_model_Lock (((most.take k).map fun x=>(⟨x,0,none,0,0,false⟩:LV)).flatMap encL),⟨n,0,rfl,Nat.zero_le _,rfl,rfl,rfl,rfl,rfl,rfl,rfl,rfl,rfl,rfl,by simpa using Acc.nil k.bump _ _⟩,?_⟩
   rintro x31 xc xc1 ac nc cc a2 n2 c2 a5 n5 c5 m2 w ⟨k',rfl,hk,rfl,rfl,rfl,rfl,rfl,rfl,rfl,rfl,rfl,rfl,hacc⟩
   refine split_lt (fun hlt=>?_) (fun hge=>?_)
   ·obtain ⟨x,hx⟩:∃ x,most[n2]? = some x:=⟨_,List.getElem?_eq_getElem (by omega)⟩
    refine (ha.keep hw hacc.keep).open (k:=n2) hx fun b o hc=>⟨_,hc 0 _ rfl,?_⟩
    rw [mBind_iff]
    obtain ⟨m4,q1,q2,q3,q4,q5⟩:=hacc.push (cx:=cx) (t:=t_sl_model_Lock) (vs:=encL ⟨x,0,none,0,0,false⟩) (by kernel_rfl) rfl rfl (by omega)
    refine ⟨_,_,_,m4,q1,n - (n2+1),by omega,n2+1,?_,by omega,rfl,rfl,rfl,rfl,rfl,rfl,rfl,rfl,rfl,rfl,?_⟩
    ·rw [addI_64 (by omega) (by omega)]; rfl
    ·have e:((most.take (n2+1)).map fun x=>(⟨x,0,none,0,0,false⟩:LV)).flatMap encL=((most.take n2).map fun x=>(⟨x,0,none,0,0,false⟩:LV)).flatMap encL ++ encL ⟨x,0,none,0,0,false⟩:=by
      rw [List.take_add_one,hx]
      simp
     rw [e]; exact q2
   ·obtain rfl:n2=n:=by omega
    have htk:most.take n2=most:=List.take_of_length_le (by omega)
    rw [htk] at hacc
    refine h1 m2 a2 c2 hacc.keep rfl ⟨rfl,rfl,⟨[],ArrP.nil,.nil⟩,⟨_,hacc.arr encL_len (by omega),?_⟩,ArrP.nil,Nat.le_refl _,.inl rfl⟩
    exact all2_map (fun x=>⟨rfl,rfl,rfl,ArrP.nil⟩) most
 ·intro J hJ
  have k1:Keep m (bump m 1):=(Keep.refl hw).bump
  refine split_b (fun h1=>hJ _ _ k1 (by rw [h1]; rfl)) (fun h1=>?_)
  refine split_b (fun h2=>hJ _ _ k1 (by rw [h1,h2]; rfl)) (fun h2=>?_)
  refine split_b (fun h3=>hJ _ _ k1 (by rw [h1,h2,h3]; rfl)) (fun h3=>?_)
  apply G_slices_ContainsFunc_sl_int64_ok; unfold G_slices_ContainsFunc_sl_int64
  have hn8:n≤8:=by rw [ltI_false] at h3; unfold lenI at h3; omega
  refine idxM_ok k1.wf (ha.keep hw k1) (by omega) fun m2 k2=>⟨_,rfl,_,rfl,hJ _ _ (k1.trans k2) ?_⟩
  rw [h1,h2,h3,Bool.false_or,Bool.false_or,Bool.false_or]
  exact leI_idx
end
end Go.Proofs.YtiehbnmpaeedpaaGreat.vc
namespace Go.Proofs.YtiehbnmpaeedpaaGreat.vc
open Go Go.AX
set_option linter.unusedVariables false
set_option maxRecDepth 100000
noncomputable section
def G_law_act (g f a C bC bF bA:Int) (c e d bD:Option Addr) (n b l j k i bB bE:Nat) (m:Mem) (Q:Value→Mem→Prop):Prop:=
 splitB (eqI a 0) (CallV cx n_model_Add [.agg #[.int .i64 g,.int .i64 f,.slice c n b,.slice e l j,.slice d k i],.int .i64 C,.int .i64 bC,.int .i64 bF] (bump m 3) fun bi bb=>∃ aR aP aL L T F aN aq ai R ae bd,bi=(.tuple #[.agg #[.int .i64 aR,.int .i64 aP,.slice aL L T,.slice F aN aq,.slice ai R ae],.int .i64 bd])∧Q (.agg #[.int .i64 aR,.int .i64 aP,.slice aL L T,.slice F aN aq,.slice ai R ae]) bb) (splitB (eqI a 1) (CallV cx n_model_Drop [.agg #[.int .i64 g,.int .i64 f,.slice c n b,.slice e l j,.slice d k i],.int .i64 C] (bump m 3) fun bq bc=>∃ aM aG aH aO a0 az W Y aS au av bp,bq=(.tuple #[.agg #[.int .i64 aM,.int .i64 aG,.slice aH aO a0,.slice az W Y,.slice aS au av],.int .i64 bp])∧Q (.agg #[.int .i64 aM,.int .i64 aG,.slice aH aO a0,.slice az W Y,.slice aS au av]) bc) (splitB (eqI a 2) (CallV cx n_model_Release [.agg #[.int .i64 g,.int .i64 f,.slice c n b,.slice e l j,.slice d k i],.int .i64 C,.slice bD bB bE] (bump m 3) fun a7 bf=>∃ aB Z a1 H O ab K I X aw aV bk bu bv a8,a7=(.tuple #[.agg #[.int .i64 aB,.int .i64 Z,.slice a1 H O,.slice ab K I,.slice X aw aV],.slice bk bu bv,.int .i64 a8])∧Q (.agg #[.int .i64 aB,.int .i64 Z,.slice a1 H O,.slice ab K I,.slice X aw aV]) bf) (joinK (fun (a4:Bool) (B:Mem)=>splitB a4 (CallV cx n_model_Ground [.agg #[.int .i64 g,.int .i64 f,.slice c n b,.slice e l j,.slice d k i],.int .i64 C,.bool (eqI a 3)] B fun a5 a3=>∃ ao ar M ap ac aE aW S aI a2 aU a6,a5=(.tuple #[.agg #[.int .i64 ao,.int .i64 ar,.slice M ap ac,.slice aE aW S,.slice aI a2 aU],.int .i64 a6])∧Q (.agg #[.int .i64 ao,.int .i64 ar,.slice M ap ac,.slice aE aW S,.slice aI a2 aU]) a3) (splitB (eqI a 5) (CallV cx n_model_Settle [.agg #[.int .i64 g,.int .i64 f,.slice c n b,.slice e l j,.slice d k i]] B fun bw bo=>∃ ag aF aK aX aj P an aZ aY G af bn bx bj,bw=(.tuple #[.agg #[.int .i64 ag,.int .i64 aF,.slice aK aX aj,.slice P an aZ,.slice aY G af],.slice bn bx bj])∧Q (.agg #[.int .i64 ag,.int .i64 aF,.slice aK aX aj,.slice P an aZ,.slice aY G af]) bo) (∃ D:Int→Int→Int→Option Addr→Nat→Nat→Option Addr→Nat→Nat→Option Addr→Nat→Nat→Mem→Nat→Prop,(∃ bz:Nat,D 0 g f c n b e l j d k i B bz)∧∀ u w t v s o q A x p z y r V,D u w t v s o q A x p z y r V→(joinK (fun (a9:Mem)=>(CallV cx n_model_Tick [.agg #[.int .i64 w,.int .i64 t,.slice v s o,.slice q A x,.slice p z y]] a9 fun bl br=>∃ ay aa aC U ax aD ak aA N ad aT be bt bg ba,bl=(.tuple #[.agg #[.int .i64 ay,.int .i64 aa,.slice aC U ax,.slice aD ak aA,.slice N ad aT],.slice be bt bg,.int .i64 ba])∧∃ E:Nat,E < V∧D (addI .i64 u 1) ay aa aC U ax aD ak aA N ad aT br E)) fun bs=>splitB (ltI u bA) (splitB (ltI u 60) (bs r) (Q (.agg #[.int .i64 w,.int .i64 t,.slice v s o,.slice q A x,.slice p z y]) r)) (Q (.agg #[.int .i64 w,.int .i64 t,.slice v s o,.slice q A x,.slice p z y]) r))))) fun al=>splitB (eqI a 3) (al true (bump m 3)) (al (eqI a 4) (bump m 3)))))
theorem G_law_act_ok {g f a C bC bF bA:Int} {c e d bD:Option Addr} {n b l j k i bB bE:Nat} {m:Mem} {Q:Value→Mem→Prop} (h:G_law_act g f a C bC bF bA c e d bD n b l j k i bB bE m Q):CallV cx n_law_act [.agg #[.int .i64 g,.int .i64 f,.slice c n b,.slice e l j,.slice d k i],.agg #[.int .i64 a,.int .i64 C,.int .i64 bC,.int .i64 bF,.int .i64 bA,.slice bD bB bE]] m Q:=
 CallV.of (fn:=Tryz.f21) (LS:=[2,3,4]) (ann:=[none,none,none,none,none,none,some ⟨[7],[(58,.bool)],[(2,0,0),(3,1,0),(4,2,0)],[0,1,2],[],3⟩,none,none,none,some ⟨[],[(5,.int .i64),(81,.int .i64),(82,.int .i64),(83,.sl),(84,.sl),(85,.sl)],[(2,0,0),(3,1,0),(4,2,0)],[1,2],[(0,[81,82,83,84,85])],4⟩,some ⟨[5],[],[(2,0,0),(3,1,0),(4,2,0)],[0,1,2],[],5⟩]) ovFr ovNi (by kernel_rfl) (by kernel_rfl) (Eq.mp (by kernel_rfl) h)
def G_law_ModelApart (b0 cM cD cN cK cL:Int) (b8 C bF:Option Addr) (b3 co u cO ai cp:Nat) (m:Mem) (Q:Value→Mem→Prop):Prop:=
 CallV cx n_law_awake [] (bump m 1) fun bp V=>∃ aE,bp=(.bool aE)∧splitB (!aE) (Q (.bool false) V) (CallV cx n_model_New [.int .i64 b0,.slice b8 b3 co] V fun a9 bD=>∃ a4 aY aU a5 R Z aw aR ag aT ab aP,a9=(.tuple #[.agg #[.int .i64 a4,.int .i64 aY,.slice aU a5 R,.slice Z aw aR,.slice ag aT ab],.int .i64 aP])∧(CallV cx n_model_New [.int .i64 b0,.slice b8 b3 co] (bump bD 1) fun bC v=>∃ aM ay ac a7 ap ad L an a1 aZ X a8,bC=(.tuple #[.agg #[.int .i64 aM,.int .i64 ay,.slice ac a7 ap,.slice ad L an,.slice a1 aZ X],.int .i64 a8])∧(joinK (fun (b1:Mem)=>∃ H:Int→Int→Int→Option Addr→Nat→Nat→Option Addr→Nat→Nat→Option Addr→Nat→Nat→Int→Int→Option Addr→Nat→Nat→Option Addr→Nat→Nat→Option Addr→Nat→Nat→Mem→Nat→Prop,(∃ cE:Nat,H 0 a4 aY aU a5 R Z aw aR ag aT ab aM ay ac a7 ap ad L an a1 aZ X b1 cE)∧∀ a o j l k d p n f c i g x z G D E A w F y B I e aL,H a o j l k d p n f c i g x z G D E A w F y B I e aL→splitB (ltI a (lenI u)) (joinK (fun (b:Mem)=>(0≤a∧a < ((u:Nat):Int))∧(vPtr C fun t q=>∃ aC,rd (bump b 14) t (q+Int.toNat a*6)=some (.int .i64 aC)∧∃ a2,rd (bump b 14) t (q+Int.toNat a*6+1)=some (.int .i64 a2)∧∃ aX,rd (bump b 14) t (q+Int.toNat a*6+2)=some (.int .i64 aX)∧∃ aO,rd (bump b 14) t (q+Int.toNat a*6+3)=some (.int .i64 aO)∧∃ S,rd (bump b 14) t (q+Int.toNat a*6+4)=some (.int .i64 S)∧∃ W av U,rd (bump b 14) t (q+Int.toNat a*6+5)=some (.slice W av U)∧(CallV cx n_law_act [.agg #[.int .i64 o,.int .i64 j,.slice l k d,.slice p n f,.slice c i g],.agg #[.int .i64 aC,.int .i64 a2,.int .i64 aX,.int .i64 aO,.int .i64 S,.slice W av U]] (setFl (bump b 14) b.nx) fun bX bM=>∃ aI aB aq aF ar K N aH au aN aW,bX=(.agg #[.int .i64 aI,.int .i64 aB,.slice aq aF ar,.slice K N aH,.slice au aN aW])∧(0≤a∧a < ((u:Nat):Int))∧(vPtr C fun r s=>∃ ae,rd (bump b 14) r (s+Int.toNat a*6)=some (.int .i64 ae)∧∃ a6,rd (bump b 14) r (s+Int.toNat a*6+1)=some (.int .i64 a6)∧∃ af,rd (bump b 14) r (s+Int.toNat a*6+2)=some (.int .i64 af)∧∃ a3,rd (bump b 14) r (s+Int.toNat a*6+3)=some (.int .i64 a3)∧∃ M,rd (bump b 14) r (s+Int.toNat a*6+4)=some (.int .i64 M)∧∃ aS ak aG,rd (bump b 14) r (s+Int.toNat a*6+5)=some (.slice aS ak aG)∧(CallV cx n_law_act [.agg #[.int .i64 x,.int .i64 z,.slice G D E,.slice A w F,.slice y B I],.agg #[.int .i64 ae,.int .i64 a6,.int .i64 af,.int .i64 a3,.int .i64 M,.slice aS ak aG]] (setFl bM (bump b 14).fl) fun bi bx=>∃ aD Y ax aa aK ao al az aj T aA,bi=(.agg #[.int .i64 aD,.int .i64 Y,.slice ax aa aK,.slice ao al az,.slice aj T aA])∧∃ O:Nat,O < aL∧H (addI .i64 a 1) aI aB aq aF ar K N aH au aN aW aD Y ax aa aK ao al az aj T aA bx O))))) fun cr=>(0≤a∧a < ((u:Nat):Int))∧(vPtr C fun b7 cB=>∃ b2 aV cH,rd e b7 (cB+Int.toNat a*6+5)=some (.slice b2 aV cH)∧splitB (ltI 12 (lenI aV)) (Q (.bool true) e) ((0≤a∧a < ((u:Nat):Int))∧(vPtr C fun bZ cv=>∃ a0,rd e bZ (cv+Int.toNat a*6+4)=some (.int .i64 a0)∧splitB (ltI 30 a0) (Q (.bool true) e) (cr e))))) (CallV cx n_law_act [.agg #[.int .i64 o,.int .i64 j,.slice l k d,.slice p n f,.slice c i g],.agg #[.int .i64 cM,.int .i64 cD,.int .i64 cN,.int .i64 cK,.int .i64 cL,.slice bF ai cp]] e fun ci b5=>∃ b4 bg cw cI cf cz cn cF bb bR cg,ci=(.agg #[.int .i64 b4,.int .i64 bg,.slice cw cI cf,.slice cz cn cF,.slice bb bR cg])∧(CallV cx n_model_Settle [.agg #[.int .i64 o,.int .i64 j,.slice l k d,.slice p n f,.slice c i g]] b5 fun bv cs=>∃ b9 cq bd bq bk bI cj ce bS cu cC bG cy bs,bv=(.tuple #[.agg #[.int .i64 b9,.int .i64 cq,.slice bd bq bk,.slice bI cj ce,.slice bS cu cC],.slice bG cy bs])∧(CallV cx n_model_Tick [.agg #[.int .i64 o,.int .i64 j,.slice l k d,.slice p n f,.slice c i g]] cs fun bW bL=>∃ bc ba bO bK br ct bE bt ck bY be bu ca bn bz,bW=(.tuple #[.agg #[.int .i64 bc,.int .i64 ba,.slice bO bK br,.slice ct bE bt,.slice ck bY be],.slice bu ca bn,.int .i64 bz])∧(CallV cx n_model_Release [.agg #[.int .i64 o,.int .i64 j,.slice l k d,.slice p n f,.slice c i g],.int .i64 cD,.slice bF ai cp] bL fun cc cd=>∃ bV cA cb cG bH bA b6 bU bf bo bB bj bP cl bl,cc=(.tuple #[.agg #[.int .i64 bV,.int .i64 cA,.slice cb cG bH,.slice bA b6 bU,.slice bf bo bB],.slice bj bP cl,.int .i64 bl])∧(CallV cx n_model_Same [.agg #[.int .i64 o,.int .i64 j,.slice l k d,.slice p n f,.slice c i g],.agg #[.int .i64 x,.int .i64 z,.slice G D E,.slice A w F,.slice y B I]] cd fun bT bw=>∃ P,bT=(.bool P)∧Q (.bool P) bw)))))) fun bN=>splitB (neI aP 0) (Q (.bool true) (bump v 1)) (splitB (ltI 15 (lenI u)) (Q (.bool true) (bump v 1)) (splitB (ltI 12 (lenI ai)) (Q (.bool true) (bump v 1)) (bN (bump v 1)))))))
theorem G_law_ModelApart_ok {b0 cM cD cN cK cL:Int} {b8 C bF:Option Addr} {b3 co u cO ai cp:Nat} {m:Mem} {Q:Value→Mem→Prop} (h:G_law_ModelApart b0 cM cD cN cK cL b8 C bF b3 co u cO ai cp m Q):CallV cx n_law_ModelApart [.int .i64 b0,.slice b8 b3 co,.slice C u cO,.agg #[.int .i64 cM,.int .i64 cD,.int .i64 cN,.int .i64 cK,.int .i64 cL,.slice bF ai cp]] m Q:=
 CallV.of (fn:=Tryz.f9) (LS:=[7,9,11]) (ann:=[none,none,none,none,none,none,some ⟨[2],[],[(7,0,0),(9,1,0),(11,3,0)],[0,1,3],[],5⟩,none,none,none,none,some ⟨[2],[(13,.int .i64),(94,.int .i64),(95,.int .i64),(96,.sl),(97,.sl),(98,.sl),(99,.int .i64),(100,.int .i64),(101,.sl),(102,.sl),(103,.sl)],[(7,0,0),(9,1,0),(11,3,0)],[0],[(1,[94,95,96,97,98]),(3,[99,100,101,102,103])],6⟩,none,none,none,some ⟨[2,13],[],[(7,0,0),(9,1,0),(11,3,0)],[0,1,3],[],7⟩]) ovFr ovNi (by kernel_rfl) (by kernel_rfl) (Eq.mp (by kernel_rfl) h)
end
end Go.Proofs.YtiehbnmpaeedpaaGreat.vc
namespace Go.AX.pm
set_option linter.unusedSimpArgs false
set_option linter.unusedVariables false
set_option linter.unusedSectionVars false
open Go.AX
noncomputable section
structure Act where
 op:Int
 who:Int
 q:Int
 p:Int
 n:Int
 steps:List Step
def tickN:Nat→St→St
 | 0,s=>s
 | k+1,s=>(tick (tickN k s)).1
def act (s:St) (a:Act):St:=
 bif eqI a.op 0 then (add s a.who a.q a.p).1 else
 bif eqI a.op 1 then (drop s a.who).1 else
 bif eqI a.op 2 then (release s a.who a.steps).1 else
 bif eqI a.op 3 || eqI a.op 4 then (ground s a.who (eqI a.op 3)).1 else
 bif eqI a.op 5 then (settle s).1 else tickN (min a.n.toNat 60) s
def acts:St→List Act→St
 | s,[]=>s
 | s,a :: r=>acts (act s a) r
theorem acts_snoc:∀ (l:List Act) (s:St) (a:Act),acts s (l ++ [a])=act (acts s l) a
 | [],_,_=>rfl
 | _ :: r,s,a=>acts_snoc r _ a
theorem tickN_iv {B:Int} {σ : St} (h:Iv B σ):∀ k,Iv B (tickN k σ)∧(tickN k σ).m = σ.m∧(tickN k σ).sems.length = σ.sems.length∧σ.now≤(tickN k σ).now∧(tickN k σ).now≤σ.now+k
 | 0=>⟨h,rfl,rfl,Int.le_refl _,by show σ.now≤_; omega⟩
 | k+1=>by
  obtain ⟨a,b,c,d,e⟩:=tickN_iv h k
  obtain ⟨a',b',c',d',_⟩:=tick_iv a
  refine ⟨a',b'.trans b,c'.trans c,?_,?_⟩
  ·show _≤(tick (tickN k σ)).1.now
   rw [d']; split <;> omega
  ·show (tick (tickN k σ)).1.now≤_
   rw [d']; split <;> omega
theorem settle_now' {B:Int} {σ : St} (h:Iv B σ):(settle σ).1.now = σ.now:=(settle_now h).1
theorem act_iv {B:Int} {σ : St} (h:Iv B σ) (hB:0≤B) (hB2:B < 4611686018427387904) (a:Act):Iv (B+1) (act σ a)∧(act σ a).m = σ.m∧σ.now≤(act σ a).now∧(act σ a).now≤σ.now+60:=by
 unfold act
 cases eqI a.op 0 with
 | true=>
  obtain ⟨x,y,z,_⟩:=add_iv h hB a.who a.q a.p
  exact ⟨x.mono (by omega),y,by show _≤(add σ a.who a.q a.p).1.now; rw [z]; exact Int.le_refl _,by show (add σ a.who a.q a.p).1.now≤_; rw [z]; omega⟩
 | false=>
 cases eqI a.op 1 with
 | true=>
  obtain ⟨x,y,z,_⟩:=drop_iv h a.who
  exact ⟨x.mono (by omega),y,by show _≤(drop σ a.who).1.now; rw [z]; exact Int.le_refl _,by show (drop σ a.who).1.now≤_; rw [z]; omega⟩
 | false=>
 cases eqI a.op 2 with
 | true=>
  obtain ⟨x,y,z,_⟩:=release_iv h hB2 a.who a.steps
  exact ⟨x,y,by show _≤(release σ a.who a.steps).1.now; rw [z]; exact Int.le_refl _,by show (release σ a.who a.steps).1.now≤_; rw [z]; omega⟩
 | false=>
 cases (eqI a.op 3 || eqI a.op 4) with
 | true=>
  obtain ⟨x,y,z,_⟩:=ground_iv h a.who (eqI a.op 3)
  exact ⟨x.mono (by omega),y,by show _≤(ground σ a.who (eqI a.op 3)).1.now; rw [z]; exact Int.le_refl _,by show (ground σ a.who (eqI a.op 3)).1.now≤_; rw [z]; omega⟩
 | false=>
 cases eqI a.op 5 with
 | true=>
  obtain ⟨x,y,z⟩:=settle_iv h
  have w:=settle_now' h
  exact ⟨x.mono (by omega),z,by show _≤(settle σ).1.now; rw [w]; exact Int.le_refl _,by show (settle σ).1.now≤_; rw [w]; omega⟩
 | false=>
  obtain ⟨x,y,_,z,w⟩:=tickN_iv h (min a.n.toNat 60)
  exact ⟨x.mono (by omega),y,z,by
   show (tickN (min a.n.toNat 60) σ).now≤_
   have:min a.n.toNat 60≤60:=Nat.min_le_right _ _
   omega⟩
theorem acts_iv:∀ (l:List Act) {B:Int} {σ : St},Iv B σ→0≤B→B+l.length < 4611686018427387904→Iv (B+l.length) (acts σ l)∧(acts σ l).m = σ.m∧σ.now≤(acts σ l).now∧(acts σ l).now≤σ.now+60*l.length
 | [],B,σ,h,_,_=>⟨h.mono (by simp),rfl,Int.le_refl _,by show σ.now≤_; simp⟩
 | a :: r,B,σ,h,h0,hB=>by
  simp only [List.length_cons] at hB ⊢
  obtain ⟨x,y,z,w⟩:=act_iv h h0 (by omega) a
  obtain ⟨x',y',z',w'⟩:=acts_iv r x (by omega) (by omega)
  refine ⟨x'.mono (by omega),y'.trans y,?_,?_⟩
  ·show _≤(acts (act σ a) r).now; omega
  ·show (acts (act σ a) r).now≤_; omega
end
end Go.AX.pm
