import Derived.Test.YtiehbnmpaeedpaaGreatQR51
import Derived.Test.YtiehbnmpaeedpaaGreatQR41
import Derived.KernelRfl
namespace Go.Proofs.YtiehbnmpaeedpaaGreat.vc
open Go Go.AX
set_option linter.unusedVariables false
set_option linter.unusedSimpArgs false
set_option linter.unusedSectionVars false
section
variable {B:Int} {m:Mem} {Q:Value→Mem→Prop} {M now:Int} {a a' a1 a2 a3 b1 b2 b3:Option Addr} {n n' c c' n1 c1 n2 c2 n3 c3 n4 n5 n6 d1 d2 d3:Nat} {σ : pm.St}
noncomputable def andO (a b:Option Bool):Option Bool:=match a with
 | some true=>b
 | some false=>some false
 | none=>none
theorem eqP_raw (x y x' y':Int) (m:Mem):eqV cx m 40 t_prog_Step (.agg #[.int .i64 x,.int .i64 y]) (.agg #[.int .i64 x',.int .i64 y'])=andO (some (decide (x=x'))) (andO (some (decide (y=y'))) (some true)):=by kernel_rfl
theorem eqB_raw (x y x' y':Int) (m:Mem):eqV cx m 40 t_model_Back (.agg #[.int .i64 x,.int .i64 y]) (.agg #[.int .i64 x',.int .i64 y'])=andO (some (decide (x=x'))) (andO (some (decide (y=y'))) (some true)):=by kernel_rfl
theorem eqC_raw (x y z u w x' y' z' u' w':Int) (m:Mem):eqV cx m 40 t_cbs_Server (.agg #[.int .i64 x,.int .i64 y,.int .i64 z,.int .i64 u,.int .i64 w]) (.agg #[.int .i64 x',.int .i64 y',.int .i64 z',.int .i64 u',.int .i64 w'])=andO (some (decide (x=x'))) (andO (some (decide (y=y'))) (andO (some (decide (z=z'))) (andO (some (decide (u=u'))) (andO (some (decide (w=w'))) (some true))))):=by kernel_rfl
theorem dec_self (x:Int):decide (x=x)=true:=decide_eq_true rfl
theorem eqProg_ok {l:List pm.Step} (hw:Wf m) (h1:Arr encP 2 m a n l) (h2:Arr encP 2 m a' n' l) (hn:n≤1000) (h:∀ m',Keep m m'→Q (.bool true) m'):CallV cx n_slices_Equal_prog_Prog [.slice a n c,.slice a' n' c'] m Q:=by
 apply G_slices_Equal_prog_Prog_ok; unfold G_slices_Equal_prog_Prog
 have e:n=n':=by rw [← h1.1,← h2.1]
 subst e
 refine split_ne (fun hne=>absurd rfl hne) (fun _=>?_)
 refine forN (show n≤4611686018427387904 by omega) (fun k mm=>Keep m mm) (Keep.refl hw) ?_
 intro k m1 hk k1 I w hI
 refine split_lt (fun hlt=>?_) (fun hge=>h m1 k1)
 obtain ⟨x,hx⟩:∃ x,l[k]? = some x:=⟨_,List.getElem?_eq_getElem (by rw [h1.1]; exact hlt)⟩
 have kb:Keep m (bump m1 9):=k1.bump
 refine (h1.keep hw kb).open (k:=k) hx fun b o hc=>⟨_,hc 0 _ rfl,_,hc 1 _ rfl,?_⟩
 refine (h2.keep hw kb).open (k:=k) hx fun b o hc=>⟨_,hc 0 _ rfl,_,hc 1 _ rfl,?_⟩
 refine ⟨true,by rw [eqP_raw]; simp only [dec_self]; rfl,?_⟩
 exact hI _ hlt kb
theorem eqInts_ok {l:List Int} (hw:Wf m) (h1:Arr encI 1 m a n l) (h2:Arr encI 1 m a' n' l) (hn:n≤1000) (h:∀ m',Keep m m'→Q (.bool true) m'):CallV cx n_slices_Equal_sl_int [.slice a n c,.slice a' n' c'] m Q:=by
 apply G_slices_Equal_sl_int_ok; unfold G_slices_Equal_sl_int
 have e:n=n':=by rw [← h1.1,← h2.1]
 subst e
 refine split_ne (fun hne=>absurd rfl hne) (fun _=>?_)
 refine forN (show n≤4611686018427387904 by omega) (fun k mm=>Keep m mm) (Keep.refl hw) ?_
 intro k m1 hk k1 I w hI
 refine split_lt (fun hlt=>?_) (fun hge=>h m1 k1)
 obtain ⟨x,hx⟩:∃ x,l[k]? = some x:=⟨_,List.getElem?_eq_getElem (by rw [h1.1]; exact hlt)⟩
 have kb:Keep m (bump m1 9):=k1.bump
 refine (h1.keep hw kb).open (k:=k) hx fun b o hc=>⟨_,hc 0 _ rfl,?_⟩
 refine (h2.keep hw kb).open (k:=k) hx fun b o hc=>⟨_,hc 0 _ rfl,?_⟩
 exact split_ne (fun hne=>absurd rfl hne) (fun _=>hI _ hlt kb)
theorem eqBacks_ok {l:List pm.Back} (hw:Wf m) (h1:Arr encB 2 m a n l) (h2:Arr encB 2 m a' n' l) (hn:n≤1000) (h:∀ m',Keep m m'→Q (.bool true) m'):CallV cx n_slices_Equal_sl_model_Back [.slice a n c,.slice a' n' c'] m Q:=by
 apply G_slices_Equal_sl_model_Back_ok; unfold G_slices_Equal_sl_model_Back
 have e:n=n':=by rw [← h1.1,← h2.1]
 subst e
 refine split_ne (fun hne=>absurd rfl hne) (fun _=>?_)
 refine forN (show n≤4611686018427387904 by omega) (fun k mm=>Keep m mm) (Keep.refl hw) ?_
 intro k m1 hk k1 I w hI
 refine split_lt (fun hlt=>?_) (fun hge=>h m1 k1)
 obtain ⟨x,hx⟩:∃ x,l[k]? = some x:=⟨_,List.getElem?_eq_getElem (by rw [h1.1]; exact hlt)⟩
 have kb:Keep m (bump m1 9):=k1.bump
 refine (h1.keep hw kb).open (k:=k) hx fun b o hc=>⟨_,hc 0 _ rfl,_,hc 1 _ rfl,?_⟩
 refine (h2.keep hw kb).open (k:=k) hx fun b o hc=>⟨_,hc 0 _ rfl,_,hc 1 _ rfl,?_⟩
 refine ⟨true,by rw [eqB_raw]; simp only [dec_self]; rfl,?_⟩
 exact hI _ hlt kb
theorem sameJob_ok {v v':JV} {j:pm.Job} (hw:Wf m) (h1:RdJob m v j) (h2:RdJob m v' j) (hn:j.prog.length≤1000) (h:∀ m',Keep m m'→Q (.bool true) m'):CallV cx n_model_sameJob [.agg #[.int .i64 v.num,.slice v.pa v.pn v.pc,.int .i64 v.at_,.int .i64 v.done],.agg #[.int .i64 v'.num,.slice v'.pa v'.pn v'.pc,.int .i64 v'.at_,.int .i64 v'.done]] m Q:=by
 apply G_model_sameJob_ok; unfold G_model_sameJob
 refine split_eq (fun _=>?_) (fun e=>absurd (h1.num.trans h2.num.symm) e)
 refine split_eq (fun _=>?_) (fun e=>absurd (h1.at_.trans h2.at_.symm) e)
 refine split_eq (fun _=>?_) (fun e=>absurd (h1.done.trans h2.done.symm) e)
 have kb:Keep m (bump m 2):=(Keep.refl hw).bump
 exact eqProg_ok kb.wf (h1.prog.keep hw kb) (h2.prog.keep hw kb) (by rw [← h1.prog.1]; exact hn) fun m' k=>⟨_,rfl,h m' (kb.trans k)⟩
theorem eqJobs_ok {jl jl':List JV} {l:List pm.Job} (hw:Wf m) (h1:Arr encJ 4 m a n jl) (r1:All2 (RdJob m) jl l) (h2:Arr encJ 4 m a' n' jl') (r2:All2 (RdJob m) jl' l) (hn:n≤1000) (hp:∀ j∈l,j.prog.length≤1000) (h:∀ m',Keep m m'→Q (.bool true) m'):CallV cx n_slices_EqualFunc_sl_job_Job [.slice a n c,.slice a' n' c',.func (.func n_model_sameJob) #[] #[]] m Q:=by
 apply G_slices_EqualFunc_sl_job_Job_ok; unfold G_slices_EqualFunc_sl_job_Job
 have e:n=n':=by rw [← h1.1,← h2.1,r1.len,r2.len]
 subst e
 refine split_ne (fun hne=>absurd rfl hne) (fun _=>?_)
 refine forN (show n≤4611686018427387904 by omega) (fun k mm=>Keep m mm) (Keep.refl hw) ?_
 intro k m1 hk k1 I w hI
 refine split_lt (fun hlt=>?_) (fun hge=>h m1 k1)
 obtain ⟨x,hx⟩:∃ x,l[k]? = some x:=⟨_,List.getElem?_eq_getElem (by rw [← r1.len,h1.1]; exact hlt)⟩
 obtain ⟨v,hv,hR⟩:=r1.get' hx
 obtain ⟨v',hv',hR'⟩:=r2.get' hx
 have k2:Keep m (bump m1 2):=k1.bump
 refine (h1.keep hw k1).open (k:=k) hv fun b o hc=>⟨_,hc 0 _ rfl,_,_,_,hc 1 _ rfl,_,hc 2 _ rfl,_,hc 3 _ rfl,?_⟩
 refine (h2.keep hw (k1.bump (n:=1))).open (k:=k) hv' fun b o hc=>⟨_,hc 0 _ rfl,_,_,_,hc 1 _ rfl,_,hc 2 _ rfl,_,hc 3 _ rfl,?_⟩
 exact sameJob_ok k2.wf (hR.keep hw k2) (hR'.keep hw k2) (hp x (List.mem_of_getElem? hx)) fun m' k'=>⟨_,rfl,hI _ hlt (k2.trans k')⟩
theorem sameServ_ok {v v':SV} {x:pm.Serv} (hw:Wf m) (h1:RdServ m v x) (h2:RdServ m v' x) (hn:x.jobs.length≤1000) (hp:∀ j∈x.jobs,j.prog.length≤1000) (h:∀ m',Keep m m'→Q (.bool true) m'):CallV cx n_model_sameServ [.agg #[.int .i64 v.id,.int .i64 v.s.q,.int .i64 v.s.p,.int .i64 v.s.bud,.int .i64 v.s.due,.int .i64 v.s.mode,.slice v.ja v.jn v.jc,.int .i64 v.sec,.int .i64 v.held,.int .i64 v.num,.int .i64 v.ran],.agg #[.int .i64 v'.id,.int .i64 v'.s.q,.int .i64 v'.s.p,.int .i64 v'.s.bud,.int .i64 v'.s.due,.int .i64 v'.s.mode,.slice v'.ja v'.jn v'.jc,.int .i64 v'.sec,.int .i64 v'.held,.int .i64 v'.num,.int .i64 v'.ran]] m Q:=by
 apply G_model_sameServ_ok; unfold G_model_sameServ
 refine split_eq (fun _=>?_) (fun e=>absurd (h1.id.trans h2.id.symm) e)
 have kb:Keep m (bump m 2):=(Keep.refl hw).bump
 have es:v.s=v'.s:=h1.s.trans h2.s.symm
 refine ⟨true,by rw [eqC_raw,es]; simp only [dec_self]; rfl,?_⟩
 obtain ⟨jl,q1,q2⟩:=(h1.keep hw kb).jobs
 obtain ⟨jl',q1',q2'⟩:=(h2.keep hw kb).jobs
 rw [splitB_true]
 refine eqJobs_ok kb.wf q1 q2 q1' q2' (by rw [← q1.1,q2.len]; exact hn) hp fun m' k=>⟨_,rfl,?_⟩
 rw [splitB_true]
 refine split_eq (fun _=>?_) (fun e=>absurd (h1.sec.trans h2.sec.symm) e)
 refine split_eq (fun _=>?_) (fun e=>absurd (h1.held.trans h2.held.symm) e)
 refine split_eq (fun _=>?_) (fun e=>absurd (h1.num.trans h2.num.symm) e)
 rw [show eqI v.ran v'.ran=true from eqI_true.2 (h1.ran.trans h2.ran.symm)]
 exact h m' (kb.trans k)
theorem eqServs_ok {sl sl':List SV} {l:List pm.Serv} (hw:Wf m) (h1:Arr encS 11 m a n sl) (r1:All2 (RdServ m) sl l) (h2:Arr encS 11 m a' n' sl') (r2:All2 (RdServ m) sl' l) (hn:n≤1000) (hj:∀ x∈l,x.jobs.length≤1000∧∀ j∈x.jobs,j.prog.length≤1000) (h:∀ m',Keep m m'→Q (.bool true) m'):CallV cx n_slices_EqualFunc_sl_model_Serv [.slice a n c,.slice a' n' c',.func (.func n_model_sameServ) #[] #[]] m Q:=by
 apply G_slices_EqualFunc_sl_model_Serv_ok; unfold G_slices_EqualFunc_sl_model_Serv
 have e:n=n':=by rw [← h1.1,← h2.1,r1.len,r2.len]
 subst e
 refine split_ne (fun hne=>absurd rfl hne) (fun _=>?_)
 refine forN (show n≤4611686018427387904 by omega) (fun k mm=>Keep m mm) (Keep.refl hw) ?_
 intro k m1 hk k1 I w hI
 refine split_lt (fun hlt=>?_) (fun hge=>h m1 k1)
 obtain ⟨x,hx⟩:∃ x,l[k]? = some x:=⟨_,List.getElem?_eq_getElem (by rw [← r1.len,h1.1]; exact hlt)⟩
 obtain ⟨v,hv,hR⟩:=r1.get' hx
 obtain ⟨v',hv',hR'⟩:=r2.get' hx
 have k2:Keep m (bump m1 2):=k1.bump
 refine (h1.keep hw k1).open (k:=k) hv fun b o hc=>⟨_,hc 0 _ rfl,_,hc 1 _ rfl,_,hc 2 _ rfl,_,hc 3 _ rfl,_,hc 4 _ rfl,_,hc 5 _ rfl,_,_,_,hc 6 _ rfl,_,hc 7 _ rfl,_,hc 8 _ rfl,_,hc 9 _ rfl,_,hc 10 _ rfl,?_⟩
 refine (h2.keep hw (k1.bump (n:=1))).open (k:=k) hv' fun b o hc=>⟨_,hc 0 _ rfl,_,hc 1 _ rfl,_,hc 2 _ rfl,_,hc 3 _ rfl,_,hc 4 _ rfl,_,hc 5 _ rfl,_,_,_,hc 6 _ rfl,_,hc 7 _ rfl,_,hc 8 _ rfl,_,hc 9 _ rfl,_,hc 10 _ rfl,?_⟩
 obtain ⟨j1,j2⟩:=hj x (List.mem_of_getElem? hx)
 exact sameServ_ok k2.wf (hR.keep hw k2) (hR'.keep hw k2) j1 j2 fun m' k'=>⟨_,rfl,hI _ hlt (k2.trans k')⟩
theorem sameLock_ok {v v':LV} {x:pm.Lock} (hw:Wf m) (h1:RdLock m v x) (h2:RdLock m v' x) (hn:x.queue.length≤1000) (h:∀ m',Keep m m'→Q (.bool true) m'):CallV cx n_model_sameLock [.agg #[.int .i64 v.most,.int .i64 v.holder,.slice v.qa v.qn v.qc,.bool v.dead],.agg #[.int .i64 v'.most,.int .i64 v'.holder,.slice v'.qa v'.qn v'.qc,.bool v'.dead]] m Q:=by
 apply G_model_sameLock_ok; unfold G_model_sameLock
 refine split_eq (fun _=>?_) (fun e=>absurd (h1.most.trans h2.most.symm) e)
 refine split_eq (fun _=>?_) (fun e=>absurd (h1.holder.trans h2.holder.symm) e)
 have kb:Keep m (bump m 2):=(Keep.refl hw).bump
 refine eqInts_ok kb.wf (h1.queue.keep hw kb) (h2.queue.keep hw kb) (by rw [← h1.queue.1]; exact hn) fun m' k=>⟨_,rfl,?_⟩
 rw [splitB_true]
 rw [show (v.dead == v'.dead)=true by rw [h1.dead,h2.dead]; exact beq_self_eq_true _]
 exact h m' (kb.trans k)
theorem eqLocks_ok {sl sl':List LV} {l:List pm.Lock} (hw:Wf m) (h1:Arr encL 4 m a n sl) (r1:All2 (RdLock m) sl l) (h2:Arr encL 4 m a' n' sl') (r2:All2 (RdLock m) sl' l) (hn:n≤1000) (hj:∀ x∈l,x.queue.length≤1000) (h:∀ m',Keep m m'→Q (.bool true) m'):CallV cx n_slices_EqualFunc_sl_model_Lock [.slice a n c,.slice a' n' c',.func (.func n_model_sameLock) #[] #[]] m Q:=by
 apply G_slices_EqualFunc_sl_model_Lock_ok; unfold G_slices_EqualFunc_sl_model_Lock
 have e:n=n':=by rw [← h1.1,← h2.1,r1.len,r2.len]
 subst e
 refine split_ne (fun hne=>absurd rfl hne) (fun _=>?_)
 refine forN (show n≤4611686018427387904 by omega) (fun k mm=>Keep m mm) (Keep.refl hw) ?_
 intro k m1 hk k1 I w hI
 refine split_lt (fun hlt=>?_) (fun hge=>h m1 k1)
 obtain ⟨x,hx⟩:∃ x,l[k]? = some x:=⟨_,List.getElem?_eq_getElem (by rw [← r1.len,h1.1]; exact hlt)⟩
 obtain ⟨v,hv,hR⟩:=r1.get' hx
 obtain ⟨v',hv',hR'⟩:=r2.get' hx
 have k2:Keep m (bump m1 2):=k1.bump
 refine (h1.keep hw k1).open (k:=k) hv fun b o hc=>⟨_,hc 0 _ rfl,_,hc 1 _ rfl,_,_,_,hc 2 _ rfl,_,hc 3 _ rfl,?_⟩
 refine (h2.keep hw (k1.bump (n:=1))).open (k:=k) hv' fun b o hc=>⟨_,hc 0 _ rfl,_,hc 1 _ rfl,_,_,_,hc 2 _ rfl,_,hc 3 _ rfl,?_⟩
 exact sameLock_ok k2.wf (hR.keep hw k2) (hR'.keep hw k2) (hj x (List.mem_of_getElem? hx)) fun m' k'=>⟨_,rfl,hI _ hlt (k2.trans k')⟩
theorem same_ok {M' now':Int} (hw:Wf m) (h1:RdSt cx m M now a1 n1 a2 n2 a3 n3 c3 σ) (h2:RdSt cx m M' now' b1 n4 b2 n5 b3 n6 d3 σ) (hI:pm.Iv B σ) (h:∀ m',Keep m m'→Q (.bool true) m') :
  CallV cx n_model_Same [.agg #[.int .i64 M,.int .i64 now,.slice a1 n1 c1,.slice a2 n2 c2,.slice a3 n3 c3],.agg #[.int .i64 M',.int .i64 now',.slice b1 n4 d1,.slice b2 n5 d2,.slice b3 n6 d3]] m Q:=by
 apply G_model_Same_ok; unfold G_model_Same
 have z1:=hI.len1
 have z2:=hI.len2
 have z3:=hI.len3
 have e1:=h1.len1
 have e2:=h1.len2
 have e3:=h1.len3
 refine split_eq (fun _=>?_) (fun e=>absurd (h1.em.trans h2.em.symm) e)
 refine split_eq (fun _=>?_) (fun e=>absurd (h1.enow.trans h2.enow.symm) e)
 have kb:Keep m (bump m 2):=(Keep.refl hw).bump
 obtain ⟨sl,q1,q2⟩:=(h1.keep hw kb).servs
 obtain ⟨sl',q1',q2'⟩:=(h2.keep hw kb).servs
 refine eqServs_ok kb.wf q1 q2 q1' q2' (by omega) (fun x hx=>⟨by have:=(hI.serv x hx).len; omega,fun j hj=>by have:=(pm.pGood_iff.1 ((hI.serv x hx).jobs j hj).good.prog).2.1; omega⟩) fun m3 k3=>⟨_,rfl,?_⟩
 rw [splitB_true]
 have k03:=kb.trans k3
 obtain ⟨ll,p1,p2⟩:=(h1.keep hw k03).sems
 obtain ⟨ll',p1',p2'⟩:=(h2.keep hw k03).sems
 refine eqLocks_ok k03.wf p1 p2 p1' p2' (by omega) (fun l hl=>by have:=iv_queue hI.toIw hl; omega) fun m4 k4=>⟨_,rfl,?_⟩
 rw [splitB_true]
 have k04:=k03.trans k4
 refine eqBacks_ok k04.wf (h1.keep hw k04).backs (h2.keep hw k04).backs (by omega) fun m5 k5=>⟨_,rfl,h m5 (k04.trans k5)⟩
theorem mOdd_ok {x:Int} (hw:Wf m) (h:∀ m',Keep m m'→Q (.bool (pm.mOdd x)) m'):CallV cx n_model_New_1 [.int .i64 x] m Q:=by
 apply G_model_New_1_ok; unfold G_model_New_1
 refine split_b (fun h1=>?_) (fun h1=>?_)
 ·exact leaf h (Keep.refl hw) (by unfold pm.mOdd; rw [h1]; rfl)
 ·exact leaf h (Keep.refl hw) (by unfold pm.mOdd; rw [h1]; rfl)
theorem idxM_ok {l:List Int} (hw:Wf m) (ha:Arr encI 1 m a n l) (hn:n≤4611686018427387904)
  (h:∀ m',Keep m m'→Q (.int .i64 (match l.findIdx? pm.mOdd with | some i=>(i:Int) | none=>-1)) m'):CallV cx n_slices_IndexFunc_sl_int64 [.slice a n c,.func (.func n_model_New_1) #[] #[]] m Q:=by
 apply G_slices_IndexFunc_sl_int64_ok; unfold G_slices_IndexFunc_sl_int64
 refine forN hn (fun k mm=>Keep m mm∧∀ x∈l.take k,pm.mOdd x=false) ⟨Keep.refl hw,by simp⟩ ?_
 rintro k m1 hk ⟨k1,hno⟩ I w hI
 refine split_lt (fun hlt=>?_) (fun hge=>?_)
 ·obtain ⟨x,hx⟩:∃ x,l[k]? = some x:=⟨_,List.getElem?_eq_getElem (by rw [ha.1]; exact hlt)⟩
  have hkl:=(List.getElem?_eq_some_iff.1 hx).1
  refine (ha.keep hw k1).open (k:=k) hx fun b o hc=>⟨_,hc 0 _ rfl,?_⟩
  refine mOdd_ok k1.wf fun m2 k2=>⟨_,rfl,?_⟩
  refine split_b (fun ht=>?_) (fun ht=>?_)
  ·have e:l.findIdx? pm.mOdd=some k:=by
    rw [List.findIdx?_eq_some_iff_getElem]
    refine ⟨hkl,by rw [← (List.getElem?_eq_some_iff.1 hx).2] at ht; exact ht,fun j hj=>?_⟩
    have:=hno l[j] (List.mem_of_getElem? (i:=j) (by rw [List.getElem?_take,if_pos hj,List.getElem?_eq_getElem (by omega)]))
    rw [this]; simp
   have:=h m2 (k1.trans k2)
   rw [e] at this
   exact this
  ·refine hI m2 hlt ⟨k1.trans k2,fun y hy=>?_⟩
   rw [List.take_add_one,hx] at hy
   rcases List.mem_append.1 hy with hy | hy
   ·exact hno y hy
   ·simp at hy; subst hy; exact ht
 ·have e:l.findIdx? pm.mOdd=none:=by
   rw [List.findIdx?_eq_none_iff]
   intro y hy
   rw [← List.take_of_length_le (l:=l) (i:=k) (by rw [ha.1]; exact hge)] at hy
   exact hno y hy
  have:=h m1 k1
  rw [e] at this
  exact this
theorem all2_map {α β γ : Type} {R:α→β→Prop} {f:γ→α} {g:γ→β} (h:∀ x,R (f x) (g x)):∀ l:List γ,All2 R (l.map f) (l.map g)
 | []=>.nil
 | x :: r=>.cons (h x) (all2_map h r)
theorem new_ok {cpus:Int} {most:List Int} (hw:Wf m) (ha:Arr encI 1 m a n most)
  (h0:∀ m',Keep m m'→(pm.new cpus most).2≠0→pm.new cpus most=(⟨0,0,[],[],[]⟩,1)→Q (.tuple #[.agg #[.int .i64 0,.int .i64 0,.slice none 0 0,.slice none 0 0,.slice none 0 0],.int .i64 1]) m')
  (h1:∀ m' b2 d2,Keep m m'→(pm.new cpus most).2=0→RdSt cx m' cpus 0 none 0 b2 n none 0 0 (pm.new cpus most).1→Q (.tuple #[.agg #[.int .i64 cpus,.int .i64 0,.slice none 0 0,.slice b2 n d2,.slice none 0 0],.int .i64 0]) m') :
  CallV cx n_model_New [.int .i64 cpus,.slice a n c] m Q:=by
 apply G_model_New_ok; unfold G_model_New
 have hlm:most.length=n:=ha.1
 have en:pm.new cpus most=bif (ltI cpus 1 || (ltI 64 cpus || (ltI 8 (lenI n) || most.any pm.mOdd))) then (⟨0,0,[],[],[]⟩,1) else (⟨cpus,0,[],most.map fun n=>⟨n,0,[],false⟩,[]⟩,0):=by unfold pm.new; rw [hlm]
 refine joinK_of' (fun f:Bool→Mem→Prop=>∀ b mm,Keep m mm→b=(ltI cpus 1 || (ltI 64 cpus || (ltI 8 (lenI n) || most.any pm.mOdd)))→f b mm) ?_ ?_
 ·rintro b mm k rfl
  refine split_b (fun hb=>?_) (fun hb=>?_)
  ·rw [hb,cond_true] at en
   exact h0 mm k (by rw [en]; simp) en
  ·rw [hb,cond_false] at en
   rw [en] at h1
   simp only [Bool.or_eq_false_iff,ltI_false,pm.len_eq] at hb
   have hn8:n≤8:=by have:=hb.2.2.1; unfold lenI at this; omega
   refine ⟨fun x31 xc xc1 ac nc cc a2 n2 c2 a5 n5 c5 m2 w=>∃ k:Nat,x31=(k:Int)∧k≤n∧w=n - k∧xc=cpus∧xc1=0∧ac=none∧nc=0∧cc=0∧a5=none∧n5=0∧c5=0∧n2=k∧Acc m m2 a2 n2 c2 4 t_model_Lock (((most.take k).map fun x=>(⟨x,0,none,0,0,false⟩:LV)).flatMap encL),⟨n,0,rfl,Nat.zero_le _,rfl,rfl,rfl,rfl,rfl,rfl,rfl,rfl,rfl,rfl,by simpa using Acc.nil k.bump _ _⟩,?_⟩
   rintro x31 xc xc1 ac nc cc a2 n2 c2 a5 n5 c5 m2 w ⟨k',rfl,hk,rfl,rfl,rfl,rfl,rfl,rfl,rfl,rfl,rfl,rfl,hacc⟩
   refine split_lt (fun hlt=>?_) (fun hge=>?_)
   ·obtain ⟨x,hx⟩:∃ x,most[n2]? = some x:=⟨_,List.getElem?_eq_getElem (by omega)⟩
    refine (ha.keep hw hacc.keep).open (k:=n2) hx fun b o hc=>⟨_,hc 0 _ rfl,?_⟩
    rw [mBind_iff]
    obtain ⟨m4,q1,q2,q3,q4,q5⟩:=hacc.push (cx:=cx) (t:=t_sl_model_Lock) (vs:=encL ⟨x,0,none,0,0,false⟩) (by kernel_rfl) rfl rfl (by omega)
    refine ⟨_,_,_,m4,q1,n - (n2+1),by omega,n2+1,?_,by omega,rfl,rfl,rfl,rfl,rfl,rfl,rfl,rfl,rfl,rfl,?_⟩
    ·rw [addI_64 (by omega) (by omega)]; rfl
    ·have e:((most.take (n2+1)).map fun x=>(⟨x,0,none,0,0,false⟩:LV)).flatMap encL=((most.take n2).map fun x=>(⟨x,0,none,0,0,false⟩:LV)).flatMap encL ++ encL ⟨x,0,none,0,0,false⟩:=by
      rw [List.take_add_one,hx]
      simp
     rw [e]; exact q2
   ·obtain rfl:n2=n:=by omega
    have htk:most.take n2=most:=List.take_of_length_le (by omega)
    rw [htk] at hacc
    refine h1 m2 a2 c2 hacc.keep rfl ⟨rfl,rfl,⟨[],ArrP.nil,.nil⟩,⟨_,hacc.arr encL_len (by omega),?_⟩,ArrP.nil,Nat.le_refl _,.inl rfl⟩
    exact all2_map (fun x=>⟨rfl,rfl,rfl,ArrP.nil⟩) most
 ·intro J hJ
  have k1:Keep m (bump m 1):=(Keep.refl hw).bump
  refine split_b (fun h1=>hJ _ _ k1 (by rw [h1]; rfl)) (fun h1=>?_)
  refine split_b (fun h2=>hJ _ _ k1 (by rw [h1,h2]; rfl)) (fun h2=>?_)
  refine split_b (fun h3=>hJ _ _ k1 (by rw [h1,h2,h3]; rfl)) (fun h3=>?_)
  apply G_slices_ContainsFunc_sl_int64_ok; unfold G_slices_ContainsFunc_sl_int64
  have hn8:n≤8:=by rw [ltI_false] at h3; unfold lenI at h3; omega
  refine idxM_ok k1.wf (ha.keep hw k1) (by omega) fun m2 k2=>⟨_,rfl,_,rfl,hJ _ _ (k1.trans k2) ?_⟩
  rw [h1,h2,h3,Bool.false_or,Bool.false_or,Bool.false_or]
  exact leI_idx
end
end Go.Proofs.YtiehbnmpaeedpaaGreat.vc
namespace Go.Proofs.YtiehbnmpaeedpaaGreat.vc
open Go Go.AX
set_option linter.unusedVariables false
set_option maxRecDepth 100000
noncomputable section
def G_law_act (e g a B bE bB bF:Int) (l b k bA:Option Addr) (d n f c i j bC bD:Nat) (m:Mem) (Q:Value→Mem→Prop):Prop:=
 splitB (eqI a 0) (CallV cx n_model_Add [.agg #[.int .i64 e,.int .i64 g,.slice l d n,.slice b f c,.slice k i j],.int .i64 B,.int .i64 bE,.int .i64 bB] (bump m 3) fun bz bt=>∃ U al aW aC az aD aU I a0 S aj bx,bz=(.tuple #[.agg #[.int .i64 U,.int .i64 al,.slice aW aC az,.slice aD aU I,.slice a0 S aj],.int .i64 bx])∧Q (.agg #[.int .i64 U,.int .i64 al,.slice aW aC az,.slice aD aU I,.slice a0 S aj]) bt) (splitB (eqI a 1) (CallV cx n_model_Drop [.agg #[.int .i64 e,.int .i64 g,.slice l d n,.slice b f c,.slice k i j],.int .i64 B] (bump m 3) fun bv bl=>∃ aB aZ V W ad F T aw aF aY N bi,bv=(.tuple #[.agg #[.int .i64 aB,.int .i64 aZ,.slice V W ad,.slice F T aw,.slice aF aY N],.int .i64 bi])∧Q (.agg #[.int .i64 aB,.int .i64 aZ,.slice V W ad,.slice F T aw,.slice aF aY N]) bl) (splitB (eqI a 2) (CallV cx n_model_Release [.agg #[.int .i64 e,.int .i64 g,.slice l d n,.slice b f c,.slice k i j],.int .i64 B,.slice bA bC bD] (bump m 3) fun a6 bs=>∃ L Z M ae ac ai au Y H G av bk bj bg a5,a6=(.tuple #[.agg #[.int .i64 L,.int .i64 Z,.slice M ae ac,.slice ai au Y,.slice H G av],.slice bk bj bg,.int .i64 a5])∧Q (.agg #[.int .i64 L,.int .i64 Z,.slice M ae ac,.slice ai au Y,.slice H G av]) bs) (joinK (fun (ba:Bool) (D:Mem)=>splitB ba (CallV cx n_model_Ground [.agg #[.int .i64 e,.int .i64 g,.slice l d n,.slice b f c,.slice k i j],.int .i64 B,.bool (eqI a 3)] D fun bp bd=>∃ aH ap aL aI K aS an af aN a1 aq be,bp=(.tuple #[.agg #[.int .i64 aH,.int .i64 ap,.slice aL aI K,.slice aS an af,.slice aN a1 aq],.int .i64 be])∧Q (.agg #[.int .i64 aH,.int .i64 ap,.slice aL aI K,.slice aS an af,.slice aN a1 aq]) bd) (splitB (eqI a 5) (CallV cx n_model_Settle [.agg #[.int .i64 e,.int .i64 g,.slice l d n,.slice b f c,.slice k i j]] D fun bc a7=>∃ ar aE aP aT aV aX P ao ay ax ak bo a4 a8,bc=(.tuple #[.agg #[.int .i64 ar,.int .i64 aE,.slice aP aT aV,.slice aX P ao,.slice ay ax ak],.slice bo a4 a8])∧Q (.agg #[.int .i64 ar,.int .i64 aE,.slice aP aT aV,.slice aX P ao,.slice ay ax ak]) a7) (∃ C:Int→Int→Int→Option Addr→Nat→Nat→Option Addr→Nat→Nat→Option Addr→Nat→Nat→Mem→Nat→Prop,(∃ bf:Nat,C 0 e g l d n b f c k i j D bf)∧∀ u s y p o x q z w t v A r ab,C u s y p o x q z w t v A r ab→(joinK (fun (bb:Mem)=>(CallV cx n_model_Tick [.agg #[.int .i64 s,.int .i64 y,.slice p o x,.slice q z w,.slice t v A]] bb fun bu bq=>∃ ag a2 O aO R aG aK aA aR X E a3 a9 bw br,bu=(.tuple #[.agg #[.int .i64 ag,.int .i64 a2,.slice O aO R,.slice aG aK aA,.slice aR X E],.slice a3 a9 bw,.int .i64 br])∧∃ aa:Nat,aa < ab∧C (addI .i64 u 1) ag a2 O aO R aG aK aA aR X E bq aa)) fun bn=>splitB (ltI u bF) (splitB (ltI u 60) (bn r) (Q (.agg #[.int .i64 s,.int .i64 y,.slice p o x,.slice q z w,.slice t v A]) r)) (Q (.agg #[.int .i64 s,.int .i64 y,.slice p o x,.slice q z w,.slice t v A]) r))))) fun aM=>splitB (eqI a 3) (aM true (bump m 3)) (aM (eqI a 4) (bump m 3)))))
theorem G_law_act_ok {e g a B bE bB bF:Int} {l b k bA:Option Addr} {d n f c i j bC bD:Nat} {m:Mem} {Q:Value→Mem→Prop} (h:G_law_act e g a B bE bB bF l b k bA d n f c i j bC bD m Q):CallV cx n_law_act [.agg #[.int .i64 e,.int .i64 g,.slice l d n,.slice b f c,.slice k i j],.agg #[.int .i64 a,.int .i64 B,.int .i64 bE,.int .i64 bB,.int .i64 bF,.slice bA bC bD]] m Q:=
 CallV.of (fn:=Tryz.f21) (LS:=[2,3,4]) (ann:=[none,none,none,none,none,none,some ⟨[7],[(58,.bool)],[(2,0,0),(3,1,0),(4,2,0)],[0,1,2],[],3⟩,none,none,none,some ⟨[],[(5,.int .i64),(81,.int .i64),(82,.int .i64),(83,.sl),(84,.sl),(85,.sl)],[(2,0,0),(3,1,0),(4,2,0)],[1,2],[(0,[81,82,83,84,85])],4⟩,some ⟨[5],[],[(2,0,0),(3,1,0),(4,2,0)],[0,1,2],[],5⟩]) ovFr ovNi (by kernel_rfl) (by kernel_rfl) (Eq.mp (by kernel_rfl) h)
def G_law_ModelApart (bP cK b1 cN cM cL:Int) (a9 y cb:Option Addr) (bv b3 u cO a6 bT:Nat) (m:Mem) (Q:Value→Mem→Prop):Prop:=
 CallV cx n_law_awake [] (bump m 1) fun cr aW=>∃ a5,cr=(.bool a5)∧splitB (!a5) (Q (.bool false) aW) (CallV cx n_model_New [.int .i64 bP,.slice a9 bv b3] aW fun bL b7=>∃ aN aO ai Y ap aS av aT K Z ao aF,bL=(.tuple #[.agg #[.int .i64 aN,.int .i64 aO,.slice ai Y ap,.slice aS av aT,.slice K Z ao],.int .i64 aF])∧(CallV cx n_model_New [.int .i64 bP,.slice a9 bv b3] (bump b7 1) fun cD v=>∃ aK U ay aP X aI ad a3 an a7 R b6,cD=(.tuple #[.agg #[.int .i64 aK,.int .i64 U,.slice ay aP X,.slice aI ad a3,.slice an a7 R],.int .i64 b6])∧(joinK (fun (cH:Mem)=>∃ H:Int→Int→Int→Option Addr→Nat→Nat→Option Addr→Nat→Nat→Option Addr→Nat→Nat→Int→Int→Option Addr→Nat→Nat→Option Addr→Nat→Nat→Option Addr→Nat→Nat→Mem→Nat→Prop,(∃ bV:Nat,H 0 aN aO ai Y ap aS av aT K Z ao aK U ay aP X aI ad a3 an a7 R cH bV)∧∀ a e o d c j l g n i f p I z x B w C D A F E G k af,H a e o d c j l g n i f p I z x B w C D A F E G k af→splitB (ltI a (lenI u)) (joinK (fun (b:Mem)=>(0≤a∧a < ((u:Nat):Int))∧(vPtr y fun t q=>∃ ag,rd (bump b 14) t (q+Int.toNat a*6)=some (.int .i64 ag)∧∃ aX,rd (bump b 14) t (q+Int.toNat a*6+1)=some (.int .i64 aX)∧∃ S,rd (bump b 14) t (q+Int.toNat a*6+2)=some (.int .i64 S)∧∃ aG,rd (bump b 14) t (q+Int.toNat a*6+3)=some (.int .i64 aG)∧∃ aD,rd (bump b 14) t (q+Int.toNat a*6+4)=some (.int .i64 aD)∧∃ aq az a0,rd (bump b 14) t (q+Int.toNat a*6+5)=some (.slice aq az a0)∧(CallV cx n_law_act [.agg #[.int .i64 e,.int .i64 o,.slice d c j,.slice l g n,.slice i f p],.agg #[.int .i64 ag,.int .i64 aX,.int .i64 S,.int .i64 aG,.int .i64 aD,.slice aq az a0]] (setFl (bump b 14) b.nx) fun bb bn=>∃ V aA N aB aw O P aZ M al a2,bb=(.agg #[.int .i64 V,.int .i64 aA,.slice N aB aw,.slice O P aZ,.slice M al a2])∧(0≤a∧a < ((u:Nat):Int))∧(vPtr y fun r s=>∃ ae,rd (bump b 14) r (s+Int.toNat a*6)=some (.int .i64 ae)∧∃ au,rd (bump b 14) r (s+Int.toNat a*6+1)=some (.int .i64 au)∧∃ aH,rd (bump b 14) r (s+Int.toNat a*6+2)=some (.int .i64 aH)∧∃ aV,rd (bump b 14) r (s+Int.toNat a*6+3)=some (.int .i64 aV)∧∃ ax,rd (bump b 14) r (s+Int.toNat a*6+4)=some (.int .i64 ax)∧∃ aY ak aL,rd (bump b 14) r (s+Int.toNat a*6+5)=some (.slice aY ak aL)∧(CallV cx n_law_act [.agg #[.int .i64 I,.int .i64 z,.slice x B w,.slice C D A,.slice F E G],.agg #[.int .i64 ae,.int .i64 au,.int .i64 aH,.int .i64 aV,.int .i64 ax,.slice aY ak aL]] (setFl bn (bump b 14).fl) fun bd bM=>∃ ar a1 aU aE aj aa ab ac aR aC L,bd=(.agg #[.int .i64 ar,.int .i64 a1,.slice aU aE aj,.slice aa ab ac,.slice aR aC L])∧∃ a4:Nat,a4 < af∧H (addI .i64 a 1) V aA N aB aw O P aZ M al a2 ar a1 aU aE aj aa ab ac aR aC L bM a4))))) fun bI=>(0≤a∧a < ((u:Nat):Int))∧(vPtr y fun a8 cg=>∃ cI T ca,rd k a8 (cg+Int.toNat a*6+5)=some (.slice cI T ca)∧splitB (ltI 12 (lenI T)) (Q (.bool true) k) ((0≤a∧a < ((u:Nat):Int))∧(vPtr y fun bS bA=>∃ W,rd k bS (bA+Int.toNat a*6+4)=some (.int .i64 W)∧splitB (ltI 30 W) (Q (.bool true) k) (bI k))))) (CallV cx n_law_act [.agg #[.int .i64 e,.int .i64 o,.slice d c j,.slice l g n,.slice i f p],.agg #[.int .i64 cK,.int .i64 b1,.int .i64 cN,.int .i64 cM,.int .i64 cL,.slice cb a6 bT]] k fun cf cn=>∃ cE bR cG bW bo bs cw bE bH ct bG,cf=(.agg #[.int .i64 cE,.int .i64 bR,.slice cG bW bo,.slice bs cw bE,.slice bH ct bG])∧(CallV cx n_model_Settle [.agg #[.int .i64 e,.int .i64 o,.slice d c j,.slice l g n,.slice i f p]] cn fun cA b5=>∃ cy bz ce ba cc bk b2 bN be cl cF bt b8 bc,cA=(.tuple #[.agg #[.int .i64 cy,.int .i64 bz,.slice ce ba cc,.slice bk b2 bN,.slice be cl cF],.slice bt b8 bc])∧(CallV cx n_model_Tick [.agg #[.int .i64 e,.int .i64 o,.slice d c j,.slice l g n,.slice i f p]] b5 fun bX bY=>∃ cv bj cz cu bw bU cj bf b4 cB ck bZ cC bp cp,bX=(.tuple #[.agg #[.int .i64 cv,.int .i64 bj,.slice cz cu bw,.slice bU cj bf,.slice b4 cB ck],.slice bZ cC bp,.int .i64 cp])∧(CallV cx n_model_Release [.agg #[.int .i64 e,.int .i64 o,.slice d c j,.slice l g n,.slice i f p],.int .i64 b1,.slice cb a6 bT] bY fun bg bx=>∃ bK bl bO bq bF bC bu ci b0 bD bi cq b9 br bB,bg=(.tuple #[.agg #[.int .i64 bK,.int .i64 bl,.slice bO bq bF,.slice bC bu ci,.slice b0 bD bi],.slice cq b9 br,.int .i64 bB])∧(CallV cx n_model_Same [.agg #[.int .i64 e,.int .i64 o,.slice d c j,.slice l g n,.slice i f p],.agg #[.int .i64 I,.int .i64 z,.slice x B w,.slice C D A,.slice F E G]] bx fun co cd=>∃ aM,co=(.bool aM)∧Q (.bool aM) cd)))))) fun cs=>splitB (neI aF 0) (Q (.bool true) (bump v 1)) (splitB (ltI 15 (lenI u)) (Q (.bool true) (bump v 1)) (splitB (ltI 12 (lenI a6)) (Q (.bool true) (bump v 1)) (cs (bump v 1)))))))
theorem G_law_ModelApart_ok {bP cK b1 cN cM cL:Int} {a9 y cb:Option Addr} {bv b3 u cO a6 bT:Nat} {m:Mem} {Q:Value→Mem→Prop} (h:G_law_ModelApart bP cK b1 cN cM cL a9 y cb bv b3 u cO a6 bT m Q):CallV cx n_law_ModelApart [.int .i64 bP,.slice a9 bv b3,.slice y u cO,.agg #[.int .i64 cK,.int .i64 b1,.int .i64 cN,.int .i64 cM,.int .i64 cL,.slice cb a6 bT]] m Q:=
 CallV.of (fn:=Tryz.f9) (LS:=[7,9,11]) (ann:=[none,none,none,none,none,none,some ⟨[2],[],[(7,0,0),(9,1,0),(11,3,0)],[0,1,3],[],5⟩,none,none,none,none,some ⟨[2],[(13,.int .i64),(94,.int .i64),(95,.int .i64),(96,.sl),(97,.sl),(98,.sl),(99,.int .i64),(100,.int .i64),(101,.sl),(102,.sl),(103,.sl)],[(7,0,0),(9,1,0),(11,3,0)],[0],[(1,[94,95,96,97,98]),(3,[99,100,101,102,103])],6⟩,none,none,none,some ⟨[2,13],[],[(7,0,0),(9,1,0),(11,3,0)],[0,1,3],[],7⟩]) ovFr ovNi (by kernel_rfl) (by kernel_rfl) (Eq.mp (by kernel_rfl) h)
def G_law_ModelSettles (bP:Int) (bN bp:Option Addr) (bO bR H bS:Nat) (m:Mem) (Q:Value→Mem→Prop):Prop:=
 CallV cx n_law_awake [] m fun bI aZ=>∃ aU,bI=(.bool aU)∧splitB (!aU) (Q (.bool false) aZ) (CallV cx n_model_New [.int .i64 bP,.slice bN bO bR] aZ fun bK G=>∃ aH U aA aR X aW aX a7 aD a9 aN af,bK=(.tuple #[.agg #[.int .i64 aH,.int .i64 U,.slice aA aR X,.slice aW aX a7,.slice aD a9 aN],.int .i64 af])∧(joinK (fun (bG:Mem)=>∃ z:Int→Int→Int→Option Addr→Nat→Nat→Option Addr→Nat→Nat→Option Addr→Nat→Nat→Mem→Nat→Prop,(∃ bx:Nat,z 0 aH U aA aR X aW aX a7 aD a9 aN bG bx)∧∀ a T ap R P av ba az W Z an bc b E,z a T ap R P av ba az W Z an bc b E→splitB (ltI a (lenI H)) ((0≤a∧a < ((H:Nat):Int))∧(vPtr bp fun bM bi=>∃ bn aM br,rd b bM (bi+Int.toNat a*6+5)=some (.slice bn aM br)∧splitB (ltI 12 (lenI aM)) (Q (.bool true) b) ((0≤a∧a < ((H:Nat):Int))∧(vPtr bp fun d c=>∃ bb,rd (bump b 7) d (c+Int.toNat a*6)=some (.int .i64 bb)∧∃ a6,rd (bump b 7) d (c+Int.toNat a*6+1)=some (.int .i64 a6)∧∃ a2,rd (bump b 7) d (c+Int.toNat a*6+2)=some (.int .i64 a2)∧∃ aC,rd (bump b 7) d (c+Int.toNat a*6+3)=some (.int .i64 aC)∧∃ M,rd (bump b 7) d (c+Int.toNat a*6+4)=some (.int .i64 M)∧∃ aF bf a4,rd (bump b 7) d (c+Int.toNat a*6+5)=some (.slice aF bf a4)∧(CallV cx n_law_act [.agg #[.int .i64 T,.int .i64 ap,.slice R P av,.slice ba az W,.slice Z an bc],.agg #[.int .i64 bb,.int .i64 a6,.int .i64 a2,.int .i64 aC,.int .i64 M,.slice aF bf a4]] (bump b 7) fun bL bw=>∃ o g l k p f i q j e n,bL=(.agg #[.int .i64 o,.int .i64 g,.slice l k p,.slice f i q,.slice j e n])∧(CallV cx n_model_Settle [.agg #[.int .i64 o,.int .i64 g,.slice l k p,.slice f i q,.slice j e n]] bw fun bA bo=>∃ D x B C s w u y r A t bz ak bE,bA=(.tuple #[.agg #[.int .i64 D,.int .i64 x,.slice B C s,.slice w u y,.slice r A t],.slice bz ak bE])∧(CallV cx n_model_Settle [.agg #[.int .i64 D,.int .i64 x,.slice B C s,.slice w u y,.slice r A t]] (bump bo 1) fun bg bj=>∃ V bd N aj ab K aV aa aE be ad bl aP bD,bg=(.tuple #[.agg #[.int .i64 V,.int .i64 bd,.slice N aj ab,.slice K aV aa,.slice aE be ad],.slice bl aP bD])∧(CallV cx n_model_Tick [.agg #[.int .i64 o,.int .i64 g,.slice l k p,.slice f i q,.slice j e n]] (bump bj 1) fun bv bs=>∃ al ae ay aB a5 ao a0 aq aw a1 aI bC aO bk I,bv=(.tuple #[.agg #[.int .i64 al,.int .i64 ae,.slice ay aB a5,.slice ao a0 aq,.slice aw a1 aI],.slice bC aO bk,.int .i64 I])∧(CallV cx n_model_Tick [.agg #[.int .i64 D,.int .i64 x,.slice B C s,.slice w u y,.slice r A t]] (bump bs 1) fun bB aT=>∃ ag S a3 ar aL au a8 L O aY aK bt ai bF aS,bB=(.tuple #[.agg #[.int .i64 ag,.int .i64 S,.slice a3 ar aL,.slice au a8 L,.slice O aY aK],.slice bt ai bF,.int .i64 aS])∧splitB (neI (lenI aP) 0) (Q (.bool false) (bump aT 1)) (CallV cx n_model_Same [.agg #[.int .i64 D,.int .i64 x,.slice B C s,.slice w u y,.slice r A t],.agg #[.int .i64 V,.int .i64 bd,.slice N aj ab,.slice K aV aa,.slice aE be ad]] (bump aT 1) fun bu v=>∃ ac,bu=(.bool ac)∧splitB (!ac) (Q (.bool false) v) (splitB (neI I aS) (Q (.bool false) v) (splitB (eqI I 0) (CallV cx n_model_Same [.agg #[.int .i64 al,.int .i64 ae,.slice ay aB a5,.slice ao a0 aq,.slice aw a1 aI],.agg #[.int .i64 ag,.int .i64 S,.slice a3 ar aL,.slice au a8 L,.slice O aY aK]] v fun bq F=>∃ aG,bq=(.bool aG)∧splitB (!aG) (Q (.bool false) F) (splitB (neI (lenI aO) (addI .i64 (lenI ak) (lenI ai))) (Q (.bool false) F) (∃ Y:Nat,Y < E∧z (addI .i64 a 1) o g l k p f i q j e n F Y))) (∃ ax:Nat,ax < E∧z (addI .i64 a 1) o g l k p f i q j e n v ax))))))))))))) (Q (.bool true) b)) fun bH=>splitB (neI af 0) (Q (.bool true) (bump G 1)) (splitB (ltI 25 (lenI H)) (Q (.bool true) (bump G 1)) (bH (bump G 1)))))
theorem G_law_ModelSettles_ok {bP:Int} {bN bp:Option Addr} {bO bR H bS:Nat} {m:Mem} {Q:Value→Mem→Prop} (h:G_law_ModelSettles bP bN bp bO bR H bS m Q):CallV cx n_law_ModelSettles [.int .i64 bP,.slice bN bO bR,.slice bp H bS] m Q:=
 CallV.of (fn:=Tryz.f10) (LS:=[7,10,12,14,17]) (ann:=[none,none,none,none,none,some ⟨[2],[],[(7,0,0)],[0],[],2⟩,none,none,none,none,some ⟨[2],[(9,.int .i64),(113,.int .i64),(114,.int .i64),(115,.sl),(116,.sl),(117,.sl)],[(7,0,0)],[],[(0,[113,114,115,116,117])],3⟩]) ovFr ovNi (by kernel_rfl) (by kernel_rfl) (Eq.mp (by kernel_rfl) h)
def G_law_ModelRan (aD:Int) (bW bl:Option Addr) (bX bY S bZ:Nat) (m:Mem) (Q:Value→Mem→Prop):Prop:=
 CallV cx n_law_awake [] m fun bH aS=>∃ aK,bH=(.bool aK)∧splitB (!aK) (Q (.bool false) aS) (CallV cx n_model_New [.int .i64 aD,.slice bW bX bY] aS fun bM N=>∃ ar ae aV aq aw aP aO aY av aj aH a5,bM=(.tuple #[.agg #[.int .i64 ar,.int .i64 ae,.slice aV aq aw,.slice aP aO aY,.slice av aj aH],.int .i64 a5])∧(joinK (fun (bO:Mem)=>∃ C:Int→Int→Int→Option Addr→Nat→Nat→Option Addr→Nat→Nat→Option Addr→Nat→Nat→Mem→Nat→Prop,(∃ br:Nat,C 0 ar ae aV aq aw aP aO aY av aj aH bO br)∧∀ a Z ax W U aC a0 aG ac ai au a4 c F,C a Z ax W U aC a0 aG ac ai au a4 c F→splitB (ltI a (lenI S)) ((0≤a∧a < ((S:Nat):Int))∧(vPtr bl fun bV a7=>∃ ba aU bR,rd c bV (a7+Int.toNat a*6+5)=some (.slice ba aU bR)∧splitB (ltI 12 (lenI aU)) (Q (.bool true) c) ((0≤a∧a < ((S:Nat):Int))∧(vPtr bl fun j g=>∃ aa,rd (bump c 7) j (g+Int.toNat a*6)=some (.int .i64 aa)∧∃ ak,rd (bump c 7) j (g+Int.toNat a*6+1)=some (.int .i64 ak)∧∃ a1,rd (bump c 7) j (g+Int.toNat a*6+2)=some (.int .i64 a1)∧∃ T,rd (bump c 7) j (g+Int.toNat a*6+3)=some (.int .i64 T)∧∃ aF,rd (bump c 7) j (g+Int.toNat a*6+4)=some (.int .i64 aF)∧∃ af aI aE,rd (bump c 7) j (g+Int.toNat a*6+5)=some (.slice af aI aE)∧(CallV cx n_law_act [.agg #[.int .i64 Z,.int .i64 ax,.slice W U aC,.slice a0 aG ac,.slice ai au a4],.agg #[.int .i64 aa,.int .i64 ak,.int .i64 a1,.int .i64 T,.int .i64 aF,.slice af aI aE]] (bump c 7) fun bB bq=>∃ w e k t n q o r u l s,bB=(.agg #[.int .i64 w,.int .i64 e,.slice k t n,.slice q o r,.slice u l s])∧(CallV cx n_model_Settle [.agg #[.int .i64 w,.int .i64 e,.slice k t n,.slice q o r,.slice u l s]] bq fun bs bf=>∃ aZ a3 L B aB az aW Y M p ag bp bA a6,bs=(.tuple #[.agg #[.int .i64 aZ,.int .i64 a3,.slice L B aB,.slice az aW Y,.slice M p ag],.slice bp bA a6])∧(CallV cx n_model_Runs [.agg #[.int .i64 aZ,.int .i64 a3,.slice L B aB,.slice az aW Y,.slice M p ag]] (bump bf 1) fun bk a8=>∃ bL x bT bw v bj,bk=(.tuple #[.slice bL x bT,.slice bw v bj])∧(CallV cx n_model_Tick [.agg #[.int .i64 w,.int .i64 e,.slice k t n,.slice q o r,.slice u l s]] a8 fun bF ay=>∃ bK I aR R a9 bz bg bc V G bE bu bd bn aL,bF=(.tuple #[.agg #[.int .i64 bK,.int .i64 I,.slice aR R a9,.slice bz bg bc,.slice V G bE],.slice bu bd bn,.int .i64 aL])∧splitB (neI aL 0) (Q (.bool false) (bump ay 1)) (joinK (fun (bv:Int) (bI:Mem)=>∃ D:Int→Int→Mem→Nat→Prop,(∃ bb:Nat,D 0 0 bI bb)∧∀ P i z ap,D P i z ap→splitB (ltI i (lenI G)) ((0≤i∧i < ((G:Nat):Int))∧(vPtr V fun bC bD=>∃ ad,rd z bC (bD+Int.toNat i*2+1)=some (.int .i64 ad)∧∃ aM:Nat,aM < ap∧D (addI .i64 P ad) (addI .i64 i 1) z aM)) (∃ K:Int→Int→Mem→Nat→Prop,(∃ bx:Nat,K P 0 z bx)∧∀ H f b an,K H f b an→splitB (ltI f (lenI p)) ((0≤f∧f < ((p:Nat):Int))∧(vPtr M fun bS bN=>∃ al,rd b bS (bN+Int.toNat f*2+1)=some (.int .i64 al)∧∃ aN:Nat,aN < an∧K (subI .i64 H al) (addI .i64 f 1) b aN)) (splitB (neI bv (lenI x)) (Q (.bool false) b) (splitB (neI H (lenI v)) (Q (.bool false) b) (splitB (ltI aD (addI .i64 (lenI x) (lenI v))) (Q (.bool false) b) (splitB (ltI (addI .i64 (lenI x) (lenI v)) aD) (splitB (neI (lenI v) (lenI p)) (Q (.bool false) b) (splitB (neI I (addI .i64 e 1)) (Q (.bool false) b) (∃ aA:Nat,aA < F∧C (addI .i64 a 1) w e k t n q o r u l s b aA))) (splitB (neI I (addI .i64 e 1)) (Q (.bool false) b) (∃ a2:Nat,a2 < F∧C (addI .i64 a 1) w e k t n q o r u l s b a2)))))))) fun aX=>∃ E:Int→Int→Mem→Nat→Prop,(∃ be:Nat,E 0 0 (bump ay 1) be)∧∀ A d y ao,E A d y ao→(joinK (fun (O:Mem)=>(0≤d∧d < ((R:Nat):Int))∧(vPtr aR fun bo bU=>∃ X,rd (bump O 16) bo (bU+Int.toNat d*11+10)=some (.int .i64 X)∧(0≤d∧d < ((B:Nat):Int))∧(vPtr L fun bG bt=>∃ ab,rd (bump O 16) bG (bt+Int.toNat d*11+10)=some (.int .i64 ab)∧∃ aT:Nat,aT < ao∧E (subI .i64 (addI .i64 A X) ab) (addI .i64 d 1) (bump O 16) aT))) fun bi=>splitB (ltI d (lenI R)) (splitB (ltI d (lenI B)) (bi y) (aX A y)) (aX A y))))))))))) (Q (.bool true) c)) fun bP=>splitB (neI a5 0) (Q (.bool true) (bump N 1)) (splitB (ltI 25 (lenI S)) (Q (.bool true) (bump N 1)) (bP (bump N 1)))))
theorem G_law_ModelRan_ok {aD:Int} {bW bl:Option Addr} {bX bY S bZ:Nat} {m:Mem} {Q:Value→Mem→Prop} (h:G_law_ModelRan aD bW bl bX bY S bZ m Q):CallV cx n_law_ModelRan [.int .i64 aD,.slice bW bX bY,.slice bl S bZ] m Q:=
 CallV.of (fn:=Tryz.f7) (LS:=[7,10,14]) (ann:=[none,none,none,none,none,some ⟨[0,2],[],[(7,0,0)],[0],[],2⟩,none,none,none,none,some ⟨[0,2],[(9,.int .i64),(180,.int .i64),(181,.int .i64),(182,.sl),(183,.sl),(184,.sl)],[(7,0,0)],[],[(0,[180,181,182,183,184])],3⟩,none,none,none,none,none,none,none,none,none,none,none,none,none,none,some ⟨[0,2,9,12,13,18],[(17,.int .i64)],[(7,0,0),(10,5,0),(14,7,0)],[0,5,7],[],10⟩,none,some ⟨[0,2,9,12,13,18],[(17,.int .i64),(19,.int .i64)],[(7,0,0),(10,5,0),(14,7,0)],[0,5,7],[],9⟩,some ⟨[0,2,9,12,13,17,18,19],[],[(7,0,0),(10,5,0),(14,7,0)],[0,5,7],[],10⟩,none,none,none,none,some ⟨[0,2,9,12,13,17],[(18,.int .i64),(20,.int .i64)],[(7,0,0),(10,5,0),(14,7,0)],[0,5,7],[],11⟩,none,none,none,none,none,some ⟨[0,2,9,12,13,17],[(18,.int .i64),(21,.int .i64)],[(7,0,0),(10,5,0),(14,7,0)],[0,5,7],[],12⟩]) ovFr ovNi (by kernel_rfl) (by kernel_rfl) (Eq.mp (by kernel_rfl) h)
end
end Go.Proofs.YtiehbnmpaeedpaaGreat.vc
