import Derived.Test.YtiehbnmpaeedpaaGreatQR41
namespace Go.Proofs.YtiehbnmpaeedpaaGreat.vc
open Go Go.AX
set_option linter.unusedVariables false
set_option linter.unusedSimpArgs false
@[reducible] def jobV (j:pm.Job) (a:Option Addr) (n c:Nat):Value:=.agg #[.int .i64 j.num,.slice a n c,.int .i64 j.at_,.int .i64 j.done]
theorem leI_idx {α : Type} {f:α→Bool} {l:List α}:leI 0 (match l.findIdx? f with | some i=>(i:Int) | none=>-1)=l.any f:=by
 cases h:l.findIdx? f with
 | none=>
  rw [List.findIdx?_eq_none_iff] at h
  have:l.any f=false:=List.any_eq_false.2 fun x hx=>by rw [h x hx]; simp
  rw [this]; simp [leI]
 | some i=>
  obtain ⟨hi,h1,_⟩:=List.findIdx?_eq_some_iff_getElem.1 h
  have:l.any f=true:=List.any_eq_true.2 ⟨_,List.getElem_mem hi,h1⟩
  rw [this]; simp [leI]
section
variable {m:Mem} {Q:Value→Mem→Prop}
theorem idxP_ok {v:Value} {f:pm.Step→Bool} {a:Option Addr} {n c:Nat} {l:List pm.Step} (hw:Wf m) (ha:Arr encP 2 m a n l) (hn:n≤4611686018427387904)
  (hf:∀ x m1 (R:Value→Mem→Prop),Keep m m1→(∀ m2,Keep m1 m2→R (.bool (f x)) m2)→vCallFV cx m1 v [.agg #[.int .i64 x.1,.int .i64 x.2]] R)
  (h:∀ m',Keep m m'→Q (.int .i64 (match l.findIdx? f with | some i=>(i:Int) | none=>-1)) m'):CallV cx n_slices_IndexFunc_prog_Prog [.slice a n c,v] m Q:=by
 apply G_slices_IndexFunc_prog_Prog_ok; unfold G_slices_IndexFunc_prog_Prog
 refine forN hn (fun k m1=>Keep m m1∧∀ j x,j < k→l[j]? = some x→f x=false) ⟨Keep.refl hw,fun j x hj=>by omega⟩ ?_
 rintro k m1 hk ⟨k1,hb⟩ I w hI
 refine split_lt (fun hlt=>?_) (fun hge=>?_)
 ·obtain ⟨x,hx⟩:=ha.get hlt
  refine ha.open hx fun b o hc=>?_
  have hc1:=hc.keep hw k1
  refine ⟨x.1,hc1 0 _ rfl,x.2,hc1 1 _ rfl,hf x m1 _ k1 fun m2 k2=>⟨_,rfl,split_b (fun h1=>?_) (fun h1=>?_)⟩⟩
  ·refine leaf h (k1.trans k2) ?_
   obtain ⟨hlk1,hlk2⟩:=(List.getElem?_eq_some_iff.1 hx)
   have:l.findIdx? f=some k:=List.findIdx?_eq_some_iff_getElem.2 ⟨hlk1,by rw [hlk2]; exact h1,fun j hj=>by rw [hb j _ hj (List.getElem?_eq_getElem (by omega))]; simp⟩
   rw [this]
  ·exact hI m2 hlt ⟨k1.trans k2,fun j y hj hy=>by
    by_cases e:j=k
    ·subst e; rw [hx] at hy; cases hy; exact h1
    ·exact hb j y (by omega) hy⟩
 ·refine leaf h k1 ?_
  have:l.findIdx? f=none:=List.findIdx?_eq_none_iff.2 fun x hx=>by
   obtain ⟨i,hi⟩:=List.getElem?_of_mem hx
   have:=(List.getElem?_eq_some_iff.1 hi).1
   exact hb i x (by have:=ha.1; omega) hi
  rw [this]
theorem anyP_ok {v:Value} {f:pm.Step→Bool} {a:Option Addr} {n c:Nat} {l:List pm.Step} (hw:Wf m) (ha:Arr encP 2 m a n l) (hn:n≤4611686018427387904)
  (hf:∀ x m1 (R:Value→Mem→Prop),Keep m m1→(∀ m2,Keep m1 m2→R (.bool (f x)) m2)→vCallFV cx m1 v [.agg #[.int .i64 x.1,.int .i64 x.2]] R)
  (h:∀ m',Keep m m'→Q (.bool (l.any f)) m'):CallV cx n_slices_ContainsFunc_prog_Prog [.slice a n c,v] m Q:=by
 apply G_slices_ContainsFunc_prog_Prog_ok; unfold G_slices_ContainsFunc_prog_Prog
 refine idxP_ok hw ha hn hf fun m1 k1=>⟨_,rfl,?_⟩
 rw [leI_idx]; exact h m1 k1
theorem pOdd_ok {x y:Int} (hw:Wf m) (h:∀ m',Keep m m'→Q (.bool (pm.pOdd (x,y))) m'):CallV cx n_prog_Good_1 [.agg #[.int .i64 x,.int .i64 y]] m Q:=by
 apply G_prog_Good_1_ok; unfold G_prog_Good_1
 have k:Keep m (bump m 1):=(Keep.refl hw).bump
 refine split_b (fun h1=>?_) (fun h1=>split_b (fun h2=>?_) (fun h2=>split_b (fun h3=>?_) (fun h3=>?_)))
 ·exact leaf h k (by simp [pm.pOdd,h1])
 ·exact leaf h k (by simp [pm.pOdd,h1,h2])
 ·exact leaf h k (by simp [pm.pOdd,h1,h2,h3])
 ·exact leaf h k (by simp [pm.pOdd,h1,h2,h3])
theorem pGood_ok {a:Option Addr} {n c:Nat} {p:List pm.Step} (hw:Wf m) (ha:Arr encP 2 m a n p) (h:∀ m',Keep m m'→Q (.bool (pm.pGood p)) m'):CallV cx n_prog_Good [.slice a n c] m Q:=by
 apply G_prog_Good_ok; unfold G_prog_Good
 have hl:=ha.1
 subst hl
 refine split_b (fun h1=>split_b (fun h2=>?_) (fun h2=>?_)) (fun h1=>?_)
 ·refine anyP_ok (f:=pm.pOdd) hw ha (by have:=leI_true.1 h2; simp [lenI] at this; omega) (fun x m1 R k1 hR=>pOdd_ok k1.wf hR) fun m1 k1=>⟨_,rfl,?_⟩
  exact leaf h k1 (by simp [pm.pGood,h1,h2])
 ·exact leaf h (Keep.refl hw) (by simp [pm.pGood,h1,h2])
 ·exact leaf h (Keep.refl hw) (by simp [pm.pGood,h1])
theorem pGood_len {p:List pm.Step} (h:pm.pGood p=true):1≤p.length∧p.length≤8:=by
 unfold pm.pGood at h
 simp only [Bool.and_eq_true,leI_true,lenI] at h
 omega
theorem pFits_ok {a a2:Option Addr} {n c n2 c2:Nat} {p:List pm.Step} (hw:Wf m) (ha:Arr encP 2 m a n p) (h:∀ m',Keep m m'→Q (.bool (pm.pFits p n2)) m'):CallV cx n_prog_Fits [.slice a n c,.slice a2 n2 c2] m Q:=by
 apply G_prog_Fits_ok; unfold G_prog_Fits
 rw [mBind_iff]
 have k0:Keep m (newO m (row [.slice a2 n2 c2] t_sl_int64 false)):=(Keep.refl hw).newO
 have hR:Row (newO m (row [.slice a2 n2 c2] t_sl_int64 false)) m.nx [.slice a2 n2 c2] t_sl_int64 false:=Row.newO
 generalize newO m (row [.slice a2 n2 c2] t_sl_int64 false)=m0 at k0 hR
 have ha0:=ha.keep hw k0
 refine pGood_ok k0.wf ha0 fun m1 k1=>⟨_,rfl,split_b (fun h1=>?_) (fun h1=>?_)⟩
 ·have hR1:=k1.row k0.wf hR
  refine anyP_ok (f:=fun s=>ltI (lenI n2) s.1) k1.wf (ha0.keep k0.wf k1) (by have:=pGood_len h1; have:=ha.1; omega) (fun x m2 R k2 hRR=>?_) fun m2 k2=>⟨_,rfl,?_⟩
  ·show CallV cx n_prog_Fits_1 [.agg #[.int .i64 x.1,.int .i64 x.2],.pointer (some ⟨m.nx,0,none⟩)] m2 R
   apply G_prog_Fits_1_ok; unfold G_prog_Fits_1
   rw [vPtr_some]
   refine ⟨a2,n2,c2,by rw [rd_bump,(k2.row k1.wf hR1).rd]; rfl,hRR _ (Keep.refl k2.wf).bump⟩
  ·exact leaf h ((k0.trans k1).trans k2) (by simp [pm.pFits,h1])
 ·exact leaf h (k0.trans k1) (by simp [pm.pFits,h1])
theorem cur_get {j:pm.Job} {k:Nat} (h:j.at_=(k:Int)) (hk:k < j.prog.length):j.prog[k]? = some j.cur:=by
 unfold pm.Job.cur
 rw [h,Int.toNat_natCast,List.getD_eq_getElem?_getD,List.getElem?_eq_getElem hk]; rfl
theorem jGood_ok {num at_ done:Int} {a:Option Addr} {n c:Nat} {p:List pm.Step} (hw:Wf m) (ha:Arr encP 2 m a n p) (h:∀ m',Keep m m'→Q (.bool (pm.jGood ⟨num,p,at_,done⟩)) m') :
  CallV cx n_job_Good [.agg #[.int .i64 num,.slice a n c,.int .i64 at_,.int .i64 done]] m Q:=by
 apply G_job_Good_ok; unfold G_job_Good joinK; dsimp only
 have k0:Keep m (bump m 1):=(Keep.refl hw).bump
 have hl:=ha.1
 refine split_b (fun h1=>?_) (fun h1=>?_)
 ·exact leaf h k0 (by simp [pm.jGood,h1])
 refine pGood_ok k0.wf (ha.keep hw k0) fun m1 k1=>⟨_,rfl,?_⟩
 have k:=k0.trans k1
 refine split_nb (fun h2=>?_) (fun h2=>?_)
 ·exact leaf h k (by simp [pm.jGood,h1,h2])
 refine split_b (fun h3=>?_) (fun h3=>?_)
 ·exact leaf h k (by simp [pm.jGood,h1,h2,h3])
 subst hl
 refine split_b (fun h4=>?_) (fun h4=>?_)
 ·exact leaf h k (by simp [pm.jGood,h1,h2,h3,h4])
 refine split_b (fun h5=>?_) (fun h5=>?_)
 ·exact leaf h k (by simp [pm.jGood,h1,h2,h3,h4,h5])
 refine split_b (fun h6=>?_) (fun h6=>?_)
 ·exact leaf h k (by simp [pm.jGood,h1,h2,h3,h4,h5,h6])
 ·have g3:=ltI_false.1 h3
  have g4:=ltI_false.1 h4
  have g6:=eqI_false.1 h6
  simp only [lenI] at g4 g6
  obtain ⟨i,rfl⟩:∃ i:Nat,at_=(i:Int):=⟨at_.toNat,by omega⟩
  have hlt:i < p.length:=by omega
  have hx:=cur_get (j:=⟨num,p,(i:Int),done⟩) rfl hlt
  refine ha.open hx fun b o hc=>?_
  refine ⟨_,rd_keep (k.bump (n:=11)) hw (hc 1 _ rfl),?_⟩
  exact leaf h k.bump (by simp [pm.jGood,h1,h2,h3,h4,h5,h6])
theorem jStep_ok {num at_ done:Int} {a:Option Addr} {n c:Nat} {p:List pm.Step} (hw:Wf m) (ha:Arr encP 2 m a n p) (h:∀ m',Keep m m'→Q (.tuple #[.agg #[.int .i64 (pm.jStep ⟨num,p,at_,done⟩).1.1,.int .i64 (pm.jStep ⟨num,p,at_,done⟩).1.2],.bool (pm.jStep ⟨num,p,at_,done⟩).2]) m') :
  CallV cx n_job_Step [.agg #[.int .i64 num,.slice a n c,.int .i64 at_,.int .i64 done]] m Q:=by
 apply G_job_Step_ok; unfold G_job_Step joinK; dsimp only
 have k0:Keep m (bump m 2):=(Keep.refl hw).bump
 have hl:=ha.1
 refine jGood_ok k0.wf (ha.keep hw k0) fun m1 k1=>⟨_,rfl,?_⟩
 have k:=k0.trans k1
 subst hl
 refine split_nb (fun h1=>?_) (fun h1=>?_)
 ·rw [splitB_true]; exact leaf h k (by simp [pm.jStep,h1])
 refine split_b (fun h2=>?_) (fun h2=>?_)
 ·exact leaf h k (by simp [pm.jStep,h1,h2])
 ·have g:=h1
  unfold pm.jGood at g
  simp only [Bool.and_eq_true,Bool.not_eq_true'] at g
  obtain ⟨_,_,g3,g4,_⟩:=g
  have g3:=ltI_false.1 g3
  have g4:=ltI_false.1 g4
  have g6:=eqI_false.1 h2
  simp only [lenI] at g4 g6
  obtain ⟨i,rfl⟩:∃ i:Nat,at_=(i:Int):=⟨at_.toNat,by omega⟩
  have hlt:i < p.length:=by omega
  have hx:=cur_get (j:=⟨num,p,(i:Int),done⟩) rfl hlt
  refine ha.open hx fun b o hc=>?_
  refine ⟨_,rd_keep k hw (hc 0 _ rfl),_,rd_keep k hw (hc 1 _ rfl),?_⟩
  exact leaf h k (by simp [pm.jStep,h1,h2])
theorem jRun_ok {num at_ done x:Int} {a:Option Addr} {n c:Nat} {p:List pm.Step} (hw:Wf m) (ha:Arr encP 2 m a n p)
  (h:∀ m',Keep m m'→Q (.tuple #[jobV (pm.jRun ⟨num,p,at_,done⟩ x).1 a n c,.int .i64 (pm.jRun ⟨num,p,at_,done⟩ x).2]) m') :
  CallV cx n_job_Run [.agg #[.int .i64 num,.slice a n c,.int .i64 at_,.int .i64 done],.int .i64 x] m Q:=by
 apply G_job_Run_ok; unfold G_job_Run
 have k0:Keep m (bump m 2):=(Keep.refl hw).bump
 refine jStep_ok k0.wf (ha.keep hw k0) fun m1 k1=>⟨_,_,_,rfl,?_⟩
 have k:=(k0.trans k1).bump (n:=1)
 refine split_nb (fun h1=>?_) (fun h1=>?_)
 ·exact leaf h k (by simp [pm.jRun,h1])
 ·exact leaf h k (by simp [pm.jRun,h1])
theorem jNext_ok {num at_ done:Int} {a:Option Addr} {n c:Nat} {p:List pm.Step} (hw:Wf m) (ha:Arr encP 2 m a n p)
  (h:∀ m',Keep m m'→Q (.tuple #[jobV (pm.jNext ⟨num,p,at_,done⟩).1 a n c,.bool (pm.jNext ⟨num,p,at_,done⟩).2]) m') :
  CallV cx n_job_Next [.agg #[.int .i64 num,.slice a n c,.int .i64 at_,.int .i64 done]] m Q:=by
 apply G_job_Next_ok; unfold G_job_Next joinK; dsimp only
 have k0:Keep m (bump m 2):=(Keep.refl hw).bump
 refine jStep_ok k0.wf (ha.keep hw k0) fun m1 k1=>⟨_,_,_,rfl,?_⟩
 have k:=(k0.trans k1).bump (n:=1)
 refine split_nb (fun h1=>?_) (fun h1=>?_)
 ·rw [splitB_true]; exact leaf h k (by simp [pm.jNext,h1])
 refine split_b (fun h2=>?_) (fun h2=>?_)
 ·exact leaf h k (by simp [pm.jNext,h1,h2])
 ·exact leaf h k (by simp [pm.jNext,h1,h2])
theorem jNew_ok {num:Int} {a:Option Addr} {n c:Nat} {p:List pm.Step} (hw:Wf m) (ha:Arr encP 2 m a n p) (hg:pm.pGood p=true)
  (h:∀ m' a' c',Keep m m'→Arr encP 2 m' a' n (pm.jNew num p).1.prog∨(pm.jNew num p).2=false→(∀ b∈blk a',m.nx≤b)→Q (.tuple #[jobV (pm.jNew num p).1 (bif (pm.jNew num p).2 then a' else none) (bif (pm.jNew num p).2 then n else 0) (bif (pm.jNew num p).2 then c' else 0),.bool (pm.jNew num p).2]) m') :
  CallV cx n_job_New [.int .i64 num,.slice a n c] m Q:=by
 apply G_job_New_ok; unfold G_job_New joinK; dsimp only
 have k0:Keep m (bump m 1):=(Keep.refl hw).bump
 refine pGood_ok k0.wf (ha.keep hw k0) fun m1 k1=>⟨_,rfl,?_⟩
 have k:=k0.trans k1
 have hl:=ha.1
 refine split_nb (fun h1=>?_) (fun h1=>?_)
 ·rw [hg] at h1; cases h1
 refine split_b (fun h2=>?_) (fun h2=>?_)
 ·have:=h m1 none 0 k (.inr (by simp [pm.jNew,h1,h2])) (fun b hb=>by cases hb)
  simpa [pm.jNew,h1,h2] using this
 ·rw [mBind_iff]
  have k2:Keep m (newO m1 (row [] t_prog_Step false)):=k.newO
  have hb:(newO m1 (row [] t_prog_Step false)).hp.get m1.nx=some (row [] t_prog_Step false):=by rw [newO_get,if_pos rfl]
  generalize newO m1 (row [] t_prog_Step false)=m2 at k2 hb
  have ha2:=ha.keep hw k2
  have hlen:=pGood_len hg
  have hap:=append_new (cx:=cx) (t:=t_prog_Prog) (e:=t_prog_Step) (s:=2) (m:=m2) (n:=0) (k:=n) (c:=0) (ck:=c) (a:=some ⟨m1.nx,0,none⟩) (v:=a) (old:=[]) (new:=p.flatMap encP) (by kernel_rfl)
   (by unfold giveUp; simp only [hb,row]) rfl (by simp) (ha2.first encP_len (by omega)) (by rw [flat_length encP_len,hl]) (by
    rw [List.all_eq_true]
    intro v hv
    obtain ⟨x,_,hx⟩:=List.mem_flatMap.1 hv
    simp [encP] at hx
    rcases hx with rfl | rfl <;> rfl) (by omega) (by omega)
  rw [List.nil_append,Nat.zero_add] at hap
  refine ⟨_,_,_,_,hap,?_⟩
  have k3:Keep m (newO m2 (row (p.flatMap encP) t_prog_Step true)):=k2.newO
  have hR:Row (newO m2 (row (p.flatMap encP) t_prog_Step true)) m2.nx (p.flatMap encP) t_prog_Step true:=Row.newO
  have hA:=Arr.of_row encP_len hR
  rw [hl] at hA
  have e1:pm.jNew num p=(⟨num,p,0,0⟩,true):=by simp [pm.jNew,h1,h2]
  have:=h _ (some ⟨m2.nx,0,none⟩) n k3 (.inl (by rw [e1]; exact hA)) (fun b hb=>by simp [blk] at hb; subst hb; exact k2.nx)
  rw [e1] at this
  exact this
end
end Go.Proofs.YtiehbnmpaeedpaaGreat.vc
