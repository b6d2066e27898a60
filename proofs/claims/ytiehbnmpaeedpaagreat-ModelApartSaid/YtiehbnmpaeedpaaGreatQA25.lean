import Derived.Test.YtiehbnmpaeedpaaGreatQA23
import Derived.Test.YtiehbnmpaeedpaaGreatQA24
namespace Go.Proofs.YtiehbnmpaeedpaaGreat.vc
open Go Go.AX
set_option linter.unusedVariables false
set_option linter.unusedSimpArgs false
@[reducible] def srvV (s:pm.Srv):Value:=.agg #[.int .i64 s.q,.int .i64 s.p,.int .i64 s.bud,.int .i64 s.due,.int .i64 s.mode]
section
variable {m:Mem} {Q:Value→Mem→Prop}
theorem leaf {r r':Value} {m m':Mem} (h:∀ m',Keep m m'→Q r m') (k:Keep m m') (e:r=r'):Q r' m':=e ▸ h m' k
theorem tGood_ok {x:Int} (hw:Wf m) (h:∀ m',Keep m m'→Q (.bool (pm.tGood x)) m'):CallV cx n_tick_Good [.int .i64 x] m Q:=by
 apply G_tick_Good_ok; unfold G_tick_Good
 refine split_b (fun h1=>?_) (fun h1=>?_)
 ·exact leaf h (Keep.refl hw) (by simp [pm.tGood,h1])
 ·exact leaf h (Keep.refl hw) (by simp [pm.tGood,h1])
theorem tgood_ok {x:Int} (hw:Wf m) (h:∀ m',Keep m m'→Q (.tuple #[.int .i64 (pm.tgood x).1,.bool (pm.tgood x).2]) m'):CallV cx n_tick_good [.int .i64 x] m Q:=by
 apply G_tick_good_ok; unfold G_tick_good
 refine tGood_ok hw fun m1 k1=>⟨_,rfl,?_⟩
 refine split_nb (fun h1=>?_) (fun h1=>?_)
 ·exact leaf h k1 (by simp [pm.tgood,h1])
 ·exact leaf h k1 (by simp [pm.tgood,h1])
theorem tIn_ok {x a b:Int} (hw:Wf m) (h:∀ m',Keep m m'→Q (.bool (pm.tIn x a b)) m'):CallV cx n_tick_in [.int .i64 x,.int .i64 a,.int .i64 b] m Q:=by
 apply G_tick_in_ok; unfold G_tick_in
 refine split_b (fun h1=>?_) (fun h1=>?_)
 ·exact leaf h (Keep.refl hw) (by simp [pm.tIn,h1])
 ·exact leaf h (Keep.refl hw) (by simp [pm.tIn,h1])
theorem tAdd_ok {a b:Int} (hw:Wf m) (h:∀ m',Keep m m'→Q (.tuple #[.int .i64 (pm.tAdd a b).1,.bool (pm.tAdd a b).2]) m'):CallV cx n_tick_Add [.int .i64 a,.int .i64 b] m Q:=by
 apply G_tick_Add_ok; unfold G_tick_Add joinK; dsimp only
 refine tGood_ok hw fun m1 k1=>⟨_,rfl,?_⟩
 refine split_nb (fun h1=>?_) (fun h1=>?_)
 ·exact leaf h k1 (by simp [pm.tAdd,h1])
 refine tGood_ok k1.wf fun m2 k2=>⟨_,rfl,?_⟩
 refine split_nb (fun h2=>?_) (fun h2=>?_)
 ·exact leaf h (k1.trans k2) (by simp [pm.tAdd,h1,h2])
 refine tgood_ok k2.wf fun m3 k3=>⟨_,_,rfl,?_⟩
 exact leaf h ((k1.trans k2).trans k3) (by simp [pm.tAdd,h1,h2])
theorem tIn_pos {x b:Int} (h:pm.tIn x 1 b=true):x≠0:=by
 unfold pm.tIn at h
 simp only [Bool.and_eq_true,leI_true] at h
 omega
theorem tShare_ok {a b c:Int} (hw:Wf m) (h:∀ m',Keep m m'→Q (.tuple #[.int .i64 (pm.tShare a b c).1,.bool (pm.tShare a b c).2]) m'):CallV cx n_tick_Share [.int .i64 a,.int .i64 b,.int .i64 c] m Q:=by
 apply G_tick_Share_ok; unfold G_tick_Share joinK; dsimp only
 refine tIn_ok hw fun m1 k1=>⟨_,rfl,?_⟩
 refine split_nb (fun h1=>?_) (fun h1=>?_)
 ·exact leaf h k1 (by simp [pm.tShare,h1])
 refine tIn_ok k1.wf fun m2 k2=>⟨_,rfl,?_⟩
 refine split_nb (fun h2=>?_) (fun h2=>?_)
 ·exact leaf h (k1.trans k2) (by simp [pm.tShare,h1,h2])
 refine tIn_ok k2.wf fun m3 k3=>⟨_,rfl,?_⟩
 refine split_nb (fun h3=>?_) (fun h3=>?_)
 ·exact leaf h ((k1.trans k2).trans k3) (by simp [pm.tShare,h1,h2,h3])
 ·exact ⟨tIn_pos h2,leaf h ((k1.trans k2).trans k3) (by simp [pm.tShare,h1,h2,h3])⟩
theorem tUp_ok {a b c:Int} (hw:Wf m) (h:∀ m',Keep m m'→Q (.tuple #[.int .i64 (pm.tUp a b c).1,.bool (pm.tUp a b c).2]) m'):CallV cx n_tick_Up [.int .i64 a,.int .i64 b,.int .i64 c] m Q:=by
 apply G_tick_Up_ok; unfold G_tick_Up joinK; dsimp only
 refine tGood_ok hw fun m1 k1=>⟨_,rfl,?_⟩
 refine split_nb (fun h1=>?_) (fun h1=>?_)
 ·exact leaf h k1 (by simp [pm.tUp,h1])
 refine tGood_ok k1.wf fun m2 k2=>⟨_,rfl,?_⟩
 refine split_nb (fun h2=>?_) (fun h2=>?_)
 ·exact leaf h (k1.trans k2) (by simp [pm.tUp,h1,h2])
 refine tIn_ok k2.wf fun m3 k3=>⟨_,rfl,?_⟩
 have k:=(k1.trans k2).trans k3
 refine split_nb (fun h3=>?_) (fun h3=>?_)
 ·exact leaf h k (by simp [pm.tUp,h1,h2,h3])
 refine split_b (fun h4=>?_) (fun h4=>?_)
 ·exact leaf h k (by simp [pm.tUp,h1,h2,h3,h4])
 refine ⟨tIn_pos h3,tgood_ok k3.wf fun m4 k4=>⟨_,_,rfl,?_⟩⟩
 exact leaf h (k.trans k4) (by simp [pm.tUp,h1,h2,h3,h4])
theorem pair_ok {q p:Int} (hw:Wf m) (h:∀ m',Keep m m'→Q (.bool (pm.pair q p)) m'):CallV cx n_cbs_pair [.int .i64 q,.int .i64 p] m Q:=by
 apply G_cbs_pair_ok; unfold G_cbs_pair
 refine split_b (fun h1=>split_b (fun h2=>split_b (fun h3=>?_) (fun h3=>?_)) (fun h2=>?_)) (fun h1=>?_)
 ·exact leaf h (Keep.refl hw) (by simp [pm.pair,h1,h2,h3])
 ·exact leaf h (Keep.refl hw) (by simp [pm.pair,h1,h2,h3])
 ·exact leaf h (Keep.refl hw) (by simp [pm.pair,h1,h2])
 ·exact leaf h (Keep.refl hw) (by simp [pm.pair,h1])
theorem cNew_ok {q p:Int} (hw:Wf m) (h:∀ m',Keep m m'→Q (.tuple #[srvV (pm.cNew q p).1,.int .i64 (pm.cNew q p).2]) m'):CallV cx n_cbs_New [.int .i64 q,.int .i64 p] m Q:=by
 apply G_cbs_New_ok; unfold G_cbs_New
 refine pair_ok hw.bump fun m1 k1=>⟨_,rfl,?_⟩
 have k:=(Keep.refl hw).bump.trans k1
 refine split_nb (fun h1=>?_) (fun h1=>?_)
 ·exact leaf h k (by simp [pm.cNew,h1])
 ·exact leaf h k (by simp [pm.cNew,h1])
theorem cGood_ok {q p b d mo:Int} (hw:Wf m) (h:∀ m',Keep m m'→Q (.bool (pm.cGood ⟨q,p,b,d,mo⟩)) m'):CallV cx n_cbs_Good [.agg #[.int .i64 q,.int .i64 p,.int .i64 b,.int .i64 d,.int .i64 mo]] m Q:=by
 apply G_cbs_Good_ok; unfold G_cbs_Good
 refine pair_ok hw.bump fun m1 k1=>⟨_,rfl,?_⟩
 have k:=(Keep.refl hw).bump.trans k1
 refine split_b (fun h1=>split_b (fun h2=>split_b (fun h3=>?_) (fun h3=>?_)) (fun h2=>?_)) (fun h1=>?_)
 ·refine tGood_ok k1.wf fun m2 k2=>⟨_,rfl,?_⟩
  have k:=k.trans k2
  refine split_b (fun h4=>split_b (fun h5=>split_b (fun h6=>split_b (fun h7=>?_) (fun h7=>?_)) (fun h6=>?_)) (fun h5=>?_)) (fun h4=>?_)
  ·exact leaf h k (by simp [pm.cGood,h1,h2,h3,h4,h5,h6,h7])
  ·exact leaf h k (by simp [pm.cGood,h1,h2,h3,h4,h5,h6,h7])
  ·exact leaf h k (by simp [pm.cGood,h1,h2,h3,h4,h5,h6])
  ·exact leaf h k (by simp [pm.cGood,h1,h2,h3,h4,h5])
  ·exact leaf h k (by simp [pm.cGood,h1,h2,h3,h4])
 ·exact leaf h k (by simp [pm.cGood,h1,h2,h3])
 ·exact leaf h k (by simp [pm.cGood,h1,h2])
 ·exact leaf h k (by simp [pm.cGood,h1])
theorem cReady_ok {q p b d mo:Int} (hw:Wf m) (h:∀ m',Keep m m'→Q (srvV (pm.cReady ⟨q,p,b,d,mo⟩)) m'):CallV cx n_cbs_ready [.agg #[.int .i64 q,.int .i64 p,.int .i64 b,.int .i64 d,.int .i64 mo]] m Q:=by
 apply G_cbs_ready_ok; unfold G_cbs_ready
 refine split_b (fun h1=>?_) (fun h1=>?_)
 ·exact leaf h (Keep.refl hw).bump (by simp [pm.cReady,h1])
 ·exact leaf h (Keep.refl hw).bump (by simp [pm.cReady,h1])
theorem cUse_ok {q p b d mo x:Int} (hw:Wf m) (h:∀ m',Keep m m'→Q (.tuple #[srvV (pm.cUse ⟨q,p,b,d,mo⟩ x).1,.int .i64 (pm.cUse ⟨q,p,b,d,mo⟩ x).2]) m'):CallV cx n_cbs_Use [.agg #[.int .i64 q,.int .i64 p,.int .i64 b,.int .i64 d,.int .i64 mo],.int .i64 x] m Q:=by
 apply G_cbs_Use_ok; unfold G_cbs_Use joinK; dsimp only
 refine cGood_ok hw.bump fun m1 k1=>⟨_,rfl,?_⟩
 have k:=(Keep.refl hw).bump.trans k1
 refine split_nb (fun h1=>?_) (fun h1=>?_)
 ·rw [splitB_true]; exact leaf h k (by simp [pm.cUse,h1])
 refine split_b (fun h2=>?_) (fun h2=>?_)
 ·rw [splitB_true]; exact leaf h k (by simp [pm.cUse,h1,h2])
 refine split_b (fun h3=>?_) (fun h3=>?_)
 ·exact leaf h k (by simp [pm.cUse,h1,h2,h3])
 ·refine split_ne (fun h4=>?_) (fun h4=>?_)
  ·have h4:=neI_true.2 h4
   exact leaf h k (by simp [pm.cUse,h1,h2,h3,h4])
  ·have h4:=neI_false.2 h4
   refine cReady_ok k1.wf fun m2 k2=>⟨_,_,_,_,_,rfl,?_⟩
   exact leaf h (k.trans k2) (by simp [pm.cUse,h1,h2,h3,h4])
theorem cIdle_ok {q p b d mo:Int} (hw:Wf m) (h:∀ m',Keep m m'→Q (.tuple #[srvV (pm.cIdle ⟨q,p,b,d,mo⟩).1,.int .i64 (pm.cIdle ⟨q,p,b,d,mo⟩).2]) m'):CallV cx n_cbs_Idle [.agg #[.int .i64 q,.int .i64 p,.int .i64 b,.int .i64 d,.int .i64 mo]] m Q:=by
 apply G_cbs_Idle_ok; unfold G_cbs_Idle
 refine cGood_ok hw.bump fun m1 k1=>⟨_,rfl,?_⟩
 have k:=(Keep.refl hw).bump.trans k1
 refine split_nb (fun h1=>?_) (fun h1=>split_b (fun h2=>?_) (fun h2=>?_))
 ·exact leaf h k (by simp [pm.cIdle,h1])
 ·exact leaf h k (by simp [pm.cIdle,h1,h2])
 ·exact leaf h k (by simp [pm.cIdle,h1,h2])
theorem cWait_ok {q p b d mo:Int} (hw:Wf m) (h:∀ m',Keep m m'→Q (.tuple #[srvV (pm.cWait ⟨q,p,b,d,mo⟩).1,.int .i64 (pm.cWait ⟨q,p,b,d,mo⟩).2]) m'):CallV cx n_cbs_Wait [.agg #[.int .i64 q,.int .i64 p,.int .i64 b,.int .i64 d,.int .i64 mo]] m Q:=by
 apply G_cbs_Wait_ok; unfold G_cbs_Wait
 refine cGood_ok hw.bump fun m1 k1=>⟨_,rfl,?_⟩
 have k:=(Keep.refl hw).bump.trans k1
 refine split_nb (fun h1=>?_) (fun h1=>split_b (fun h2=>?_) (fun h2=>?_))
 ·exact leaf h k (by simp [pm.cWait,h1])
 ·exact leaf h k (by simp [pm.cWait,h1,h2])
 ·exact leaf h k (by simp [pm.cWait,h1,h2])
theorem cTurn_ok {q p b d mo x:Int} (hw:Wf m) (h:∀ m',Keep m m'→Q (.tuple #[srvV (pm.cTurn ⟨q,p,b,d,mo⟩ x).1,.bool (pm.cTurn ⟨q,p,b,d,mo⟩ x).2]) m'):CallV cx n_cbs_Turn [.agg #[.int .i64 q,.int .i64 p,.int .i64 b,.int .i64 d,.int .i64 mo],.int .i64 x] m Q:=by
 apply G_cbs_Turn_ok; unfold G_cbs_Turn joinK; dsimp only
 refine cGood_ok hw.bump fun m1 k1=>⟨_,rfl,?_⟩
 have k:=(Keep.refl hw).bump.trans k1
 refine split_nb (fun h1=>?_) (fun h1=>?_)
 ·rw [splitB_true]; exact leaf h k (by simp [pm.cTurn,h1])
 refine split_b (fun h2=>?_) (fun h2=>?_)
 ·rw [splitB_true]; exact leaf h k (by simp [pm.cTurn,h1,h2])
 refine split_b (fun h3=>?_) (fun h3=>?_)
 ·exact leaf h k (by simp [pm.cTurn,h1,h2,h3])
 refine tUp_ok k1.wf fun m2 k2=>⟨_,_,rfl,?_⟩
 have k:=k.trans k2
 refine split_nb (fun h4=>?_) (fun h4=>?_)
 ·exact leaf h k (by simp [pm.cTurn,h1,h2,h3,h4])
 refine cReady_ok k2.wf fun m3 k3=>⟨_,_,_,_,_,rfl,?_⟩
 exact leaf h (k.trans k3) (by simp [pm.cTurn,h1,h2,h3,h4])
theorem cWake_ok {q p b d mo x:Int} (hw:Wf m) (h:∀ m',Keep m m'→Q (.tuple #[srvV (pm.cWake ⟨q,p,b,d,mo⟩ x).1,.int .i64 (pm.cWake ⟨q,p,b,d,mo⟩ x).2]) m'):CallV cx n_cbs_Wake [.agg #[.int .i64 q,.int .i64 p,.int .i64 b,.int .i64 d,.int .i64 mo],.int .i64 x] m Q:=by
 apply G_cbs_Wake_ok; unfold G_cbs_Wake joinK; dsimp only
 refine cGood_ok hw.bump fun m1 k1=>⟨_,rfl,?_⟩
 have k:=(Keep.refl hw).bump.trans k1
 refine split_nb (fun h1=>?_) (fun h1=>?_)
 ·rw [splitB_true]; exact leaf h k (by simp [pm.cWake,h1])
 refine tGood_ok k1.wf fun m2 k2=>⟨_,rfl,?_⟩
 have k:=k.trans k2
 refine split_nb (fun h2=>?_) (fun h2=>?_)
 ·exact leaf h k (by simp [pm.cWake,h1,h2])
 refine split_b (fun h3=>?_) (fun h3=>?_)
 ·exact leaf h k (by simp [pm.cWake,h1,h2,h3])
 refine split_b (fun h4=>?_) (fun h4=>?_)
 ·refine tAdd_ok k2.wf fun m3 k3=>⟨_,_,rfl,?_⟩
  have k:=k.trans k3
  refine split_nb (fun h5=>?_) (fun h5=>?_)
  ·exact leaf h k (by simp [pm.cWake,h1,h2,h3,h4,h5])
  refine cReady_ok k3.wf fun m4 k4=>⟨_,_,_,_,_,rfl,?_⟩
  exact leaf h (k.trans k4) (by simp [pm.cWake,h1,h2,h3,h4,h5])
 ·refine split_b (fun h5=>?_) (fun h5=>?_)
  ·refine tShare_ok k2.wf fun m3 k3=>⟨_,_,rfl,?_⟩
   have k:=k.trans k3
   refine cReady_ok k3.wf fun m4 k4=>⟨_,_,_,_,_,rfl,?_⟩
   exact leaf h (k.trans k4) (by simp [pm.cWake,h1,h2,h3,h4,h5])
  ·refine cReady_ok k2.wf fun m4 k4=>⟨_,_,_,_,_,rfl,?_⟩
   exact leaf h (k.trans k4) (by simp [pm.cWake,h1,h2,h3,h4,h5])
theorem gWorst_ok {a b:Int} (hw:Wf m) (h:∀ m',Keep m m'→Q (.tuple #[.int .i64 (pm.gWorst a b).1,.int .i64 (pm.gWorst a b).2.1,.bool (pm.gWorst a b).2.2]) m'):CallV cx n_gate_Worst [.int .i64 a,.int .i64 b] m Q:=by
 apply G_gate_Worst_ok; unfold G_gate_Worst joinK; dsimp only
 have k:=Keep.refl hw
 refine split_b (fun h1=>?_) (fun h1=>split_b (fun h2=>?_) (fun h2=>split_b (fun h3=>?_) (fun h3=>split_b (fun h4=>?_) (fun h4=>?_))))
 ·rw [splitB_true]; exact leaf h k (by simp [pm.gWorst,h1])
 ·rw [splitB_true]; exact leaf h k (by simp [pm.gWorst,h1,h2])
 ·rw [splitB_true]; exact leaf h k (by simp [pm.gWorst,h1,h2,h3])
 ·exact leaf h k (by simp [pm.gWorst,h1,h2,h3,h4])
 ·exact leaf h k (by simp [pm.gWorst,h1,h2,h3,h4])
theorem gEnough_ok {a b c d:Int} (hw:Wf m) (h:∀ m',Keep m m'→Q (.bool (pm.gEnough a b c d)) m'):CallV cx n_gate_Enough [.int .i64 a,.int .i64 b,.int .i64 c,.int .i64 d] m Q:=by
 apply G_gate_Enough_ok; unfold G_gate_Enough
 refine gWorst_ok hw fun m1 k1=>⟨_,_,_,rfl,?_⟩
 refine split_b (fun h1=>split_b (fun h2=>?_) (fun h2=>?_)) (fun h1=>?_)
 ·exact leaf h k1 (by simp [pm.gEnough,h1,h2])
 ·exact leaf h k1 (by simp [pm.gEnough,h1,h2])
 ·exact leaf h k1 (by simp [pm.gEnough,h1])
theorem isNaN_int {x:Int} (h:Q (.bool false) m):CallV cx n_cmp_isNaN_int [.int .i64 x] m Q:=by
 apply G_cmp_isNaN_int_ok; unfold G_cmp_isNaN_int; rw [neI_self]; exact h
theorem compare_int {x y:Int} (h:Q (.int .i64 (pl.c2 x y)) m):CallV cx n_cmp_Compare_int [.int .i64 x,.int .i64 y] m Q:=by
 apply G_cmp_Compare_int_ok; unfold G_cmp_Compare_int
 refine isNaN_int ⟨_,rfl,isNaN_int ⟨_,rfl,?_⟩⟩
 unfold pl.c2 at h
 rw [splitB_false,splitB_false]
 simp only [splitB_iff,ltI_true,ltI_false]
 exact ⟨fun e=>by rw [if_pos e] at h; exact h,fun e=>⟨fun e2=>by rw [if_neg (by omega),if_pos e2] at h; exact h,fun e2=>by rw [if_neg (by omega),if_neg (by omega)] at h; exact h⟩⟩
end
end Go.Proofs.YtiehbnmpaeedpaaGreat.vc
namespace Go.Proofs.YtiehbnmpaeedpaaGreat.vc
open Go Go.AX
set_option linter.unusedVariables false
set_option linter.unusedSimpArgs false
@[reducible] def jobV (j:pm.Job) (a:Option Addr) (n c:Nat):Value:=.agg #[.int .i64 j.num,.slice a n c,.int .i64 j.at_,.int .i64 j.done]
theorem leI_idx {α : Type} {f:α→Bool} {l:List α}:leI 0 (match l.findIdx? f with | some i=>(i:Int) | none=>-1)=l.any f:=by
 cases h:l.findIdx? f with
 | none=>
  rw [List.findIdx?_eq_none_iff] at h
  have:l.any f=false:=List.any_eq_false.2 fun x hx=>by rw [h x hx]; simp
  rw [this]; simp [leI]
 | some i=>
  obtain ⟨hi,h1,_⟩:=List.findIdx?_eq_some_iff_getElem.1 h
  have:l.any f=true:=List.any_eq_true.2 ⟨_,List.getElem_mem hi,h1⟩
  rw [this]; simp [leI]
section
variable {m:Mem} {Q:Value→Mem→Prop}
theorem idxP_ok {v:Value} {f:pm.Step→Bool} {a:Option Addr} {n c:Nat} {l:List pm.Step} (hw:Wf m) (ha:Arr encP 2 m a n l) (hn:n≤4611686018427387904)
  (hf:∀ x m1 (R:Value→Mem→Prop),Keep m m1→(∀ m2,Keep m1 m2→R (.bool (f x)) m2)→vCallFV cx m1 v [.agg #[.int .i64 x.1,.int .i64 x.2]] R)
  (h:∀ m',Keep m m'→Q (.int .i64 (match l.findIdx? f with | some i=>(i:Int) | none=>-1)) m'):CallV cx n_slices_IndexFunc_prog_Prog [.slice a n c,v] m Q:=by
 apply G_slices_IndexFunc_prog_Prog_ok; unfold G_slices_IndexFunc_prog_Prog
 refine forN hn (fun k m1=>Keep m m1∧∀ j x,j < k→l[j]? = some x→f x=false) ⟨Keep.refl hw,fun j x hj=>by omega⟩ ?_
 rintro k m1 hk ⟨k1,hb⟩ I w hI
 refine split_lt (fun hlt=>?_) (fun hge=>?_)
 ·obtain ⟨x,hx⟩:=ha.get hlt
  refine ha.open hx fun b o hc=>?_
  have hc1:=hc.keep hw k1
  refine ⟨x.1,hc1 0 _ rfl,x.2,hc1 1 _ rfl,hf x m1 _ k1 fun m2 k2=>⟨_,rfl,split_b (fun h1=>?_) (fun h1=>?_)⟩⟩
  ·refine leaf h (k1.trans k2) ?_
   obtain ⟨hlk1,hlk2⟩:=(List.getElem?_eq_some_iff.1 hx)
   have:l.findIdx? f=some k:=List.findIdx?_eq_some_iff_getElem.2 ⟨hlk1,by rw [hlk2]; exact h1,fun j hj=>by rw [hb j _ hj (List.getElem?_eq_getElem (by omega))]; simp⟩
   rw [this]
  ·exact hI m2 hlt ⟨k1.trans k2,fun j y hj hy=>by
    by_cases e:j=k
    ·subst e; rw [hx] at hy; cases hy; exact h1
    ·exact hb j y (by omega) hy⟩
 ·refine leaf h k1 ?_
  have:l.findIdx? f=none:=List.findIdx?_eq_none_iff.2 fun x hx=>by
   obtain ⟨i,hi⟩:=List.getElem?_of_mem hx
   have:=(List.getElem?_eq_some_iff.1 hi).1
   exact hb i x (by have:=ha.1; omega) hi
  rw [this]
theorem anyP_ok {v:Value} {f:pm.Step→Bool} {a:Option Addr} {n c:Nat} {l:List pm.Step} (hw:Wf m) (ha:Arr encP 2 m a n l) (hn:n≤4611686018427387904)
  (hf:∀ x m1 (R:Value→Mem→Prop),Keep m m1→(∀ m2,Keep m1 m2→R (.bool (f x)) m2)→vCallFV cx m1 v [.agg #[.int .i64 x.1,.int .i64 x.2]] R)
  (h:∀ m',Keep m m'→Q (.bool (l.any f)) m'):CallV cx n_slices_ContainsFunc_prog_Prog [.slice a n c,v] m Q:=by
 apply G_slices_ContainsFunc_prog_Prog_ok; unfold G_slices_ContainsFunc_prog_Prog
 refine idxP_ok hw ha hn hf fun m1 k1=>⟨_,rfl,?_⟩
 rw [leI_idx]; exact h m1 k1
theorem pOdd_ok {x y:Int} (hw:Wf m) (h:∀ m',Keep m m'→Q (.bool (pm.pOdd (x,y))) m'):CallV cx n_prog_Good_1 [.agg #[.int .i64 x,.int .i64 y]] m Q:=by
 apply G_prog_Good_1_ok; unfold G_prog_Good_1
 have k:Keep m (bump m 1):=(Keep.refl hw).bump
 refine split_b (fun h1=>?_) (fun h1=>split_b (fun h2=>?_) (fun h2=>split_b (fun h3=>?_) (fun h3=>?_)))
 ·exact leaf h k (by simp [pm.pOdd,h1])
 ·exact leaf h k (by simp [pm.pOdd,h1,h2])
 ·exact leaf h k (by simp [pm.pOdd,h1,h2,h3])
 ·exact leaf h k (by simp [pm.pOdd,h1,h2,h3])
theorem pGood_ok {a:Option Addr} {n c:Nat} {p:List pm.Step} (hw:Wf m) (ha:Arr encP 2 m a n p) (h:∀ m',Keep m m'→Q (.bool (pm.pGood p)) m'):CallV cx n_prog_Good [.slice a n c] m Q:=by
 apply G_prog_Good_ok; unfold G_prog_Good
 have hl:=ha.1
 subst hl
 refine split_b (fun h1=>split_b (fun h2=>?_) (fun h2=>?_)) (fun h1=>?_)
 ·refine anyP_ok (f:=pm.pOdd) hw ha (by have:=leI_true.1 h2; simp [lenI] at this; omega) (fun x m1 R k1 hR=>pOdd_ok k1.wf hR) fun m1 k1=>⟨_,rfl,?_⟩
  exact leaf h k1 (by simp [pm.pGood,h1,h2])
 ·exact leaf h (Keep.refl hw) (by simp [pm.pGood,h1,h2])
 ·exact leaf h (Keep.refl hw) (by simp [pm.pGood,h1])
theorem pGood_len {p:List pm.Step} (h:pm.pGood p=true):1≤p.length∧p.length≤8:=by
 unfold pm.pGood at h
 simp only [Bool.and_eq_true,leI_true,lenI] at h
 omega
theorem pFits_ok {a a2:Option Addr} {n c n2 c2:Nat} {p:List pm.Step} (hw:Wf m) (ha:Arr encP 2 m a n p) (h:∀ m',Keep m m'→Q (.bool (pm.pFits p n2)) m'):CallV cx n_prog_Fits [.slice a n c,.slice a2 n2 c2] m Q:=by
 apply G_prog_Fits_ok; unfold G_prog_Fits
 rw [mBind_iff]
 have k0:Keep m (newO m (row [.slice a2 n2 c2] t_sl_int64 false)):=(Keep.refl hw).newO
 have hR:Row (newO m (row [.slice a2 n2 c2] t_sl_int64 false)) m.nx [.slice a2 n2 c2] t_sl_int64 false:=Row.newO
 generalize newO m (row [.slice a2 n2 c2] t_sl_int64 false)=m0 at k0 hR
 have ha0:=ha.keep hw k0
 refine pGood_ok k0.wf ha0 fun m1 k1=>⟨_,rfl,split_b (fun h1=>?_) (fun h1=>?_)⟩
 ·have hR1:=k1.row k0.wf hR
  refine anyP_ok (f:=fun s=>ltI (lenI n2) s.1) k1.wf (ha0.keep k0.wf k1) (by have:=pGood_len h1; have:=ha.1; omega) (fun x m2 R k2 hRR=>?_) fun m2 k2=>⟨_,rfl,?_⟩
  ·show CallV cx n_prog_Fits_1 [.agg #[.int .i64 x.1,.int .i64 x.2],.pointer (some ⟨m.nx,0,none⟩)] m2 R
   apply G_prog_Fits_1_ok; unfold G_prog_Fits_1
   rw [vPtr_some]
   refine ⟨a2,n2,c2,by rw [rd_bump,(k2.row k1.wf hR1).rd]; rfl,hRR _ (Keep.refl k2.wf).bump⟩
  ·exact leaf h ((k0.trans k1).trans k2) (by simp [pm.pFits,h1])
 ·exact leaf h (k0.trans k1) (by simp [pm.pFits,h1])
theorem cur_get {j:pm.Job} {k:Nat} (h:j.at_=(k:Int)) (hk:k < j.prog.length):j.prog[k]? = some j.cur:=by
 unfold pm.Job.cur
 rw [h,Int.toNat_natCast,List.getD_eq_getElem?_getD,List.getElem?_eq_getElem hk]; rfl
theorem jGood_ok {num at_ done:Int} {a:Option Addr} {n c:Nat} {p:List pm.Step} (hw:Wf m) (ha:Arr encP 2 m a n p) (h:∀ m',Keep m m'→Q (.bool (pm.jGood ⟨num,p,at_,done⟩)) m') :
  CallV cx n_job_Good [.agg #[.int .i64 num,.slice a n c,.int .i64 at_,.int .i64 done]] m Q:=by
 apply G_job_Good_ok; unfold G_job_Good joinK; dsimp only
 have k0:Keep m (bump m 1):=(Keep.refl hw).bump
 have hl:=ha.1
 refine split_b (fun h1=>?_) (fun h1=>?_)
 ·exact leaf h k0 (by simp [pm.jGood,h1])
 refine pGood_ok k0.wf (ha.keep hw k0) fun m1 k1=>⟨_,rfl,?_⟩
 have k:=k0.trans k1
 refine split_nb (fun h2=>?_) (fun h2=>?_)
 ·exact leaf h k (by simp [pm.jGood,h1,h2])
 refine split_b (fun h3=>?_) (fun h3=>?_)
 ·exact leaf h k (by simp [pm.jGood,h1,h2,h3])
 subst hl
 refine split_b (fun h4=>?_) (fun h4=>?_)
 ·exact leaf h k (by simp [pm.jGood,h1,h2,h3,h4])
 refine split_b (fun h5=>?_) (fun h5=>?_)
 ·exact leaf h k (by simp [pm.jGood,h1,h2,h3,h4,h5])
 refine split_b (fun h6=>?_) (fun h6=>?_)
 ·exact leaf h k (by simp [pm.jGood,h1,h2,h3,h4,h5,h6])
 ·have g3:=ltI_false.1 h3
  have g4:=ltI_false.1 h4
  have g6:=eqI_false.1 h6
  simp only [lenI] at g4 g6
  obtain ⟨i,rfl⟩:∃ i:Nat,at_=(i:Int):=⟨at_.toNat,by omega⟩
  have hlt:i < p.length:=by omega
  have hx:=cur_get (j:=⟨num,p,(i:Int),done⟩) rfl hlt
  refine ha.open hx fun b o hc=>?_
  refine ⟨_,rd_keep (k.bump (n:=11)) hw (hc 1 _ rfl),?_⟩
  exact leaf h k.bump (by simp [pm.jGood,h1,h2,h3,h4,h5,h6])
theorem jStep_ok {num at_ done:Int} {a:Option Addr} {n c:Nat} {p:List pm.Step} (hw:Wf m) (ha:Arr encP 2 m a n p) (h:∀ m',Keep m m'→Q (.tuple #[.agg #[.int .i64 (pm.jStep ⟨num,p,at_,done⟩).1.1,.int .i64 (pm.jStep ⟨num,p,at_,done⟩).1.2],.bool (pm.jStep ⟨num,p,at_,done⟩).2]) m') :
  CallV cx n_job_Step [.agg #[.int .i64 num,.slice a n c,.int .i64 at_,.int .i64 done]] m Q:=by
 apply G_job_Step_ok; unfold G_job_Step joinK; dsimp only
 have k0:Keep m (bump m 2):=(Keep.refl hw).bump
 have hl:=ha.1
 refine jGood_ok k0.wf (ha.keep hw k0) fun m1 k1=>⟨_,rfl,?_⟩
 have k:=k0.trans k1
 subst hl
 refine split_nb (fun h1=>?_) (fun h1=>?_)
 ·rw [splitB_true]; exact leaf h k (by simp [pm.jStep,h1])
 refine split_b (fun h2=>?_) (fun h2=>?_)
 ·exact leaf h k (by simp [pm.jStep,h1,h2])
 ·have g:=h1
  unfold pm.jGood at g
  simp only [Bool.and_eq_true,Bool.not_eq_true'] at g
  obtain ⟨_,_,g3,g4,_⟩:=g
  have g3:=ltI_false.1 g3
  have g4:=ltI_false.1 g4
  have g6:=eqI_false.1 h2
  simp only [lenI] at g4 g6
  obtain ⟨i,rfl⟩:∃ i:Nat,at_=(i:Int):=⟨at_.toNat,by omega⟩
  have hlt:i < p.length:=by omega
  have hx:=cur_get (j:=⟨num,p,(i:Int),done⟩) rfl hlt
  refine ha.open hx fun b o hc=>?_
  refine ⟨_,rd_keep k hw (hc 0 _ rfl),_,rd_keep k hw (hc 1 _ rfl),?_⟩
  exact leaf h k (by simp [pm.jStep,h1,h2])
theorem jRun_ok {num at_ done x:Int} {a:Option Addr} {n c:Nat} {p:List pm.Step} (hw:Wf m) (ha:Arr encP 2 m a n p)
  (h:∀ m',Keep m m'→Q (.tuple #[jobV (pm.jRun ⟨num,p,at_,done⟩ x).1 a n c,.int .i64 (pm.jRun ⟨num,p,at_,done⟩ x).2]) m') :
  CallV cx n_job_Run [.agg #[.int .i64 num,.slice a n c,.int .i64 at_,.int .i64 done],.int .i64 x] m Q:=by
 apply G_job_Run_ok; unfold G_job_Run
 have k0:Keep m (bump m 2):=(Keep.refl hw).bump
 refine jStep_ok k0.wf (ha.keep hw k0) fun m1 k1=>⟨_,_,_,rfl,?_⟩
 have k:=(k0.trans k1).bump (n:=1)
 refine split_nb (fun h1=>?_) (fun h1=>?_)
 ·exact leaf h k (by simp [pm.jRun,h1])
 ·exact leaf h k (by simp [pm.jRun,h1])
theorem jNext_ok {num at_ done:Int} {a:Option Addr} {n c:Nat} {p:List pm.Step} (hw:Wf m) (ha:Arr encP 2 m a n p)
  (h:∀ m',Keep m m'→Q (.tuple #[jobV (pm.jNext ⟨num,p,at_,done⟩).1 a n c,.bool (pm.jNext ⟨num,p,at_,done⟩).2]) m') :
  CallV cx n_job_Next [.agg #[.int .i64 num,.slice a n c,.int .i64 at_,.int .i64 done]] m Q:=by
 apply G_job_Next_ok; unfold G_job_Next joinK; dsimp only
 have k0:Keep m (bump m 2):=(Keep.refl hw).bump
 refine jStep_ok k0.wf (ha.keep hw k0) fun m1 k1=>⟨_,_,_,rfl,?_⟩
 have k:=(k0.trans k1).bump (n:=1)
 refine split_nb (fun h1=>?_) (fun h1=>?_)
 ·rw [splitB_true]; exact leaf h k (by simp [pm.jNext,h1])
 refine split_b (fun h2=>?_) (fun h2=>?_)
 ·exact leaf h k (by simp [pm.jNext,h1,h2])
 ·exact leaf h k (by simp [pm.jNext,h1,h2])
theorem jNew_ok {num:Int} {a:Option Addr} {n c:Nat} {p:List pm.Step} (hw:Wf m) (ha:Arr encP 2 m a n p) (hg:pm.pGood p=true)
  (h:∀ m' a' c',Keep m m'→Arr encP 2 m' a' n (pm.jNew num p).1.prog∨(pm.jNew num p).2=false→(∀ b∈blk a',m.nx≤b)→Q (.tuple #[jobV (pm.jNew num p).1 (bif (pm.jNew num p).2 then a' else none) (bif (pm.jNew num p).2 then n else 0) (bif (pm.jNew num p).2 then c' else 0),.bool (pm.jNew num p).2]) m') :
  CallV cx n_job_New [.int .i64 num,.slice a n c] m Q:=by
 apply G_job_New_ok; unfold G_job_New joinK; dsimp only
 have k0:Keep m (bump m 1):=(Keep.refl hw).bump
 refine pGood_ok k0.wf (ha.keep hw k0) fun m1 k1=>⟨_,rfl,?_⟩
 have k:=k0.trans k1
 have hl:=ha.1
 refine split_nb (fun h1=>?_) (fun h1=>?_)
 ·rw [hg] at h1; cases h1
 refine split_b (fun h2=>?_) (fun h2=>?_)
 ·have:=h m1 none 0 k (.inr (by simp [pm.jNew,h1,h2])) (fun b hb=>by cases hb)
  simpa [pm.jNew,h1,h2] using this
 ·rw [mBind_iff]
  have k2:Keep m (newO m1 (row [] t_prog_Step false)):=k.newO
  have hb:(newO m1 (row [] t_prog_Step false)).hp.get m1.nx=some (row [] t_prog_Step false):=by rw [newO_get,if_pos rfl]
  generalize newO m1 (row [] t_prog_Step false)=m2 at k2 hb
  have ha2:=ha.keep hw k2
  have hlen:=pGood_len hg
  have hap:=append_new (cx:=cx) (t:=t_prog_Prog) (e:=t_prog_Step) (s:=2) (m:=m2) (n:=0) (k:=n) (c:=0) (ck:=c) (a:=some ⟨m1.nx,0,none⟩) (v:=a) (old:=[]) (new:=p.flatMap encP) (by kernel_rfl)
   (by unfold giveUp; simp only [hb,row]) rfl (by simp) (ha2.first encP_len (by omega)) (by rw [flat_length encP_len,hl]) (by
    rw [List.all_eq_true]
    intro v hv
    obtain ⟨x,_,hx⟩:=List.mem_flatMap.1 hv
    simp [encP] at hx
    rcases hx with rfl | rfl <;> rfl) (by omega) (by omega)
  rw [List.nil_append,Nat.zero_add] at hap
  refine ⟨_,_,_,_,hap,?_⟩
  have k3:Keep m (newO m2 (row (p.flatMap encP) t_prog_Step true)):=k2.newO
  have hR:Row (newO m2 (row (p.flatMap encP) t_prog_Step true)) m2.nx (p.flatMap encP) t_prog_Step true:=Row.newO
  have hA:=Arr.of_row encP_len hR
  rw [hl] at hA
  have e1:pm.jNew num p=(⟨num,p,0,0⟩,true):=by simp [pm.jNew,h1,h2]
  have:=h _ (some ⟨m2.nx,0,none⟩) n k3 (.inl (by rw [e1]; exact hA)) (fun b hb=>by simp [blk] at hb; subst hb; exact k2.nx)
  rw [e1] at this
  exact this
end
end Go.Proofs.YtiehbnmpaeedpaaGreat.vc
