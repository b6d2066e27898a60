import Derived.Test.YtiehbnmpaeedpaaGreatQJ40
import Derived.Test.YtiehbnmpaeedpaaGreatQJ35
import Derived.KernelRfl
import Derived.Test.YtiehbnmpaeedpaaGreatQJ39
import Derived.Test.YtiehbnmpaeedpaaGreatQJ29
set_option linter.unusedVariables false
set_option linter.unusedSimpArgs false
set_option linter.unusedSectionVars false
namespace Go.Proofs.YtiehbnmpaeedpaaGreat.vc
open Go Go.AX
section
variable {B:Int} {m:Mem} {Q:Value→Mem→Prop} {M now:Int} {a a' a1 a2 a3 b1 b2 b3:Option Addr} {n n' c c' n1 c1 n2 c2 n3 c3 n4 n5 n6 d1 d2 d3:Nat} {σ : pm.St}
theorem mOdd_ok {x:Int} (hw:Wf m) (h:∀ m',Keep m m'→Q (.bool (pm.mOdd x)) m'):CallV cx n_model_New_1 [.int .i64 x] m Q:=by
 apply G_model_New_1_ok; unfold G_model_New_1
 refine split_b (fun h1=>?_) (fun h1=>?_)
 ·exact leaf h (Keep.refl hw) (by unfold pm.mOdd; rw [h1]; rfl)
 ·exact leaf h (Keep.refl hw) (by unfold pm.mOdd; rw [h1]; rfl)
theorem idxM_ok {l:List Int} (hw:Wf m) (ha:Arr encI 1 m a n l) (hn:n≤4611686018427387904)
  (h:∀ m',Keep m m'→Q (.int .i64 (match l.findIdx? pm.mOdd with | some i=>(i:Int) | none=>-1)) m'):CallV cx n_slices_IndexFunc_sl_int64 [.slice a n c,.func (.func n_model_New_1) #[] #[]] m Q:=by
 apply G_slices_IndexFunc_sl_int64_ok; unfold G_slices_IndexFunc_sl_int64
 refine forN hn (fun k mm=>Keep m mm∧∀ x∈l.take k,pm.mOdd x=false) ⟨Keep.refl hw,by simp⟩ ?_
 rintro k m1 hk ⟨k1,hno⟩ I w hI
 refine split_lt (fun hlt=>?_) (fun hge=>?_)
 ·obtain ⟨x,hx⟩:∃ x,l[k]? = some x:=⟨_,List.getElem?_eq_getElem (by rw [ha.1]; exact hlt)⟩
  have hkl:=(List.getElem?_eq_some_iff.1 hx).1
  refine (ha.keep hw k1).open (k:=k) hx fun b o hc=>⟨_,hc 0 _ rfl,?_⟩
  refine mOdd_ok k1.wf fun m2 k2=>⟨_,rfl,?_⟩
  refine split_b (fun ht=>?_) (fun ht=>?_)
  ·have e:l.findIdx? pm.mOdd=some k:=by
    rw [List.findIdx?_eq_some_iff_getElem]
    refine ⟨hkl,by rw [← (List.getElem?_eq_some_iff.1 hx).2] at ht; exact ht,fun j hj=>?_⟩
    have:=hno l[j] (List.mem_of_getElem? (i:=j) (by rw [List.getElem?_take,if_pos hj,List.getElem?_eq_getElem (by omega)]))
    rw [this]; simp
   have:=h m2 (k1.trans k2)
   rw [e] at this
   exact this
  ·refine hI m2 hlt ⟨k1.trans k2,fun y hy=>?_⟩
   rw [List.take_add_one,hx] at hy
   rcases List.mem_append.1 hy with hy | hy
   ·exact hno y hy
   ·simp at hy; subst hy; exact ht
 ·have e:l.findIdx? pm.mOdd=none:=by
   rw [List.findIdx?_eq_none_iff]
   intro y hy
   rw [← List.take_of_length_le (l:=l) (i:=k) (by rw [ha.1]; exact hge)] at hy
   exact hno y hy
  have:=h m1 k1
  rw [e] at this
  exact this
theorem all2_map {α β γ : Type} {R:α→β→Prop} {f:γ→α} {g:γ→β} (h:∀ x,R (f x) (g x)):∀ l:List γ,All2 R (l.map f) (l.map g)
 | []=>.nil
 | x :: r=>.cons (h x) (all2_map h r)
theorem new_ok {cpus:Int} {most:List Int} (hw:Wf m) (ha:Arr encI 1 m a n most)
  (h0:∀ m',Keep m m'→(pm.new cpus most).2≠0→pm.new cpus most=(⟨0,0,[],[],[]⟩,1)→Q (.tuple #[.agg #[.int .i64 0,.int .i64 0,.slice none 0 0,.slice none 0 0,.slice none 0 0],.int .i64 1]) m')
  (h1:∀ m' b2 d2,Keep m m'→(pm.new cpus most).2=0→RdSt cx m' cpus 0 none 0 b2 n none 0 0 (pm.new cpus most).1→Q (.tuple #[.agg #[.int .i64 cpus,.int .i64 0,.slice none 0 0,.slice b2 n d2,.slice none 0 0],.int .i64 0]) m') :
  CallV cx n_model_New [.int .i64 cpus,.slice a n c] m Q:=by
 apply G_model_New_ok; unfold G_model_New
 have hlm:most.length=n:=ha.1
 have en:pm.new cpus most=bif (ltI cpus 1 || (ltI 64 cpus || (ltI 8 (lenI n) || most.any pm.mOdd))) then (⟨0,0,[],[],[]⟩,1) else (⟨cpus,0,[],most.map fun n=>⟨n,0,[],false⟩,[]⟩,0):=by unfold pm.new; rw [hlm]
 refine joinK_of' (fun f:Bool→Mem→Prop=>∀ b mm,Keep m mm→b=(ltI cpus 1 || (ltI 64 cpus || (ltI 8 (lenI n) || most.any pm.mOdd)))→f b mm) ?_ ?_
 ·rintro b mm k rfl
  refine split_b (fun hb=>?_) (fun hb=>?_)
  ·rw [hb,cond_true] at en
   exact h0 mm k (by rw [en]; simp) en
  ·rw [hb,cond_false] at en
   rw [en] at h1
   simp only [Bool.or_eq_false_iff,ltI_false,pm.len_eq] at hb
   have hn8:n≤8:=by have:=hb.2.2.1; unfold lenI at this; omega
   refine ⟨fun x31 xc xc1 ac nc cc a2 n2 c2 a5 n5 c5 m2 w=>∃ k:Nat,x31=(k:Int)∧k≤n∧w=n - k∧xc=cpus∧xc1=0∧ac=none∧nc=0∧cc=0∧a5=none∧n5=0∧c5=0∧n2=k∧Acc m m2 a2 n2 c2 4 t_model_Lock (((most.take k).map fun x=>(⟨x,0,none,0,0,false⟩:LV)).flatMap encL),⟨n,0,rfl,Nat.zero_le _,rfl,rfl,rfl,rfl,rfl,rfl,rfl,rfl,rfl,rfl,by simpa using Acc.nil k.bump _ _⟩,?_⟩
   rintro x31 xc xc1 ac nc cc a2 n2 c2 a5 n5 c5 m2 w ⟨k',rfl,hk,rfl,rfl,rfl,rfl,rfl,rfl,rfl,rfl,rfl,rfl,hacc⟩
   refine split_lt (fun hlt=>?_) (fun hge=>?_)
   ·obtain ⟨x,hx⟩:∃ x,most[n2]? = some x:=⟨_,List.getElem?_eq_getElem (by omega)⟩
    refine (ha.keep hw hacc.keep).open (k:=n2) hx fun b o hc=>⟨_,hc 0 _ rfl,?_⟩
    rw [mBind_iff]
    obtain ⟨m4,q1,q2,q3,q4,q5⟩:=hacc.push (cx:=cx) (t:=t_sl_model_Lock) (vs:=encL ⟨x,0,none,0,0,false⟩) (by kernel_rfl) rfl rfl (by omega)
    refine ⟨_,_,_,m4,q1,n - (n2+1),by omega,n2+1,?_,by omega,rfl,rfl,rfl,rfl,rfl,rfl,rfl,rfl,rfl,rfl,?_⟩
    ·rw [addI_64 (by omega) (by omega)]; rfl
    ·have e:((most.take (n2+1)).map fun x=>(⟨x,0,none,0,0,false⟩:LV)).flatMap encL=((most.take n2).map fun x=>(⟨x,0,none,0,0,false⟩:LV)).flatMap encL ++ encL ⟨x,0,none,0,0,false⟩:=by
      rw [List.take_add_one,hx]
      simp
     rw [e]; exact q2
   ·obtain rfl:n2=n:=by omega
    have htk:most.take n2=most:=List.take_of_length_le (by omega)
    rw [htk] at hacc
    refine h1 m2 a2 c2 hacc.keep rfl ⟨rfl,rfl,⟨[],ArrP.nil,.nil⟩,⟨_,hacc.arr encL_len (by omega),?_⟩,ArrP.nil,Nat.le_refl _,.inl rfl⟩
    exact all2_map (fun x=>⟨rfl,rfl,rfl,ArrP.nil⟩) most
 ·intro J hJ
  have k1:Keep m (bump m 1):=(Keep.refl hw).bump
  refine split_b (fun h1=>hJ _ _ k1 (by rw [h1]; rfl)) (fun h1=>?_)
  refine split_b (fun h2=>hJ _ _ k1 (by rw [h1,h2]; rfl)) (fun h2=>?_)
  refine split_b (fun h3=>hJ _ _ k1 (by rw [h1,h2,h3]; rfl)) (fun h3=>?_)
  apply G_slices_ContainsFunc_sl_int64_ok; unfold G_slices_ContainsFunc_sl_int64
  have hn8:n≤8:=by rw [ltI_false] at h3; unfold lenI at h3; omega
  refine idxM_ok k1.wf (ha.keep hw k1) (by omega) fun m2 k2=>⟨_,rfl,_,rfl,hJ _ _ (k1.trans k2) ?_⟩
  rw [h1,h2,h3,Bool.false_or,Bool.false_or,Bool.false_or]
  exact leI_idx
end
end Go.Proofs.YtiehbnmpaeedpaaGreat.vc
namespace Go.Proofs.YtiehbnmpaeedpaaGreat.vc
open Go Go.AX
set_option maxRecDepth 100000
noncomputable section
end
end Go.Proofs.YtiehbnmpaeedpaaGreat.vc
namespace Go.Proofs.YtiehbnmpaeedpaaGreat.vc
open Go Go.AX
section
variable {B:Int} {m0 m:Mem} {Q:Value→Mem→Prop} {M now:Int} {a1 a2 a3:Option Addr} {n1 c1 n2 c2 n3 c3:Nat} {σ : pm.St}
end
end Go.Proofs.YtiehbnmpaeedpaaGreat.vc
namespace Go.Proofs.YtiehbnmpaeedpaaGreat.vc
open Go Go.AX
set_option maxRecDepth 100000
noncomputable section
def G_law_ModelJobs (b f a:Int) (m:Mem) (Q:Value→Mem→Prop):Prop:=
 CallV cx n_law_awake [] m fun bb d=>∃ C,bb=(.bool C)∧splitB (!C) (Q (.bool false) d) (joinK (fun (aX:Mem)=>CallV cx n_model_New [.int .i64 1,.slice none 0 0] aX fun aR bk=>∃ an I ae V aA ac aD aq X aM D aY,aR=(.tuple #[.agg #[.int .i64 an,.int .i64 I,.slice ae V aA,.slice ac aD aq,.slice X aM D],.int .i64 aY])∧(CallV cx n_model_Add [.agg #[.int .i64 an,.int .i64 I,.slice ae V aA,.slice ac aD aq,.slice X aM D],.int .i64 1,.int .i64 b,.int .i64 f] (bump bk 1) fun aS ad=>∃ ai M T aI ab Y ar W aa az aE af,aS=(.tuple #[.agg #[.int .i64 ai,.int .i64 M,.slice T aI ab,.slice Y ar W,.slice aa az aE],.int .i64 af])∧(mBind (newO ad (row [.int .i64 0,.int .i64 a] t_prog_Step false)) fun a4=>CallV cx n_model_Release [.agg #[.int .i64 ai,.int .i64 M,.slice T aI ab,.slice Y ar W,.slice aa az aE],.int .i64 1,.slice (some ⟨ad.nx,0,none⟩) 1 1] a4 fun a5 t=>∃ ag ay P E aK aw ak aC aF al K a0 aV ba H,a5=(.tuple #[.agg #[.int .i64 ag,.int .i64 ay,.slice P E aK,.slice aw ak aC,.slice aF al K],.slice a0 aV ba,.int .i64 H])∧(joinK (fun (a3:Mem)=>(b≠0∧∃ s:Int→Int→Int→Option Addr→Nat→Nat→Option Addr→Nat→Nat→Option Addr→Nat→Nat→Mem→Nat→Prop,(∃ bj:Nat,s 1 ag ay P E aK aw ak aC aF al K a3 bj)∧∀ g y B k l z p A o q w u v aH,s g y B k l z p A o q w u v aH→splitB (leI g (subI .i64 (addI .i64 (mulI .i64 (quoI .i64 (subI .i64 a 1) b) f) a) (mulI .i64 (quoI .i64 (subI .i64 a 1) b) b))) (CallV cx n_model_Tick [.agg #[.int .i64 y,.int .i64 B,.slice k l z,.slice p A o,.slice q w u]] v fun a6 aP=>∃ Z aj aO aN ao S G aB R av au O j be aL,a6=(.tuple #[.agg #[.int .i64 Z,.int .i64 aj,.slice aO aN ao,.slice S G aB,.slice R av au],.slice O j be,.int .i64 aL])∧splitB (neI aL 0) (Q (.bool false) (bump aP 1)) (∃ i:Bool→Int→Mem→Nat→Prop,(∃ bo:Nat,i false 0 (bump aP 1) bo)∧∀ r c e n,i r c e n→splitB (ltI c (lenI j)) (splitB r (∃ U:Nat,U < n∧i true (addI .i64 c 1) e U) ((0≤c∧c < ((j:Nat):Int))∧(vPtr O fun bf bc=>∃ F,rd e bf (bc+Int.toNat c*4+1)=some (.int .i64 F)∧∃ aG:Nat,aG < n∧i (eqI F 2) (addI .i64 c 1) e aG))) (splitB (!(r == (eqI g (subI .i64 (addI .i64 (mulI .i64 (quoI .i64 (subI .i64 a 1) b) f) a) (mulI .i64 (quoI .i64 (subI .i64 a 1) b) b))))) (Q (.bool false) e) (∃ N:Nat,N < aH∧s (addI .i64 g 1) Z aj aO aN ao S G aB R av au e N)))) (CallV cx n_model_Find [.agg #[.int .i64 y,.int .i64 B,.slice k l z,.slice p A o,.slice q w u],.int .i64 1] v fun bg x=>∃ bd a9 aW aT bn ax a1 aZ a8 a2 bl bi ap L,bg=(.tuple #[.agg #[.int .i64 bd,.int .i64 a9,.int .i64 aW,.int .i64 aT,.int .i64 bn,.int .i64 ax,.slice a1 aZ a8,.int .i64 a2,.int .i64 bl,.int .i64 bi,.int .i64 ap],.bool L])∧splitB L (splitB (eqI ap a) (Q (.bool (eqI ax 0)) (bump x 1)) (Q (.bool false) (bump x 1))) (Q (.bool false) (bump x 1))))) fun a7=>splitB (neI af 0) (Q (.bool false) t) (splitB (neI H 0) (Q (.bool false) t) (a7 t)))))) fun aU=>splitB (ltI b 1) (Q (.bool true) d) (splitB (ltI f b) (Q (.bool true) d) (splitB (ltI 50 f) (Q (.bool true) d) (splitB (ltI a 1) (Q (.bool true) d) (splitB (ltI 60 a) (Q (.bool true) d) (aU d))))))
theorem G_law_ModelJobs_ok {b f a:Int} {m:Mem} {Q:Value→Mem→Prop} (h:G_law_ModelJobs b f a m Q):CallV cx n_law_ModelJobs [.int .i64 b,.int .i64 f,.int .i64 a] m Q:=
 CallV.of (fn:=Tryz.f5) (LS:=[7,15,20]) (ann:=[none,none,none,none,some ⟨[0,1,2],[],[],[],[],0⟩,none,none,none,none,none,some ⟨[0,1,2],[],[(7,1,0)],[1],[],5⟩,none,none,none,none,none,none,some ⟨[2,13],[(14,.int .i64),(137,.int .i64),(138,.int .i64),(139,.sl),(140,.sl),(141,.sl)],[(7,1,0)],[],[(1,[137,138,139,140,141])],6⟩,none,none,none,none,none,none,none,none,none,none,some ⟨[2,13,14,16],[(18,.bool),(19,.int .i64)],[(7,1,0),(15,7,0)],[1,7],[],9⟩]) ovFr ovNi (by kernel_rfl) (by kernel_rfl) (Eq.mp (by kernel_rfl) h)
end
end Go.Proofs.YtiehbnmpaeedpaaGreat.vc
namespace Go.Proofs.YtiehbnmpaeedpaaGreat.vc
open Go Go.AX
section
variable {B:Int} {m0 m:Mem} {lam:Nat→Lb} {wj wq:Nat→Kd} {Q:Value→Mem→Prop} {M now:Int} {a1 a2 a3 ae:Option Addr} {n1 c1 n2 c2 n3 c3 ne ce:Nat} {ss:List SV} {js:Nat→List JV} {ls:List LV} {qs:Nat→List Int} {σ : pm.St} {E:List pm.Ev}
theorem find_ok {id:Int} (hw:Wf m) (hσ : RdSt cx m M now a1 n1 a2 n2 a3 n3 c3 σ) (hI:pm.Iv B σ)
  (h0:∀ m',Keep m m'→pm.has σ.servs id=false→Q (.tuple #[.agg #[.int .i64 0,.int .i64 0,.int .i64 0,.int .i64 0,.int .i64 0,.int .i64 0,.slice none 0 0,.int .i64 0,.int .i64 0,.int .i64 0,.int .i64 0],.bool false]) m')
  (h1:∀ m' v x,Keep m m'→pm.has σ.servs id=true→σ.servs[pm.at_ σ.servs id]? = some x→x.id=id→RdServ m' v x→Q (.tuple #[.agg #[.int .i64 v.id,.int .i64 v.s.q,.int .i64 v.s.p,.int .i64 v.s.bud,.int .i64 v.s.due,.int .i64 v.s.mode,.slice v.ja v.jn v.jc,.int .i64 v.sec,.int .i64 v.held,.int .i64 v.num,.int .i64 v.ran],.bool true]) m') :
  CallV cx n_model_Find [.agg #[.int .i64 M,.int .i64 now,.slice a1 n1 c1,.slice a2 n2 c2,.slice a3 n3 c3],.int .i64 id] m Q:=by
 apply G_model_Find_ok; unfold G_model_Find
 have k0:Keep m (bump m 2):=(Keep.refl hw).bump
 have hz:=hI.len1
 have hl1:=hσ.len1
 refine at_ok k0.wf (hσ.keep hw k0) hI.rise (by omega) fun m1 k1=>⟨_,_,rfl,?_⟩
 have k01:=k0.trans k1
 refine split_nb (fun hh=>h0 m1 k01 hh) (fun hh=>?_)
 obtain ⟨x,hx,hxid⟩:=pm.has_at hI.rise hh
 have hil:=(List.getElem?_eq_some_iff.1 hx).1
 refine clone_ok k01.wf (hσ.keep hw k01) (iv_small hI.toIw) fun m4 lam b1 d1 b2 d2 b3 d3 ss js ls qs hO=>⟨_,_,_,_,_,_,_,_,_,_,_,rfl,?_⟩
 have hO:=hO.old0 hw k01
 obtain ⟨v,hv⟩:∃ v,ss[pm.at_ σ.servs id]? = some v:=⟨_,List.getElem?_eq_getElem (by rw [hO.s1n]; omega)⟩
 obtain ⟨b,o,rfl,_,hc⟩:=hO.atS hv
 refine ⟨⟨by omega,by omega⟩,?_⟩
 rw [vPtr_some]
 refine ⟨_,hc 0 _ rfl,_,hc 1 _ rfl,_,hc 2 _ rfl,_,hc 3 _ rfl,_,hc 4 _ rfl,_,hc 5 _ rfl,_,_,_,hc 6 _ rfl,_,hc 7 _ rfl,_,hc 8 _ rfl,_,hc 9 _ rfl,_,hc 10 _ rfl,?_⟩
 obtain ⟨p,q⟩:=hO.ds _ v x hv hx
 exact h1 m4 v x hO.keep hh hx hxid ⟨p.id,p.s,p.sec,p.held,p.num,p.ran,_,(hO.jb _ v hv).arr encJ_len,q.imp fun _ _ r=>⟨r.num,r.at_,r.done,r.prog⟩⟩
end
end Go.Proofs.YtiehbnmpaeedpaaGreat.vc
