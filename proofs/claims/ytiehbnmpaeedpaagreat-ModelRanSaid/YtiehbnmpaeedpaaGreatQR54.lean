import Derived.Test.YtiehbnmpaeedpaaGreatQR52
import Derived.Test.YtiehbnmpaeedpaaGreatQR36
import Derived.Test.YtiehbnmpaeedpaaGreatQR39
namespace Go.Proofs.YtiehbnmpaeedpaaGreat.vc
open Go Go.AX
set_option linter.unusedVariables false
set_option linter.unusedSimpArgs false
set_option linter.unusedSectionVars false
section
variable {B:Int} {m0 m:Mem} {Q:Value→Mem→Prop} {M now:Int} {a1 a2 a3:Option Addr} {n1 c1 n2 c2 n3 c3:Nat} {σ : pm.St}
theorem awake_ok (h:Q (.bool true) m):CallV cx n_law_awake [] m Q:=CallV.ov ovNi ov_awake rfl h
theorem OwX.keep {m0 m:Mem} {ae:Option Addr} {ne ce:Nat} {E:List pm.Ev} (h:OwX m0 m a1 n1 c1 a2 n2 c2 a3 n3 c3 σ ae ne ce E):Keep m0 m:=by
 obtain ⟨_,_,_,_,_,hE⟩:=h
 exact hE.ow.keep
theorem OwX.reads {m0 m:Mem} {ae:Option Addr} {ne ce:Nat} {E:List pm.Ev} (h:OwX m0 m a1 n1 c1 a2 n2 c2 a3 n3 c3 σ ae ne ce E) (hM:M = σ.m) (hn:now = σ.now):RdSt cx m M now a1 n1 a2 n2 a3 n3 c3 σ:=by
 obtain ⟨_,_,_,_,_,hE⟩:=h
 exact hE.ow.reads hM hn sBack
theorem OwX.arr {m0 m:Mem} {ae:Option Addr} {ne ce:Nat} {E:List pm.Ev} (h:OwX m0 m a1 n1 c1 a2 n2 c2 a3 n3 c3 σ ae ne ce E):Arr encEv 4 m ae ne E:=by
 obtain ⟨_,_,_,_,_,hE⟩:=h
 exact hE.arr
theorem settle_ok' (hw:Wf m) (hσ : RdSt cx m M now a1 n1 a2 n2 a3 n3 c3 σ) (hI:pm.Iv B σ)
  (h:∀ m' b1 d1 b2 d2 b3 d3 ae ne ce,Keep m m'→RdSt cx m' M now b1 n1 b2 n2 b3 n3 d3 (pm.settle σ).1→Arr encEv 4 m' ae ne (pm.settle σ).2→ne≤1000→Q (.tuple #[.agg #[.int .i64 M,.int .i64 now,.slice b1 n1 d1,.slice b2 n2 d2,.slice b3 n3 d3],.slice ae ne ce]) m') :
  CallV cx n_model_Settle [.agg #[.int .i64 M,.int .i64 now,.slice a1 n1 c1,.slice a2 n2 c2,.slice a3 n3 c3]] m Q:=
 settle_ok hw hσ hI fun m' b1 d1 b2 d2 b3 d3 ae ne ce hX hne=>
  h m' b1 d1 b2 d2 b3 d3 ae ne ce hX.keep (hX.reads (hσ.em.trans (pm.settle_iv hI).2.2.symm) (hσ.enow.trans (pm.settle_now' hI).symm)) hX.arr hne
theorem act_ok {x1 x2 x3 x4 x5:Int} {sa:Option Addr} {sn sc:Nat} {A:pm.Act} (hw:Wf m) (hσ : RdSt cx m M now a1 n1 a2 n2 a3 n3 c3 σ) (hI:pm.Iv B σ) (hB:B < 4611686018427387904) (hA:RdAct m ⟨x1,x2,x3,x4,x5,sa,sn,sc⟩ A)
  (h:∀ m' now' b1 n1' d1 b2 n2' d2 b3 n3' d3,Keep m m'→RdSt cx m' M now' b1 n1' b2 n2' b3 n3' d3 (pm.act σ A)→Q (.agg #[.int .i64 M,.int .i64 now',.slice b1 n1' d1,.slice b2 n2' d2,.slice b3 n3' d3]) m') :
  CallV cx n_law_act [.agg #[.int .i64 M,.int .i64 now,.slice a1 n1 c1,.slice a2 n2 c2,.slice a3 n3 c3],.agg #[.int .i64 x1,.int .i64 x2,.int .i64 x3,.int .i64 x4,.int .i64 x5,.slice sa sn sc]] m Q:=by
 obtain ⟨op,who,q,p,n,steps⟩:=A
 obtain ⟨e1,e2,e3,e4,e5,hs⟩:=hA
 simp only at e1 e2 e3 e4 e5 hs
 subst e1 e2 e3 e4 e5
 apply G_law_act_ok; unfold G_law_act
 have k0:Keep m (bump m 3):=(Keep.refl hw).bump
 unfold pm.act at h
 simp only at h
 refine split_b (fun c0=>?_) (fun c0=>?_)
 ·rw [c0,cond_true] at h
  exact add_ok k0.wf (hσ.keep hw k0) hI fun m' b1 n1' d1 b2 d2 b3 d3 k hR=>⟨_,_,_,_,_,_,_,_,_,_,_,_,rfl,h _ _ _ _ _ _ _ _ _ _ _ (k0.trans k) hR⟩
 rw [c0,cond_false] at h
 refine split_b (fun c1=>?_) (fun c1=>?_)
 ·rw [c1,cond_true] at h
  exact drop_ok k0.wf (hσ.keep hw k0) hI fun m' b1 n1' d1 b2 d2 b3 d3 k hR=>⟨_,_,_,_,_,_,_,_,_,_,_,_,rfl,h _ _ _ _ _ _ _ _ _ _ _ (k0.trans k) hR⟩
 rw [c1,cond_false] at h
 refine split_b (fun c2=>?_) (fun c2=>?_)
 ·rw [c2,cond_true] at h
  exact release_ok k0.wf (hσ.keep hw k0) hI hB (hs.keep hw k0) fun m' b1 d1 b2 d2 b3 d3 ae ne ce k hR _ _=>⟨_,_,_,_,_,_,_,_,_,_,_,_,_,_,_,rfl,h _ _ _ _ _ _ _ _ _ _ _ (k0.trans k) hR⟩
 rw [c2,cond_false] at h
 refine joinK_of' (fun f:Bool→Mem→Prop=>f (eqI x1 3 || eqI x1 4) (bump m 3)) ?_ ?_
 ·refine split_b (fun c3=>?_) (fun c3=>?_)
  ·rw [c3,cond_true] at h
   exact ground_ok k0.wf (hσ.keep hw k0) hI fun m' b1 d1 b2 d2 b3 n3' d3 k hR=>⟨_,_,_,_,_,_,_,_,_,_,_,_,rfl,h _ _ _ _ _ _ _ _ _ _ _ (k0.trans k) hR⟩
  rw [c3,cond_false] at h
  refine split_b (fun c5=>?_) (fun c5=>?_)
  ·rw [c5,cond_true] at h
   exact settle_ok' k0.wf (hσ.keep hw k0) hI fun m' b1 d1 b2 d2 b3 d3 ae ne ce k hR _ _=>⟨_,_,_,_,_,_,_,_,_,_,_,_,_,_,rfl,h _ _ _ _ _ _ _ _ _ _ _ (k0.trans k) hR⟩
  rw [c5,cond_false] at h
  refine ⟨fun x5' xc xc1 ac nc cc ac2 nc2 cc2 ac3 nc3 cc3 mm w=>∃ k:Nat,x5'=(k:Int)∧k≤min x5.toNat 60∧w=60 - k∧xc=M∧Keep m mm∧RdSt cx mm M xc1 ac nc ac2 nc2 ac3 nc3 cc3 (pm.tickN k σ),⟨60,0,rfl,Nat.zero_le _,rfl,rfl,k0,hσ.keep hw k0⟩,?_⟩
  rintro x5' xc xc1 ac nc cc ac2 nc2 cc2 ac3 nc3 cc3 mm w ⟨k,rfl,hk,rfl,rfl,kk,hR⟩
  refine joinK_of' (fun f:Mem→Prop=>k < min x5.toNat 60→f mm) ?_ ?_
  ·intro hlt
   have hI':=(pm.tickN_iv hI k).1
   refine tick_ok kk.wf hR hI' fun m' now' b1 d1 b2 d2 b3 d3 ae ne ce k2 hR2 _ _=>⟨_,_,_,_,_,_,_,_,_,_,_,_,_,_,_,rfl,60 - (k+1),by omega,k+1,?_,by omega,rfl,rfl,kk.trans k2,hR2⟩
   rw [addI_64 (by omega) (by omega)]; rfl
  ·intro J hJ
   have done:min x5.toNat 60=k→Q (.agg #[.int .i64 xc,.int .i64 xc1,.slice ac nc cc,.slice ac2 nc2 cc2,.slice ac3 nc3 cc3]) mm:=by
    intro e
    rw [e] at h
    exact h _ _ _ _ _ _ _ _ _ _ _ kk hR
   refine split_ltI (fun l1=>?_) (fun l1=>done (by omega))
   exact split_ltI (fun l2=>hJ (by omega)) (fun l2=>done (by omega))
 ·intro J hJ
  refine split_b (fun c3=>?_) (fun c3=>?_)
  ·rw [c3,Bool.true_or] at hJ; exact hJ
  ·rw [c3,Bool.false_or] at hJ; exact hJ
theorem actT:ActT Tryz.prog t_law_Act (match Tryz.prog.underlying t_law_Act with | some (.struct fs)=>fs | _=>#[]) where
 he:=by kernel_rfl
 hone:=by kernel_rfl
 hC:=by kernel_rfl
 hs:=by kernel_rfl
 ints:=fun j hj=>match j,hj with
  | 0,_=>⟨t_int,by kernel_rfl,Tryz.underlying3⟩
  | 1,_=>⟨t_int,by kernel_rfl,Tryz.underlying3⟩
  | 2,_=>⟨t_int64,by kernel_rfl,Tryz.underlying2⟩
  | 3,_=>⟨t_int64,by kernel_rfl,Tryz.underlying2⟩
  | 4,_=>⟨t_int64,by kernel_rfl,Tryz.underlying2⟩
 steps:=⟨t_sl_prog_Step,t_prog_Step,t_int,t_int64,(match Tryz.prog.underlying t_prog_Step with | some (.struct fs)=>fs | _=>#[]),by kernel_rfl,by kernel_rfl,by kernel_rfl,by kernel_rfl,by kernel_rfl,by kernel_rfl,by kernel_rfl,Tryz.underlying3,by kernel_rfl,Tryz.underlying2⟩
end
end Go.Proofs.YtiehbnmpaeedpaaGreat.vc
namespace Go.Proofs.YtiehbnmpaeedpaaGreat.vc
open Go Go.AX
set_option linter.unusedVariables false
set_option linter.unusedSimpArgs false
set_option linter.unusedSectionVars false
section
variable {m:Mem} {a1 a2 a3:Option Addr} {n1 c1 n2 c2 n3 c3:Nat}
theorem ran_law {x0:Int} {most:List Int} {l:List AV} {A:List pm.Act} (hw:Wf m) (hm:Arr encI 1 m a1 n1 most) (hl:Arr encA 6 m a2 n2 l) (hA:All2 (RdAct m) l A) :
  CallV cx n_law_ModelRan [.int .i64 x0,.slice a1 n1 c1,.slice a2 n2 c2] m fun r _=>r = .bool true:=by
 apply G_law_ModelRan_ok; unfold G_law_ModelRan
 have hlA:A.length=n2:=by rw [← hA.len,hl.1]
 refine awake_ok ⟨true,rfl,split_nb (fun h=>by cases h) (fun _=>?_)⟩
 refine new_ok hw hm (fun m1 k1 hne _=>⟨_,_,_,_,_,_,_,_,_,_,_,_,rfl,?_⟩) (fun m1 b2 d2 k1 he hR=>⟨_,_,_,_,_,_,_,_,_,_,_,_,rfl,?_⟩)
 ·exact joinK_of' (fun _=>True) trivial fun J _=>split_ne (fun _=>rfl) (fun e=>absurd e (by decide))
 ·obtain ⟨hI,he2,_⟩:=pm.new_iv he
  have h0:(pm.new x0 most).1.now=0:=by rw [he2]
  have hM:(pm.new x0 most).1.m=x0:=by rw [he2]
  generalize (pm.new x0 most).1 = σ at hI hR h0 hM
  refine joinK_of' (fun f:Mem→Prop=>n2≤25→f (bump m1 1)) ?_ ?_
  ·intro hn2
   have iv:=fun k=>pm.acts_iv (A.take k) hI (Int.le_refl _) (by rw [List.length_take]; omega)
   have kb:Keep m1 (bump m1 1):=(Keep.refl k1.wf).bump
   refine ⟨fun x13 xc xc1 ac nc cc ac2 nc2 cc2 ac3 nc3 cc3 mm w=>∃ k:Nat,x13=(k:Int)∧k≤n2∧w=n2 - k∧xc=x0∧Keep m mm∧RdSt cx mm x0 xc1 ac nc ac2 nc2 ac3 nc3 cc3 (pm.acts σ (A.take k)),
    ⟨n2,0,rfl,Nat.zero_le _,rfl,rfl,k1.trans kb,hR.keep k1.wf kb⟩,?_⟩
   rintro x13 xc xc1 ac nc cc ac2 nc2 cc2 ac3 nc3 cc3 mm w ⟨k,rfl,hk,rfl,rfl,kk,hS⟩
   refine split_lt (fun hlt=>?_) (fun hge=>rfl)
   obtain ⟨v,hv⟩:∃ v,l[k]? = some v:=⟨_,List.getElem?_eq_getElem (by have:=hl.1; omega)⟩
   obtain ⟨X',hX',hr⟩:=hA.get hv
   obtain ⟨o1,o2,o3,o4,o5,oa,on,oc⟩:=v
   have eS:pm.acts σ (A.take (k+1))=pm.act (pm.acts σ (A.take k)) X':=by
    rw [List.take_add_one,hX']; exact pm.acts_snoc _ _ _
   have hIk:=(iv k).1
   obtain ⟨hI1,hM1,_,hnow⟩:=iv (k+1)
   have hnow':(pm.acts σ (A.take (k+1))).now < 4611686018427387904:=by
    rw [List.length_take] at hnow; omega
   rw [eS] at hI1 hnow' hM1
   have hBk:(0:Int)+((A.take k).length:Int) < 4611686018427387904:=by rw [List.length_take]; omega
   refine (hl.keep hw kk).open (k:=k) hv fun b o hc=>⟨_,_,_,hc 5 _ rfl,split_ltI (fun _=>rfl) (fun _=>?_)⟩
   have k4:Keep mm (bump mm 7):=(Keep.refl kk.wf).bump
   refine (hl.keep hw (kk.trans k4)).open (k:=k) hv fun b o hc=>⟨_,hc 0 _ rfl,_,hc 1 _ rfl,_,hc 2 _ rfl,_,hc 3 _ rfl,_,hc 4 _ rfl,_,_,_,hc 5 _ rfl,?_⟩
   refine act_ok k4.wf (hS.keep kk.wf k4) hIk hBk (hr.keep hw (kk.trans k4)) fun m5 now5 e1 f1 g1 e2 f2 g2 e3 f3 g3 k5 hS5=>⟨_,_,_,_,_,_,_,_,_,_,_,rfl,?_⟩
   have hnext:∀ m',Keep m5 m'→RdSt cx m' xc now5 e1 f1 e2 f2 e3 f3 g3 (pm.acts σ (A.take (k+1))):=fun m' k'=>by rw [eS]; exact hS5.keep k5.wf k'
   generalize pm.act (pm.acts σ (A.take k)) X' = τ at hS5 hI1 hnow' hM1
   refine settle_ok' k5.wf hS5 hI1 fun m6 s1 s2 s3 s4 s5 s6 sa sn sc k6 hT hTE hsn=>⟨_,_,_,_,_,_,_,_,_,_,_,_,_,_,rfl,?_⟩
   obtain ⟨hIT,_,hTm⟩:=pm.settle_iv hI1
   have hz1:=hIT.len1
   have hz3:=hIT.len3
   have hz4:=hIT.m1
   have hz5:=hIT.m2
   have l1:=hT.len1
   have l3:=hT.len3
   have eM:=hT.em
   have k6b:Keep m6 (bump m6 1):=(Keep.refl k6.wf).bump
   refine runs_ok k6b.wf (hT.keep k6.wf k6b) (by omega) (by omega) (by omega) (by omega) fun m7 ra rc ba bc k7 _ _ _ _=>⟨_,_,_,_,_,_,rfl,?_⟩
   have k57:=k6.trans (k6b.trans k7)
   have hrl:=runners_len _ hz4
   have hbl:=pm.backers_len hrl hz5 (by omega)
   refine tick_ok k57.wf (hS5.keep k5.wf k57) hI1 fun m8 now8 u1 u2 u3 u4 u5 u6 ua un uc k8 hX hXE hun=>⟨_,_,_,_,_,_,_,_,_,_,_,_,_,_,_,rfl,?_⟩
   obtain ⟨hIX,_,_,tn,te⟩:=pm.tick_iv hI1
   rw [if_pos hnow'] at tn te
   rw [te]
   refine split_ne (fun e=>absurd rfl e) (fun _=>?_)
   obtain ⟨r1,r2,r3,r4,r5⟩:=pm.tick_ran hI1 hnow'
   have enow8:now8=addI .i64 now5 1:=by
    rw [hX.enow,hS5.enow,tn,addI_64 (by have:=hI1.now1; omega) (by omega)]
   have k68:Keep m6 m8:=(k6b.trans k7).trans k8
   obtain ⟨ssX,aX,rX⟩:=hX.servs
   obtain ⟨ssT,aT,rT⟩:=hT.servs
   have bX:=hX.backs
   have bT:=hT.backs
   have hranT:=hIT.ran
   have hranX:=hIX.ran
   have hbkT:=hIT.back
   have hnT:=hIT.now2
   have hnX:=hIX.now2
   have hsb:pm.sumB (pm.tick τ).1.backs=pm.sumB (pm.settle τ).1.backs+((pm.backers (pm.settle τ).1).length:Int):=by
    rw [r4]
    exact pm.sumB_turned hnT (by omega) (fun b hb=>⟨(hbkT b hb).2.2.1,(hbkT b hb).2.2.2⟩)
   have hbT:∀ k,0≤pm.sumB ((pm.settle τ).1.backs.take k)∧pm.sumB ((pm.settle τ).1.backs.take k)≤(pm.settle τ).1.now*((pm.settle τ).1.backs.take k).length:=fun k=>
    pm.sumB_bnd fun b hb=>⟨(hbkT b (List.mem_of_mem_take hb)).2.2.1,(hbkT b (List.mem_of_mem_take hb)).2.2.2⟩
   have hbX:∀ k,0≤pm.sumB ((pm.tick τ).1.backs.take k)∧pm.sumB ((pm.tick τ).1.backs.take k)≤(pm.tick τ).1.now*((pm.tick τ).1.backs.take k).length:=fun k=>
    pm.sumB_bnd fun b hb=>⟨(hIX.back b (List.mem_of_mem_take hb)).2.2.1,(hIX.back b (List.mem_of_mem_take hb)).2.2.2⟩
   have hnS:(pm.settle τ).1.now≤4000:=by
    rw [pm.settle_now' hI1,← hS5.enow]
    have:=(hnext m5 (Keep.refl k5.wf)).enow
    rw [this]; rw [List.length_take] at hnow; omega
   have hnTk:(pm.tick τ).1.now≤4000:=by
    rw [tn,← hS5.enow,(hnext m5 (Keep.refl k5.wf)).enow]
    rw [List.length_take] at hnow; omega
   have hTb:∀ k,pm.sumB ((pm.settle τ).1.backs.take k)≤64000:=fun k=>by
    have h1:=(hbT k).2
    have h2:(((pm.settle τ).1.backs.take k).length:Int)≤16:=by rw [List.length_take]; omega
    have h3:=hIT.now1
    have:=Int.mul_le_mul hnS h2 (by omega) (by omega)
    omega
   have hXb:∀ k,pm.sumB ((pm.tick τ).1.backs.take k)≤64000:=fun k=>by
    have h1:=(hbX k).2
    have h2:(((pm.tick τ).1.backs.take k).length:Int)≤16:=by rw [List.length_take]; have:=hIX.len3; omega
    have h3:=hIX.now1
    have:=Int.mul_le_mul hnTk h2 (by omega) (by omega)
    omega
   have hLl:((pm.runners (pm.settle τ).1).map (pm.at_ (pm.settle τ).1.servs)).length=(pm.runners (pm.settle τ).1).length:=List.length_map ..
   have lX3:=hX.len3
   refine joinK_of' (fun f:Int→Mem→Prop=>∀ mm',Keep m8 mm'→f ((pm.runners (pm.settle τ).1).length:Int) mm') ?_ ?_
   ·intro m9 k9
    refine ⟨fun x18 x20 mm w=>∃ k:Nat,x20=(k:Int)∧k≤f3∧w=f3 - k∧x18=pm.sumB ((pm.tick τ).1.backs.take k)∧Keep m8 mm,⟨f3,0,rfl,Nat.zero_le _,rfl,rfl,k9⟩,?_⟩
    rintro x18 x20 m10 w ⟨j,rfl,hj,rfl,rfl,k10⟩
    refine split_lt (fun hlt=>?_) (fun hge=>?_)
    ·obtain ⟨b,hb⟩:∃ b,(pm.tick τ).1.backs[j]? = some b:=⟨_,List.getElem?_eq_getElem (by omega)⟩
     refine (bX.keep k8.wf k10).open (k:=j) hb fun bb o hc=>⟨_,hc 1 _ rfl,f3 - (j+1),by omega,j+1,?_,by omega,rfl,?_,k10⟩
     ·rw [addI_64 (by omega) (by omega)]; rfl
     ·have h1:=hbX j
      have h2:=hXb j
      have h3:=hIX.back b (List.mem_of_getElem? hb)
      rw [addI_64 (by omega) (by omega),pm.sumB_succ hb]
    ·have ej:j=f3:=by omega
     subst ej
     rw [List.take_of_length_le (by omega:(pm.tick τ).1.backs.length≤j)]
     have hXb':=hXb j
     rw [List.take_of_length_le (by omega:(pm.tick τ).1.backs.length≤j)] at hXb'
     have hXb0:=(hbX j).1
     rw [List.take_of_length_le (by omega:(pm.tick τ).1.backs.length≤j)] at hXb0
     refine ⟨fun x18 x21 mm w=>∃ k:Nat,x21=(k:Int)∧k≤j∧w=j - k∧x18=pm.sumB (pm.tick τ).1.backs - pm.sumB ((pm.settle τ).1.backs.take k)∧Keep m8 mm,⟨j,0,rfl,Nat.zero_le _,rfl,by simp [pm.sumB],k10⟩,?_⟩
     rintro x18 x21 m11 w ⟨i,rfl,hi,rfl,rfl,k11⟩
     refine split_lt (fun hlt=>?_) (fun hge=>?_)
     ·obtain ⟨b,hb⟩:∃ b,(pm.settle τ).1.backs[i]? = some b:=⟨_,List.getElem?_eq_getElem (by omega)⟩
      refine (bT.keep k6.wf (k68.trans k11)).open (k:=i) hb fun bb o hc=>⟨_,hc 1 _ rfl,j - (i+1),by omega,i+1,?_,by omega,rfl,?_,k11⟩
      ·rw [addI_64 (by omega) (by omega)]; rfl
      ·have h1:=hbT i
       have h2:=hTb i
       have h3:=hIT.back b (List.mem_of_getElem? hb)
       rw [subI_64 (by omega) (by omega),pm.sumB_succ hb]
       omega
     ·have ei:i=j:=by omega
      subst ei
      rw [List.take_of_length_le (by omega:(pm.settle τ).1.backs.length≤i)]
      have ed:pm.sumB (pm.tick τ).1.backs - pm.sumB (pm.settle τ).1.backs=lenI (pm.backers (pm.settle τ).1).length:=by unfold lenI; omega
      rw [ed]
      have ea:addI .i64 (lenI (pm.runners (pm.settle τ).1).length) (lenI (pm.backers (pm.settle τ).1).length)=((pm.runners (pm.settle τ).1).length:Int)+((pm.backers (pm.settle τ).1).length:Int):=by
       unfold lenI; exact addI_64 (by omega) (by omega)
      rw [ea,enow8]
      refine split_ne (fun e=>absurd rfl e) (fun _=>split_ne (fun e=>absurd rfl e) (fun _=>split_ltI (fun e=>?_) (fun _=>?_)))
      ·exfalso; omega
      ·have hend:∃ n_64:Nat,n_64 < n2 - k∧∃ k':Nat,addI .i64 (k:Int) 1=(k':Int)∧k'≤n2∧n_64=n2 - k'∧xc=xc∧Keep m m11∧RdSt cx m11 xc now5 e1 f1 e2 f2 e3 i g3 (pm.acts σ (A.take k')):=by
        refine ⟨n2 - (k+1),by omega,k+1,?_,by omega,rfl,rfl,(kk.trans k4).trans (k5.trans ((k57.trans k8).trans k11)),hnext _ ((k57.trans k8).trans k11)⟩
        rw [addI_64 (by omega) (by omega)]; rfl
       refine split_ltI (fun e=>split_ne (fun e2=>?_) (fun _=>split_ne (fun e=>absurd rfl e) (fun _=>hend))) (fun _=>split_ne (fun e=>absurd rfl e) (fun _=>hend))
       exfalso
       apply e2
       unfold lenI; omega
   ·intro J hJ
    refine ⟨fun x17 x19 mm w=>∃ k:Nat,x19=(k:Int)∧k≤f1∧w=f1 - k∧x17=(pm.cnt ((pm.runners (pm.settle τ).1).map (pm.at_ (pm.settle τ).1.servs)) k:Int)∧Keep m8 mm,⟨f1,0,rfl,Nat.zero_le _,rfl,?_,(Keep.refl k8.wf).bump⟩,?_⟩
    ·rw [pm.cnt_zero]; rfl
    rintro x17 x19 m12 w ⟨j,rfl,hj,rfl,rfl,k12⟩
    have hcl:pm.cnt ((pm.runners (pm.settle τ).1).map (pm.at_ (pm.settle τ).1.servs)) j≤1000:=by
     refine Nat.le_trans (List.length_filter_le _ _) ?_
     omega
    refine joinK_of' (fun f:Mem→Prop=>j < f1→f m12) ?_ ?_
    ·intro hlt
     have k13:Keep m12 (bump m12 16):=(Keep.refl k12.wf).bump
     have lX1:=hX.len1
     obtain ⟨x,hx⟩:∃ x,(pm.tick τ).1.servs[j]? = some x:=⟨_,List.getElem?_eq_getElem (by omega)⟩
     obtain ⟨y,hy⟩:∃ y,(pm.settle τ).1.servs[j]? = some y:=⟨_,List.getElem?_eq_getElem (by omega)⟩
     obtain ⟨vx,hvx,rvx⟩:=rX.get' hx
     obtain ⟨vy,hvy,rvy⟩:=rT.get' hy
     refine (aX.keep k8.wf (k12.trans k13)).open (k:=j) hvx fun b o hc=>⟨_,hc 10 _ rfl,?_⟩
     refine (aT.keep k6.wf (k68.trans (k12.trans k13))).open (k:=j) hvy fun b o hc=>⟨_,hc 10 _ rfl,f1 - (j+1),by omega,j+1,?_,by omega,rfl,?_,k12.trans k13⟩
     ·rw [addI_64 (by omega) (by omega)]; rfl
     ·have h1:=r1 j x y hx hy
      have h2:=hranX x (List.mem_of_getElem? hx)
      have h3:=hranT y (List.mem_of_getElem? hy)
      rw [rvx.ran,rvy.ran,addI_64 (by omega) (by omega),subI_64 (by omega) (by omega),pm.cnt_succ j r2]
      rw [h1]
      split <;> simp <;> omega
    ·intro J' hJ'
     have done:j=f1→J ((pm.cnt ((pm.runners (pm.settle τ).1).map (pm.at_ (pm.settle τ).1.servs)) j:Nat):Int) m12:=by
      intro e
      rw [pm.cnt_all (fun p hp=>by have:=r3 p hp; omega),hLl]
      exact hJ _ k12
     refine split_lt (fun l1=>split_lt (fun l2=>hJ' l1) (fun l2=>done (by omega))) (fun l1=>done (by omega))
  ·intro J hJ
   refine split_ne (fun _=>rfl) (fun _=>split_ltI (fun _=>rfl) (fun h15=>hJ ?_))
   simp only [lenI] at h15
   omega
end
end Go.Proofs.YtiehbnmpaeedpaaGreat.vc
