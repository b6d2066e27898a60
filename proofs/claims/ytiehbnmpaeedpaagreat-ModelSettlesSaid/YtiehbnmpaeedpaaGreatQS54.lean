import Derived.Test.YtiehbnmpaeedpaaGreatQS52
import Derived.Test.YtiehbnmpaeedpaaGreatQS36
import Derived.Test.YtiehbnmpaeedpaaGreatQS39
namespace Go.Proofs.YtiehbnmpaeedpaaGreat.vc
open Go Go.AX
set_option linter.unusedVariables false
set_option linter.unusedSimpArgs false
set_option linter.unusedSectionVars false
section
variable {B:Int} {m0 m:Mem} {Q:Value→Mem→Prop} {M now:Int} {a1 a2 a3:Option Addr} {n1 c1 n2 c2 n3 c3:Nat} {σ : pm.St}
theorem awake_ok (h:Q (.bool true) m):CallV cx n_law_awake [] m Q:=CallV.ov ovNi ov_awake rfl h
theorem OwX.keep {m0 m:Mem} {ae:Option Addr} {ne ce:Nat} {E:List pm.Ev} (h:OwX m0 m a1 n1 c1 a2 n2 c2 a3 n3 c3 σ ae ne ce E):Keep m0 m:=by
 obtain ⟨_,_,_,_,_,hE⟩:=h
 exact hE.ow.keep
theorem OwX.reads {m0 m:Mem} {ae:Option Addr} {ne ce:Nat} {E:List pm.Ev} (h:OwX m0 m a1 n1 c1 a2 n2 c2 a3 n3 c3 σ ae ne ce E) (hM:M = σ.m) (hn:now = σ.now):RdSt cx m M now a1 n1 a2 n2 a3 n3 c3 σ:=by
 obtain ⟨_,_,_,_,_,hE⟩:=h
 exact hE.ow.reads hM hn sBack
theorem OwX.arr {m0 m:Mem} {ae:Option Addr} {ne ce:Nat} {E:List pm.Ev} (h:OwX m0 m a1 n1 c1 a2 n2 c2 a3 n3 c3 σ ae ne ce E):Arr encEv 4 m ae ne E:=by
 obtain ⟨_,_,_,_,_,hE⟩:=h
 exact hE.arr
theorem settle_ok' (hw:Wf m) (hσ : RdSt cx m M now a1 n1 a2 n2 a3 n3 c3 σ) (hI:pm.Iv B σ)
  (h:∀ m' b1 d1 b2 d2 b3 d3 ae ne ce,Keep m m'→RdSt cx m' M now b1 n1 b2 n2 b3 n3 d3 (pm.settle σ).1→Arr encEv 4 m' ae ne (pm.settle σ).2→ne≤1000→Q (.tuple #[.agg #[.int .i64 M,.int .i64 now,.slice b1 n1 d1,.slice b2 n2 d2,.slice b3 n3 d3],.slice ae ne ce]) m') :
  CallV cx n_model_Settle [.agg #[.int .i64 M,.int .i64 now,.slice a1 n1 c1,.slice a2 n2 c2,.slice a3 n3 c3]] m Q:=
 settle_ok hw hσ hI fun m' b1 d1 b2 d2 b3 d3 ae ne ce hX hne=>
  h m' b1 d1 b2 d2 b3 d3 ae ne ce hX.keep (hX.reads (hσ.em.trans (pm.settle_iv hI).2.2.symm) (hσ.enow.trans (pm.settle_now' hI).symm)) hX.arr hne
theorem act_ok {x1 x2 x3 x4 x5:Int} {sa:Option Addr} {sn sc:Nat} {A:pm.Act} (hw:Wf m) (hσ : RdSt cx m M now a1 n1 a2 n2 a3 n3 c3 σ) (hI:pm.Iv B σ) (hB:B < 4611686018427387904) (hA:RdAct m ⟨x1,x2,x3,x4,x5,sa,sn,sc⟩ A)
  (h:∀ m' now' b1 n1' d1 b2 n2' d2 b3 n3' d3,Keep m m'→RdSt cx m' M now' b1 n1' b2 n2' b3 n3' d3 (pm.act σ A)→Q (.agg #[.int .i64 M,.int .i64 now',.slice b1 n1' d1,.slice b2 n2' d2,.slice b3 n3' d3]) m') :
  CallV cx n_law_act [.agg #[.int .i64 M,.int .i64 now,.slice a1 n1 c1,.slice a2 n2 c2,.slice a3 n3 c3],.agg #[.int .i64 x1,.int .i64 x2,.int .i64 x3,.int .i64 x4,.int .i64 x5,.slice sa sn sc]] m Q:=by
 obtain ⟨op,who,q,p,n,steps⟩:=A
 obtain ⟨e1,e2,e3,e4,e5,hs⟩:=hA
 simp only at e1 e2 e3 e4 e5 hs
 subst e1 e2 e3 e4 e5
 apply G_law_act_ok; unfold G_law_act
 have k0:Keep m (bump m 3):=(Keep.refl hw).bump
 unfold pm.act at h
 simp only at h
 refine split_b (fun c0=>?_) (fun c0=>?_)
 ·rw [c0,cond_true] at h
  exact add_ok k0.wf (hσ.keep hw k0) hI fun m' b1 n1' d1 b2 d2 b3 d3 k hR=>⟨_,_,_,_,_,_,_,_,_,_,_,_,rfl,h _ _ _ _ _ _ _ _ _ _ _ (k0.trans k) hR⟩
 rw [c0,cond_false] at h
 refine split_b (fun c1=>?_) (fun c1=>?_)
 ·rw [c1,cond_true] at h
  exact drop_ok k0.wf (hσ.keep hw k0) hI fun m' b1 n1' d1 b2 d2 b3 d3 k hR=>⟨_,_,_,_,_,_,_,_,_,_,_,_,rfl,h _ _ _ _ _ _ _ _ _ _ _ (k0.trans k) hR⟩
 rw [c1,cond_false] at h
 refine split_b (fun c2=>?_) (fun c2=>?_)
 ·rw [c2,cond_true] at h
  exact release_ok k0.wf (hσ.keep hw k0) hI hB (hs.keep hw k0) fun m' b1 d1 b2 d2 b3 d3 ae ne ce k hR _ _=>⟨_,_,_,_,_,_,_,_,_,_,_,_,_,_,_,rfl,h _ _ _ _ _ _ _ _ _ _ _ (k0.trans k) hR⟩
 rw [c2,cond_false] at h
 refine joinK_of' (fun f:Bool→Mem→Prop=>f (eqI x1 3 || eqI x1 4) (bump m 3)) ?_ ?_
 ·refine split_b (fun c3=>?_) (fun c3=>?_)
  ·rw [c3,cond_true] at h
   exact ground_ok k0.wf (hσ.keep hw k0) hI fun m' b1 d1 b2 d2 b3 n3' d3 k hR=>⟨_,_,_,_,_,_,_,_,_,_,_,_,rfl,h _ _ _ _ _ _ _ _ _ _ _ (k0.trans k) hR⟩
  rw [c3,cond_false] at h
  refine split_b (fun c5=>?_) (fun c5=>?_)
  ·rw [c5,cond_true] at h
   exact settle_ok' k0.wf (hσ.keep hw k0) hI fun m' b1 d1 b2 d2 b3 d3 ae ne ce k hR _ _=>⟨_,_,_,_,_,_,_,_,_,_,_,_,_,_,rfl,h _ _ _ _ _ _ _ _ _ _ _ (k0.trans k) hR⟩
  rw [c5,cond_false] at h
  refine ⟨fun x5' xc xc1 ac nc cc ac2 nc2 cc2 ac3 nc3 cc3 mm w=>∃ k:Nat,x5'=(k:Int)∧k≤min x5.toNat 60∧w=60 - k∧xc=M∧Keep m mm∧RdSt cx mm M xc1 ac nc ac2 nc2 ac3 nc3 cc3 (pm.tickN k σ),⟨60,0,rfl,Nat.zero_le _,rfl,rfl,k0,hσ.keep hw k0⟩,?_⟩
  rintro x5' xc xc1 ac nc cc ac2 nc2 cc2 ac3 nc3 cc3 mm w ⟨k,rfl,hk,rfl,rfl,kk,hR⟩
  refine joinK_of' (fun f:Mem→Prop=>k < min x5.toNat 60→f mm) ?_ ?_
  ·intro hlt
   have hI':=(pm.tickN_iv hI k).1
   refine tick_ok kk.wf hR hI' fun m' now' b1 d1 b2 d2 b3 d3 ae ne ce k2 hR2 _ _=>⟨_,_,_,_,_,_,_,_,_,_,_,_,_,_,_,rfl,60 - (k+1),by omega,k+1,?_,by omega,rfl,rfl,kk.trans k2,hR2⟩
   rw [addI_64 (by omega) (by omega)]; rfl
  ·intro J hJ
   have done:min x5.toNat 60=k→Q (.agg #[.int .i64 xc,.int .i64 xc1,.slice ac nc cc,.slice ac2 nc2 cc2,.slice ac3 nc3 cc3]) mm:=by
    intro e
    rw [e] at h
    exact h _ _ _ _ _ _ _ _ _ _ _ kk hR
   refine split_ltI (fun l1=>?_) (fun l1=>done (by omega))
   exact split_ltI (fun l2=>hJ (by omega)) (fun l2=>done (by omega))
 ·intro J hJ
  refine split_b (fun c3=>?_) (fun c3=>?_)
  ·rw [c3,Bool.true_or] at hJ; exact hJ
  ·rw [c3,Bool.false_or] at hJ; exact hJ
theorem actT:ActT Tryz.prog t_law_Act (match Tryz.prog.underlying t_law_Act with | some (.struct fs)=>fs | _=>#[]) where
 he:=by kernel_rfl
 hone:=by kernel_rfl
 hC:=by kernel_rfl
 hs:=by kernel_rfl
 ints:=fun j hj=>match j,hj with
  | 0,_=>⟨t_int,by kernel_rfl,Tryz.underlying3⟩
  | 1,_=>⟨t_int,by kernel_rfl,Tryz.underlying3⟩
  | 2,_=>⟨t_int64,by kernel_rfl,Tryz.underlying2⟩
  | 3,_=>⟨t_int64,by kernel_rfl,Tryz.underlying2⟩
  | 4,_=>⟨t_int64,by kernel_rfl,Tryz.underlying2⟩
 steps:=⟨t_sl_prog_Step,t_prog_Step,t_int,t_int64,(match Tryz.prog.underlying t_prog_Step with | some (.struct fs)=>fs | _=>#[]),by kernel_rfl,by kernel_rfl,by kernel_rfl,by kernel_rfl,by kernel_rfl,by kernel_rfl,by kernel_rfl,Tryz.underlying3,by kernel_rfl,Tryz.underlying2⟩
end
end Go.Proofs.YtiehbnmpaeedpaaGreat.vc
namespace Go.Proofs.YtiehbnmpaeedpaaGreat.vc
open Go Go.AX
set_option linter.unusedVariables false
set_option linter.unusedSimpArgs false
set_option linter.unusedSectionVars false
section
variable {m:Mem} {a1 a2 a3:Option Addr} {n1 c1 n2 c2 n3 c3:Nat}
theorem settles_law {x0:Int} {most:List Int} {l:List AV} {A:List pm.Act} (hw:Wf m) (hm:Arr encI 1 m a1 n1 most) (hl:Arr encA 6 m a2 n2 l) (hA:All2 (RdAct m) l A) :
  CallV cx n_law_ModelSettles [.int .i64 x0,.slice a1 n1 c1,.slice a2 n2 c2] m fun r _=>r = .bool true:=by
 apply G_law_ModelSettles_ok; unfold G_law_ModelSettles
 have hlA:A.length=n2:=by rw [← hA.len,hl.1]
 refine awake_ok ⟨true,rfl,split_nb (fun h=>by cases h) (fun _=>?_)⟩
 refine new_ok hw hm (fun m1 k1 hne _=>⟨_,_,_,_,_,_,_,_,_,_,_,_,rfl,?_⟩) (fun m1 b2 d2 k1 he hR=>⟨_,_,_,_,_,_,_,_,_,_,_,_,rfl,?_⟩)
 ·exact joinK_of' (fun _=>True) trivial fun J _=>split_ne (fun _=>rfl) (fun e=>absurd e (by decide))
 ·obtain ⟨hI,he2,_⟩:=pm.new_iv he
  have h0:(pm.new x0 most).1.now=0:=by rw [he2]
  generalize (pm.new x0 most).1 = σ at hI hR h0
  refine joinK_of' (fun f:Mem→Prop=>n2≤25→f (bump m1 1)) ?_ ?_
  ·intro hn2
   have iv:=fun k=>pm.acts_iv (A.take k) hI (Int.le_refl _) (by rw [List.length_take]; omega)
   have kb:Keep m1 (bump m1 1):=(Keep.refl k1.wf).bump
   refine ⟨fun x13 xc xc1 ac nc cc ac2 nc2 cc2 ac3 nc3 cc3 mm w=>∃ k:Nat,x13=(k:Int)∧k≤n2∧w=n2 - k∧xc=x0∧Keep m mm∧RdSt cx mm x0 xc1 ac nc ac2 nc2 ac3 nc3 cc3 (pm.acts σ (A.take k)),
    ⟨n2,0,rfl,Nat.zero_le _,rfl,rfl,k1.trans kb,hR.keep k1.wf kb⟩,?_⟩
   rintro x13 xc xc1 ac nc cc ac2 nc2 cc2 ac3 nc3 cc3 mm w ⟨k,rfl,hk,rfl,rfl,kk,hS⟩
   refine split_lt (fun hlt=>?_) (fun hge=>rfl)
   obtain ⟨v,hv⟩:∃ v,l[k]? = some v:=⟨_,List.getElem?_eq_getElem (by have:=hl.1; omega)⟩
   obtain ⟨X',hX',hr⟩:=hA.get hv
   obtain ⟨o1,o2,o3,o4,o5,oa,on,oc⟩:=v
   have eS:pm.acts σ (A.take (k+1))=pm.act (pm.acts σ (A.take k)) X':=by
    rw [List.take_add_one,hX']; exact pm.acts_snoc _ _ _
   have hIk:=(iv k).1
   obtain ⟨hI1,_,_,hnow⟩:=iv (k+1)
   have hnow':(pm.acts σ (A.take (k+1))).now < 4611686018427387904:=by
    rw [List.length_take] at hnow; omega
   rw [eS] at hI1 hnow'
   have hBk:(0:Int)+((A.take k).length:Int) < 4611686018427387904:=by rw [List.length_take]; omega
   refine (hl.keep hw kk).open (k:=k) hv fun b o hc=>⟨_,_,_,hc 5 _ rfl,split_ltI (fun _=>rfl) (fun _=>?_)⟩
   have k4:Keep mm (bump mm 7):=(Keep.refl kk.wf).bump
   refine (hl.keep hw (kk.trans k4)).open (k:=k) hv fun b o hc=>⟨_,hc 0 _ rfl,_,hc 1 _ rfl,_,hc 2 _ rfl,_,hc 3 _ rfl,_,hc 4 _ rfl,_,_,_,hc 5 _ rfl,?_⟩
   refine act_ok k4.wf (hS.keep kk.wf k4) hIk hBk (hr.keep hw (kk.trans k4)) fun m5 now5 e1 f1 g1 e2 f2 g2 e3 f3 g3 k5 hS5=>⟨_,_,_,_,_,_,_,_,_,_,_,rfl,?_⟩
   have hnext:∀ m',Keep m5 m'→RdSt cx m' xc now5 e1 f1 e2 f2 e3 f3 g3 (pm.acts σ (A.take (k+1))):=fun m' k'=>by rw [eS]; exact hS5.keep k5.wf k'
   generalize pm.act (pm.acts σ (A.take k)) X' = τ at hS5 hI1 hnow'
   refine settle_ok' k5.wf hS5 hI1 fun m6 s1 s2 s3 s4 s5 s6 sa sn sc k6 hT hTE hsn=>⟨_,_,_,_,_,_,_,_,_,_,_,_,_,_,rfl,?_⟩
   have hIT:=(pm.settle_iv hI1).1
   have k6b:Keep m6 (bump m6 1):=(Keep.refl k6.wf).bump
   refine settle_ok' k6b.wf (hT.keep k6.wf k6b) hIT fun m7 t1 t2 t3 t4 t5 t6 ta tn tc k7 hU hUE htn=>⟨_,_,_,_,_,_,_,_,_,_,_,_,_,_,rfl,?_⟩
   rw [pm.settle_settle hI1] at hU hUE
   have htn0:tn=0:=hUE.1.symm
   subst htn0
   have k57:=k6.trans (k6b.trans k7)
   have k57b:=k57.bump (n:=1)
   have k7b:Keep m7 (bump m7 1):=(Keep.refl k7.wf).bump
   refine tick_ok k57b.wf (hS5.keep k5.wf k57b) hI1 fun m8 now8 u1 u2 u3 u4 u5 u6 ua un uc k8 hX hXE hun=>⟨_,_,_,_,_,_,_,_,_,_,_,_,_,_,_,rfl,?_⟩
   have k68:Keep m6 (bump m8 1):=(k6b.trans (k7.trans (k7b.trans k8))).bump
   refine tick_ok k68.wf (hT.keep k6.wf k68) hIT fun m9 now9 v1 v2 v3 v4 v5 v6 va vn vc k9 hY hYE hvn=>⟨_,_,_,_,_,_,_,_,_,_,_,_,_,_,_,rfl,?_⟩
   refine split_ne (fun e=>absurd rfl e) (fun _=>?_)
   have k69:Keep m6 (bump m9 1):=(k68.trans k9).bump
   have k79:Keep m7 (bump m9 1):=(k7b.trans (k8.trans ((Keep.refl k8.wf).bump (n:=1)))).trans (k9.bump)
   have k89:Keep m8 (bump m9 1):=((Keep.refl k8.wf).bump (n:=1)).trans (k9.bump)
   have k99:Keep m9 (bump m9 1):=(Keep.refl k9.wf).bump
   refine same_ok k69.wf (hT.keep k6.wf k69) (hU.keep k7.wf k79) hIT fun m10 k10=>⟨true,rfl,split_nb (fun h=>by cases h) (fun _=>?_)⟩
   obtain ⟨p1,p2,p3,p4⟩:=pm.tick_settle hI1 hnow'
   rw [p3,p4]
   refine split_ne (fun e=>absurd rfl e) (fun _=>split_eq (fun _=>?_) (fun e=>absurd rfl e))
   have hIX:=(pm.tick_iv hI1).1
   have hX':=hX.keep k8.wf (k89.trans k10)
   rw [p1] at hX' hIX
   refine same_ok k10.wf hX' (hY.keep k9.wf (k99.trans k10)) hIX fun m11 k11=>⟨true,rfl,split_nb (fun h=>by cases h) (fun _=>?_)⟩
   have q1:=hXE.1
   have q2:=hTE.1
   have q3:=hYE.1
   rw [p2,List.length_append] at q1
   refine split_ne (fun e=>absurd ?_ e) (fun _=>?_)
   ·unfold lenI
    rw [addI_64 (by omega) (by omega)]; omega
   ·have k511:Keep m5 m11:=((k57b.trans k8).trans (k89.trans k10)).trans k11
    refine ⟨n2 - (k+1),by omega,k+1,?_,by omega,rfl,rfl,(kk.trans k4).trans (k5.trans k511),hnext _ k511⟩
    rw [addI_64 (by omega) (by omega)]; rfl
  ·intro J hJ
   refine split_ne (fun _=>rfl) (fun _=>split_ltI (fun _=>rfl) (fun h15=>hJ ?_))
   simp only [lenI] at h15
   omega
end
end Go.Proofs.YtiehbnmpaeedpaaGreat.vc
