import Derived.Test.YtiehbnmpaeedpaaGreatQB42
import Derived.Test.YtiehbnmpaeedpaaGreatQB43
import Derived.Test.YtiehbnmpaeedpaaGreatQB29
import Derived.Test.YtiehbnmpaeedpaaGreatQB33
import Derived.Test.YtiehbnmpaeedpaaGreatQB30
namespace Go.Proofs.YtiehbnmpaeedpaaGreat.vc
open Go Go.AX
set_option linter.unusedVariables false
set_option linter.unusedSimpArgs false
set_option linter.unusedSectionVars false
section
variable {B:Int} {m0 m:Mem} {Q:Value→Mem→Prop} {M now:Int} {a1 a2 a3:Option Addr} {n1 c1 n2 c2 n3 c3:Nat} {σ : pm.St}
theorem awake_ok (h:Q (.bool true) m):CallV cx n_law_awake [] m Q:=CallV.ov ovNi ov_awake rfl h
theorem OwX.keep {m0 m:Mem} {ae:Option Addr} {ne ce:Nat} {E:List pm.Ev} (h:OwX m0 m a1 n1 c1 a2 n2 c2 a3 n3 c3 σ ae ne ce E):Keep m0 m:=by
 obtain ⟨_,_,_,_,_,hE⟩:=h
 exact hE.ow.keep
theorem OwX.reads {m0 m:Mem} {ae:Option Addr} {ne ce:Nat} {E:List pm.Ev} (h:OwX m0 m a1 n1 c1 a2 n2 c2 a3 n3 c3 σ ae ne ce E) (hM:M = σ.m) (hn:now = σ.now):RdSt cx m M now a1 n1 a2 n2 a3 n3 c3 σ:=by
 obtain ⟨_,_,_,_,_,hE⟩:=h
 exact hE.ow.reads hM hn sBack
theorem OwX.arr {m0 m:Mem} {ae:Option Addr} {ne ce:Nat} {E:List pm.Ev} (h:OwX m0 m a1 n1 c1 a2 n2 c2 a3 n3 c3 σ ae ne ce E):Arr encEv 4 m ae ne E:=by
 obtain ⟨_,_,_,_,_,hE⟩:=h
 exact hE.arr
theorem settle_ok' (hw:Wf m) (hσ : RdSt cx m M now a1 n1 a2 n2 a3 n3 c3 σ) (hI:pm.Iv B σ)
  (h:∀ m' b1 d1 b2 d2 b3 d3 ae ne ce,Keep m m'→RdSt cx m' M now b1 n1 b2 n2 b3 n3 d3 (pm.settle σ).1→Arr encEv 4 m' ae ne (pm.settle σ).2→ne≤1000→Q (.tuple #[.agg #[.int .i64 M,.int .i64 now,.slice b1 n1 d1,.slice b2 n2 d2,.slice b3 n3 d3],.slice ae ne ce]) m') :
  CallV cx n_model_Settle [.agg #[.int .i64 M,.int .i64 now,.slice a1 n1 c1,.slice a2 n2 c2,.slice a3 n3 c3]] m Q:=
 settle_ok hw hσ hI fun m' b1 d1 b2 d2 b3 d3 ae ne ce hX hne=>
  h m' b1 d1 b2 d2 b3 d3 ae ne ce hX.keep (hX.reads (hσ.em.trans (pm.settle_iv hI).2.2.symm) (hσ.enow.trans (pm.settle_now' hI).symm)) hX.arr hne
theorem act_ok {x1 x2 x3 x4 x5:Int} {sa:Option Addr} {sn sc:Nat} {A:pm.Act} (hw:Wf m) (hσ : RdSt cx m M now a1 n1 a2 n2 a3 n3 c3 σ) (hI:pm.Iv B σ) (hB:B < 4611686018427387904) (hA:RdAct m ⟨x1,x2,x3,x4,x5,sa,sn,sc⟩ A)
  (h:∀ m' now' b1 n1' d1 b2 n2' d2 b3 n3' d3,Keep m m'→RdSt cx m' M now' b1 n1' b2 n2' b3 n3' d3 (pm.act σ A)→Q (.agg #[.int .i64 M,.int .i64 now',.slice b1 n1' d1,.slice b2 n2' d2,.slice b3 n3' d3]) m') :
  CallV cx n_law_act [.agg #[.int .i64 M,.int .i64 now,.slice a1 n1 c1,.slice a2 n2 c2,.slice a3 n3 c3],.agg #[.int .i64 x1,.int .i64 x2,.int .i64 x3,.int .i64 x4,.int .i64 x5,.slice sa sn sc]] m Q:=by
 obtain ⟨op,who,q,p,n,steps⟩:=A
 obtain ⟨e1,e2,e3,e4,e5,hs⟩:=hA
 simp only at e1 e2 e3 e4 e5 hs
 subst e1 e2 e3 e4 e5
 apply G_law_act_ok; unfold G_law_act
 have k0:Keep m (bump m 3):=(Keep.refl hw).bump
 unfold pm.act at h
 simp only at h
 refine split_b (fun c0=>?_) (fun c0=>?_)
 ·rw [c0,cond_true] at h
  exact add_ok k0.wf (hσ.keep hw k0) hI fun m' b1 n1' d1 b2 d2 b3 d3 k hR=>⟨_,_,_,_,_,_,_,_,_,_,_,_,rfl,h _ _ _ _ _ _ _ _ _ _ _ (k0.trans k) hR⟩
 rw [c0,cond_false] at h
 refine split_b (fun c1=>?_) (fun c1=>?_)
 ·rw [c1,cond_true] at h
  exact drop_ok k0.wf (hσ.keep hw k0) hI fun m' b1 n1' d1 b2 d2 b3 d3 k hR=>⟨_,_,_,_,_,_,_,_,_,_,_,_,rfl,h _ _ _ _ _ _ _ _ _ _ _ (k0.trans k) hR⟩
 rw [c1,cond_false] at h
 refine split_b (fun c2=>?_) (fun c2=>?_)
 ·rw [c2,cond_true] at h
  exact release_ok k0.wf (hσ.keep hw k0) hI hB (hs.keep hw k0) fun m' b1 d1 b2 d2 b3 d3 ae ne ce k hR _ _=>⟨_,_,_,_,_,_,_,_,_,_,_,_,_,_,_,rfl,h _ _ _ _ _ _ _ _ _ _ _ (k0.trans k) hR⟩
 rw [c2,cond_false] at h
 refine joinK_of' (fun f:Bool→Mem→Prop=>f (eqI x1 3 || eqI x1 4) (bump m 3)) ?_ ?_
 ·refine split_b (fun c3=>?_) (fun c3=>?_)
  ·rw [c3,cond_true] at h
   exact ground_ok k0.wf (hσ.keep hw k0) hI fun m' b1 d1 b2 d2 b3 n3' d3 k hR=>⟨_,_,_,_,_,_,_,_,_,_,_,_,rfl,h _ _ _ _ _ _ _ _ _ _ _ (k0.trans k) hR⟩
  rw [c3,cond_false] at h
  refine split_b (fun c5=>?_) (fun c5=>?_)
  ·rw [c5,cond_true] at h
   exact settle_ok' k0.wf (hσ.keep hw k0) hI fun m' b1 d1 b2 d2 b3 d3 ae ne ce k hR _ _=>⟨_,_,_,_,_,_,_,_,_,_,_,_,_,_,rfl,h _ _ _ _ _ _ _ _ _ _ _ (k0.trans k) hR⟩
  rw [c5,cond_false] at h
  refine ⟨fun x5' xc xc1 ac nc cc ac2 nc2 cc2 ac3 nc3 cc3 mm w=>∃ k:Nat,x5'=(k:Int)∧k≤min x5.toNat 60∧w=60 - k∧xc=M∧Keep m mm∧RdSt cx mm M xc1 ac nc ac2 nc2 ac3 nc3 cc3 (pm.tickN k σ),⟨60,0,rfl,Nat.zero_le _,rfl,rfl,k0,hσ.keep hw k0⟩,?_⟩
  rintro x5' xc xc1 ac nc cc ac2 nc2 cc2 ac3 nc3 cc3 mm w ⟨k,rfl,hk,rfl,rfl,kk,hR⟩
  refine joinK_of' (fun f:Mem→Prop=>k < min x5.toNat 60→f mm) ?_ ?_
  ·intro hlt
   have hI':=(pm.tickN_iv hI k).1
   refine tick_ok kk.wf hR hI' fun m' now' b1 d1 b2 d2 b3 d3 ae ne ce k2 hR2 _ _=>⟨_,_,_,_,_,_,_,_,_,_,_,_,_,_,_,rfl,60 - (k+1),by omega,k+1,?_,by omega,rfl,rfl,kk.trans k2,hR2⟩
   rw [addI_64 (by omega) (by omega)]; rfl
  ·intro J hJ
   have done:min x5.toNat 60=k→Q (.agg #[.int .i64 xc,.int .i64 xc1,.slice ac nc cc,.slice ac2 nc2 cc2,.slice ac3 nc3 cc3]) mm:=by
    intro e
    rw [e] at h
    exact h _ _ _ _ _ _ _ _ _ _ _ kk hR
   refine split_ltI (fun l1=>?_) (fun l1=>done (by omega))
   exact split_ltI (fun l2=>hJ (by omega)) (fun l2=>done (by omega))
 ·intro J hJ
  refine split_b (fun c3=>?_) (fun c3=>?_)
  ·rw [c3,Bool.true_or] at hJ; exact hJ
  ·rw [c3,Bool.false_or] at hJ; exact hJ
theorem actT:ActT Tryz.prog t_law_Act (match Tryz.prog.underlying t_law_Act with | some (.struct fs)=>fs | _=>#[]) where
 he:=by kernel_rfl
 hone:=by kernel_rfl
 hC:=by kernel_rfl
 hs:=by kernel_rfl
 ints:=fun j hj=>match j,hj with
  | 0,_=>⟨t_int,by kernel_rfl,Tryz.underlying3⟩
  | 1,_=>⟨t_int,by kernel_rfl,Tryz.underlying3⟩
  | 2,_=>⟨t_int64,by kernel_rfl,Tryz.underlying2⟩
  | 3,_=>⟨t_int64,by kernel_rfl,Tryz.underlying2⟩
  | 4,_=>⟨t_int64,by kernel_rfl,Tryz.underlying2⟩
 steps:=⟨t_sl_prog_Step,t_prog_Step,t_int,t_int64,(match Tryz.prog.underlying t_prog_Step with | some (.struct fs)=>fs | _=>#[]),by kernel_rfl,by kernel_rfl,by kernel_rfl,by kernel_rfl,by kernel_rfl,by kernel_rfl,by kernel_rfl,Tryz.underlying3,by kernel_rfl,Tryz.underlying2⟩
end
end Go.Proofs.YtiehbnmpaeedpaaGreat.vc
namespace Go.Proofs.YtiehbnmpaeedpaaGreat.vc
open Go Go.AX
set_option linter.unusedVariables false
set_option linter.unusedSimpArgs false
set_option linter.unusedSectionVars false
section
variable {m:Mem} {a1 a2 a3:Option Addr} {n1 c1 n2 c2 n3 c3:Nat}
theorem inc_at {k:Nat} (h:k≤1000000):addI .i64 (k:Int) 1=((k+1:Nat):Int):=by
 rw [addI_64 (by omega) (by omega)]; rfl
theorem dec_at {a b:Nat} (h:b < a):a - (b+1) < a - b:=by omega
theorem all_succ {l:List Int} {j:Nat} {y i:Int} (h:l[j]? = some y):((l.take (j+1)).all fun id=>neI id i)=(((l.take j).all fun id=>neI id i) && neI y i):=by
 rw [List.take_add_one,h,List.all_append]
 simp
theorem best_law {x0:Int} {most:List Int} {l:List AV} {A:List pm.Act} (hw:Wf m) (hm:Arr encI 1 m a1 n1 most) (hl:Arr encA 6 m a2 n2 l) (hA:All2 (RdAct m) l A) :
  CallV cx n_law_ModelBest [.int .i64 x0,.slice a1 n1 c1,.slice a2 n2 c2] m fun r _=>r = .bool true:=by
 apply G_law_ModelBest_ok; unfold G_law_ModelBest
 have hlA:A.length=n2:=by rw [← hA.len,hl.1]
 refine awake_ok ⟨true,rfl,split_nb (fun h=>by cases h) (fun _=>?_)⟩
 refine new_ok hw hm (fun m1 k1 hne _=>⟨_,_,_,_,_,_,_,_,_,_,_,_,rfl,?_⟩) (fun m1 b2 d2 k1 he hR=>⟨_,_,_,_,_,_,_,_,_,_,_,_,rfl,?_⟩)
 ·exact joinK_of' (fun _=>True) trivial fun J _=>split_ne (fun _=>rfl) (fun e=>absurd e (by decide))
 ·obtain ⟨hI,he2,_⟩:=pm.new_iv he
  have hM:(pm.new x0 most).1.m=x0:=by rw [he2]
  generalize (pm.new x0 most).1 = σ at hI hR hM
  refine joinK_of' (fun f:Mem→Prop=>n2≤30→f (bump m1 1)) ?_ ?_
  ·intro hn2
   have kb:Keep m1 (bump m1 1):=(Keep.refl k1.wf).bump
   refine ⟨fun x13 xc xc1 ac nc cc ac2 nc2 cc2 ac3 nc3 cc3 mm w=>∃ (k:Nat) (τ : pm.St),x13=(k:Int)∧k≤n2∧w=n2 - k∧xc=x0∧Keep m mm∧RdSt cx mm x0 xc1 ac nc ac2 nc2 ac3 nc3 cc3 τ∧pm.Iv (k:Int) τ,
    ⟨n2,0,σ,rfl,Nat.zero_le _,rfl,rfl,k1.trans kb,hR.keep k1.wf kb,hI⟩,?_⟩
   rintro x13 xc xc1 ac nc cc ac2 nc2 cc2 ac3 nc3 cc3 mm w ⟨k,τ,rfl,hk,rfl,rfl,kk,hS,hIk⟩
   refine split_lt (fun hlt=>?_) (fun hge=>rfl)
   obtain ⟨v,hv⟩:∃ v,l[k]? = some v:=⟨_,List.getElem?_eq_getElem (by have:=hl.1; omega)⟩
   obtain ⟨X',hX',hr⟩:=hA.get hv
   obtain ⟨op,who,q,p,n,steps⟩:=X'
   obtain ⟨o1,o2,o3,o4,o5,oa,on,oc⟩:=v
   obtain ⟨z1,z2,z3,z4,z5,hst⟩:=hr
   simp only at z1 z2 z3 z4 z5 hst
   subst z1 z2 z3 z4 z5
   have hBk:(k:Int) < 4611686018427387904:=by omega
   obtain ⟨hI1,hM1⟩:=pm.step_iv hIk (by omega) hBk ⟨o1,o2,o3,o4,o5,steps⟩
   unfold pm.step at hI1 hM1
   simp only at hI1 hM1
   have k4:Keep mm (bump mm 1):=(Keep.refl kk.wf).bump
   refine (hl.keep hw kk).open (k:=k) hv fun b o hc=>⟨o1,hc 0 _ rfl,o2,hc 1 _ rfl,o3,hc 2 _ rfl,o4,hc 3 _ rfl,o5,hc 4 _ rfl,oa,on,oc,hc 5 _ rfl,?_⟩
   refine split_ltI (fun _=>rfl) (fun _=>?_)
   refine joinK_of' (fun f:Int→Int→Option Addr→Nat→Nat→Option Addr→Nat→Nat→Option Addr→Nat→Nat→Mem→Prop=>∀ now' b1 e1 d1 b2 e2 d2 b3 e3 d3 m5 τ',Keep mm m5→RdSt cx m5 xc now' b1 e1 b2 e2 b3 e3 d3 τ'→pm.Iv ((k:Int)+1) τ'→f xc now' b1 e1 d1 b2 e2 d2 b3 e3 d3 m5) ?_ ?_
   ·intro now5 s1 f1 s2 s3 f2 s4 s5 f3 s6 m5 τ1 k5 hS5 hIa
    refine settle_ok' k5.wf hS5 hIa fun m6 b1 d1 b2 d2 b3 d3 sa sn sc k6 hT hTE hsn=>⟨_,_,_,_,_,_,_,_,_,_,_,_,_,_,rfl,?_⟩
    obtain ⟨hIT,_,hTm⟩:=pm.settle_iv hIa
    generalize (pm.settle τ1).1 = τ2 at hT hIT
    have hz1:=hIT.len1
    have hz3:=hIT.len3
    have hz4:=hIT.m1
    have hz5:=hIT.m2
    have l1:=hT.len1
    have l3:=hT.len3
    have eM:=hT.em
    refine runs_ok k6.wf hT (by omega) (by omega) (by omega) (by omega) fun m7 ra rc ba bc k7 hAr _ _ _=>⟨_,_,_,_,_,_,rfl,?_⟩
    obtain ⟨ssT,aT,rT⟩:=hT.servs
    have hrl:=runners_len _ hz4
    have hrc:=pm.runners_count hIT
    have kk7:=(kk.trans k5).trans (k6.trans k7)
    refine ⟨fun x14 x15 mi w=>∃ i:Nat,x15=(i:Int)∧i≤f1∧w=f1 - i∧x14=((pm.ready (τ2.servs.take i)).length:Int)∧Keep m7 mi,⟨f1,0,rfl,Nat.zero_le _,rfl,rfl,Keep.refl k7.wf⟩,?_⟩
    rintro x14 x15 mi w ⟨i,rfl,hi,rfl,rfl,ki⟩
    refine split_lt (fun hlt=>?_) (fun hge=>?_)
    ·obtain ⟨x,hx⟩:∃ x,τ2.servs[i]? = some x:=⟨_,List.getElem?_eq_getElem (by omega)⟩
     obtain ⟨v,hv,rv⟩:=rT.get' hx
     have esucc:(pm.ready (τ2.servs.take (i+1))).length=(pm.ready (τ2.servs.take i)).length+(if x.s.mode=1 then 1 else 0):=by
      rw [List.take_add_one,hx]
      show (pm.ready (_ ++ [x])).length=_
      rw [ready_snoc]
      by_cases hmo:x.s.mode=1
      ·rw [eqI_true.2 hmo,if_pos hmo]; simp
      ·rw [eqI_false.2 hmo,if_neg hmo]; simp
     have hrdl:(pm.ready (τ2.servs.take i)).length≤32:=by
      refine Nat.le_trans (List.length_filter_le _ _) ?_
      rw [List.length_take]; omega
     have hev:v.s=x.s:=rv.s
     have heid:v.id=x.id:=rv.id
     have hesec:v.sec=x.sec:=rv.sec
     refine (aT.keep k6.wf (k7.trans ki)).open (k:=i) hv fun b o hc=>⟨_,hc 0 _ rfl,_,hc 1 _ rfl,_,hc 2 _ rfl,_,hc 3 _ rfl,_,hc 4 _ rfl,_,hc 5 _ rfl,_,_,_,hc 6 _ rfl,_,hc 7 _ rfl,_,hc 8 _ rfl,_,hc 9 _ rfl,_,hc 10 _ rfl,?_⟩
     rw [hev,heid,hesec]
     have kib:Keep mi (bump mi 1):=(Keep.refl ki.wf).bump
     refine split_ne (fun hmo=>⟨f1 - (i+1),by omega,i+1,?_,by omega,rfl,by rw [esucc,if_neg hmo]; rfl,ki.trans kib⟩) (fun hmo=>?_)
     ·exact inc_at (by omega)
     ·refine ⟨fun x17 mj w=>∃ j:Nat,x17=(j:Int)∧j≤(pm.runners τ2).length∧w=(pm.runners τ2).length - j∧Keep m7 mj,⟨_,0,rfl,Nat.zero_le _,rfl,ki.trans kib⟩,?_⟩
      rintro x17 mj w ⟨j,rfl,hj,rfl,kj⟩
      refine split_lt (fun hlj=>?_) (fun hgj=>⟨f1 - (i+1),by omega,i+1,?_,by omega,rfl,?_,kj⟩)
      ·obtain ⟨id,hid⟩:∃ id,(pm.runners τ2)[j]? = some id:=⟨_,List.getElem?_eq_getElem hlj⟩
       have hidm:=List.mem_of_getElem? hid
       have kjb:Keep mj (bump mj 12):=(Keep.refl kj.wf).bump
       obtain ⟨y,hy,hyid,hym,_⟩:=pm.runner_at hIT hidm
       refine (hAr.keep k7.wf (kj.trans kjb)).open (k:=j) hid fun b o hc=>⟨_,hc 0 _ rfl,?_⟩
       refine find_ok kjb.wf (hT.keep k6.wf (k7.trans (kj.trans kjb))) hIT (fun m' k' hno=>?_) (fun m10 u y' k10 _ hy' hyi hru=>⟨_,_,_,_,_,_,_,_,_,_,_,_,_,_,rfl,?_⟩)
       ·exfalso
        unfold pm.has at hno
        rw [hy] at hno
        have h5:eqI y.id id=false:=hno
        rw [eqI_true.2 hyid] at h5; cases h5
       ·rw [hy] at hy'; cases hy'
        have x4:=k10.nx
        have xb:(bump mj 12).nx=mj.nx+12:=rfl
        have kA:Keep mj (addO m10 (mj.nx+9) (row [.int .i64 (0:Int),.int .i64 (0:Int),.int .i64 (0:Int),.int .i64 (0:Int),.int .i64 (0:Int),.int .i64 (0:Int),.slice none 0 0,.int .i64 (0:Int),.int .i64 (0:Int),.int .i64 (0:Int),.int .i64 (0:Int)] t_model_Serv false)):=(kjb.trans k10).addO (by omega) (by omega)
        have hR:Row (addO m10 (mj.nx+9) (row [.int .i64 (0:Int),.int .i64 (0:Int),.int .i64 (0:Int),.int .i64 (0:Int),.int .i64 (0:Int),.int .i64 (0:Int),.slice none 0 0,.int .i64 (0:Int),.int .i64 (0:Int),.int .i64 (0:Int),.int .i64 (0:Int)] t_model_Serv false)) (mj.nx+9) [.int .i64 (0:Int),.int .i64 (0:Int),.int .i64 (0:Int),.int .i64 (0:Int),.int .i64 (0:Int),.int .i64 (0:Int),.slice none 0 0,.int .i64 (0:Int),.int .i64 (0:Int),.int .i64 (0:Int),.int .i64 (0:Int)] t_model_Serv false:=Row.of_row (by rw [addO_get,if_pos rfl])
        generalize addO m10 (mj.nx+9) (row [.int .i64 (0:Int),.int .i64 (0:Int),.int .i64 (0:Int),.int .i64 (0:Int),.int .i64 (0:Int),.int .i64 (0:Int),.slice none 0 0,.int .i64 (0:Int),.int .i64 (0:Int),.int .i64 (0:Int),.int .i64 (0:Int)] t_model_Serv false)=m11 at kA hR
        refine ⟨hR.okW (by have:=kA.fl; have:=kj.wf.1; omega) (by simp),?_⟩
        rw [mBind_iff,mBind_iff]
        have hR2:=hR.wr (o:=0) (vs:=[.int .i64 u.id,.int .i64 u.s.q,.int .i64 u.s.p,.int .i64 u.s.bud,.int .i64 u.s.due,.int .i64 u.s.mode,.slice u.ja u.jn u.jc,.int .i64 u.sec,.int .i64 u.held,.int .i64 u.num,.int .i64 u.ran]) (by simp)
        change Row _ _ (encS u) _ _ at hR2
        have kB:Keep mj (wr m11 (mj.nx+9) 0 [.int .i64 u.id,.int .i64 u.s.q,.int .i64 u.s.p,.int .i64 u.s.bud,.int .i64 u.s.due,.int .i64 u.s.mode,.slice u.ja u.jn u.jc,.int .i64 u.sec,.int .i64 u.held,.int .i64 u.num,.int .i64 u.ran]):=kA.wr (by omega)
        generalize wr m11 (mj.nx+9) 0 [.int .i64 u.id,.int .i64 u.s.q,.int .i64 u.s.p,.int .i64 u.s.bud,.int .i64 u.s.due,.int .i64 u.s.mode,.slice u.ja u.jn u.jc,.int .i64 u.sec,.int .i64 u.held,.int .i64 u.num,.int .i64 u.ran]=m12 at kB hR2
        have hus:u.s=y.s:=hru.s
        have huid:u.id=y.id:=hru.id
        have husec:u.sec=y.sec:=hru.sec
        refine joinK_of' (fun f:Mem→Prop=>f m12) ?_ ?_
        ·refine ⟨fun b20 x21 mo w=>∃ q:Nat,x21=(q:Int)∧q≤(pm.runners τ2).length∧w=(pm.runners τ2).length - q∧b20=((pm.runners τ2).take q).all (fun id=>neI id x.id)∧Keep m12 mo,⟨_,0,rfl,Nat.zero_le _,rfl,rfl,Keep.refl kB.wf⟩,?_⟩
         rintro b20 x21 mo w ⟨q,rfl,hq,rfl,rfl,ko⟩
         have kob:Keep mo (bump mo 11):=(Keep.refl ko.wf).bump
         have k7o:=kj.trans (kB.trans ko)
         have nexti:∃ n_79:Nat,n_79 < (pm.runners τ2).length - j∧∃ j':Nat,addI .i64 (j:Int) 1=(j':Int)∧j'≤(pm.runners τ2).length∧n_79=(pm.runners τ2).length - j'∧Keep m7 mo:=⟨_,dec_at hlj,j+1,inc_at (by omega),hlj,rfl,k7o⟩
         refine split_lt (fun hlq=>?_) (fun hgq=>?_)
         ·obtain ⟨iq,hiq⟩:∃ id,(pm.runners τ2)[q]? = some id:=⟨_,List.getElem?_eq_getElem hlq⟩
          have eadd:addI .i64 (q:Int) 1=((q+1:Nat):Int):=inc_at (by omega)
          refine split_b (fun hb=>?_) (fun hb=>?_)
          ·refine (hAr.keep k7.wf (k7o.trans kob)).open (k:=q) hiq fun b o hc=>⟨_,hc 0 _ rfl,(pm.runners τ2).length - (q+1),dec_at hlq,q+1,eadd,hlq,rfl,?_,ko.trans kob⟩
           rw [all_succ hiq,hb]; rfl
          ·refine ⟨(pm.runners τ2).length - (q+1),dec_at hlq,q+1,eadd,hlq,rfl,?_,ko.trans kob⟩
           rw [all_succ hiq,hb]; rfl
         ·rw [List.take_of_length_le (by omega)]
          refine split_b (fun hb=>?_) (fun hb=>nexti)
          have hout:x.id∉pm.runners τ2:=fun hin=>by
           have:=(List.all_eq_true.1 hb) x.id hin
           exact absurd rfl (neI_true.1 this)
          obtain ⟨g1,g2⟩:=pm.best_ready hIT (List.mem_of_getElem? hx) hmo hout (List.mem_of_getElem? hy) hym (by rw [hyid]; exact hidm)
          refine split_ne (fun e=>absurd g1 e) (fun _=>?_)
          have hRo:=ko.row kB.wf hR2
          have rdo:∀ t,rd mo (mj.nx+9) t=(encS u)[t]?:=fun t=>hRo.rd
          refine ⟨y.sec,by rw [rdo]; show some (Value.int .i64 u.sec)=_; rw [husec],split_eq (fun hys=>?_) (fun _=>nexti)⟩
          have g3:=g2 hys
          have rd4:rd mo (mj.nx+9) 4=some (.int .i64 y.s.due):=by rw [rdo]; show some (Value.int .i64 u.s.due)=_; rw [hus]
          refine ⟨y.s.due,rd4,split_ltI (fun e=>absurd (.inl e) g3) (fun _=>⟨y.s.due,rd4,split_eq (fun e=>?_) (fun _=>nexti)⟩)⟩
          refine ⟨y.id,by rw [rdo]; show some (Value.int .i64 u.id)=_; rw [huid],split_ltI (fun e2=>absurd (.inr ⟨e,e2⟩) g3) (fun _=>nexti)⟩
        ·intro J hJ
         refine split_nb (fun h=>by cases h) (fun _=>?_)
         refine ⟨y.s.mode,by rw [hR2.rd]; show some (Value.int .i64 u.s.mode)=_; rw [hus],split_ne (fun e=>absurd hym e) (fun _=>hJ)⟩
      ·exact inc_at (by omega)
      ·rw [esucc,if_pos hmo]; exact inc_at (by omega)
    ·have ei:i=f1:=by omega
     subst ei
     rw [List.take_of_length_le (by omega)]
     have hnext:∃ n_84:Nat,n_84 < n2 - k∧∃ (k':Nat) (τ':pm.St),addI .i64 (k:Int) 1=(k':Int)∧k'≤n2∧n_84=n2 - k'∧xc=xc∧Keep m mi∧RdSt cx mi xc now5 b1 i b2 f2 b3 f3 d3 τ'∧pm.Iv (k':Int) τ':=by
      refine ⟨n2 - (k+1),by omega,k+1,τ2,inc_at (by omega),by omega,rfl,rfl,kk7.trans ki,hT.keep k6.wf (k7.trans ki),?_⟩
      have:((k+1:Nat):Int)=(k:Int)+1:=by omega
      rw [this]; exact hIT
     refine split_ltI (fun e=>?_) (fun _=>split_ltI (fun e=>split_ne (fun e2=>?_) (fun _=>hnext)) (fun _=>hnext))
     ·exfalso
      unfold lenI at e; omega
     ·exfalso
      unfold lenI at e e2
      apply e2; omega
   ·intro J hJ
    have k4:Keep mm (bump mm 1):=(Keep.refl kk.wf).bump
    refine split_b (fun c0=>?_) (fun c0=>?_)
    ·rw [c0,cond_true] at hI1
     exact add_ok k4.wf (hS.keep kk.wf k4) hIk fun m' b1 n1' d1 b2 d2 b3 d3 k' hR'=>⟨_,_,_,_,_,_,_,_,_,_,_,_,rfl,hJ _ _ _ _ _ _ _ _ _ _ _ _ (k4.trans k') hR' hI1⟩
    rw [c0,cond_false] at hI1
    refine split_b (fun c2=>?_) (fun c2=>?_)
    ·rw [c2,cond_true] at hI1
     exact release_ok k4.wf (hS.keep kk.wf k4) hIk hBk (hst.keep hw (kk.trans k4)) fun m' b1 d1 b2 d2 b3 d3 ae ne ce k' hR' _ _=>⟨_,_,_,_,_,_,_,_,_,_,_,_,_,_,_,rfl,hJ _ _ _ _ _ _ _ _ _ _ _ _ (k4.trans k') hR' hI1⟩
    rw [c2,cond_false] at hI1
    refine ⟨fun x5' yc yc1 bc oc dc bc2 oc2 dc2 bc3 oc3 dc3 mt w=>∃ t:Nat,x5'=(t:Int)∧t≤min o5.toNat 40∧w=40 - t∧yc=xc∧Keep mm mt∧RdSt cx mt xc yc1 bc oc bc2 oc2 bc3 oc3 dc3 (pm.tickN t τ),⟨40,0,rfl,Nat.zero_le _,rfl,rfl,k4,hS.keep kk.wf k4⟩,?_⟩
    rintro x5' yc yc1 bc oc dc bc2 oc2 dc2 bc3 oc3 dc3 mt w ⟨t,rfl,ht,rfl,rfl,kt,hR'⟩
    refine joinK_of' (fun f:Mem→Prop=>t < min o5.toNat 40→f mt) ?_ ?_
    ·intro hlt
     have hI':=(pm.tickN_iv hIk t).1
     refine tick_ok kt.wf hR' hI' fun m' now' b1 d1 b2 d2 b3 d3 ae ne ce k2 hR2 _ _=>⟨_,_,_,_,_,_,_,_,_,_,_,_,_,_,_,rfl,40 - (t+1),by omega,t+1,?_,by omega,rfl,rfl,kt.trans k2,hR2⟩
     exact inc_at (by omega)
    ·intro J' hJ'
     have done:min o5.toNat 40=t→J yc yc1 bc oc dc bc2 oc2 dc2 bc3 oc3 dc3 mt:=by
      intro e
      rw [e] at hI1
      exact hJ _ _ _ _ _ _ _ _ _ _ _ _ kt hR' hI1
     refine split_ltI (fun l1=>?_) (fun l1=>done (by omega))
     exact split_ltI (fun l2=>hJ' (by omega)) (fun l2=>done (by omega))
  ·intro J hJ
   refine split_ne (fun _=>rfl) (fun _=>split_ltI (fun _=>rfl) (fun h15=>hJ ?_))
   simp only [lenI] at h15
   omega
end
end Go.Proofs.YtiehbnmpaeedpaaGreat.vc
