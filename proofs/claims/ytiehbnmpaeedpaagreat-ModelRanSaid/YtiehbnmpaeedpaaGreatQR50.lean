import Derived.Test.YtiehbnmpaeedpaaGreatQR49
namespace Go.Proofs.YtiehbnmpaeedpaaGreat.vc
open Go Go.AX
set_option linter.unusedVariables false
set_option linter.unusedSimpArgs false
set_option linter.unusedSectionVars false
section
variable {B:Int} {m0 m:Mem} {lam:Nat→Lb} {Q:Value→Mem→Prop} {M now:Int} {a1 a2 a3:Option Addr} {n1 c1 n2 c2 n3 c3:Nat} {ss:List SV} {js:Nat→List JV} {ls:List LV} {qs:Nat→List Int} {σ : pm.St}
theorem low_S (hO:Ow TT (fun _=>.own true) (fun _=>.own true) m0 m lam a1 n1 c1 a2 n2 c2 a3 n3 c3 ss js ls qs σ):(ss.flatMap encS).all (lowV m.nx)=true:=by
 rw [List.all_eq_true]
 intro u hu
 obtain ⟨v,hv,hu⟩:=List.mem_flatMap.1 hu
 obtain ⟨i,hi⟩:=List.getElem?_of_mem hv
 have hJ:CSl m0 m t_job_Job true v.ja v.jn v.jc ((js i).flatMap encJ):=(hO.jb i v hi).1
 have hlow:lowV m.nx (.slice v.ja v.jn v.jc)=true:=by
  have hlt:=hJ.lt hO.keep.wf
  generalize (js i).flatMap encJ=L at hJ
  generalize v.ja=a at *
  generalize v.jn=n at *
  generalize v.jc=c at *
  cases hJ with
  | nil=>rfl
  | empty b cc h1 h2=>exact Nat.ble_eq_true_of_le (hlt b (by simp [blk])).2
  | row b n pre l hw h1 h2=>exact Nat.ble_eq_true_of_le (hlt b (by simp [blk])).2
 unfold encS at hu
 simp only [List.mem_cons,List.not_mem_nil,or_false] at hu
 rcases hu with rfl | rfl | rfl | rfl | rfl | rfl | rfl | rfl | rfl | rfl | rfl
 all_goals first | exact hlow | rfl
theorem insS_ok {i bv:Nat} {v:SV} (hO:Ow TT (fun _=>.own true) (fun _=>.own true) m0 m lam a1 n1 c1 a2 n2 c2 a3 n3 c3 ss js ls qs σ) (hi:i≤n1) (hR:Row m bv (encS v) t_model_Serv false) (hbv:∀ b∈blk a1,bv≠b) (hv0:v.ja=none∧v.jn=0∧v.jc=0) (hn:n1≤1000)
  (h:∀ m',Wf m'→Fr m m' (blk a1)→m'.nx=m.nx+1→Row m' m.nx ((ss.take i ++ v :: ss.drop i).flatMap encS) t_model_Serv true→Q (.slice (some ⟨m.nx,0,none⟩) (n1+1) (n1+1)) m') :
  CallV cx n_slices_Insert_sl_model_Serv [.slice a1 n1 c1,.int .i64 (i:Int),.slice (some ⟨bv,0,none⟩) 1 1] m Q:=by
 have hw:=hO.keep.wf
 have hfl0:m.fl≤m0.nx:=by have:=hO.keep.fl; have:=hO.fl0; omega
 have hLlen:(ss.flatMap encS).length=n1*11:=by rw [flat_length encS_len,hO.s1n]
 have hx:firstL m 11 1 (.slice (some ⟨bv,0,none⟩) 1 1)=some (encS v):=hR.first1 rfl
 by_cases hin:i=n1
 ·obtain ⟨m',q1,q2,q3,q4,q5⟩:=own_push (cx:=vc0.cx) (t:=t_sl_model_Serv) (e:=t_model_Serv) (s:=11) (vs:=encS v) (by kernel_rfl) hw hfl0 hO.s1.own hLlen hx rfl rfl (by omega)
  have hsl:isSlV (sliceOp vc0.cx m t_sl_model_Serv (.slice a1 n1 c1) (some (.int .i64 (i:Int))) none none)=true:=by
   have ht:vc0.cx.un.get t_sl_model_Serv=some (.slice t_model_Serv):=by kernel_rfl
   have hs:sizeT vc0.cx t_model_Serv=some 11:=by kernel_rfl
   have h1:=hO.s1.own
   subst hin
   generalize ss.flatMap encS=L at h1
   cases h1 with
   | nil=>
    unfold sliceOp
    have b1:boundA 0 (some (.int .i64 ((0:Nat):Int))) 0=some 0:=boundA_some (Nat.le_refl _)
    simp only [ht,hs,boundA_none,b1]; rfl
   | empty b cc h2 h3=>
    rw [sliceOp_at (lo:=some (.int .i64 ((0:Nat):Int))) (hi:=none) ht hs rfl (boundA_some (Nat.le_refl _)) (by unfold sameSize; rw [h3]) (Nat.le_refl _)]; rfl
   | row b n l h0 h2 h3=>
    rw [sliceOp_at (hi:=none) ht hs rfl (boundA_some (Nat.le_refl _)) (h3.sameSize hs) (Nat.le_refl _)]; rfl
  refine CallV.ov ovNi ov_serv (r:=.slice (some ⟨m.nx,0,none⟩) (n1+1) (n1+1)) (u':=m') ?_ (h m' q2 q3 q4 ?_)
  ·show insA vc0.cx t_sl_model_Serv t_model_Serv 11 104 _ _=_
   unfold insA
   have e1:decide ((i:Int)=(n1:Int))=true:=decide_eq_true (by omega)
   simp only [e1,hsl,show Nat.blt 0 1=true from rfl]
   exact q1
  ·rw [List.take_of_length_le (by rw [hO.s1n]; omega),List.drop_eq_nil_of_le (by rw [hO.s1n]; omega),List.flatMap_append]
   simpa using q5
 ·have h1:=hO.s1.own
  have hlow:=low_S hO
  have hone:(ss.flatMap encS).all one1=true:=flat_one1 encS_one1 ss
  have hfm:(ss.take i ++ v :: ss.drop i).flatMap encS=(ss.flatMap encS).take (i*11) ++ encS v ++ (ss.flatMap encS).drop (i*11):=by
   have e:ss.flatMap encS=(ss.take i).flatMap encS ++ (ss.drop i).flatMap encS:=by rw [← List.flatMap_append,List.take_append_drop]
   have hl:((ss.take i).flatMap encS).length=i*11:=by rw [flat_length encS_len,List.length_take,hO.s1n]; congr 1; omega
   rw [e,List.flatMap_append,List.flatMap_cons,← hl,List.take_left,List.drop_left,List.append_assoc]
  rw [hfm] at h
  have hlowv:(encS v).all (lowV m.nx)=true:=by
   obtain ⟨e1,e2,e3⟩:=hv0
   unfold encS
   rw [e1,e2,e3]; rfl
  generalize ss.flatMap encS=L at *
  cases h1 with
  | nil=>omega
  | empty b cc h2 h3=>omega
  | row b n l h0 h2 h3=>
   have hbne:Nat.beq bv b=false:=Tr.beq_false.2 (hbv b (by simp [blk]))
   obtain ⟨tr,hg,hc⟩:=id h3
   have hrow:rowAtL m ⟨b,0,none⟩ (n1*11)=some L:=by
    have:=h3.rowAll
    rw [hLlen] at this; exact this
   obtain ⟨tv,hgv,_⟩:=id hR
   have hcell:cellsB m bv=true:=by unfold cellsB; rw [hgv]
   have hok:insOk m t_model_Serv t_model_Serv 11 b 0 n1 n1 i 1 bv L.length 104 L (encS v)=true:=by
    unfold insOk
    rw [hcell,hlow,hlowv,hone,encS_one1 v,hbne,Nat.ble_eq_true_of_le (show m.fl≤b by omega)]
    have b1:Nat.beq (0+n1*11) L.length=true:=by rw [hLlen,Nat.zero_add]; exact Nat.beq_refl _
    have b2:Nat.blt i n1=true:=Nat.ble_eq_true_of_le (by omega)
    have b3:Nat.ble n1 n1=true:=Nat.ble_eq_true_of_le (Nat.le_refl _)
    have b4:Nat.beq (encS v).length (1*11)=true:=rfl
    have b5:Nat.beq L.length (n1*11)=true:=by rw [hLlen]; exact Nat.beq_refl _
    have b6:Nat.ble (n1+1) 1000000=true:=Nat.ble_eq_true_of_le (by omega)
    rw [b1,b2,b3,b4,b5,b6,show Nat.beq t_model_Serv t_model_Serv=true from Nat.beq_refl _]
    rfl
   refine CallV.ov ovNi ov_serv (r:=.slice (some ⟨m.nx,0,none⟩) (n1+1) (n1+1)) (u':=(newCells { m with hp:=m.hp.del b } (L.take (i*11) ++ encS v ++ L.drop (i*11)) t_model_Serv true).2) ?_ (h _ ?_ ?_ rfl ?_)
   ·show insA vc0.cx t_sl_model_Serv t_model_Serv 11 104 _ _=_
    unfold insA
    have e1:decide ((i:Int)=(n1:Int))=false:=decide_eq_false (by omega)
    have e2:decide (0≤(i:Int))=true:=decide_eq_true (by omega)
    simp only [e1,e2]
    unfold insB
    rw [Int.toNat_natCast]
    simp only [hg,hrow,hx,hok]
   ·have hd:=del_nice hw b
    exact (newCells_nice hd.wf _ _ _).wf
   ·refine ⟨Nat.le_succ _,rfl,fun b' hb' hn'=>?_⟩
    show ((m.hp.del b).put m.nx _).get b'=_
    rw [Tr.get_put,if_neg (by omega),Tr.get_del,if_neg (by simpa [blk] using hn')]
   ·exact Row.of_row (by
     show ((m.hp.del b).put m.nx _).get m.nx=_
     rw [Tr.get_put,if_pos rfl]; rfl)
theorem all2_ins {α β : Type} {R:α→β→Prop} {l:List α} {k:List β} {a:α} {b:β} (h:All2 R l k) (i:Nat) (hab:R a b):All2 R (l.take i ++ a :: l.drop i) (k.take i ++ b :: k.drop i):=
 (h.take i).append (.cons hab (h.drop i))
theorem add_ok {id q p:Int} (hw:Wf m) (hσ : RdSt cx m M now a1 n1 a2 n2 a3 n3 c3 σ) (hI:pm.Iv B σ)
  (h:∀ m' b1 n1' d1 b2 d2 b3 d3,Keep m m'→RdSt cx m' M now b1 n1' b2 n2 b3 n3 d3 (pm.add σ id q p).1→Q (.tuple #[.agg #[.int .i64 M,.int .i64 now,.slice b1 n1' d1,.slice b2 n2 d2,.slice b3 n3 d3],.int .i64 (pm.add σ id q p).2]) m') :
  CallV cx n_model_Add [.agg #[.int .i64 M,.int .i64 now,.slice a1 n1 c1,.slice a2 n2 c2,.slice a3 n3 c3],.int .i64 id,.int .i64 q,.int .i64 p] m Q:=by
 apply G_model_Add_ok; unfold G_model_Add
 have k0:Keep m (bump m 2):=(Keep.refl hw).bump
 have hz:=hI.len1
 have hl1:=hσ.len1
 refine at_ok k0.wf (hσ.keep hw k0) hI.rise (by omega) fun m1 k1=>⟨_,_,rfl,?_⟩
 have k01:=k0.trans k1
 have same:∀ m' e,Keep m m'→pm.add σ id q p=(σ,e)→Q (.tuple #[.agg #[.int .i64 M,.int .i64 now,.slice a1 n1 c1,.slice a2 n2 c2,.slice a3 n3 c3],.int .i64 e]) m':=fun m' e k he=>by
  rw [he] at h
  exact h m' a1 n1 c1 a2 c2 a3 c3 k (hσ.keep hw k)
 refine joinK_of' (fun f:Bool→Mem→Prop=>∀ b,b=(ltI id 1 || ltI 255 id)→f b m1) ?_ ?_
 ·rintro b rfl
  refine split_b (fun h1=>same _ _ k01 (by unfold pm.add; rw [h1]; rfl)) (fun h1=>?_)
  refine split_b (fun h2=>same _ _ k01 (by unfold pm.add; rw [h1,h2]; rfl)) (fun h2=>?_)
  have e3:leI 32 (lenI n1)=leI 32 (lenI σ.servs.length):=by rw [hl1]
  rw [e3]
  refine split_b (fun h3=>same _ _ k01 (by unfold pm.add; rw [h1,h2,h3]; rfl)) (fun h3=>?_)
  refine cNew_ok k01.wf fun m2 k2=>⟨_,_,_,_,_,_,rfl,?_⟩
  have k02:=k01.trans k2
  refine split_b (fun h4=>same _ _ k02.bump (by unfold pm.add; rw [h1,h2,h3,h4]; rfl)) (fun h4=>?_)
  obtain ⟨_,_,ecn⟩:=pm.cNew_good (neI_false.1 h4)
  have eadd:pm.add σ id q p=({ σ with servs:=σ.servs.take (pm.at_ σ.servs id) ++ ⟨id,(pm.cNew q p).1,[],0,0,0,0⟩ :: σ.servs.drop (pm.at_ σ.servs id) },0):=by
   unfold pm.add
   rw [h1,h2,h3,h4]; rfl
  rw [eadd] at h
  have k03:Keep m (bump m2 1):=k02.bump
  refine clone_ok k03.wf (hσ.keep hw k03) (iv_small hI.toIw) fun m4 lam b1 d1 b2 d2 b3 d3 ss js ls qs hO=>⟨_,_,_,_,_,_,_,_,_,_,_,rfl,?_⟩
  have hO:=hO.old0 hw k03
  rw [mBind_iff]
  have k5:Keep m4 (newO m4 (row [.int .i64 id,.int .i64 (pm.cNew q p).1.q,.int .i64 (pm.cNew q p).1.p,.int .i64 (pm.cNew q p).1.bud,.int .i64 (pm.cNew q p).1.due,.int .i64 (pm.cNew q p).1.mode,.slice none 0 0,.int .i64 0,.int .i64 0,.int .i64 0,.int .i64 0] t_model_Serv false)):=(Keep.refl hO.keep.wf).newO
  have hR:Row (newO m4 (row [.int .i64 id,.int .i64 (pm.cNew q p).1.q,.int .i64 (pm.cNew q p).1.p,.int .i64 (pm.cNew q p).1.bud,.int .i64 (pm.cNew q p).1.due,.int .i64 (pm.cNew q p).1.mode,.slice none 0 0,.int .i64 0,.int .i64 0,.int .i64 0,.int .i64 0] t_model_Serv false)) m4.nx (encS ⟨id,(pm.cNew q p).1,none,0,0,0,0,0,0⟩) t_model_Serv false:=Row.newO
  generalize newO m4 (row [.int .i64 id,.int .i64 (pm.cNew q p).1.q,.int .i64 (pm.cNew q p).1.p,.int .i64 (pm.cNew q p).1.bud,.int .i64 (pm.cNew q p).1.due,.int .i64 (pm.cNew q p).1.mode,.slice none 0 0,.int .i64 0,.int .i64 0,.int .i64 0,.int .i64 0] t_model_Serv false)=m5 at k5 hR
  have hO5:=hO.then k5
  have hblt:=hO.s1.lt hO.keep.wf
  have hale:=at_le σ.servs id
  refine insS_ok hO5 (i:=pm.at_ σ.servs id) (by omega) hR (fun b hb e=>by have:=(hblt b hb).2; omega) ⟨rfl,rfl,rfl⟩ (by omega) fun m6 hw6 f6 hx6 hR6=>⟨_,_,_,rfl,?_⟩
  obtain ⟨r1,r2,r3,r4⟩:=hO5.apartS (cx:=cx) f6 (fun b hb=>hO.s1l b hb) sBack
  have kk:Keep m m6:=Keep.of_fr hO5.keep hw6 f6 (fun b hb=>(hblt b hb).1)
  have hnew:RdServ m6 (⟨id,(pm.cNew q p).1,none,0,0,0,0,0,0⟩:SV) (⟨id,(pm.cNew q p).1,[],0,0,0,0⟩:pm.Serv):=⟨rfl,rfl,rfl,rfl,rfl,rfl,[],ArrP.nil,.nil⟩
  refine h m6 _ _ _ _ _ _ _ kk ⟨hσ.em,hσ.enow,⟨_,?_,all2_ins r1 _ hnew⟩,r2,r3,r4⟩
  have:=Arr.of_row encS_len hR6
  have e:(ss.take (pm.at_ σ.servs id) ++ (⟨id,(pm.cNew q p).1,none,0,0,0,0,0,0⟩:SV) :: ss.drop (pm.at_ σ.servs id)).length=n1+1:=by
   rw [List.length_append,List.length_cons,List.length_take,List.length_drop,hO.s1n]; omega
  rw [e] at this
  exact this
 ·intro J hJ
  refine split_b (fun h1=>hJ _ (by rw [h1]; rfl)) (fun h1=>hJ _ (by rw [h1]; rfl))
theorem delS_ok {i:Nat} (hO:Ow TT (fun _=>.own true) (fun _=>.own true) m0 m lam a1 n1 c1 a2 n2 c2 a3 n3 c3 ss js ls qs σ) (hi:i < n1)
  (h:∀ m',Wf m'→Fr m m' (blk a1)→Arr encS 11 m' a1 (n1 - 1) (ss.eraseIdx i)→Q (.slice a1 (n1 - 1) c1) m') :
  CallV cx n_slices_Delete_sl_model_Serv [.slice a1 n1 c1,.int .i64 (i:Int),.int .i64 ((i+1:Nat):Int)] m Q:=by
 apply G_slices_Delete_sl_model_Serv_ok; unfold G_slices_Delete_sl_model_Serv
 have hw:=hO.keep.wf
 have hfl0:m.fl≤m0.nx:=by have:=hO.keep.fl; have:=hO.fl0; omega
 have hLlen:(ss.flatMap encS).length=n1*11:=by rw [flat_length encS_len,hO.s1n]
 have hone:(ss.flatMap encS).all one1=true:=flat_one1 encS_one1 ss
 have h1:=hO.s1.own
 have hss:=hO.s1n
 have hdel:(ss.eraseIdx i).flatMap encS=(ss.flatMap encS).take (i*11) ++ (ss.flatMap encS).drop ((i+1)*11):=by
  have e:ss.flatMap encS=(ss.take i).flatMap encS ++ (ss.drop i).flatMap encS:=by rw [← List.flatMap_append,List.take_append_drop]
  have e':ss.flatMap encS=(ss.take (i+1)).flatMap encS ++ (ss.drop (i+1)).flatMap encS:=by rw [← List.flatMap_append,List.take_append_drop]
  have hl:((ss.take i).flatMap encS).length=i*11:=by rw [flat_length encS_len,List.length_take,hss]; congr 1; omega
  have hl':((ss.take (i+1)).flatMap encS).length=(i+1)*11:=by rw [flat_length encS_len,List.length_take,hss]; congr 1; omega
  have t1:(ss.flatMap encS).take (i*11)=(ss.take i).flatMap encS:=by rw [e,← hl,List.take_left]
  have t2:(ss.flatMap encS).drop ((i+1)*11)=(ss.drop (i+1)).flatMap encS:=by rw [e',← hl',List.drop_left]
  rw [t1,t2,List.eraseIdx_eq_take_drop_succ,List.flatMap_append]
 generalize hLL:ss.flatMap encS=L at h1
 rw [hLL] at hLlen hone hdel
 cases h1 with
 | nil=>omega
 | empty b cc h2 h3=>omega
 | row b n l h0 h2 h3=>
  obtain ⟨⟨x1,x2,x3,d1⟩,d2,d3,m1,d4,d5,m2,Z,d6,d7,d8,d9,d10⟩:=delete_g (cx:=cx) (t:=t_sl_model_Serv) (e:=t_model_Serv) (s:=11) (i:=i) (by kernel_rfl) (by kernel_rfl) hw h3 hLlen hi (by omega) hone
  refine ⟨x1,x2,x3,d1,?_⟩
  refine split_eq (fun e=>by omega) (fun _=>?_)
  refine ⟨_,_,_,d2,_,_,_,d3,_,_,_,m1,d4,_,_,_,d5,m2,d6,?_⟩
  have hn:i+(n1 - (i+1))=n1 - 1:=by omega
  rw [hn]
  refine h m2 ⟨by have:=hw.1; omega,fun b' hb'=>?_⟩ ⟨by omega,d10,fun b' hb' hn'=>d8 b' (by simpa [blk] using hn')⟩ ?_
  ·have hbn:b≠b':=fun e=>by have:=hw.row h3; omega
   rw [d8 b' (fun e=>hbn e.symm)]; exact hw.2 b' (by omega)
  ·refine ⟨by rw [List.length_eraseIdx,if_pos (by omega)]; omega,fun j x hx=>⟨b,0,rfl,fun k v hv=>?_⟩⟩
   have hk:k < 11:=by rw [← encS_len x]; exact (List.getElem?_eq_some_iff.1 hv).1
   have hj:j < n1 - 1:=by
    have:=(List.getElem?_eq_some_iff.1 hx).1
    rw [List.length_eraseIdx,if_pos (by omega)] at this; omega
   rw [← hdel] at d7
   rw [d7.rd,List.getElem?_append_left (by rw [flat_length encS_len,List.length_eraseIdx,if_pos (by omega)]; omega),Nat.zero_add,flat_get encS_len hx hk,hv]
theorem drop_ok {id:Int} (hw:Wf m) (hσ : RdSt cx m M now a1 n1 a2 n2 a3 n3 c3 σ) (hI:pm.Iv B σ)
  (h:∀ m' b1 n1' d1 b2 d2 b3 d3,Keep m m'→RdSt cx m' M now b1 n1' b2 n2 b3 n3 d3 (pm.drop σ id).1→Q (.tuple #[.agg #[.int .i64 M,.int .i64 now,.slice b1 n1' d1,.slice b2 n2 d2,.slice b3 n3 d3],.int .i64 (pm.drop σ id).2]) m') :
  CallV cx n_model_Drop [.agg #[.int .i64 M,.int .i64 now,.slice a1 n1 c1,.slice a2 n2 c2,.slice a3 n3 c3],.int .i64 id] m Q:=by
 apply G_model_Drop_ok; unfold G_model_Drop
 have k0:Keep m (bump m 2):=(Keep.refl hw).bump
 have hz:=hI.len1
 have hl1:=hσ.len1
 refine at_ok k0.wf (hσ.keep hw k0) hI.rise (by omega) fun m1 k1=>⟨_,_,rfl,?_⟩
 have k01:=k0.trans k1
 have same:∀ m' e,Keep m m'→pm.drop σ id=(σ,e)→Q (.tuple #[.agg #[.int .i64 M,.int .i64 now,.slice a1 n1 c1,.slice a2 n2 c2,.slice a3 n3 c3],.int .i64 e]) m':=fun m' e k he=>by
  rw [he] at h
  exact h m' a1 n1 c1 a2 c2 a3 c3 k (hσ.keep hw k)
 refine split_nb (fun h1=>same _ _ k01 (by unfold pm.drop; rw [h1]; rfl)) (fun h1=>?_)
 obtain ⟨x,hx,hxid⟩:=pm.has_at hI.rise h1
 have hil:=(List.getElem?_eq_some_iff.1 hx).1
 obtain ⟨ss0,hA0,hS0⟩:=(hσ.keep hw k01).servs
 obtain ⟨v0,hv0,hR0⟩:=hS0.get' hx
 refine hA0.open (k:=pm.at_ σ.servs id) hv0 fun b o hc=>?_
 refine ⟨_,hc 0 _ rfl,_,hc 1 _ rfl,_,hc 2 _ rfl,_,hc 3 _ rfl,_,hc 4 _ rfl,_,hc 5 _ rfl,_,_,_,hc 6 _ rfl,_,hc 7 _ rfl,_,hc 8 _ rfl,_,hc 9 _ rfl,_,hc 10 _ rfl,?_⟩
 refine idle_ok k01.wf fun m2 k2=>⟨_,rfl,?_⟩
 have k02:=k01.trans k2
 have eid:eqI v0.s.mode 0=x.idle:=by unfold pm.Serv.idle; rw [hR0.s]
 rw [eid]
 refine split_nb (fun h2=>same _ _ k02 (by unfold pm.drop; rw [h1,hx]; simp only [h2]; rfl)) (fun h2=>?_)
 have edrop:pm.drop σ id=({ σ with servs:=σ.servs.eraseIdx (pm.at_ σ.servs id) },0):=by
  unfold pm.drop; rw [h1,hx]; simp only [h2]; rfl
 rw [edrop] at h
 refine clone_ok k02.wf (hσ.keep hw k02) (iv_small hI.toIw) fun m4 lam b1 d1 b2 d2 b3 d3 ss js ls qs hO=>⟨_,_,_,_,_,_,_,_,_,_,_,rfl,?_⟩
 have hO:=hO.old0 hw k02
 have ei:addI .i64 ((pm.at_ σ.servs id:Nat):Int) 1=((pm.at_ σ.servs id+1:Nat):Int):=by rw [addI_64 (by omega) (by omega)]; omega
 rw [ei]
 have hblt:=hO.s1.lt hO.keep.wf
 refine delS_ok hO (by omega) fun m6 hw6 f6 hA6=>⟨_,_,_,rfl,?_⟩
 obtain ⟨r1,r2,r3,r4⟩:=hO.apartS (cx:=cx) f6 (fun b hb=>hO.s1l b hb) sBack
 have kk:Keep m m6:=Keep.of_fr hO.keep hw6 f6 (fun b hb=>(hblt b hb).1)
 refine h m6 _ _ _ _ _ _ _ kk ⟨hσ.em,hσ.enow,⟨_,hA6,?_⟩,r2,r3,r4⟩
 show All2 _ (ss.eraseIdx _) (σ.servs.eraseIdx _)
 rw [List.eraseIdx_eq_take_drop_succ,List.eraseIdx_eq_take_drop_succ]
 exact (r1.take _).append (r1.drop _)
end
end Go.Proofs.YtiehbnmpaeedpaaGreat.vc
namespace Go.Proofs.YtiehbnmpaeedpaaGreat.vc
open Go Go.AX
set_option linter.unusedVariables false
set_option linter.unusedSimpArgs false
set_option linter.unusedSectionVars false
section
variable {B:Int} {m0 m:Mem} {lam:Nat→Lb} {wj wq:Nat→Kd} {Q:Value→Mem→Prop} {M now:Int} {a1 a2 a3 ae:Option Addr} {n1 c1 n2 c2 n3 c3 ne ce:Nat} {ss:List SV} {js:Nat→List JV} {ls:List LV} {qs:Nat→List Int} {σ : pm.St} {E:List pm.Ev}
theorem delB_ok {i:Nat} (hO:Ow TT (fun _=>.own true) (fun _=>.own true) m0 m lam a1 n1 c1 a2 n2 c2 a3 n3 c3 ss js ls qs σ) (hi:i < n3)
  (h:∀ m',Wf m'→Fr m m' (blk a3)→Arr encB 2 m' a3 (n3 - 1) (σ.backs.eraseIdx i)→Cut cx m' a3 (n3 - 1) c3 2→Q (.slice a3 (n3 - 1) c3) m') :
  CallV cx n_slices_Delete_sl_model_Back [.slice a3 n3 c3,.int .i64 (i:Int),.int .i64 ((i+1:Nat):Int)] m Q:=by
 apply G_slices_Delete_sl_model_Back_ok; unfold G_slices_Delete_sl_model_Back
 have hw:=hO.keep.wf
 have hfl0:m.fl≤m0.nx:=by have:=hO.keep.fl; have:=hO.fl0; omega
 have hLlen:(σ.backs.flatMap encB).length=n3*2:=by rw [flat_length encB_len,hO.s3n]
 have hone:(σ.backs.flatMap encB).all one1=true:=flat_one1 encB_one1 σ.backs
 have h1:=hO.s3.own
 have hss:=hO.s3n
 generalize σ.backs=ss at *
 have hdel:(ss.eraseIdx i).flatMap encB=(ss.flatMap encB).take (i*2) ++ (ss.flatMap encB).drop ((i+1)*2):=by
  have e:ss.flatMap encB=(ss.take i).flatMap encB ++ (ss.drop i).flatMap encB:=by rw [← List.flatMap_append,List.take_append_drop]
  have e':ss.flatMap encB=(ss.take (i+1)).flatMap encB ++ (ss.drop (i+1)).flatMap encB:=by rw [← List.flatMap_append,List.take_append_drop]
  have hl:((ss.take i).flatMap encB).length=i*2:=by rw [flat_length encB_len,List.length_take,hss]; congr 1; omega
  have hl':((ss.take (i+1)).flatMap encB).length=(i+1)*2:=by rw [flat_length encB_len,List.length_take,hss]; congr 1; omega
  have t1:(ss.flatMap encB).take (i*2)=(ss.take i).flatMap encB:=by rw [e,← hl,List.take_left]
  have t2:(ss.flatMap encB).drop ((i+1)*2)=(ss.drop (i+1)).flatMap encB:=by rw [e',← hl',List.drop_left]
  rw [t1,t2,List.eraseIdx_eq_take_drop_succ,List.flatMap_append]
 generalize hLL:ss.flatMap encB=L at h1
 rw [hLL] at hLlen hone hdel
 cases h1 with
 | nil=>omega
 | empty b cc h2 h3=>omega
 | row b n l h0 h2 h3=>
  obtain ⟨⟨x1,x2,x3,d1⟩,d2,d3,m1,d4,d5,m2,Z,d6,d7,d8,d9,d10⟩:=delete_g (cx:=cx) (t:=t_sl_model_Back) (e:=t_model_Back) (s:=2) (i:=i) (by kernel_rfl) (by kernel_rfl) hw h3 hLlen hi (by omega) hone
  refine ⟨x1,x2,x3,d1,?_⟩
  refine split_eq (fun e=>by omega) (fun _=>?_)
  refine ⟨_,_,_,d2,_,_,_,d3,_,_,_,m1,d4,_,_,_,d5,m2,d6,?_⟩
  have hn:i+(n3 - (i+1))=n3 - 1:=by omega
  rw [hn]
  refine h m2 ⟨by have:=hw.1; omega,fun b' hb'=>?_⟩ ⟨by omega,d10,fun b' hb' hn'=>d8 b' (by simpa [blk] using hn')⟩ ?_ ⟨by omega,.inr ?_⟩
  ·have hbn:b≠b':=fun e=>by have:=hw.row h3; omega
   rw [d8 b' (fun e=>hbn e.symm)]; exact hw.2 b' (by omega)
  ·refine ⟨by rw [List.length_eraseIdx,if_pos (by omega)]; omega,fun j x hx=>⟨b,0,rfl,fun k v hv=>?_⟩⟩
   have hk:k < 2:=by rw [← encB_len x]; exact (List.getElem?_eq_some_iff.1 hv).1
   have hj:j < n3 - 1:=by
    have:=(List.getElem?_eq_some_iff.1 hx).1
    rw [List.length_eraseIdx,if_pos (by omega)] at this; omega
   rw [← hdel] at d7
   rw [d7.rd,List.getElem?_append_left (by rw [flat_length encB_len,List.length_eraseIdx,if_pos (by omega)]; omega),Nat.zero_add,flat_get encB_len hx hk,hv]
  ·obtain ⟨tr,hg,_⟩:=id d7
   exact ⟨b,0,_,rfl,hg,d7.sameSize sBack⟩
theorem ground_ok {id:Int} {on:Bool} (hw:Wf m) (hσ : RdSt cx m M now a1 n1 a2 n2 a3 n3 c3 σ) (hI:pm.Iv B σ)
  (h:∀ m' b1 d1 b2 d2 b3 n3' d3,Keep m m'→RdSt cx m' M now b1 n1 b2 n2 b3 n3' d3 (pm.ground σ id on).1→Q (.tuple #[.agg #[.int .i64 M,.int .i64 now,.slice b1 n1 d1,.slice b2 n2 d2,.slice b3 n3' d3],.int .i64 (pm.ground σ id on).2]) m') :
  CallV cx n_model_Ground [.agg #[.int .i64 M,.int .i64 now,.slice a1 n1 c1,.slice a2 n2 c2,.slice a3 n3 c3],.int .i64 id,.bool on] m Q:=by
 apply G_model_Ground_ok; unfold G_model_Ground
 have k0:Keep m (bump m 2):=(Keep.refl hw).bump
 have hz3:=hI.len3
 have hl3:=hσ.len3
 refine back_ok k0.wf (hσ.keep hw k0) (by omega) fun m1 k1=>⟨_,rfl,?_⟩
 have k01:=k0.trans k1
 have same:∀ e,pm.ground σ id on=(σ,e)→Q (.tuple #[.agg #[.int .i64 M,.int .i64 now,.slice a1 n1 c1,.slice a2 n2 c2,.slice a3 n3 c3],.int .i64 e]) m1:=fun e he=>by
  rw [he] at h
  exact h m1 a1 c1 a2 c2 a3 n3 c3 k01 (hσ.keep hw k01)
 have hbk:∀ i,pm.back σ.backs id=some i→i < n3:=fun i hi=>by
  unfold pm.back at hi
  have:=(List.findIdx?_eq_some_iff_findIdx_eq.1 hi).1
  omega
 refine joinK_of' (fun f:Bool→Mem→Prop=>∀ b,b=(ltI id 1 || ltI 255 id)→f b m1) ?_ ?_
 ·rintro b rfl
  refine split_b (fun h1=>same _ (by unfold pm.ground; rw [h1]; rfl)) (fun h1=>?_)
  refine joinK_of' (fun f:Bool→Mem→Prop=>∀ b,b=(on && (pm.back σ.backs id).isSome)→f b m1) ?_ ?_
  ·rintro b rfl
   refine split_b (fun h2=>?_) (fun h2=>?_)
   ·simp only [Bool.and_eq_true] at h2
    obtain ⟨rfl,h2⟩:=h2
    obtain ⟨i,hi⟩:=Option.isSome_iff_exists.1 h2
    exact same _ (by unfold pm.ground; rw [h1,hi]; rfl)
   refine joinK_of' (fun f:Bool→Mem→Prop=>∀ b,b=(on && leI 16 (lenI n3))→f b m1) ?_ ?_
   ·rintro b rfl
    refine split_b (fun h3=>?_) (fun h3=>?_)
    ·simp only [Bool.and_eq_true] at h3
     obtain ⟨rfl,h3⟩:=h3
     rw [Bool.true_and] at h2
     have hb:pm.back σ.backs id=none:=Option.not_isSome_iff_eq_none.1 (by rw [h2]; simp)
     exact same _ (by unfold pm.ground; rw [h1,hb]; simp only [hl3,h3]; rfl)
    refine joinK_of' (fun f:Bool→Mem→Prop=>∀ b,b=(!on && !(pm.back σ.backs id).isSome)→f b m1) ?_ ?_
    ·rintro b rfl
     refine split_b (fun h4=>?_) (fun h4=>?_)
     ·simp only [Bool.and_eq_true,Bool.not_eq_true'] at h4
      obtain ⟨rfl,h4⟩:=h4
      have hb:pm.back σ.backs id=none:=Option.not_isSome_iff_eq_none.1 (by rw [h4]; simp)
      exact same _ (by unfold pm.ground; rw [h1,hb]; rfl)
     refine clone_ok k01.wf (hσ.keep hw k01) (iv_small hI.toIw) fun m4 lam b1 d1 b2 d2 b3 d3 ss js ls qs hO=>⟨_,_,_,_,_,_,_,_,_,_,_,rfl,?_⟩
     have hO:=hO.old0 hw k01
     have hblt:=hO.s3.lt hO.keep.wf
     cases on with
     | true=>
      rw [Bool.true_and] at h2 h3
      have hb:pm.back σ.backs id=none:=Option.not_isSome_iff_eq_none.1 (by rw [h2]; simp)
      have eg:pm.ground σ id true=({ σ with backs:=σ.backs ++ [⟨id,0⟩] },0):=by
       unfold pm.ground; rw [h1,hb]; simp only [hl3,h3]; rfl
      rw [eg] at h
      rw [splitB_true,mBind_iff]
      have k5:Keep m4 (newO m4 (row [.int .i64 id,.int .i64 0] t_model_Back false)):=(Keep.refl hO.keep.wf).newO
      have hR:Row (newO m4 (row [.int .i64 id,.int .i64 0] t_model_Back false)) m4.nx [.int .i64 id,.int .i64 0] t_model_Back false:=Row.newO
      generalize newO m4 (row [.int .i64 id,.int .i64 0] t_model_Back false)=m5 at k5 hR
      have hO5:=hO.then k5
      obtain ⟨m6,q1,q2,q3,q4,q5⟩:=own_push (cx:=cx) (t:=t_sl_model_Back) (e:=t_model_Back) (s:=2) (vs:=[.int .i64 id,.int .i64 0]) (by kernel_rfl) k5.wf (by have:=hO5.keep.fl; have:=hO5.fl0; omega) hO5.s3.own (by rw [flat_length encB_len,hO.s3n]) (hR.first1 rfl) rfl rfl (by omega)
      refine ⟨_,_,_,m6,q1,?_⟩
      obtain ⟨r1,r2⟩:=hO5.apartB q3 (fun b hb=>hO.s3l b hb)
      have kk:Keep m m6:=Keep.of_fr hO5.keep q2 q3 (fun b hb=>(hblt b hb).1)
      have e1:σ.backs.flatMap encB ++ [.int .i64 id,.int .i64 0]=(σ.backs ++ [(⟨id,0⟩:pm.Back)]).flatMap encB:=by rw [List.flatMap_append]; rfl
      rw [e1] at q5
      have hA:=Arr.of_row encB_len q5
      rw [List.length_append,hO.s3n] at hA
      have q5':=q5
      obtain ⟨tr,hg,_⟩:=q5'
      exact h m6 _ _ _ _ _ _ _ kk ⟨hσ.em,hσ.enow,r1,r2,hA,⟨Nat.le_refl _,.inr ⟨_,_,_,rfl,hg,q5.sameSize sBack⟩⟩⟩
     | false=>
      have hb:∃ i,pm.back σ.backs id=some i:=by
       cases hb:pm.back σ.backs id with
       | none=>rw [hb] at h4; simp at h4
       | some i=>exact ⟨i,rfl⟩
      obtain ⟨i,hi⟩:=hb
      have hin:=hbk i hi
      have eg:pm.ground σ id false=({ σ with backs:=σ.backs.eraseIdx i },0):=by
       unfold pm.ground; rw [h1,hi]; rfl
      rw [eg] at h
      rw [splitB_false,hi]
      have ei:addI .i64 ((i:Nat):Int) 1=((i+1:Nat):Int):=by rw [addI_64 (by omega) (by omega)]; omega
      simp only [ei]
      refine delB_ok hO hin fun m6 hw6 f6 hA6 hC6=>⟨_,_,_,rfl,?_⟩
      obtain ⟨r1,r2⟩:=hO.apartB f6 (fun b hb=>hO.s3l b hb)
      have kk:Keep m m6:=Keep.of_fr hO.keep hw6 f6 (fun b hb=>(hblt b hb).1)
      exact h m6 _ _ _ _ _ _ _ kk ⟨hσ.em,hσ.enow,r1,r2,hA6,hC6⟩
    ·intro J hJ
     refine split_b (fun h4=>hJ _ ?_) (fun h4=>hJ _ (by have h4:(!on)=false:=h4; rw [h4]; rfl))
     have h4:(!on)=true:=h4
     rw [h4,Bool.true_and]
     cases hb:pm.back σ.backs id with
     | none=>simp [ltI_true]
     | some i=>simp [ltI_false]
   ·intro J hJ
    exact split_b (fun h4=>hJ _ (by rw [h4,Bool.true_and])) (fun h4=>hJ _ (by rw [h4]; rfl))
  ·intro J hJ
   refine split_b (fun h4=>hJ _ ?_) (fun h4=>hJ _ (by rw [h4]; rfl))
   rw [h4,Bool.true_and]
   cases hb:pm.back σ.backs id with
   | none=>simp [leI_false]
   | some i=>simp [leI_true]
 ·intro J hJ
  exact split_b (fun h1=>hJ _ (by rw [h1]; rfl)) (fun h1=>hJ _ (by rw [h1]; rfl))
theorem find_ok {id:Int} (hw:Wf m) (hσ : RdSt cx m M now a1 n1 a2 n2 a3 n3 c3 σ) (hI:pm.Iv B σ)
  (h0:∀ m',Keep m m'→pm.has σ.servs id=false→Q (.tuple #[.agg #[.int .i64 0,.int .i64 0,.int .i64 0,.int .i64 0,.int .i64 0,.int .i64 0,.slice none 0 0,.int .i64 0,.int .i64 0,.int .i64 0,.int .i64 0],.bool false]) m')
  (h1:∀ m' v x,Keep m m'→pm.has σ.servs id=true→σ.servs[pm.at_ σ.servs id]? = some x→x.id=id→RdServ m' v x→Q (.tuple #[.agg #[.int .i64 v.id,.int .i64 v.s.q,.int .i64 v.s.p,.int .i64 v.s.bud,.int .i64 v.s.due,.int .i64 v.s.mode,.slice v.ja v.jn v.jc,.int .i64 v.sec,.int .i64 v.held,.int .i64 v.num,.int .i64 v.ran],.bool true]) m') :
  CallV cx n_model_Find [.agg #[.int .i64 M,.int .i64 now,.slice a1 n1 c1,.slice a2 n2 c2,.slice a3 n3 c3],.int .i64 id] m Q:=by
 apply G_model_Find_ok; unfold G_model_Find
 have k0:Keep m (bump m 2):=(Keep.refl hw).bump
 have hz:=hI.len1
 have hl1:=hσ.len1
 refine at_ok k0.wf (hσ.keep hw k0) hI.rise (by omega) fun m1 k1=>⟨_,_,rfl,?_⟩
 have k01:=k0.trans k1
 refine split_nb (fun hh=>h0 m1 k01 hh) (fun hh=>?_)
 obtain ⟨x,hx,hxid⟩:=pm.has_at hI.rise hh
 have hil:=(List.getElem?_eq_some_iff.1 hx).1
 refine clone_ok k01.wf (hσ.keep hw k01) (iv_small hI.toIw) fun m4 lam b1 d1 b2 d2 b3 d3 ss js ls qs hO=>⟨_,_,_,_,_,_,_,_,_,_,_,rfl,?_⟩
 have hO:=hO.old0 hw k01
 obtain ⟨v,hv⟩:∃ v,ss[pm.at_ σ.servs id]? = some v:=⟨_,List.getElem?_eq_getElem (by rw [hO.s1n]; omega)⟩
 obtain ⟨b,o,rfl,_,hc⟩:=hO.atS hv
 refine ⟨⟨by omega,by omega⟩,?_⟩
 rw [vPtr_some]
 refine ⟨_,hc 0 _ rfl,_,hc 1 _ rfl,_,hc 2 _ rfl,_,hc 3 _ rfl,_,hc 4 _ rfl,_,hc 5 _ rfl,_,_,_,hc 6 _ rfl,_,hc 7 _ rfl,_,hc 8 _ rfl,_,hc 9 _ rfl,_,hc 10 _ rfl,?_⟩
 obtain ⟨p,q⟩:=hO.ds _ v x hv hx
 exact h1 m4 v x hO.keep hh hx hxid ⟨p.id,p.s,p.sec,p.held,p.num,p.ran,_,(hO.jb _ v hv).arr encJ_len,q.imp fun _ _ r=>⟨r.num,r.at_,r.done,r.prog⟩⟩
theorem mosts_ok (hw:Wf m) (hσ : RdSt cx m M now a1 n1 a2 n2 a3 n3 c3 σ) (hn2:n2≤1000)
  (h:∀ m' a c,Keep m m'→Q (.slice a n2 c) m') :
  CallV cx n_model_State_mosts [.agg #[.int .i64 M,.int .i64 now,.slice a1 n1 c1,.slice a2 n2 c2,.slice a3 n3 c3]] m Q:=by
 apply G_model_State_mosts_ok; unfold G_model_State_mosts
 have k0:Keep m (bump m 1):=(Keep.refl hw).bump
 obtain ⟨ls,hA,_⟩:=hσ.sems
 refine forN3 (show n2≤4611686018427387904 by omega) (fun k a n c mm=>∃ l,Acc m mm a n c 1 t_int64 l∧n=k) ⟨[],Acc.nil k0 _ _,rfl⟩ ?_
 rintro k a n c m1 hk ⟨l,hacc,rfl⟩ I w hI
 refine split_lt (fun hlt=>?_) (fun hge=>?_)
 ·obtain ⟨v,hv⟩:∃ v,ls[n]? = some v:=⟨_,List.getElem?_eq_getElem (by rw [hA.1]; exact hlt)⟩
  refine (hA.keep hw hacc.keep).open (k:=n) hv fun b o hc=>?_
  refine ⟨_,hc 0 _ rfl,_,hc 1 _ rfl,_,_,_,hc 2 _ rfl,_,hc 3 _ rfl,?_⟩
  rw [mBind_iff]
  obtain ⟨m4,q1,q2,q3,q4,q5⟩:=(hacc.then ((Keep.refl hacc.keep.wf).bump (n:=1))).push (cx:=cx) (t:=t_sl_int64) (vs:=[.int .i64 v.most]) (by kernel_rfl) rfl rfl (by omega)
  exact ⟨_,_,_,m4,q1,hI _ _ _ m4 hlt ⟨_,q2,rfl⟩⟩
 ·obtain rfl:n=n2:=by omega
  exact h m1 a c hacc.keep
theorem OwE.pushJ (h:OwE wj wq m0 m lam a1 n1 c1 a2 n2 c2 a3 n3 c3 ss js ls qs σ ae ne ce E) {i b o:Nat} {u:SV} {y:pm.Serv} {jv:JV} {jx:pm.Job} {xa:Option Addr} (hu:ss[i]? = some u) (hy:σ.servs[i]? = some y) (hab:a1=some ⟨b,o,none⟩) (hκ : wj i = .own true) (hx:firstL m 4 1 (.slice xa 1 1)=some (encJ jv)) (hd:DpJob m lam jv jx) (hn:u.jn≤900000) :
  ∃ m',appendA cx m [t_sl_job_Job,t_sl_job_Job] [.slice u.ja u.jn u.jc,.slice xa 1 1]=some (.slice (some ⟨m.nx,0,none⟩) (u.jn+1) (u.jn+1),m')∧okW m' b (o+Int.toNat (i:Int)*11+6) 1 ∧
   OwE wj wq m0 (wr m' b (o+Int.toNat (i:Int)*11+6) [.slice (some ⟨m.nx,0,none⟩) (u.jn+1) (u.jn+1)]) (upF lam m.nx (.jb i)) a1 n1 c1 a2 n2 c2 a3 n3 c3 (ss.set i { u with ja:=some ⟨m.nx,0,none⟩,jn:=u.jn+1,jc:=u.jn+1 }) (upF js i (js i ++ [jv])) ls qs { σ with servs:=σ.servs.set i { y with jobs:=y.jobs ++ [jx] } } ae ne ce E:=by
 have hw:=h.wf
 have hH:=h.ow.jb i u hu
 rw [hκ] at hH
 obtain ⟨p1,p2,p3⟩:=hH
 obtain ⟨m',q1,q2,q3,q4,q5⟩:=own_push (cx:=cx) (t:=t_sl_job_Job) (e:=t_job_Job) (s:=4) (vs:=encJ jv) (by kernel_rfl) hw (by have:=h.ow.keep.fl; have:=h.ow.fl0; omega) p1.own (by rw [flat_length encJ_len,p3]) hx rfl rfl hn
 have hR:Row m' m.nx ((js i ++ [jv]).flatMap encJ) t_job_Job true:=by rw [List.flatMap_append]; simpa using q5
 obtain ⟨g1,g2⟩:=h.ow.pushJ hu hy hab q2 q3 hκ (Nat.le_refl _) (by omega) hR hd
 have hlb:lam b = .sv:=h.ow.s1l b (by rw [hab]; simp [blk])
 have f2:Fr m (wr m' b (o+Int.toNat (i:Int)*11+6) [.slice (some ⟨m.nx,0,none⟩) (u.jn+1) (u.jn+1)]) (b :: blk u.ja):=(q3.mono (S':=b :: blk u.ja) (fun b' hb'=>.inl (List.mem_cons_of_mem _ hb'))).wr (.inl (List.mem_cons_self ..))
 have hS:∀ b'∈b :: blk u.ja,lam b' = .sv∨lam b' = .jb i:=fun b' hb'=>by
  rcases List.mem_cons.1 hb' with e | hb'
  ·subst e; exact .inl hlb
  ·exact .inr (p2 b' hb')
 refine ⟨m',q1,g1,⟨g2,h.ev.fr f2 hw (fun b' hb' hs=>?_),fun b' hb'=>⟨(h.evn b' hb').1,?_⟩⟩⟩
 ·have:=(h.evn b' hb').2
  rcases hS b' hs with e | e <;> rw [e] at this <;> cases this
 ·rw [upF_ne (fun e=>by have:=h.evlt b' hb'; omega)]; exact (h.evn b' hb').2
end
end Go.Proofs.YtiehbnmpaeedpaaGreat.vc
