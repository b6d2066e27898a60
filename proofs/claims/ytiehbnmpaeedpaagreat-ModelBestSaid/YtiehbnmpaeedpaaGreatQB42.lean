import Derived.Test.YtiehbnmpaeedpaaGreatQB41
import Derived.Test.YtiehbnmpaeedpaaGreatQB35
import Derived.KernelRfl
namespace Go.Proofs.YtiehbnmpaeedpaaGreat.vc
open Go Go.AX
set_option linter.unusedVariables false
set_option linter.unusedSimpArgs false
set_option linter.unusedSectionVars false
section
variable {B:Int} {m0 m:Mem} {lam:Nat→Lb} {wj wq:Nat→Kd} {Q:Value→Mem→Prop} {M now:Int} {a1 a2 a3 ae:Option Addr} {n1 c1 n2 c2 n3 c3 ne ce:Nat} {ss:List SV} {js:Nat→List JV} {ls:List LV} {qs:Nat→List Int} {σ : pm.St} {E:List pm.Ev}
theorem delB_ok {i:Nat} (hO:Ow TT (fun _=>.own true) (fun _=>.own true) m0 m lam a1 n1 c1 a2 n2 c2 a3 n3 c3 ss js ls qs σ) (hi:i < n3)
  (h:∀ m',Wf m'→Fr m m' (blk a3)→Arr encB 2 m' a3 (n3 - 1) (σ.backs.eraseIdx i)→Cut cx m' a3 (n3 - 1) c3 2→Q (.slice a3 (n3 - 1) c3) m') :
  CallV cx n_slices_Delete_sl_model_Back [.slice a3 n3 c3,.int .i64 (i:Int),.int .i64 ((i+1:Nat):Int)] m Q:=by
 apply G_slices_Delete_sl_model_Back_ok; unfold G_slices_Delete_sl_model_Back
 have hw:=hO.keep.wf
 have hfl0:m.fl≤m0.nx:=by have:=hO.keep.fl; have:=hO.fl0; omega
 have hLlen:(σ.backs.flatMap encB).length=n3*2:=by rw [flat_length encB_len,hO.s3n]
 have hone:(σ.backs.flatMap encB).all one1=true:=flat_one1 encB_one1 σ.backs
 have h1:=hO.s3.own
 have hss:=hO.s3n
 generalize σ.backs=ss at *
 have hdel:(ss.eraseIdx i).flatMap encB=(ss.flatMap encB).take (i*2) ++ (ss.flatMap encB).drop ((i+1)*2):=by
  have e:ss.flatMap encB=(ss.take i).flatMap encB ++ (ss.drop i).flatMap encB:=by rw [← List.flatMap_append,List.take_append_drop]
  have e':ss.flatMap encB=(ss.take (i+1)).flatMap encB ++ (ss.drop (i+1)).flatMap encB:=by rw [← List.flatMap_append,List.take_append_drop]
  have hl:((ss.take i).flatMap encB).length=i*2:=by rw [flat_length encB_len,List.length_take,hss]; congr 1; omega
  have hl':((ss.take (i+1)).flatMap encB).length=(i+1)*2:=by rw [flat_length encB_len,List.length_take,hss]; congr 1; omega
  have t1:(ss.flatMap encB).take (i*2)=(ss.take i).flatMap encB:=by rw [e,← hl,List.take_left]
  have t2:(ss.flatMap encB).drop ((i+1)*2)=(ss.drop (i+1)).flatMap encB:=by rw [e',← hl',List.drop_left]
  rw [t1,t2,List.eraseIdx_eq_take_drop_succ,List.flatMap_append]
 generalize hLL:ss.flatMap encB=L at h1
 rw [hLL] at hLlen hone hdel
 cases h1 with
 | nil=>omega
 | empty b cc h2 h3=>omega
 | row b n l h0 h2 h3=>
  obtain ⟨⟨x1,x2,x3,d1⟩,d2,d3,m1,d4,d5,m2,Z,d6,d7,d8,d9,d10⟩:=delete_g (cx:=cx) (t:=t_sl_model_Back) (e:=t_model_Back) (s:=2) (i:=i) (by kernel_rfl) (by kernel_rfl) hw h3 hLlen hi (by omega) hone
  refine ⟨x1,x2,x3,d1,?_⟩
  refine split_eq (fun e=>by omega) (fun _=>?_)
  refine ⟨_,_,_,d2,_,_,_,d3,_,_,_,m1,d4,_,_,_,d5,m2,d6,?_⟩
  have hn:i+(n3 - (i+1))=n3 - 1:=by omega
  rw [hn]
  refine h m2 ⟨by have:=hw.1; omega,fun b' hb'=>?_⟩ ⟨by omega,d10,fun b' hb' hn'=>d8 b' (by simpa [blk] using hn')⟩ ?_ ⟨by omega,.inr ?_⟩
  ·have hbn:b≠b':=fun e=>by have:=hw.row h3; omega
   rw [d8 b' (fun e=>hbn e.symm)]; exact hw.2 b' (by omega)
  ·refine ⟨by rw [List.length_eraseIdx,if_pos (by omega)]; omega,fun j x hx=>⟨b,0,rfl,fun k v hv=>?_⟩⟩
   have hk:k < 2:=by rw [← encB_len x]; exact (List.getElem?_eq_some_iff.1 hv).1
   have hj:j < n3 - 1:=by
    have:=(List.getElem?_eq_some_iff.1 hx).1
    rw [List.length_eraseIdx,if_pos (by omega)] at this; omega
   rw [← hdel] at d7
   rw [d7.rd,List.getElem?_append_left (by rw [flat_length encB_len,List.length_eraseIdx,if_pos (by omega)]; omega),Nat.zero_add,flat_get encB_len hx hk,hv]
  ·obtain ⟨tr,hg,_⟩:=id d7
   exact ⟨b,0,_,rfl,hg,d7.sameSize sBack⟩
theorem ground_ok {id:Int} {on:Bool} (hw:Wf m) (hσ : RdSt cx m M now a1 n1 a2 n2 a3 n3 c3 σ) (hI:pm.Iv B σ)
  (h:∀ m' b1 d1 b2 d2 b3 n3' d3,Keep m m'→RdSt cx m' M now b1 n1 b2 n2 b3 n3' d3 (pm.ground σ id on).1→Q (.tuple #[.agg #[.int .i64 M,.int .i64 now,.slice b1 n1 d1,.slice b2 n2 d2,.slice b3 n3' d3],.int .i64 (pm.ground σ id on).2]) m') :
  CallV cx n_model_Ground [.agg #[.int .i64 M,.int .i64 now,.slice a1 n1 c1,.slice a2 n2 c2,.slice a3 n3 c3],.int .i64 id,.bool on] m Q:=by
 apply G_model_Ground_ok; unfold G_model_Ground
 have k0:Keep m (bump m 2):=(Keep.refl hw).bump
 have hz3:=hI.len3
 have hl3:=hσ.len3
 refine back_ok k0.wf (hσ.keep hw k0) (by omega) fun m1 k1=>⟨_,rfl,?_⟩
 have k01:=k0.trans k1
 have same:∀ e,pm.ground σ id on=(σ,e)→Q (.tuple #[.agg #[.int .i64 M,.int .i64 now,.slice a1 n1 c1,.slice a2 n2 c2,.slice a3 n3 c3],.int .i64 e]) m1:=fun e he=>by
  rw [he] at h
  exact h m1 a1 c1 a2 c2 a3 n3 c3 k01 (hσ.keep hw k01)
 have hbk:∀ i,pm.back σ.backs id=some i→i < n3:=fun i hi=>by
  unfold pm.back at hi
  have:=(List.findIdx?_eq_some_iff_findIdx_eq.1 hi).1
  omega
 refine joinK_of' (fun f:Bool→Mem→Prop=>∀ b,b=(ltI id 1 || ltI 255 id)→f b m1) ?_ ?_
 ·rintro b rfl
  refine split_b (fun h1=>same _ (by unfold pm.ground; rw [h1]; rfl)) (fun h1=>?_)
  refine joinK_of' (fun f:Bool→Mem→Prop=>∀ b,b=(on && (pm.back σ.backs id).isSome)→f b m1) ?_ ?_
  ·rintro b rfl
   refine split_b (fun h2=>?_) (fun h2=>?_)
   ·simp only [Bool.and_eq_true] at h2
    obtain ⟨rfl,h2⟩:=h2
    obtain ⟨i,hi⟩:=Option.isSome_iff_exists.1 h2
    exact same _ (by unfold pm.ground; rw [h1,hi]; rfl)
   refine joinK_of' (fun f:Bool→Mem→Prop=>∀ b,b=(on && leI 16 (lenI n3))→f b m1) ?_ ?_
   ·rintro b rfl
    refine split_b (fun h3=>?_) (fun h3=>?_)
    ·simp only [Bool.and_eq_true] at h3
     obtain ⟨rfl,h3⟩:=h3
     rw [Bool.true_and] at h2
     have hb:pm.back σ.backs id=none:=Option.not_isSome_iff_eq_none.1 (by rw [h2]; simp)
     exact same _ (by unfold pm.ground; rw [h1,hb]; simp only [hl3,h3]; rfl)
    refine joinK_of' (fun f:Bool→Mem→Prop=>∀ b,b=(!on && !(pm.back σ.backs id).isSome)→f b m1) ?_ ?_
    ·rintro b rfl
     refine split_b (fun h4=>?_) (fun h4=>?_)
     ·simp only [Bool.and_eq_true,Bool.not_eq_true'] at h4
      obtain ⟨rfl,h4⟩:=h4
      have hb:pm.back σ.backs id=none:=Option.not_isSome_iff_eq_none.1 (by rw [h4]; simp)
      exact same _ (by unfold pm.ground; rw [h1,hb]; rfl)
     refine clone_ok k01.wf (hσ.keep hw k01) (iv_small hI.toIw) fun m4 lam b1 d1 b2 d2 b3 d3 ss js ls qs hO=>⟨_,_,_,_,_,_,_,_,_,_,_,rfl,?_⟩
     have hO:=hO.old0 hw k01
     have hblt:=hO.s3.lt hO.keep.wf
     cases on with
     | true=>
      rw [Bool.true_and] at h2 h3
      have hb:pm.back σ.backs id=none:=Option.not_isSome_iff_eq_none.1 (by rw [h2]; simp)
      have eg:pm.ground σ id true=({ σ with backs:=σ.backs ++ [⟨id,0⟩] },0):=by
       unfold pm.ground; rw [h1,hb]; simp only [hl3,h3]; rfl
      rw [eg] at h
      rw [splitB_true,mBind_iff]
      have k5:Keep m4 (newO m4 (row [.int .i64 id,.int .i64 0] t_model_Back false)):=(Keep.refl hO.keep.wf).newO
      have hR:Row (newO m4 (row [.int .i64 id,.int .i64 0] t_model_Back false)) m4.nx [.int .i64 id,.int .i64 0] t_model_Back false:=Row.newO
      generalize newO m4 (row [.int .i64 id,.int .i64 0] t_model_Back false)=m5 at k5 hR
      have hO5:=hO.then k5
      obtain ⟨m6,q1,q2,q3,q4,q5⟩:=own_push (cx:=cx) (t:=t_sl_model_Back) (e:=t_model_Back) (s:=2) (vs:=[.int .i64 id,.int .i64 0]) (by kernel_rfl) k5.wf (by have:=hO5.keep.fl; have:=hO5.fl0; omega) hO5.s3.own (by rw [flat_length encB_len,hO.s3n]) (hR.first1 rfl) rfl rfl (by omega)
      refine ⟨_,_,_,m6,q1,?_⟩
      obtain ⟨r1,r2⟩:=hO5.apartB q3 (fun b hb=>hO.s3l b hb)
      have kk:Keep m m6:=Keep.of_fr hO5.keep q2 q3 (fun b hb=>(hblt b hb).1)
      have e1:σ.backs.flatMap encB ++ [.int .i64 id,.int .i64 0]=(σ.backs ++ [(⟨id,0⟩:pm.Back)]).flatMap encB:=by rw [List.flatMap_append]; rfl
      rw [e1] at q5
      have hA:=Arr.of_row encB_len q5
      rw [List.length_append,hO.s3n] at hA
      have q5':=q5
      obtain ⟨tr,hg,_⟩:=q5'
      exact h m6 _ _ _ _ _ _ _ kk ⟨hσ.em,hσ.enow,r1,r2,hA,⟨Nat.le_refl _,.inr ⟨_,_,_,rfl,hg,q5.sameSize sBack⟩⟩⟩
     | false=>
      have hb:∃ i,pm.back σ.backs id=some i:=by
       cases hb:pm.back σ.backs id with
       | none=>rw [hb] at h4; simp at h4
       | some i=>exact ⟨i,rfl⟩
      obtain ⟨i,hi⟩:=hb
      have hin:=hbk i hi
      have eg:pm.ground σ id false=({ σ with backs:=σ.backs.eraseIdx i },0):=by
       unfold pm.ground; rw [h1,hi]; rfl
      rw [eg] at h
      rw [splitB_false,hi]
      have ei:addI .i64 ((i:Nat):Int) 1=((i+1:Nat):Int):=by rw [addI_64 (by omega) (by omega)]; omega
      simp only [ei]
      refine delB_ok hO hin fun m6 hw6 f6 hA6 hC6=>⟨_,_,_,rfl,?_⟩
      obtain ⟨r1,r2⟩:=hO.apartB f6 (fun b hb=>hO.s3l b hb)
      have kk:Keep m m6:=Keep.of_fr hO.keep hw6 f6 (fun b hb=>(hblt b hb).1)
      exact h m6 _ _ _ _ _ _ _ kk ⟨hσ.em,hσ.enow,r1,r2,hA6,hC6⟩
    ·intro J hJ
     refine split_b (fun h4=>hJ _ ?_) (fun h4=>hJ _ (by have h4:(!on)=false:=h4; rw [h4]; rfl))
     have h4:(!on)=true:=h4
     rw [h4,Bool.true_and]
     cases hb:pm.back σ.backs id with
     | none=>simp [ltI_true]
     | some i=>simp [ltI_false]
   ·intro J hJ
    exact split_b (fun h4=>hJ _ (by rw [h4,Bool.true_and])) (fun h4=>hJ _ (by rw [h4]; rfl))
  ·intro J hJ
   refine split_b (fun h4=>hJ _ ?_) (fun h4=>hJ _ (by rw [h4]; rfl))
   rw [h4,Bool.true_and]
   cases hb:pm.back σ.backs id with
   | none=>simp [leI_false]
   | some i=>simp [leI_true]
 ·intro J hJ
  exact split_b (fun h1=>hJ _ (by rw [h1]; rfl)) (fun h1=>hJ _ (by rw [h1]; rfl))
theorem find_ok {id:Int} (hw:Wf m) (hσ : RdSt cx m M now a1 n1 a2 n2 a3 n3 c3 σ) (hI:pm.Iv B σ)
  (h0:∀ m',Keep m m'→pm.has σ.servs id=false→Q (.tuple #[.agg #[.int .i64 0,.int .i64 0,.int .i64 0,.int .i64 0,.int .i64 0,.int .i64 0,.slice none 0 0,.int .i64 0,.int .i64 0,.int .i64 0,.int .i64 0],.bool false]) m')
  (h1:∀ m' v x,Keep m m'→pm.has σ.servs id=true→σ.servs[pm.at_ σ.servs id]? = some x→x.id=id→RdServ m' v x→Q (.tuple #[.agg #[.int .i64 v.id,.int .i64 v.s.q,.int .i64 v.s.p,.int .i64 v.s.bud,.int .i64 v.s.due,.int .i64 v.s.mode,.slice v.ja v.jn v.jc,.int .i64 v.sec,.int .i64 v.held,.int .i64 v.num,.int .i64 v.ran],.bool true]) m') :
  CallV cx n_model_Find [.agg #[.int .i64 M,.int .i64 now,.slice a1 n1 c1,.slice a2 n2 c2,.slice a3 n3 c3],.int .i64 id] m Q:=by
 apply G_model_Find_ok; unfold G_model_Find
 have k0:Keep m (bump m 2):=(Keep.refl hw).bump
 have hz:=hI.len1
 have hl1:=hσ.len1
 refine at_ok k0.wf (hσ.keep hw k0) hI.rise (by omega) fun m1 k1=>⟨_,_,rfl,?_⟩
 have k01:=k0.trans k1
 refine split_nb (fun hh=>h0 m1 k01 hh) (fun hh=>?_)
 obtain ⟨x,hx,hxid⟩:=pm.has_at hI.rise hh
 have hil:=(List.getElem?_eq_some_iff.1 hx).1
 refine clone_ok k01.wf (hσ.keep hw k01) (iv_small hI.toIw) fun m4 lam b1 d1 b2 d2 b3 d3 ss js ls qs hO=>⟨_,_,_,_,_,_,_,_,_,_,_,rfl,?_⟩
 have hO:=hO.old0 hw k01
 obtain ⟨v,hv⟩:∃ v,ss[pm.at_ σ.servs id]? = some v:=⟨_,List.getElem?_eq_getElem (by rw [hO.s1n]; omega)⟩
 obtain ⟨b,o,rfl,_,hc⟩:=hO.atS hv
 refine ⟨⟨by omega,by omega⟩,?_⟩
 rw [vPtr_some]
 refine ⟨_,hc 0 _ rfl,_,hc 1 _ rfl,_,hc 2 _ rfl,_,hc 3 _ rfl,_,hc 4 _ rfl,_,hc 5 _ rfl,_,_,_,hc 6 _ rfl,_,hc 7 _ rfl,_,hc 8 _ rfl,_,hc 9 _ rfl,_,hc 10 _ rfl,?_⟩
 obtain ⟨p,q⟩:=hO.ds _ v x hv hx
 exact h1 m4 v x hO.keep hh hx hxid ⟨p.id,p.s,p.sec,p.held,p.num,p.ran,_,(hO.jb _ v hv).arr encJ_len,q.imp fun _ _ r=>⟨r.num,r.at_,r.done,r.prog⟩⟩
theorem mosts_ok (hw:Wf m) (hσ : RdSt cx m M now a1 n1 a2 n2 a3 n3 c3 σ) (hn2:n2≤1000)
  (h:∀ m' a c,Keep m m'→Q (.slice a n2 c) m') :
  CallV cx n_model_State_mosts [.agg #[.int .i64 M,.int .i64 now,.slice a1 n1 c1,.slice a2 n2 c2,.slice a3 n3 c3]] m Q:=by
 apply G_model_State_mosts_ok; unfold G_model_State_mosts
 have k0:Keep m (bump m 1):=(Keep.refl hw).bump
 obtain ⟨ls,hA,_⟩:=hσ.sems
 refine forN3 (show n2≤4611686018427387904 by omega) (fun k a n c mm=>∃ l,Acc m mm a n c 1 t_int64 l∧n=k) ⟨[],Acc.nil k0 _ _,rfl⟩ ?_
 rintro k a n c m1 hk ⟨l,hacc,rfl⟩ I w hI
 refine split_lt (fun hlt=>?_) (fun hge=>?_)
 ·obtain ⟨v,hv⟩:∃ v,ls[n]? = some v:=⟨_,List.getElem?_eq_getElem (by rw [hA.1]; exact hlt)⟩
  refine (hA.keep hw hacc.keep).open (k:=n) hv fun b o hc=>?_
  refine ⟨_,hc 0 _ rfl,_,hc 1 _ rfl,_,_,_,hc 2 _ rfl,_,hc 3 _ rfl,?_⟩
  rw [mBind_iff]
  obtain ⟨m4,q1,q2,q3,q4,q5⟩:=(hacc.then ((Keep.refl hacc.keep.wf).bump (n:=1))).push (cx:=cx) (t:=t_sl_int64) (vs:=[.int .i64 v.most]) (by kernel_rfl) rfl rfl (by omega)
  exact ⟨_,_,_,m4,q1,hI _ _ _ m4 hlt ⟨_,q2,rfl⟩⟩
 ·obtain rfl:n=n2:=by omega
  exact h m1 a c hacc.keep
theorem OwE.pushJ (h:OwE wj wq m0 m lam a1 n1 c1 a2 n2 c2 a3 n3 c3 ss js ls qs σ ae ne ce E) {i b o:Nat} {u:SV} {y:pm.Serv} {jv:JV} {jx:pm.Job} {xa:Option Addr} (hu:ss[i]? = some u) (hy:σ.servs[i]? = some y) (hab:a1=some ⟨b,o,none⟩) (hκ : wj i = .own true) (hx:firstL m 4 1 (.slice xa 1 1)=some (encJ jv)) (hd:DpJob m lam jv jx) (hn:u.jn≤900000) :
  ∃ m',appendA cx m [t_sl_job_Job,t_sl_job_Job] [.slice u.ja u.jn u.jc,.slice xa 1 1]=some (.slice (some ⟨m.nx,0,none⟩) (u.jn+1) (u.jn+1),m')∧okW m' b (o+Int.toNat (i:Int)*11+6) 1 ∧
   OwE wj wq m0 (wr m' b (o+Int.toNat (i:Int)*11+6) [.slice (some ⟨m.nx,0,none⟩) (u.jn+1) (u.jn+1)]) (upF lam m.nx (.jb i)) a1 n1 c1 a2 n2 c2 a3 n3 c3 (ss.set i { u with ja:=some ⟨m.nx,0,none⟩,jn:=u.jn+1,jc:=u.jn+1 }) (upF js i (js i ++ [jv])) ls qs { σ with servs:=σ.servs.set i { y with jobs:=y.jobs ++ [jx] } } ae ne ce E:=by
 have hw:=h.wf
 have hH:=h.ow.jb i u hu
 rw [hκ] at hH
 obtain ⟨p1,p2,p3⟩:=hH
 obtain ⟨m',q1,q2,q3,q4,q5⟩:=own_push (cx:=cx) (t:=t_sl_job_Job) (e:=t_job_Job) (s:=4) (vs:=encJ jv) (by kernel_rfl) hw (by have:=h.ow.keep.fl; have:=h.ow.fl0; omega) p1.own (by rw [flat_length encJ_len,p3]) hx rfl rfl hn
 have hR:Row m' m.nx ((js i ++ [jv]).flatMap encJ) t_job_Job true:=by rw [List.flatMap_append]; simpa using q5
 obtain ⟨g1,g2⟩:=h.ow.pushJ hu hy hab q2 q3 hκ (Nat.le_refl _) (by omega) hR hd
 have hlb:lam b = .sv:=h.ow.s1l b (by rw [hab]; simp [blk])
 have f2:Fr m (wr m' b (o+Int.toNat (i:Int)*11+6) [.slice (some ⟨m.nx,0,none⟩) (u.jn+1) (u.jn+1)]) (b :: blk u.ja):=(q3.mono (S':=b :: blk u.ja) (fun b' hb'=>.inl (List.mem_cons_of_mem _ hb'))).wr (.inl (List.mem_cons_self ..))
 have hS:∀ b'∈b :: blk u.ja,lam b' = .sv∨lam b' = .jb i:=fun b' hb'=>by
  rcases List.mem_cons.1 hb' with e | hb'
  ·subst e; exact .inl hlb
  ·exact .inr (p2 b' hb')
 refine ⟨m',q1,g1,⟨g2,h.ev.fr f2 hw (fun b' hb' hs=>?_),fun b' hb'=>⟨(h.evn b' hb').1,?_⟩⟩⟩
 ·have:=(h.evn b' hb').2
  rcases hS b' hs with e | e <;> rw [e] at this <;> cases this
 ·rw [upF_ne (fun e=>by have:=h.evlt b' hb'; omega)]; exact (h.evn b' hb').2
end
end Go.Proofs.YtiehbnmpaeedpaaGreat.vc
namespace Go.Proofs.YtiehbnmpaeedpaaGreat.vc
open Go Go.AX
set_option linter.unusedVariables false
set_option linter.unusedSimpArgs false
set_option linter.unusedSectionVars false
section
variable {B:Int} {m0 m:Mem} {lam:Nat→Lb} {wj wq:Nat→Kd} {Q:Value→Mem→Prop} {M now:Int} {a1 a2 a3 ae:Option Addr} {n1 c1 n2 c2 n3 c3 ne ce:Nat} {ss:List SV} {js:Nat→List JV} {ls:List LV} {qs:Nat→List Int} {σ : pm.St} {E:List pm.Ev}
theorem release_ok {id:Int} {ap:Option Addr} {np cp:Nat} {p:List pm.Step} (hw:Wf m) (hσ : RdSt cx m M now a1 n1 a2 n2 a3 n3 c3 σ) (hI:pm.Iv B σ) (hB:B < 4611686018427387904) (hp:Arr encP 2 m ap np p)
  (h:∀ m' b1 d1 b2 d2 b3 d3 ae ne ce,Keep m m'→RdSt cx m' M now b1 n1 b2 n2 b3 n3 d3 (pm.release σ id p).1→Arr encEv 4 m' ae ne (pm.release σ id p).2.1→ne≤2→Q (.tuple #[.agg #[.int .i64 M,.int .i64 now,.slice b1 n1 d1,.slice b2 n2 d2,.slice b3 n3 d3],.slice ae ne ce,.int .i64 (pm.release σ id p).2.2]) m') :
  CallV cx n_model_Release [.agg #[.int .i64 M,.int .i64 now,.slice a1 n1 c1,.slice a2 n2 c2,.slice a3 n3 c3],.int .i64 id,.slice ap np cp] m Q:=by
 apply G_model_Release_ok; unfold G_model_Release
 have k0:Keep m (bump m 2):=(Keep.refl hw).bump
 have hz:=hI.len1
 have hz2:=hI.len2
 have hl1:=hσ.len1
 have hl2:=hσ.len2
 have en:=hσ.enow
 refine at_ok k0.wf (hσ.keep hw k0) hI.rise (by omega) fun m1 k1=>⟨_,_,rfl,?_⟩
 have k01:=k0.trans k1
 have same:∀ m' e,Keep m m'→pm.release σ id p=(σ,[],e)→Q (.tuple #[.agg #[.int .i64 M,.int .i64 now,.slice a1 n1 c1,.slice a2 n2 c2,.slice a3 n3 c3],.slice none 0 0,.int .i64 e]) m':=fun m' e k he=>by
  rw [he] at h
  exact h m' a1 c1 a2 c2 a3 c3 none 0 0 k (hσ.keep hw k) ArrP.nil (by omega)
 refine split_nb (fun h1=>same _ _ k01 (by unfold pm.release; rw [h1]; rfl)) (fun h1=>?_)
 obtain ⟨x,hx,hxid⟩:=pm.has_at hI.rise h1
 have hil:=(List.getElem?_eq_some_iff.1 hx).1
 have hxm:=List.mem_of_getElem? hx
 refine mosts_ok k01.wf (hσ.keep hw k01) (by omega) fun m2 am cm k2=>⟨_,_,_,rfl,?_⟩
 have k02:=k01.trans k2
 refine pFits_ok k02.wf (hp.keep hw k02) fun m3 k3=>⟨_,rfl,?_⟩
 have k03:=k02.trans k3
 have e2:pm.pFits p n2=pm.pFits p σ.sems.length:=by rw [hl2]
 rw [e2]
 refine split_nb (fun h2=>same _ _ k03 (by unfold pm.release; rw [h1,h2]; rfl)) (fun h2=>?_)
 obtain ⟨ss0,hA0,hS0⟩:=(hσ.keep hw k03).servs
 obtain ⟨v0,hv0,hR0⟩:=hS0.get' hx
 obtain ⟨jl0,hj0,hj0'⟩:=hR0.jobs
 have hjl:v0.jn=x.jobs.length:=by rw [← hj0'.len,hj0.1]
 refine hA0.open (k:=pm.at_ σ.servs id) hv0 fun b0 o0 hc0=>⟨_,_,_,hc0 6 _ rfl,?_⟩
 have e3:leI 8 (lenI v0.jn)=leI 8 (lenI x.jobs.length):=by rw [hjl]
 rw [e3]
 refine split_b (fun h3=>same _ _ k03 (by unfold pm.release; rw [h1,h2,hx]; simp only [h3]; rfl)) (fun h3=>?_)
 have h3':=leI_false.1 h3
 simp only [pm.len_eq] at h3'
 obtain ⟨hn1,hn2⟩:=hI.num x hxm
 obtain ⟨hpg,_⟩:=pm.pFits_iff.1 h2
 have enum:addI .i64 x.num 1=x.num+1:=addI_64 (by omega) (by omega)
 obtain ⟨j1,j2⟩:=pm.jNew_good (n:=x.num+1) h2 (by omega)
 refine clone_ok k03.wf (hσ.keep hw k03) (iv_small hI.toIw) fun m4 lam b1 d1 b2 d2 b3 d3 ss js ls qs hO=>⟨_,_,_,_,_,_,_,_,_,_,_,rfl,?_⟩
 have hE:=OwE.start (hO.old0 hw k03)
 obtain ⟨v,hv⟩:∃ v,ss[pm.at_ σ.servs id]? = some v:=⟨_,List.getElem?_eq_getElem (by rw [hE.ow.s1n]; omega)⟩
 generalize hi:pm.at_ σ.servs id=i at *
 have kb:Keep m4 (bump m4 1):=(Keep.refl hE.wf).bump
 have hE0:=hE.then kb
 obtain ⟨b,o,rfl,hlb,hc⟩:=hE0.ow.atS hv
 obtain ⟨d0,dj⟩:=hE0.ow.ds i v x hv hx
 refine ⟨⟨by omega,by omega⟩,?_⟩
 rw [vPtr_some]
 refine ⟨_,hc 9 _ rfl,?_⟩
 obtain ⟨g1,hE1⟩:=hE0.setS (x':={ x with num:=x.num+1 }) (v':={ v with num:=x.num+1 }) (k:=9) (vs:=[.int .i64 (x.num+1)]) hv hx rfl (by simp) rfl ⟨rfl,rfl,rfl⟩ rfl ⟨d0.id,d0.s,d0.sec,d0.held,rfl,d0.ran⟩
 have evn:addI .i64 v.num 1=x.num+1:=by rw [d0.num,enum]
 rw [evn]
 refine ⟨g1,?_⟩
 rw [mBind_iff]
 generalize wr (bump m4 1) b (o+Int.toNat (i:Int)*11+9) [.int .i64 (x.num+1)]=m5 at hE1
 have hv1:=set_get (y:={ v with num:=x.num+1 }) hv
 have hx1:=set_get (y:={ x with num:=x.num+1 }) hx
 obtain ⟨b',o',e,_,hc1⟩:=hE1.ow.atS hv1
 cases e
 refine ⟨_,hc1 9 _ rfl,?_⟩
 refine jNew_ok hE1.wf (hp.keep hw hE1.ow.keep) hpg fun m6 aj cj k6 hAj hnj=>?_
 rw [j1] at hAj ⊢
 simp only [cond_true]
 have hAj:Arr encP 2 m6 aj np p:=by
  rcases hAj with h | h
  ·exact h
  ·cases h
 refine ⟨_,_,_,_,_,_,_,rfl,?_⟩
 have hE2:=hE1.then k6
 obtain ⟨lam3,hE3,hlp,hch⟩:=hE2.hold encP_len (by omega) hAj (fun b hb=>.inl (hE1.ow.noNew (hnj b hb))) (fun b hb hs=>by cases hs)
 have hlb3:lam3 b = .sv:=by rw [(hch b).2 (by rw [hlb]; simp)]; exact hlb
 obtain ⟨b',o',e,_,hc3⟩:=(hE3.then ((Keep.refl hE3.wf).bump (n:=12))).ow.atS hv1
 cases e
 refine ⟨_,_,_,hc3 6 _ rfl,?_⟩
 have x61:(bump m6 1).nx=m6.nx+1:=rfl
 have kP:Keep m6 (addO (bump m6 12) ((bump m6 1).nx+6) (row [.int .i64 (x.num+1),.slice aj np cj,.int .i64 0,.int .i64 0] t_job_Job false)):=((Keep.refl hE3.wf).bump (n:=12)).addO (by omega) (by show (bump m6 1).nx+6 < m6.nx+12; omega)
 have hRj:Row (addO (bump m6 12) ((bump m6 1).nx+6) (row [.int .i64 (x.num+1),.slice aj np cj,.int .i64 0,.int .i64 0] t_job_Job false)) ((bump m6 1).nx+6) (encJ ⟨x.num+1,aj,np,cj,0,0⟩) t_job_Job false:=Row.of_row (by rw [addO_get,if_pos rfl]; rfl)
 generalize addO (bump m6 12) ((bump m6 1).nx+6) (row [.int .i64 (x.num+1),.slice aj np cj,.int .i64 0,.int .i64 0] t_job_Job false)=m7 at kP hRj
 have hE4:=hE3.then kP
 have hd:DpJob m7 lam3 ⟨x.num+1,aj,np,cj,0,0⟩ ⟨x.num+1,p,0,0⟩:=⟨rfl,rfl,rfl,hAj.keep hE3.wf kP,hlp⟩
 have hjv:v.jn≤900000:=by
  have h1:=(hE0.ow.jb i v hv).arr encJ_len
  have h2:=dj.len
  have h3:v.jn=x.jobs.length:=by rw [← h2,h1.1]
  omega
 obtain ⟨m8,r1,r2,hE5⟩:=hE4.pushJ (jx:=⟨x.num+1,p,0,0⟩) (xa:=some ⟨(bump m6 1).nx+6,0,none⟩) hv1 hx1 rfl rfl (hRj.first1 rfl) hd hjv
 refine ⟨_,_,_,m8,r1,r2,?_⟩
 rw [mBind_iff,mBind_iff]
 have hno7:lam3 m7.nx = .no:=hE4.ow.noNew (Nat.le_refl _)
 have hlb5:upF lam3 m7.nx (.jb i) b = .sv:=by rw [upF_ne (fun e=>by rw [e,hno7] at hlb3; cases hlb3)]; exact hlb3
 have hst:({ ({ σ with servs:=σ.servs.set i { x with num:=x.num+1 } }:pm.St) with servs:=(({ σ with servs:=σ.servs.set i { x with num:=x.num+1 } }:pm.St).servs).set i { ({ x with num:=x.num+1 }:pm.Serv) with jobs:=({ x with num:=x.num+1 }:pm.Serv).jobs ++ [⟨x.num+1,p,0,0⟩] } }:pm.St) = { σ with servs:=σ.servs.set i { x with num:=x.num+1,jobs:=x.jobs ++ [⟨x.num+1,p,0,0⟩] } }:=by
  simp [List.set_set]
 have hE5:=hE5.cast hst rfl
 generalize wr m8 b (o+Int.toNat (i:Int)*11+6) [.slice (some ⟨m7.nx,0,none⟩) (v.jn+1) (v.jn+1)]=m9 at hE5
 generalize upF lam3 m7.nx (.jb i)=lam5 at *
 have hv5:=set_get (y:={ v with num:=x.num+1,ja:=some ⟨m7.nx,0,none⟩,jn:=v.jn+1,jc:=v.jn+1 }) hv1
 have hx5:=set_get (y:={ x with num:=x.num+1,jobs:=x.jobs ++ [⟨x.num+1,p,0,0⟩] }) hx
 have k9:Keep m9 (bump m9 9):=(Keep.refl hE5.wf).bump
 obtain ⟨b',o',e,_,hc5⟩:=(hE5.then k9).ow.atS hv5
 cases e
 refine ⟨_,hc5 9 _ rfl,?_⟩
 refine event_ok k9.wf fun m10 k10=>⟨_,_,_,_,rfl,?_⟩
 rw [mBind_iff]
 have x9:(bump m9 9).nx=m9.nx+9:=rfl
 have x10:=k10.nx
 have k11:Keep m9 (addO m10 (m9.nx+7) (row [.int .i64 now,.int .i64 1,.int .i64 id,.int .i64 (x.num+1)] t_model_Event false)):=(k9.trans k10).addO (by omega) (by omega)
 have hRe:Row (addO m10 (m9.nx+7) (row [.int .i64 now,.int .i64 1,.int .i64 id,.int .i64 (x.num+1)] t_model_Event false)) (m9.nx+7) (encEv ⟨now,1,id,x.num+1⟩) t_model_Event false:=Row.of_row (by rw [addO_get,if_pos rfl]; rfl)
 generalize addO m10 (m9.nx+7) (row [.int .i64 now,.int .i64 1,.int .i64 id,.int .i64 (x.num+1)] t_model_Event false)=m11 at k11 hRe
 have hE6:=hE5.then k11
 have x11:=k11.nx
 have hbl:b < m9.nx:=hE5.ow.lab b (by rw [hlb5]; simp)
 have erel:pm.release σ id p=(bif !x.idle then ({ σ with servs:=σ.servs.set i { x with num:=x.num+1,jobs:=x.jobs ++ [⟨x.num+1,p,0,0⟩] } },[pm.event σ 1 id (x.num+1)],0) else
   bif neI (pm.cWake x.s σ.now).2 0 then (σ,[],(pm.cWake x.s σ.now).2) else
   ({ σ with servs:=σ.servs.set i { x with num:=x.num+1,jobs:=x.jobs ++ [⟨x.num+1,p,0,0⟩],s:=(pm.cWake x.s σ.now).1 } },[pm.event σ 1 id (x.num+1),pm.event σ 9 id 0],0)):=by
  unfold pm.release
  rw [h1,h2,hi,hx]
  simp only [h3,enum,j1]
  rfl
 refine joinK_of' (fun f:Option Addr→Nat→Nat→Mem→Prop=>∀ a n c mm τ evs lam ss js ls qs,OwE (fun _=>.own true) (fun _=>.own true) m mm lam (some ⟨b,o,none⟩) n1 d1 b2 n2 d2 b3 n3 d3 ss js ls qs τ none 0 0 []→Arr encEv 4 mm a n evs→n≤2→pm.release σ id p=(τ,evs,0)→τ.m = σ.m→τ.now = σ.now→f a n c mm) ?_ ?_
 ·intro a n c mm τ evs lam' ss' js' ls' qs' hE' hA' hn' he em' en'
  rw [he] at h
  exact h mm _ _ _ _ _ _ a n c hE'.ow.keep (hE'.ow.reads (by rw [em']; exact hσ.em) (by rw [en']; exact en) sBack) hA' hn'
 ·intro J hJ
  obtain ⟨b',o',e,_,hc6⟩:=hE6.ow.atS hv5
  cases e
  refine ⟨_,hc6 0 _ rfl,_,hc6 1 _ rfl,_,hc6 2 _ rfl,_,hc6 3 _ rfl,_,hc6 4 _ rfl,_,hc6 5 _ rfl,_,_,_,hc6 6 _ rfl,_,hc6 7 _ rfl,_,hc6 8 _ rfl,_,hc6 9 _ rfl,_,hc6 10 _ rfl,?_⟩
  refine idle_ok hE6.wf fun m13 k13=>⟨_,rfl,?_⟩
  have evs:v.s=x.s:=d0.s
  have eid:eqI v.s.mode 0=x.idle:=by unfold pm.Serv.idle; rw [evs]
  rw [eid]
  have hE7:=hE6.then k13
  have hRe7:=k13.row hE6.wf hRe
  have hAe:∀ mm,Row mm (m9.nx+7) (encEv ⟨now,1,id,x.num+1⟩) t_model_Event false→Arr encEv 4 mm (some ⟨m9.nx+7,0,none⟩) 1 [pm.event σ 1 id (x.num+1)]:=fun mm hR=>by
   have:=Arr.of_row encEv_len (l:=[(⟨now,1,id,x.num+1⟩:pm.Ev)]) (m:=mm) (b:=m9.nx+7) (by simpa using hR)
   unfold pm.event
   rw [← en]
   exact this
  refine split_b (fun h4=>?_) (fun h4=>?_)
  ·rw [h4] at erel
   simp only [Bool.not_true,cond_false] at erel
   have k3':Keep m13 (bump m13 13):=(Keep.refl hE7.wf).bump
   obtain ⟨b',o',e,_,hc7⟩:=(hE7.then k3').ow.atS hv5
   cases e
   refine ⟨_,hc7 1 _ rfl,_,hc7 2 _ rfl,_,hc7 3 _ rfl,_,hc7 4 _ rfl,_,hc7 5 _ rfl,?_⟩
   refine cWake_ok k3'.wf fun m14 k14=>⟨_,_,_,_,_,_,rfl,?_⟩
   have ev:(⟨v.s.q,v.s.p,v.s.bud,v.s.due,v.s.mode⟩:pm.Srv)=x.s:=d0.s
   rw [ev]
   rw [show pm.cWake x.s σ.now=pm.cWake x.s now by rw [en]] at erel
   generalize hW:pm.cWake x.s now=W at *
   have x14:=k14.nx
   have x13:(bump m13 13).nx=m13.nx+13:=rfl
   have kA:Keep m13 (addO m14 (m13.nx+10) (row [.int .i64 (0:Int),.int .i64 (0:Int),.int .i64 (0:Int),.int .i64 (0:Int),.int .i64 (0:Int)] t_cbs_Server false)):=(k3'.trans k14).addO (by omega) (by omega)
   have hR:Row (addO m14 (m13.nx+10) (row [.int .i64 (0:Int),.int .i64 (0:Int),.int .i64 (0:Int),.int .i64 (0:Int),.int .i64 (0:Int)] t_cbs_Server false)) (m13.nx+10) [.int .i64 (0:Int),.int .i64 (0:Int),.int .i64 (0:Int),.int .i64 (0:Int),.int .i64 (0:Int)] t_cbs_Server false:=Row.of_row (by rw [addO_get,if_pos rfl])
   generalize addO m14 (m13.nx+10) (row [.int .i64 (0:Int),.int .i64 (0:Int),.int .i64 (0:Int),.int .i64 (0:Int),.int .i64 (0:Int)] t_cbs_Server false)=m15 at kA hR
   refine ⟨hR.okW (by have:=kA.fl; have:=hE7.wf.1; omega) (by simp),?_⟩
   rw [mBind_iff,mBind_iff]
   have hR2:=hR.wr (o:=0) (vs:=[.int .i64 W.1.q,.int .i64 W.1.p,.int .i64 W.1.bud,.int .i64 W.1.due,.int .i64 W.1.mode]) (by simp)
   change Row _ _ [.int .i64 W.1.q,.int .i64 W.1.p,.int .i64 W.1.bud,.int .i64 W.1.due,.int .i64 W.1.mode] _ _ at hR2
   have kB:Keep m13 (wr m15 (m13.nx+10) 0 [.int .i64 W.1.q,.int .i64 W.1.p,.int .i64 W.1.bud,.int .i64 W.1.due,.int .i64 W.1.mode]):=kA.wr (by omega)
   generalize wr m15 (m13.nx+10) 0 [.int .i64 W.1.q,.int .i64 W.1.p,.int .i64 W.1.bud,.int .i64 W.1.due,.int .i64 W.1.mode]=m16 at kB hR2
   have hE8:=hE7.then kB
   refine split_b (fun h5=>?_) (fun h5=>?_)
   ·rw [h5,cond_true] at erel
    exact same m16 _ hE8.ow.keep erel
   ·rw [h5,cond_false] at erel
    refine ⟨_,by rw [hR2.rd]; rfl,_,by rw [hR2.rd]; rfl,_,by rw [hR2.rd]; rfl,_,by rw [hR2.rd]; rfl,_,by rw [hR2.rd]; rfl,?_⟩
    obtain ⟨d5,dj5⟩:=hE8.ow.ds i _ _ hv5 hx5
    obtain ⟨g9,hE9⟩:=hE8.setS (x':={ x with num:=x.num+1,jobs:=x.jobs ++ [⟨x.num+1,p,0,0⟩],s:=W.1 }) (v':={ v with num:=x.num+1,ja:=some ⟨m7.nx,0,none⟩,jn:=v.jn+1,jc:=v.jn+1,s:=W.1 }) (k:=1) (vs:=[.int .i64 W.1.q,.int .i64 W.1.p,.int .i64 W.1.bud,.int .i64 W.1.due,.int .i64 W.1.mode]) hv5 hx5 rfl (by simp) rfl ⟨rfl,rfl,rfl⟩ rfl ⟨d0.id,rfl,d0.sec,d0.held,rfl,d0.ran⟩
    refine ⟨g9,?_⟩
    rw [mBind_iff]
    have hne:m9.nx+7≠b:=by omega
    have hRe9:Row (wr m16 b (o+Int.toNat (i:Int)*11+1) [.int .i64 W.1.q,.int .i64 W.1.p,.int .i64 W.1.bud,.int .i64 W.1.due,.int .i64 W.1.mode]) (m9.nx+7) (encEv ⟨now,1,id,x.num+1⟩) t_model_Event false:=(kB.row hE7.wf hRe7).congr (wr_get hne)
    generalize wr m16 b (o+Int.toNat (i:Int)*11+1) [.int .i64 W.1.q,.int .i64 W.1.p,.int .i64 W.1.bud,.int .i64 W.1.due,.int .i64 W.1.mode]=m17 at hE9 hRe9
    refine event_ok hE9.wf fun m18 k18=>⟨_,_,_,_,rfl,?_⟩
    rw [mBind_iff]
    have k19:Keep m17 (newO m18 (row [.int .i64 now,.int .i64 9,.int .i64 id,.int .i64 0] t_model_Event false)):=k18.newO
    have hRf:Row (newO m18 (row [.int .i64 now,.int .i64 9,.int .i64 id,.int .i64 0] t_model_Event false)) m18.nx [.int .i64 now,.int .i64 9,.int .i64 id,.int .i64 0] t_model_Event false:=Row.newO
    generalize newO m18 (row [.int .i64 now,.int .i64 9,.int .i64 id,.int .i64 0] t_model_Event false)=m19 at k19 hRf
    have hRe19:=k19.row hE9.wf hRe9
    have hRe19':=hRe19
    obtain ⟨tr,hg,_⟩:=hRe19'
    have hap:=append_new (cx:=cx) (t:=t_sl_model_Event) (e:=t_model_Event) (s:=4) (m:=m19) (n:=1) (k:=1) (c:=1) (ck:=1) (a:=some ⟨m9.nx+7,0,none⟩) (v:=some ⟨m18.nx,0,none⟩) (old:=encEv ⟨now,1,id,x.num+1⟩) (new:=[.int .i64 now,.int .i64 9,.int .i64 id,.int .i64 0]) (by kernel_rfl)
     (by unfold giveUp; simp only [hg]) (hRe19.first1 rfl) rfl (hRf.first1 rfl) rfl rfl (by omega) (by omega)
    refine ⟨_,_,_,_,hap,?_⟩
    have k20:Keep m19 (newO m19 (row (encEv ⟨now,1,id,x.num+1⟩ ++ [.int .i64 now,.int .i64 9,.int .i64 id,.int .i64 0]) t_model_Event true)):=(Keep.refl k19.wf).newO
    have hR20:Row (newO m19 (row (encEv ⟨now,1,id,x.num+1⟩ ++ [.int .i64 now,.int .i64 9,.int .i64 id,.int .i64 0]) t_model_Event true)) m19.nx (([⟨now,1,id,x.num+1⟩,⟨now,9,id,0⟩]:List pm.Ev).flatMap encEv) t_model_Event true:=Row.newO
    refine hJ _ 2 2 _ _ [pm.event σ 1 id (x.num+1),pm.event σ 9 id 0] _ _ _ _ _ ((hE9.then k19).then k20) ?_ (by omega) (erel.trans ?_) rfl rfl
    ·unfold pm.event
     rw [← en]
     exact Arr.of_row encEv_len hR20
    ·simp [List.set_set]
  ·rw [h4] at erel
   simp only [Bool.not_false,cond_true] at erel
   exact hJ _ 1 1 m13 _ _ _ _ _ _ _ hE7 (hAe m13 hRe7) (by omega) erel rfl rfl
end
end Go.Proofs.YtiehbnmpaeedpaaGreat.vc
namespace Go.Proofs.YtiehbnmpaeedpaaGreat.vc
open Go Go.AX
set_option linter.unusedVariables false
set_option maxRecDepth 100000
noncomputable section
def G_slices_Equal_prog_Prog (u t:Option Addr) (e v r w:Nat) (m:Mem) (Q:Value→Mem→Prop):Prop:=
 splitB (neI (lenI e) (lenI r)) (Q (.bool false) m) (∃ c:Int→Mem→Nat→Prop,(∃ s:Nat,c 0 m s)∧∀ a b l,c a b l→splitB (ltI a (lenI e)) ((0≤a∧a < ((e:Nat):Int))∧(vPtr u fun j q=>∃ p,rd (bump b 9) j (q+Int.toNat a*2)=some (.int .i64 p)∧∃ g,rd (bump b 9) j (q+Int.toNat a*2+1)=some (.int .i64 g)∧(0≤a∧a < ((r:Nat):Int))∧(vPtr t fun n k=>∃ d,rd (bump b 9) n (k+Int.toNat a*2)=some (.int .i64 d)∧∃ i,rd (bump b 9) n (k+Int.toNat a*2+1)=some (.int .i64 i)∧∃ f,eqV cx (bump b 9) 40 t_prog_Step (.agg #[.int .i64 p,.int .i64 g]) (.agg #[.int .i64 d,.int .i64 i])=some f∧splitB (!f) (Q (.bool false) (bump b 9)) (∃ o:Nat,o < l∧c (addI .i64 a 1) (bump b 9) o)))) (Q (.bool true) b))
theorem G_slices_Equal_prog_Prog_ok {u t:Option Addr} {e v r w:Nat} {m:Mem} {Q:Value→Mem→Prop} (h:G_slices_Equal_prog_Prog u t e v r w m Q):CallV cx n_slices_Equal_prog_Prog [.slice u e v,.slice t r w] m Q:=
 CallV.of (fn:=Tryz.f144) (LS:=[]) (ann:=[none,none,none,none,none,none,some ⟨[0,1,12],[(13,.int .i64)],[],[],[],0⟩]) ovFr ovNi (by kernel_rfl) (by kernel_rfl) (Eq.mp (by kernel_rfl) h)
def G_model_sameJob (d p j n f o:Int) (l e:Option Addr) (i g k q:Nat) (m:Mem) (Q:Value→Mem→Prop):Prop:=
 splitB (eqI d n) (splitB (eqI p f) (splitB (eqI j o) (CallV cx n_slices_Equal_prog_Prog [.slice l i g,.slice e k q] (bump m 2) fun c b=>∃ a,c=(.bool a)∧Q (.bool a) b) (Q (.bool false) (bump m 2))) (Q (.bool false) (bump m 2))) (Q (.bool false) (bump m 2))
theorem G_model_sameJob_ok {d p j n f o:Int} {l e:Option Addr} {i g k q:Nat} {m:Mem} {Q:Value→Mem→Prop} (h:G_model_sameJob d p j n f o l e i g k q m Q):CallV cx n_model_sameJob [.agg #[.int .i64 d,.slice l i g,.int .i64 p,.int .i64 j],.agg #[.int .i64 n,.slice e k q,.int .i64 f,.int .i64 o]] m Q:=
 CallV.of (fn:=Tryz.f114) (LS:=[2,3]) (ann:=[]) ovFr ovNi (by kernel_rfl) (by kernel_rfl) (Eq.mp (by kernel_rfl) h)
def G_slices_EqualFunc_sl_job_Job (E D:Option Addr) (t G A H:Nat) (F:Value) (m:Mem) (Q:Value→Mem→Prop):Prop:=
 splitB (neI (lenI t) (lenI A)) (Q (.bool false) m) (∃ g:Int→Mem→Nat→Prop,(∃ B:Nat,g 0 m B)∧∀ a b y,g a b y→splitB (ltI a (lenI t)) ((0≤a∧a < ((t:Nat):Int))∧(vPtr E fun c d=>∃ k,rd b c (d+Int.toNat a*4)=some (.int .i64 k)∧∃ n q r,rd b c (d+Int.toNat a*4+1)=some (.slice n q r)∧∃ o,rd b c (d+Int.toNat a*4+2)=some (.int .i64 o)∧∃ p,rd b c (d+Int.toNat a*4+3)=some (.int .i64 p)∧(0≤a∧a < ((A:Nat):Int))∧(vPtr D fun f e=>∃ l,rd (bump b 1) f (e+Int.toNat a*4)=some (.int .i64 l)∧∃ x v s,rd (bump b 1) f (e+Int.toNat a*4+1)=some (.slice x v s)∧∃ j,rd (bump b 1) f (e+Int.toNat a*4+2)=some (.int .i64 j)∧∃ u,rd (bump b 1) f (e+Int.toNat a*4+3)=some (.int .i64 u)∧(vCallFV cx (bump b 2) F [.agg #[.int .i64 k,.slice n q r,.int .i64 o,.int .i64 p],.agg #[.int .i64 l,.slice x v s,.int .i64 j,.int .i64 u]] fun C z=>∃ i,C=(.bool i)∧splitB (!i) (Q (.bool false) z) (∃ w:Nat,w < y∧g (addI .i64 a 1) z w))))) (Q (.bool true) b))
theorem G_slices_EqualFunc_sl_job_Job_ok {E D:Option Addr} {t G A H:Nat} {F:Value} {m:Mem} {Q:Value→Mem→Prop} (h:G_slices_EqualFunc_sl_job_Job E D t G A H F m Q):CallV cx n_slices_EqualFunc_sl_job_Job [.slice E t G,.slice D A H,F] m Q:=
 CallV.of (fn:=Tryz.f113) (LS:=[8,9]) (ann:=[none,none,none,none,none,none,some ⟨[1,2,15,16],[(17,.int .i64)],[],[],[],0⟩]) ovFr ovNi (by kernel_rfl) (by kernel_rfl) (Eq.mp (by kernel_rfl) h)
def G_model_sameServ (o k g f A n p i q z C r l w x t E s D y:Int) (j e:Option Addr) (v u B F:Nat) (m:Mem) (Q:Value→Mem→Prop):Prop:=
 splitB (eqI o C) (∃ b,eqV cx (bump m 2) 40 t_cbs_Server (.agg #[.int .i64 k,.int .i64 g,.int .i64 f,.int .i64 A,.int .i64 n]) (.agg #[.int .i64 r,.int .i64 l,.int .i64 w,.int .i64 x,.int .i64 t])=some b∧splitB b (CallV cx n_slices_EqualFunc_sl_job_Job [.slice j v u,.slice e B F,.func (.func n_model_sameJob) #[] #[]] (bump m 2) fun d a=>∃ c,d=(.bool c)∧splitB c (splitB (eqI p E) (splitB (eqI i s) (splitB (eqI q D) (Q (.bool (eqI z y)) a) (Q (.bool false) a)) (Q (.bool false) a)) (Q (.bool false) a)) (Q (.bool false) a)) (Q (.bool false) (bump m 2))) (Q (.bool false) (bump m 2))
theorem G_model_sameServ_ok {o k g f A n p i q z C r l w x t E s D y:Int} {j e:Option Addr} {v u B F:Nat} {m:Mem} {Q:Value→Mem→Prop} (h:G_model_sameServ o k g f A n p i q z C r l w x t E s D y j e v u B F m Q):CallV cx n_model_sameServ [.agg #[.int .i64 o,.int .i64 k,.int .i64 g,.int .i64 f,.int .i64 A,.int .i64 n,.slice j v u,.int .i64 p,.int .i64 i,.int .i64 q,.int .i64 z],.agg #[.int .i64 C,.int .i64 r,.int .i64 l,.int .i64 w,.int .i64 x,.int .i64 t,.slice e B F,.int .i64 E,.int .i64 s,.int .i64 D,.int .i64 y]] m Q:=
 CallV.of (fn:=Tryz.f62) (LS:=[2,3]) (ann:=[]) ovFr ovNi (by kernel_rfl) (by kernel_rfl) (Eq.mp (by kernel_rfl) h)
def G_slices_Equal_sl_int (r q:Option Addr) (f s j t:Nat) (m:Mem) (Q:Value→Mem→Prop):Prop:=
 splitB (neI (lenI f) (lenI j)) (Q (.bool false) m) (∃ c:Int→Mem→Nat→Prop,(∃ l:Nat,c 0 m l)∧∀ a b g,c a b g→splitB (ltI a (lenI f)) ((0≤a∧a < ((f:Nat):Int))∧(vPtr r fun k p=>∃ i,rd (bump b 9) k (p+Int.toNat a*1)=some (.int .i64 i)∧(0≤a∧a < ((j:Nat):Int))∧(vPtr q fun o n=>∃ d,rd (bump b 9) o (n+Int.toNat a*1)=some (.int .i64 d)∧splitB (neI i d) (Q (.bool false) (bump b 9)) (∃ e:Nat,e < g∧c (addI .i64 a 1) (bump b 9) e)))) (Q (.bool true) b))
theorem G_slices_Equal_sl_int_ok {r q:Option Addr} {f s j t:Nat} {m:Mem} {Q:Value→Mem→Prop} (h:G_slices_Equal_sl_int r q f s j t m Q):CallV cx n_slices_Equal_sl_int [.slice r f s,.slice q j t] m Q:=
 CallV.of (fn:=Tryz.f115) (LS:=[]) (ann:=[none,none,none,none,none,none,some ⟨[0,1,12],[(13,.int .i64)],[],[],[],0⟩]) ovFr ovNi (by kernel_rfl) (by kernel_rfl) (Eq.mp (by kernel_rfl) h)
def G_model_sameLock (d o n k:Int) (l e:Option Addr) (i g j q:Nat) (f p:Bool) (m:Mem) (Q:Value→Mem→Prop):Prop:=
 splitB (eqI d n) (splitB (eqI o k) (CallV cx n_slices_Equal_sl_int [.slice l i g,.slice e j q] (bump m 2) fun c a=>∃ b,c=(.bool b)∧splitB b (Q (.bool (f == p)) a) (Q (.bool false) a)) (Q (.bool false) (bump m 2))) (Q (.bool false) (bump m 2))
theorem G_model_sameLock_ok {d o n k:Int} {l e:Option Addr} {i g j q:Nat} {f p:Bool} {m:Mem} {Q:Value→Mem→Prop} (h:G_model_sameLock d o n k l e i g j q f p m Q):CallV cx n_model_sameLock [.agg #[.int .i64 d,.int .i64 o,.slice l i g,.bool f],.agg #[.int .i64 n,.int .i64 k,.slice e j q,.bool p]] m Q:=
 CallV.of (fn:=Tryz.f64) (LS:=[2,3]) (ann:=[]) ovFr ovNi (by kernel_rfl) (by kernel_rfl) (Eq.mp (by kernel_rfl) h)
def G_slices_EqualFunc_sl_model_Serv (U T:Option Addr) (B W P X:Nat) (V:Value) (m:Mem) (Q:Value→Mem→Prop):Prop:=
 splitB (neI (lenI B) (lenI P)) (Q (.bool false) m) (∃ g:Int→Mem→Nat→Prop,(∃ R:Nat,g 0 m R)∧∀ a b I,g a b I→splitB (ltI a (lenI B)) ((0≤a∧a < ((B:Nat):Int))∧(vPtr U fun c d=>∃ n,rd b c (d+Int.toNat a*11)=some (.int .i64 n)∧∃ t,rd b c (d+Int.toNat a*11+1)=some (.int .i64 t)∧∃ u,rd b c (d+Int.toNat a*11+2)=some (.int .i64 u)∧∃ r,rd b c (d+Int.toNat a*11+3)=some (.int .i64 r)∧∃ G,rd b c (d+Int.toNat a*11+4)=some (.int .i64 G)∧∃ C,rd b c (d+Int.toNat a*11+5)=some (.int .i64 C)∧∃ q v w,rd b c (d+Int.toNat a*11+6)=some (.slice q v w)∧∃ y,rd b c (d+Int.toNat a*11+7)=some (.int .i64 y)∧∃ O,rd b c (d+Int.toNat a*11+8)=some (.int .i64 O)∧∃ k,rd b c (d+Int.toNat a*11+9)=some (.int .i64 k)∧∃ F,rd b c (d+Int.toNat a*11+10)=some (.int .i64 F)∧(0≤a∧a < ((P:Nat):Int))∧(vPtr T fun f e=>∃ p,rd (bump b 1) f (e+Int.toNat a*11)=some (.int .i64 p)∧∃ s,rd (bump b 1) f (e+Int.toNat a*11+1)=some (.int .i64 s)∧∃ N,rd (bump b 1) f (e+Int.toNat a*11+2)=some (.int .i64 N)∧∃ x,rd (bump b 1) f (e+Int.toNat a*11+3)=some (.int .i64 x)∧∃ o,rd (bump b 1) f (e+Int.toNat a*11+4)=some (.int .i64 o)∧∃ l,rd (bump b 1) f (e+Int.toNat a*11+5)=some (.int .i64 l)∧∃ H E A,rd (bump b 1) f (e+Int.toNat a*11+6)=some (.slice H E A)∧∃ i,rd (bump b 1) f (e+Int.toNat a*11+7)=some (.int .i64 i)∧∃ L,rd (bump b 1) f (e+Int.toNat a*11+8)=some (.int .i64 L)∧∃ K,rd (bump b 1) f (e+Int.toNat a*11+9)=some (.int .i64 K)∧∃ D,rd (bump b 1) f (e+Int.toNat a*11+10)=some (.int .i64 D)∧(vCallFV cx (bump b 2) V [.agg #[.int .i64 n,.int .i64 t,.int .i64 u,.int .i64 r,.int .i64 G,.int .i64 C,.slice q v w,.int .i64 y,.int .i64 O,.int .i64 k,.int .i64 F],.agg #[.int .i64 p,.int .i64 s,.int .i64 N,.int .i64 x,.int .i64 o,.int .i64 l,.slice H E A,.int .i64 i,.int .i64 L,.int .i64 K,.int .i64 D]] fun S M=>∃ j,S=(.bool j)∧splitB (!j) (Q (.bool false) M) (∃ z:Nat,z < I∧g (addI .i64 a 1) M z))))) (Q (.bool true) b))
theorem G_slices_EqualFunc_sl_model_Serv_ok {U T:Option Addr} {B W P X:Nat} {V:Value} {m:Mem} {Q:Value→Mem→Prop} (h:G_slices_EqualFunc_sl_model_Serv U T B W P X V m Q):CallV cx n_slices_EqualFunc_sl_model_Serv [.slice U B W,.slice T P X,V] m Q:=
 CallV.of (fn:=Tryz.f61) (LS:=[8,9]) (ann:=[none,none,none,none,none,none,some ⟨[1,2,15,16],[(17,.int .i64)],[],[],[],0⟩]) ovFr ovNi (by kernel_rfl) (by kernel_rfl) (Eq.mp (by kernel_rfl) h)
def G_slices_EqualFunc_sl_model_Lock (E D:Option Addr) (u G A H:Nat) (F:Value) (m:Mem) (Q:Value→Mem→Prop):Prop:=
 splitB (neI (lenI u) (lenI A)) (Q (.bool false) m) (∃ g:Int→Mem→Nat→Prop,(∃ B:Nat,g 0 m B)∧∀ a b x,g a b x→splitB (ltI a (lenI u)) ((0≤a∧a < ((u:Nat):Int))∧(vPtr E fun c d=>∃ k,rd b c (d+Int.toNat a*4)=some (.int .i64 k)∧∃ p,rd b c (d+Int.toNat a*4+1)=some (.int .i64 p)∧∃ n r s,rd b c (d+Int.toNat a*4+2)=some (.slice n r s)∧∃ o,rd b c (d+Int.toNat a*4+3)=some (.bool o)∧(0≤a∧a < ((A:Nat):Int))∧(vPtr D fun f e=>∃ l,rd (bump b 1) f (e+Int.toNat a*4)=some (.int .i64 l)∧∃ q,rd (bump b 1) f (e+Int.toNat a*4+1)=some (.int .i64 q)∧∃ w v t,rd (bump b 1) f (e+Int.toNat a*4+2)=some (.slice w v t)∧∃ i,rd (bump b 1) f (e+Int.toNat a*4+3)=some (.bool i)∧(vCallFV cx (bump b 2) F [.agg #[.int .i64 k,.int .i64 p,.slice n r s,.bool o],.agg #[.int .i64 l,.int .i64 q,.slice w v t,.bool i]] fun C z=>∃ j,C=(.bool j)∧splitB (!j) (Q (.bool false) z) (∃ y:Nat,y < x∧g (addI .i64 a 1) z y))))) (Q (.bool true) b))
theorem G_slices_EqualFunc_sl_model_Lock_ok {E D:Option Addr} {u G A H:Nat} {F:Value} {m:Mem} {Q:Value→Mem→Prop} (h:G_slices_EqualFunc_sl_model_Lock E D u G A H F m Q):CallV cx n_slices_EqualFunc_sl_model_Lock [.slice E u G,.slice D A H,F] m Q:=
 CallV.of (fn:=Tryz.f63) (LS:=[8,9]) (ann:=[none,none,none,none,none,none,some ⟨[1,2,15,16],[(17,.int .i64)],[],[],[],0⟩]) ovFr ovNi (by kernel_rfl) (by kernel_rfl) (Eq.mp (by kernel_rfl) h)
def G_slices_Equal_sl_model_Back (u t:Option Addr) (e v r w:Nat) (m:Mem) (Q:Value→Mem→Prop):Prop:=
 splitB (neI (lenI e) (lenI r)) (Q (.bool false) m) (∃ c:Int→Mem→Nat→Prop,(∃ s:Nat,c 0 m s)∧∀ a b l,c a b l→splitB (ltI a (lenI e)) ((0≤a∧a < ((e:Nat):Int))∧(vPtr u fun j q=>∃ p,rd (bump b 9) j (q+Int.toNat a*2)=some (.int .i64 p)∧∃ g,rd (bump b 9) j (q+Int.toNat a*2+1)=some (.int .i64 g)∧(0≤a∧a < ((r:Nat):Int))∧(vPtr t fun n k=>∃ d,rd (bump b 9) n (k+Int.toNat a*2)=some (.int .i64 d)∧∃ i,rd (bump b 9) n (k+Int.toNat a*2+1)=some (.int .i64 i)∧∃ f,eqV cx (bump b 9) 40 t_model_Back (.agg #[.int .i64 p,.int .i64 g]) (.agg #[.int .i64 d,.int .i64 i])=some f∧splitB (!f) (Q (.bool false) (bump b 9)) (∃ o:Nat,o < l∧c (addI .i64 a 1) (bump b 9) o)))) (Q (.bool true) b))
theorem G_slices_Equal_sl_model_Back_ok {u t:Option Addr} {e v r w:Nat} {m:Mem} {Q:Value→Mem→Prop} (h:G_slices_Equal_sl_model_Back u t e v r w m Q):CallV cx n_slices_Equal_sl_model_Back [.slice u e v,.slice t r w] m Q:=
 CallV.of (fn:=Tryz.f65) (LS:=[]) (ann:=[none,none,none,none,none,none,some ⟨[0,1,12],[(13,.int .i64)],[],[],[],0⟩]) ovFr ovNi (by kernel_rfl) (by kernel_rfl) (Eq.mp (by kernel_rfl) h)
def G_model_Same (w t E y:Int) (r n p k B u:Option Addr) (A z s q C l D G v F o x:Nat) (m:Mem) (Q:Value→Mem→Prop):Prop:=
 splitB (eqI w E) (splitB (eqI t y) (CallV cx n_slices_EqualFunc_sl_model_Serv [.slice r A z,.slice k D G,.func (.func n_model_sameServ) #[] #[]] (bump m 2) fun g b=>∃ d,g=(.bool d)∧splitB d (CallV cx n_slices_EqualFunc_sl_model_Lock [.slice n s q,.slice B v F,.func (.func n_model_sameLock) #[] #[]] b fun j e=>∃ a,j=(.bool a)∧splitB a (CallV cx n_slices_Equal_sl_model_Back [.slice p C l,.slice u o x] e fun i f=>∃ c,i=(.bool c)∧Q (.bool c) f) (Q (.bool false) e)) (Q (.bool false) b)) (Q (.bool false) (bump m 2))) (Q (.bool false) (bump m 2))
theorem G_model_Same_ok {w t E y:Int} {r n p k B u:Option Addr} {A z s q C l D G v F o x:Nat} {m:Mem} {Q:Value→Mem→Prop} (h:G_model_Same w t E y r n p k B u A z s q C l D G v F o x m Q):CallV cx n_model_Same [.agg #[.int .i64 w,.int .i64 t,.slice r A z,.slice n s q,.slice p C l],.agg #[.int .i64 E,.int .i64 y,.slice k D G,.slice B v F,.slice u o x]] m Q:=
 CallV.of (fn:=Tryz.f29) (LS:=[2,3]) (ann:=[]) ovFr ovNi (by kernel_rfl) (by kernel_rfl) (Eq.mp (by kernel_rfl) h)
end
end Go.Proofs.YtiehbnmpaeedpaaGreat.vc
namespace Go.Proofs.YtiehbnmpaeedpaaGreat.vc
open Go Go.AX
set_option linter.unusedVariables false
set_option linter.unusedSimpArgs false
set_option linter.unusedSectionVars false
section
variable {B:Int} {m:Mem} {Q:Value→Mem→Prop} {M now:Int} {a a' a1 a2 a3 b1 b2 b3:Option Addr} {n n' c c' n1 c1 n2 c2 n3 c3 n4 n5 n6 d1 d2 d3:Nat} {σ : pm.St}
noncomputable def andO (a b:Option Bool):Option Bool:=match a with
 | some true=>b
 | some false=>some false
 | none=>none
theorem eqP_raw (x y x' y':Int) (m:Mem):eqV cx m 40 t_prog_Step (.agg #[.int .i64 x,.int .i64 y]) (.agg #[.int .i64 x',.int .i64 y'])=andO (some (decide (x=x'))) (andO (some (decide (y=y'))) (some true)):=by kernel_rfl
theorem eqB_raw (x y x' y':Int) (m:Mem):eqV cx m 40 t_model_Back (.agg #[.int .i64 x,.int .i64 y]) (.agg #[.int .i64 x',.int .i64 y'])=andO (some (decide (x=x'))) (andO (some (decide (y=y'))) (some true)):=by kernel_rfl
theorem eqC_raw (x y z u w x' y' z' u' w':Int) (m:Mem):eqV cx m 40 t_cbs_Server (.agg #[.int .i64 x,.int .i64 y,.int .i64 z,.int .i64 u,.int .i64 w]) (.agg #[.int .i64 x',.int .i64 y',.int .i64 z',.int .i64 u',.int .i64 w'])=andO (some (decide (x=x'))) (andO (some (decide (y=y'))) (andO (some (decide (z=z'))) (andO (some (decide (u=u'))) (andO (some (decide (w=w'))) (some true))))):=by kernel_rfl
theorem dec_self (x:Int):decide (x=x)=true:=decide_eq_true rfl
theorem eqProg_ok {l:List pm.Step} (hw:Wf m) (h1:Arr encP 2 m a n l) (h2:Arr encP 2 m a' n' l) (hn:n≤1000) (h:∀ m',Keep m m'→Q (.bool true) m'):CallV cx n_slices_Equal_prog_Prog [.slice a n c,.slice a' n' c'] m Q:=by
 apply G_slices_Equal_prog_Prog_ok; unfold G_slices_Equal_prog_Prog
 have e:n=n':=by rw [← h1.1,← h2.1]
 subst e
 refine split_ne (fun hne=>absurd rfl hne) (fun _=>?_)
 refine forN (show n≤4611686018427387904 by omega) (fun k mm=>Keep m mm) (Keep.refl hw) ?_
 intro k m1 hk k1 I w hI
 refine split_lt (fun hlt=>?_) (fun hge=>h m1 k1)
 obtain ⟨x,hx⟩:∃ x,l[k]? = some x:=⟨_,List.getElem?_eq_getElem (by rw [h1.1]; exact hlt)⟩
 have kb:Keep m (bump m1 9):=k1.bump
 refine (h1.keep hw kb).open (k:=k) hx fun b o hc=>⟨_,hc 0 _ rfl,_,hc 1 _ rfl,?_⟩
 refine (h2.keep hw kb).open (k:=k) hx fun b o hc=>⟨_,hc 0 _ rfl,_,hc 1 _ rfl,?_⟩
 refine ⟨true,by rw [eqP_raw]; simp only [dec_self]; rfl,?_⟩
 exact hI _ hlt kb
theorem eqInts_ok {l:List Int} (hw:Wf m) (h1:Arr encI 1 m a n l) (h2:Arr encI 1 m a' n' l) (hn:n≤1000) (h:∀ m',Keep m m'→Q (.bool true) m'):CallV cx n_slices_Equal_sl_int [.slice a n c,.slice a' n' c'] m Q:=by
 apply G_slices_Equal_sl_int_ok; unfold G_slices_Equal_sl_int
 have e:n=n':=by rw [← h1.1,← h2.1]
 subst e
 refine split_ne (fun hne=>absurd rfl hne) (fun _=>?_)
 refine forN (show n≤4611686018427387904 by omega) (fun k mm=>Keep m mm) (Keep.refl hw) ?_
 intro k m1 hk k1 I w hI
 refine split_lt (fun hlt=>?_) (fun hge=>h m1 k1)
 obtain ⟨x,hx⟩:∃ x,l[k]? = some x:=⟨_,List.getElem?_eq_getElem (by rw [h1.1]; exact hlt)⟩
 have kb:Keep m (bump m1 9):=k1.bump
 refine (h1.keep hw kb).open (k:=k) hx fun b o hc=>⟨_,hc 0 _ rfl,?_⟩
 refine (h2.keep hw kb).open (k:=k) hx fun b o hc=>⟨_,hc 0 _ rfl,?_⟩
 exact split_ne (fun hne=>absurd rfl hne) (fun _=>hI _ hlt kb)
theorem eqBacks_ok {l:List pm.Back} (hw:Wf m) (h1:Arr encB 2 m a n l) (h2:Arr encB 2 m a' n' l) (hn:n≤1000) (h:∀ m',Keep m m'→Q (.bool true) m'):CallV cx n_slices_Equal_sl_model_Back [.slice a n c,.slice a' n' c'] m Q:=by
 apply G_slices_Equal_sl_model_Back_ok; unfold G_slices_Equal_sl_model_Back
 have e:n=n':=by rw [← h1.1,← h2.1]
 subst e
 refine split_ne (fun hne=>absurd rfl hne) (fun _=>?_)
 refine forN (show n≤4611686018427387904 by omega) (fun k mm=>Keep m mm) (Keep.refl hw) ?_
 intro k m1 hk k1 I w hI
 refine split_lt (fun hlt=>?_) (fun hge=>h m1 k1)
 obtain ⟨x,hx⟩:∃ x,l[k]? = some x:=⟨_,List.getElem?_eq_getElem (by rw [h1.1]; exact hlt)⟩
 have kb:Keep m (bump m1 9):=k1.bump
 refine (h1.keep hw kb).open (k:=k) hx fun b o hc=>⟨_,hc 0 _ rfl,_,hc 1 _ rfl,?_⟩
 refine (h2.keep hw kb).open (k:=k) hx fun b o hc=>⟨_,hc 0 _ rfl,_,hc 1 _ rfl,?_⟩
 refine ⟨true,by rw [eqB_raw]; simp only [dec_self]; rfl,?_⟩
 exact hI _ hlt kb
theorem sameJob_ok {v v':JV} {j:pm.Job} (hw:Wf m) (h1:RdJob m v j) (h2:RdJob m v' j) (hn:j.prog.length≤1000) (h:∀ m',Keep m m'→Q (.bool true) m'):CallV cx n_model_sameJob [.agg #[.int .i64 v.num,.slice v.pa v.pn v.pc,.int .i64 v.at_,.int .i64 v.done],.agg #[.int .i64 v'.num,.slice v'.pa v'.pn v'.pc,.int .i64 v'.at_,.int .i64 v'.done]] m Q:=by
 apply G_model_sameJob_ok; unfold G_model_sameJob
 refine split_eq (fun _=>?_) (fun e=>absurd (h1.num.trans h2.num.symm) e)
 refine split_eq (fun _=>?_) (fun e=>absurd (h1.at_.trans h2.at_.symm) e)
 refine split_eq (fun _=>?_) (fun e=>absurd (h1.done.trans h2.done.symm) e)
 have kb:Keep m (bump m 2):=(Keep.refl hw).bump
 exact eqProg_ok kb.wf (h1.prog.keep hw kb) (h2.prog.keep hw kb) (by rw [← h1.prog.1]; exact hn) fun m' k=>⟨_,rfl,h m' (kb.trans k)⟩
theorem eqJobs_ok {jl jl':List JV} {l:List pm.Job} (hw:Wf m) (h1:Arr encJ 4 m a n jl) (r1:All2 (RdJob m) jl l) (h2:Arr encJ 4 m a' n' jl') (r2:All2 (RdJob m) jl' l) (hn:n≤1000) (hp:∀ j∈l,j.prog.length≤1000) (h:∀ m',Keep m m'→Q (.bool true) m'):CallV cx n_slices_EqualFunc_sl_job_Job [.slice a n c,.slice a' n' c',.func (.func n_model_sameJob) #[] #[]] m Q:=by
 apply G_slices_EqualFunc_sl_job_Job_ok; unfold G_slices_EqualFunc_sl_job_Job
 have e:n=n':=by rw [← h1.1,← h2.1,r1.len,r2.len]
 subst e
 refine split_ne (fun hne=>absurd rfl hne) (fun _=>?_)
 refine forN (show n≤4611686018427387904 by omega) (fun k mm=>Keep m mm) (Keep.refl hw) ?_
 intro k m1 hk k1 I w hI
 refine split_lt (fun hlt=>?_) (fun hge=>h m1 k1)
 obtain ⟨x,hx⟩:∃ x,l[k]? = some x:=⟨_,List.getElem?_eq_getElem (by rw [← r1.len,h1.1]; exact hlt)⟩
 obtain ⟨v,hv,hR⟩:=r1.get' hx
 obtain ⟨v',hv',hR'⟩:=r2.get' hx
 have k2:Keep m (bump m1 2):=k1.bump
 refine (h1.keep hw k1).open (k:=k) hv fun b o hc=>⟨_,hc 0 _ rfl,_,_,_,hc 1 _ rfl,_,hc 2 _ rfl,_,hc 3 _ rfl,?_⟩
 refine (h2.keep hw (k1.bump (n:=1))).open (k:=k) hv' fun b o hc=>⟨_,hc 0 _ rfl,_,_,_,hc 1 _ rfl,_,hc 2 _ rfl,_,hc 3 _ rfl,?_⟩
 exact sameJob_ok k2.wf (hR.keep hw k2) (hR'.keep hw k2) (hp x (List.mem_of_getElem? hx)) fun m' k'=>⟨_,rfl,hI _ hlt (k2.trans k')⟩
theorem sameServ_ok {v v':SV} {x:pm.Serv} (hw:Wf m) (h1:RdServ m v x) (h2:RdServ m v' x) (hn:x.jobs.length≤1000) (hp:∀ j∈x.jobs,j.prog.length≤1000) (h:∀ m',Keep m m'→Q (.bool true) m'):CallV cx n_model_sameServ [.agg #[.int .i64 v.id,.int .i64 v.s.q,.int .i64 v.s.p,.int .i64 v.s.bud,.int .i64 v.s.due,.int .i64 v.s.mode,.slice v.ja v.jn v.jc,.int .i64 v.sec,.int .i64 v.held,.int .i64 v.num,.int .i64 v.ran],.agg #[.int .i64 v'.id,.int .i64 v'.s.q,.int .i64 v'.s.p,.int .i64 v'.s.bud,.int .i64 v'.s.due,.int .i64 v'.s.mode,.slice v'.ja v'.jn v'.jc,.int .i64 v'.sec,.int .i64 v'.held,.int .i64 v'.num,.int .i64 v'.ran]] m Q:=by
 apply G_model_sameServ_ok; unfold G_model_sameServ
 refine split_eq (fun _=>?_) (fun e=>absurd (h1.id.trans h2.id.symm) e)
 have kb:Keep m (bump m 2):=(Keep.refl hw).bump
 have es:v.s=v'.s:=h1.s.trans h2.s.symm
 refine ⟨true,by rw [eqC_raw,es]; simp only [dec_self]; rfl,?_⟩
 obtain ⟨jl,q1,q2⟩:=(h1.keep hw kb).jobs
 obtain ⟨jl',q1',q2'⟩:=(h2.keep hw kb).jobs
 rw [splitB_true]
 refine eqJobs_ok kb.wf q1 q2 q1' q2' (by rw [← q1.1,q2.len]; exact hn) hp fun m' k=>⟨_,rfl,?_⟩
 rw [splitB_true]
 refine split_eq (fun _=>?_) (fun e=>absurd (h1.sec.trans h2.sec.symm) e)
 refine split_eq (fun _=>?_) (fun e=>absurd (h1.held.trans h2.held.symm) e)
 refine split_eq (fun _=>?_) (fun e=>absurd (h1.num.trans h2.num.symm) e)
 rw [show eqI v.ran v'.ran=true from eqI_true.2 (h1.ran.trans h2.ran.symm)]
 exact h m' (kb.trans k)
theorem eqServs_ok {sl sl':List SV} {l:List pm.Serv} (hw:Wf m) (h1:Arr encS 11 m a n sl) (r1:All2 (RdServ m) sl l) (h2:Arr encS 11 m a' n' sl') (r2:All2 (RdServ m) sl' l) (hn:n≤1000) (hj:∀ x∈l,x.jobs.length≤1000∧∀ j∈x.jobs,j.prog.length≤1000) (h:∀ m',Keep m m'→Q (.bool true) m'):CallV cx n_slices_EqualFunc_sl_model_Serv [.slice a n c,.slice a' n' c',.func (.func n_model_sameServ) #[] #[]] m Q:=by
 apply G_slices_EqualFunc_sl_model_Serv_ok; unfold G_slices_EqualFunc_sl_model_Serv
 have e:n=n':=by rw [← h1.1,← h2.1,r1.len,r2.len]
 subst e
 refine split_ne (fun hne=>absurd rfl hne) (fun _=>?_)
 refine forN (show n≤4611686018427387904 by omega) (fun k mm=>Keep m mm) (Keep.refl hw) ?_
 intro k m1 hk k1 I w hI
 refine split_lt (fun hlt=>?_) (fun hge=>h m1 k1)
 obtain ⟨x,hx⟩:∃ x,l[k]? = some x:=⟨_,List.getElem?_eq_getElem (by rw [← r1.len,h1.1]; exact hlt)⟩
 obtain ⟨v,hv,hR⟩:=r1.get' hx
 obtain ⟨v',hv',hR'⟩:=r2.get' hx
 have k2:Keep m (bump m1 2):=k1.bump
 refine (h1.keep hw k1).open (k:=k) hv fun b o hc=>⟨_,hc 0 _ rfl,_,hc 1 _ rfl,_,hc 2 _ rfl,_,hc 3 _ rfl,_,hc 4 _ rfl,_,hc 5 _ rfl,_,_,_,hc 6 _ rfl,_,hc 7 _ rfl,_,hc 8 _ rfl,_,hc 9 _ rfl,_,hc 10 _ rfl,?_⟩
 refine (h2.keep hw (k1.bump (n:=1))).open (k:=k) hv' fun b o hc=>⟨_,hc 0 _ rfl,_,hc 1 _ rfl,_,hc 2 _ rfl,_,hc 3 _ rfl,_,hc 4 _ rfl,_,hc 5 _ rfl,_,_,_,hc 6 _ rfl,_,hc 7 _ rfl,_,hc 8 _ rfl,_,hc 9 _ rfl,_,hc 10 _ rfl,?_⟩
 obtain ⟨j1,j2⟩:=hj x (List.mem_of_getElem? hx)
 exact sameServ_ok k2.wf (hR.keep hw k2) (hR'.keep hw k2) j1 j2 fun m' k'=>⟨_,rfl,hI _ hlt (k2.trans k')⟩
theorem sameLock_ok {v v':LV} {x:pm.Lock} (hw:Wf m) (h1:RdLock m v x) (h2:RdLock m v' x) (hn:x.queue.length≤1000) (h:∀ m',Keep m m'→Q (.bool true) m'):CallV cx n_model_sameLock [.agg #[.int .i64 v.most,.int .i64 v.holder,.slice v.qa v.qn v.qc,.bool v.dead],.agg #[.int .i64 v'.most,.int .i64 v'.holder,.slice v'.qa v'.qn v'.qc,.bool v'.dead]] m Q:=by
 apply G_model_sameLock_ok; unfold G_model_sameLock
 refine split_eq (fun _=>?_) (fun e=>absurd (h1.most.trans h2.most.symm) e)
 refine split_eq (fun _=>?_) (fun e=>absurd (h1.holder.trans h2.holder.symm) e)
 have kb:Keep m (bump m 2):=(Keep.refl hw).bump
 refine eqInts_ok kb.wf (h1.queue.keep hw kb) (h2.queue.keep hw kb) (by rw [← h1.queue.1]; exact hn) fun m' k=>⟨_,rfl,?_⟩
 rw [splitB_true]
 rw [show (v.dead == v'.dead)=true by rw [h1.dead,h2.dead]; exact beq_self_eq_true _]
 exact h m' (kb.trans k)
theorem eqLocks_ok {sl sl':List LV} {l:List pm.Lock} (hw:Wf m) (h1:Arr encL 4 m a n sl) (r1:All2 (RdLock m) sl l) (h2:Arr encL 4 m a' n' sl') (r2:All2 (RdLock m) sl' l) (hn:n≤1000) (hj:∀ x∈l,x.queue.length≤1000) (h:∀ m',Keep m m'→Q (.bool true) m'):CallV cx n_slices_EqualFunc_sl_model_Lock [.slice a n c,.slice a' n' c',.func (.func n_model_sameLock) #[] #[]] m Q:=by
 apply G_slices_EqualFunc_sl_model_Lock_ok; unfold G_slices_EqualFunc_sl_model_Lock
 have e:n=n':=by rw [← h1.1,← h2.1,r1.len,r2.len]
 subst e
 refine split_ne (fun hne=>absurd rfl hne) (fun _=>?_)
 refine forN (show n≤4611686018427387904 by omega) (fun k mm=>Keep m mm) (Keep.refl hw) ?_
 intro k m1 hk k1 I w hI
 refine split_lt (fun hlt=>?_) (fun hge=>h m1 k1)
 obtain ⟨x,hx⟩:∃ x,l[k]? = some x:=⟨_,List.getElem?_eq_getElem (by rw [← r1.len,h1.1]; exact hlt)⟩
 obtain ⟨v,hv,hR⟩:=r1.get' hx
 obtain ⟨v',hv',hR'⟩:=r2.get' hx
 have k2:Keep m (bump m1 2):=k1.bump
 refine (h1.keep hw k1).open (k:=k) hv fun b o hc=>⟨_,hc 0 _ rfl,_,hc 1 _ rfl,_,_,_,hc 2 _ rfl,_,hc 3 _ rfl,?_⟩
 refine (h2.keep hw (k1.bump (n:=1))).open (k:=k) hv' fun b o hc=>⟨_,hc 0 _ rfl,_,hc 1 _ rfl,_,_,_,hc 2 _ rfl,_,hc 3 _ rfl,?_⟩
 exact sameLock_ok k2.wf (hR.keep hw k2) (hR'.keep hw k2) (hj x (List.mem_of_getElem? hx)) fun m' k'=>⟨_,rfl,hI _ hlt (k2.trans k')⟩
theorem same_ok {M' now':Int} (hw:Wf m) (h1:RdSt cx m M now a1 n1 a2 n2 a3 n3 c3 σ) (h2:RdSt cx m M' now' b1 n4 b2 n5 b3 n6 d3 σ) (hI:pm.Iv B σ) (h:∀ m',Keep m m'→Q (.bool true) m') :
  CallV cx n_model_Same [.agg #[.int .i64 M,.int .i64 now,.slice a1 n1 c1,.slice a2 n2 c2,.slice a3 n3 c3],.agg #[.int .i64 M',.int .i64 now',.slice b1 n4 d1,.slice b2 n5 d2,.slice b3 n6 d3]] m Q:=by
 apply G_model_Same_ok; unfold G_model_Same
 have z1:=hI.len1
 have z2:=hI.len2
 have z3:=hI.len3
 have e1:=h1.len1
 have e2:=h1.len2
 have e3:=h1.len3
 refine split_eq (fun _=>?_) (fun e=>absurd (h1.em.trans h2.em.symm) e)
 refine split_eq (fun _=>?_) (fun e=>absurd (h1.enow.trans h2.enow.symm) e)
 have kb:Keep m (bump m 2):=(Keep.refl hw).bump
 obtain ⟨sl,q1,q2⟩:=(h1.keep hw kb).servs
 obtain ⟨sl',q1',q2'⟩:=(h2.keep hw kb).servs
 refine eqServs_ok kb.wf q1 q2 q1' q2' (by omega) (fun x hx=>⟨by have:=(hI.serv x hx).len; omega,fun j hj=>by have:=(pm.pGood_iff.1 ((hI.serv x hx).jobs j hj).good.prog).2.1; omega⟩) fun m3 k3=>⟨_,rfl,?_⟩
 rw [splitB_true]
 have k03:=kb.trans k3
 obtain ⟨ll,p1,p2⟩:=(h1.keep hw k03).sems
 obtain ⟨ll',p1',p2'⟩:=(h2.keep hw k03).sems
 refine eqLocks_ok k03.wf p1 p2 p1' p2' (by omega) (fun l hl=>by have:=iv_queue hI.toIw hl; omega) fun m4 k4=>⟨_,rfl,?_⟩
 rw [splitB_true]
 have k04:=k03.trans k4
 refine eqBacks_ok k04.wf (h1.keep hw k04).backs (h2.keep hw k04).backs (by omega) fun m5 k5=>⟨_,rfl,h m5 (k04.trans k5)⟩
theorem mOdd_ok {x:Int} (hw:Wf m) (h:∀ m',Keep m m'→Q (.bool (pm.mOdd x)) m'):CallV cx n_model_New_1 [.int .i64 x] m Q:=by
 apply G_model_New_1_ok; unfold G_model_New_1
 refine split_b (fun h1=>?_) (fun h1=>?_)
 ·exact leaf h (Keep.refl hw) (by unfold pm.mOdd; rw [h1]; rfl)
 ·exact leaf h (Keep.refl hw) (by unfold pm.mOdd; rw [h1]; rfl)
theorem idxM_ok {l:List Int} (hw:Wf m) (ha:Arr encI 1 m a n l) (hn:n≤4611686018427387904)
  (h:∀ m',Keep m m'→Q (.int .i64 (match l.findIdx? pm.mOdd with | some i=>(i:Int) | none=>-1)) m'):CallV cx n_slices_IndexFunc_sl_int64 [.slice a n c,.func (.func n_model_New_1) #[] #[]] m Q:=by
 apply G_slices_IndexFunc_sl_int64_ok; unfold G_slices_IndexFunc_sl_int64
 refine forN hn (fun k mm=>Keep m mm∧∀ x∈l.take k,pm.mOdd x=false) ⟨Keep.refl hw,by simp⟩ ?_
 rintro k m1 hk ⟨k1,hno⟩ I w hI
 refine split_lt (fun hlt=>?_) (fun hge=>?_)
 ·obtain ⟨x,hx⟩:∃ x,l[k]? = some x:=⟨_,List.getElem?_eq_getElem (by rw [ha.1]; exact hlt)⟩
  have hkl:=(List.getElem?_eq_some_iff.1 hx).1
  refine (ha.keep hw k1).open (k:=k) hx fun b o hc=>⟨_,hc 0 _ rfl,?_⟩
  refine mOdd_ok k1.wf fun m2 k2=>⟨_,rfl,?_⟩
  refine split_b (fun ht=>?_) (fun ht=>?_)
  ·have e:l.findIdx? pm.mOdd=some k:=by
    rw [List.findIdx?_eq_some_iff_getElem]
    refine ⟨hkl,by rw [← (List.getElem?_eq_some_iff.1 hx).2] at ht; exact ht,fun j hj=>?_⟩
    have:=hno l[j] (List.mem_of_getElem? (i:=j) (by rw [List.getElem?_take,if_pos hj,List.getElem?_eq_getElem (by omega)]))
    rw [this]; simp
   have:=h m2 (k1.trans k2)
   rw [e] at this
   exact this
  ·refine hI m2 hlt ⟨k1.trans k2,fun y hy=>?_⟩
   rw [List.take_add_one,hx] at hy
   rcases List.mem_append.1 hy with hy | hy
   ·exact hno y hy
   ·simp at hy; subst hy; exact ht
 ·have e:l.findIdx? pm.mOdd=none:=by
   rw [List.findIdx?_eq_none_iff]
   intro y hy
   rw [← List.take_of_length_le (l:=l) (i:=k) (by rw [ha.1]; exact hge)] at hy
   exact hno y hy
  have:=h m1 k1
  rw [e] at this
  exact this
theorem all2_map {α β γ : Type} {R:α→β→Prop} {f:γ→α} {g:γ→β} (h:∀ x,R (f x) (g x)):∀ l:List γ,All2 R (l.map f) (l.map g)
 | []=>.nil
 | x :: r=>.cons (h x) (all2_map h r)
theorem new_ok {cpus:Int} {most:List Int} (hw:Wf m) (ha:Arr encI 1 m a n most)
  (h0:∀ m',Keep m m'→(pm.new cpus most).2≠0→pm.new cpus most=(⟨0,0,[],[],[]⟩,1)→Q (.tuple #[.agg #[.int .i64 0,.int .i64 0,.slice none 0 0,.slice none 0 0,.slice none 0 0],.int .i64 1]) m')
  (h1:∀ m' b2 d2,Keep m m'→(pm.new cpus most).2=0→RdSt cx m' cpus 0 none 0 b2 n none 0 0 (pm.new cpus most).1→Q (.tuple #[.agg #[.int .i64 cpus,.int .i64 0,.slice none 0 0,.slice b2 n d2,.slice none 0 0],.int .i64 0]) m') :
  CallV cx n_model_New [.int .i64 cpus,.slice a n c] m Q:=by
 apply G_model_New_ok; unfold G_model_New
 have hlm:most.length=n:=ha.1
 have en:pm.new cpus most=bif (ltI cpus 1 || (ltI 64 cpus || (ltI 8 (lenI n) || most.any pm.mOdd))) then (⟨0,0,[],[],[]⟩,1) else (⟨cpus,0,[],most.map fun n=>⟨n,0,[],false⟩,[]⟩,0):=by unfold pm.new; rw [hlm]
 refine joinK_of' (fun f:Bool→Mem→Prop=>∀ b mm,Keep m mm→b=(ltI cpus 1 || (ltI 64 cpus || (ltI 8 (lenI n) || most.any pm.mOdd)))→f b mm) ?_ ?_
 ·rintro b mm k rfl
  refine split_b (fun hb=>?_) (fun hb=>?_)
  ·rw [hb,cond_true] at en
   exact h0 mm k (by rw [en]; simp) en
  ·rw [hb,cond_false] at en
   rw [en] at h1
   simp only [Bool.or_eq_false_iff,ltI_false,pm.len_eq] at hb
   have hn8:n≤8:=by have:=hb.2.2.1; unfold lenI at this; omega
   refine ⟨fun x31 xc xc1 ac nc cc a2 n2 c2 a5 n5 c5 m2 w=>∃ k:Nat,x31=(k:Int)∧k≤n∧w=n - k∧xc=cpus∧xc1=0∧ac=none∧nc=0∧cc=0∧a5=none∧n5=0∧c5=0∧n2=k∧Acc m m2 a2 n2 c2 4 t_model_Lock (((most.take k).map fun x=>(⟨x,0,none,0,0,false⟩:LV)).flatMap encL),⟨n,0,rfl,Nat.zero_le _,rfl,rfl,rfl,rfl,rfl,rfl,rfl,rfl,rfl,rfl,by simpa using Acc.nil k.bump _ _⟩,?_⟩
   rintro x31 xc xc1 ac nc cc a2 n2 c2 a5 n5 c5 m2 w ⟨k',rfl,hk,rfl,rfl,rfl,rfl,rfl,rfl,rfl,rfl,rfl,rfl,hacc⟩
   refine split_lt (fun hlt=>?_) (fun hge=>?_)
   ·obtain ⟨x,hx⟩:∃ x,most[n2]? = some x:=⟨_,List.getElem?_eq_getElem (by omega)⟩
    refine (ha.keep hw hacc.keep).open (k:=n2) hx fun b o hc=>⟨_,hc 0 _ rfl,?_⟩
    rw [mBind_iff]
    obtain ⟨m4,q1,q2,q3,q4,q5⟩:=hacc.push (cx:=cx) (t:=t_sl_model_Lock) (vs:=encL ⟨x,0,none,0,0,false⟩) (by kernel_rfl) rfl rfl (by omega)
    refine ⟨_,_,_,m4,q1,n - (n2+1),by omega,n2+1,?_,by omega,rfl,rfl,rfl,rfl,rfl,rfl,rfl,rfl,rfl,rfl,?_⟩
    ·rw [addI_64 (by omega) (by omega)]; rfl
    ·have e:((most.take (n2+1)).map fun x=>(⟨x,0,none,0,0,false⟩:LV)).flatMap encL=((most.take n2).map fun x=>(⟨x,0,none,0,0,false⟩:LV)).flatMap encL ++ encL ⟨x,0,none,0,0,false⟩:=by
      rw [List.take_add_one,hx]
      simp
     rw [e]; exact q2
   ·obtain rfl:n2=n:=by omega
    have htk:most.take n2=most:=List.take_of_length_le (by omega)
    rw [htk] at hacc
    refine h1 m2 a2 c2 hacc.keep rfl ⟨rfl,rfl,⟨[],ArrP.nil,.nil⟩,⟨_,hacc.arr encL_len (by omega),?_⟩,ArrP.nil,Nat.le_refl _,.inl rfl⟩
    exact all2_map (fun x=>⟨rfl,rfl,rfl,ArrP.nil⟩) most
 ·intro J hJ
  have k1:Keep m (bump m 1):=(Keep.refl hw).bump
  refine split_b (fun h1=>hJ _ _ k1 (by rw [h1]; rfl)) (fun h1=>?_)
  refine split_b (fun h2=>hJ _ _ k1 (by rw [h1,h2]; rfl)) (fun h2=>?_)
  refine split_b (fun h3=>hJ _ _ k1 (by rw [h1,h2,h3]; rfl)) (fun h3=>?_)
  apply G_slices_ContainsFunc_sl_int64_ok; unfold G_slices_ContainsFunc_sl_int64
  have hn8:n≤8:=by rw [ltI_false] at h3; unfold lenI at h3; omega
  refine idxM_ok k1.wf (ha.keep hw k1) (by omega) fun m2 k2=>⟨_,rfl,_,rfl,hJ _ _ (k1.trans k2) ?_⟩
  rw [h1,h2,h3,Bool.false_or,Bool.false_or,Bool.false_or]
  exact leI_idx
end
end Go.Proofs.YtiehbnmpaeedpaaGreat.vc
