import Derived.Test.YtiehbnmpaeedpaaGreatQA37
import Derived.Test.YtiehbnmpaeedpaaGreatQA22
import Derived.KernelRfl
namespace Go.Proofs.YtiehbnmpaeedpaaGreat.vc
open Go Go.AX
set_option linter.unusedVariables false
set_option linter.unusedSimpArgs false
set_option linter.unusedSectionVars false
section
variable {B:Int} {m0 m:Mem} {lam:Nat→Lb} {wj wq:Nat→Kd} {Q:Value→Mem→Prop} {M now:Int} {a1 a2 a3 ae:Option Addr} {n1 c1 n2 c2 n3 c3 ne ce:Nat} {ss:List SV} {js:Nat→List JV} {ls:List LV} {qs:Nat→List Int} {σ : pm.St} {E:List pm.Ev}
theorem release_ok {id:Int} {ap:Option Addr} {np cp:Nat} {p:List pm.Step} (hw:Wf m) (hσ : RdSt cx m M now a1 n1 a2 n2 a3 n3 c3 σ) (hI:pm.Iv B σ) (hB:B < 4611686018427387904) (hp:Arr encP 2 m ap np p)
  (h:∀ m' b1 d1 b2 d2 b3 d3 ae ne ce,Keep m m'→RdSt cx m' M now b1 n1 b2 n2 b3 n3 d3 (pm.release σ id p).1→Arr encEv 4 m' ae ne (pm.release σ id p).2.1→ne≤2→Q (.tuple #[.agg #[.int .i64 M,.int .i64 now,.slice b1 n1 d1,.slice b2 n2 d2,.slice b3 n3 d3],.slice ae ne ce,.int .i64 (pm.release σ id p).2.2]) m') :
  CallV cx n_model_Release [.agg #[.int .i64 M,.int .i64 now,.slice a1 n1 c1,.slice a2 n2 c2,.slice a3 n3 c3],.int .i64 id,.slice ap np cp] m Q:=by
 apply G_model_Release_ok; unfold G_model_Release
 have k0:Keep m (bump m 2):=(Keep.refl hw).bump
 have hz:=hI.len1
 have hz2:=hI.len2
 have hl1:=hσ.len1
 have hl2:=hσ.len2
 have en:=hσ.enow
 refine at_ok k0.wf (hσ.keep hw k0) hI.rise (by omega) fun m1 k1=>⟨_,_,rfl,?_⟩
 have k01:=k0.trans k1
 have same:∀ m' e,Keep m m'→pm.release σ id p=(σ,[],e)→Q (.tuple #[.agg #[.int .i64 M,.int .i64 now,.slice a1 n1 c1,.slice a2 n2 c2,.slice a3 n3 c3],.slice none 0 0,.int .i64 e]) m':=fun m' e k he=>by
  rw [he] at h
  exact h m' a1 c1 a2 c2 a3 c3 none 0 0 k (hσ.keep hw k) ArrP.nil (by omega)
 refine split_nb (fun h1=>same _ _ k01 (by unfold pm.release; rw [h1]; rfl)) (fun h1=>?_)
 obtain ⟨x,hx,hxid⟩:=pm.has_at hI.rise h1
 have hil:=(List.getElem?_eq_some_iff.1 hx).1
 have hxm:=List.mem_of_getElem? hx
 refine mosts_ok k01.wf (hσ.keep hw k01) (by omega) fun m2 am cm k2=>⟨_,_,_,rfl,?_⟩
 have k02:=k01.trans k2
 refine pFits_ok k02.wf (hp.keep hw k02) fun m3 k3=>⟨_,rfl,?_⟩
 have k03:=k02.trans k3
 have e2:pm.pFits p n2=pm.pFits p σ.sems.length:=by rw [hl2]
 rw [e2]
 refine split_nb (fun h2=>same _ _ k03 (by unfold pm.release; rw [h1,h2]; rfl)) (fun h2=>?_)
 obtain ⟨ss0,hA0,hS0⟩:=(hσ.keep hw k03).servs
 obtain ⟨v0,hv0,hR0⟩:=hS0.get' hx
 obtain ⟨jl0,hj0,hj0'⟩:=hR0.jobs
 have hjl:v0.jn=x.jobs.length:=by rw [← hj0'.len,hj0.1]
 refine hA0.open (k:=pm.at_ σ.servs id) hv0 fun b0 o0 hc0=>⟨_,_,_,hc0 6 _ rfl,?_⟩
 have e3:leI 8 (lenI v0.jn)=leI 8 (lenI x.jobs.length):=by rw [hjl]
 rw [e3]
 refine split_b (fun h3=>same _ _ k03 (by unfold pm.release; rw [h1,h2,hx]; simp only [h3]; rfl)) (fun h3=>?_)
 have h3':=leI_false.1 h3
 simp only [pm.len_eq] at h3'
 obtain ⟨hn1,hn2⟩:=hI.num x hxm
 obtain ⟨hpg,_⟩:=pm.pFits_iff.1 h2
 have enum:addI .i64 x.num 1=x.num+1:=addI_64 (by omega) (by omega)
 obtain ⟨j1,j2⟩:=pm.jNew_good (n:=x.num+1) h2 (by omega)
 refine clone_ok k03.wf (hσ.keep hw k03) (iv_small hI.toIw) fun m4 lam b1 d1 b2 d2 b3 d3 ss js ls qs hO=>⟨_,_,_,_,_,_,_,_,_,_,_,rfl,?_⟩
 have hE:=OwE.start (hO.old0 hw k03)
 obtain ⟨v,hv⟩:∃ v,ss[pm.at_ σ.servs id]? = some v:=⟨_,List.getElem?_eq_getElem (by rw [hE.ow.s1n]; omega)⟩
 generalize hi:pm.at_ σ.servs id=i at *
 have kb:Keep m4 (bump m4 1):=(Keep.refl hE.wf).bump
 have hE0:=hE.then kb
 obtain ⟨b,o,rfl,hlb,hc⟩:=hE0.ow.atS hv
 obtain ⟨d0,dj⟩:=hE0.ow.ds i v x hv hx
 refine ⟨⟨by omega,by omega⟩,?_⟩
 rw [vPtr_some]
 refine ⟨_,hc 9 _ rfl,?_⟩
 obtain ⟨g1,hE1⟩:=hE0.setS (x':={ x with num:=x.num+1 }) (v':={ v with num:=x.num+1 }) (k:=9) (vs:=[.int .i64 (x.num+1)]) hv hx rfl (by simp) rfl ⟨rfl,rfl,rfl⟩ rfl ⟨d0.id,d0.s,d0.sec,d0.held,rfl,d0.ran⟩
 have evn:addI .i64 v.num 1=x.num+1:=by rw [d0.num,enum]
 rw [evn]
 refine ⟨g1,?_⟩
 rw [mBind_iff]
 generalize wr (bump m4 1) b (o+Int.toNat (i:Int)*11+9) [.int .i64 (x.num+1)]=m5 at hE1
 have hv1:=set_get (y:={ v with num:=x.num+1 }) hv
 have hx1:=set_get (y:={ x with num:=x.num+1 }) hx
 obtain ⟨b',o',e,_,hc1⟩:=hE1.ow.atS hv1
 cases e
 refine ⟨_,hc1 9 _ rfl,?_⟩
 refine jNew_ok hE1.wf (hp.keep hw hE1.ow.keep) hpg fun m6 aj cj k6 hAj hnj=>?_
 rw [j1] at hAj ⊢
 simp only [cond_true]
 have hAj:Arr encP 2 m6 aj np p:=by
  rcases hAj with h | h
  ·exact h
  ·cases h
 refine ⟨_,_,_,_,_,_,_,rfl,?_⟩
 have hE2:=hE1.then k6
 obtain ⟨lam3,hE3,hlp,hch⟩:=hE2.hold encP_len (by omega) hAj (fun b hb=>.inl (hE1.ow.noNew (hnj b hb))) (fun b hb hs=>by cases hs)
 have hlb3:lam3 b = .sv:=by rw [(hch b).2 (by rw [hlb]; simp)]; exact hlb
 obtain ⟨b',o',e,_,hc3⟩:=(hE3.then ((Keep.refl hE3.wf).bump (n:=12))).ow.atS hv1
 cases e
 refine ⟨_,_,_,hc3 6 _ rfl,?_⟩
 have x61:(bump m6 1).nx=m6.nx+1:=rfl
 have kP:Keep m6 (addO (bump m6 12) ((bump m6 1).nx+6) (row [.int .i64 (x.num+1),.slice aj np cj,.int .i64 0,.int .i64 0] t_job_Job false)):=((Keep.refl hE3.wf).bump (n:=12)).addO (by omega) (by show (bump m6 1).nx+6 < m6.nx+12; omega)
 have hRj:Row (addO (bump m6 12) ((bump m6 1).nx+6) (row [.int .i64 (x.num+1),.slice aj np cj,.int .i64 0,.int .i64 0] t_job_Job false)) ((bump m6 1).nx+6) (encJ ⟨x.num+1,aj,np,cj,0,0⟩) t_job_Job false:=Row.of_row (by rw [addO_get,if_pos rfl]; rfl)
 generalize addO (bump m6 12) ((bump m6 1).nx+6) (row [.int .i64 (x.num+1),.slice aj np cj,.int .i64 0,.int .i64 0] t_job_Job false)=m7 at kP hRj
 have hE4:=hE3.then kP
 have hd:DpJob m7 lam3 ⟨x.num+1,aj,np,cj,0,0⟩ ⟨x.num+1,p,0,0⟩:=⟨rfl,rfl,rfl,hAj.keep hE3.wf kP,hlp⟩
 have hjv:v.jn≤900000:=by
  have h1:=(hE0.ow.jb i v hv).arr encJ_len
  have h2:=dj.len
  have h3:v.jn=x.jobs.length:=by rw [← h2,h1.1]
  omega
 obtain ⟨m8,r1,r2,hE5⟩:=hE4.pushJ (jx:=⟨x.num+1,p,0,0⟩) (xa:=some ⟨(bump m6 1).nx+6,0,none⟩) hv1 hx1 rfl rfl (hRj.first1 rfl) hd hjv
 refine ⟨_,_,_,m8,r1,r2,?_⟩
 rw [mBind_iff,mBind_iff]
 have hno7:lam3 m7.nx = .no:=hE4.ow.noNew (Nat.le_refl _)
 have hlb5:upF lam3 m7.nx (.jb i) b = .sv:=by rw [upF_ne (fun e=>by rw [e,hno7] at hlb3; cases hlb3)]; exact hlb3
 have hst:({ ({ σ with servs:=σ.servs.set i { x with num:=x.num+1 } }:pm.St) with servs:=(({ σ with servs:=σ.servs.set i { x with num:=x.num+1 } }:pm.St).servs).set i { ({ x with num:=x.num+1 }:pm.Serv) with jobs:=({ x with num:=x.num+1 }:pm.Serv).jobs ++ [⟨x.num+1,p,0,0⟩] } }:pm.St) = { σ with servs:=σ.servs.set i { x with num:=x.num+1,jobs:=x.jobs ++ [⟨x.num+1,p,0,0⟩] } }:=by
  simp [List.set_set]
 have hE5:=hE5.cast hst rfl
 generalize wr m8 b (o+Int.toNat (i:Int)*11+6) [.slice (some ⟨m7.nx,0,none⟩) (v.jn+1) (v.jn+1)]=m9 at hE5
 generalize upF lam3 m7.nx (.jb i)=lam5 at *
 have hv5:=set_get (y:={ v with num:=x.num+1,ja:=some ⟨m7.nx,0,none⟩,jn:=v.jn+1,jc:=v.jn+1 }) hv1
 have hx5:=set_get (y:={ x with num:=x.num+1,jobs:=x.jobs ++ [⟨x.num+1,p,0,0⟩] }) hx
 have k9:Keep m9 (bump m9 9):=(Keep.refl hE5.wf).bump
 obtain ⟨b',o',e,_,hc5⟩:=(hE5.then k9).ow.atS hv5
 cases e
 refine ⟨_,hc5 9 _ rfl,?_⟩
 refine event_ok k9.wf fun m10 k10=>⟨_,_,_,_,rfl,?_⟩
 rw [mBind_iff]
 have x9:(bump m9 9).nx=m9.nx+9:=rfl
 have x10:=k10.nx
 have k11:Keep m9 (addO m10 (m9.nx+7) (row [.int .i64 now,.int .i64 1,.int .i64 id,.int .i64 (x.num+1)] t_model_Event false)):=(k9.trans k10).addO (by omega) (by omega)
 have hRe:Row (addO m10 (m9.nx+7) (row [.int .i64 now,.int .i64 1,.int .i64 id,.int .i64 (x.num+1)] t_model_Event false)) (m9.nx+7) (encEv ⟨now,1,id,x.num+1⟩) t_model_Event false:=Row.of_row (by rw [addO_get,if_pos rfl]; rfl)
 generalize addO m10 (m9.nx+7) (row [.int .i64 now,.int .i64 1,.int .i64 id,.int .i64 (x.num+1)] t_model_Event false)=m11 at k11 hRe
 have hE6:=hE5.then k11
 have x11:=k11.nx
 have hbl:b < m9.nx:=hE5.ow.lab b (by rw [hlb5]; simp)
 have erel:pm.release σ id p=(bif !x.idle then ({ σ with servs:=σ.servs.set i { x with num:=x.num+1,jobs:=x.jobs ++ [⟨x.num+1,p,0,0⟩] } },[pm.event σ 1 id (x.num+1)],0) else
   bif neI (pm.cWake x.s σ.now).2 0 then (σ,[],(pm.cWake x.s σ.now).2) else
   ({ σ with servs:=σ.servs.set i { x with num:=x.num+1,jobs:=x.jobs ++ [⟨x.num+1,p,0,0⟩],s:=(pm.cWake x.s σ.now).1 } },[pm.event σ 1 id (x.num+1),pm.event σ 9 id 0],0)):=by
  unfold pm.release
  rw [h1,h2,hi,hx]
  simp only [h3,enum,j1]
  rfl
 refine joinK_of' (fun f:Option Addr→Nat→Nat→Mem→Prop=>∀ a n c mm τ evs lam ss js ls qs,OwE (fun _=>.own true) (fun _=>.own true) m mm lam (some ⟨b,o,none⟩) n1 d1 b2 n2 d2 b3 n3 d3 ss js ls qs τ none 0 0 []→Arr encEv 4 mm a n evs→n≤2→pm.release σ id p=(τ,evs,0)→τ.m = σ.m→τ.now = σ.now→f a n c mm) ?_ ?_
 ·intro a n c mm τ evs lam' ss' js' ls' qs' hE' hA' hn' he em' en'
  rw [he] at h
  exact h mm _ _ _ _ _ _ a n c hE'.ow.keep (hE'.ow.reads (by rw [em']; exact hσ.em) (by rw [en']; exact en) sBack) hA' hn'
 ·intro J hJ
  obtain ⟨b',o',e,_,hc6⟩:=hE6.ow.atS hv5
  cases e
  refine ⟨_,hc6 0 _ rfl,_,hc6 1 _ rfl,_,hc6 2 _ rfl,_,hc6 3 _ rfl,_,hc6 4 _ rfl,_,hc6 5 _ rfl,_,_,_,hc6 6 _ rfl,_,hc6 7 _ rfl,_,hc6 8 _ rfl,_,hc6 9 _ rfl,_,hc6 10 _ rfl,?_⟩
  refine idle_ok hE6.wf fun m13 k13=>⟨_,rfl,?_⟩
  have evs:v.s=x.s:=d0.s
  have eid:eqI v.s.mode 0=x.idle:=by unfold pm.Serv.idle; rw [evs]
  rw [eid]
  have hE7:=hE6.then k13
  have hRe7:=k13.row hE6.wf hRe
  have hAe:∀ mm,Row mm (m9.nx+7) (encEv ⟨now,1,id,x.num+1⟩) t_model_Event false→Arr encEv 4 mm (some ⟨m9.nx+7,0,none⟩) 1 [pm.event σ 1 id (x.num+1)]:=fun mm hR=>by
   have:=Arr.of_row encEv_len (l:=[(⟨now,1,id,x.num+1⟩:pm.Ev)]) (m:=mm) (b:=m9.nx+7) (by simpa using hR)
   unfold pm.event
   rw [← en]
   exact this
  refine split_b (fun h4=>?_) (fun h4=>?_)
  ·rw [h4] at erel
   simp only [Bool.not_true,cond_false] at erel
   have k3':Keep m13 (bump m13 13):=(Keep.refl hE7.wf).bump
   obtain ⟨b',o',e,_,hc7⟩:=(hE7.then k3').ow.atS hv5
   cases e
   refine ⟨_,hc7 1 _ rfl,_,hc7 2 _ rfl,_,hc7 3 _ rfl,_,hc7 4 _ rfl,_,hc7 5 _ rfl,?_⟩
   refine cWake_ok k3'.wf fun m14 k14=>⟨_,_,_,_,_,_,rfl,?_⟩
   have ev:(⟨v.s.q,v.s.p,v.s.bud,v.s.due,v.s.mode⟩:pm.Srv)=x.s:=d0.s
   rw [ev]
   rw [show pm.cWake x.s σ.now=pm.cWake x.s now by rw [en]] at erel
   generalize hW:pm.cWake x.s now=W at *
   have x14:=k14.nx
   have x13:(bump m13 13).nx=m13.nx+13:=rfl
   have kA:Keep m13 (addO m14 (m13.nx+10) (row [.int .i64 (0:Int),.int .i64 (0:Int),.int .i64 (0:Int),.int .i64 (0:Int),.int .i64 (0:Int)] t_cbs_Server false)):=(k3'.trans k14).addO (by omega) (by omega)
   have hR:Row (addO m14 (m13.nx+10) (row [.int .i64 (0:Int),.int .i64 (0:Int),.int .i64 (0:Int),.int .i64 (0:Int),.int .i64 (0:Int)] t_cbs_Server false)) (m13.nx+10) [.int .i64 (0:Int),.int .i64 (0:Int),.int .i64 (0:Int),.int .i64 (0:Int),.int .i64 (0:Int)] t_cbs_Server false:=Row.of_row (by rw [addO_get,if_pos rfl])
   generalize addO m14 (m13.nx+10) (row [.int .i64 (0:Int),.int .i64 (0:Int),.int .i64 (0:Int),.int .i64 (0:Int),.int .i64 (0:Int)] t_cbs_Server false)=m15 at kA hR
   refine ⟨hR.okW (by have:=kA.fl; have:=hE7.wf.1; omega) (by simp),?_⟩
   rw [mBind_iff,mBind_iff]
   have hR2:=hR.wr (o:=0) (vs:=[.int .i64 W.1.q,.int .i64 W.1.p,.int .i64 W.1.bud,.int .i64 W.1.due,.int .i64 W.1.mode]) (by simp)
   change Row _ _ [.int .i64 W.1.q,.int .i64 W.1.p,.int .i64 W.1.bud,.int .i64 W.1.due,.int .i64 W.1.mode] _ _ at hR2
   have kB:Keep m13 (wr m15 (m13.nx+10) 0 [.int .i64 W.1.q,.int .i64 W.1.p,.int .i64 W.1.bud,.int .i64 W.1.due,.int .i64 W.1.mode]):=kA.wr (by omega)
   generalize wr m15 (m13.nx+10) 0 [.int .i64 W.1.q,.int .i64 W.1.p,.int .i64 W.1.bud,.int .i64 W.1.due,.int .i64 W.1.mode]=m16 at kB hR2
   have hE8:=hE7.then kB
   refine split_b (fun h5=>?_) (fun h5=>?_)
   ·rw [h5,cond_true] at erel
    exact same m16 _ hE8.ow.keep erel
   ·rw [h5,cond_false] at erel
    refine ⟨_,by rw [hR2.rd]; rfl,_,by rw [hR2.rd]; rfl,_,by rw [hR2.rd]; rfl,_,by rw [hR2.rd]; rfl,_,by rw [hR2.rd]; rfl,?_⟩
    obtain ⟨d5,dj5⟩:=hE8.ow.ds i _ _ hv5 hx5
    obtain ⟨g9,hE9⟩:=hE8.setS (x':={ x with num:=x.num+1,jobs:=x.jobs ++ [⟨x.num+1,p,0,0⟩],s:=W.1 }) (v':={ v with num:=x.num+1,ja:=some ⟨m7.nx,0,none⟩,jn:=v.jn+1,jc:=v.jn+1,s:=W.1 }) (k:=1) (vs:=[.int .i64 W.1.q,.int .i64 W.1.p,.int .i64 W.1.bud,.int .i64 W.1.due,.int .i64 W.1.mode]) hv5 hx5 rfl (by simp) rfl ⟨rfl,rfl,rfl⟩ rfl ⟨d0.id,rfl,d0.sec,d0.held,rfl,d0.ran⟩
    refine ⟨g9,?_⟩
    rw [mBind_iff]
    have hne:m9.nx+7≠b:=by omega
    have hRe9:Row (wr m16 b (o+Int.toNat (i:Int)*11+1) [.int .i64 W.1.q,.int .i64 W.1.p,.int .i64 W.1.bud,.int .i64 W.1.due,.int .i64 W.1.mode]) (m9.nx+7) (encEv ⟨now,1,id,x.num+1⟩) t_model_Event false:=(kB.row hE7.wf hRe7).congr (wr_get hne)
    generalize wr m16 b (o+Int.toNat (i:Int)*11+1) [.int .i64 W.1.q,.int .i64 W.1.p,.int .i64 W.1.bud,.int .i64 W.1.due,.int .i64 W.1.mode]=m17 at hE9 hRe9
    refine event_ok hE9.wf fun m18 k18=>⟨_,_,_,_,rfl,?_⟩
    rw [mBind_iff]
    have k19:Keep m17 (newO m18 (row [.int .i64 now,.int .i64 9,.int .i64 id,.int .i64 0] t_model_Event false)):=k18.newO
    have hRf:Row (newO m18 (row [.int .i64 now,.int .i64 9,.int .i64 id,.int .i64 0] t_model_Event false)) m18.nx [.int .i64 now,.int .i64 9,.int .i64 id,.int .i64 0] t_model_Event false:=Row.newO
    generalize newO m18 (row [.int .i64 now,.int .i64 9,.int .i64 id,.int .i64 0] t_model_Event false)=m19 at k19 hRf
    have hRe19:=k19.row hE9.wf hRe9
    have hRe19':=hRe19
    obtain ⟨tr,hg,_⟩:=hRe19'
    have hap:=append_new (cx:=cx) (t:=t_sl_model_Event) (e:=t_model_Event) (s:=4) (m:=m19) (n:=1) (k:=1) (c:=1) (ck:=1) (a:=some ⟨m9.nx+7,0,none⟩) (v:=some ⟨m18.nx,0,none⟩) (old:=encEv ⟨now,1,id,x.num+1⟩) (new:=[.int .i64 now,.int .i64 9,.int .i64 id,.int .i64 0]) (by kernel_rfl)
     (by unfold giveUp; simp only [hg]) (hRe19.first1 rfl) rfl (hRf.first1 rfl) rfl rfl (by omega) (by omega)
    refine ⟨_,_,_,_,hap,?_⟩
    have k20:Keep m19 (newO m19 (row (encEv ⟨now,1,id,x.num+1⟩ ++ [.int .i64 now,.int .i64 9,.int .i64 id,.int .i64 0]) t_model_Event true)):=(Keep.refl k19.wf).newO
    have hR20:Row (newO m19 (row (encEv ⟨now,1,id,x.num+1⟩ ++ [.int .i64 now,.int .i64 9,.int .i64 id,.int .i64 0]) t_model_Event true)) m19.nx (([⟨now,1,id,x.num+1⟩,⟨now,9,id,0⟩]:List pm.Ev).flatMap encEv) t_model_Event true:=Row.newO
    refine hJ _ 2 2 _ _ [pm.event σ 1 id (x.num+1),pm.event σ 9 id 0] _ _ _ _ _ ((hE9.then k19).then k20) ?_ (by omega) (erel.trans ?_) rfl rfl
    ·unfold pm.event
     rw [← en]
     exact Arr.of_row encEv_len hR20
    ·simp [List.set_set]
  ·rw [h4] at erel
   simp only [Bool.not_false,cond_true] at erel
   exact hJ _ 1 1 m13 _ _ _ _ _ _ _ hE7 (hAe m13 hRe7) (by omega) erel rfl rfl
end
end Go.Proofs.YtiehbnmpaeedpaaGreat.vc
namespace Go.Proofs.YtiehbnmpaeedpaaGreat.vc
open Go Go.AX
set_option linter.unusedVariables false
set_option maxRecDepth 100000
noncomputable section
def G_slices_Equal_prog_Prog (u t:Option Addr) (n v r w:Nat) (m:Mem) (Q:Value→Mem→Prop):Prop:=
 splitB (neI (lenI n) (lenI r)) (Q (.bool false) m) (∃ c:Int→Mem→Nat→Prop,(∃ s:Nat,c 0 m s)∧∀ a b e,c a b e→splitB (ltI a (lenI n)) ((0≤a∧a < ((n:Nat):Int))∧(vPtr u fun g f=>∃ k,rd (bump b 9) g (f+Int.toNat a*2)=some (.int .i64 k)∧∃ j,rd (bump b 9) g (f+Int.toNat a*2+1)=some (.int .i64 j)∧(0≤a∧a < ((r:Nat):Int))∧(vPtr t fun p d=>∃ q,rd (bump b 9) p (d+Int.toNat a*2)=some (.int .i64 q)∧∃ o,rd (bump b 9) p (d+Int.toNat a*2+1)=some (.int .i64 o)∧∃ i,eqV cx (bump b 9) 40 t_prog_Step (.agg #[.int .i64 k,.int .i64 j]) (.agg #[.int .i64 q,.int .i64 o])=some i∧splitB (!i) (Q (.bool false) (bump b 9)) (∃ l:Nat,l < e∧c (addI .i64 a 1) (bump b 9) l)))) (Q (.bool true) b))
theorem G_slices_Equal_prog_Prog_ok {u t:Option Addr} {n v r w:Nat} {m:Mem} {Q:Value→Mem→Prop} (h:G_slices_Equal_prog_Prog u t n v r w m Q):CallV cx n_slices_Equal_prog_Prog [.slice u n v,.slice t r w] m Q:=
 CallV.of (fn:=Tryz.f144) (LS:=[]) (ann:=[none,none,none,none,none,none,some ⟨[0,1,12],[(13,.int .i64)],[],[],[],0⟩]) ovFr ovNi (by kernel_rfl) (by kernel_rfl) (Eq.mp (by kernel_rfl) h)
def G_model_sameJob (j o p f n l:Int) (q i:Option Addr) (k d e g:Nat) (m:Mem) (Q:Value→Mem→Prop):Prop:=
 splitB (eqI j f) (splitB (eqI o n) (splitB (eqI p l) (CallV cx n_slices_Equal_prog_Prog [.slice q k d,.slice i e g] (bump m 2) fun b c=>∃ a,b=(.bool a)∧Q (.bool a) c) (Q (.bool false) (bump m 2))) (Q (.bool false) (bump m 2))) (Q (.bool false) (bump m 2))
theorem G_model_sameJob_ok {j o p f n l:Int} {q i:Option Addr} {k d e g:Nat} {m:Mem} {Q:Value→Mem→Prop} (h:G_model_sameJob j o p f n l q i k d e g m Q):CallV cx n_model_sameJob [.agg #[.int .i64 j,.slice q k d,.int .i64 o,.int .i64 p],.agg #[.int .i64 f,.slice i e g,.int .i64 n,.int .i64 l]] m Q:=
 CallV.of (fn:=Tryz.f114) (LS:=[2,3]) (ann:=[]) ovFr ovNi (by kernel_rfl) (by kernel_rfl) (Eq.mp (by kernel_rfl) h)
def G_slices_EqualFunc_sl_job_Job (F D:Option Addr) (z G A H:Nat) (E:Value) (m:Mem) (Q:Value→Mem→Prop):Prop:=
 splitB (neI (lenI z) (lenI A)) (Q (.bool false) m) (∃ g:Int→Mem→Nat→Prop,(∃ C:Nat,g 0 m C)∧∀ a b j,g a b j→splitB (ltI a (lenI z)) ((0≤a∧a < ((z:Nat):Int))∧(vPtr F fun e d=>∃ i,rd b e (d+Int.toNat a*4)=some (.int .i64 i)∧∃ l v t,rd b e (d+Int.toNat a*4+1)=some (.slice l v t)∧∃ w,rd b e (d+Int.toNat a*4+2)=some (.int .i64 w)∧∃ r,rd b e (d+Int.toNat a*4+3)=some (.int .i64 r)∧(0≤a∧a < ((A:Nat):Int))∧(vPtr D fun f c=>∃ k,rd (bump b 1) f (c+Int.toNat a*4)=some (.int .i64 k)∧∃ s q n,rd (bump b 1) f (c+Int.toNat a*4+1)=some (.slice s q n)∧∃ y,rd (bump b 1) f (c+Int.toNat a*4+2)=some (.int .i64 y)∧∃ o,rd (bump b 1) f (c+Int.toNat a*4+3)=some (.int .i64 o)∧(vCallFV cx (bump b 2) E [.agg #[.int .i64 i,.slice l v t,.int .i64 w,.int .i64 r],.agg #[.int .i64 k,.slice s q n,.int .i64 y,.int .i64 o]] fun B u=>∃ x,B=(.bool x)∧splitB (!x) (Q (.bool false) u) (∃ p:Nat,p < j∧g (addI .i64 a 1) u p))))) (Q (.bool true) b))
theorem G_slices_EqualFunc_sl_job_Job_ok {F D:Option Addr} {z G A H:Nat} {E:Value} {m:Mem} {Q:Value→Mem→Prop} (h:G_slices_EqualFunc_sl_job_Job F D z G A H E m Q):CallV cx n_slices_EqualFunc_sl_job_Job [.slice F z G,.slice D A H,E] m Q:=
 CallV.of (fn:=Tryz.f113) (LS:=[8,9]) (ann:=[none,none,none,none,none,none,some ⟨[1,2,15,16],[(17,.int .i64)],[],[],[],0⟩]) ovFr ovNi (by kernel_rfl) (by kernel_rfl) (Eq.mp (by kernel_rfl) h)
def G_model_sameServ (j B D e k f A o l C t w p v q r F z u x:Int) (E n:Option Addr) (y g s i:Nat) (m:Mem) (Q:Value→Mem→Prop):Prop:=
 splitB (eqI j t) (∃ c,eqV cx (bump m 2) 40 t_cbs_Server (.agg #[.int .i64 B,.int .i64 D,.int .i64 e,.int .i64 k,.int .i64 f]) (.agg #[.int .i64 w,.int .i64 p,.int .i64 v,.int .i64 q,.int .i64 r])=some c∧splitB c (CallV cx n_slices_EqualFunc_sl_job_Job [.slice E y g,.slice n s i,.func (.func n_model_sameJob) #[] #[]] (bump m 2) fun d a=>∃ b,d=(.bool b)∧splitB b (splitB (eqI A F) (splitB (eqI o z) (splitB (eqI l u) (Q (.bool (eqI C x)) a) (Q (.bool false) a)) (Q (.bool false) a)) (Q (.bool false) a)) (Q (.bool false) a)) (Q (.bool false) (bump m 2))) (Q (.bool false) (bump m 2))
theorem G_model_sameServ_ok {j B D e k f A o l C t w p v q r F z u x:Int} {E n:Option Addr} {y g s i:Nat} {m:Mem} {Q:Value→Mem→Prop} (h:G_model_sameServ j B D e k f A o l C t w p v q r F z u x E n y g s i m Q):CallV cx n_model_sameServ [.agg #[.int .i64 j,.int .i64 B,.int .i64 D,.int .i64 e,.int .i64 k,.int .i64 f,.slice E y g,.int .i64 A,.int .i64 o,.int .i64 l,.int .i64 C],.agg #[.int .i64 t,.int .i64 w,.int .i64 p,.int .i64 v,.int .i64 q,.int .i64 r,.slice n s i,.int .i64 F,.int .i64 z,.int .i64 u,.int .i64 x]] m Q:=
 CallV.of (fn:=Tryz.f62) (LS:=[2,3]) (ann:=[]) ovFr ovNi (by kernel_rfl) (by kernel_rfl) (Eq.mp (by kernel_rfl) h)
def G_slices_Equal_sl_int (r q:Option Addr) (f s k t:Nat) (m:Mem) (Q:Value→Mem→Prop):Prop:=
 splitB (neI (lenI f) (lenI k)) (Q (.bool false) m) (∃ c:Int→Mem→Nat→Prop,(∃ o:Nat,c 0 m o)∧∀ a b d,c a b d→splitB (ltI a (lenI f)) ((0≤a∧a < ((f:Nat):Int))∧(vPtr r fun n l=>∃ e,rd (bump b 9) n (l+Int.toNat a*1)=some (.int .i64 e)∧(0≤a∧a < ((k:Nat):Int))∧(vPtr q fun p j=>∃ i,rd (bump b 9) p (j+Int.toNat a*1)=some (.int .i64 i)∧splitB (neI e i) (Q (.bool false) (bump b 9)) (∃ g:Nat,g < d∧c (addI .i64 a 1) (bump b 9) g)))) (Q (.bool true) b))
theorem G_slices_Equal_sl_int_ok {r q:Option Addr} {f s k t:Nat} {m:Mem} {Q:Value→Mem→Prop} (h:G_slices_Equal_sl_int r q f s k t m Q):CallV cx n_slices_Equal_sl_int [.slice r f s,.slice q k t] m Q:=
 CallV.of (fn:=Tryz.f115) (LS:=[]) (ann:=[none,none,none,none,none,none,some ⟨[0,1,12],[(13,.int .i64)],[],[],[],0⟩]) ovFr ovNi (by kernel_rfl) (by kernel_rfl) (Eq.mp (by kernel_rfl) h)
def G_model_sameLock (n p i j:Int) (q l:Option Addr) (o e f k:Nat) (d g:Bool) (m:Mem) (Q:Value→Mem→Prop):Prop:=
 splitB (eqI n i) (splitB (eqI p j) (CallV cx n_slices_Equal_sl_int [.slice q o e,.slice l f k] (bump m 2) fun c b=>∃ a,c=(.bool a)∧splitB a (Q (.bool (d == g)) b) (Q (.bool false) b)) (Q (.bool false) (bump m 2))) (Q (.bool false) (bump m 2))
theorem G_model_sameLock_ok {n p i j:Int} {q l:Option Addr} {o e f k:Nat} {d g:Bool} {m:Mem} {Q:Value→Mem→Prop} (h:G_model_sameLock n p i j q l o e f k d g m Q):CallV cx n_model_sameLock [.agg #[.int .i64 n,.int .i64 p,.slice q o e,.bool d],.agg #[.int .i64 i,.int .i64 j,.slice l f k,.bool g]] m Q:=
 CallV.of (fn:=Tryz.f64) (LS:=[2,3]) (ann:=[]) ovFr ovNi (by kernel_rfl) (by kernel_rfl) (Eq.mp (by kernel_rfl) h)
def G_slices_EqualFunc_sl_model_Serv (V T:Option Addr) (I W P X:Nat) (U:Value) (m:Mem) (Q:Value→Mem→Prop):Prop:=
 splitB (neI (lenI I) (lenI P)) (Q (.bool false) m) (∃ g:Int→Mem→Nat→Prop,(∃ S:Nat,g 0 m S)∧∀ a b k,g a b k→splitB (ltI a (lenI I)) ((0≤a∧a < ((I:Nat):Int))∧(vPtr V fun e d=>∃ j,rd b e (d+Int.toNat a*11)=some (.int .i64 j)∧∃ F,rd b e (d+Int.toNat a*11+1)=some (.int .i64 F)∧∃ s,rd b e (d+Int.toNat a*11+2)=some (.int .i64 s)∧∃ l,rd b e (d+Int.toNat a*11+3)=some (.int .i64 l)∧∃ x,rd b e (d+Int.toNat a*11+4)=some (.int .i64 x)∧∃ i,rd b e (d+Int.toNat a*11+5)=some (.int .i64 i)∧∃ o C A,rd b e (d+Int.toNat a*11+6)=some (.slice o C A)∧∃ E,rd b e (d+Int.toNat a*11+7)=some (.int .i64 E)∧∃ D,rd b e (d+Int.toNat a*11+8)=some (.int .i64 D)∧∃ G,rd b e (d+Int.toNat a*11+9)=some (.int .i64 G)∧∃ z,rd b e (d+Int.toNat a*11+10)=some (.int .i64 z)∧(0≤a∧a < ((P:Nat):Int))∧(vPtr T fun f c=>∃ n,rd (bump b 1) f (c+Int.toNat a*11)=some (.int .i64 n)∧∃ K,rd (bump b 1) f (c+Int.toNat a*11+1)=some (.int .i64 K)∧∃ O,rd (bump b 1) f (c+Int.toNat a*11+2)=some (.int .i64 O)∧∃ r,rd (bump b 1) f (c+Int.toNat a*11+3)=some (.int .i64 r)∧∃ t,rd (bump b 1) f (c+Int.toNat a*11+4)=some (.int .i64 t)∧∃ L,rd (bump b 1) f (c+Int.toNat a*11+5)=some (.int .i64 L)∧∃ u q p,rd (bump b 1) f (c+Int.toNat a*11+6)=some (.slice u q p)∧∃ N,rd (bump b 1) f (c+Int.toNat a*11+7)=some (.int .i64 N)∧∃ M,rd (bump b 1) f (c+Int.toNat a*11+8)=some (.int .i64 M)∧∃ w,rd (bump b 1) f (c+Int.toNat a*11+9)=some (.int .i64 w)∧∃ y,rd (bump b 1) f (c+Int.toNat a*11+10)=some (.int .i64 y)∧(vCallFV cx (bump b 2) U [.agg #[.int .i64 j,.int .i64 F,.int .i64 s,.int .i64 l,.int .i64 x,.int .i64 i,.slice o C A,.int .i64 E,.int .i64 D,.int .i64 G,.int .i64 z],.agg #[.int .i64 n,.int .i64 K,.int .i64 O,.int .i64 r,.int .i64 t,.int .i64 L,.slice u q p,.int .i64 N,.int .i64 M,.int .i64 w,.int .i64 y]] fun R B=>∃ H,R=(.bool H)∧splitB (!H) (Q (.bool false) B) (∃ v:Nat,v < k∧g (addI .i64 a 1) B v))))) (Q (.bool true) b))
theorem G_slices_EqualFunc_sl_model_Serv_ok {V T:Option Addr} {I W P X:Nat} {U:Value} {m:Mem} {Q:Value→Mem→Prop} (h:G_slices_EqualFunc_sl_model_Serv V T I W P X U m Q):CallV cx n_slices_EqualFunc_sl_model_Serv [.slice V I W,.slice T P X,U] m Q:=
 CallV.of (fn:=Tryz.f61) (LS:=[8,9]) (ann:=[none,none,none,none,none,none,some ⟨[1,2,15,16],[(17,.int .i64)],[],[],[],0⟩]) ovFr ovNi (by kernel_rfl) (by kernel_rfl) (Eq.mp (by kernel_rfl) h)
def G_slices_EqualFunc_sl_model_Lock (F D:Option Addr) (z G A H:Nat) (E:Value) (m:Mem) (Q:Value→Mem→Prop):Prop:=
 splitB (neI (lenI z) (lenI A)) (Q (.bool false) m) (∃ g:Int→Mem→Nat→Prop,(∃ C:Nat,g 0 m C)∧∀ a b j,g a b j→splitB (ltI a (lenI z)) ((0≤a∧a < ((z:Nat):Int))∧(vPtr F fun e d=>∃ i,rd b e (d+Int.toNat a*4)=some (.int .i64 i)∧∃ v,rd b e (d+Int.toNat a*4+1)=some (.int .i64 v)∧∃ l u s,rd b e (d+Int.toNat a*4+2)=some (.slice l u s)∧∃ r,rd b e (d+Int.toNat a*4+3)=some (.bool r)∧(0≤a∧a < ((A:Nat):Int))∧(vPtr D fun f c=>∃ k,rd (bump b 1) f (c+Int.toNat a*4)=some (.int .i64 k)∧∃ q,rd (bump b 1) f (c+Int.toNat a*4+1)=some (.int .i64 q)∧∃ p o n,rd (bump b 1) f (c+Int.toNat a*4+2)=some (.slice p o n)∧∃ y,rd (bump b 1) f (c+Int.toNat a*4+3)=some (.bool y)∧(vCallFV cx (bump b 2) E [.agg #[.int .i64 i,.int .i64 v,.slice l u s,.bool r],.agg #[.int .i64 k,.int .i64 q,.slice p o n,.bool y]] fun B t=>∃ w,B=(.bool w)∧splitB (!w) (Q (.bool false) t) (∃ x:Nat,x < j∧g (addI .i64 a 1) t x))))) (Q (.bool true) b))
theorem G_slices_EqualFunc_sl_model_Lock_ok {F D:Option Addr} {z G A H:Nat} {E:Value} {m:Mem} {Q:Value→Mem→Prop} (h:G_slices_EqualFunc_sl_model_Lock F D z G A H E m Q):CallV cx n_slices_EqualFunc_sl_model_Lock [.slice F z G,.slice D A H,E] m Q:=
 CallV.of (fn:=Tryz.f63) (LS:=[8,9]) (ann:=[none,none,none,none,none,none,some ⟨[1,2,15,16],[(17,.int .i64)],[],[],[],0⟩]) ovFr ovNi (by kernel_rfl) (by kernel_rfl) (Eq.mp (by kernel_rfl) h)
def G_slices_Equal_sl_model_Back (u t:Option Addr) (n v r w:Nat) (m:Mem) (Q:Value→Mem→Prop):Prop:=
 splitB (neI (lenI n) (lenI r)) (Q (.bool false) m) (∃ c:Int→Mem→Nat→Prop,(∃ s:Nat,c 0 m s)∧∀ a b e,c a b e→splitB (ltI a (lenI n)) ((0≤a∧a < ((n:Nat):Int))∧(vPtr u fun g f=>∃ k,rd (bump b 9) g (f+Int.toNat a*2)=some (.int .i64 k)∧∃ j,rd (bump b 9) g (f+Int.toNat a*2+1)=some (.int .i64 j)∧(0≤a∧a < ((r:Nat):Int))∧(vPtr t fun p d=>∃ q,rd (bump b 9) p (d+Int.toNat a*2)=some (.int .i64 q)∧∃ o,rd (bump b 9) p (d+Int.toNat a*2+1)=some (.int .i64 o)∧∃ i,eqV cx (bump b 9) 40 t_model_Back (.agg #[.int .i64 k,.int .i64 j]) (.agg #[.int .i64 q,.int .i64 o])=some i∧splitB (!i) (Q (.bool false) (bump b 9)) (∃ l:Nat,l < e∧c (addI .i64 a 1) (bump b 9) l)))) (Q (.bool true) b))
theorem G_slices_Equal_sl_model_Back_ok {u t:Option Addr} {n v r w:Nat} {m:Mem} {Q:Value→Mem→Prop} (h:G_slices_Equal_sl_model_Back u t n v r w m Q):CallV cx n_slices_Equal_sl_model_Back [.slice u n v,.slice t r w] m Q:=
 CallV.of (fn:=Tryz.f65) (LS:=[]) (ann:=[none,none,none,none,none,none,some ⟨[0,1,12],[(13,.int .i64)],[],[],[],0⟩]) ovFr ovNi (by kernel_rfl) (by kernel_rfl) (Eq.mp (by kernel_rfl) h)
def G_model_Same (o D v x:Int) (E l w p B t:Option Addr) (z k y C r s u n G q A F:Nat) (m:Mem) (Q:Value→Mem→Prop):Prop:=
 splitB (eqI o v) (splitB (eqI D x) (CallV cx n_slices_EqualFunc_sl_model_Serv [.slice E z k,.slice p u n,.func (.func n_model_sameServ) #[] #[]] (bump m 2) fun i b=>∃ a,i=(.bool a)∧splitB a (CallV cx n_slices_EqualFunc_sl_model_Lock [.slice l y C,.slice B G q,.func (.func n_model_sameLock) #[] #[]] b fun g d=>∃ e,g=(.bool e)∧splitB e (CallV cx n_slices_Equal_sl_model_Back [.slice w r s,.slice t A F] d fun f j=>∃ c,f=(.bool c)∧Q (.bool c) j) (Q (.bool false) d)) (Q (.bool false) b)) (Q (.bool false) (bump m 2))) (Q (.bool false) (bump m 2))
theorem G_model_Same_ok {o D v x:Int} {E l w p B t:Option Addr} {z k y C r s u n G q A F:Nat} {m:Mem} {Q:Value→Mem→Prop} (h:G_model_Same o D v x E l w p B t z k y C r s u n G q A F m Q):CallV cx n_model_Same [.agg #[.int .i64 o,.int .i64 D,.slice E z k,.slice l y C,.slice w r s],.agg #[.int .i64 v,.int .i64 x,.slice p u n,.slice B G q,.slice t A F]] m Q:=
 CallV.of (fn:=Tryz.f29) (LS:=[2,3]) (ann:=[]) ovFr ovNi (by kernel_rfl) (by kernel_rfl) (Eq.mp (by kernel_rfl) h)
end
end Go.Proofs.YtiehbnmpaeedpaaGreat.vc
