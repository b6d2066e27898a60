import Derived.Test.YtiehbnmpaeedpaaGreatQB37
namespace Go.Proofs.YtiehbnmpaeedpaaGreat.vc
open Go Go.AX
set_option linter.unusedVariables false
set_option linter.unusedSimpArgs false
set_option linter.unusedSectionVars false
def AskOk (σ : pm.St):Prop:=∀ p∈pm.asks σ,1≤p.2∧p.2≤(σ.sems.length:Int)
theorem ask_at {σ : pm.St} {p:Nat×Int} (h:p∈pm.asks σ):∃ x,σ.servs[p.1]? = some x:=by
 rw [asks_eq] at h
 obtain ⟨id,_,h2⟩:=List.mem_filterMap.1 h
 unfold askOf at h2
 split at h2
 ·cases h2
 ·rename_i v hv
  split at h2
  ·cases h2
  ·cases hc:((pm.jStep _).2 && (ltI 0 (pm.jStep _).1.1 && eqI v.sec 0)) with
   | true=>rw [hc] at h2; cases h2; exact ⟨v,hv⟩
   | false=>rw [hc] at h2; cases h2
section
variable {wj wq:Nat→Kd} {m0 m:Mem} {lam:Nat→Lb} {Q:Value→Mem→Prop} {M now:Int} {a1 a2 a3:Option Addr} {n1 c1 n2 c2 n3 c3:Nat} {ss:List SV} {js:Nat→List JV} {ls:List LV} {qs:Nat→List Int} {σ : pm.St}
theorem refuse_ok (hO:Ow TT wj wq m0 m lam a1 n1 c1 a2 n2 c2 a3 n3 c3 ss js ls qs σ) (eM:M = σ.m) (en:now = σ.now) (hz:Small σ) (hM:1≤M) (hM2:M≤64) (hr:Rise σ.servs) (hb:Busy σ) (ha:AskOk σ)
  (h0:∀ m',pm.refuse σ = none→Keep m m'→Q (.tuple #[.slice none 0 0,.bool false]) m')
  (h1:∀ m' b v e ss' js' σ',pm.refuse σ = some (σ',e)→Ow TT wj wq m0 m' lam a1 n1 c1 a2 n2 c2 a3 n3 c3 ss' js' ls qs σ'→(∃ S,Fr m m' S∧∀ b∈S,lam b = .sv)→m.nx≤b→b < m'.nx→Row m' b (encEv e) v false→Q (.tuple #[.slice (some ⟨b,0,none⟩) 1 1,.bool true]) m') :
  CallV cx n_model_State_refuse [.agg #[.int .i64 M,.int .i64 now,.slice a1 n1 c1,.slice a2 n2 c2,.slice a3 n3 c3]] m Q:=by
 apply G_model_State_refuse_ok; unfold G_model_State_refuse
 have hw:=hO.keep.wf
 have k0:Keep m (bump m 1):=(Keep.refl hw).bump
 have hz1:=hz.servs
 have hz2:=hz.sems
 have hz3:=hz.backs
 have l1:=hO.s1d
 have l2:=hO.s2d
 have l3:=hO.s3n
 have hRd:=(hO.then k0).reads (cx:=cx) eM en sBack
 refine asks_ok k0.wf hRd (by omega) (by omega) hM (by omega) hr hb fun m1 ap cp aq cq k1 hP hQ np nq=>⟨_,_,_,_,_,_,rfl,?_⟩
 have hP':=hP
 have k01:=k0.trans k1
 have hlen:(pm.asks σ).length≤1000000:=by
  rw [asks_eq]
  refine Nat.le_trans (List.length_filterMap_le _ _) ?_
  have:=runners_len σ (by rw [← eM]; exact hM)
  rw [← eM] at this
  omega
 refine forN (show (pm.asks σ).length≤4611686018427387904 by omega) (fun k m2=>Keep m1 m2∧pm.refuseIn σ (pm.asks σ)=pm.refuseIn σ ((pm.asks σ).drop k)) ⟨Keep.refl k1.wf,rfl⟩ ?_
 rintro k m2 hk ⟨k2,hrf⟩ I w hI
 refine split_lt (fun hlt=>?_) (fun hge=>?_)
 ·obtain ⟨p,hp⟩:∃ p,(pm.asks σ)[k]? = some p:=⟨_,List.getElem?_eq_getElem hlt⟩
  have hmem:=List.mem_of_getElem? hp
  obtain ⟨x,hx⟩:=ask_at hmem
  obtain ⟨hq1,hq2⟩:=ha p hmem
  obtain ⟨i,q⟩:=p
  simp only at hx hq1 hq2
  obtain ⟨j,rfl⟩:∃ j:Nat,q=(j:Int)+1:=⟨(q - 1).toNat,by omega⟩
  have hjl:j < σ.sems.length:=by omega
  obtain ⟨l,hl⟩:∃ l,σ.sems[j]? = some l:=⟨_,List.getElem?_eq_getElem hjl⟩
  have hi:=(List.getElem?_eq_some_iff.1 hx).1
  obtain ⟨v,hv⟩:∃ v,ss[i]? = some v:=⟨_,List.getElem?_eq_getElem (by rw [hO.s1n]; omega)⟩
  obtain ⟨u,hu⟩:∃ u,ls[j]? = some u:=⟨_,List.getElem?_eq_getElem (by rw [hO.s2n]; omega)⟩
  have hdrop:(pm.asks σ).drop k=(i,(j:Int)+1) :: (pm.asks σ).drop (k+1):=by
   have:=List.drop_eq_getElem_cons hlt
   rw [this]
   congr 1
   exact Option.some.inj ((List.getElem?_eq_getElem hlt).symm.trans hp)
  have ej:subI .i64 ((j:Int)+1) 1=(j:Int):=by rw [subI_64 (by omega) (by omega)]; omega
  have hp1:((pm.asks σ).map fun x=>(x.1:Int))[k]? = some (i:Int):=by rw [List.getElem?_map,hp]; rfl
  have hp2:((pm.asks σ).map (·.2))[k]? = some ((j:Int)+1):=by rw [List.getElem?_map,hp]; rfl
  have k3:Keep m2 (bump m2 27):=(Keep.refl k2.wf).bump
  have kA:=(k01.trans k2).trans k3
  have hO3:=hO.then kA
  obtain ⟨b1,o1,rfl,hlb1,hc1⟩:=hO3.atS hv
  obtain ⟨b2,o2,rfl,hlb2,hc2⟩:=hO3.atL hu
  refine hP.open hp1 fun b o hc=>?_
  refine ⟨_,(hc.keep k1.wf k2) 0 _ rfl,⟨⟨by omega,by omega⟩,?_⟩⟩
  rw [vPtr_some]
  refine hQ.open hp2 fun bq oq hcq=>?_
  refine ⟨_,(hcq.keep k1.wf (k2.trans k3)) 0 _ rfl,?_⟩
  rw [ej]
  refine ⟨⟨by omega,by omega⟩,?_⟩
  rw [vPtr_some]
  obtain ⟨dv,dj⟩:=hO.ds i v x hv hx
  obtain ⟨dl,dq⟩:=hO.dl j u l hu hl
  refine ⟨_,hc2 0 _ rfl,_,hc1 3 _ rfl,_,hc1 4 _ rfl,?_⟩
  refine gEnough_ok k3.wf fun m3 k4=>⟨_,rfl,?_⟩
  have hO4:=hO3.then k4
  obtain ⟨b1',o1',e1,_,hc1'⟩:=hO4.atS hv
  cases e1
  rw [dl.most,dv.s,eM,en]
  have step:pm.refuseIn σ ((pm.asks σ).drop k)=bif pm.gEnough σ.m l.most x.s.bud (subI .i64 x.s.due σ.now) then pm.refuseIn σ ((pm.asks σ).drop (k+1)) else some ({ σ with servs:=σ.servs.set i { x with s:=(pm.cWait x.s).1 } },pm.event σ 8 x.id ((j:Int)+1)):=by
   rw [hdrop,pm.refuseIn]
   simp only [hx,show ((j:Int)+1 - 1).toNat=j by omega,hl]
  refine split_nb (fun hg=>?_) (fun hg=>?_)
  ·refine ⟨_,hc1' 1 _ rfl,_,hc1' 2 _ rfl,_,hc1' 3 _ rfl,_,hc1' 4 _ rfl,_,hc1' 5 _ rfl,?_⟩
   refine cWait_ok k4.wf fun m4 k5=>⟨_,_,_,_,_,_,rfl,?_⟩
   have hO5:=hO4.then k5
   have e1:(⟨v.s.q,v.s.p,v.s.bud,v.s.due,v.s.mode⟩:pm.Srv)=x.s:=dv.s
   rw [e1]
   obtain ⟨g1,g2⟩:=hO5.setS (κ:=wj i) (js':=js i) (x':={ x with s:=(pm.cWait x.s).1 }) (v':={ v with s:=(pm.cWait x.s).1 }) (k:=1) (vs:=[.int .i64 (pm.cWait x.s).1.q,.int .i64 (pm.cWait x.s).1.p,.int .i64 (pm.cWait x.s).1.bud,.int .i64 (pm.cWait x.s).1.due,.int .i64 (pm.cWait x.s).1.mode]) hv rfl (by simp) rfl (hO5.jb i v hv) (by
    obtain ⟨q1,q2⟩:=hO5.ds i v x hv hx
    exact ⟨⟨q1.id,rfl,q1.sec,q1.held,q1.num,q1.ran⟩,q2⟩)
   refine ⟨g1,?_⟩
   rw [mBind_iff]
   have hupj:upF wj i (wj i)=wj:=by funext z; unfold upF; split <;> simp_all
   have hupq:upF js i (js i)=js:=by funext z; unfold upF; split <;> simp_all
   rw [hupj,hupq] at g2
   have fW:Fr m4 (wr m4 b1 (o1+Int.toNat (i:Int)*11+1) [.int .i64 (pm.cWait x.s).1.q,.int .i64 (pm.cWait x.s).1.p,.int .i64 (pm.cWait x.s).1.bud,.int .i64 (pm.cWait x.s).1.due,.int .i64 (pm.cWait x.s).1.mode]) [b1]:=(Fr.refl m4 _).wr (.inl (by simp))
   generalize wr m4 b1 (o1+Int.toNat (i:Int)*11+1) [.int .i64 (pm.cWait x.s).1.q,.int .i64 (pm.cWait x.s).1.p,.int .i64 (pm.cWait x.s).1.bud,.int .i64 (pm.cWait x.s).1.due,.int .i64 (pm.cWait x.s).1.mode]=m5 at g2 fW
   have k6:Keep m5 (bump m5 13):=(Keep.refl g2.keep.wf).bump
   have hO6:=g2.then k6
   have hsv:(ss.set i { v with s:=(pm.cWait x.s).1 })[i]? = some { v with s:=(pm.cWait x.s).1 }:=by
    rw [List.getElem?_set]; simp [(List.getElem?_eq_some_iff.1 hv).1]
   obtain ⟨b1',o1',e1',_,hc6⟩:=hO6.atS hsv
   cases e1'
   have hltb:b1 < m.nx:=hO.lab b1 (by rw [hlb1]; simp)
   have k14:Keep m1 m4:=(k2.trans k3).trans (k4.trans k5)
   have hQ5:Arr encI 1 (bump m5 13) aq (pm.asks σ).length ((pm.asks σ).map (·.2)):=((hQ.keep k1.wf k14).fr k14.wf fW (fun b hb hs=>by
    have h1:=nq b hb
    have h2:(bump m 1).nx=m.nx+1:=rfl
    rw [List.mem_singleton.1 hs] at h1
    omega)).keep g2.keep.wf k6
   refine ⟨_,hc6 0 _ rfl,?_⟩
   refine hQ5.open hp2 fun bq' oq' hcq'=>⟨_,hcq' 0 _ rfl,?_⟩
   refine event_ok k6.wf fun m6 k7=>⟨_,_,_,_,rfl,?_⟩
   rw [mBind_iff]
   have hO7:=hO6.then k7
   have x7:=k7.nx
   have x6:(bump m5 13).nx=m5.nx+13:=rfl
   have hno:lam (m5.nx+10) = .no:=by
    cases hl:lam (m5.nx+10) with
    | no=>rfl
    | _=>have:=g2.lab (m5.nx+10) (by rw [hl]; simp); omega
   have fr0:Fr m m6 [b1]:=((((k01.trans k14).fr [b1]).trans fW (fun b hb=>.inl hb)).trans (k6.fr []) (fun b hb=>by cases hb)).trans (k7.fr []) (fun b hb=>by cases hb)
   have hmn:m.nx≤m5.nx+10:=by
    have:=(k01.trans k14).nx
    have:=fW.nx
    omega
   refine h1 _ (m5.nx+10) t_model_Event _ _ _ _ (by unfold pm.refuse; rw [hrf,step,hg]; rfl) (hO7.fr (S:=[m5.nx+10]) (k7.wf.addO (by omega)) ((Fr.refl m6 _).addO (.inl (by simp))) (fun b hb=>by rw [List.mem_singleton.1 hb]; exact hno)) ⟨[b1],fr0.addO (.inr hmn),fun b hb=>by rw [List.mem_singleton.1 hb]; exact hlb1⟩ hmn (by simp; omega) ?_
   refine Row.of_row ?_
   rw [addO_get,if_pos rfl,← dv.id]
   rfl
  ·refine hI _ hlt ⟨k2.trans (k3.trans k4),?_⟩
   rw [hrf,step,hg]; rfl
 ·refine h0 m2 ?_ (k01.trans k2)
  unfold pm.refuse
  rw [hrf,List.drop_eq_nil_of_le (by omega)]; rfl
end
end Go.Proofs.YtiehbnmpaeedpaaGreat.vc
namespace Go.Proofs.YtiehbnmpaeedpaaGreat.vc
open Go Go.AX
set_option linter.unusedVariables false
set_option linter.unusedSimpArgs false
set_option linter.unusedSectionVars false
structure EvS (m mm:Mem) (a:Option Addr) (n c:Nat) (E:List pm.Ev):Prop where
 grow:Grow mm a n c 4 t_model_Event (E.flatMap encEv)
 new:∀ b∈blk a,m.nx≤b
theorem EvS.nil (m mm:Mem):EvS m mm none 0 0 []:=⟨Grow.nil _ _ _,fun b hb=>by cases hb⟩
theorem EvS.arr {m mm:Mem} {a:Option Addr} {n c:Nat} {E:List pm.Ev} (h:EvS m mm a n c E):Arr encEv 4 mm a n E:=Arr.of_grow encEv_len (by omega) h.grow
theorem EvS.fr {m mm m2:Mem} {S:List Nat} {a:Option Addr} {n c:Nat} {E:List pm.Ev} (h:EvS m mm a n c E) (hw:Wf mm) (f:Fr mm m2 S) (hS:∀ b∈blk a,b∉S):EvS m m2 a n c E:=⟨h.grow.fr f hw hS,h.new⟩
theorem EvS.then {m mm m2:Mem} {a:Option Addr} {n c:Nat} {E:List pm.Ev} (h:EvS m mm a n c E) (hw:Wf mm) (k:Keep mm m2):EvS m m2 a n c E:=h.fr hw (k.fr []) (fun _ _ h=>by cases h)
section
variable {wj wq:Nat→Kd} {m0 m mm:Mem} {lam:Nat→Lb} {M now:Int} {a a1 a2 a3:Option Addr} {n c n1 c1 n2 c2 n3 c3:Nat} {ss:List SV} {js:Nat→List JV} {ls:List LV} {qs:Nat→List Int} {σ : pm.St} {E:List pm.Ev}
theorem free_lab {lam:Nat→Lb} {m:Mem} (hm:∀ b,lam b≠.no→b < m.nx) {b:Nat} (hb:m.nx≤b):lam b = .no:=by
 cases hl:lam b with
 | no=>rfl
 | _=>have:=hm b (by rw [hl]; simp); omega
theorem tell_ok {k d:Nat} {kind who num:Int} {K:Option Addr→Nat→Nat→Mem→Prop} (hO:Ow TT wj wq m0 mm lam a1 n1 c1 a2 n2 c2 a3 n3 c3 ss js ls qs σ) (hm:∀ b,lam b≠.no→b < m.nx) (hmm:m.nx≤mm.nx) (hE:EvS m mm a n c E) (hn:n≤100000) (hd:d < k)
  (hK:∀ m2,Ow TT wj wq m0 m2 lam a1 n1 c1 a2 n2 c2 a3 n3 c3 ss js ls qs σ→EvS m m2 (some ⟨m2.nx - 1,0,none⟩) (n+1) (n+1) (E ++ [⟨now,kind,who,num⟩])→Fr mm m2 (blk a)→mm.nx < m2.nx→K (some ⟨m2.nx - 1,0,none⟩) (n+1) (n+1) m2) :
  CallV cx n_model_State_event [.agg #[.int .i64 M,.int .i64 now,.slice a1 n1 c1,.slice a2 n2 c2,.slice a3 n3 c3],.int .i64 kind,.int .i64 who,.int .i64 num] (bump mm k) fun r m9=>
   ∃ (x1:Int),(∃ (x2:Int),(∃ (x3:Int),(∃ (x4:Int),r=(.agg #[.int .i64 x1,.int .i64 x2,.int .i64 x3,.int .i64 x4])∧(∃ (a84:Option Addr) (n84 c84:Nat) (m10:Mem),appendA cx (addO m9 (mm.nx+d) (row [.int .i64 x1,.int .i64 x2,.int .i64 x3,.int .i64 x4] t_model_Event false)) [t_sl_model_Event,t_sl_model_Event] [.slice a n c,.slice (some ⟨mm.nx+d,0,none⟩) 1 1]=some (.slice a84 n84 c84,m10)∧(mBind m10 fun m11=>K a84 n84 c84 m11))))):=by
 have hw:=hO.keep.wf
 have k10:Keep mm (bump mm k):=(Keep.refl hw).bump
 have x10:(bump mm k).nx=mm.nx+k:=rfl
 refine event_ok k10.wf fun m9 k11=>⟨_,_,_,_,rfl,?_⟩
 have x11:=k11.nx
 have k12:Keep mm (addO m9 (mm.nx+d) (row [.int .i64 now,.int .i64 kind,.int .i64 who,.int .i64 num] t_model_Event false)):=(k10.trans k11).addO (by omega) (by omega)
 have hR:Row (addO m9 (mm.nx+d) (row [.int .i64 now,.int .i64 kind,.int .i64 who,.int .i64 num] t_model_Event false)) (mm.nx+d) [.int .i64 now,.int .i64 kind,.int .i64 who,.int .i64 num] t_model_Event false:=Row.of_row (by rw [addO_get,if_pos rfl])
 generalize addO m9 (mm.nx+d) (row [.int .i64 now,.int .i64 kind,.int .i64 who,.int .i64 num] t_model_Event false)=m10 at k12 hR
 have hO10:=hO.then k12
 have hE10:=hE.then hw k12
 obtain ⟨m11,q1,q2,q3,q4,q5⟩:=grow_push (cx:=cx) (t:=t_sl_model_Event) (by kernel_rfl) k12.wf hE10.grow (hR.first1 rfl) rfl rfl (by omega)
 refine ⟨_,_,_,_,q1,?_⟩
 rw [mBind_iff]
 have hx:m10.nx=m11.nx - 1:=by omega
 have hgl:=hE10.grow.1
 have x12:=k12.nx
 rw [hx] at q5 ⊢
 refine hK m11 (hO10.fr q2 q3 fun b hb=>free_lab hm (hE.new b hb)) ⟨⟨?_,.inr ⟨_,rfl,rfl,?_,?_⟩⟩,fun b hb=>?_⟩ ((k12.fr (blk a)).trans q3 (fun b hb=>.inl hb)) (by omega)
 ·rw [List.flatMap_append,List.length_append,hgl]; simp [encEv_len,Nat.succ_mul]
 ·have:=q3.fl; have:=k12.fl; have:=hw.1; omega
 ·rw [List.flatMap_append]; exact q5
 ·simp [blk] at hb; omega
end
end Go.Proofs.YtiehbnmpaeedpaaGreat.vc
namespace Go.Proofs.YtiehbnmpaeedpaaGreat.vc
open Go Go.AX
set_option linter.unusedVariables false
set_option linter.unusedSimpArgs false
set_option linter.unusedSectionVars false
theorem upF_id {α : Type} (f:Nat→α) (i:Nat):upF f i (f i)=f:=by
 funext z; unfold upF; split
 ·rename_i e; rw [e]
 ·rfl
theorem set_get {α : Type} {l:List α} {i:Nat} {x y:α} (h:l[i]? = some x):(l.set i y)[i]? = some y:=by
 rw [List.getElem?_set]; simp [(List.getElem?_eq_some_iff.1 h).1]
def OwnK (w w':Nat→Kd):Prop:=∀ k,(∃ b,w k = .own b)→∃ b,w' k = .own b
theorem OwnK.refl (w:Nat→Kd):OwnK w w:=fun _ h=>h
theorem OwnK.up (w:Nat→Kd) (i:Nat) (b:Bool):OwnK w (upF w i (.own b)):=fun k h=>by
 by_cases e:k=i
 ·subst e; exact ⟨b,upF_self ..⟩
 ·rw [upF_ne e]; exact h
section
variable {wj wq:Nat→Kd} {m0 m:Mem} {lam:Nat→Lb} {Q:Value→Mem→Prop} {M now:Int} {a1 a2 a3:Option Addr} {n1 c1 n2 c2 n3 c3:Nat} {ss:List SV} {js:Nat→List JV} {ls:List LV} {qs:Nat→List Int} {σ : pm.St}
theorem tSlI:cx.un.get t_sl_int=some (.slice t_int):=by kernel_rfl
theorem sInt:sizeT cx t_int=some 1:=by kernel_rfl
theorem free_ok {j:Nat} {thrown:Bool} {l:pm.Lock} {w:Bool} (hO:Ow TT wj wq m0 m lam a1 n1 c1 a2 n2 c2 a3 n3 c3 ss js ls qs σ) (eM:M = σ.m) (en:now = σ.now) (hn1:n1≤100000) (hr:Rise σ.servs) (hl:σ.sems[j]? = some l) (hn2:n2≤100000) (hκ : wq j = .own w)
  (hq:∀ x r,l.queue=x :: r→∃ v,σ.servs[pm.at_ σ.servs x]? = some v)
  (h:∀ m' a n c ss' ls' qs' wq',Ow TT wj wq' m0 m' lam a1 n1 c1 a2 n2 c2 a3 n3 c3 ss' js ls' qs' (pm.free σ ((j:Int)+1) thrown).1→OwnK wq wq'→(∃ S,Fr m m' S∧∀ b∈S,lam b = .sv∨lam b = .lk) →
   EvS m m' a n c (pm.free σ ((j:Int)+1) thrown).2→n≤2→Q (.slice a n c) m') :
  CallV cx n_model_State_free [.agg #[.int .i64 M,.int .i64 now,.slice a1 n1 c1,.slice a2 n2 c2,.slice a3 n3 c3],.int .i64 ((j:Int)+1),.bool thrown] m Q:=by
 apply G_model_State_free_ok; unfold G_model_State_free
 have hw:=hO.keep.wf
 have hjl:=(List.getElem?_eq_some_iff.1 hl).1
 have l2:=hO.s2d
 have ej:subI .i64 ((j:Int)+1) 1=(j:Int):=by rw [subI_64 (by omega) (by omega)]; omega
 have ej2:((j:Int)+1 - 1).toNat=j:=by omega
 rw [ej]
 obtain ⟨u,hu⟩:∃ u,ls[j]? = some u:=⟨_,List.getElem?_eq_getElem (by rw [hO.s2n]; omega)⟩
 have k0:Keep m (bump m 1):=(Keep.refl hw).bump
 have hO0:=hO.then k0
 obtain ⟨b2,o2,rfl,hlb2,_⟩:=hO0.atL hu
 refine ⟨⟨by omega,by omega⟩,?_⟩
 rw [vPtr_some]
 obtain ⟨dl0,dq0⟩:=hO0.dl j u l hu hl
 obtain ⟨g1,hO1⟩:=hO0.setL (κ:=wq j) (qs':=qs j) (x':={ l with holder:=0 }) (v':={ u with holder:=0 }) (k:=1) (vs:=[.int .i64 0]) hu rfl (by simp) rfl (hO0.qu j u hu) ⟨⟨dl0.most,rfl,dl0.dead⟩,dq0⟩
 rw [upF_id,upF_id] at hO1
 refine ⟨g1,?_⟩
 rw [mBind_iff]
 have f1:Fr m (wr (bump m 1) b2 (o2+Int.toNat (j:Int)*4+1) [.int .i64 0]) [b2]:=(k0.fr [b2]).wr (.inl (by simp))
 generalize wr (bump m 1) b2 (o2+Int.toNat (j:Int)*4+1) [.int .i64 0]=m1 at hO1 f1
 have hu1:=set_get (y:={ u with holder:=0 }) hu
 have hl1:=set_get (y:={ l with holder:=0 }) hl
 obtain ⟨b2',o2',e,_,hc1⟩:=hO1.atL hu1
 cases e
 refine ⟨u.qa,u.qn,u.qc,hc1 2 _ rfl,?_⟩
 have hQ1:=hO1.qu j _ hu1
 have hql:(qs j).length=u.qn:=(hQ1.arr encI_len).1
 refine split_eq (fun he=>?_) (fun he=>?_)
 ·
  have hq0:l.queue=[]:=by rw [← dq0]; exact List.length_eq_zero_iff.1 (by simp [lenI] at he; omega)
  obtain ⟨g2,hO2⟩:=hO1.setL (κ:=wq j) (qs':=qs j) (x':={ l with holder:=0,dead:=thrown }) (v':={ u with holder:=0,dead:=thrown }) (k:=3) (vs:=[.bool thrown]) hu1 rfl (by simp) rfl hQ1 ⟨⟨dl0.most,rfl,rfl⟩,dq0⟩
  rw [upF_id,upF_id] at hO2
  refine ⟨g2,?_⟩
  rw [mBind_iff]
  have ef:pm.free σ ((j:Int)+1) thrown=({ σ with sems:=σ.sems.set j { l with holder:=0,dead:=thrown } },[]):=by
   unfold pm.free
   rw [ej2]
   simp only [hl,hq0]
  refine h _ none 0 0 _ _ _ _ (by rw [ef]; simpa [List.set_set] using hO2) (OwnK.refl _) ⟨[b2],f1.wr (.inl (by simp)),fun b hb=>.inr (by rw [List.mem_singleton.1 hb]; exact hlb2)⟩ (by rw [ef]; exact EvS.nil _ _) (by omega)
 ·
  obtain ⟨x,r,hxr⟩:∃ x r,l.queue=x :: r:=by
   cases hq0:l.queue with
   | nil=>rw [hq0] at dq0; rw [dq0] at hql; simp [lenI] at he; simp at hql; omega
   | cons x r=>exact ⟨x,r,rfl⟩
  rw [hxr] at dq0
  refine ⟨u.qa,u.qn,u.qc,hc1 2 _ rfl,?_⟩
  have hA1:=hQ1.arr encI_len
  refine hA1.open (k:=0) (x:=x) (by rw [dq0]; rfl) fun b o hc=>⟨x,hc 0 _ rfl,?_⟩
  obtain ⟨g2,hO2⟩:=hO1.setL (κ:=wq j) (qs':=qs j) (x':={ l with holder:=x }) (v':={ u with holder:=x }) (k:=1) (vs:=[.int .i64 x]) hu1 rfl (by simp) rfl hQ1 ⟨⟨dl0.most,rfl,dl0.dead⟩,by rw [dq0,← hxr]⟩
  rw [upF_id,upF_id] at hO2
  refine ⟨g2,?_⟩
  rw [mBind_iff]
  have f2:=f1.wr (b:=b2) (o:=o2+Int.toNat (j:Int)*4+1) (l:=[.int .i64 x]) (.inl (by simp))
  generalize wr m1 b2 (o2+Int.toNat (j:Int)*4+1) [.int .i64 x]=m3 at hO2 f2
  have hu2:=set_get (y:={ u with holder:=x }) hu1
  have hl2:=set_get (y:={ l with holder:=x }) hl1
  obtain ⟨b2',o2',e,_,hc2⟩:=hO2.atL hu2
  cases e
  refine ⟨u.qa,u.qn,u.qc,hc2 2 _ rfl,?_⟩
  have hH:=hO2.qu j _ hu2
  rw [hκ] at hH
  obtain ⟨p1,p2,p3⟩:=hH
  rw [dq0] at p1 p3
  obtain ⟨a',t1,t2,t3⟩:=p1.tail (cx:=cx) encI_len p3 tSlI sInt
  refine ⟨_,_,_,t1,?_⟩
  obtain ⟨g3,hO3⟩:=hO2.setL (κ:=.own false) (qs':=r) (x':={ l with holder:=x,queue:=r }) (v':={ u with holder:=x,qa:=a',qn:=u.qn - 1,qc:=u.qc - 1 }) (k:=2) (vs:=[.slice a' (u.qn - 1) (u.qc - 1)]) hu2 rfl (by simp) rfl
   ⟨t2,by rw [t3]; exact p2,by have:(x :: r).length=u.qn:=p3; simp at this; simp; omega⟩ ⟨⟨dl0.most,rfl,dl0.dead⟩,rfl⟩
  refine ⟨g3,?_⟩
  rw [mBind_iff]
  have f3:=f2.wr (b:=b2) (o:=o2+Int.toNat (j:Int)*4+2) (l:=[.slice a' (u.qn - 1) (u.qc - 1)]) (.inl (by simp))
  generalize wr m3 b2 (o2+Int.toNat (j:Int)*4+2) [.slice a' (u.qn - 1) (u.qc - 1)]=m4 at hO3 f3
  have hu3:=set_get (y:={ u with holder:=x,qa:=a',qn:=u.qn - 1,qc:=u.qc - 1 }) hu2
  have k4:Keep m4 (bump m4 11):=(Keep.refl hO3.keep.wf).bump
  have hO4:=hO3.then k4
  obtain ⟨b2',o2',e,_,hc4⟩:=hO4.atL hu3
  cases e
  refine ⟨x,hc4 1 _ rfl,?_⟩
  refine at_ok k4.wf (hO4.reads (cx:=cx) eM en sBack) hr hn1 fun m5 k5=>⟨_,_,rfl,?_⟩
  obtain ⟨v,hv⟩:=hq x r hxr
  generalize hp:pm.at_ σ.servs x=p at hv
  have hpl:=(List.getElem?_eq_some_iff.1 hv).1
  have l1:=hO.s1d
  obtain ⟨sv,hsv⟩:∃ sv,ss[p]? = some sv:=⟨_,List.getElem?_eq_getElem (by rw [hO.s1n]; omega)⟩
  have k6:Keep m5 (bump m5 12):=(Keep.refl k5.wf).bump
  have hO6:=hO4.then (k5.trans k6)
  obtain ⟨b1,o1,rfl,hlb1,_⟩:=hO6.atS hsv
  refine ⟨⟨by omega,by omega⟩,?_⟩
  rw [vPtr_some]
  have f6:Fr m (bump m5 12) [b2]:=(f3.trans ((k4.trans (k5.trans k6)).fr []) (fun b hb=>by cases hb))
  generalize bump m5 12=m6 at hO6 f6
  obtain ⟨ds0,dj0⟩:=hO6.ds p sv v hsv hv
  obtain ⟨g4,hO7⟩:=hO6.setS (κ:=wj p) (js':=js p) (x':={ v with sec:=2 }) (v':={ sv with sec:=2 }) (k:=7) (vs:=[.int .i64 2]) hsv rfl (by simp) rfl (hO6.jb p sv hsv) ⟨⟨ds0.id,ds0.s,rfl,ds0.held,ds0.num,ds0.ran⟩,dj0⟩
  rw [upF_id,upF_id] at hO7
  refine ⟨⟨g4.1,?_⟩,g4,?_⟩
  ·obtain ⟨_,cc,kk,ee,xx,hg,_⟩:=g4
   exact ⟨cc,kk,ee,xx,hg,Nat.zero_le _⟩
  rw [mBind_iff]
  have f7:Fr m (wr m6 b1 (o1+Int.toNat (p:Int)*11+7) [.int .i64 2]) [b1,b2]:=(f6.mono (S':=[b1,b2]) (fun b hb=>.inl (by simp at hb; subst hb; simp))).wr (.inl (by simp))
  generalize wr m6 b1 (o1+Int.toNat (p:Int)*11+7) [.int .i64 2]=m7 at hO7 f7
  have hsv7:=set_get (y:={ sv with sec:=2 }) hsv
  have hv7:=set_get (y:={ v with sec:=2 }) hv
  refine ⟨⟨by omega,by omega⟩,?_⟩
  rw [vPtr_some]
  have hJ7:=hO7.jb p _ hsv7
  obtain ⟨g5,hO8⟩:=hO7.setS (κ:=wj p) (js':=js p) (x':={ v with sec:=2,held:=0 }) (v':={ sv with sec:=2,held:=0 }) (k:=8) (vs:=[.int .i64 0]) hsv7 rfl (by simp) rfl hJ7 ⟨⟨ds0.id,ds0.s,rfl,rfl,ds0.num,ds0.ran⟩,(hO7.ds p _ _ hsv7 hv7).2⟩
  rw [upF_id,upF_id] at hO8
  refine ⟨g5,?_⟩
  rw [mBind_iff]
  have f8:=f7.wr (b:=b1) (o:=o1+Int.toNat (p:Int)*11+8) (l:=[.int .i64 0]) (.inl (by simp))
  generalize wr m7 b1 (o1+Int.toNat (p:Int)*11+8) [.int .i64 0]=m8 at hO8 f8
  have ef:pm.free σ ((j:Int)+1) thrown=({ σ with sems:=σ.sems.set j { l with holder:=x,queue:=r },servs:=σ.servs.set p { v with sec:=2,held:=0 } },(bif thrown then [pm.event σ 7 x 0] else []) ++ [pm.event σ 6 x ((j:Int)+1)]):=by
   unfold pm.free
   rw [ej2]
   simp only [hl,hxr,hp,hv]
  have hO9:=hO8.cast (σ':=(pm.free σ ((j:Int)+1) thrown).1) (by rw [ef]; simp [List.set_set])
  have hev:(pm.free σ ((j:Int)+1) thrown).2=(bif thrown then [pm.event σ 7 x 0] else []) ++ [pm.event σ 6 x ((j:Int)+1)]:=by rw [ef]
  have hN8:m.nx≤m8.nx:=f8.nx
  generalize (pm.free σ ((j:Int)+1) thrown).1 = σ9 at hO9 h
  generalize (pm.free σ ((j:Int)+1) thrown).2=E9 at hev h
  refine joinK_of' (fun f:Option Addr→Nat→Nat→Mem→Prop=>∀ a n c mm,Acc m8 mm a n c 4 t_model_Event ((bif thrown then [pm.event σ 7 x 0] else []).flatMap encEv)→n≤1→f a n c mm) ?_ ?_
  ·intro a n c mm hacc hn
   have hO9':=hO9.then hacc.keep
   have k10:Keep mm (bump mm 11):=(Keep.refl hacc.keep.wf).bump
   obtain ⟨b2',o2',e,_,hc10⟩:=(hO9'.then k10).atL hu3
   cases e
   refine ⟨x,hc10 1 _ rfl,?_⟩
   refine tell_ok (m:=m) (E:=bif thrown then [pm.event σ 7 x 0] else []) hO9' hO.lab (Nat.le_trans hN8 hacc.keep.nx) ⟨hacc.grow,fun b hb=>Nat.le_trans hN8 (hacc.new b hb)⟩ (by omega) (by omega) fun m2 hOz hEz hfz hxz=>?_
   refine h m2 _ _ _ _ _ _ _ hOz (OwnK.up _ _ _) ⟨[b1,b2],(f8.trans (hacc.keep.fr []) (fun b hb=>by cases hb)).trans hfz (fun b hb=>.inr (Nat.le_trans hN8 (hacc.new b hb))),fun b hb=>?_⟩ (by rw [hev]; rw [en] at hEz; exact hEz) (by omega)
   simp at hb
   rcases hb with rfl | rfl
   ·exact .inl hlb1
   ·exact .inr hlb2
  ·intro J hJ
   refine split_b (fun ht=>?_) (fun ht=>?_)
   ·rw [ht,cond_true] at hJ
    have k10:Keep m8 (bump m8 10):=(Keep.refl hO9.keep.wf).bump
    obtain ⟨b2',o2',e,_,hc10⟩:=(hO9.then k10).atL hu3
    cases e
    refine ⟨x,hc10 1 _ rfl,?_⟩
    refine tell_ok (m:=m8) hO9 hO9.lab (Nat.le_refl _) (EvS.nil m8 m8) (by omega) (by omega) fun m2 hOz hEz hfz hxz=>?_
    refine hJ _ _ _ _ ⟨Keep.of_fr (Keep.refl hO9.keep.wf) hOz.keep.wf hfz (fun b hb=>by cases hb),?_,hEz.new⟩ (by omega)
    have:=hEz.grow
    rw [en] at this
    exact this
   ·rw [ht,cond_false] at hJ
    exact hJ _ _ _ _ (Acc.nil (Keep.refl hO9.keep.wf) _ _) (by omega)
end
end Go.Proofs.YtiehbnmpaeedpaaGreat.vc
namespace Go.Proofs.YtiehbnmpaeedpaaGreat.vc
open Go Go.AX
set_option linter.unusedVariables false
set_option linter.unusedSimpArgs false
set_option linter.unusedSectionVars false
section
variable {wj wq:Nat→Kd} {m0 m:Mem} {lam:Nat→Lb} {Q:Value→Mem→Prop} {M now:Int} {a1 a2 a3:Option Addr} {n1 c1 n2 c2 n3 c3:Nat} {ss:List SV} {js:Nat→List JV} {ls:List LV} {qs:Nat→List Int} {σ : pm.St}
theorem run_ok {i b o:Nat} {x:pm.Serv} {w:Bool} (hO:Ow TT wj wq m0 m lam a1 n1 c1 a2 n2 c2 a3 n3 c3 ss js ls qs σ) (hx:σ.servs[i]? = some x) (hab:a1=some ⟨b,o,none⟩) (hκ : wj i = .own w) (hj:eqI x.sec 1=false→x.jobs≠[])
  (h:∀ m' ss' js',Ow TT wj wq m0 m' lam a1 n1 c1 a2 n2 c2 a3 n3 c3 ss' js' ls qs { σ with servs:=σ.servs.set i (pm.run1 x) }→(∃ S,Fr m m' S∧∀ b∈S,lam b = .sv∨∃ k,lam b = .jb k)→Q (.tuple #[]) m') :
  CallV cx n_p_model_Serv_run [.pointer (some ⟨b,o+Int.toNat (i:Int)*11,none⟩)] m Q:=by
 apply G_p_model_Serv_run_ok; unfold G_p_model_Serv_run
 have hi:=(List.getElem?_eq_some_iff.1 hx).1
 have l1:=hO.s1d
 obtain ⟨v,hv⟩:∃ v,ss[i]? = some v:=⟨_,List.getElem?_eq_getElem (by rw [hO.s1n]; omega)⟩
 obtain ⟨b',o',e,hlb,hc⟩:=hO.atS hv
 rw [hab] at e; cases e
 obtain ⟨d0,dj⟩:=hO.ds i v x hv hx
 rw [vPtr_some]
 refine ⟨_,hc 1 _ rfl,_,hc 2 _ rfl,_,hc 3 _ rfl,_,hc 4 _ rfl,_,hc 5 _ rfl,?_⟩
 refine cUse_ok hO.keep.wf fun m1 k1=>⟨_,_,_,_,_,_,rfl,?_⟩
 have ev:(⟨v.s.q,v.s.p,v.s.bud,v.s.due,v.s.mode⟩:pm.Srv)=x.s:=d0.s
 rw [ev]
 generalize (pm.cUse x.s 1).2=unused
 have hO1:=hO.then k1
 rw [vPtr_some]
 obtain ⟨g1,hO2⟩:=hO1.setS (κ:=wj i) (js':=js i) (x':={ x with s:=(pm.cUse x.s 1).1 }) (v':={ v with s:=(pm.cUse x.s 1).1 }) (k:=1) (vs:=[.int .i64 (pm.cUse x.s 1).1.q,.int .i64 (pm.cUse x.s 1).1.p,.int .i64 (pm.cUse x.s 1).1.bud,.int .i64 (pm.cUse x.s 1).1.due,.int .i64 (pm.cUse x.s 1).1.mode]) hv hab (by simp) rfl (hO1.jb i v hv) ⟨⟨d0.id,rfl,d0.sec,d0.held,d0.num,d0.ran⟩,(hO1.ds i v x hv hx).2⟩
 rw [upF_id,upF_id] at hO2
 refine ⟨g1,?_⟩
 rw [mBind_iff]
 have f2:Fr m (wr m1 b (o+Int.toNat (i:Int)*11+1) [.int .i64 (pm.cUse x.s 1).1.q,.int .i64 (pm.cUse x.s 1).1.p,.int .i64 (pm.cUse x.s 1).1.bud,.int .i64 (pm.cUse x.s 1).1.due,.int .i64 (pm.cUse x.s 1).1.mode]) [b]:=(k1.fr [b]).wr (.inl (by simp))
 generalize wr m1 b (o+Int.toNat (i:Int)*11+1) [.int .i64 (pm.cUse x.s 1).1.q,.int .i64 (pm.cUse x.s 1).1.p,.int .i64 (pm.cUse x.s 1).1.bud,.int .i64 (pm.cUse x.s 1).1.due,.int .i64 (pm.cUse x.s 1).1.mode]=m2 at hO2 f2
 have hv2:=set_get (y:={ v with s:=(pm.cUse x.s 1).1 }) hv
 have hx2:=set_get (y:={ x with s:=(pm.cUse x.s 1).1 }) hx
 obtain ⟨b',o',e,_,hc2⟩:=hO2.atS hv2
 rw [hab] at e; cases e
 rw [vPtr_some]
 refine ⟨_,hc2 10 _ rfl,?_⟩
 rw [vPtr_some]
 have hJ2:=hO2.jb i _ hv2
 obtain ⟨g2,hO3⟩:=hO2.setS (κ:=wj i) (js':=js i) (x':={ x with s:=(pm.cUse x.s 1).1,ran:=addI .i64 x.ran 1 }) (v':={ v with s:=(pm.cUse x.s 1).1,ran:=addI .i64 v.ran 1 }) (k:=10) (vs:=[.int .i64 (addI .i64 v.ran 1)]) hv2 hab (by simp) rfl hJ2 ⟨⟨d0.id,rfl,d0.sec,d0.held,d0.num,by show addI .i64 v.ran 1=addI .i64 x.ran 1; rw [d0.ran]⟩,(hO2.ds i _ _ hv2 hx2).2⟩
 rw [upF_id,upF_id] at hO3
 refine ⟨g2,?_⟩
 rw [mBind_iff]
 have f3:=f2.wr (b:=b) (o:=o+Int.toNat (i:Int)*11+10) (l:=[.int .i64 (addI .i64 v.ran 1)]) (.inl (by simp))
 generalize wr m2 b (o+Int.toNat (i:Int)*11+10) [.int .i64 (addI .i64 v.ran 1)]=m3 at hO3 f3
 have hv3:=set_get (y:={ v with s:=(pm.cUse x.s 1).1,ran:=addI .i64 v.ran 1 }) hv2
 have hx3:=set_get (y:={ x with s:=(pm.cUse x.s 1).1,ran:=addI .i64 x.ran 1 }) hx2
 obtain ⟨b',o',e,_,hc3⟩:=hO3.atS hv3
 rw [hab] at e; cases e
 rw [vPtr_some]
 refine ⟨_,hc3 7 _ rfl,?_⟩
 have esec:v.sec=x.sec:=d0.sec
 rw [show ({ v with s:=(pm.cUse x.s 1).1,ran:=addI .i64 v.ran 1 }:SV).sec=x.sec from esec]
 refine split_b (fun hs=>?_) (fun hs=>?_)
 ·have er:pm.run1 x = { x with s:=(pm.cUse x.s 1).1,ran:=addI .i64 x.ran 1 }:=by
   unfold pm.run1; simp only [hs,cond_true]
  refine h m3 _ _ (hO3.cast ?_) ⟨[b],f3,fun b' hb'=>.inl (by rw [List.mem_singleton.1 hb']; exact hlb)⟩
  rw [er]; simp [List.set_set]
 ·obtain ⟨j,r,hxr⟩:∃ j r,x.jobs=j :: r:=by
   cases hjj:x.jobs with
   | nil=>exact absurd hjj (hj hs)
   | cons j r=>exact ⟨j,r,rfl⟩
  have k4:Keep m3 (bump m3 16):=(Keep.refl hO3.keep.wf).bump
  have hO4:=hO3.then k4
  obtain ⟨b',o',e,_,hc4⟩:=hO4.atS hv3
  rw [hab] at e; cases e
  have x4:m3.nx≤(bump m3 16).nx:=by simp
  generalize bump m3 16=m4 at k4 hO4 hc4 x4
  rw [vPtr_some]
  refine ⟨_,_,_,hc4 6 _ rfl,?_⟩
  rw [vPtr_some]
  refine ⟨_,_,_,hc4 6 _ rfl,?_⟩
  have hH:=hO4.jb i _ hv3
  have dj4:=(hO4.ds i _ _ hv3 hx3).2
  have hA:=hH.arr encJ_len
  obtain ⟨jv,hjv,hJ⟩:=dj4.get' (i:=0) (b:=j) (by show x.jobs[0]? = _; rw [hxr]; rfl)
  obtain ⟨bj,oj,hjab,hcj⟩:=hA.2 0 jv hjv
  have hjn:0 < v.jn:=by
   have h1:=hA.1
   have h2:=(List.getElem?_eq_some_iff.1 hjv).1
   have:(js i).length=v.jn:=h1
   omega
  have hjab':v.ja=some ⟨bj,oj,none⟩:=hjab
  refine ⟨⟨by omega,by show (0:Int) < ((v.jn:Nat):Int); omega⟩,?_⟩
  show vPtr v.ja _
  rw [hjab',vPtr_some]
  have hcj':∀ k u,(encJ jv)[k]? = some u→rd m4 bj (oj+Int.toNat ((0:Nat):Int)*4+k)=some u:=hcj
  refine ⟨_,hcj' 0 _ rfl,_,_,_,hcj' 1 _ rfl,_,hcj' 2 _ rfl,_,hcj' 3 _ rfl,?_⟩
  have hwf:Wf (setFl m4 m3.nx):=k4.wf.setFl x4
  have ej:(⟨jv.num,j.prog,jv.at_,jv.done⟩:pm.Job)=j:=by rw [hJ.num,hJ.at_,hJ.done]
  refine jRun_ok hwf (hJ.prog.hp rfl) fun m5 k5=>?_
  rw [ej]
  refine ⟨_,_,_,_,_,_,_,rfl,⟨⟨by omega,by show (0:Int) < ((v.jn:Nat):Int); omega⟩,?_⟩⟩
  rw [vPtr_some]
  have k5':Keep m4 (setFl m5 m4.fl):=Keep.unset k4.wf k5
  generalize setFl m5 m4.fl=m6 at k5'
  have hO6:=hO4.then k5'
  have hlj:lam bj = .jb i:=by
   have:=hO6.jb i _ hv3
   rw [hκ] at this
   exact this.2.1 bj (by rw [show ({ v with s:=(pm.cUse x.s 1).1,ran:=addI .i64 v.ran 1 }:SV).ja=v.ja from rfl,hjab']; simp [blk])
  obtain ⟨jv',hjv'⟩:∃ jv':JV,jv'=⟨(pm.jRun j 1).1.num,jv.pa,jv.pn,jv.pc,(pm.jRun j 1).1.at_,(pm.jRun j 1).1.done⟩:=⟨_,rfl⟩
  have ep:(pm.jRun j 1).1.prog=j.prog:=by unfold pm.jRun; cases (pm.jStep j).2 <;> rfl
  have hJ6:DpJob m6 lam jv j:=by
   obtain ⟨jv2,h1,h2⟩:=((hO6.ds i _ _ hv3 hx3).2).get' (i:=0) (b:=j) (by show x.jobs[0]? = _; rw [hxr]; rfl)
   rw [hjv] at h1; cases h1; exact h2
  obtain ⟨g3,hO7⟩:=hO6.setJ (q:=0) (k:=0) (jv':=jv') (j':=(pm.jRun j 1).1) (vs:=encJ jv') hv3 hx3 hjv hjab hκ (by simp [encJ]) (over_at rfl) (by
   subst hjv'
   exact ⟨rfl,rfl,rfl,by rw [ep]; exact hJ6.prog,by rw [ep]; exact hJ6.lab⟩)
  have evs:encJ jv'=[.int .i64 (pm.jRun j 1).1.num,.slice jv.pa jv.pn jv.pc,.int .i64 (pm.jRun j 1).1.at_,.int .i64 (pm.jRun j 1).1.done]:=by rw [hjv']; rfl
  rw [evs] at g3 hO7
  refine ⟨g3,?_⟩
  rw [mBind_iff]
  have f7:Fr m (wr m6 bj (oj+Int.toNat ((0:Nat):Int)*4+0) [.int .i64 (pm.jRun j 1).1.num,.slice jv.pa jv.pn jv.pc,.int .i64 (pm.jRun j 1).1.at_,.int .i64 (pm.jRun j 1).1.done]) [b,bj]:=
   ((f3.mono (S':=[b,bj]) (fun b' hb'=>.inl (by simp at hb'; subst hb'; simp))).trans ((k4.trans k5').fr []) (fun b hb=>by cases hb)).wr (.inl (by simp))
  obtain ⟨m7,hm7⟩:∃ m7,m7=wr m6 bj (oj+Int.toNat (0:Int)*4) [.int .i64 (pm.jRun j 1).1.num,.slice jv.pa jv.pn jv.pc,.int .i64 (pm.jRun j 1).1.at_,.int .i64 (pm.jRun j 1).1.done]:=⟨_,rfl⟩
  have hm7':wr m6 bj (oj+Int.toNat ((0:Nat):Int)*4+0) [.int .i64 (pm.jRun j 1).1.num,.slice jv.pa jv.pn jv.pc,.int .i64 (pm.jRun j 1).1.at_,.int .i64 (pm.jRun j 1).1.done]=m7:=hm7.symm
  rw [← hm7]
  rw [hm7'] at hO7 f7
  have hS7:∀ b'∈[b,bj],lam b' = .sv∨∃ k,lam b' = .jb k:=fun b' hb'=>by
   simp at hb'
   rcases hb' with rfl | rfl
   ·exact .inl hlb
   ·exact .inr ⟨i,hlj⟩
  have ejob:({ x with s:=(pm.cUse x.s 1).1,ran:=addI .i64 x.ran 1 }:pm.Serv).jobs.set 0 (pm.jRun j 1).1=(pm.jRun j 1).1 :: r:=by
   show x.jobs.set 0 _=_; rw [hxr]; rfl
  rw [ejob] at hO7
  have hx7:=set_get (y:={ x with s:=(pm.cUse x.s 1).1,ran:=addI .i64 x.ran 1,jobs:=(pm.jRun j 1).1 :: r }) hx3
  obtain ⟨b',o',e,_,hc7⟩:=hO7.atS hv3
  rw [hab] at e; cases e
  refine ⟨_,hc7 7 _ rfl,?_⟩
  rw [show ({ v with s:=(pm.cUse x.s 1).1,ran:=addI .i64 v.ran 1 }:SV).sec=x.sec from esec]
  refine split_b (fun hs2=>?_) (fun hs2=>?_)
  ·rw [vPtr_some]
   refine ⟨_,hc7 8 _ rfl,?_⟩
   rw [vPtr_some]
   have hJ7:=hO7.jb i _ hv3
   obtain ⟨q1,q2⟩:=hO7.ds i _ _ hv3 hx7
   obtain ⟨g4,hO8⟩:=hO7.setS (κ:=wj i) (x':={ x with s:=(pm.cUse x.s 1).1,ran:=addI .i64 x.ran 1,jobs:=(pm.jRun j 1).1 :: r,held:=addI .i64 x.held 1 }) (v':={ v with s:=(pm.cUse x.s 1).1,ran:=addI .i64 v.ran 1,held:=addI .i64 v.held 1 }) (k:=8) (vs:=[.int .i64 (addI .i64 v.held 1)]) hv3 hab (by simp) rfl hJ7 ⟨⟨q1.id,q1.s,q1.sec,by show addI .i64 v.held 1=addI .i64 x.held 1; rw [d0.held],q1.num,q1.ran⟩,q2⟩
   rw [upF_id] at hO8
   refine ⟨g4,?_⟩
   rw [mBind_iff]
   refine h _ _ _ (hO8.cast ?_) ⟨[b,bj],f7.wr (.inl (by simp)),hS7⟩
   have er:pm.run1 x = { x with s:=(pm.cUse x.s 1).1,ran:=addI .i64 x.ran 1,jobs:=(pm.jRun j 1).1 :: r,held:=addI .i64 x.held 1 }:=by
    unfold pm.run1; simp only [hs,cond_false,hxr,hs2,cond_true]
   rw [er]; simp [List.set_set]
  ·refine h _ _ _ (hO7.cast ?_) ⟨[b,bj],f7,hS7⟩
   have er:pm.run1 x = { x with s:=(pm.cUse x.s 1).1,ran:=addI .i64 x.ran 1,jobs:=(pm.jRun j 1).1 :: r }:=by
    unfold pm.run1; simp only [hs,cond_false,hxr,hs2]
   rw [er]; simp [List.set_set]
end
end Go.Proofs.YtiehbnmpaeedpaaGreat.vc
