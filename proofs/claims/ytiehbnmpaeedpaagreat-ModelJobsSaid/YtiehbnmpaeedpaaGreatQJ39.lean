import Derived.Test.YtiehbnmpaeedpaaGreatQJ38
import Derived.Test.YtiehbnmpaeedpaaGreatQJ27
import Derived.Test.YtiehbnmpaeedpaaGreatQJ29
set_option linter.unusedVariables false
set_option linter.unusedSimpArgs false
set_option linter.unusedSectionVars false
namespace Go.Proofs.YtiehbnmpaeedpaaGreat.vc
open Go Go.AX
structure OwE (wj wq:Nat→Kd) (m0 m:Mem) (lam:Nat→Lb) (a1:Option Addr) (n1 c1:Nat) (a2:Option Addr) (n2 c2:Nat) (a3:Option Addr) (n3 c3:Nat) (ss:List SV) (js:Nat→List JV) (ls:List LV) (qs:Nat→List Int) (σ : pm.St) (ae:Option Addr) (ne ce:Nat) (E:List pm.Ev):Prop where
 ow:Ow TT wj wq m0 m lam a1 n1 c1 a2 n2 c2 a3 n3 c3 ss js ls qs σ
 ev:Grow m ae ne ce 4 t_model_Event (E.flatMap encEv)
 evn:∀ b∈blk ae,m0.nx≤b∧lam b = .no
section
variable {wj wq wj' wq':Nat→Kd} {m0 m m':Mem} {lam:Nat→Lb} {Q:Value→Mem→Prop} {M now:Int} {a1 a2 a3 ae:Option Addr} {n1 c1 n2 c2 n3 c3 ne ce:Nat} {ss ss':List SV} {js js':Nat→List JV} {ls ls':List LV} {qs qs':Nat→List Int} {σ σ':pm.St} {E:List pm.Ev}
theorem OwE.wf (h:OwE wj wq m0 m lam a1 n1 c1 a2 n2 c2 a3 n3 c3 ss js ls qs σ ae ne ce E):Wf m:=h.ow.keep.wf
theorem OwE.evlt (h:OwE wj wq m0 m lam a1 n1 c1 a2 n2 c2 a3 n3 c3 ss js ls qs σ ae ne ce E):∀ b∈blk ae,b < m.nx:=h.ev.blk_lt h.wf
theorem OwE.arr (h:OwE wj wq m0 m lam a1 n1 c1 a2 n2 c2 a3 n3 c3 ss js ls qs σ ae ne ce E):Arr encEv 4 m ae ne E:=Arr.of_grow encEv_len (by omega) h.ev
theorem OwE.len (h:OwE wj wq m0 m lam a1 n1 c1 a2 n2 c2 a3 n3 c3 ss js ls qs σ ae ne ce E):E.length=ne:=h.arr.1
theorem OwE.go (h:OwE wj wq m0 m lam a1 n1 c1 a2 n2 c2 a3 n3 c3 ss js ls qs σ ae ne ce E) (hO:Ow TT wj' wq' m0 m' lam a1 n1 c1 a2 n2 c2 a3 n3 c3 ss' js' ls' qs' σ') (hf:∃ S,Fr m m' S∧∀ b∈S,lam b≠.no):OwE wj' wq' m0 m' lam a1 n1 c1 a2 n2 c2 a3 n3 c3 ss' js' ls' qs' σ' ae ne ce E:=by
 obtain ⟨S,f,hS⟩:=hf
 exact ⟨hO,h.ev.fr f h.wf (fun b hb hs=>hS b hs (h.evn b hb).2),h.evn⟩
theorem OwE.then (h:OwE wj wq m0 m lam a1 n1 c1 a2 n2 c2 a3 n3 c3 ss js ls qs σ ae ne ce E) (k:Keep m m'):OwE wj wq m0 m' lam a1 n1 c1 a2 n2 c2 a3 n3 c3 ss js ls qs σ ae ne ce E:=
 h.go (h.ow.then k) ⟨[],k.fr [],fun b hb=>by cases hb⟩
theorem OwE.cast (h:OwE wj wq m0 m lam a1 n1 c1 a2 n2 c2 a3 n3 c3 ss js ls qs σ ae ne ce E) {F:List pm.Ev} (e:σ = σ') (e2:E=F):OwE wj wq m0 m lam a1 n1 c1 a2 n2 c2 a3 n3 c3 ss js ls qs σ' ae ne ce F:=e ▸ e2 ▸ h
theorem OwE.start (h:Ow TT wj wq m0 m lam a1 n1 c1 a2 n2 c2 a3 n3 c3 ss js ls qs σ):OwE wj wq m0 m lam a1 n1 c1 a2 n2 c2 a3 n3 c3 ss js ls qs σ none 0 0 []:=⟨h,Grow.nil _ _ _,fun b hb=>by cases hb⟩
theorem OwE.setS (h:OwE wj wq m0 m lam a1 n1 c1 a2 n2 c2 a3 n3 c3 ss js ls qs σ ae ne ce E) {b o i k:Nat} {v v':SV} {vs:List Value} {x x':pm.Serv} (hv:ss[i]? = some v) (hx:σ.servs[i]? = some x) (hab:a1=some ⟨b,o,none⟩) (hk:k+vs.length≤11) (he:over (encS v) k vs=encS v') (ej:v'.ja=v.ja∧v'.jn=v.jn∧v'.jc=v.jc) (ex:x'.jobs=x.jobs) (hd:DpServ v' x') :
  okW m b (o+Int.toNat (i:Int)*11+k) vs.length∧OwE wj wq m0 (wr m b (o+Int.toNat (i:Int)*11+k) vs) lam a1 n1 c1 a2 n2 c2 a3 n3 c3 (ss.set i v') js ls qs { σ with servs:=σ.servs.set i x' } ae ne ce E:=by
 obtain ⟨g1,g2⟩:=h.ow.setS (κ:=wj i) (js':=js i) (x':=x') hv hab hk he (by obtain ⟨e1,e2,e3⟩:=ej; rw [e1,e2,e3]; exact h.ow.jb i v hv) ⟨hd,by rw [ex]; exact (h.ow.ds i v x hv hx).2⟩
 rw [upF_id,upF_id] at g2
 refine ⟨g1,h.go g2 ⟨[b],(Fr.refl m [b]).wr (.inl (by simp)),fun b' hb'=>?_⟩⟩
 rw [List.mem_singleton.1 hb',h.ow.s1l b (by rw [hab]; simp [blk])]; simp
theorem OwE.setL (h:OwE wj wq m0 m lam a1 n1 c1 a2 n2 c2 a3 n3 c3 ss js ls qs σ ae ne ce E) {b o i k:Nat} {v v':LV} {vs:List Value} {x x':pm.Lock} (hv:ls[i]? = some v) (hx:σ.sems[i]? = some x) (hab:a2=some ⟨b,o,none⟩) (hk:k+vs.length≤4) (he:over (encL v) k vs=encL v') (ej:v'.qa=v.qa∧v'.qn=v.qn∧v'.qc=v.qc) (ex:x'.queue=x.queue) (hd:DpLock v' x') :
  okW m b (o+Int.toNat (i:Int)*4+k) vs.length∧OwE wj wq m0 (wr m b (o+Int.toNat (i:Int)*4+k) vs) lam a1 n1 c1 a2 n2 c2 a3 n3 c3 ss js (ls.set i v') qs { σ with sems:=σ.sems.set i x' } ae ne ce E:=by
 obtain ⟨g1,g2⟩:=h.ow.setL (κ:=wq i) (qs':=qs i) (x':=x') hv hab hk he (by obtain ⟨e1,e2,e3⟩:=ej; rw [e1,e2,e3]; exact h.ow.qu i v hv) ⟨hd,by rw [ex]; exact (h.ow.dl i v x hv hx).2⟩
 rw [upF_id,upF_id] at g2
 refine ⟨g1,h.go g2 ⟨[b],(Fr.refl m [b]).wr (.inl (by simp)),fun b' hb'=>?_⟩⟩
 rw [List.mem_singleton.1 hb',h.ow.s2l b (by rw [hab]; simp [blk])]; simp
theorem OwE.app (h:OwE wj wq m0 m lam a1 n1 c1 a2 n2 c2 a3 n3 c3 ss js ls qs σ ae ne ce E) {a':Option Addr} {k ck:Nat} {F:List pm.Ev} (hF:Arr encEv 4 m a' k F) (hn:ne+k≤1000000) :
  ∃ a9 c9 m9,appendA cx m [t_sl_model_Event,t_sl_model_Event] [.slice ae ne ce,.slice a' k ck]=some (.slice a9 (ne+k) c9,m9)∧OwE wj wq m0 m9 lam a1 n1 c1 a2 n2 c2 a3 n3 c3 ss js ls qs σ a9 (ne+k) c9 (E ++ F)∧Fr m m9 (blk ae):=by
 obtain ⟨i,z,h1,h2,h3,h4,h5,h6,h7⟩:=pushT_of (cx:=cx) (t:=t_sl_model_Event) (e:=t_model_Event) (s:=4) (by kernel_rfl)
 have hw:=h.wf
 by_cases hk:k=0
 ·subst hk
  have hF0:F=[]:=List.length_eq_zero_iff.1 hF.1
  subst hF0
  have hc:ce=ne:=by
   rcases h.ev.2 with ⟨_,q1,q2⟩ | ⟨_,_,q2,_⟩ <;> omega
  subst hc
  refine ⟨ae,ce,m,?_,by simpa using h,Fr.refl _ _⟩
  unfold appendA
  have hf:firstL m i.size 0 (.slice a' 0 ck)=some []:=by cases a' <;> rfl
  have b1:(Nat.beq ([]:List Value).length (0*i.size) && Nat.blt 0 i.size && ([]:List Value).all one1)=true:=by
   rw [h3,Nat.zero_mul,show Nat.blt 0 4=true from rfl]; rfl
  simp only [h1,h2,lenV,isRowD,hf,b1,Nat.ble_eq_true_of_le (show ce+0≤ce by omega)]
  cases ae <;> rfl
 ·have hbb:(2*(ne+k)+192)*i.bytes≤140737488355328:=by
   have h1:(2*(ne+k)+192)≤2000192:=by omega
   have h2:=Nat.mul_le_mul h1 h7
   omega
  obtain ⟨m',q1,q2,q3,q4,q5⟩:=append_grow h.ev h1 h1 rfl h2 h3 h4 h5 h6 (x:=.slice a' k ck) (k:=k) rfl (hF.first encEv_len h6) (by rw [flat_length encEv_len,hF.1]) (by
   rw [List.all_eq_true]
   intro v hv
   obtain ⟨x,_,hx⟩:=List.mem_flatMap.1 hv
   exact List.all_eq_true.1 (encEv_one1 x) v hx) (by omega) hbb (by omega)
  have hbl:=h.evlt
  have q5':∀ b',b'≠m.nx→b'∉blk ae→m'.hp.get b'=m.hp.get b':=fun b' h1 h2=>q5 b' h1 (fun b e e'=>h2 (by rw [e,e']; simp [blk]))
  have hgl:=h.ev.1
  have hw':Wf m':=⟨by have:=hw.1; omega,fun b hb=>by
   rw [q5' b (by omega) (fun h=>by have:=hbl b h; omega)]
   exact hw.2 b (by omega)⟩
  have f:Fr m m' (blk ae):=⟨by omega,q3,fun b hb hn'=>q5' b (by omega) hn'⟩
  refine ⟨_,_,m',q1,⟨h.ow.fr hw' f (fun b hb=>(h.evn b hb).2),⟨?_,.inr ⟨_,rfl,rfl,?_,?_⟩⟩,fun b hb=>?_⟩,f⟩
  ·rw [List.flatMap_append,List.length_append,hgl,flat_length encEv_len,hF.1,Nat.add_mul]
  ·rw [q3]; exact hw.1
  ·rw [List.flatMap_append]; exact q4
  ·simp [blk] at hb
   subst hb
   exact ⟨h.ow.keep.nx,h.ow.noNew (Nat.le_refl _)⟩
theorem OwE.tell {k d:Nat} {kind who num:Int} {K:Option Addr→Nat→Nat→Mem→Prop} (h:OwE wj wq m0 m lam a1 n1 c1 a2 n2 c2 a3 n3 c3 ss js ls qs σ ae ne ce E) (hn:ne≤100000) (hd:d < k)
  (hK:∀ a9 c9 m9,OwE wj wq m0 m9 lam a1 n1 c1 a2 n2 c2 a3 n3 c3 ss js ls qs σ a9 (ne+1) c9 (E ++ [⟨now,kind,who,num⟩])→Fr m m9 (blk ae)→K a9 (ne+1) c9 m9) :
  CallV cx n_model_State_event [.agg #[.int .i64 M,.int .i64 now,.slice a1 n1 c1,.slice a2 n2 c2,.slice a3 n3 c3],.int .i64 kind,.int .i64 who,.int .i64 num] (bump m k) fun r m9=>
   ∃ (x1:Int),(∃ (x2:Int),(∃ (x3:Int),(∃ (x4:Int),r=(.agg #[.int .i64 x1,.int .i64 x2,.int .i64 x3,.int .i64 x4])∧(∃ (a84:Option Addr) (n84 c84:Nat) (m10:Mem),appendA cx (addO m9 (m.nx+d) (row [.int .i64 x1,.int .i64 x2,.int .i64 x3,.int .i64 x4] t_model_Event false)) [t_sl_model_Event,t_sl_model_Event] [.slice ae ne ce,.slice (some ⟨m.nx+d,0,none⟩) 1 1]=some (.slice a84 n84 c84,m10)∧(mBind m10 fun m11=>K a84 n84 c84 m11))))):=by
 have hw:=h.wf
 have k10:Keep m (bump m k):=(Keep.refl hw).bump
 have x10:(bump m k).nx=m.nx+k:=rfl
 refine event_ok k10.wf fun m9 k11=>⟨_,_,_,_,rfl,?_⟩
 have x11:=k11.nx
 have k12:Keep m (addO m9 (m.nx+d) (row [.int .i64 now,.int .i64 kind,.int .i64 who,.int .i64 num] t_model_Event false)):=(k10.trans k11).addO (by omega) (by omega)
 have hR:Row (addO m9 (m.nx+d) (row [.int .i64 now,.int .i64 kind,.int .i64 who,.int .i64 num] t_model_Event false)) (m.nx+d) [.int .i64 now,.int .i64 kind,.int .i64 who,.int .i64 num] t_model_Event false:=Row.of_row (by rw [addO_get,if_pos rfl])
 generalize addO m9 (m.nx+d) (row [.int .i64 now,.int .i64 kind,.int .i64 who,.int .i64 num] t_model_Event false)=m10 at k12 hR
 obtain ⟨a9,c9,m11,q1,q2,q3⟩:=(h.then k12).app (a':=some ⟨m.nx+d,0,none⟩) (k:=1) (ck:=1) (F:=[⟨now,kind,who,num⟩]) (Arr.of_row encEv_len (l:=[(⟨now,kind,who,num⟩:pm.Ev)]) hR) (by omega)
 refine ⟨a9,_,c9,m11,q1,?_⟩
 rw [mBind_iff]
 exact hK a9 c9 m11 q2 ((k12.fr (blk ae)).trans q3 (fun b hb=>.inl hb))
theorem OwE.stay (h:OwE wj wq m0 m lam a1 n1 c1 a2 n2 c2 a3 n3 c3 ss js ls qs σ ae ne ce E) {b0:Nat} (hb0:lam b0 = .no) (hlt:b0 < m.nx) (hne:b0∉blk ae):OwE wj wq m0 m (upF lam b0 .pr) a1 n1 c1 a2 n2 c2 a3 n3 c3 ss js ls qs σ ae ne ce E:=
 ⟨h.ow.own hb0 hlt,h.ev,fun b hb=>⟨(h.evn b hb).1,(upF_ne (f:=lam) (k:=b) (i:=b0) (fun e=>hne (by rw [← e]; exact hb))).trans (h.evn b hb).2⟩⟩
theorem OwE.pushQ (h:OwE wj wq m0 m lam a1 n1 c1 a2 n2 c2 a3 n3 c3 ss js ls qs σ ae ne ce E) {j b o:Nat} {u:LV} {l:pm.Lock} {x:Int} {xa:Option Addr} (hu:ls[j]? = some u) (hl:σ.sems[j]? = some l) (hab:a2=some ⟨b,o,none⟩) (hκ : wq j = .own true) (hx:firstL m 1 1 (.slice xa 1 1)=some [.int .i64 x]) (hn:u.qn≤900000) :
  ∃ m',appendA cx m [t_sl_int,t_sl_int] [.slice u.qa u.qn u.qc,.slice xa 1 1]=some (.slice (some ⟨m.nx,0,none⟩) (u.qn+1) (u.qn+1),m')∧okW m' b (o+Int.toNat (j:Int)*4+2) 1 ∧
   OwE wj wq m0 (wr m' b (o+Int.toNat (j:Int)*4+2) [.slice (some ⟨m.nx,0,none⟩) (u.qn+1) (u.qn+1)]) (upF lam m.nx (.qu j)) a1 n1 c1 a2 n2 c2 a3 n3 c3 ss js (ls.set j { u with qa:=some ⟨m.nx,0,none⟩,qn:=u.qn+1,qc:=u.qn+1 }) (upF qs j (qs j ++ [x])) { σ with sems:=σ.sems.set j { l with queue:=l.queue ++ [x] } } ae ne ce E ∧
   ∃ S,Fr m (wr m' b (o+Int.toNat (j:Int)*4+2) [.slice (some ⟨m.nx,0,none⟩) (u.qn+1) (u.qn+1)]) S∧∀ b∈S,lam b = .lk∨∃ k,lam b = .qu k:=by
 have hw:=h.wf
 have hH:=h.ow.qu j u hu
 rw [hκ] at hH
 obtain ⟨p1,p2,p3⟩:=hH
 obtain ⟨m',q1,q2,q3,q4,q5⟩:=own_push (cx:=cx) (t:=t_sl_int) (e:=t_int) (s:=1) (vs:=[.int .i64 x]) (by kernel_rfl) hw (by have:=h.ow.keep.fl; have:=h.ow.fl0; omega) p1.own (by rw [flat_length encI_len,p3]) hx rfl rfl hn
 have hR:Row m' m.nx ((qs j ++ [x]).flatMap encI) t_int true:=by rw [List.flatMap_append]; exact q5
 obtain ⟨g1,g2⟩:=h.ow.pushQ hu hl hab q2 q3 hκ (Nat.le_refl _) (by omega) hR
 have hlb:lam b = .lk:=h.ow.s2l b (by rw [hab]; simp [blk])
 have f2:Fr m (wr m' b (o+Int.toNat (j:Int)*4+2) [.slice (some ⟨m.nx,0,none⟩) (u.qn+1) (u.qn+1)]) (b :: blk u.qa):=(q3.mono (S':=b :: blk u.qa) (fun b' hb'=>.inl (List.mem_cons_of_mem _ hb'))).wr (.inl (List.mem_cons_self ..))
 have hS:∀ b'∈b :: blk u.qa,lam b' = .lk∨∃ k,lam b' = .qu k:=fun b' hb'=>by
  rcases List.mem_cons.1 hb' with e | hb'
  ·subst e; exact .inl hlb
  ·exact .inr ⟨j,p2 b' hb'⟩
 refine ⟨m',q1,g1,⟨g2,h.ev.fr f2 hw (fun b' hb' hs=>?_),fun b' hb'=>⟨(h.evn b' hb').1,?_⟩⟩,_,f2,hS⟩
 ·have:=(h.evn b' hb').2
  rcases hS b' hs with e | ⟨k,e⟩ <;> rw [e] at this <;> cases this
 ·rw [upF_ne (fun e=>by have:=h.evlt b' hb'; omega)]; exact (h.evn b' hb').2
end
structure PrF (lam:Nat→Lb) (m m':Mem):Prop where
 nx:m.nx≤m'.nx
 get:∀ b,lam b = .pr→b < m.nx→m'.hp.get b=m.hp.get b
theorem PrF.refl (lam:Nat→Lb) (m:Mem):PrF lam m m:=⟨Nat.le_refl _,fun _ _ _=>rfl⟩
theorem PrF.trans {lam:Nat→Lb} {m m1 m2:Mem} (h:PrF lam m m1) (k:PrF lam m1 m2):PrF lam m m2:=
 ⟨Nat.le_trans h.nx k.nx,fun b hb hl=>(k.get b hb (Nat.lt_of_lt_of_le hl h.nx)).trans (h.get b hb hl)⟩
theorem PrF.keep {lam:Nat→Lb} {m m1 m2:Mem} (h:PrF lam m m1) (k:Keep m1 m2):PrF lam m m2:=h.trans ⟨k.nx,fun b _ hl=>k.get b hl⟩
theorem PrF.wr {lam:Nat→Lb} {m m1:Mem} (h:PrF lam m m1) {b o:Nat} {l:List Value} (hb:lam b≠.pr):PrF lam m (wr m1 b o l):=
 h.trans ⟨by simp,fun b' hb' _=>wr_get (fun e=>hb (by rw [← e]; exact hb'))⟩
theorem PrF.fr {lam:Nat→Lb} {m m1 m2:Mem} {S:List Nat} (h:PrF lam m m1) (f:Fr m1 m2 S) (hS:∀ b∈S,lam b≠.pr):PrF lam m m2:=
 h.trans ⟨f.nx,fun b hb hl=>f.get b hl (fun hs=>hS b hs hb)⟩
theorem PrF.arr {lam:Nat→Lb} {m m':Mem} {α : Type} {enc:α→List Value} {s:Nat} {a:Option Addr} {n:Nat} {l:List α} (h:PrF lam m m') (hw:Wf m) (hA:Arr enc s m a n l) (hl:l≠[]→∀ b∈blk a,lam b = .pr):Arr enc s m' a n l:=by
 refine ⟨hA.1,fun i x hx=>?_⟩
 obtain ⟨b,o,rfl,hc⟩:=hA.2 i x hx
 have hne:l≠[]:=fun e=>by rw [e] at hx; cases hx
 refine ⟨b,o,rfl,fun j v hv=>?_⟩
 have h1:=hc j v hv
 rw [rd_congr (h.get b (hl hne b (by simp [blk])) (hw.rd h1))]; exact h1
theorem OwE.hold {wj wq:Nat→Kd} {m0 m:Mem} {lam:Nat→Lb} {a1 a2 a3 ae:Option Addr} {n1 c1 n2 c2 n3 c3 ne ce:Nat} {ss:List SV} {js:Nat→List JV} {ls:List LV} {qs:Nat→List Int} {σ : pm.St} {E:List pm.Ev} (h:OwE wj wq m0 m lam a1 n1 c1 a2 n2 c2 a3 n3 c3 ss js ls qs σ ae ne ce E) {α : Type} {enc:α→List Value} {s:Nat} (hs:∀ x,(enc x).length=s) (h0:0 < s) {a:Option Addr} {n:Nat} {l:List α} (hA:Arr enc s m a n l) (hb:∀ b∈blk a,lam b = .no∨lam b = .pr) (hne:∀ b∈blk a,b∉blk ae) :
  ∃ lam',OwE wj wq m0 m lam' a1 n1 c1 a2 n2 c2 a3 n3 c3 ss js ls qs σ ae ne ce E∧(l≠[]→∀ b∈blk a,lam' b = .pr)∧∀ b,(lam' b=lam b∨lam' b = .pr)∧(lam b≠.no→lam' b=lam b):=by
 by_cases hl:l=[]
 ·exact ⟨lam,h,fun e=>absurd hl e,fun b=>⟨.inl rfl,fun _=>rfl⟩⟩
 ·have hlt:=hA.blk_lt hs h0 h.wf hl
  cases a with
  | none=>exact ⟨lam,h,fun _ b hb=>(by cases hb),fun b=>⟨.inl rfl,fun _=>rfl⟩⟩
  | some ad=>
   have hm:ad.block∈blk (some ad):=by simp [blk]
   have hbs:∀ b∈blk (some ad),b=ad.block:=fun b hb=>by simpa [blk] using hb
   rcases hb _ hm with h1 | h1
   ·refine ⟨_,h.stay h1 (hlt _ hm) (hne _ hm),fun _ b hb=>by rw [hbs b hb]; exact upF_self ..,fun b=>?_⟩
    by_cases e:b=ad.block
    ·subst e; exact ⟨.inr (upF_self ..),fun h=>absurd h1 h⟩
    ·rw [upF_ne e]; exact ⟨.inl rfl,fun _=>rfl⟩
   ·exact ⟨lam,h,fun _ b hb=>by rw [hbs b hb]; exact h1,fun b=>⟨.inl rfl,fun _=>rfl⟩⟩
theorem iv_queue {B R:Int} {σ : pm.St} (h:pm.Iw B R σ) {l:pm.Lock} (hl:l∈σ.sems):l.queue.length≤32:=by
 obtain ⟨q,hq⟩:=List.getElem?_of_mem hl
 have hL:=h.lock q l hq
 have:l.queue.length≤(σ.servs.map (·.id)).length:=hL.nd.length_le_of_subset fun id hid=>by
  have:=(hL.wait id).1 hid
  rw [← pm.keys_fst]
  exact List.mem_map.2 ⟨_,this,rfl⟩
 rw [List.length_map] at this
 have:=h.len1
 omega
theorem iv_small {B R:Int} {σ : pm.St} (h:pm.Iw B R σ):Small σ:=
 ⟨by have:=h.len1; omega,by have:=h.len2; omega,by have:=h.len3; omega,fun x hx=>by have:=(h.serv x hx).len; omega,fun l hl=>by have:=iv_queue h hl; omega⟩
theorem iv_busy {B:Int} {σ : pm.St} (h:pm.Iv B σ):Busy σ:=fun id hid=>by
 obtain ⟨x,hx,_,_,hj⟩:=pm.runner_at h hid
 exact ⟨x,hx,hj⟩
theorem iv_ask {B:Int} {σ : pm.St} (h:pm.Iv B σ):AskOk σ:=fun p hp=>by
 obtain ⟨x,_,_,_,_,_,h1,h2,_⟩:=pm.asks_mem h hp
 exact ⟨h1,h2⟩
end Go.Proofs.YtiehbnmpaeedpaaGreat.vc
namespace Go.Proofs.YtiehbnmpaeedpaaGreat.vc
open Go Go.AX
noncomputable def turnK (σ : pm.St) (k:Nat):pm.St:={ σ with servs:=(σ.servs.take k).map (fun v=>(pm.turn1 σ.now v).1) ++ σ.servs.drop k }
noncomputable def turnEK (σ : pm.St) (k:Nat):List pm.Ev:=(σ.servs.take k).filterMap fun v=>bif (pm.turn1 σ.now v).2 then some (pm.event σ 5 v.id 0) else none
theorem turnK_zero (σ : pm.St):turnK σ 0 = σ:=by unfold turnK; simp
theorem turnK_all (σ : pm.St) {k:Nat} (h:σ.servs.length≤k):turnK σ k=pm.turnS σ∧turnEK σ k=pm.turnE σ:=by
 unfold turnK turnEK pm.turnS pm.turnE
 rw [List.take_of_length_le h,List.drop_eq_nil_of_le h,List.append_nil]
 exact ⟨rfl,rfl⟩
theorem turnK_get {σ : pm.St} {k:Nat} {x:pm.Serv} (h:σ.servs[k]? = some x):(turnK σ k).servs[k]? = some x:=by
 have hk:=(List.getElem?_eq_some_iff.1 h).1
 show ((σ.servs.take k).map _ ++ σ.servs.drop k)[k]? = _
 have hl:((σ.servs.take k).map (fun v=>(pm.turn1 σ.now v).1)).length=k:=by rw [List.length_map,List.length_take]; omega
 rw [List.getElem?_append_right (by omega),hl,Nat.sub_self,List.getElem?_drop]; exact h
theorem turnK_succ {σ : pm.St} {k:Nat} {x:pm.Serv} (h:σ.servs[k]? = some x):({ turnK σ k with servs:=(turnK σ k).servs.set k (pm.turn1 σ.now x).1 }:pm.St)=turnK σ (k+1):=by
 have hk:=(List.getElem?_eq_some_iff.1 h).1
 unfold turnK
 congr 1
 have hl:((σ.servs.take k).map (fun v=>(pm.turn1 σ.now v).1)).length=k:=by rw [List.length_map,List.length_take]; omega
 simp only
 rw [List.set_append_right _ _ (by omega),hl,Nat.sub_self,List.drop_eq_getElem_cons hk,List.set_cons_zero,List.take_add_one,h]
 simp
theorem turnEK_succ {σ : pm.St} {k:Nat} {x:pm.Serv} (h:σ.servs[k]? = some x):turnEK σ (k+1)=turnEK σ k ++ (bif (pm.turn1 σ.now x).2 then [pm.event σ 5 x.id 0] else []):=by
 unfold turnEK
 rw [List.take_add_one,h]
 show ((σ.servs.take k) ++ [x]).filterMap _=_
 rw [filterMap_snoc]
 congr 1
 cases (pm.turn1 σ.now x).2 <;> rfl
theorem turn1_idle {now:Int} {x:pm.Serv} (h:eqI x.s.mode 0=true∨neI x.sec 0=true):pm.turn1 now x=(x,false):=by
 unfold pm.turn1 pm.Serv.idle
 rcases h with h | h <;> rw [h] <;> simp
theorem turn1_do {now:Int} {x:pm.Serv} (h1:eqI x.s.mode 0=false) (h2:neI x.sec 0=false):pm.turn1 now x=({ x with s:=(pm.cTurn x.s now).1 },(pm.cTurn x.s now).2):=by
 unfold pm.turn1 pm.Serv.idle
 rw [h1,h2]; rfl
section
variable {B:Int} {wj wq:Nat→Kd} {m0 m:Mem} {lam:Nat→Lb} {Q:Value→Mem→Prop} {M now:Int} {a1 a2 a3:Option Addr} {n1 c1 n2 c2 n3 c3:Nat} {ss:List SV} {js:Nat→List JV} {ls:List LV} {qs:Nat→List Int} {σ : pm.St}
def OwX (m0 m:Mem) (a1:Option Addr) (n1 c1:Nat) (a2:Option Addr) (n2 c2:Nat) (a3:Option Addr) (n3 c3:Nat) (σ : pm.St) (ae:Option Addr) (ne ce:Nat) (E:List pm.Ev):Prop:=
 ∃ lam ss js ls qs,OwE (fun _=>.own true) (fun _=>.own true) m0 m lam a1 n1 c1 a2 n2 c2 a3 n3 c3 ss js ls qs σ ae ne ce E
theorem turn_step {k ne ce:Nat} {ae:Option Addr} {x:pm.Serv} {v:SV} {E:List pm.Ev} {b o:Nat} {τ : pm.St} {K:Option Addr→Nat→Nat→Mem→Prop} (hE:OwE wj wq m0 m lam (some ⟨b,o,none⟩) n1 c1 a2 n2 c2 a3 n3 c3 ss js ls qs τ ae ne ce E) (hv:ss[k]? = some v) (hx:τ.servs[k]? = some x) (hk:k≤1000) (hne:ne≤100000)
  (h:∀ ss' a9 n9 c9 m9,OwE wj wq m0 m9 lam (some ⟨b,o,none⟩) n1 c1 a2 n2 c2 a3 n3 c3 ss' js ls qs { τ with servs:=τ.servs.set k { x with s:=(pm.cTurn x.s now).1 } } a9 n9 c9 (E ++ (bif (pm.cTurn x.s now).2 then [⟨now,5,x.id,0⟩] else []))→K a9 n9 c9 m9) :
  ∃ (x44:Int),rd ((bump m 13)) b (o+Int.toNat (k:Int)*11+1)=some (.int .i64 (x44))∧(∃ (x44_16:Int),rd ((bump m 13)) b (o+Int.toNat (k:Int)*11+2)=some (.int .i64 (x44_16))∧(∃ (x44_17:Int),rd ((bump m 13)) b (o+Int.toNat (k:Int)*11+3)=some (.int .i64 (x44_17))∧(∃ (x44_18:Int),rd ((bump m 13)) b (o+Int.toNat (k:Int)*11+4)=some (.int .i64 (x44_18))∧(∃ (x44_19:Int),rd ((bump m 13)) b (o+Int.toNat (k:Int)*11+5)=some (.int .i64 (x44_19))∧(CallV cx n_cbs_Turn [.agg #[.int .i64 (x44),.int .i64 (x44_16),.int .i64 (x44_17),.int .i64 (x44_18),.int .i64 (x44_19)],.int .i64 now] (((bump m 13))) fun r47 m4=>(∃ (x47:Int),(∃ (x47_20:Int),(∃ (x47_21:Int),(∃ (x47_22:Int),(∃ (x47_23:Int),(∃ (b47:Bool),r47=(.tuple #[.agg #[.int .i64 (x47),.int .i64 (x47_20),.int .i64 (x47_21),.int .i64 (x47_22),.int .i64 (x47_23)],.bool (b47)])∧(okW (addO (m4) (m.nx+10) (row [.int .i64 (0:Int),.int .i64 (0:Int),.int .i64 (0:Int),.int .i64 (0:Int),.int .i64 (0:Int)] t_cbs_Server false)) (m.nx+10) (0) 5∧(mBind (wr (addO (m4) (m.nx+10) (row [.int .i64 (0:Int),.int .i64 (0:Int),.int .i64 (0:Int),.int .i64 (0:Int),.int .i64 (0:Int)] t_cbs_Server false)) (m.nx+10) (0) [.int .i64 (x47),.int .i64 (x47_20),.int .i64 (x47_21),.int .i64 (x47_22),.int .i64 (x47_23)]) fun m5=>(mBind (m5) fun m6=>(splitB (b47)
 (∃ (x52:Int),rd m6 (m.nx+10) (0)=some (.int .i64 (x52))∧(∃ (x52_24:Int),rd m6 (m.nx+10) (1)=some (.int .i64 (x52_24))∧(∃ (x52_25:Int),rd m6 (m.nx+10) (2)=some (.int .i64 (x52_25))∧(∃ (x52_26:Int),rd m6 (m.nx+10) (3)=some (.int .i64 (x52_26))∧(∃ (x52_27:Int),rd m6 (m.nx+10) (4)=some (.int .i64 (x52_27))∧(okW m6 b (o+Int.toNat (k:Int)*11+1) 5∧(mBind (wr m6 b (o+Int.toNat (k:Int)*11+1) [.int .i64 (x52),.int .i64 (x52_24),.int .i64 (x52_25),.int .i64 (x52_26),.int .i64 (x52_27)]) fun m7=>(∃ (x60:Int),rd ((bump m7 10)) b (o+Int.toNat (k:Int)*11)=some (.int .i64 (x60))∧(CallV cx n_model_State_event [.agg #[.int .i64 M,.int .i64 now,.slice (some ⟨b,o,none⟩) n1 c1,.slice a2 n2 c2,.slice a3 n3 c3],.int .i64 (5:Int),.int .i64 (x60),.int .i64 (0:Int)] (((bump m7 10))) fun r61 m8=>(∃ (x61:Int),(∃ (x61_28:Int),(∃ (x61_29:Int),(∃ (x61_30:Int),r61=(.agg #[.int .i64 (x61),.int .i64 (x61_28),.int .i64 (x61_29),.int .i64 (x61_30)])∧(∃ (a63:Option Addr) (n63 c63:Nat) (m9:Mem),appendA cx (addO (m8) (m7.nx+7) (row [.int .i64 (x61),.int .i64 (x61_28),.int .i64 (x61_29),.int .i64 (x61_30)] t_model_Event false)) [t_sl_model_Event,t_sl_model_Event] [.slice ae ne ce,.slice (some ⟨(m7.nx+7),0,none⟩) (1) (1)]=some (.slice a63 (n63) (c63),m9)∧(mBind (m9) fun m10=>K a63 n63 c63 m10)))))))))))))))
 (K ae ne ce m6)))))))))))))))):=by
 have hw:=hE.wf
 have k3:Keep m (bump m 13):=(Keep.refl hw).bump
 have x3:(bump m 13).nx=m.nx+13:=rfl
 obtain ⟨b',o',e,hlb,hc⟩:=(hE.ow.then k3).atS hv
 cases e
 obtain ⟨d0,dj⟩:=hE.ow.ds k v x hv hx
 refine ⟨_,hc 1 _ rfl,_,hc 2 _ rfl,_,hc 3 _ rfl,_,hc 4 _ rfl,_,hc 5 _ rfl,?_⟩
 refine cTurn_ok k3.wf fun m4 k4=>⟨_,_,_,_,_,_,rfl,?_⟩
 have ev:(⟨v.s.q,v.s.p,v.s.bud,v.s.due,v.s.mode⟩:pm.Srv)=x.s:=d0.s
 rw [ev]
 have x4:=k4.nx
 have kA:Keep m (addO m4 (m.nx+10) (row [.int .i64 (0:Int),.int .i64 (0:Int),.int .i64 (0:Int),.int .i64 (0:Int),.int .i64 (0:Int)] t_cbs_Server false)):=(k3.trans k4).addO (by omega) (by omega)
 have hR:Row (addO m4 (m.nx+10) (row [.int .i64 (0:Int),.int .i64 (0:Int),.int .i64 (0:Int),.int .i64 (0:Int),.int .i64 (0:Int)] t_cbs_Server false)) (m.nx+10) [.int .i64 (0:Int),.int .i64 (0:Int),.int .i64 (0:Int),.int .i64 (0:Int),.int .i64 (0:Int)] t_cbs_Server false:=Row.of_row (by rw [addO_get,if_pos rfl])
 generalize addO m4 (m.nx+10) (row [.int .i64 (0:Int),.int .i64 (0:Int),.int .i64 (0:Int),.int .i64 (0:Int),.int .i64 (0:Int)] t_cbs_Server false)=m5 at kA hR
 refine ⟨hR.okW (by have:=kA.fl; have:=hw.1; omega) (by simp),?_⟩
 rw [mBind_iff,mBind_iff]
 have hR2:=hR.wr (o:=0) (vs:=[.int .i64 (pm.cTurn x.s now).1.q,.int .i64 (pm.cTurn x.s now).1.p,.int .i64 (pm.cTurn x.s now).1.bud,.int .i64 (pm.cTurn x.s now).1.due,.int .i64 (pm.cTurn x.s now).1.mode]) (by simp)
 change Row _ _ [.int .i64 (pm.cTurn x.s now).1.q,.int .i64 (pm.cTurn x.s now).1.p,.int .i64 (pm.cTurn x.s now).1.bud,.int .i64 (pm.cTurn x.s now).1.due,.int .i64 (pm.cTurn x.s now).1.mode] _ _ at hR2
 have kB:Keep m (wr m5 (m.nx+10) 0 [.int .i64 (pm.cTurn x.s now).1.q,.int .i64 (pm.cTurn x.s now).1.p,.int .i64 (pm.cTurn x.s now).1.bud,.int .i64 (pm.cTurn x.s now).1.due,.int .i64 (pm.cTurn x.s now).1.mode]):=kA.wr (by omega)
 generalize wr m5 (m.nx+10) 0 [.int .i64 (pm.cTurn x.s now).1.q,.int .i64 (pm.cTurn x.s now).1.p,.int .i64 (pm.cTurn x.s now).1.bud,.int .i64 (pm.cTurn x.s now).1.due,.int .i64 (pm.cTurn x.s now).1.mode]=m6 at kB hR2
 have hE6:=hE.then kB
 refine split_b (fun hok=>?_) (fun hok=>?_)
 ·rw [hok,cond_true] at h
  refine ⟨_,by rw [hR2.rd]; rfl,_,by rw [hR2.rd]; rfl,_,by rw [hR2.rd]; rfl,_,by rw [hR2.rd]; rfl,_,by rw [hR2.rd]; rfl,?_⟩
  obtain ⟨g1,hE7⟩:=hE6.setS (x':={ x with s:=(pm.cTurn x.s now).1 }) (v':={ v with s:=(pm.cTurn x.s now).1 }) (k:=1) (vs:=[.int .i64 (pm.cTurn x.s now).1.q,.int .i64 (pm.cTurn x.s now).1.p,.int .i64 (pm.cTurn x.s now).1.bud,.int .i64 (pm.cTurn x.s now).1.due,.int .i64 (pm.cTurn x.s now).1.mode]) hv hx rfl (by simp) rfl ⟨rfl,rfl,rfl⟩ rfl ⟨d0.id,rfl,d0.sec,d0.held,d0.num,d0.ran⟩
  refine ⟨g1,?_⟩
  rw [mBind_iff]
  generalize wr m6 b (o+Int.toNat (k:Int)*11+1) [.int .i64 (pm.cTurn x.s now).1.q,.int .i64 (pm.cTurn x.s now).1.p,.int .i64 (pm.cTurn x.s now).1.bud,.int .i64 (pm.cTurn x.s now).1.due,.int .i64 (pm.cTurn x.s now).1.mode]=m7 at hE7
  have hv7:=set_get (y:={ v with s:=(pm.cTurn x.s now).1 }) hv
  obtain ⟨b',o',e,_,hc7⟩:=(hE7.ow.then ((Keep.refl hE7.wf).bump (n:=10))).atS hv7
  cases e
  refine ⟨_,hc7 0 _ rfl,?_⟩
  refine hE7.tell (by omega) (by omega) fun a9 c9 m9 hE9 _=>?_
  rw [show v.id=x.id from d0.id] at hE9
  exact h _ a9 _ c9 m9 hE9
 ·rw [hok,cond_false,List.append_nil] at h
  have e1:τ.servs.set k { x with s:=(pm.cTurn x.s now).1 } = τ.servs:=by
   rw [pm.cTurn_no hok]; exact set_self hx
  rw [e1] at h
  exact h ss ae ne ce m6 hE6
def RefInv (m0:Mem) (a1:Option Addr) (n1 c1:Nat) (a2:Option Addr) (n2 c2:Nat) (a3:Option Addr) (n3 c3:Nat) (B:Int) (T:pm.St) (E0 E:List pm.Ev) (a:Option Addr) (n c:Nat) (a':Option Addr) (n' c':Nat) (more:Bool) (mm:Mem) (w:Nat):Prop:=match more with
 | false=>OwX m0 mm a1 n1 c1 a2 n2 c2 a3 n3 c3 T a n c (E0 ++ E)∧w=0
 | true=>∃ τ E1 f e b v,OwX m0 mm a1 n1 c1 a2 n2 c2 a3 n3 c3 τ a n c (E0 ++ E1)∧pm.Iv B τ∧a'=some ⟨b,0,none⟩∧n'=1∧c'=1∧Row mm b (encEv e) v false∧pm.readies τ≤f∧(pm.refuses f τ).1=T∧E=E1 ++ e :: (pm.refuses f τ).2∧w=f+1∧f≤100∧E1.length+f+1≤100∧τ.m=T.m∧τ.now=T.now
theorem refuses_mn:∀ (n:Nat) (τ : pm.St),(pm.refuses n τ).1.m = τ.m∧(pm.refuses n τ).1.now = τ.now
 | 0,τ=>⟨rfl,rfl⟩
 | n+1,τ=>by
  unfold pm.refuses
  split
  ·exact ⟨rfl,rfl⟩
  ·rename_i σ' e hr
   obtain ⟨_,_,_,_,_,_,_,e,_⟩:=pm.refuseIn_some hr
   subst e
   exact refuses_mn n _
theorem ref_step {a:Option Addr} {n c:Nat} {τ : pm.St} {E0 E1:List pm.Ev} {f:Nat} {mm:Mem} {K:Value→Mem→Prop} (hE:OwX m0 mm a1 n1 c1 a2 n2 c2 a3 n3 c3 τ a n c (E0 ++ E1)) (eM:M = τ.m) (en:now = τ.now) (hI:pm.Iv B τ) (hf:pm.readies τ≤f) (hf2:f≤100) (hf3:E1.length+f≤100)
  (h:∀ a' n' c' more m' w,RefInv m0 a1 n1 c1 a2 n2 c2 a3 n3 c3 B (pm.refuses f τ).1 E0 (E1 ++ (pm.refuses f τ).2) a n c a' n' c' more m' w→w≤f→K (.tuple #[.slice a' n' c',.bool more]) m') :
  CallV cx n_model_State_refuse [.agg #[.int .i64 M,.int .i64 now,.slice a1 n1 c1,.slice a2 n2 c2,.slice a3 n3 c3]] mm K:=by
 obtain ⟨lam,ss,js,ls,qs,hO⟩:=hE
 refine refuse_ok hO.ow eM en (iv_small hI.toIw) (by rw [eM]; exact hI.m1) (by rw [eM]; exact hI.m2) hI.rise (iv_busy hI) (iv_ask hI) (fun m' hr k=>?_) (fun m' b v e ss' js' σ' hr hO' hfr hb1 hb2 hR=>?_)
 ·have er:pm.refuses f τ = (τ,[]):=by
   cases f with
   | zero=>rfl
   | succ f=>unfold pm.refuses; rw [hr]
  rw [er] at h
  refine h none 0 0 false m' 0 ⟨?_,rfl⟩ (Nat.zero_le _)
  rw [List.append_nil]
  exact ⟨lam,ss,js,ls,qs,hO.then k⟩
 ·obtain ⟨h1,h2⟩:=pm.refuse_iv hI hr
  obtain ⟨g,rfl⟩:∃ g,f=g+1:=⟨f - 1,by omega⟩
  have er:pm.refuses (g+1) τ = ((pm.refuses g σ').1,e :: (pm.refuses g σ').2):=by
   show (match pm.refuse τ with | none=>(τ,[]) | some (s',e)=>((pm.refuses g s').1,e :: (pm.refuses g s').2))=_
   rw [hr]
  rw [er] at h
  obtain ⟨S,f1,hS⟩:=hfr
  have hmn:=refuses_mn g σ'
  refine h _ 1 1 true m' (g+1) ⟨σ',E1,g,e,b,v,⟨lam,ss',js',ls,qs,hO.go hO' ⟨S,f1,fun b hb=>by rw [hS b hb]; simp⟩⟩,h1,rfl,rfl,rfl,hR,by omega,rfl,rfl,rfl,by omega,by omega,hmn.1.symm,hmn.2.symm⟩ (Nat.le_refl _)
theorem turnE_len (σ : pm.St) (k:Nat):(turnEK σ k).length≤k:=by
 unfold turnEK
 refine Nat.le_trans (List.length_filterMap_le _ _) ?_
 rw [List.length_take]; omega
theorem iv_get {B R:Int} {σ : pm.St} (h:pm.Iw B R σ) {l:pm.Lock} {q:Nat} (hl:σ.sems[q]? = some l):l.queue.length≤32:=iv_queue h (List.mem_of_getElem? hl)
theorem grants_snoc:∀ (l:List (Nat×Int)) (s:pm.St) (p:Nat×Int),pm.grants s (l ++ [p])=((pm.grant1 (pm.grants s l).1 p.1 p.2).1,(pm.grants s l).2 ++ (pm.grant1 (pm.grants s l).1 p.1 p.2).2)
 | [],s,(i,q)=>by
  show ((pm.grant1 s i q).1,(pm.grant1 s i q).2 ++ [])=((pm.grant1 s i q).1,[] ++ (pm.grant1 s i q).2)
  simp
 | (i,q) :: r,s,p=>by
  show ((pm.grants (pm.grant1 s i q).1 (r ++ [p])).1,(pm.grant1 s i q).2 ++ (pm.grants (pm.grant1 s i q).1 (r ++ [p])).2)=_
  rw [grants_snoc r]
  show (_,_ ++ (_ ++ _))=(_,(_ ++ _) ++ _)
  rw [List.append_assoc]
  rfl
theorem grant1_len (s:pm.St) (i:Nat) (q:Int):(pm.grant1 s i q).2.length≤2:=by
 unfold pm.grant1
 split
 ·rename_i v l _ _
  cases neI l.holder 0 with
  | true=>simp
  | false=>cases l.dead <;> simp
 ·simp
theorem grants_len:∀ (l:List (Nat×Int)) (s:pm.St),(pm.grants s l).2.length≤2*l.length
 | [],s=>Nat.le_refl _
 | (i,q) :: r,s=>by
  show ((pm.grant1 s i q).2 ++ (pm.grants (pm.grant1 s i q).1 r).2).length≤_
  rw [List.length_append,List.length_cons]
  have:=grant1_len s i q
  have:=grants_len r (pm.grant1 s i q).1
  omega
theorem settle_ok (hw:Wf m) (hσ : RdSt cx m M now a1 n1 a2 n2 a3 n3 c3 σ) (hI:pm.Iv B σ)
  (h:∀ m' b1 d1 b2 d2 b3 d3 ae ne ce,OwX m m' b1 n1 d1 b2 n2 d2 b3 n3 d3 (pm.settle σ).1 ae ne ce (pm.settle σ).2→ne≤1000→Q (.tuple #[.agg #[.int .i64 M,.int .i64 now,.slice b1 n1 d1,.slice b2 n2 d2,.slice b3 n3 d3],.slice ae ne ce]) m') :
  CallV cx n_model_Settle [.agg #[.int .i64 M,.int .i64 now,.slice a1 n1 c1,.slice a2 n2 c2,.slice a3 n3 c3]] m Q:=by
 apply G_model_Settle_ok; unfold G_model_Settle
 have hl1:=hσ.len1
 have hl2:=hσ.len2
 have z1:=hI.len1
 have k0:Keep m (bump m 2):=(Keep.refl hw).bump
 refine clone_ok k0.wf (hσ.keep hw k0) (iv_small hI.toIw) fun m1 lam b1 d1 b2 d2 b3 d3 ss js ls qs hO=>⟨_,_,_,_,_,_,_,_,_,_,_,rfl,?_⟩
 have hO:=hO.old0 hw k0
 have em:=hσ.em
 have en:=hσ.enow
 refine forN3 (show n1≤4611686018427387904 by omega) (fun k a n c mm=>OwX m mm b1 n1 d1 b2 n2 d2 b3 n3 d3 (turnK σ k) a n c (turnEK σ k)) ⟨lam,ss,js,ls,qs,by rw [turnK_zero]; exact OwE.start hO⟩ ?_
 rintro k a n c m2 hk ⟨lam,ss,js,ls,qs,hE⟩ I w hInv
 have hnlen:=hE.len
 have hnk:=turnE_len σ k
 refine split_lt (fun hlt=>?_) (fun hge=>?_)
 ·obtain ⟨x,hx⟩:∃ x,σ.servs[k]? = some x:=⟨_,List.getElem?_eq_getElem (by omega)⟩
  have hx':=turnK_get hx
  obtain ⟨v,hv⟩:∃ v,ss[k]? = some v:=⟨_,List.getElem?_eq_getElem (by rw [hE.ow.s1n]; exact hlt)⟩
  obtain ⟨b,o,rfl,hlb,hc⟩:=hE.ow.atS hv
  obtain ⟨d0,dj⟩:=hE.ow.ds k v x hv hx'
  refine ⟨⟨by omega,by omega⟩,?_⟩
  rw [vPtr_some]
  have stay:∀ mm,Keep m2 mm→pm.turn1 σ.now x=(x,false)→∃ n',n' < w∧I a n c (addI .i64 (k:Int) 1) mm n':=fun mm km e=>by
   refine hInv a n c mm hlt ⟨lam,ss,js,ls,qs,(hE.then km).cast ?_ ?_⟩
   ·rw [← turnK_succ hx,e]
    show turnK σ k = { turnK σ k with servs:=(turnK σ k).servs.set k x }
    rw [set_self hx']
   ·rw [turnEK_succ hx,e]; simp
  refine joinK_of' (fun f:Mem→Prop=>∀ mm,Keep m2 mm→eqI x.s.mode 0=false→neI x.sec 0=false→f mm) ?_ ?_
  ·intro mm km e1 e2
   refine turn_step (E:=turnEK σ k) (τ:=turnK σ k) (K:=fun a n c m=>∃ n',n' < w∧I a n c (addI .i64 (k:Int) 1) m n') (hE.then km) hv hx' (by omega) (by omega) fun ss' a9 n9 c9 m9 hE9=>?_
   refine hInv a9 n9 c9 m9 hlt ⟨lam,ss',js,ls,qs,hE9.cast ?_ ?_⟩
   ·rw [← turnK_succ hx,turn1_do e1 e2,← en]
   ·rw [turnEK_succ hx,turn1_do e1 e2,← en]
    congr 1
    unfold pm.event
    rw [← en]
  ·intro J hJ
   refine ⟨_,hc 0 _ rfl,_,hc 1 _ rfl,_,hc 2 _ rfl,_,hc 3 _ rfl,_,hc 4 _ rfl,_,hc 5 _ rfl,_,_,_,hc 6 _ rfl,_,hc 7 _ rfl,_,hc 8 _ rfl,_,hc 9 _ rfl,_,hc 10 _ rfl,?_⟩
   refine idle_ok hE.wf fun m3 k3=>⟨_,rfl,?_⟩
   have em0:v.s.mode=x.s.mode:=by rw [show v.s=x.s from d0.s]
   rw [em0]
   refine split_b (fun h1=>stay m3 k3 (turn1_idle (.inl h1))) (fun h1=>?_)
   obtain ⟨b',o',e,_,hc3⟩:=(hE.then k3).ow.atS hv
   cases e
   refine ⟨_,hc3 7 _ rfl,?_⟩
   rw [show v.sec=x.sec from d0.sec]
   exact split_b (fun h2=>stay m3 k3 (turn1_idle (.inr h2))) (fun h2=>hJ m3 k3 h1 h2)
 ·obtain ⟨t1,t2⟩:=turnK_all σ (k:=k) (by omega)
  rw [t1,t2] at hE
  rw [t2] at hnk
  have hI1:=pm.turnS_iv hI
  have hrd:pm.readies (pm.turnS σ)≤σ.servs.length+1:=by
   have:=pm.readies_le (pm.turnS σ)
   have e:(pm.turnS σ).servs.length = σ.servs.length:=by show (σ.servs.map _).length=_; rw [List.length_map]
   omega
  have hT:=refuses_mn (σ.servs.length+1) (pm.turnS σ)
  refine ref_step (E0:=pm.turnE σ) (E1:=[]) (τ:=pm.turnS σ) (f:=σ.servs.length+1) (B:=B) ⟨lam,ss,js,ls,qs,by rw [List.append_nil]; exact hE⟩ em en hI1 hrd (by omega) (by simp; omega) fun a' n' c' more m3 w3 hR hw3=>⟨_,_,_,_,rfl,?_⟩
  rw [List.nil_append] at hR
  have hI2:=pm.refuses_iv (σ.servs.length+1) hI1
  have hEl:(pm.refuses (σ.servs.length+1) (pm.turnS σ)).2.length≤100:=by
   have gen:∀ (n:Nat) (τ : pm.St),(pm.refuses n τ).2.length≤n:=by
    intro n
    induction n with
    | zero=>intro τ; exact Nat.le_refl _
    | succ n ih=>
     intro τ
     unfold pm.refuses
     split
     ·exact Nat.zero_le _
     ·rename_i σ' e hr
      show ((pm.refuses n σ').2.length+1)≤_
      have:=ih σ'
      omega
   have:=gen (σ.servs.length+1) (pm.turnS σ)
   omega
  have hset:pm.settle σ = ((pm.grants (pm.refuses (σ.servs.length+1) (pm.turnS σ)).1 (pm.asks (pm.refuses (σ.servs.length+1) (pm.turnS σ)).1)).1,pm.turnE σ ++ (pm.refuses (σ.servs.length+1) (pm.turnS σ)).2 ++ (pm.grants (pm.refuses (σ.servs.length+1) (pm.turnS σ)).1 (pm.asks (pm.refuses (σ.servs.length+1) (pm.turnS σ)).1)).2):=rfl
  rw [hset] at h
  generalize hTE:pm.refuses (σ.servs.length+1) (pm.turnS σ)=TE at *
  obtain ⟨T,ER⟩:=TE
  simp only at *
  refine ⟨RefInv m b1 n1 d1 b2 n2 d2 b3 n3 d3 B T (pm.turnE σ) ER,⟨w3,hR⟩,?_⟩
  rintro a4 n4 c4 a9 n9 c9 more4 m4 w4 hR4
  cases more4 with
  | true=>
   obtain ⟨τ,E1,f,e,bb,vv,hX,hIτ,rfl,rfl,rfl,hRow,hrd4,eT,eE,ew,hf4,hf5,emτ,enτ⟩:=hR4
   rw [splitB_true]
   obtain ⟨lam4,ss4,js4,ls4,qs4,hE4⟩:=hX
   have hn4:=hE4.len
   rw [List.length_append] at hn4
   obtain ⟨a5,c5,m5,r1,r2,_⟩:=hE4.app (a':=some ⟨bb,0,none⟩) (k:=1) (ck:=1) (F:=[e]) (Arr.of_row encEv_len (l:=[e]) (by simpa using hRow)) (by omega)
   refine ⟨a5,_,c5,m5,r1,?_⟩
   have e1:M = τ.m:=by rw [emτ,hT.1]; exact em
   have e2:now = τ.now:=by rw [enτ,hT.2]; exact en
   refine ref_step (E0:=pm.turnE σ) (E1:=E1 ++ [e]) (τ:=τ) (f:=f) (B:=B) ⟨lam4,ss4,js4,ls4,qs4,by rw [← List.append_assoc]; exact r2⟩ e1 e2 hIτ hrd4 hf4 (by rw [List.length_append]; simp; omega) fun a' n' c' more m6 w6 hR6 hw6=>⟨_,_,_,_,rfl,w6,by omega,?_⟩
   rw [eT] at hR6
   rw [eE]
   have:E1 ++ [e] ++ (pm.refuses f τ).2=E1 ++ e :: (pm.refuses f τ).2:=by simp
   rw [this] at hR6
   exact hR6
  | false=>
   obtain ⟨hX,rfl⟩:=hR4
   rw [splitB_false]
   obtain ⟨lam4,ss4,js4,ls4,qs4,hE4⟩:=hX
   have e1:M=T.m:=by rw [hT.1]; exact em
   have e2:now=T.now:=by rw [hT.2]; exact en
   have hn4:=hE4.len
   rw [List.length_append] at hn4
   have hk4:(pm.turnE σ).length≤32:=by omega
   have hM1:=hI2.m1
   have hM2:=hI2.m2
   have hz3:=hI2.len3
   have hz1:=hI2.len1
   have l3:=hE4.ow.s3n
   have l1:=hE4.ow.s1d
   have l2:=hE4.ow.s2d
   refine asks_ok hE4.wf (hE4.ow.reads (cx:=cx) e1 e2 sBack) (by omega) (by omega) (by omega) (by omega) hI2.rise (iv_busy hI2) fun m5 ap cp aq cq k5 hP hQ np nq=>⟨_,_,_,_,_,_,rfl,?_⟩
   have hask:=pm.asks_asker hI2
   have hand:=pm.asks_nd hI2
   have hlenL:(pm.asks T).length≤64:=by
    rw [asks_eq]
    refine Nat.le_trans (List.length_filterMap_le _ _) ?_
    have:=runners_len T hM1
    omega
   generalize pm.asks T=L at *
   have hE5:=hE4.then k5
   obtain ⟨lam5,hE5,hlp,hch⟩:=hE5.hold encI_len (by omega) hP (fun b hb=>.inl (hE4.ow.noNew (np b hb))) (fun b hb hs=>by have:=hE4.evlt b hs; have:=np b hb; omega)
   obtain ⟨lam6,hE6,hlq,hch2⟩:=hE5.hold encI_len (by omega) hQ (fun b hb=>by
    rcases (hch b).1 with e | e
    ·rw [e]; exact .inl (hE4.ow.noNew (nq b hb))
    ·exact .inr e) (fun b hb hs=>by have:=hE4.evlt b hs; have:=nq b hb; omega)
   have hlp':L.map (fun x=>(x.1:Int))≠[]→∀ b∈blk ap,lam6 b = .pr:=fun hne b hb=>by
    have:=hlp hne b hb
    rw [(hch2 b).2 (by rw [this]; simp)]; exact this
   refine forN3 (show L.length≤4611686018427387904 by omega) (fun k a n c mm=>∃ lam ss js ls qs,OwE (fun _=>.own true) (fun _=>.own true) m mm lam b1 n1 d1 b2 n2 d2 b3 n3 d3 ss js ls qs (pm.grants T (L.take k)).1 a n c (pm.turnE σ ++ ER ++ (pm.grants T (L.take k)).2) ∧
    Arr encI 1 mm ap L.length (L.map fun x=>(x.1:Int))∧Arr encI 1 mm aq L.length (L.map (·.2))∧(L.map (fun x=>(x.1:Int))≠[]→∀ b∈blk ap,lam b = .pr)∧(L.map (·.2)≠[]→∀ b∈blk aq,lam b = .pr))
    ⟨lam6,ss4,js4,ls4,qs4,by rw [List.take_zero]; show OwE _ _ _ _ _ _ _ _ _ _ _ _ _ _ _ _ _ _ T _ _ _ (_ ++ []); rw [List.append_nil]; exact hE6,hP,hQ,hlp',hlq⟩ ?_
   rintro k a n c m7 hk ⟨lam,ss,js,ls,qs,hE,hP,hQ,hlp,hlq⟩ I3 w3' hInv3
   have hgl:=grants_len (L.take k) T
   rw [List.length_take] at hgl
   have hn7:=hE.len
   rw [List.length_append,List.length_append] at hn7
   refine split_lt (fun hlt=>?_) (fun hge=>?_)
   ·obtain ⟨p,hp⟩:∃ p,L[k]? = some p:=⟨_,List.getElem?_eq_getElem hlt⟩
    have hpm:=List.mem_of_getElem? hp
    obtain ⟨x,hx0,hsec,hhs,q1,q2,hmode⟩:=hask p hpm
    have htk:∀ r∈L.take k,r.1≠p.1:=fun r hr e=>by
     obtain ⟨i,hi⟩:=List.getElem?_of_mem hr
     rw [List.getElem?_take] at hi
     split at hi
     ·rename_i hik
      have:=pm.nodup_at hand (i:=i) (j:=k) (x:=p.1) (by rw [List.getElem?_map,hi]; simp [e]) (by rw [List.getElem?_map,hp]; rfl)
      omega
     ·cases hi
    obtain ⟨hIk,hGk⟩:=pm.grants_iw (L:=L.take k) hI2.toIw (fun r hr=>hask r (List.mem_of_mem_take hr)) (by rw [List.map_take]; exact hand.sublist (List.take_sublist _ _))
    have hsnoc:pm.grants T (L.take (k+1))=((pm.grant1 (pm.grants T (L.take k)).1 p.1 p.2).1,(pm.grants T (L.take k)).2 ++ (pm.grant1 (pm.grants T (L.take k)).1 p.1 p.2).2):=by
     rw [List.take_add_one,hp]; exact grants_snoc _ _ _
    rw [hsnoc] at hInv3
    obtain ⟨i,q⟩:=p
    simp only at hx0 hhs q1 q2 hInv3 htk
    obtain ⟨qn,rfl⟩:∃ qn:Nat,q=(qn:Int)+1:=⟨(q - 1).toNat,by omega⟩
    have enk:now=(pm.grants T (L.take k)).1.now:=by rw [hGk.now]; exact e2
    have hx:=(hGk.other i htk).trans hx0
    have hsl:=hGk.sems
    have hz2:=hIk.len2
    generalize (pm.grants T (L.take k)).1 = τ at *
    generalize (pm.grants T (L.take k)).2=Eg at *
    obtain ⟨l,hl⟩:∃ l,τ.sems[qn]? = some l:=⟨_,List.getElem?_eq_getElem (by omega)⟩
    rw [pm.grant1_eq hx hl] at hInv3
    have hil:=(List.getElem?_eq_some_iff.1 hx).1
    have l1':=hE.ow.s1d
    have l2':=hE.ow.s2d
    have hql:=iv_get hIk hl
    obtain ⟨v,hv⟩:∃ v,ss[i]? = some v:=⟨_,List.getElem?_eq_getElem (by rw [hE.ow.s1n]; omega)⟩
    obtain ⟨u,hu⟩:∃ u,ls[qn]? = some u:=⟨_,List.getElem?_eq_getElem (by rw [hE.ow.s2n]; omega)⟩
    obtain ⟨d0,dj⟩:=hE.ow.ds i v x hv hx
    obtain ⟨dl0,dq0⟩:=hE.ow.dl qn u l hu hl
    have F0:PrF lam m7 m7:=PrF.refl _ _
    refine hP.open (k:=k) (x:=(i:Int)) (by rw [List.getElem?_map,hp]; rfl) fun bp op hcp=>⟨_,hcp 0 _ rfl,?_⟩
    obtain ⟨b,o,rfl,hlb,_⟩:=hE.ow.atS hv
    refine ⟨⟨by omega,by omega⟩,?_⟩
    rw [vPtr_some]
    have kb:Keep m7 (bump m7 14):=(Keep.refl hE.wf).bump
    have hEb:=hE.then kb
    refine (hQ.keep hE.wf kb).open (k:=k) (x:=(qn:Int)+1) (by rw [List.getElem?_map,hp]; rfl) fun bq oq hcq=>⟨_,hcq 0 _ rfl,?_⟩
    have ej:subI .i64 ((qn:Int)+1) 1=(qn:Int):=by rw [subI_64 (by omega) (by omega)]; omega
    rw [ej]
    obtain ⟨bl,ol,rfl,hlbl,hcl⟩:=hEb.ow.atL hu
    refine ⟨⟨by omega,by omega⟩,?_⟩
    rw [vPtr_some]
    refine ⟨_,hcl 1 _ rfl,?_⟩
    rw [show u.holder=l.holder from dl0.holder]
    refine split_b (fun hh=>?_) (fun hh=>?_)
    ·
     rw [hh,cond_true] at hInv3
     obtain ⟨g1,hE1⟩:=hEb.setS (x':={ x with sec:=1 }) (v':={ v with sec:=1 }) (k:=7) (vs:=[.int .i64 1]) hv hx rfl (by simp) rfl ⟨rfl,rfl,rfl⟩ rfl ⟨d0.id,d0.s,rfl,d0.held,d0.num,d0.ran⟩
     refine ⟨g1,?_⟩
     rw [mBind_iff]
     have F1:=(F0.keep kb).wr (b:=b) (o:=o+Int.toNat (i:Int)*11+7) (l:=[.int .i64 1]) (by rw [hlb]; simp)
     generalize wr (bump m7 14) b (o+Int.toNat (i:Int)*11+7) [.int .i64 1]=m8 at hE1 F1
     have hv1:=set_get (y:={ v with sec:=1 }) hv
     have k8:Keep m8 (bump m8 14):=(Keep.refl hE1.wf).bump
     obtain ⟨bl',ol',e,_,hcl2⟩:=(hE1.then k8).ow.atL hu
     cases e
     obtain ⟨b',o',e,_,hcs2⟩:=(hE1.then k8).ow.atS hv1
     cases e
     refine ⟨_,_,_,hcl2 2 _ rfl,_,hcs2 0 _ rfl,?_⟩
     have kP:Keep m8 (addO (bump m8 14) (m8.nx+9) (row [.int .i64 v.id] t_int false)):=k8.addO (by omega) (by simp)
     have hR:Row (addO (bump m8 14) (m8.nx+9) (row [.int .i64 v.id] t_int false)) (m8.nx+9) [.int .i64 v.id] t_int false:=Row.of_row (by rw [addO_get,if_pos rfl])
     generalize addO (bump m8 14) (m8.nx+9) (row [.int .i64 v.id] t_int false)=m9 at kP hR
     have hun:u.qn≤32:=by
      have:=(hE.ow.qu qn u hu).arr encI_len
      rw [← this.1,dq0]; exact hql
     obtain ⟨m10,r1,r2,r3,S,r4,r5⟩:=(hE1.then kP).pushQ (x:=v.id) (xa:=some ⟨m8.nx+9,0,none⟩) hu hl rfl rfl (hR.first1 rfl) (by omega)
     refine ⟨_,_,_,m10,r1,r2,?_⟩
     rw [mBind_iff,mBind_iff]
     have F2:=(F1.keep kP).fr r4 (fun b hb=>by rcases r5 b hb with h | ⟨k,h⟩ <;> rw [h] <;> simp)
     have hpr:∀ b,lam b = .pr→upF lam m9.nx (.qu qn) b = .pr:=fun b hb=>by
      rw [upF_ne (fun e=>by have:=(hE1.then kP).ow.noNew (b:=b) (by omega); rw [hb] at this; cases this)]; exact hb
     refine hInv3 a n c _ hlt ⟨_,_,_,_,_,r3.cast ?_ ?_,F2.arr hE.wf hP hlp,F2.arr hE.wf hQ hlq,fun hne b hb=>hpr b (hlp hne b hb),fun hne b hb=>hpr b (hlq hne b hb)⟩
     ·rw [show v.id=x.id from d0.id]
     ·rw [List.append_nil]
    ·
     rw [hh,cond_false] at hInv3
     refine joinK_of' (fun f:Option Addr→Nat→Nat→Mem→Prop=>∀ a9 n9 c9 mm,OwE (fun _=>.own true) (fun _=>.own true) m mm lam (some ⟨b,o,none⟩) n1 d1 (some ⟨bl,ol,none⟩) n2 d2 b3 n3 d3 ss js ls qs τ a9 n9 c9 (pm.turnE σ ++ ER ++ Eg ++ (bif l.dead then [pm.event τ 7 x.id 0] else []))→PrF lam m7 mm→f a9 n9 c9 mm) ?_ ?_
     ·intro a9 n9 c9 mm hEm Fm
      have hn9:=hEm.len
      rw [List.length_append,List.length_append,List.length_append] at hn9
      have hdl:(bif l.dead then [pm.event τ 7 x.id 0] else []).length≤1:=by cases l.dead <;> simp
      obtain ⟨b',o',e,_,hcs⟩:=hEm.ow.atS hv
      cases e
      refine ⟨_,hcs 0 _ rfl,?_⟩
      obtain ⟨g1,hE1⟩:=hEm.setL (x':={ l with holder:=x.id }) (v':={ u with holder:=v.id }) (k:=1) (vs:=[.int .i64 v.id]) hu hl rfl (by simp) rfl ⟨rfl,rfl,rfl⟩ rfl ⟨dl0.most,d0.id,dl0.dead⟩
      refine ⟨g1,?_⟩
      rw [mBind_iff]
      have F1:=Fm.wr (b:=bl) (o:=ol+Int.toNat (qn:Int)*4+1) (l:=[.int .i64 v.id]) (by rw [hlbl]; simp)
      generalize wr mm bl (ol+Int.toNat (qn:Int)*4+1) [.int .i64 v.id]=m8 at hE1 F1
      have hu1:=set_get (y:={ u with holder:=v.id }) hu
      have hl1':=set_get (y:={ l with holder:=x.id }) hl
      obtain ⟨g2,hE2⟩:=hE1.setL (x':={ l with holder:=x.id,dead:=false }) (v':={ u with holder:=v.id,dead:=false }) (k:=3) (vs:=[.bool false]) hu1 hl1' rfl (by simp) rfl ⟨rfl,rfl,rfl⟩ rfl ⟨dl0.most,d0.id,rfl⟩
      refine ⟨g2,?_⟩
      rw [mBind_iff]
      have F2:=F1.wr (b:=bl) (o:=ol+Int.toNat (qn:Int)*4+3) (l:=[.bool false]) (by rw [hlbl]; simp)
      generalize wr m8 bl (ol+Int.toNat (qn:Int)*4+3) [.bool false]=m9 at hE2 F2
      obtain ⟨g3,hE3⟩:=hE2.setS (x':={ x with sec:=2 }) (v':={ v with sec:=2 }) (k:=7) (vs:=[.int .i64 2]) hv hx rfl (by simp) rfl ⟨rfl,rfl,rfl⟩ rfl ⟨d0.id,d0.s,rfl,d0.held,d0.num,d0.ran⟩
      refine ⟨g3,?_⟩
      rw [mBind_iff]
      have F3:=F2.wr (b:=b) (o:=o+Int.toNat (i:Int)*11+7) (l:=[.int .i64 2]) (by rw [hlb]; simp)
      generalize wr m9 b (o+Int.toNat (i:Int)*11+7) [.int .i64 2]=m10 at hE3 F3
      have hv3:=set_get (y:={ v with sec:=2 }) hv
      have hx3:=set_get (y:={ x with sec:=2 }) hx
      obtain ⟨g4,hE4⟩:=hE3.setS (x':={ x with sec:=2,held:=0 }) (v':={ v with sec:=2,held:=0 }) (k:=8) (vs:=[.int .i64 0]) hv3 hx3 rfl (by simp) rfl ⟨rfl,rfl,rfl⟩ rfl ⟨d0.id,d0.s,rfl,rfl,d0.num,d0.ran⟩
      refine ⟨g4,?_⟩
      rw [mBind_iff]
      have F4:=F3.wr (b:=b) (o:=o+Int.toNat (i:Int)*11+8) (l:=[.int .i64 0]) (by rw [hlb]; simp)
      generalize wr m10 b (o+Int.toNat (i:Int)*11+8) [.int .i64 0]=m11 at hE4 F4
      have hv4:=set_get (y:={ v with sec:=2,held:=0 }) hv3
      have kc:Keep m11 (bump m11 14):=(Keep.refl hE4.wf).bump
      obtain ⟨b',o',e,_,hcs4⟩:=(hE4.then kc).ow.atS hv4
      cases e
      refine ⟨_,hcs4 0 _ rfl,?_⟩
      refine ((F4.keep kc).arr hE.wf hQ hlq).open (k:=k) (x:=(qn:Int)+1) (by rw [List.getElem?_map,hp]; rfl) fun bq2 oq2 hcq2=>⟨_,hcq2 0 _ rfl,?_⟩
      refine hE4.tell (by omega) (by omega) fun a12 c12 m12 hE12 f12=>?_
      have F5:=F4.fr f12 (fun b hb=>by rw [(hE4.evn b hb).2]; simp)
      refine hInv3 a12 _ c12 m12 hlt ⟨lam,_,_,_,_,hE12.cast ?_ ?_,F5.arr hE.wf hP hlp,F5.arr hE.wf hQ hlq,hlp,hlq⟩
      ·simp [List.set_set]
      ·show _=pm.turnE σ ++ ER ++ (Eg ++ ((bif l.dead then [pm.event τ 7 x.id 0] else []) ++ [pm.event τ 6 x.id ((qn:Int)+1)]))
       simp only [List.append_assoc]
       unfold pm.event
       rw [enk,show v.id=x.id from d0.id]
     ·intro J hJ
      refine ⟨_,hcl 3 _ rfl,?_⟩
      rw [show u.dead=l.dead from dl0.dead]
      refine split_b (fun hd=>?_) (fun hd=>?_)
      ·rw [hd,cond_true] at hJ
       have kc:Keep m7 (bump m7 24):=(Keep.refl hE.wf).bump
       obtain ⟨b',o',e,_,hcs4⟩:=(hE.then kc).ow.atS hv
       cases e
       refine ⟨_,hcs4 0 _ rfl,?_⟩
       have e20:(bump m7 14).nx+7=m7.nx+21:=by show m7.nx+14+7=m7.nx+21; omega
       rw [e20]
       refine hE.tell (d:=21) (by omega) (by omega) fun a12 c12 m12 hE12 f12=>?_
       have F5:=F0.fr f12 (fun b hb=>by rw [(hE.evn b hb).2]; simp)
       refine hJ a12 _ c12 m12 (hE12.cast rfl ?_) F5
       unfold pm.event
       rw [enk,show v.id=x.id from d0.id]
      ·rw [hd,cond_false,List.append_nil] at hJ
       exact hJ a n c _ hEb (F0.keep kb)
   ·have:L.take k=L:=List.take_of_length_le (by omega)
    rw [this] at hE hgl hn7
    refine h m7 _ _ _ _ _ _ _ _ _ ⟨lam,ss,js,ls,qs,hE⟩ ?_
    omega
end
end Go.Proofs.YtiehbnmpaeedpaaGreat.vc
