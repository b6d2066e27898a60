import Derived.Test.YtiehbnmpaeedpaaGreatQR46
import Derived.Test.YtiehbnmpaeedpaaGreatQR33
import Derived.Test.YtiehbnmpaeedpaaGreatQR35
namespace Go.Proofs.YtiehbnmpaeedpaaGreat.vc
open Go Go.AX
set_option linter.unusedVariables false
set_option linter.unusedSimpArgs false
set_option linter.unusedSectionVars false
structure OwE (wj wq:Nat→Kd) (m0 m:Mem) (lam:Nat→Lb) (a1:Option Addr) (n1 c1:Nat) (a2:Option Addr) (n2 c2:Nat) (a3:Option Addr) (n3 c3:Nat) (ss:List SV) (js:Nat→List JV) (ls:List LV) (qs:Nat→List Int) (σ : pm.St) (ae:Option Addr) (ne ce:Nat) (E:List pm.Ev):Prop where
 ow:Ow TT wj wq m0 m lam a1 n1 c1 a2 n2 c2 a3 n3 c3 ss js ls qs σ
 ev:Grow m ae ne ce 4 t_model_Event (E.flatMap encEv)
 evn:∀ b∈blk ae,m0.nx≤b∧lam b = .no
section
variable {wj wq wj' wq':Nat→Kd} {m0 m m':Mem} {lam:Nat→Lb} {Q:Value→Mem→Prop} {M now:Int} {a1 a2 a3 ae:Option Addr} {n1 c1 n2 c2 n3 c3 ne ce:Nat} {ss ss':List SV} {js js':Nat→List JV} {ls ls':List LV} {qs qs':Nat→List Int} {σ σ':pm.St} {E:List pm.Ev}
theorem OwE.wf (h:OwE wj wq m0 m lam a1 n1 c1 a2 n2 c2 a3 n3 c3 ss js ls qs σ ae ne ce E):Wf m:=h.ow.keep.wf
theorem OwE.evlt (h:OwE wj wq m0 m lam a1 n1 c1 a2 n2 c2 a3 n3 c3 ss js ls qs σ ae ne ce E):∀ b∈blk ae,b < m.nx:=h.ev.blk_lt h.wf
theorem OwE.arr (h:OwE wj wq m0 m lam a1 n1 c1 a2 n2 c2 a3 n3 c3 ss js ls qs σ ae ne ce E):Arr encEv 4 m ae ne E:=Arr.of_grow encEv_len (by omega) h.ev
theorem OwE.len (h:OwE wj wq m0 m lam a1 n1 c1 a2 n2 c2 a3 n3 c3 ss js ls qs σ ae ne ce E):E.length=ne:=h.arr.1
theorem OwE.go (h:OwE wj wq m0 m lam a1 n1 c1 a2 n2 c2 a3 n3 c3 ss js ls qs σ ae ne ce E) (hO:Ow TT wj' wq' m0 m' lam a1 n1 c1 a2 n2 c2 a3 n3 c3 ss' js' ls' qs' σ') (hf:∃ S,Fr m m' S∧∀ b∈S,lam b≠.no):OwE wj' wq' m0 m' lam a1 n1 c1 a2 n2 c2 a3 n3 c3 ss' js' ls' qs' σ' ae ne ce E:=by
 obtain ⟨S,f,hS⟩:=hf
 exact ⟨hO,h.ev.fr f h.wf (fun b hb hs=>hS b hs (h.evn b hb).2),h.evn⟩
theorem OwE.then (h:OwE wj wq m0 m lam a1 n1 c1 a2 n2 c2 a3 n3 c3 ss js ls qs σ ae ne ce E) (k:Keep m m'):OwE wj wq m0 m' lam a1 n1 c1 a2 n2 c2 a3 n3 c3 ss js ls qs σ ae ne ce E:=
 h.go (h.ow.then k) ⟨[],k.fr [],fun b hb=>by cases hb⟩
theorem OwE.cast (h:OwE wj wq m0 m lam a1 n1 c1 a2 n2 c2 a3 n3 c3 ss js ls qs σ ae ne ce E) {F:List pm.Ev} (e:σ = σ') (e2:E=F):OwE wj wq m0 m lam a1 n1 c1 a2 n2 c2 a3 n3 c3 ss js ls qs σ' ae ne ce F:=e ▸ e2 ▸ h
theorem OwE.start (h:Ow TT wj wq m0 m lam a1 n1 c1 a2 n2 c2 a3 n3 c3 ss js ls qs σ):OwE wj wq m0 m lam a1 n1 c1 a2 n2 c2 a3 n3 c3 ss js ls qs σ none 0 0 []:=⟨h,Grow.nil _ _ _,fun b hb=>by cases hb⟩
theorem OwE.setS (h:OwE wj wq m0 m lam a1 n1 c1 a2 n2 c2 a3 n3 c3 ss js ls qs σ ae ne ce E) {b o i k:Nat} {v v':SV} {vs:List Value} {x x':pm.Serv} (hv:ss[i]? = some v) (hx:σ.servs[i]? = some x) (hab:a1=some ⟨b,o,none⟩) (hk:k+vs.length≤11) (he:over (encS v) k vs=encS v') (ej:v'.ja=v.ja∧v'.jn=v.jn∧v'.jc=v.jc) (ex:x'.jobs=x.jobs) (hd:DpServ v' x') :
  okW m b (o+Int.toNat (i:Int)*11+k) vs.length∧OwE wj wq m0 (wr m b (o+Int.toNat (i:Int)*11+k) vs) lam a1 n1 c1 a2 n2 c2 a3 n3 c3 (ss.set i v') js ls qs { σ with servs:=σ.servs.set i x' } ae ne ce E:=by
 obtain ⟨g1,g2⟩:=h.ow.setS (κ:=wj i) (js':=js i) (x':=x') hv hab hk he (by obtain ⟨e1,e2,e3⟩:=ej; rw [e1,e2,e3]; exact h.ow.jb i v hv) ⟨hd,by rw [ex]; exact (h.ow.ds i v x hv hx).2⟩
 rw [upF_id,upF_id] at g2
 refine ⟨g1,h.go g2 ⟨[b],(Fr.refl m [b]).wr (.inl (by simp)),fun b' hb'=>?_⟩⟩
 rw [List.mem_singleton.1 hb',h.ow.s1l b (by rw [hab]; simp [blk])]; simp
theorem OwE.setL (h:OwE wj wq m0 m lam a1 n1 c1 a2 n2 c2 a3 n3 c3 ss js ls qs σ ae ne ce E) {b o i k:Nat} {v v':LV} {vs:List Value} {x x':pm.Lock} (hv:ls[i]? = some v) (hx:σ.sems[i]? = some x) (hab:a2=some ⟨b,o,none⟩) (hk:k+vs.length≤4) (he:over (encL v) k vs=encL v') (ej:v'.qa=v.qa∧v'.qn=v.qn∧v'.qc=v.qc) (ex:x'.queue=x.queue) (hd:DpLock v' x') :
  okW m b (o+Int.toNat (i:Int)*4+k) vs.length∧OwE wj wq m0 (wr m b (o+Int.toNat (i:Int)*4+k) vs) lam a1 n1 c1 a2 n2 c2 a3 n3 c3 ss js (ls.set i v') qs { σ with sems:=σ.sems.set i x' } ae ne ce E:=by
 obtain ⟨g1,g2⟩:=h.ow.setL (κ:=wq i) (qs':=qs i) (x':=x') hv hab hk he (by obtain ⟨e1,e2,e3⟩:=ej; rw [e1,e2,e3]; exact h.ow.qu i v hv) ⟨hd,by rw [ex]; exact (h.ow.dl i v x hv hx).2⟩
 rw [upF_id,upF_id] at g2
 refine ⟨g1,h.go g2 ⟨[b],(Fr.refl m [b]).wr (.inl (by simp)),fun b' hb'=>?_⟩⟩
 rw [List.mem_singleton.1 hb',h.ow.s2l b (by rw [hab]; simp [blk])]; simp
theorem OwE.app (h:OwE wj wq m0 m lam a1 n1 c1 a2 n2 c2 a3 n3 c3 ss js ls qs σ ae ne ce E) {a':Option Addr} {k ck:Nat} {F:List pm.Ev} (hF:Arr encEv 4 m a' k F) (hn:ne+k≤1000000) :
  ∃ a9 c9 m9,appendA cx m [t_sl_model_Event,t_sl_model_Event] [.slice ae ne ce,.slice a' k ck]=some (.slice a9 (ne+k) c9,m9)∧OwE wj wq m0 m9 lam a1 n1 c1 a2 n2 c2 a3 n3 c3 ss js ls qs σ a9 (ne+k) c9 (E ++ F)∧Fr m m9 (blk ae):=by
 obtain ⟨i,z,h1,h2,h3,h4,h5,h6,h7⟩:=pushT_of (cx:=cx) (t:=t_sl_model_Event) (e:=t_model_Event) (s:=4) (by kernel_rfl)
 have hw:=h.wf
 by_cases hk:k=0
 ·subst hk
  have hF0:F=[]:=List.length_eq_zero_iff.1 hF.1
  subst hF0
  have hc:ce=ne:=by
   rcases h.ev.2 with ⟨_,q1,q2⟩ | ⟨_,_,q2,_⟩ <;> omega
  subst hc
  refine ⟨ae,ce,m,?_,by simpa using h,Fr.refl _ _⟩
  unfold appendA
  have hf:firstL m i.size 0 (.slice a' 0 ck)=some []:=by cases a' <;> rfl
  have b1:(Nat.beq ([]:List Value).length (0*i.size) && Nat.blt 0 i.size && ([]:List Value).all one1)=true:=by
   rw [h3,Nat.zero_mul,show Nat.blt 0 4=true from rfl]; rfl
  simp only [h1,h2,lenV,isRowD,hf,b1,Nat.ble_eq_true_of_le (show ce+0≤ce by omega)]
  cases ae <;> rfl
 ·have hbb:(2*(ne+k)+192)*i.bytes≤140737488355328:=by
   have h1:(2*(ne+k)+192)≤2000192:=by omega
   have h2:=Nat.mul_le_mul h1 h7
   omega
  obtain ⟨m',q1,q2,q3,q4,q5⟩:=append_grow h.ev h1 h1 rfl h2 h3 h4 h5 h6 (x:=.slice a' k ck) (k:=k) rfl (hF.first encEv_len h6) (by rw [flat_length encEv_len,hF.1]) (by
   rw [List.all_eq_true]
   intro v hv
   obtain ⟨x,_,hx⟩:=List.mem_flatMap.1 hv
   exact List.all_eq_true.1 (encEv_one1 x) v hx) (by omega) hbb (by omega)
  have hbl:=h.evlt
  have q5':∀ b',b'≠m.nx→b'∉blk ae→m'.hp.get b'=m.hp.get b':=fun b' h1 h2=>q5 b' h1 (fun b e e'=>h2 (by rw [e,e']; simp [blk]))
  have hgl:=h.ev.1
  have hw':Wf m':=⟨by have:=hw.1; omega,fun b hb=>by
   rw [q5' b (by omega) (fun h=>by have:=hbl b h; omega)]
   exact hw.2 b (by omega)⟩
  have f:Fr m m' (blk ae):=⟨by omega,q3,fun b hb hn'=>q5' b (by omega) hn'⟩
  refine ⟨_,_,m',q1,⟨h.ow.fr hw' f (fun b hb=>(h.evn b hb).2),⟨?_,.inr ⟨_,rfl,rfl,?_,?_⟩⟩,fun b hb=>?_⟩,f⟩
  ·rw [List.flatMap_append,List.length_append,hgl,flat_length encEv_len,hF.1,Nat.add_mul]
  ·rw [q3]; exact hw.1
  ·rw [List.flatMap_append]; exact q4
  ·simp [blk] at hb
   subst hb
   exact ⟨h.ow.keep.nx,h.ow.noNew (Nat.le_refl _)⟩
theorem OwE.tell {k d:Nat} {kind who num:Int} {K:Option Addr→Nat→Nat→Mem→Prop} (h:OwE wj wq m0 m lam a1 n1 c1 a2 n2 c2 a3 n3 c3 ss js ls qs σ ae ne ce E) (hn:ne≤100000) (hd:d < k)
  (hK:∀ a9 c9 m9,OwE wj wq m0 m9 lam a1 n1 c1 a2 n2 c2 a3 n3 c3 ss js ls qs σ a9 (ne+1) c9 (E ++ [⟨now,kind,who,num⟩])→Fr m m9 (blk ae)→K a9 (ne+1) c9 m9) :
  CallV cx n_model_State_event [.agg #[.int .i64 M,.int .i64 now,.slice a1 n1 c1,.slice a2 n2 c2,.slice a3 n3 c3],.int .i64 kind,.int .i64 who,.int .i64 num] (bump m k) fun r m9=>
   ∃ (x1:Int),(∃ (x2:Int),(∃ (x3:Int),(∃ (x4:Int),r=(.agg #[.int .i64 x1,.int .i64 x2,.int .i64 x3,.int .i64 x4])∧(∃ (a84:Option Addr) (n84 c84:Nat) (m10:Mem),appendA cx (addO m9 (m.nx+d) (row [.int .i64 x1,.int .i64 x2,.int .i64 x3,.int .i64 x4] t_model_Event false)) [t_sl_model_Event,t_sl_model_Event] [.slice ae ne ce,.slice (some ⟨m.nx+d,0,none⟩) 1 1]=some (.slice a84 n84 c84,m10)∧(mBind m10 fun m11=>K a84 n84 c84 m11))))):=by
 have hw:=h.wf
 have k10:Keep m (bump m k):=(Keep.refl hw).bump
 have x10:(bump m k).nx=m.nx+k:=rfl
 refine event_ok k10.wf fun m9 k11=>⟨_,_,_,_,rfl,?_⟩
 have x11:=k11.nx
 have k12:Keep m (addO m9 (m.nx+d) (row [.int .i64 now,.int .i64 kind,.int .i64 who,.int .i64 num] t_model_Event false)):=(k10.trans k11).addO (by omega) (by omega)
 have hR:Row (addO m9 (m.nx+d) (row [.int .i64 now,.int .i64 kind,.int .i64 who,.int .i64 num] t_model_Event false)) (m.nx+d) [.int .i64 now,.int .i64 kind,.int .i64 who,.int .i64 num] t_model_Event false:=Row.of_row (by rw [addO_get,if_pos rfl])
 generalize addO m9 (m.nx+d) (row [.int .i64 now,.int .i64 kind,.int .i64 who,.int .i64 num] t_model_Event false)=m10 at k12 hR
 obtain ⟨a9,c9,m11,q1,q2,q3⟩:=(h.then k12).app (a':=some ⟨m.nx+d,0,none⟩) (k:=1) (ck:=1) (F:=[⟨now,kind,who,num⟩]) (Arr.of_row encEv_len (l:=[(⟨now,kind,who,num⟩:pm.Ev)]) hR) (by omega)
 refine ⟨a9,_,c9,m11,q1,?_⟩
 rw [mBind_iff]
 exact hK a9 c9 m11 q2 ((k12.fr (blk ae)).trans q3 (fun b hb=>.inl hb))
theorem OwE.stay (h:OwE wj wq m0 m lam a1 n1 c1 a2 n2 c2 a3 n3 c3 ss js ls qs σ ae ne ce E) {b0:Nat} (hb0:lam b0 = .no) (hlt:b0 < m.nx) (hne:b0∉blk ae):OwE wj wq m0 m (upF lam b0 .pr) a1 n1 c1 a2 n2 c2 a3 n3 c3 ss js ls qs σ ae ne ce E:=
 ⟨h.ow.own hb0 hlt,h.ev,fun b hb=>⟨(h.evn b hb).1,(upF_ne (f:=lam) (k:=b) (i:=b0) (fun e=>hne (by rw [← e]; exact hb))).trans (h.evn b hb).2⟩⟩
theorem OwE.pushQ (h:OwE wj wq m0 m lam a1 n1 c1 a2 n2 c2 a3 n3 c3 ss js ls qs σ ae ne ce E) {j b o:Nat} {u:LV} {l:pm.Lock} {x:Int} {xa:Option Addr} (hu:ls[j]? = some u) (hl:σ.sems[j]? = some l) (hab:a2=some ⟨b,o,none⟩) (hκ : wq j = .own true) (hx:firstL m 1 1 (.slice xa 1 1)=some [.int .i64 x]) (hn:u.qn≤900000) :
  ∃ m',appendA cx m [t_sl_int,t_sl_int] [.slice u.qa u.qn u.qc,.slice xa 1 1]=some (.slice (some ⟨m.nx,0,none⟩) (u.qn+1) (u.qn+1),m')∧okW m' b (o+Int.toNat (j:Int)*4+2) 1 ∧
   OwE wj wq m0 (wr m' b (o+Int.toNat (j:Int)*4+2) [.slice (some ⟨m.nx,0,none⟩) (u.qn+1) (u.qn+1)]) (upF lam m.nx (.qu j)) a1 n1 c1 a2 n2 c2 a3 n3 c3 ss js (ls.set j { u with qa:=some ⟨m.nx,0,none⟩,qn:=u.qn+1,qc:=u.qn+1 }) (upF qs j (qs j ++ [x])) { σ with sems:=σ.sems.set j { l with queue:=l.queue ++ [x] } } ae ne ce E ∧
   ∃ S,Fr m (wr m' b (o+Int.toNat (j:Int)*4+2) [.slice (some ⟨m.nx,0,none⟩) (u.qn+1) (u.qn+1)]) S∧∀ b∈S,lam b = .lk∨∃ k,lam b = .qu k:=by
 have hw:=h.wf
 have hH:=h.ow.qu j u hu
 rw [hκ] at hH
 obtain ⟨p1,p2,p3⟩:=hH
 obtain ⟨m',q1,q2,q3,q4,q5⟩:=own_push (cx:=cx) (t:=t_sl_int) (e:=t_int) (s:=1) (vs:=[.int .i64 x]) (by kernel_rfl) hw (by have:=h.ow.keep.fl; have:=h.ow.fl0; omega) p1.own (by rw [flat_length encI_len,p3]) hx rfl rfl hn
 have hR:Row m' m.nx ((qs j ++ [x]).flatMap encI) t_int true:=by rw [List.flatMap_append]; exact q5
 obtain ⟨g1,g2⟩:=h.ow.pushQ hu hl hab q2 q3 hκ (Nat.le_refl _) (by omega) hR
 have hlb:lam b = .lk:=h.ow.s2l b (by rw [hab]; simp [blk])
 have f2:Fr m (wr m' b (o+Int.toNat (j:Int)*4+2) [.slice (some ⟨m.nx,0,none⟩) (u.qn+1) (u.qn+1)]) (b :: blk u.qa):=(q3.mono (S':=b :: blk u.qa) (fun b' hb'=>.inl (List.mem_cons_of_mem _ hb'))).wr (.inl (List.mem_cons_self ..))
 have hS:∀ b'∈b :: blk u.qa,lam b' = .lk∨∃ k,lam b' = .qu k:=fun b' hb'=>by
  rcases List.mem_cons.1 hb' with e | hb'
  ·subst e; exact .inl hlb
  ·exact .inr ⟨j,p2 b' hb'⟩
 refine ⟨m',q1,g1,⟨g2,h.ev.fr f2 hw (fun b' hb' hs=>?_),fun b' hb'=>⟨(h.evn b' hb').1,?_⟩⟩,_,f2,hS⟩
 ·have:=(h.evn b' hb').2
  rcases hS b' hs with e | ⟨k,e⟩ <;> rw [e] at this <;> cases this
 ·rw [upF_ne (fun e=>by have:=h.evlt b' hb'; omega)]; exact (h.evn b' hb').2
end
structure PrF (lam:Nat→Lb) (m m':Mem):Prop where
 nx:m.nx≤m'.nx
 get:∀ b,lam b = .pr→b < m.nx→m'.hp.get b=m.hp.get b
theorem PrF.refl (lam:Nat→Lb) (m:Mem):PrF lam m m:=⟨Nat.le_refl _,fun _ _ _=>rfl⟩
theorem PrF.trans {lam:Nat→Lb} {m m1 m2:Mem} (h:PrF lam m m1) (k:PrF lam m1 m2):PrF lam m m2:=
 ⟨Nat.le_trans h.nx k.nx,fun b hb hl=>(k.get b hb (Nat.lt_of_lt_of_le hl h.nx)).trans (h.get b hb hl)⟩
theorem PrF.keep {lam:Nat→Lb} {m m1 m2:Mem} (h:PrF lam m m1) (k:Keep m1 m2):PrF lam m m2:=h.trans ⟨k.nx,fun b _ hl=>k.get b hl⟩
theorem PrF.wr {lam:Nat→Lb} {m m1:Mem} (h:PrF lam m m1) {b o:Nat} {l:List Value} (hb:lam b≠.pr):PrF lam m (wr m1 b o l):=
 h.trans ⟨by simp,fun b' hb' _=>wr_get (fun e=>hb (by rw [← e]; exact hb'))⟩
theorem PrF.fr {lam:Nat→Lb} {m m1 m2:Mem} {S:List Nat} (h:PrF lam m m1) (f:Fr m1 m2 S) (hS:∀ b∈S,lam b≠.pr):PrF lam m m2:=
 h.trans ⟨f.nx,fun b hb hl=>f.get b hl (fun hs=>hS b hs hb)⟩
theorem PrF.arr {lam:Nat→Lb} {m m':Mem} {α : Type} {enc:α→List Value} {s:Nat} {a:Option Addr} {n:Nat} {l:List α} (h:PrF lam m m') (hw:Wf m) (hA:Arr enc s m a n l) (hl:l≠[]→∀ b∈blk a,lam b = .pr):Arr enc s m' a n l:=by
 refine ⟨hA.1,fun i x hx=>?_⟩
 obtain ⟨b,o,rfl,hc⟩:=hA.2 i x hx
 have hne:l≠[]:=fun e=>by rw [e] at hx; cases hx
 refine ⟨b,o,rfl,fun j v hv=>?_⟩
 have h1:=hc j v hv
 rw [rd_congr (h.get b (hl hne b (by simp [blk])) (hw.rd h1))]; exact h1
theorem OwE.hold {wj wq:Nat→Kd} {m0 m:Mem} {lam:Nat→Lb} {a1 a2 a3 ae:Option Addr} {n1 c1 n2 c2 n3 c3 ne ce:Nat} {ss:List SV} {js:Nat→List JV} {ls:List LV} {qs:Nat→List Int} {σ : pm.St} {E:List pm.Ev} (h:OwE wj wq m0 m lam a1 n1 c1 a2 n2 c2 a3 n3 c3 ss js ls qs σ ae ne ce E) {α : Type} {enc:α→List Value} {s:Nat} (hs:∀ x,(enc x).length=s) (h0:0 < s) {a:Option Addr} {n:Nat} {l:List α} (hA:Arr enc s m a n l) (hb:∀ b∈blk a,lam b = .no∨lam b = .pr) (hne:∀ b∈blk a,b∉blk ae) :
  ∃ lam',OwE wj wq m0 m lam' a1 n1 c1 a2 n2 c2 a3 n3 c3 ss js ls qs σ ae ne ce E∧(l≠[]→∀ b∈blk a,lam' b = .pr)∧∀ b,(lam' b=lam b∨lam' b = .pr)∧(lam b≠.no→lam' b=lam b):=by
 by_cases hl:l=[]
 ·exact ⟨lam,h,fun e=>absurd hl e,fun b=>⟨.inl rfl,fun _=>rfl⟩⟩
 ·have hlt:=hA.blk_lt hs h0 h.wf hl
  cases a with
  | none=>exact ⟨lam,h,fun _ b hb=>(by cases hb),fun b=>⟨.inl rfl,fun _=>rfl⟩⟩
  | some ad=>
   have hm:ad.block∈blk (some ad):=by simp [blk]
   have hbs:∀ b∈blk (some ad),b=ad.block:=fun b hb=>by simpa [blk] using hb
   rcases hb _ hm with h1 | h1
   ·refine ⟨_,h.stay h1 (hlt _ hm) (hne _ hm),fun _ b hb=>by rw [hbs b hb]; exact upF_self ..,fun b=>?_⟩
    by_cases e:b=ad.block
    ·subst e; exact ⟨.inr (upF_self ..),fun h=>absurd h1 h⟩
    ·rw [upF_ne e]; exact ⟨.inl rfl,fun _=>rfl⟩
   ·exact ⟨lam,h,fun _ b hb=>by rw [hbs b hb]; exact h1,fun b=>⟨.inl rfl,fun _=>rfl⟩⟩
theorem iv_queue {B R:Int} {σ : pm.St} (h:pm.Iw B R σ) {l:pm.Lock} (hl:l∈σ.sems):l.queue.length≤32:=by
 obtain ⟨q,hq⟩:=List.getElem?_of_mem hl
 have hL:=h.lock q l hq
 have:l.queue.length≤(σ.servs.map (·.id)).length:=hL.nd.length_le_of_subset fun id hid=>by
  have:=(hL.wait id).1 hid
  rw [← pm.keys_fst]
  exact List.mem_map.2 ⟨_,this,rfl⟩
 rw [List.length_map] at this
 have:=h.len1
 omega
theorem iv_small {B R:Int} {σ : pm.St} (h:pm.Iw B R σ):Small σ:=
 ⟨by have:=h.len1; omega,by have:=h.len2; omega,by have:=h.len3; omega,fun x hx=>by have:=(h.serv x hx).len; omega,fun l hl=>by have:=iv_queue h hl; omega⟩
theorem iv_busy {B:Int} {σ : pm.St} (h:pm.Iv B σ):Busy σ:=fun id hid=>by
 obtain ⟨x,hx,_,_,hj⟩:=pm.runner_at h hid
 exact ⟨x,hx,hj⟩
theorem iv_ask {B:Int} {σ : pm.St} (h:pm.Iv B σ):AskOk σ:=fun p hp=>by
 obtain ⟨x,_,_,_,_,_,h1,h2,_⟩:=pm.asks_mem h hp
 exact ⟨h1,h2⟩
end Go.Proofs.YtiehbnmpaeedpaaGreat.vc
