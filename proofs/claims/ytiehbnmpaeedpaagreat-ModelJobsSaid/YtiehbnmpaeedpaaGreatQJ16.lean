import Derived.Test.YtiehbnmpaeedpaaGreatQJ15
namespace Go.AX
variable [Kap]
variable {P:Program} {cx:Cx} {φ : Phi} {m:Mem} {w:World}
def Called (P:Program) (k:FuncId) (args':Array Value) (w:World) (R:Ending→World→Prop):Prop:=
 ((callFunc k args').run P w = .ok (.enter k args') w∧Calls P k args' w R)∨(∃ v' w',(callFunc k args').run P w = .ok (.value v') w'∧R (.returned v') w')
def SumOk (P:Program) (k:FuncId) (f:List Value→Mem→Option (Value×Mem)):Prop:=
 ∀ (args:List Value) (m:Mem) (v:Value) (m':Mem),f args m=some (v,m') →
  ∀ (φ : Phi) (w:World) (args':Array Value),LR φ args args'.toList→RR P φ m w →
   Called P k args' w (fun e w'=>∃ v' φ',e = .returned v'∧VR φ' v v'∧RR P φ' m' w'∧Stp φ m w φ' m' w')
def CallerOk (P:Program) (call:Caller):Prop:=∀ (k:FuncId),SumOk P k (call k)
def OvOk (P:Program) (cx:Cx):Prop:=∀ k f,cx.ov.get k=some f→SumOk P k f
omit [Kap] in
theorem run_callFunc {k:FuncId} {fn:Func} {c:Code} (hf:P.funcs[k]? = some fn) (hb:fn.body=some c) (hn:(fn.name == "runtime.NumGoroutine")=false) (args:Array Value) (w:World) :
  (callFunc k args).run P w = .ok (.enter k args) w:=by
 have hn':¬ fn.name = "runtime.NumGoroutine":=by simpa using hn
 simp [callFunc,hf,hn',hb]
def Post (P:Program) (φ : Phi) (m:Mem) (w:World) (ov:Option Value) (m':Mem) (a:Act) (dst:Option Tmp) (next:Act→World→Prop):Prop:=
 ∀ φ' w' v',RR P φ' m' w'→Stp φ m w φ' m' w'→(∀ v,ov=some v→VR φ' v v')→next (a.put dst v') w'
omit [Kap] in
theorem wp_value {o:Oper} {a:Act} {next:Act→World→Prop} {Q:Exit→Act→World→Prop} {v':Value} {w':World} (h:(execOp a.eval o).run P w = .ok (.value v') w') (hn:next (a.put o.dst v') w'):o.wp P a w next Q:=by
 unfold Oper.wp; rw [h]; exact hn
omit [Kap] in
theorem wp_skip' {o:Oper} {a:Act} {next:Act→World→Prop} {Q:Exit→Act→World→Prop} {w':World} (h:(execOp a.eval o).run P w = .ok .skip w') (hn:next (a.put o.dst undef) w'):o.wp P a w next Q:=by
 unfold Oper.wp; rw [h]; exact hn
omit [Kap] in
theorem wp_enter {o:Oper} {a:Act} {next:Act→World→Prop} {Q:Exit→Act→World→Prop} {k:FuncId} {args:Array Value} (h:(execOp a.eval o).run P w = .ok (.enter k args) w) {R:Ending→World→Prop}
  (hc:Calls P k args w R) (hn:∀ e w',R e w'→∃ v',e = .returned v'∧next (a.put o.dst v') w'):o.wp P a w next Q:=by
 unfold Oper.wp; rw [h]
 show Calls P k args w _
 refine hc.mono (fun e w' hr=>?_)
 obtain ⟨v',rfl,hq⟩:=hn e w' hr
 exact hq
omit [Kap] in
theorem RR.same {m':Mem} {w':World} (hr:RR P φ m w) (h0:R0 P φ m' w') (hn:m'.nx=m.nx) (hf:m'.fl=m.fl):RR P φ m' w':=
 ⟨h0,by rw [hn]; exact hr.fresh,by rw [hn,hf]; exact hr.fl⟩
omit [Kap] in
theorem recv_first (v:Value) (l:Array Value):(#[v] ++ l)[0]? = some v:=by
 rw [← Array.getElem?_toList,Array.toList_append]
 rfl
omit [Kap] in
theorem recv_rest (v:Value) (l:Array Value):(#[v] ++ l).extract 1 (#[v] ++ l).size=l:=by
 apply Array.ext'
 rw [Array.toList_extract,Array.toList_append]
 simp only [List.extract_eq_take_drop]
 exact List.take_of_length_le (by simp)
omit [Kap] in
theorem method_ok (hcx:CxOk P cx) {t:TypeId} {v v' r:Value} {name:String} {k:FuncId} (h:methodA cx t v name=some (k,r)) (hv:VR φ v v') (n:Nat) :
  ∃ r',(method (n+1) t v' name).run P w = .ok (k,r') w∧VR φ r r':=by
 unfold methodA at h
 split at h
 ·rename_i i u hi hd
  have hu:=hcx.un _ _ hd
  split at h
  ·rename_i md hmd
   have hmd':i.methods.find? (fun x=>x.name == name)=some md:=by
    rw [← Array.find?_toList,← hmd]
   split at h
   ·rename_i f b hp hf
    have hp':md.path = #[]:=Array.ext' (by simpa using hp)
    split at h
    ·rename_i hpt
     simp only [Option.some.injEq,Prod.mk.injEq] at h
     obtain ⟨rfl,rfl⟩:=h
     refine ⟨v',?_,hv⟩
     cases u <;> first
      | (simp [isPtrD] at hpt; done)
      | simp [method,run_info (hcx.ty _ _ hi),hmd',follow,hp',hf,receiverAt,run_underlying hu,Place.get]
    ·rename_i hpt
     simp only [Option.some.injEq,Prod.mk.injEq] at h
     obtain ⟨rfl,rfl⟩:=h
     refine ⟨v',?_,hv⟩
     cases u <;> first
      | (simp [isPtrD] at hpt; done)
      | simp [method,run_info (hcx.ty _ _ hi),hmd',follow,hp',hf,receiverAt,run_underlying hu,Place.get]
    ·cases h
   ·rename_i s f b hp hf
    have hp':md.path = #[s]:=Array.ext' (by simpa using hp)
    split at h
    ·rename_i fs c hd1 hst
     split at h
     ·rename_i fd hfd
      split at h
      ·rename_i e a hut hca
       simp only [Option.some.injEq,Prod.mk.injEq] at h
       obtain ⟨rfl,rfl⟩:=h
       cases hv with
       | agg _ c' hc hcv=>
        obtain ⟨x,hx⟩:∃ x,c'.toList[fd.offset]? = some x:=⟨_,List.getElem?_eq_getElem (by rw [← hc]; exact (List.getElem?_eq_some_iff.1 hca).1)⟩
        have hx':c'[fd.offset]? = some x:=by rw [← Array.getElem?_toList]; exact hx
        refine ⟨x,?_,hcv _ _ _ hca hx⟩
        have hu1:=hcx.un _ _ hst
        have hu2:=hcx.un _ _ hut
        simp [method,run_info (hcx.ty _ _ hi),hmd',follow,hp',hf,hd1,receiverAt,run_underlying hu1,run_underlying hu2,hfd,part,isAgg,hx',Place.get]
      ·cases h
     ·cases h
    ·cases h
   ·cases h
  ·cases h
 ·cases h
set_option maxHeartbeats 1000000 in
theorem op_ok (hcx:CxOk P cx) {call:Caller} (hcall:CallerOk P call) {st:St} {a:Act} (ht:TR φ st a) (hr:RR P φ st.m w) {o:Oper} {ov:Option Value} {m':Mem} (h:opA cx call st o=some (ov,m'))
  {next:Act→World→Prop} {Q:Exit→Act→World→Prop} (hn:Post P φ st.m w ov m' a o.dst next):o.wp P a w next Q:=by
 have h0:=hr.r0
 have hg:=h0.glob
 by_cases hk:kindO o.op≤1
 ·obtain ⟨rfl,v,v',rfl,hrun,hv⟩:=quiet_ok hcx ht h0 hk h
  exact wp_value hrun (hn φ w v' hr (Stp.refl _ _ _) (fun u hu=>by cases hu; exact hv))
 by_cases hm:makesO o.op=true
 ·obtain ⟨v,v',ob',ob,l,rfl,rfl,hl,hrun,hv,ho⟩:=maker_ok (w:=w) hcx hg ht hm h hr.fresh_id
  obtain ⟨g1,g2⟩:=add_ok (P:=P) h0 (n:=st.m.nx+1) (f:=st.m.fl) hr.fresh_id hl ho hr.fl rfl (by omega) (Nat.le_refl _)
  exact wp_value hrun (hn _ _ v' ⟨g1,fresh_put hr.fresh,by have:=hr.fl; show st.m.fl≤st.m.nx+1; omega⟩ g2 (fun u hu=>by cases hu; exact hv))
 have unit:∀ {r:Option Mem} {s:Sem Unit},(match r with | some m=>some ((none:Option Value),m) | none=>none)=some (ov,m') →
   (∀ m1,r=some m1→∃ w',s.run P w = .ok () w'∧R0 P φ m1 w'∧Stp φ st.m w φ m1 w'∧m1.nx=st.m.nx)→execOp a.eval o=(do s; pure .skip)→o.wp P a w next Q:=by
  intro r s hr1 hs he
  cases r with
  | none=>cases hr1
  | some m1=>
   simp only [Option.some.injEq,Prod.mk.injEq] at hr1
   obtain ⟨rfl,rfl⟩:=hr1
   obtain ⟨w',g1,g2,g3,g4⟩:=hs _ rfl
   exact wp_skip' (by rw [he]; simp [g1]) (hn φ w' undef (hr.same g2 g4 g3.fl) g3 (fun u hu=>by cases hu))
 have val:∀ {r:Out Value} {s:Sem Value},(match r with | some (x,m)=>some (some x,m) | none=>none)=some (ov,m') →
   (∀ v m1,r=some (v,m1)→∃ v' w',s.run P w = .ok v' w'∧VR φ v v'∧R0 P φ m1 w'∧Stp φ st.m w φ m1 w'∧m1.nx=st.m.nx)→execOp a.eval o=(do pure (.value (← s)))→o.wp P a w next Q:=by
  intro r s hr1 hs he
  cases r with
  | none=>cases hr1
  | some p=>
   obtain ⟨v,m1⟩:=p
   simp only [Option.some.injEq,Prod.mk.injEq] at hr1
   obtain ⟨rfl,rfl⟩:=hr1
   obtain ⟨v',w',g1,g2,g3,g4,g5⟩:=hs _ _ rfl
   exact wp_value (by rw [he]; simp [g1]) (hn φ w' v' (hr.same g3 g5 g4.fl) g4 (fun u hu=>by cases hu; exact g2))
 cases hop:o.op <;> simp only [hop,kindO,makesO] at hk hm <;> try (first | omega | (exact absurd rfl hm) | (exact absurd trivial hm))
 case store t x y=>
  simp only [opA,hop] at h
  split at h
  ·rename_i p vy hx hy
   exact unit (s:=Instr.storeAt t (a.eval x) (a.eval y)) h (fun m1 hm1=>store_ok hcx h0 hm1 (eval_ok hcx hg ht hx) (eval_ok hcx hg ht hy)) (by simp [execOp,hop])
  ·cases h
 case insert t x k y=>
  simp only [opA,hop] at h
  split at h
  ·rename_i vx vk vy hx hk' hy
   exact unit (s:=Instr.mapUpdate t (a.eval x) (a.eval k) (a.eval y)) h (fun m1 hm1=>mapUpdate_ok hcx h0 hm1 (eval_ok hcx hg ht hx) (eval_ok hcx hg ht hk') (eval_ok hcx hg ht hy)) (by simp [execOp,hop])
  ·cases h
 case mapUpdate t x k y=>
  simp only [opA,hop] at h
  split at h
  ·rename_i vx vk vy hx hk' hy
   exact unit (s:=Instr.mapUpdate t (a.eval x) (a.eval k) (a.eval y)) h (fun m1 hm1=>mapUpdate_ok hcx h0 hm1 (eval_ok hcx hg ht hx) (eval_ok hcx hg ht hk') (eval_ok hcx hg ht hy)) (by simp [execOp,hop])
  ·cases h
 case mapEntry t x k=>
  simp only [opA,hop] at h
  split at h
  ·rename_i vx vk hx hk'
   exact val (s:=Instr.mapEntry t (a.eval x) (a.eval k)) h (fun v m1 hm1=>mapEntry_ok hcx h0 hm1 (eval_ok hcx hg ht hx) (eval_ok hcx hg ht hk')) (by simp [execOp,hop])
  ·cases h
 case entryStore t x s y=>
  simp only [opA,hop] at h
  split at h
  ·rename_i vx vs vy hx hs hy
   exact unit (s:=Instr.entryStore t (a.eval x) (a.eval s) (a.eval y)) h (fun m1 hm1=>entryStore_ok h0 hm1 (eval_ok hcx hg ht hx) (eval_ok hcx hg ht hs) (eval_ok hcx hg ht hy)) (by simp [execOp,hop])
  ·cases h
 case call c=>
  simp only [opA,hop] at h
  cases hc:callA cx call st c with
  | none=>rw [hc] at h; cases h
  | some p=>
   rw [hc] at h
   obtain ⟨v,m1⟩:=p
   simp only [Option.some.injEq,Prod.mk.injEq] at h
   obtain ⟨rfl,rfl⟩:=h
   obtain ⟨callee,args,ats⟩:=c
   simp only [callA] at hc
   split at hc
   ·cases hc
   ·rename_i l hl
    have hlr:=evalL_ok hcx hg ht hl
    rw [← Array.toList_map] at hlr
    have enter:∀ {k:FuncId} {asZ:List Value} {as':Array Value},call k asZ st.m=some (v,m1)→LR φ asZ as'.toList→(execOp a.eval o).run P w=(callFunc k as').run P w→o.wp P a w next Q:=by
     intro k asZ as' hk' hla hrun
     rcases hcall _ _ _ _ _ hk' φ w as' hla hr with ⟨q1,hC⟩ | ⟨v',w',q1,v'',φ',hv,g1,g2,g3⟩
     ·refine wp_enter (hrun.trans q1) hC ?_
      rintro e w' ⟨v',φ',rfl,g1,g2,g3⟩
      exact ⟨v',rfl,hn φ' w' v' g2 g3 (fun u hu=>by cases hu; exact g1)⟩
     ·cases hv
      exact wp_value (hrun.trans q1) (hn φ' w' v' g2 g3 (fun u hu=>by cases hu; exact g1))
    cases callee with
    | value f=>
     dsimp only at hc
     split at hc
     ·rename_i k first captured hf
      have h1:=eval_ok hcx hg ht hf
      obtain ⟨f',c',hq,hf1,hf2⟩:∃ f' c',a.eval f = .func (.func k) f' c'∧LR φ first.toList f'.toList∧LR φ captured.toList c'.toList:=by
       generalize a.eval f=q at h1
       cases h1 with
       | func fn f f' c c' a1 a2 a3 a4=>exact ⟨_,_,rfl,⟨a1,a2⟩,⟨a3,a4⟩⟩
      refine enter (as':=(f' ++ args.map a.eval) ++ c') hc ?_ ?_
      ·simp only [Array.toList_append]
       exact (hf1.append hlr).append hf2
      ·simp only [execOp,hop,resolve,hq,Deferred.ofValue,Sem.run_bind,Sem.run_pure,Result.andThen_ok,invoke]
     ·cases hc
    | invoke x name=>
     dsimp only at hc
     split at hc
     ·rename_i t vv hx
      have h1:=eval_ok hcx hg ht hx
      obtain ⟨vv',hq,hvv⟩:∃ vv',a.eval x = .iface t vv'∧VR φ vv vv':=by
       generalize a.eval x=q at h1
       cases h1 with
       | iface _ _ v' hv=>exact ⟨_,rfl,hv⟩
      split at hc
      ·rename_i k r hmt
       obtain ⟨n,hnn⟩:∃ n,P.types.size+Made.depth=n+1:=⟨P.types.size+Made.depth - 1,by have:0 < Made.depth:=(by decide); omega⟩
       obtain ⟨r',g1,g2⟩:=method_ok (P:=P) (w:=w) hcx hmt hvv n
       refine enter (as':=#[r'] ++ args.map a.eval) hc ?_ ?_
       ·rw [Array.toList_append]
        exact hlr.cons g2
       ·have he:(#[a.eval x] ++ args.map a.eval)[0]? = some (a.eval x):=recv_first _ _
        have he2:(#[a.eval x] ++ args.map a.eval).extract 1 (#[a.eval x] ++ args.map a.eval).size=args.map a.eval:=recv_rest _ _
        rw [hq] at he he2
        simp only [execOp,hop,resolve,Sem.run_bind,Sem.run_pure,Result.andThen_ok,invoke,hq,he,he2,callMethod,run_program,hnn,g1]
      ·cases hc
     ·cases hc
    | builtin bi=>
     dsimp only at hc
     have bval:∀ {s:Sem Value},(∃ v' w',s.run P w = .ok v' w'∧VR φ v v'∧R0 P φ m1 w'∧Stp φ st.m w φ m1 w'∧m1.nx=st.m.nx)→execOp a.eval o=(do pure (.value (← s)))→o.wp P a w next Q:=by
      rintro s ⟨v',w',g1,g2,g3,g4,g5⟩ he
      exact wp_value (by rw [he]; simp [g1]) (hn φ w' v' (hr.same g3 g5 g4.fl) g4 (fun u hu=>by cases hu; exact g2))
     cases bi <;> simp only [builtinA,reduceCtorEq] at hc hk <;> try (first | omega | (cases hc; done))
     case append=>
      obtain ⟨v',w',φ',g1,g2,g3,g4⟩:=append_ok (ty:=o.type) hcx hr hc hlr
      exact wp_value (by simp [execOp,hop,resolve,invoke,builtin,g1]) (hn φ' w' v' g3 g4 (fun u hu=>by cases hu; exact g2))
     case copy=>exact bval (s:=Builtin.copy_ ats o.type (args.map a.eval)) (copy_ok hcx h0 hc hlr) (by simp [execOp,hop,resolve,invoke,builtin])
     case clear=>exact bval (s:=Builtin.clear_ ats o.type (args.map a.eval)) (clear_ok hcx h0 hc hlr) (by simp [execOp,hop,resolve,invoke,builtin])
     case delete=>
      split at hc
      ·rename_i t r x k hts
       split at hc
       ·rename_i m2 hd
        simp only [Option.some.injEq,Prod.mk.injEq] at hc
        obtain ⟨rfl,rfl⟩:=hc
        have ht0:ats[0]? = some t:=by rw [← Array.getElem?_toList,hts]; rfl
        obtain ⟨w',g1,g2,g3,g4⟩:=delete_ok (ty:=o.type) hcx h0 ht0 hd hlr
        exact bval (s:=Builtin.delete_ ats o.type (args.map a.eval)) ⟨_,w',g1,.tuple _ _ rfl (LR.nil φ).2,g2,g3,g4⟩ (by simp [execOp,hop,resolve,invoke,builtin])
       ·cases hc
      ·cases hc
 case binOp op t x y yt=>
  exfalso
  cases op <;> simp at hk
 case makeMap t r=>
  cases r with
  | none=>exact absurd rfl hm
  | some r=>simp only [opA,hop,reduceCtorEq] at h
 all_goals (simp only [opA,hop,reduceCtorEq] at h)
omit [Kap] in
theorem put_size (a:Act) (d:Option Tmp) (v:Value):(a.put d v).tmps.size=a.tmps.size:=by
 cases d <;> simp [Act.put]
omit [Kap] in
theorem put_get (a:Act) (d t:Nat) (v:Value) (hd:d < a.tmps.size):(a.put (some d) v).tmps.getD t undef=if t=d then v else a.tmps.getD t undef:=by
 simp only [Act.put,Array.getD_eq_getD_getElem?,Array.getElem?_setIfInBounds]
 by_cases h:d=t
 ·subst h; simp [hd]
 ·rw [if_neg h,if_neg (Ne.symm h)]
omit [Kap] in
theorem put_ok {φ':Phi} {st st':St} {a:Act} {dst:Option Tmp} {ov:Option Value} {m':Mem} (he:Ext φ φ') (ht:TR φ st a) (h:putT st dst ov m'=some st') {v':Value} (hv:∀ v,ov=some v→VR φ' v v') :
  TR φ' st' (a.put dst v')∧st'.m=m'∧st'.sz=st.sz:=by
 have h2:∀ (t:Nat) (v:Value),st.tm.get t=some v→VR φ' v (a.tmps.getD t undef):=fun t v g=>(ht.2.2 t v g).mono he
 cases dst with
 | none=>
  simp only [putT,Option.some.injEq] at h; subst h
  exact ⟨⟨ht.1,ht.2.1,h2⟩,rfl,rfl⟩
 | some d=>
  simp only [putT] at h
  split at h
  ·rename_i hd
   have hd':d < st.sz:=Nat.le_of_ble_eq_true hd
   have hda:d < a.tmps.size:=by rw [ht.1]; exact hd'
   have hdf:(a.put (some d) v').defers=[]:=ht.2.1
   cases ov with
   | some x=>
    simp only [Option.some.injEq] at h; subst h
    refine ⟨⟨by rw [put_size]; exact ht.1,hdf,fun t v g=>?_⟩,rfl,rfl⟩
    rw [Tr.get_put] at g
    rw [put_get a d t v' hda]
    by_cases e:t=d
    ·rw [if_pos e] at g ⊢
     cases g
     exact hv x rfl
    ·rw [if_neg e] at g ⊢
     exact h2 t v g
   | none=>
    simp only [Option.some.injEq] at h; subst h
    refine ⟨⟨by rw [put_size]; exact ht.1,hdf,fun t v g=>?_⟩,rfl,rfl⟩
    rw [Tr.get_del] at g
    rw [put_get a d t v' hda]
    by_cases e:t=d
    ·rw [if_pos e] at g; cases g
    ·rw [if_neg e] at g ⊢
     exact h2 t v g
  ·cases h
omit [Kap] in
theorem getD_some {xs:Array Value} {d:Nat} {v:Value} (h:xs.getD d undef=v) (hne:v≠undef):xs[d]? = some v:=by
 rw [Array.getD_eq_getD_getElem?] at h
 cases hx:xs[d]? with
 | none=>rw [hx] at h; exact absurd h.symm hne
 | some u=>rw [hx] at h; simp at h; rw [h]
omit [Kap] in
theorem wanted_ok {ops:Array Oper} {st:St} {a:Act} (ht:TR φ st a) {o:Oper} {b:Bool} (h:wantedA ops.toList st o=some b):Region.wanted o (yielded ops a.tmps)=b:=by
 unfold wantedA at h
 unfold Region.wanted
 split at h
 ·rename_i hg
  simp only [Option.some.injEq] at h; subst h
  simp [hg]
 ·rename_i j want hg
  simp only [hg]
  split at h
  ·rename_i g hj
   have hj':ops[j]? = some g:=by simpa using hj
   split at h
   ·rename_i d hd
    split at h
    ·rename_i c hc
     simp only [Option.some.injEq] at h; subst h
     have hv:=ht.2.2 d _ hc
     have hq:a.tmps.getD d undef = .bool c:=by
      generalize a.tmps.getD d undef=q at hv
      cases hv; rfl
     have hs:=getD_some hq (by simp [undef])
     simp only [yielded,hj',Option.bind_some,hd,hs]
     cases c <;> cases want <;> rfl
    ·rename_i c hne hc
     simp only [Option.some.injEq] at h; subst h
     have hv:=ht.2.2 d _ hc
     have hnb:∀ q,a.tmps.getD d undef≠.bool q:=by
      intro q e
      rw [e] at hv
      cases hv
      exact hne _ rfl
     have hy:yielded ops a.tmps j=none:=by
      unfold yielded
      simp only [hj',Option.bind_some,hd]
      cases hx:a.tmps[d]? with
      | none=>rfl
      | some u=>
       cases u with
       | bool q=>exact (hnb q (by rw [Array.getD_eq_getD_getElem?,hx]; rfl)).elim
       | _=>rfl
     rw [hy]; rfl
    ·cases h
   ·cases h
  ·cases h
theorem ops_ok (hcx:CxOk P cx) {call:Caller} (hcall:CallerOk P call) {ops:Array Oper} {Q:Exit→Act→World→Prop} :
  ∀ (l:List Oper) (k:Nat) (φ : Phi) (w:World) (st:St) (a:Act) (st':St),(∀ j,l[j]? = ops[k+j]?)→k+l.length=ops.size→RR P φ st.m w→TR φ st a→runOps cx call ops.toList l st=some st' →
   (∀ φ' a' w',RR P φ' st'.m w'→TR φ' st' a'→Stp φ st.m w φ' st'.m w'→st'.sz=st.sz→Q .normal a' w')→wpOps P ops Q (List.range' k l.length) a w
 | [],k,φ,w,st,a,st',hl,hk,hr,ht,h,hq=>by
  simp only [runOps,Option.some.injEq] at h; subst h
  exact hq φ a w hr ht (Stp.refl _ _ _) rfl
 | o :: r,k,φ,w,st,a,st',hl,hk,hr,ht,h,hq=>by
  have ho:ops[k]? = some o:=by have:=hl 0; simpa using this.symm
  have hl':∀ j,r[j]? = ops[k+1+j]?:=fun j=>by have:=hl (j+1); rw [show k+1+j=k+(j+1) by omega,← this]; simp
  have hk':k+1+r.length=ops.size:=by simp at hk; omega
  rw [List.length_cons,List.range'_succ]
  simp only [wpOps,ho]
  simp only [runOps] at h
  split at h
  ·rename_i hw
   rw [wanted_ok ht hw]
   simp only [if_true]
   split at h
   ·rename_i ov m1 hop
    split at h
    ·rename_i st1 hput
     left
     refine op_ok hcx hcall ht hr hop ?_
     intro φ1 w1 v1 hr1 hs1 hv1
     obtain ⟨ht1,hm1,hz1⟩:=put_ok hs1.ext ht hput hv1
     refine ops_ok hcx hcall r (k+1) φ1 w1 st1 _ st' hl' hk' (by rw [hm1]; exact hr1) ht1 h ?_
     intro φ' a' w' g1 g2 g3 g4
     exact hq φ' a' w' g1 g2 (hs1.trans (by rw [hm1] at g3; exact g3)) (by rw [g4,hz1])
    ·cases h
   ·cases h
  ·rename_i hw
   rw [wanted_ok ht hw]
   simp only [Bool.false_eq_true,if_false]
   split at h
   ·rename_i st1 hput
    obtain ⟨ht1,hm1,hz1⟩:=put_ok (fun _ _ h=>h) ht hput (v':=undef) (fun v hv=>by cases hv; exact .tuple _ _ rfl (LR.nil φ).2)
    refine ops_ok hcx hcall r (k+1) φ w st1 _ st' hl' hk' (by rw [hm1]; exact hr) ht1 h ?_
    intro φ' a' w' g1 g2 g3 g4
    exact hq φ' a' w' g1 g2 (by rw [hm1] at g3; exact g3) (by rw [g4,hz1])
   ·cases h
  ·cases h
end Go.AX
namespace Go.AX
variable [Kap]
variable {P:Program} {cx:Cx} {φ : Phi} {m:Mem} {w:World}
omit [Kap] in
theorem evalA_congr {st1 st2:St} {x:Operand} (h:∀ t,x = .tmp t→st1.tm.get t=st2.tm.get t):evalA cx st1 x=evalA cx st2 x:=by
 cases x with
 | tmp t=>exact h t rfl
 | _=>rfl
omit [Kap] in
theorem evalL_congr {st1 st2:St}:∀ {xs:List Operand},(∀ t,Operand.tmp t∈xs→st1.tm.get t=st2.tm.get t)→evalL cx st1 xs=evalL cx st2 xs
 | [],_=>rfl
 | x :: r,h=>by
  simp only [evalL]
  rw [evalA_congr (x:=x) (fun t e=>h t (by simp [e])),evalL_congr (xs:=r) (fun t ht=>h t (by simp [ht]))]
omit [Kap] in
theorem evalP_congr {st1 st2:St}:∀ {xs:List (Nat×Operand)},(∀ t,Operand.tmp t∈xs.map (·.2)→st1.tm.get t=st2.tm.get t)→evalP cx st1 xs=evalP cx st2 xs
 | [],_=>rfl
 | (i,x) :: r,h=>by
  simp only [evalP]
  rw [evalA_congr (x:=x) (fun t e=>h t (by simp [e])),evalP_congr (xs:=r) (fun t ht=>h t (by rw [List.map_cons]; exact List.mem_cons_of_mem _ ht))]
omit [Kap] in
theorem evalO_congr {st1 st2:St} {x:Option Operand} (h:∀ t,x=some (.tmp t)→st1.tm.get t=st2.tm.get t):evalO cx st1 x=evalO cx st2 x:=by
 cases x with
 | none=>rfl
 | some x=>
  simp only [evalO]
  rw [evalA_congr (x:=x) (fun t e=>h t (by rw [e]))]
omit [Kap] in
theorem opA_congr {call:Caller} {st1 st2:St} {o:Oper} (hm:st1.m=st2.m) (h:∀ t,Operand.tmp t∈o.op.operands.toList→st1.tm.get t=st2.tm.get t):opA cx call st1 o=opA cx call st2 o:=by
 cases hop:o.op <;> simp only [hop,Op.operands] at h
 case call c=>
  obtain ⟨callee,args,ats⟩:=c
  simp only [opA,hop,callA]
  cases callee with
  | builtin b=>
   dsimp only
   rw [evalL_congr (xs:=args.toList) (fun t ht=>h t (by simpa [Call.operands] using ht)),hm]
  | value f=>
   dsimp only
   rw [evalL_congr (xs:=args.toList) (fun t ht=>h t (by simp [Call.operands]; right; simpa using ht)),evalA_congr (x:=f) (fun t e=>h t (by simp [Call.operands,e])),hm]
  | invoke f n=>
   dsimp only
   rw [evalL_congr (xs:=args.toList) (fun t ht=>h t (by simp [Call.operands]; right; simpa using ht)),evalA_congr (x:=f) (fun t e=>h t (by simp [Call.operands,e])),hm]
 case build t ps=>
  simp only [opA,hop]
  rw [evalP_congr (xs:=ps.toList) (fun t ht=>h t (by simpa using ht)),hm]
 case buildSlice t n ps=>
  simp only [opA,hop]
  rw [evalP_congr (xs:=ps.toList) (fun t ht=>h t (by simpa using ht)),hm]
 case makeFunc fn f c=>
  simp only [opA,hop]
  rw [evalL_congr (xs:=f.toList) (fun t ht=>h t (by simp; left; simpa using ht)),evalL_congr (xs:=c.toList) (fun t ht=>h t (by simp; right; simpa using ht)),hm]
 case makeMap t r=>
  cases r <;> simp only [opA,hop,hm]
 case slice t x lo hi mx=>
  simp only [opA,hop]
  rw [evalA_congr (x:=x) (fun t e=>h t (by simp [e])),evalO_congr (x:=lo) (fun t e=>h t (by simp [e])),evalO_congr (x:=hi) (fun t e=>h t (by simp [e])),evalO_congr (x:=mx) (fun t e=>h t (by simp [e])),hm]
 case pick c x y=>
  simp only [opA,hop]
  rw [evalA_congr (x:=c) (fun t e=>h t (by simp [e])),evalA_congr (x:=x) (fun t e=>h t (by simp [e])),evalA_congr (x:=y) (fun t e=>h t (by simp [e])),hm]
 case mapUpdate t x k y=>
  simp only [opA,hop]
  rw [evalA_congr (x:=x) (fun t e=>h t (by simp [e])),evalA_congr (x:=k) (fun t e=>h t (by simp [e])),evalA_congr (x:=y) (fun t e=>h t (by simp [e])),hm]
 case insert t x k y=>
  simp only [opA,hop]
  rw [evalA_congr (x:=x) (fun t e=>h t (by simp [e])),evalA_congr (x:=k) (fun t e=>h t (by simp [e])),evalA_congr (x:=y) (fun t e=>h t (by simp [e])),hm]
 case entryStore t x k y=>
  simp only [opA,hop]
  rw [evalA_congr (x:=x) (fun t e=>h t (by simp [e])),evalA_congr (x:=k) (fun t e=>h t (by simp [e])),evalA_congr (x:=y) (fun t e=>h t (by simp [e])),hm]
 case store t x y | makeSlice t x y | indexAddr t x y | index t x y | mapEntry t x y=>
  simp only [opA,hop]
  rw [evalA_congr (x:=x) (fun t e=>h t (by simp [e])),evalA_congr (x:=y) (fun t e=>h t (by simp [e])),hm]
 case lookup t x y ok=>
  simp only [opA,hop]
  rw [evalA_congr (x:=x) (fun t e=>h t (by simp [e])),evalA_congr (x:=y) (fun t e=>h t (by simp [e])),hm]
 case binOp op t x y yt=>
  simp only [opA,hop]
  rw [evalA_congr (x:=x) (fun t e=>h t (by simp [e])),evalA_congr (x:=y) (fun t e=>h t (by simp [e])),hm]
 case move x | assign x | nilCheck x=>
  simp only [opA,hop]
  rw [evalA_congr (x:=x) (fun t e=>h t (by simp [e])),hm]
 case box t x | load t x | makeInterface t x=>
  simp only [opA,hop]
  rw [evalA_congr (x:=x) (fun t e=>h t (by simp [e])),hm]
 case unOp u t x | convert u t x | fieldAddr u x t | field u x t=>
  simp only [opA,hop]
  rw [evalA_congr (x:=x) (fun t e=>h t (by simp [e])),hm]
 case typeAssert x a b ok=>
  simp only [opA,hop]
  rw [evalA_congr (x:=x) (fun t e=>h t (by simp [e])),hm]
 case extract x i=>
  simp only [opA,hop]
  rw [evalA_congr (x:=x) (fun t e=>h t (by simp [e])),hm]
 all_goals simp only [opA,hop,hm]
omit [Kap] in
theorem wantedA_congr {ops:List Oper} {st1 st2:St} {o:Oper} (h:∀ d∈readsO ops o,st1.tm.get d=st2.tm.get d):wantedA ops st1 o=wantedA ops st2 o:=by
 unfold wantedA
 cases hg:o.guard with
 | none=>rfl
 | some p=>
  obtain ⟨j,want⟩:=p
  cases hj:ops[j]? with
  | none=>simp [hj]
  | some g=>
   cases hd:g.dst with
   | none=>simp [hj,hd]
   | some d=>
    simp only [hj,hd]
    rw [h d (by simp [readsO,hg,hj,hd])]
omit [Kap] in
theorem reads_operand {ops:List Oper} {o:Oper} {t:Nat} (h:Operand.tmp t∈o.op.operands.toList):t∈readsO ops o:=by
 unfold readsO
 refine List.mem_append_left _ ?_
 exact List.mem_filterMap.2 ⟨.tmp t,h,rfl⟩
def OneStep (cx:Cx) (call:Caller) (ops:List Oper) (base:Nat) (i:Nat) (o:Oper) (s:Nat) (r:List Oper) (q:List Nat) (d:Dr) (st:St) (d':Dr) (st':St):Prop:=
 (wantedA ops st o=some true∧∃ v m,drawOp cx call ops o r s q i base d st=some (v,m,d')∧putT st o.dst v m=some st') ∨
 (wantedA ops st o=some false∧d'=d∧putT st o.dst skipV st.m=some st')
structure Trace (cx:Cx) (call:Caller) (ops:List Oper) (anc:List Nat) (base i:Nat) (d:Dr) (st st':St) where
 D:Nat→Dr
 S:Nat→St
 d0:D i=d
 s0:S i=st
 step:∀ (j:Nat) (o:Oper) (s:Nat),i≤j→ops[j]? = some o→anc[j]? = some s→OneStep cx call ops base j o s (ops.drop (j+1)) (anc.drop (j+1)) (D j) (S j) (D (j+1)) (S (j+1))
 last:st' = { S ops.length with m:=addMade (fun k=>!hasBit (D ops.length).took k) (D ops.length).made (S ops.length).m }
omit [Kap] in
theorem trace_of {call:Caller} {ops:List Oper} {anc:List Nat} {base:Nat}:∀ (l:List Oper) (q:List Nat) (i:Nat) (d:Dr) (st st':St),l=ops.drop i→q=anc.drop i→i≤ops.length →
  runDraw cx call ops base l q i d st=some st'→Nonempty (Trace cx call ops anc base i d st st')
 | [],q,i,d,st,st',hl,hq,hi,h=>by
  simp only [runDraw,Option.some.injEq] at h
  have hin:i=ops.length:=by
   have:=congrArg List.length hl
   simp at this; omega
  refine ⟨⟨fun _=>d,fun _=>st,rfl,rfl,fun j o s hj ho=>?_,h.symm⟩⟩
  have:=(List.getElem?_eq_some_iff.1 ho).1
  omega
 | o :: r,[],i,d,st,st',hl,hq,hi,h=>by simp [runDraw] at h
 | o :: r,s :: q,i,d,st,st',hl,hq,hi,h=>by
  have hio:ops[i]? = some o:=by
   have:=congrArg (fun x=>x[0]?) hl
   simpa using this.symm
  have his:anc[i]? = some s:=by
   have:=congrArg (fun x=>x[0]?) hq
   simpa using this.symm
  have hil:i < ops.length:=(List.getElem?_eq_some_iff.1 hio).1
  have hr:r=ops.drop (i+1):=by
   have:=congrArg List.tail hl
   simpa [List.tail_drop] using this
  have hq':q=anc.drop (i+1):=by
   have:=congrArg List.tail hq
   simpa [List.tail_drop] using this
  have go:∀ (d1:Dr) (st1:St),OneStep cx call ops base i o s r q d st d1 st1→runDraw cx call ops base r q (i+1) d1 st1=some st'→Nonempty (Trace cx call ops anc base i d st st'):=by
   intro d1 st1 hs1 h1
   obtain ⟨T⟩:=trace_of r q (i+1) d1 st1 st' hr hq' (by omega) h1
   refine ⟨⟨fun j=>if j=i then d else T.D j,fun j=>if j=i then st else T.S j,by simp,by simp,fun j o' s' hj ho' hs'=>?_,?_⟩⟩
   ·by_cases e:j=i
    ·subst e
     rw [hio] at ho'; cases ho'
     rw [his] at hs'; cases hs'
     simp only [if_true,if_neg (show ¬ j+1=j by omega),T.d0,T.s0]
     rw [← hr,← hq']; exact hs1
    ·simp only [if_neg e,if_neg (show ¬ j+1=i by omega)]
     exact T.step j o' s' (by omega) ho' hs'
   ·simp only [if_neg (show ¬ ops.length=i by omega)]
    exact T.last
  simp only [runDraw] at h
  split at h
  ·rename_i hw
   split at h
   ·rename_i v m1 d1 hd
    split at h
    ·rename_i st1 hp
     exact go d1 st1 (.inl ⟨hw,v,m1,hd,hp⟩) h
    ·cases h
   ·cases h
  ·rename_i hw
   split at h
   ·rename_i st1 hp
    exact go d st1 (.inr ⟨hw,rfl,hp⟩) h
   ·cases h
  ·cases h
end Go.AX
namespace Go.AX
variable [Kap]
variable {P:Program} {cx:Cx} {φ : Phi} {m:Mem} {w:World}
omit [Kap] in
theorem addMade_nx (p:Nat→Bool):∀ (l:List (Nat×Nat×AObj)) (m:Mem),(addMade p l m).nx=m.nx∧(addMade p l m).fl=m.fl
 | [],m=>⟨rfl,rfl⟩
 | (i,id,o) :: r,m=>by
  simp only [addMade]
  split
  ·exact addMade_nx p r m
  ·exact addMade_nx p r m
omit [Kap] in
theorem addMade_some {p:Nat→Bool}:∀ {l:List (Nat×Nat×AObj)} {m:Mem} {b:Nat} {o:AObj},(addMade p l m).hp.get b=some o→(∃ k,(k,b,o)∈l∧p k=true)∨(m.hp.get b=some o∧∀ k o',(k,b,o')∈l→p k=false)
 | [],m,b,o,h=>.inr ⟨h,fun k o' hm=>by cases hm⟩
 | (i,id,ob) :: r,m,b,o,h=>by
  simp only [addMade] at h
  split at h
  ·rename_i hp
   dsimp only at h
   rw [Tr.get_put] at h
   by_cases e:b=id
   ·subst e
    rw [if_pos rfl] at h; cases h
    exact .inl ⟨i,by simp,hp⟩
   ·rw [if_neg e] at h
    rcases addMade_some h with ⟨k,h1,h2⟩ | ⟨h1,h2⟩
    ·exact .inl ⟨k,List.mem_cons_of_mem _ h1,h2⟩
    ·refine .inr ⟨h1,fun k o' hm=>?_⟩
     rcases List.mem_cons.1 hm with q | q
     ·simp only [Prod.mk.injEq] at q; exact absurd q.2.1 e
     ·exact h2 k o' q
  ·rename_i hp
   rcases addMade_some h with ⟨k,h1,h2⟩ | ⟨h1,h2⟩
   ·exact .inl ⟨k,List.mem_cons_of_mem _ h1,h2⟩
   ·refine .inr ⟨h1,fun k o' hm=>?_⟩
    rcases List.mem_cons.1 hm with q | q
    ·simp only [Prod.mk.injEq] at q; obtain ⟨rfl,rfl,rfl⟩:=q; simpa using hp
    ·exact h2 k o' q
omit [Kap] in
theorem addMade_none {p:Nat→Bool}:∀ {l:List (Nat×Nat×AObj)} {m:Mem} {b:Nat},(∀ k o',(k,b,o')∈l→p k=false)→(addMade p l m).hp.get b=m.hp.get b
 | [],m,b,h=>rfl
 | (i,id,ob) :: r,m,b,h=>by
  have hr:=addMade_none (p:=p) (l:=r) (m:=m) (b:=b) (fun k o' hm=>h k o' (List.mem_cons_of_mem _ hm))
  simp only [addMade]
  split
  ·rename_i hp
   dsimp only
   rw [Tr.get_put,if_neg]
   ·exact hr
   ·rintro rfl
    have:=h i ob (by simp)
    rw [hp] at this; cases this
  ·exact hr
omit [Kap] in
theorem addMade_mem {p:Nat→Bool}:∀ {l:List (Nat×Nat×AObj)} {m:Mem} {b k:Nat} {o:AObj},(∀ k' o',(k',b,o')∈l→o'=o)→(k,b,o)∈l→p k=true→(addMade p l m).hp.get b=some o
 | (i,id,ob) :: r,m,b,k,o,hu,hm,hp=>by
  simp only [addMade]
  rcases List.mem_cons.1 hm with q | q
  ·simp only [Prod.mk.injEq] at q
   obtain ⟨rfl,rfl,rfl⟩:=q
   rw [hp]
   dsimp only
   rw [Tr.get_put,if_pos rfl]
  ·have hr:=addMade_mem (m:=m) (fun k' o' h=>hu k' o' (List.mem_cons_of_mem _ h)) q hp
   split
   ·dsimp only
    rw [Tr.get_put]
    by_cases e:b=id
    ·subst e
     rw [if_pos rfl,hu i ob (by simp)]
    ·rw [if_neg e]; exact hr
   ·exact hr
omit [Kap] in
theorem hasBit_lor (a b k:Nat):hasBit (Nat.lor a b) k=(hasBit a k || hasBit b k):=by
 show Nat.testBit (a ||| b) k=_
 rw [Nat.testBit_or]; rfl
omit [Kap] in
theorem hasBit_bit (i k:Nat):hasBit (bit i) k=decide (i=k):=Nat.testBit_two_pow
omit [Kap] in
theorem hasBit_zero (k:Nat):hasBit 0 k=false:=Nat.zero_testBit k
omit [Kap] in
theorem land_eq {a b k:Nat} (h:Nat.land a b=a) (hk:hasBit a k=true):hasBit b k=true:=by
 have:Nat.testBit (a &&& b) k=true:=by
  have e:a &&& b=a:=h
  rw [e]; exact hk
 rw [Nat.testBit_and] at this
 simp at this
 exact this.2
omit [Kap] in
theorem ancOf_bit {anc:List Nat}:∀ {es:List Edge} {k:Nat},hasBit (ancOf anc es) k=true→∃ e∈es,Region.binds .any e=true∧∃ s,anc[e.on]? = some s∧(hasBit s k=true∨e.on=k)
 | [],k,h=>by simp only [ancOf,hasBit_zero] at h; cases h
 | e :: r,k,h=>by
  simp only [ancOf] at h
  split at h
  ·rename_i hb
   split at h
   ·rename_i s hs
    rw [hasBit_lor,hasBit_lor,hasBit_bit] at h
    simp only [Bool.or_eq_true,decide_eq_true_eq] at h
    rcases h with (h | h) | h
    ·exact ⟨e,by simp,hb,s,hs,.inl h⟩
    ·exact ⟨e,by simp,hb,s,hs,.inr h⟩
    ·obtain ⟨e',h1,h2⟩:=ancOf_bit h
     exact ⟨e',List.mem_cons_of_mem _ h1,h2⟩
   ·obtain ⟨e',h1,h2⟩:=ancOf_bit h
    exact ⟨e',List.mem_cons_of_mem _ h1,h2⟩
  ·obtain ⟨e',h1,h2⟩:=ancOf_bit h
   exact ⟨e',List.mem_cons_of_mem _ h1,h2⟩
omit [Kap] in
theorem ancs_ext:∀ (l:List Oper) (acc:List Nat),∃ ext,ancs l acc=acc ++ ext∧ext.length=l.length∧∀ j o,l[j]? = some o→ext[j]? = some (ancOf (acc ++ ext.take j) o.after.toList)
 | [],acc=>⟨[],by simp [ancs],rfl,fun j o h=>by simp at h⟩
 | o :: r,acc=>by
  obtain ⟨ext,h1,h2,h3⟩:=ancs_ext r (acc ++ [ancOf acc o.after.toList])
  refine ⟨ancOf acc o.after.toList :: ext,by simp [ancs,h1],by simp [h2],fun j o' h=>?_⟩
  cases j with
  | zero=>simp at h; subst h; simp
  | succ j=>
   have:=h3 j o' (by simpa using h)
   simpa using this
omit [Kap] in
theorem anc_edge {ops:List Oper} {i s k:Nat} {o:Oper} (ho:ops[i]? = some o) (hs:(ancs ops [])[i]? = some s) (hk:hasBit s k=true) :
  ∃ e∈o.after.toList,Region.binds .any e=true∧(e.on=k∨∃ s',(ancs ops [])[e.on]? = some s'∧hasBit s' k=true):=by
 obtain ⟨ext,h1,h2,h3⟩:=ancs_ext ops []
 rw [h1] at hs ⊢
 simp only [List.nil_append] at hs ⊢ h3
 have:=h3 i o ho
 rw [hs] at this
 cases this
 obtain ⟨e,q1,q2,s',q3,q4⟩:=ancOf_bit hk
 refine ⟨e,q1,q2,?_⟩
 rcases q4 with q4 | q4
 ·right
  refine ⟨s',?_,q4⟩
  rw [List.getElem?_take] at q3
  split at q3
  ·exact q3
  ·cases q3
 ·exact .inl q4
omit [Kap] in
theorem anc_some {ops:List Oper} {i:Nat} {o:Oper} (ho:ops[i]? = some o):∃ s,(ancs ops [])[i]? = some s:=by
 obtain ⟨ext,h1,h2,h3⟩:=ancs_ext ops []
 rw [h1]
 exact ⟨_,by simpa using h3 i o ho⟩
omit [Kap] in
theorem apart_get {ops:List Oper} {y:Oper} {s:Nat}:∀ {l:List Oper} {i j:Nat} {x:Oper},apart ops y s l i=true→l[j]? = some x→clash ops x y=true→hasBit s (i+j)=true
 | [],i,j,x,h,hx,hc=>by simp at hx
 | z :: r,i,j,x,h,hx,hc=>by
  simp only [apart,Bool.and_eq_true] at h
  cases j with
  | zero=>
   simp at hx; subst hx
   simpa [hc] using h.1
  | succ j=>
   have:=apart_get (j:=j) h.2 (by simpa using hx) hc
   rwa [show i+(j+1)=i+1+j by omega]
omit [Kap] in
theorem slots_get {ops:List Oper}:∀ {l:List Oper} {q:List Nat} {i j:Nat} {o:Oper} {s:Nat},slotsOk ops l q i=true→l[j]? = some o→q[j]? = some s →
  apart ops o s (ops.take (i+j)) 0=true∧∀ e∈o.after.toList,Region.binds .any e=true→e.on < i+j
 | [],q,i,j,o,s,h,ho,hs=>by simp at ho
 | z :: r,[],i,j,o,s,h,ho,hs=>by simp at hs
 | z :: r,t :: q,i,j,o,s,h,ho,hs=>by
  simp only [slotsOk,Bool.and_eq_true] at h
  cases j with
  | zero=>
   simp at ho hs; subst ho; subst hs
   refine ⟨h.1.1,fun e he hb=>?_⟩
   have:=List.all_eq_true.1 h.1.2 e he
   simp only [hb,Bool.not_true,Bool.false_or] at this
   exact Nat.le_of_ble_eq_true this
  | succ j=>
   have:=slots_get (j:=j) h.2 (by simpa using ho) (by simpa using hs)
   rwa [show i+(j+1)=i+1+j by omega]
omit [Kap] in
theorem slots_order {ops:List Oper} (h:slotsOk ops ops (ancs ops []) 0=true) {i j:Nat} {x y:Oper} {s:Nat} (hij:i < j) (hx:ops[i]? = some x) (hy:ops[j]? = some y) (hs:(ancs ops [])[j]? = some s) (hc:clash ops x y=true):hasBit s i=true:=by
 obtain ⟨h1,_⟩:=slots_get h hy hs
 have:=apart_get (j:=i) h1 (by rw [Nat.zero_add,List.getElem?_take,if_pos hij]; exact hx) hc
 simpa using this
omit [Kap] in
theorem slots_back {ops:List Oper} (h:slotsOk ops ops (ancs ops []) 0=true) {j:Nat} {y:Oper} (hy:ops[j]? = some y):∀ e∈y.after.toList,Region.binds .any e=true→e.on < j:=by
 obtain ⟨s,hs⟩:=anc_some hy
 obtain ⟨_,h2⟩:=slots_get h hy hs
 simpa using h2
omit [Kap] in
theorem anc_listed {ops:List Oper} (hsl:slotsOk ops ops (ancs ops []) 0=true) {L:Nat→Bool} (dc:∀ i o,ops[i]? = some o→L i=true→∀ e∈o.after.toList,Region.binds .any e=true→L e.on=true) :
  ∀ (i:Nat) (o:Oper) (s k:Nat),ops[i]? = some o→(ancs ops [])[i]? = some s→(∀ e∈o.after.toList,Region.binds .any e=true→L e.on=true)→hasBit s k=true→L k=true:=by
 intro i
 induction i using Nat.strongRecOn with
 | _ i ih=>
  intro o s k ho hs hr hk
  obtain ⟨e,h1,h2,h3⟩:=anc_edge ho hs hk
  rcases h3 with rfl | ⟨s',h3,h4⟩
  ·exact hr e h1 h2
  ·have hlt:=slots_back hsl ho e h1 h2
   have hilt:i < ops.length:=(List.getElem?_eq_some_iff.1 ho).1
   obtain ⟨o',ho'⟩:∃ o',ops[e.on]? = some o':=⟨ops[e.on]'(by omega),List.getElem?_eq_getElem (by omega)⟩
   exact ih e.on hlt o' s' k ho' h3 (dc e.on o' ho' (hr e h1 h2)) h4
end Go.AX
