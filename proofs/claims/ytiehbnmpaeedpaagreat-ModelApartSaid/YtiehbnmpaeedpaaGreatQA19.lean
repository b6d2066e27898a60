import Derived.Test.YtiehbnmpaeedpaaGreatQA18
import Derived.Below
import Derived.ChangeSame
import Derived.Test.YtiehbnmpaeedpaaGreatQA05
import Derived.ChangeShapes
import Derived.Deep.Slices
import Derived.Deep.Fields
import Derived.OpenShut
namespace Go.AX
variable [Kap]
variable {P:Program} {cx:Cx} {φ : Phi} {m:Mem} {w:World}
def resVar (a:Act):ResultVar→Sem Value
 | .tmp t=>pure (a.tmps.getD t undef)
 | .cell p t=>do loadVar t (← asAddr (a.tmps.getD p undef))
omit [Kap] in
theorem results_list (hcx:CxOk P cx) (h0:R0 P φ m w) {tm:Tr Value} {sz:Nat} {a:Act} (ht:TR φ { tm:=tm,sz:=sz,m:=m } a):∀ (l:List ResultVar) (vs:List Value),resultsA cx { tm:=tm,sz:=sz,m:=m } l=some vs →
  ∃ vs',(l.mapM (resVar a)).run P w = .ok vs' w∧LR φ vs vs'
 | [],vs,h=>by simp only [resultsA,Option.some.injEq] at h; subst h; exact ⟨[],by simp,LR.nil φ⟩
 | .tmp t :: r,vs,h=>by
  simp only [resultsA] at h
  split at h
  ·rename_i v l hv hl
   simp only [Option.some.injEq] at h; subst h
   obtain ⟨vs',h1,h2⟩:=results_list hcx h0 ht r l hl
   refine ⟨a.tmps.getD t undef :: vs',?_,h2.cons (ht.2.2 t v hv)⟩
   simp only [List.mapM_cons,Sem.run_bind,Sem.run_pure,Result.andThen_ok,h1,resVar]
  ·cases h
 | .cell p t :: r,vs,h=>by
  simp only [resultsA] at h
  split at h
  ·rename_i q hq
   split at h
   ·rename_i v l hv hl
    simp only [Option.some.injEq] at h; subst h
    obtain ⟨vs',h1,h2⟩:=results_list hcx h0 ht r l hl
    have hp:=ht.2.2 p _ hq
    obtain ⟨q',e1⟩:∃ q',a.tmps.getD p undef = .pointer (some q'):=by
     generalize a.tmps.getD p undef=y at hp
     cases hp; exact ⟨_,rfl⟩
    rw [e1] at hp
    obtain ⟨v',g1,g2⟩:=loadT_ok hcx h0 hv hp
    have g1':(loadVar t q').run P w = .ok v' w:=by simpa [Instr.loadAt,Instr.sureAddr] using g1
    refine ⟨v' :: vs',?_,h2.cons g2⟩
    simp only [List.mapM_cons,Sem.run_bind,Sem.run_pure,Result.andThen_ok,h1,e1,asAddr,g1',resVar]
   ·cases h
  ·cases h
omit [Kap] in
theorem ret_ok (hcx:CxOk P cx) {fn:Func} {st:St} {a:Act} {v:Value} {m':Mem} (hr:R0 P φ st.m w) (ht:TR φ st a) (h:retOf cx fn st=some (v,m')) :
  m'=st.m∧∃ v',(results fn a.tmps).run P w = .ok v' w∧VR φ v v':=by
 unfold retOf at h
 split at h
 ·rename_i l hl
  simp only [Option.some.injEq,Prod.mk.injEq] at h
  obtain ⟨rfl,rfl⟩:=h
  refine ⟨rfl,?_⟩
  obtain ⟨vs',h1,h2⟩:=results_list hcx hr (tm:=st.tm) (sz:=st.sz) ht _ _ hl
  refine ⟨if h:vs'.toArray.size=1 then vs'.toArray[0] else .tuple vs'.toArray,?_,?_⟩
  ·have hres:results fn a.tmps=(do let vs ← fn.results.mapM (resVar a); pure (if h:vs.size=1 then vs[0] else .tuple vs)):=by
    unfold results
    congr 1
    all_goals (congr 1)
   rw [hres]
   simp only [Sem.run_bind,Array.mapM_eq_mapM_toList,Sem.run_map,h1]
   rfl
  ·cases l with
   | nil=>
    have:=h2.nil_iff; subst this
    exact .tuple _ _ rfl (LR.nil φ).2
   | cons x r=>
    obtain ⟨x',r',rfl,hx,hr'⟩:=h2.uncons
    cases r with
    | nil=>
     have:=hr'.nil_iff; subst this
     exact hx
    | cons y q=>
     obtain ⟨y',q',rfl,hy,hq'⟩:=hr'.uncons
     have:¬ (x' :: y' :: q').toArray.size=1:=by simp
     rw [dif_neg this]
     exact .tuple _ _ (by simpa using h2.1) (by simpa using h2.2)
 ·cases h
def Ex.to:Ex→Exit
 | .normal=>.normal
 | .exit id=>.exit id
 | .ret=>.ret
def inLoop (P:Program) (c:Code) (Q:Exit→Act→World→Prop) (a:Act) (w:World):Prop:=
 ∀ (b:Frame) (k:List Item) (cs:List Frame),∃ e a' w',Q e a' w'∧Arrives P (lone (b.at a (.code c :: .inLoop c :: k)) cs w) b k cs e a' w'
def wpX (P:Program) (c:Code) (Q:Exit→Act→World→Prop) (a:Act) (w:World):Prop:=
 match c with
 | .loop c=>inLoop P c Q a w
 | c=>c.wp P Q a w
omit [Kap] in
theorem wp_of_inLoop {c:Code} {Q:Exit→Act→World→Prop} {a:Act} (h:inLoop P c Q a w):(Code.loop c).wp P Q a w:=by
 intro b k cs
 obtain ⟨e,a',w',hq,harr⟩:=h b k cs
 exact ⟨e,a',w',hq,.of_steps (.one step_loop) harr⟩
omit [Kap] in
theorem wp_of_wpX {c:Code} {Q:Exit→Act→World→Prop} {a:Act} (h:wpX P c Q a w):c.wp P Q a w:=by
 cases c <;> first | exact wp_of_inLoop h | exact h
omit [Kap] in
theorem inLoop_step {c:Code} {Q:Exit→Act→World→Prop} {a:Act} (h:c.wp P (Exit.then (inLoop P c Q) Q) a w):inLoop P c Q a w:=by
 intro b k cs
 obtain ⟨e,a₁,w₁,hq,harr⟩:=h b (.inLoop c :: k) cs
 cases e with
 | normal=>
  obtain ⟨e₂,a₂,w₂,hq₂,harr₂⟩:=hq b k cs
  exact ⟨e₂,a₂,w₂,hq₂,.of_steps (Steps.trans harr (.one step_inLoop)) harr₂⟩
 | exit id=>exact ⟨_,a₁,w₁,hq,.pass (x:=.inLoop c) rfl (fun _ _=>.inl (by simp)) harr⟩
 | goto l=>exact ⟨_,a₁,w₁,hq,.pass (x:=.inLoop c) rfl (fun _ _=>.inl (by simp)) harr⟩
 | ret=>exact ⟨_,a₁,w₁,hq,.pass (x:=.inLoop c) rfl (fun _ _=>.inl (by simp)) harr⟩
 | panic ch=>exact ⟨_,a₁,w₁,hq,.pass (x:=.inLoop c) rfl (fun _ _=>.inl (by simp)) harr⟩
 | outgrown=>exact ⟨_,a₁,w₁,hq,.pass (x:=.inLoop c) rfl (fun _ _=>.inl (by simp)) harr⟩
def RunOk (P:Program) (run:Code→St→Option (Ex×St)):Prop:=
 ∀ (c:Code) (st:St) (ex:Ex) (st':St),run c st=some (ex,st')→∀ (φ : Phi) (a:Act) (w:World),RR P φ st.m w→TR φ st a →
  ∀ Q:Exit→Act→World→Prop,(∀ φ' a' w',RR P φ' st'.m w'→TR φ' st' a'→Stp φ st.m w φ' st'.m w'→st'.sz=st.sz→Q ex.to a' w')→wpX P c Q a w
theorem callBody_ok (hcx:CxOk P cx) {run:Code→St→Option (Ex×St)} (hrun:RunOk P run) (k:FuncId) (args:List Value) (m:Mem) (v:Value) (m':Mem) (h:callBody cx run k args m=some (v,m')) :
  (∃ fn c,P.funcs[k]? = some fn∧fn.body=some c∧(fn.name == "runtime.NumGoroutine")=false) ∧
  ∀ (φ : Phi) (w:World) (args':Array Value),LR φ args args'.toList→RR P φ m w →
   Calls P k args' w (fun e w'=>∃ v' φ',e = .returned v'∧VR φ' v v'∧RR P φ' m' w'∧Stp φ m w φ' m' w'):=by
 unfold callBody at h
 split at h
 ·rename_i fn hfn
  obtain ⟨q1,q3⟩:=hcx.fn _ _ hfn
  split at h
  ·rename_i c hb
   refine ⟨⟨fn,c,q1,hb,q3⟩,fun φ w args' hl hr=>?_⟩
   split at h
   ·rename_i hle
    have hle':args.length≤fn.ntmps:=Nat.le_of_ble_eq_true hle
    have hasz:args'.size=args.length:=by rw [hl.1]; simp
    have ht:TR φ { tm:=writeL .nil args 0,sz:=fn.ntmps,m:=m } { tmps:=args' ++ Array.replicate (fn.ntmps - args'.size) undef,defers:=[] }:=by
     refine ⟨by simp [hasz]; omega,rfl,fun t v g=>?_⟩
     rw [writeL_get] at g
     split at g
     ·rename_i hlt
      have hlt':t < args.length:=by omega
      rw [Nat.sub_zero] at g
      obtain ⟨v',g1,g2⟩:=hl.get g
      have:(args' ++ Array.replicate (fn.ntmps - args'.size) undef).getD t undef=v':=by
       rw [Array.getD_eq_getD_getElem?,Array.getElem?_append_left (by omega),← Array.getElem?_toList,g1]; rfl
      rw [this]; exact g2
     ·rw [Tr.get_nil] at g; cases g
    have fin:∀ (ex:Ex) (st:St),(ex = .normal∨ex = .ret)→run c { tm:=writeL .nil args 0,sz:=fn.ntmps,m:=m }=some (ex,st)→retOf cx fn st=some (v,m') →
      Calls P k args' w (fun e w'=>∃ v' φ',e = .returned v'∧VR φ' v v'∧RR P φ' m' w'∧Stp φ m w φ' m' w'):=by
     intro ex st hex he hre
     refine calls_of_wp q1 hb (wp_of_wpX (hrun _ _ _ _ he φ _ w hr ht _ ?_))
     intro φ' a' w' g1 g2 g3 g4
     obtain ⟨rfl,v',r1,r2⟩:=ret_ok hcx g1.r0 g2 hre
     rcases hex with rfl | rfl
     ·exact ⟨g2.2.1,v',r1,v',φ',rfl,r2,g1,g3⟩
     ·exact ⟨g2.2.1,v',r1,v',φ',rfl,r2,g1,g3⟩
    split at h
    ·rename_i st he; exact fin .normal st (.inl rfl) he h
    ·rename_i st he; exact fin .ret st (.inr rfl) he h
    ·cases h
   ·cases h
  ·cases h
 ·cases h
theorem callOf_ok (hcx:CxOk P cx) (hov:OvOk P cx) {run:Code→St→Option (Ex×St)} (hrun:RunOk P run):CallerOk P (callOf cx run):=by
 intro k args m v m' h
 unfold callOf at h
 split at h
 ·rename_i f hf
  exact hov k f hf args m v m' h
 ·obtain ⟨⟨fn,c,q1,q2,q3⟩,hC⟩:=callBody_ok hcx hrun k args m v m' h
  intro φ w args' hl hr
  exact .inl ⟨run_callFunc q1 q2 q3 _ _,hC φ w args' hl hr⟩
theorem step_ok (hcx:CxOk P cx) (hov:OvOk P cx) (hmix:P.follows .mixedOrders=true) {run:Code→St→Option (Ex×St)} (hrun:RunOk P run):RunOk P (step cx run):=by
 have hcall:=callOf_ok hcx hov hrun
 intro c st ex st' h φ a w hr ht Q hq
 cases c with
 | skip=>simp only [step,Option.some.injEq,Prod.mk.injEq] at h; obtain ⟨rfl,rfl⟩:=h; exact wp_skip (hq φ a w hr ht (Stp.refl _ _ _) rfl)
 | label l=>simp only [step,Option.some.injEq,Prod.mk.injEq] at h; obtain ⟨rfl,rfl⟩:=h; exact wp_label (hq φ a w hr ht (Stp.refl _ _ _) rfl)
 | exit id=>simp only [step,Option.some.injEq,Prod.mk.injEq] at h; obtain ⟨rfl,rfl⟩:=h; exact wp_exit (hq φ a w hr ht (Stp.refl _ _ _) rfl)
 | ret=>simp only [step,Option.some.injEq,Prod.mk.injEq] at h; obtain ⟨rfl,rfl⟩:=h; exact wp_ret (hq φ a w hr ht (Stp.refl _ _ _) rfl)
 | region id ops draw=>
  cases draw with
  | false=>
   simp only [step] at h
   split at h
   ·rename_i st1 hst
    simp only [Option.some.injEq,Prod.mk.injEq] at h
    obtain ⟨rfl,rfl⟩:=h
    refine wp_region ?_
    have:=ops_ok (Q:=Q) hcx hcall (ops:=ops) ops.toList 0 φ w st a st1 (fun j=>by simp) (by simp) hr ht hst (fun φ' a' w' g1 g2 g3 g4=>hq φ' a' w' g1 g2 g3 g4)
    rw [show List.range ops.size=List.range' 0 ops.toList.length by rw [List.range_eq_range']; simp]
    exact this
   ·cases h
  | true=>
   simp only [step] at h
   split at h
   ·rename_i hslots
    split at h
    ·rename_i st1 hst
     simp only [Option.some.injEq,Prod.mk.injEq] at h
     obtain ⟨rfl,rfl⟩:=h
     exact wp_region_any hmix (draw_ok hcx hcall hr ht hslots hst hq)
    ·cases h
   ·cases h
 | seq x y=>
  simp only [step] at h
  refine wp_seq ?_
  split at h
  ·rename_i st1 h1
   refine wp_of_wpX (hrun _ _ _ _ h1 φ a w hr ht _ ?_)
   intro φ1 a1 w1 g1 g2 g3 g4
   refine wp_of_wpX (hrun _ _ _ _ h φ1 a1 w1 g1 g2 _ ?_)
   intro φ2 a2 w2 k1 k2 k3 k4
   exact hq φ2 a2 w2 k1 k2 (g3.trans k3) (by rw [k4,g4])
  ·rename_i hne
   refine wp_of_wpX (hrun _ _ _ _ h φ a w hr ht _ ?_)
   intro φ1 a1 w1 g1 g2 g3 g4
   cases ex with
   | normal=>exact (hne _ h).elim
   | exit id=>exact hq φ1 a1 w1 g1 g2 g3 g4
   | ret=>exact hq φ1 a1 w1 g1 g2 g3 g4
 | cond o x y=>
  simp only [step] at h
  split at h
  ·rename_i ho
   have h1:=eval_ok hcx hr.r0.glob ht ho
   have hb:a.eval o = .bool true:=by generalize a.eval o=q at h1; cases h1; rfl
   exact wp_cond_true hb (wp_of_wpX (hrun _ _ _ _ h φ a w hr ht Q hq))
  ·rename_i ho
   have h1:=eval_ok hcx hr.r0.glob ht ho
   have hb:a.eval o = .bool false:=by generalize a.eval o=q at h1; cases h1; rfl
   exact wp_cond_false hb (wp_of_wpX (hrun _ _ _ _ h φ a w hr ht Q hq))
  ·cases h
 | block id x=>
  simp only [step] at h
  refine wp_block ?_
  split at h
  ·rename_i i st1 h1
   refine wp_of_wpX (hrun _ _ _ _ h1 φ a w hr ht _ ?_)
   intro φ1 a1 w1 g1 g2 g3 g4
   split at h
   ·rename_i he
    have he':=Nat.eq_of_beq_eq_true he
    simp only [Option.some.injEq,Prod.mk.injEq] at h
    obtain ⟨rfl,rfl⟩:=h
    simp only [Ex.to,Exit.inBlock,he',if_true]
    exact hq φ1 a1 w1 g1 g2 g3 g4
   ·rename_i he
    have he':=Tr.beq_false.1 he
    simp only [Option.some.injEq,Prod.mk.injEq] at h
    obtain ⟨rfl,rfl⟩:=h
    simp only [Ex.to,Exit.inBlock,he',if_false]
    exact hq φ1 a1 w1 g1 g2 g3 g4
  ·rename_i hne
   refine wp_of_wpX (hrun _ _ _ _ h φ a w hr ht _ ?_)
   intro φ1 a1 w1 g1 g2 g3 g4
   cases ex with
   | normal=>exact hq φ1 a1 w1 g1 g2 g3 g4
   | exit i=>exact (hne _ _ h).elim
   | ret=>exact hq φ1 a1 w1 g1 g2 g3 g4
 | loop x=>
  simp only [step] at h
  refine inLoop_step ?_
  split at h
  ·rename_i st1 h1
   refine wp_of_wpX (hrun _ _ _ _ h1 φ a w hr ht _ ?_)
   intro φ1 a1 w1 g1 g2 g3 g4
   refine (hrun _ _ _ _ h φ1 a1 w1 g1 g2 Q ?_:wpX P (.loop x) Q a1 w1)
   intro φ2 a2 w2 k1 k2 k3 k4
   exact hq φ2 a2 w2 k1 k2 (g3.trans k3) (by rw [k4,g4])
  ·rename_i hne
   refine wp_of_wpX (hrun _ _ _ _ h φ a w hr ht _ ?_)
   intro φ1 a1 w1 g1 g2 g3 g4
   cases ex with
   | normal=>exact (hne _ h).elim
   | exit id=>exact hq φ1 a1 w1 g1 g2 g3 g4
   | ret=>exact hq φ1 a1 w1 g1 g2 g3 g4
 | rangeFunc _ _ _ _=>simp [step] at h
 | goto _=>simp [step] at h
 | scope _=>simp [step] at h
 | refuse _=>simp [step] at h
theorem exec_ok (hcx:CxOk P cx) (hov:OvOk P cx) (hmix:P.follows .mixedOrders=true):∀ n,RunOk P (exec cx n)
 | 0=>fun c st ex st' h=>by cases h
 | n+1=>step_ok hcx hov hmix (exec_ok hcx hov hmix n)
theorem callN_ok (hcx:CxOk P cx) (hov:OvOk P cx) (hmix:P.follows .mixedOrders=true) {n:Nat} {k:FuncId} {args:List Value} {m:Mem} {v:Value} {m':Mem} (h:callN cx n k args m=some (v,m')) (φ : Phi) (w:World) (args':Array Value) (hl:LR φ args args'.toList) (hr:RR P φ m w) :
  Calls P k args' w (fun e w'=>∃ v' φ',e = .returned v'∧VR φ' v v'∧RR P φ' m' w'∧Stp φ m w φ' m' w'):=
 (callBody_ok hcx (exec_ok hcx hov hmix n) k args m v m' h).2 φ w args' hl hr
theorem OvOk.nil (P:Program):OvOk P (Cx.of P):=fun k f h=>by
 rw [show (Cx.of P).ov.get k=none from by cases k <;> rfl] at h; cases h
end Go.AX
namespace Go.AX
variable [Kap]
open Go Go.RowKit
def isTrue (r:Out Value):Bool:=match r with
 | some (.bool true,_)=>true
 | _=>false
def m0 (P:Program):Mem:=⟨.nil,P.globals.size+1,0⟩
def φ0 (P:Program):Phi:=fun b=>if b < P.globals.size+1 then some ⟨b,0,0,0,0⟩ else none
omit [Kap] in
theorem Tr_nil_get {α : Type} (b:Nat):(Tr.nil:Tr α).get b=none:=by
 cases b <;> rfl
omit [Kap] in
theorem rr0 (P:Program) (w:World):RR P (φ0 P) (m0 P) w:=by
 refine ⟨⟨?_,?_,?_⟩,?_,Nat.zero_le _⟩
 ·intro b o h
  rw [show (m0 P).hp.get b=none from Tr_nil_get b] at h; cases h
 ·intro b1 b2 o1 o2 l1 l2 h
  rw [show (m0 P).hp.get b1=none from Tr_nil_get b1] at h; cases h
 ·intro g hg
  exact ⟨⟨g,0,0,0,0⟩,if_pos (Nat.lt_succ_of_le hg),rfl,rfl⟩
 ·intro b hb
  exact if_neg (by have:P.globals.size+1≤b:=hb; omega)
theorem Stp.below {P:Program} {φ':Phi} {m':Mem} {w w':World} (h:Stp (φ0 P) (m0 P) w φ' m' w'):Below w.heap.size w w':=
 ⟨h.os,h.tape,h.output,h.size,fun k hk=>h.same k hk (by
  rintro ⟨b,o,l,_,h1,_⟩
  rw [show (m0 P).hp.get b=none from Tr_nil_get b] at h1; cases h1)⟩
theorem closed_true2 {P:Program} {cx:Cx} (hcx:CxOk P cx) (hov:OvOk P cx) (hmix:P.follows .mixedOrders=true) {n k:Nat} (h:isTrue (callN cx n k [] (m0 P))=true) (w:World) :
  Calls P k #[] w fun e w'=>(e = .returned (.bool true)∧Below w.heap.size w w')∧(Kap.k→w.drawn≤w'.drawn):=by
 rcases hc:callN cx n k [] (m0 P) with _ | ⟨v,m'⟩
 ·rw [hc] at h; cases h
 ·rw [hc] at h
  have hv:v = .bool true:=by
   unfold isTrue at h
   split at h
   ·rename_i heq; cases heq; rfl
   ·cases h
  subst hv
  have:=callN_ok hcx hov hmix hc (φ0 P) w #[] ⟨rfl,fun i v v' h=>by simp at h⟩ (rr0 P w)
  refine this.mono ?_
  rintro e w' ⟨v',φ',rfl,hv,_,hs⟩
  refine ⟨⟨?_,hs.below⟩,hs.drawn⟩
  cases hv
  rfl
omit [Kap] in
theorem post_of_below {H:Type} {enc:TypeId×Value→H} {P:Program} {f:Func} {s:ChangeSpec} {apart fresh handsOn again:Bool} {W W':World} {args:Array Value} {v:Value} {ds gs:List (DataW H)} {before pa pv:List MemPlace}
  (hW:DataW.Whole enc P f.params.toList s.vars apart W args.toList ds gs before)
  (hres:∀ (b:Nat) (sp:Nat→Bool) (hd:Bool),DataW.TrodAll enc P W' b sp hd f.resultTypes.toList (v.resultList f.resultTypes.size) (s.fn H (ds ++ gs)).results [])
  (hargs:∀ sp:Nat→Bool,(∀ p∈before,sp p.block=true)→DataW.TrodAll enc P W' 0 sp true f.params.toList args.toList (s.fn H (ds ++ gs)).args pa)
  (hvars:∀ sp:Nat→Bool,(∀ p∈before,sp p.block=true)→DataW.TrodVars enc P W' sp s.vars (s.fn H (ds ++ gs)).vars pv)
  (hps:before=pa ++ pv) (hk:Below W.heap.size W W')
  (hok:∀ (j:Nat) (t:TypeId) (r:Value),f.resultTypes[j]? = some t→(v.resultList f.resultTypes.size)[j]? = some r→Value.okWide P W' .any 0 t r) :
  s.post enc P f apart fresh handsOn again W args v W':=by
 have hold:∀ p∈before,(fun b=>decide (b < W.heap.size)) p.block=true:=fun p hp=>by simpa using hW.lt p hp
 refine ⟨ds,gs,before,[],pa,pv,hW,hres _ _ _,hargs _ hold,hvars _ hold,World.keptBut_mono (fun p hp=>⟨hp,?_⟩) (hk.frame (·∈before)),fun _=>?_⟩
 ·rw [hps,List.mem_append] at hp
  exact Or.inr hp
 ·have hlt:=hW.lt
  obtain ⟨_,_,_,_,_,hz,hn⟩:=hW
  refine ⟨hok,_,_,([] ++ pa) ++ pv,⟨[] ++ pa,pv,ChangeShapes.trodAll_append (hargs _ (fun _ _=>rfl)) (hres _ _ _),hvars _ (fun _ _=>rfl),rfl,?_,?_⟩,?_⟩
  ·intro b off hp
   have hp':MemPlace.cell b off∈before:=by rw [hps]; simpa using hp
   rw [hk.frozen (hlt _ hp')]
   exact hz b off hp'
  ·intro ha
   have:=hn ha
   rw [hps] at this
   simpa using this
  ·intro p hp _
   rw [hps]
   simpa using hp
end Go.AX
namespace Go.AX
variable [Kap]
open Go Go.RowKit
def good0 (N:Nat):Value→Bool
 | .bool _ | .int .. | .string _ | .pointer none | .slice none _ _ | .map none | .nilFunc | .nilIface=>true
 | .pointer (some a)=>a.spot.isNone && Nat.blt a.block N
 | .slice (some _) 0 0=>true
 | .slice (some a) _ _=>a.spot.isNone && Nat.blt a.block N
 | _=>false
def good1 (N:Nat):Value→Bool
 | .iface _ (.agg c)=>c.toList.all (good0 N)
 | .iface _ v=>good0 N v
 | v=>good0 N v
def goodA (N:Nat):Value→Bool
 | .agg cs=>cs.toList.all (good1 N)
 | v=>good1 N v
noncomputable def trOf {α : Type} (f:Nat→Option α):Nat→Tr α
 | 0=>.nil
 | n+1=>match f n with
  | some x=>(trOf f n).put n x
  | none=>trOf f n
omit [Kap] in
theorem trOf_get {α : Type} (f:Nat→Option α):∀ n b,(trOf f n).get b=if b < n then f b else none
 | 0,b=>by rw [if_neg (Nat.not_lt_zero b)]; exact Tr_nil_get b
 | n+1,b=>by
  unfold trOf
  split
  ·rename_i x hx
   rw [Tr.get_put,trOf_get f n]
   by_cases h:b=n
   ·subst h; rw [if_pos rfl,if_pos (Nat.lt_succ_self b),hx]
   ·rw [if_neg h]
    by_cases h2:b < n
    ·rw [if_pos h2,if_pos (by omega)]
    ·rw [if_neg h2,if_neg (by omega)]
  ·rename_i hx
   rw [trOf_get f n]
   by_cases h:b=n
   ·subst h; rw [if_neg (Nat.lt_irrefl b),if_pos (Nat.lt_succ_self b),hx]
   ·by_cases h2:b < n
    ·rw [if_pos h2,if_pos (by omega)]
    ·rw [if_neg h2,if_neg (by omega)]
def cellOf (N:Nat) (c:Array Value) (i:Nat):Option Value:=match c[i]? with
 | some v=>match good1 N v with
  | true=>some v
  | false=>none
 | none=>none
noncomputable def objOf (N:Nat) (w:World) (b:Nat):Option AObj:=match w.heap[b]? with
 | some (.cells c _ _)=>some (.ro (trOf (cellOf N c) c.size) c.size)
 | _=>none
def nOf (P:Program) (w:World):Nat:=max w.heap.size (P.globals.size+1)
noncomputable def mW (P:Program) (w:World):Mem:=⟨trOf (objOf (nOf P w) w) w.heap.size,nOf P w,nOf P w⟩
def φW (P:Program) (w:World):Phi:=fun b=>if b < nOf P w then some ⟨b,0,szAt0 w b,szAt0 w b,0⟩ else none
where szAt0 (w:World) (b:Nat):Nat:=match w.heap[b]? with
 | some (.cells c _ _)=>c.size
 | _=>0
omit [Kap] in
theorem vr_good0 {P:Program} {w:World} {v:Value} (h:good0 (nOf P w) v=true):VR (φW P w) v v:=by
 cases v with
 | bool b=>exact .bool b
 | int k n=>exact .int k n
 | string s=>exact .string s
 | pointer a=>
  cases a with
  | none=>exact .ptr0
  | some a=>
   obtain ⟨b,o,sp⟩:=a
   cases sp with
   | some x=>simp [good0] at h
   | none=>
    have hb:b < nOf P w:=by simpa [good0] using h
    have:=VR.ptr (φ:=φW P w) b o _ (if_pos hb)
    simpa using this
 | slice a n c=>
  cases a with
  | none=>exact .sl0 n c
  | some a=>
   by_cases hz:n=0∧c=0
   ·obtain ⟨rfl,rfl⟩:=hz
    exact .slE a a
   ·have h':(a.spot.isNone && Nat.blt a.block (nOf P w))=true:=by
     unfold good0 at h
     split at h
     all_goals first | (simp_all; done) | skip
     all_goals (rename_i e; cases e; first | exact (hz ⟨rfl,rfl⟩).elim | exact h)
    obtain ⟨b,o,sp⟩:=a
    cases sp with
    | some x=>simp at h'
    | none=>
     have hb:b < nOf P w:=by simpa using h'
     have:=VR.sl (φ:=φW P w) b o n c c _ (if_pos hb) (.inl rfl)
     simpa using this
 | map r=>cases r with
  | none=>exact .map0
  | some a=>simp [good0] at h
 | nilFunc=>exact .nilFunc
 | nilIface=>exact .nilIface
 | _=>simp [good0] at h
omit [Kap] in
theorem vr_good1 {P:Program} {w:World} {v:Value} (h:good1 (nOf P w) v=true):VR (φW P w) v v:=by
 cases v with
 | iface t v=>
  cases v with
  | agg cs=>
   refine .iface t _ _ (.agg cs cs rfl (fun i v v' h1 h2=>?_))
   rw [h1] at h2; cases h2
   exact vr_good0 (List.all_eq_true.1 h v (List.mem_of_getElem? h1))
  | _=>exact .iface t _ _ (vr_good0 h)
 | _=>exact vr_good0 h
omit [Kap] in
theorem vr_goodA {P:Program} {w:World} {v:Value} (h:goodA (nOf P w) v=true):VR (φW P w) v v:=by
 cases v with
 | agg cs=>
  refine .agg cs cs rfl (fun i v v' h1 h2=>?_)
  rw [h1] at h2; cases h2
  exact vr_good1 (List.all_eq_true.1 h v (List.mem_of_getElem? h1))
 | _=>exact vr_good1 h
omit [Kap] in
theorem rrW (P:Program) (w:World):RR P (φW P w) (mW P w) w:=by
 have hN:w.heap.size≤nOf P w:=Nat.le_max_left _ _
 have key:∀ {b o},(mW P w).hp.get b=some o→∃ c t fr,w.heap[b]? = some (.cells c t fr)∧o = .ro (trOf (cellOf (nOf P w) c) c.size) c.size∧b < w.heap.size:=by
  intro b o h
  have h':(trOf (objOf (nOf P w) w) w.heap.size).get b=some o:=h
  rw [trOf_get] at h'
  split at h'
  ·rename_i hb
   unfold objOf at h'
   split at h'
   ·rename_i c t fr hc
    cases h'
    exact ⟨c,t,fr,hc,rfl,hb⟩
   ·cases h'
  ·cases h'
 refine ⟨⟨?_,?_,?_⟩,?_,Nat.le_refl _⟩
 ·intro b o h
  obtain ⟨c,t,fr,hc,rfl,hb⟩:=key h
  refine ⟨_,if_pos (by omega),c,t,fr,hc,by simp [φW.szAt0,hc],rfl,by simp,fun i v hi hv=>?_⟩
  rw [trOf_get,if_pos hi] at hv
  unfold cellOf at hv
  split at hv
  ·rename_i x hx
   split at hv
   ·rename_i hg
    cases hv
    exact ⟨v,by simpa using hx,vr_good1 hg⟩
   ·cases hv
  ·cases hv
 ·intro b1 b2 o1 o2 l1 l2 h1 h2 p1 p2 hr
  unfold φW at p1 p2
  split at p1
  ·split at p2
   ·cases p1; cases p2; exact hr
   ·cases p2
  ·cases p1
 ·intro g hg
  exact ⟨_,if_pos (Nat.lt_of_lt_of_le (Nat.lt_succ_of_le hg) (Nat.le_max_right _ _)),rfl,rfl⟩
 ·intro b hb
  exact if_neg (by have:nOf P w≤b:=hb; omega)
theorem Stp.belowW {P:Program} {φ':Phi} {m':Mem} {w w':World} (h:Stp (φW P w) (mW P w) w φ' m' w'):Below w.heap.size w w':=
 ⟨h.os,h.tape,h.output,h.size,fun k hk=>h.same k hk (by
  rintro ⟨b,o,l,h0,h1,_⟩
  have h1':(trOf (objOf (nOf P w) w) w.heap.size).get b=some o:=h1
  rw [trOf_get] at h1'
  split at h1'
  ·rename_i hb
   have:nOf P w≤b:=h0
   have:w.heap.size≤nOf P w:=Nat.le_max_left _ _
   omega
  ·cases h1')⟩
omit [Kap] in
theorem rd_mW {P:Program} {w:World} {b o:Nat} {v:Value} (h:w.cell? ⟨b,o,none⟩=some v) (hg:good1 (nOf P w) v=true):rd (mW P w) b o=some v:=by
 unfold World.cell? at h
 split at h
 ·rename_i c t fr hc
  have ho:c[o]? = some v:=by simpa using h
  have hb:b < w.heap.size:=(Array.getElem?_eq_some_iff.1 hc).1
  have h1:(mW P w).hp.get b=some (.ro (trOf (cellOf (nOf P w) c) c.size) c.size):=by
   show (trOf (objOf (nOf P w) w) w.heap.size).get b=_
   have hc':w.heap[b]? = some (.cells c t fr):=hc
   rw [trOf_get,if_pos hb]
   unfold objOf
   rw [hc']
  have ho':o < c.size:=(Array.getElem?_eq_some_iff.1 ho).1
  rw [rd_of_cells (by rw [h1]; rfl) ho',trOf_get,if_pos ho']
  unfold cellOf
  rw [ho]
  simp only [hg]
 ·cases h
omit [Kap] in
theorem cell_lt {w:World} {b o:Nat} {v:Value} (h:w.cell? ⟨b,o,none⟩=some v):b < w.heap.size:=by
 unfold World.cell? at h
 split at h
 ·rename_i hc; exact (Array.getElem?_eq_some_iff.1 hc).1
 ·cases h
def trueA:List Value→Mem→Option (Value×Mem)
 | [],m=>some (.bool true,m)
 | _,_=>none
theorem true_sum {P:Program} {cx:Cx} (hcx:CxOk P cx) (hov:OvOk P cx) (hmix:P.follows .mixedOrders=true) {n k:Nat} {fn:Func} (hf:P.funcs[k]? = some fn) (hb:fn.body.isSome=true) (hn:(fn.name == "runtime.NumGoroutine")=false)
  (h:isTrue (callN cx n k [] (m0 P))=true):SumOk P k trueA:=by
 intro args m v m' ha φ w args' hl hr
 obtain ⟨bd,hb⟩:=Option.isSome_iff_exists.1 hb
 unfold trueA at ha
 split at ha
 ·cases ha
  have he:args' = #[]:=by
   have:=hl.nil_iff
   obtain ⟨l'⟩:=args'
   simp only at this
   rw [this]
  subst he
  refine .inl ⟨run_callFunc hf hb hn _ _,?_⟩
  refine (closed_true2 hcx hov hmix h w).mono ?_
  rintro e w' ⟨⟨rfl,hg⟩,hd⟩
  exact ⟨_,φ,rfl,.bool true,
   ⟨⟨fun b o h=>by
    obtain ⟨l,h1,h2⟩:=hr.r0.obj b o h
    exact ⟨l,h1,h2.mono (fun _ _ h=>h) (hg.block _ h2.lt)⟩,hr.r0.inj,hr.r0.glob⟩,hr.fresh,hr.fl⟩,
   ⟨fun _ _ h=>h,fun _ h=>.inr h,fun r hr _=>hg.block r hr,hg.size,hg.os,hg.tape,hg.output,Nat.le_refl _,rfl,fun _ _=>rfl,fun _ _ h=>h,fun _ _=>rfl,hd⟩⟩
 ·cases ha
theorem ov_put {P:Program} {t:Tr (List Value→Mem→Option (Value×Mem))} {k:Nat} {f:List Value→Mem→Option (Value×Mem)} (h:∀ j g,t.get j=some g→SumOk P j g) (hk:SumOk P k f):∀ j g,(t.put k f).get j=some g→SumOk P j g:=by
 intro j g hg
 rw [Tr.get_put] at hg
 split at hg
 ·rename_i e; subst e; cases hg; exact hk
 ·exact h j g hg
theorem ov_nil {P:Program}:∀ j g,(Tr.nil:Tr (List Value→Mem→Option (Value×Mem))).get j=some g→SumOk P j g:=by
 intro j g hg
 rw [Tr_nil_get] at hg; cases hg
def plainT (P:Program):Nat→TypeId→Bool
 | 0,_=>false
 | d+1,t=>match P.underlying t with
  | some .bool=>true
  | some (.int _)=>true
  | some .string=>true
  | some (.slice e)=>Nat.blt 0 (P.cellsOf e) && plainT P d e
  | some (.struct fs)=>fs.toList.all fun f=>plainT P d f.type
  | some (.array _ e)=>plainT P d e
  | _=>false
section
variable {H:Type} {enc:TypeId×Value→H} {P:Program} {w w':World}
omit [Kap] in
theorem cell_below (hb:Below w.heap.size w w') {a:Addr} {v:Value} (h:w.cell? a=some v):w'.cell? a=some v:=by
 have hlt:a.block < w.heap.size:=by
  unfold World.cell? at h
  split at h
  ·rename_i hc; exact (Array.getElem?_eq_some_iff.1 hc).1
  ·cases h
 unfold World.cell? at h ⊢
 rw [hb.block _ hlt]; exact h
omit [Kap] in
theorem mapM_below {α β : Type} {f g:α→Option β}:∀ {l:List α} {ys:List β},(∀ x∈l,∀ y,f x=some y→g x=some y)→l.mapM f=some ys→l.mapM g=some ys
 | [],ys,_,h=>by simpa using h
 | x :: r,ys,hfg,h=>by
  rw [List.mapM_cons] at h ⊢
  cases hx:f x with
  | none=>simp [hx] at h
  | some y=>
   cases hr:r.mapM f with
   | none=>simp [hx,hr] at h
   | some zs=>
    rw [hfg x (List.mem_cons_self ..) y hx,mapM_below (fun z hz=>hfg z (List.mem_cons_of_mem _ hz)) hr]
    simpa [hx,hr] using h
omit [Kap] in
theorem cells_below (hb:Below w.heap.size w w') {base:Nat} {a:Addr} {n:Nat} {cs:List Value} (h:w.cells? base a n=some cs):w'.cells? base a n=some cs:=by
 unfold World.cells? at h ⊢
 split at h
 ·rename_i hle
  rw [if_pos hle]
  exact mapM_below (fun i _ y hy=>cell_below hb hy) h
 ·cases h
omit [Kap] in
theorem mapM_length {α β : Type} {f:α→Option β}:∀ {l:List α} {ys:List β},l.mapM f=some ys→ys.length=l.length
 | [],ys,h=>by simp at h; subst h; rfl
 | x :: r,ys,h=>by
  rw [List.mapM_cons] at h
  cases hx:f x with
  | none=>simp [hx] at h
  | some y=>
   cases hr:r.mapM f with
   | none=>simp [hx,hr] at h
   | some zs=>
    simp [hx,hr] at h
    subst h
    simp [mapM_length hr]
omit [Kap] in
theorem mapM_mem {α β : Type} {f:α→Option β}:∀ {l:List α} {ys:List β},l.mapM f=some ys→∀ x∈l,∃ y∈ys,f x=some y
 | [],ys,_,x,hx=>by cases hx
 | z :: r,ys,h,x,hx=>by
  rw [List.mapM_cons] at h
  cases hz:f z with
  | none=>simp [hz] at h
  | some y=>
   cases hr:r.mapM f with
   | none=>simp [hz,hr] at h
   | some zs=>
    simp [hz,hr] at h
    subst h
    rcases List.mem_cons.1 hx with rfl | hx
    ·exact ⟨y,List.mem_cons_self ..,hz⟩
    ·obtain ⟨q,h1,h2⟩:=mapM_mem hr x hx
     exact ⟨q,List.mem_cons_of_mem _ h1,h2⟩
omit [Kap] in
theorem mapM_turn {α β : Type} {f g:α→Option (β×List MemPlace)} {l:List α} {ys:List (β×List MemPlace)} {sp:Nat→Bool} (h:l.mapM f=some ys) (hp:∀ p∈ys.flatMap (·.2),sp p.block=true)
  (hfg:∀ x∈l,∀ y,f x=some y→(∀ p∈y.2,sp p.block=true)→g x=some y):l.mapM g=some ys:=by
 refine mapM_below (fun x hx y hy=>?_) h
 obtain ⟨q,h1,h2⟩:=mapM_mem h x hx
 rw [hy] at h2; cases h2
 exact hfg x hx y hy (fun p hpp=>hp p (List.mem_flatMap.2 ⟨y,h1,hpp⟩))
omit [Kap] in
theorem ChangeShapes.open_slice_raw {base:Nat} {sp:Nat→Bool} {held:Bool} {t e:TypeId} {fuel:Nat} {cs:List Value} {x:DataW H×List MemPlace} (ht:P.underlying t=some (.slice e)) (h:DataW.trod enc P w base sp held (fuel+1) t cs=some x) :
  (cs=[.slice none 0 0]∧x=(.nil,[]))∨∃ a len cap,cs=[.slice (some a) len cap]:=by
 unfold DataW.trod at h
 rw [ht] at h
 cases cs with
 | nil=>simp at h
 | cons c r=>
  cases r with
  | cons c' r=>simp at h
  | nil=>
   cases c with
   | slice a n c=>
    cases a with
    | none=>
     cases n with
     | zero=>cases c with
      | zero=>left; simp at h; exact ⟨rfl,h.symm⟩
      | succ c=>simp at h
     | succ n=>simp at h
    | some a=>exact .inr ⟨a,n,c,rfl⟩
   | _=>simp at h
omit [Kap] in
theorem trod_below (hb:Below w.heap.size w w') {sp:Nat→Bool}:∀ {d:Nat} {t:TypeId} {fuel:Nat} {cs:List Value} {x:DataW H×List MemPlace},plainT P d t=true →
  DataW.trod enc P w 0 (fun _=>true) true fuel t cs=some x→(∀ p∈x.2,sp p.block=true)→DataW.trod enc P w' 0 sp true fuel t cs=some x
 | 0,t,fuel,cs,x,hp,h,hs=>by cases hp
 | d+1,t,0,cs,x,hp,h,hs=>by cases h
 | d+1,t,fuel+1,cs,x,hp,h,hs=>by
  have ih:=fun {t:TypeId} {cs:List Value} {x:DataW H×List MemPlace}=>trod_below hb (sp:=sp) (d:=d) (t:=t) (fuel:=fuel) (cs:=cs) (x:=x)
  unfold plainT at hp
  split at hp
  ·rename_i ht
   unfold DataW.trod at h ⊢
   rw [ht] at h ⊢
   cases cs with
   | nil=>simp at h
   | cons c r=>
    cases r with
    | cons c' r=>simp at h
    | nil=>cases c <;> first | exact h | (simp at h; done)
  ·rename_i k ht
   unfold DataW.trod at h ⊢
   rw [ht] at h ⊢
   cases cs with
   | nil=>simp at h
   | cons c r=>
    cases r with
    | cons c' r=>simp at h
    | nil=>cases c <;> first | exact h | (simp at h; done)
  ·rename_i ht
   unfold DataW.trod at h ⊢
   rw [ht] at h ⊢
   cases cs with
   | nil=>simp at h
   | cons c r=>
    cases r with
    | cons c' r=>simp at h
    | nil=>cases c <;> first | exact h | (simp at h; done)
  ·rename_i e ht
   obtain ⟨hc,he⟩:=Bool.and_eq_true_iff.1 hp
   rcases ChangeShapes.open_slice_raw ht h with ⟨rfl,rfl⟩ | ⟨a,len,cap,rfl⟩
   ·unfold DataW.trod; simp only [ht]
   unfold DataW.trod at h ⊢
   simp only [ht] at h ⊢
   split at h
   ·rename_i hle
    rw [if_pos hle]
    simp only [if_true,Option.bind_eq_some_iff,Option.map_eq_some_iff] at h
    obtain ⟨elems,h1,rest,h2,rfl⟩:=h
    have hal:∀ p∈elems.flatMap (·.2),sp p.block=true:=fun p hp=>hs p (by
     refine List.mem_append_right _ ?_
     rw [List.flatMap_append]
     exact List.mem_append_left _ hp)
    have hrl:∀ p∈rest.flatMap (·.2),sp p.block=true:=fun p hp=>hs p (by
     refine List.mem_append_right _ ?_
     rw [List.flatMap_append]
     exact List.mem_append_right _ hp)
    have step:∀ (i:Nat) (y:DataW H×List MemPlace),(w.cells? 0 (a.add (i*P.cellsOf e)) (P.cellsOf e)).bind (DataW.trod enc P w 0 (fun _=>true) true fuel e)=some y→(∀ p∈y.2,sp p.block=true) →
      (w'.cells? 0 (a.add (i*P.cellsOf e)) (P.cellsOf e)).bind (DataW.trod enc P w' 0 sp true fuel e)=some y:=by
     intro i y hy hpy
     rw [Option.bind_eq_some_iff] at hy ⊢
     obtain ⟨c,hc1,hc2⟩:=hy
     exact ⟨c,cells_below hb hc1,ih he hc2 hpy⟩
    have e1:=mapM_turn (g:=fun i=>(w'.cells? 0 (a.add (i*P.cellsOf e)) (P.cellsOf e)).bind (DataW.trod enc P w' 0 sp true fuel e)) h1 hal (fun i _ y hy hpy=>step i y hy hpy)
    have e2:=mapM_turn (g:=fun j=>(w'.cells? 0 (a.add ((len+j)*P.cellsOf e)) (P.cellsOf e)).bind (DataW.trod enc P w' 0 sp true fuel e)) h2 hrl (fun i _ y hy hpy=>step (len+i) y hy hpy)
    rw [e1]
    simp only [Option.bind_some]
    by_cases hz:cap - len=0
    ·rw [hz] at h2
     simp at h2
     subst h2
     simp [hz]
    ·have hrlen:rest.length=cap - len:=by rw [mapM_length h2,List.length_range]
     have hsp:sp a.block=true:=hs (.cell a.block (a.off+0)) (by
      refine List.mem_append_left _ ?_
      unfold MemPlace.row
      refine List.mem_map.2 ⟨0,List.mem_range.2 ?_,rfl⟩
      have:0 < P.cellsOf e:=by simpa using hc
      exact Nat.mul_pos (by omega) this)
     rw [hsp]
     simp only [if_true]
     rw [e2]
     rfl
   ·cases h
  ·rename_i fs ht
   unfold DataW.trod at h ⊢
   simp only [ht] at h ⊢
   split at h
   ·rename_i hl
    rw [if_pos hl]
    rw [Option.map_eq_some_iff] at h ⊢
    obtain ⟨ys,h1,rfl⟩:=h
    refine ⟨ys,?_,rfl⟩
    exact mapM_turn h1 hs (fun f hf y hy hpy=>ih (List.all_eq_true.1 hp f hf) hy hpy)
   ·cases h
  ·rename_i n e ht
   unfold DataW.trod at h ⊢
   simp only [ht] at h ⊢
   split at h
   ·rename_i hl
    rw [if_pos hl]
    rw [Option.map_eq_some_iff] at h ⊢
    obtain ⟨ys,h1,rfl⟩:=h
    refine ⟨ys,?_,rfl⟩
    exact mapM_turn h1 hs (fun f hf y hy hpy=>ih hp hy hpy)
   ·cases h
  ·cases hp
omit [Kap] in
theorem trodAll_below (hb:Below w.heap.size w w') {sp:Nat→Bool}:∀ {ts:List TypeId} {vs:List Value} {ds:List (DataW H)} {ps:List MemPlace},ts.all (plainT P 8)=true →
  DataW.TrodAll enc P w 0 (fun _=>true) true ts vs ds ps→(∀ p∈ps,sp p.block=true)→DataW.TrodAll enc P w' 0 sp true ts vs ds ps
 | [],[],[],ps,_,h,_=>h
 | t :: ts,v :: vs,d :: ds,ps,hp,h,hs=>by
  obtain ⟨p,q,⟨fuel,h1⟩,h2,rfl⟩:=h
  simp only [List.all_cons,Bool.and_eq_true] at hp
  exact ⟨p,q,⟨fuel,trod_below hb hp.1 h1 (fun x hx=>hs x (List.mem_append_left _ hx))⟩,trodAll_below hb hp.2 h2 (fun x hx=>hs x (List.mem_append_right _ hx)),rfl⟩
 | [],_ :: _,_,_,_,h,_=>by cases h
 | [],[],_ :: _,_,_,h,_=>by cases h
 | _ :: _,[],_,_,_,h,_=>by cases h
 | _ :: _,_ :: _,[],_,_,h,_=>by cases h
end
end Go.AX
namespace Go.AX
open Go Go.RowKit Go.ChangeShapes Go.WideShapes Go.Deep
section
variable {H:Type} {enc:TypeId×Value→H} {P:Program} {w:World} {base:Nat} {spare:Nat→Bool} {held:Bool}
theorem open_fields {t e:TypeId} {fs:Array Field} {fuel:Nat} {cs:List Value} {x:DataW H×List MemPlace} (ht:P.underlying t=some (.slice e)) (he:P.underlying e=some (.struct fs))
  (hone:oneCellFields P fs=true) (hC:P.cellsOf e=fs.size) (h:DataW.trod enc P w base spare held fuel t cs=some x) :
  cs=[.slice none 0 0] ∨
  ∃ (a:Addr) (len cap m:Nat),cs=[.slice (some a) len cap]∧len≤cap∧cap≤maxLen∧m=(if spare a.block then cap else len) ∧
   ∀ i,i < m→∀ (j:Nat) (f:Field),fs[j]? = some f→∃ (v:Value) (y:DataW H×List MemPlace) (n:Nat),w.cell? (a.add (i*fs.size+j))=some v∧DataW.trod enc P w base spare held n f.type [v]=some y:=by
 rcases open_slice ht h with h0 | ⟨a,len,cap,m,n,D,Pl,hcs,hb,hl,hm,hmm,hx,hi⟩
 ·exact .inl h0.1
 ·refine .inr ⟨a,len,cap,m,hcs,hl,hm,hmm,fun i him=>?_⟩
  obtain ⟨cs',hc,ht'⟩:=hi i him
  rw [hC] at hc
  obtain ⟨ys,n',hn',hy,hlen,hyl,hf⟩:=DataW.trod_struct he ht'
  obtain ⟨_,hcl,hat⟩:=World.cells?_some hc
  intro j f hj
  obtain ⟨ho,hk⟩:=hone_of hone j f hj
  have hjl:j < fs.size:=(Array.getElem?_eq_some_iff.1 hj).1
  have hcell:=hat j hjl
  have hv:cs'[j]? = some (cs'[j]'(by omega)):=List.getElem?_eq_getElem (by omega)
  have h1:=hf j f hj
  rw [ho,hk] at h1
  have hone':(cs'.drop j).take 1=[cs'[j]'(by omega)]:=by
   rw [List.drop_eq_getElem_cons (by omega)]
   rfl
  rw [hone'] at h1
  have hys:ys[j]? = some (ys[j]'(by omega)):=List.getElem?_eq_getElem (by omega)
  refine ⟨_,_,_,?_,h1.trans hys⟩
  rw [← Go.Deep.add_add,hcell,hv]
theorem slice_of_cells {t e:TypeId} {r:Reach} {b0:Nat} {v:Value} {a:Option Addr} {n c:Nat} (ht:P.underlying t=some (.slice e)) (hval:Value.okWide P w r b0 t v) (h:v.cells.toList=[.slice a n c]):v = .slice a n c:=by
 obtain ⟨a',n',c',rfl⟩:=okWide_slice ht hval
 simpa [Value.cells] using h
theorem int_range {n:Int} (h:(Lit.int .i64 n).wf=true):-9223372036854775808≤n∧n≤9223372036854775807:=by
 simpa [Lit.wf,IntKind.min,IntKind.max,IntKind.bits,IntKind.signed] using h
theorem rd_int {t:TypeId} {k:Nat} {b o:Nat} {x:Value} {y:DataW H×List MemPlace} (ht:P.underlying t=some (.int .i64)) (hc:w.cell? ⟨b,o,none⟩=some x) (h:DataW.trod enc P w 0 (fun _=>true) true k t [x]=some y) :
  ∃ n,rd (mW P w) b o=some (.int .i64 n)∧-9223372036854775808≤n∧n≤9223372036854775807:=by
 obtain ⟨n,h1,h2,h3⟩:=DataW.trod_int ht h
 cases h1
 exact ⟨n,rd_mW hc rfl,int_range h3⟩
end
theorem list_of {α : Type} {n:Nat} {R:Nat→α→Prop} (h:∀ i,i < n→∃ x,R i x):∃ l:List α,l.length=n∧∀ i x,l[i]? = some x→R i x:=by
 induction n with
 | zero=>exact ⟨[],rfl,fun i x e=>by simp at e⟩
 | succ n ih=>
  obtain ⟨l,h1,h2⟩:=ih (fun i hi=>h i (by omega))
  obtain ⟨x,hx⟩:=h n (Nat.lt_succ_self n)
  refine ⟨l ++ [x],by simp [h1],fun i y e=>?_⟩
  by_cases hi:i < l.length
  ·rw [List.getElem?_append_left hi] at e; exact h2 i y e
  ·rw [List.getElem?_append_right (by omega)] at e
   have:i=n:=by
    have:=(List.getElem?_eq_some_iff.1 e).1
    simp at this; omega
   subst this
   rw [h1] at e; simp at e; subst e; exact hx
theorem mW_wf (P:Program) (w:World):(mW P w).fl≤(mW P w).nx∧∀ b,(mW P w).nx≤b→(mW P w).hp.get b=none:=
 ⟨Nat.le_refl _,fun b hb=>by
  show (trOf (objOf (nOf P w) w) w.heap.size).get b=none
  have h1:nOf P w≤b:=hb
  have h2:w.heap.size≤nOf P w:=Nat.le_max_left _ _
  rw [trOf_get,if_neg (by omega)]⟩
theorem post_law {H:Type} {enc:TypeId×Value→H} {P:Program} {f:Func} {s:ChangeSpec} {W W':World} {args:Array Value} {ds:List (DataW H)} {p:List MemPlace} {tb:TypeId} (hb:P.underlying tb=some .bool) (hr:f.resultTypes = #[tb])
  (hvars:s.vars=[]) (hfn:s.fn H ds = { results:=[.lit (.bool true)],args:=ds }) (hp:f.params.toList.all (plainT P 8)=true)
  (hW:DataW.Whole enc P f.params.toList s.vars false W args.toList ds [] p) (hA:DataW.TrodAll enc P W 0 (fun _=>true) true f.params.toList args.toList ds p) (hg:Below W.heap.size W W') :
  s.post enc P f false true false false W args (.bool true) W':=by
 have hds:s.fn H (ds ++ []) = { results:=[.lit (.bool true)],args:=ds }:=by rw [List.append_nil]; exact hfn
 refine post_of_below (gs:=[]) (pa:=p) (pv:=[]) hW ?_ ?_ ?_ (by simp) hg ?_
 ·intro b sp hd
  rw [hds,hr]
  exact trodAll_cons_mk (shut_bool hb _) trodAll_mk0
 ·intro sp hsp
  rw [hds]
  exact trodAll_below hg hp hA hsp
 ·intro sp _
  rw [hds,hvars]
  rfl
 ·exact ok_one hr rfl (okWide_bool_mk hb _)
end Go.AX
