import Derived.Test.YtiehbnmpaeedpaaGreatQR08
import Derived.Test.YtiehbnmpaeedpaaGreatQR09
import Derived.Test.YtiehbnmpaeedpaaGreatQR07
namespace Go.AX
set_option linter.unusedSectionVars false
set_option linter.unusedSimpArgs false
set_option linter.unusedVariables false
variable {cx:Cx}
structure Nice (u u':Mem):Prop where
 wf:Wf u'
 fl:u'.fl=u.fl
 nx:u.nx≤u'.nx
section
variable {u:Mem}
theorem Nice.refl (hw:Wf u):Nice u u:=⟨hw,rfl,Nat.le_refl _⟩
theorem Nice.trans {u1 u2:Mem} (h:Nice u u1) (k:Nice u1 u2):Nice u u2:=⟨k.wf,k.fl.trans h.fl,Nat.le_trans h.nx k.nx⟩
theorem Nice.put (hw:Wf u) {b:Nat} (hb:b < u.nx) (o:AObj):Nice u { u with hp:=u.hp.put b o }:=⟨hw.addO hb,rfl,Nat.le_refl _⟩
theorem Nice.new (hw:Wf u) (o:AObj):Nice u { hp:=u.hp.put u.nx o,nx:=u.nx+1,fl:=u.fl }:=⟨hw.newO,rfl,Nat.le_succ _⟩
theorem Nice.del (hw:Wf u) (b:Nat):Nice u { u with hp:=u.hp.del b }:=⟨⟨hw.1,fun b' hb'=>by
 show (u.hp.del b).get b'=none
 rw [Tr.get_del]
 split
 ·rfl
 ·exact hw.2 b' hb'⟩,rfl,Nat.le_refl _⟩
theorem storeL_nice (hw:Wf u) {a:Addr} {l:List Value} {u':Mem} (e:storeL u a l=some u'):Nice u u':=by
 unfold storeL at e
 split at e
 ·cases e
 ·split at e
  ·rename_i hg
   split at e
   ·cases e; exact Nice.put hw (hw.lt hg) _
   ·cases e
  ·cases e
theorem storeT_nice (hw:Wf u) {t:TypeId} {a:Addr} {v:Value} {u':Mem} (e:storeT cx u t a v=some u'):Nice u u':=by
 unfold storeT at e
 split at e
 ·split at e
  ·exact storeL_nice hw e
  ·cases e
 ·cases e
theorem setO_nice (hw:Wf u) {b:Nat} {o ob:AObj} {u':Mem} (hb:u.hp.get b=some ob) (e:setO u b o=some u'):Nice u u':=by
 unfold setO at e
 split at e
 ·cases e; exact Nice.put hw (hw.lt hb) _
 ·cases e
theorem newCells_nice (hw:Wf u) (l:List Value) (e:TypeId) (x:Bool):Nice u (newCells u l e x).2:=Nice.new hw _
theorem buildSliceA_nice (hw:Wf u) {t:TypeId} {n:Nat} {ps:List (Nat×Value)} {v:Value} {u':Mem} (e:buildSliceA cx u t n ps=some (v,u')):Nice u u':=by
 unfold buildSliceA at e
 split at e
 ·split at e
  ·split at e
   ·split at e
    ·cases e; exact newCells_nice hw _ _ _
    ·cases e
   ·cases e
  ·cases e
 ·cases e
theorem makeSliceA_nice (hw:Wf u) {t:TypeId} {a b v:Value} {u':Mem} (e:makeSliceA cx u t a b=some (v,u')):Nice u u':=by
 unfold makeSliceA at e
 split at e
 ·split at e
  ·split at e
   ·cases e; exact newCells_nice hw _ _ _
   ·cases e
  ·cases e
 ·cases e
theorem giveUp_nice (hw:Wf u) {base:Option Addr} {e s cap:Nat} {u':Mem} (k:giveUp u base e s cap=some u'):Nice u u':=by
 unfold giveUp at k
 split at k
 ·cases k; exact Nice.refl hw
 ·split at k
  ·cases k; exact Nice.refl hw
  ·split at k
   ·split at k
    ·cases k; exact Nice.refl hw
    ·split at k
     ·split at k
      ·split at k
       ·cases k; exact Nice.del hw _
       ·cases k
      ·cases k; exact Nice.refl hw
     ·cases k
   ·cases k
theorem appendT_nice (hw:Wf u) {el:TypeId} {i:TypeInfo} {base:Option Addr} {len cap n:Nat} {new:List Value} {v:Value} {u':Mem} (e:appendT cx u el i base len cap n new=some (v,u')):Nice u u':=by
 unfold appendT at e
 split at e
 ·cases e
 ·split at e
  ·split at e
   ·split at e
    ·cases e; exact Nice.refl hw
    ·split at e
     ·rename_i hst; cases e; exact storeL_nice hw hst
     ·cases e
   ·split at e
    ·cases e; exact Nice.refl hw
    ·cases e
  ·split at e
   ·split at e
    ·rename_i m1 hg hc3
     have k:=giveUp_nice hw hg
     cases e; exact k.trans (newCells_nice k.wf _ _ _)
    ·cases e
   ·cases e
theorem appendZ_nice (hw:Wf u) {el:TypeId} {i:TypeInfo} {ux:TypeDesc} {x:Value} {base:Option Addr} {len cap:Nat} {v:Value} {u':Mem} (e:appendZ cx u el i ux x base len cap=some (v,u')):Nice u u':=by
 unfold appendZ at e
 split at e
 ·split at e
  ·exact appendT_nice hw e
  ·cases e
 ·cases e
theorem appendA_nice (hw:Wf u) {ts:List TypeId} {args:List Value} {v:Value} {u':Mem} (e:appendA cx u ts args=some (v,u')):Nice u u':=by
 unfold appendA at e
 split at e
 ·split at e
  ·split at e
   ·split at e
    ·split at e
     ·cases e
     ·split at e
      ·split at e
       ·split at e
        ·cases e; exact Nice.refl hw
        ·split at e
         ·rename_i hst; cases e; exact storeL_nice hw hst
         ·cases e
       ·split at e
        ·cases e; exact Nice.refl hw
        ·cases e
      ·split at e
       ·split at e
        ·rename_i m1 hg hc3
         have k:=giveUp_nice hw hg
         cases e; exact k.trans (newCells_nice k.wf _ _ _)
        ·cases e
       ·cases e
    ·cases e
   ·exact appendZ_nice hw e
   ·cases e
  ·cases e
 ·cases e
theorem copyA_nice (hw:Wf u) {ts:List TypeId} {args:List Value} {v:Value} {u':Mem} (e:copyA cx u ts args=some (v,u')):Nice u u':=by
 unfold copyA at e
 split at e
 ·split at e
  ·split at e
   ·split at e
    ·split at e
     ·split at e
      ·cases e; exact Nice.refl hw
      ·split at e
       ·rename_i hst; cases e; exact storeL_nice hw hst
       ·cases e
     ·cases e; exact Nice.refl hw
    ·cases e
   ·cases e
  ·cases e
 ·cases e
theorem mapUpdateA_nice (hw:Wf u) {t:TypeId} {x k v:Value} {u':Mem} (e:mapUpdateA cx u t x k v=some u'):Nice u u':=by
 unfold mapUpdateA at e
 split at e
 ·split at e
  ·rename_i hg
   split at e
   ·exact setO_nice hw hg e
   ·exact setO_nice hw hg e
   ·cases e
  ·cases e
 ·cases e
theorem mapEntryA_nice (hw:Wf u) {t:TypeId} {x k v:Value} {u':Mem} (e:mapEntryA cx u t x k=some (v,u')):Nice u u':=by
 unfold mapEntryA at e
 split at e
 ·split at e
  ·rename_i hg
   split at e
   ·split at e
    ·rename_i hs; cases e; exact setO_nice hw hg hs
    ·cases e
   ·split at e
    ·split at e
     ·rename_i hs; cases e; exact setO_nice hw hg hs
     ·cases e
    ·cases e
   ·cases e
  ·cases e
 ·cases e
theorem entryStoreA_nice (hw:Wf u) {x s v:Value} {u':Mem} (e:entryStoreA u x s v=some u'):Nice u u':=by
 unfold entryStoreA at e
 split at e
 ·split at e
  ·rename_i hg
   split at e
   ·exact setO_nice hw hg e
   ·cases e
  ·cases e
 ·cases e
theorem deleteA_nice (hw:Wf u) {t:TypeId} {x k:Value} {u':Mem} (e:deleteA cx u t x k=some u'):Nice u u':=by
 unfold deleteA at e
 split at e
 ·cases e; exact Nice.refl hw
 ·split at e
  ·rename_i hg
   split at e
   ·exact setO_nice hw hg e
   ·cases e; exact Nice.refl hw
   ·cases e
  ·cases e
 ·cases e
theorem clearA_nice (hw:Wf u) {ts:List TypeId} {args:List Value} {v:Value} {u':Mem} (e:clearA cx u ts args=some (v,u')):Nice u u':=by
 unfold clearA at e
 split at e
 ·split at e
  ·split at e
   ·cases e; exact Nice.refl hw
   ·cases e; exact Nice.refl hw
   ·split at e
    ·split at e
     ·split at e
      ·rename_i hst; cases e; exact storeL_nice hw hst
      ·cases e
     ·cases e
    ·cases e
  ·cases e
 ·cases e
theorem builtinA_nice (hw:Wf u) {b:Builtin} {ts:List TypeId} {args:List Value} {v:Value} {u':Mem} (e:builtinA cx u b ts args=some (v,u')):Nice u u':=by
 unfold builtinA at e
 (try dsimp only at e)
 cases b <;> (try dsimp only at e)
 case append=>exact appendA_nice hw e
 case copy=>exact copyA_nice hw e
 case len=>
  split at e
  ·cases e; exact Nice.refl hw
  ·cases e
 case cap=>
  split at e
  ·cases e; exact Nice.refl hw
  ·cases e
 case max=>
  split at e
  ·split at e
   ·cases e; exact Nice.refl hw
   ·cases e
  ·cases e
 case min=>
  split at e
  ·split at e
   ·cases e; exact Nice.refl hw
   ·cases e
  ·cases e
 case delete=>
  split at e
  ·split at e
   ·rename_i hd; cases e; exact deleteA_nice hw hd
   ·cases e
  ·cases e
 case clear=>exact clearA_nice hw e
 all_goals cases e
end
def NiC (f:Caller):Prop:=∀ k a u r u',f k a u=some (r,u')→Wf u→Nice u u'
section
variable {u:Mem}
theorem callA_nice {f:Caller} (hf:NiC f) (hw:Wf u) {tm:Tr Value} {sz:Nat} {c:Call} {v:Value} {u':Mem} (e:callA cx f ⟨tm,sz,u⟩ c=some (v,u')):Nice u u':=by
 unfold callA at e
 split at e
 ·cases e
 ·split at e
  ·exact builtinA_nice hw e
  ·split at e
   ·exact hf _ _ _ _ _ e hw
   ·cases e
  ·split at e
   ·split at e
    ·exact hf _ _ _ _ _ e hw
    ·cases e
   ·cases e
theorem opA_nice {f:Caller} (hf:NiC f) (hw:Wf u) {tm:Tr Value} {sz:Nat} {o:Oper} {v:Option Value} {u':Mem} (e:opA cx f ⟨tm,sz,u⟩ o=some (v,u')):Nice u u':=by
 unfold opA at e
 (try dsimp only at e)
 cases ho:o.op <;> simp only [ho] at e
 all_goals (try (cases e; done))
 case alloc t=>
  split at e
  ·cases e; exact newCells_nice hw _ _ _
  ·cases e
 case box t x=>
  split at e
  ·cases e; exact newCells_nice hw _ _ _
  ·cases e
 case buildSlice t n ps=>
  split at e
  ·split at e
   ·rename_i hx; cases e; exact buildSliceA_nice hw hx
   ·cases e
  ·cases e
 case makeSlice t l c=>
  split at e
  ·split at e
   ·rename_i hx; cases e; exact makeSliceA_nice hw hx
   ·cases e
  ·cases e
 case makeMap t r=>
  cases r with
  | none=>cases e; exact Nice.new hw _
  | some r=>cases e
 case store t a x=>
  split at e
  ·split at e
   ·rename_i hx; cases e; exact storeT_nice hw hx
   ·cases e
  ·cases e
 case mapUpdate t x k y=>
  split at e
  ·split at e
   ·rename_i hx; cases e; exact mapUpdateA_nice hw hx
   ·cases e
  ·cases e
 case insert t x k y=>
  split at e
  ·split at e
   ·rename_i hx; cases e; exact mapUpdateA_nice hw hx
   ·cases e
  ·cases e
 case mapEntry t x k=>
  split at e
  ·split at e
   ·rename_i hx; cases e; exact mapEntryA_nice hw hx
   ·cases e
  ·cases e
 case entryStore t x s y=>
  split at e
  ·split at e
   ·rename_i hx; cases e; exact entryStoreA_nice hw hx
   ·cases e
  ·cases e
 case call c=>
  split at e
  ·rename_i hx; cases e; exact callA_nice hf hw hx
  ·cases e
 case pick c x y=>
  split at e
  ·cases e; exact Nice.refl hw
  ·cases e; exact Nice.refl hw
  ·cases e
 case nilCheck x=>
  split at e
  ·cases e; exact Nice.refl hw
  ·cases e; exact Nice.refl hw
  ·cases e; exact Nice.refl hw
  ·cases e
 case makeInterface t x=>
  split at e
  ·cases e
  ·cases e; exact Nice.refl hw
  ·cases e
 case binOp op t x y q=>
  split at e
  ·split at e
   ·split at e
    ·cases e; exact Nice.refl hw
    ·cases e
   ·cases e
  ·cases e
 all_goals (split at e)
 all_goals first
  | (cases e; done)
  | (cases e; exact Nice.refl hw)
  | (split at e <;> first | (cases e; done) | (cases e; exact Nice.refl hw))
theorem opA_same {f:Caller} {tm:Tr Value} {sz:Nat} {o:Oper} {v:Option Value} {u':Mem} (hk:kindO o.op≠2) (e:opA cx f ⟨tm,sz,u⟩ o=some (v,u')):u'=u:=by
 unfold opA at e
 (try dsimp only at e)
 cases ho:o.op <;> simp only [ho] at e hk
 all_goals (try (exact absurd rfl hk))
 all_goals (try (cases e; done))
 case call c=>
  split at e
  ·rename_i x m1 hx
   cases e
   unfold callA at hx
   split at hx
   ·cases hx
   ·split at hx
    ·rename_i b hb
     unfold builtinA at hx
     obtain ⟨cal,ca,ct⟩:=c
     simp only at hb; subst hb
     (try dsimp only at hx)
     cases b <;> (try dsimp only at hx) <;> (try (exact absurd rfl hk))
     case len=>
      split at hx
      ·cases hx; rfl
      ·cases hx
     case cap=>
      split at hx
      ·cases hx; rfl
      ·cases hx
     case max=>
      split at hx
      ·split at hx
       ·cases hx; rfl
       ·cases hx
      ·cases hx
     case min=>
      split at hx
      ·split at hx
       ·cases hx; rfl
       ·cases hx
      ·cases hx
    ·rename_i g hb
     obtain ⟨cal,ca,ct⟩:=c
     simp only at hb; subst hb
     exact absurd rfl hk
    ·rename_i g n hb
     obtain ⟨cal,ca,ct⟩:=c
     simp only at hb; subst hb
     exact absurd rfl hk
  ·cases e
 case pick c x y=>
  split at e
  ·cases e; rfl
  ·cases e; rfl
  ·cases e
 case nilCheck x=>
  split at e
  ·cases e; rfl
  ·cases e; rfl
  ·cases e; rfl
  ·cases e
 case makeInterface t x=>
  split at e
  ·cases e
  ·cases e; rfl
  ·cases e
 case binOp op t x y q=>
  split at e
  ·split at e
   ·split at e
    ·cases e; rfl
    ·cases e
   ·cases e
  ·cases e
 all_goals (split at e)
 all_goals first
  | (cases e; done)
  | (cases e; rfl)
  | (split at e <;> first | (cases e; done) | (cases e; rfl))
theorem putT_m {st st':St} {dst:Option Tmp} {v:Option Value} {m:Mem} (e:putT st dst v m=some st'):st'.m=m∧st'.sz=st.sz:=by
 unfold putT at e
 split at e
 ·cases e; exact ⟨rfl,rfl⟩
 ·split at e
  ·split at e
   ·cases e; exact ⟨rfl,rfl⟩
   ·cases e; exact ⟨rfl,rfl⟩
  ·cases e
theorem runOps_nice {f:Caller} (hf:NiC f) {ops:List Oper}:∀ {rest:List Oper} {st st':St},Wf st.m→runOps cx f ops rest st=some st'→Nice st.m st'.m
 | [],st,st',hw,e=>by unfold runOps at e; cases e; exact Nice.refl hw
 | o :: r,st,st',hw,e=>by
  unfold runOps at e
  split at e
  ·split at e
   ·rename_i v m1 hop
    have k:=opA_nice hf hw hop
    split at e
    ·rename_i st1 hp
     obtain ⟨p1,p2⟩:=putT_m hp
     exact k.trans (by have:=runOps_nice hf (by rw [p1]; exact k.wf) e; rw [p1] at this; exact this)
    ·cases e
   ·cases e
  ·split at e
   ·rename_i st1 hp
    obtain ⟨p1,p2⟩:=putT_m hp
    have:=runOps_nice hf (by rw [p1]; exact hw) e; rw [p1] at this; exact this
   ·cases e
  ·cases e
structure DrWf (base top i:Nat) (d:Dr):Prop where
 ids:∀ e∈d.made,e.2.1 < base+i
 hist:∀ h∈d.hist,Wf h.2.2.1∧top≤h.2.2.1.nx
 le:base+i≤top
theorem addMade_wf {p:Nat→Bool}:∀ {made:List (Nat×Nat×AObj)} {u:Mem},Wf u→(∀ e∈made,e.2.1 < u.nx)→Wf (addMade p made u)∧(addMade p made u).nx=u.nx∧(addMade p made u).fl=u.fl
 | [],u,hw,_=>⟨hw,rfl,rfl⟩
 | (i,id,o) :: r,u,hw,hid=>by
  obtain ⟨h1,h2,h3⟩:=addMade_wf (p:=p) (made:=r) hw (fun e he=>hid e (List.mem_cons_of_mem _ he))
  unfold addMade
  split
  ·exact ⟨h1.addO (by rw [h2]; exact hid _ (List.mem_cons_self ..)),h2,h3⟩
  ·exact ⟨h1,h2,h3⟩
theorem drawOp_nice {f:Caller} (hf:NiC f) {ops:List Oper} {o:Oper} {r:List Oper} {s:Nat} {q:List Nat} {i base top:Nat} {d d1:Dr} {st:St} {v:Option Value} {u1:Mem}
  (hw:Wf st.m) (ht:top≤st.m.nx) (hd:DrWf base top i d) (hlt:base+i < top) (e:drawOp cx f ops o r s q i base d st=some (v,u1,d1)):Nice st.m u1∧DrWf base top (i+1) d1:=by
 have hids:∀ e∈d.made,e.2.1 < st.m.nx:=fun e he=>by have:=hd.ids e he; omega
 unfold drawOp at e
 split at e
 ·split at e
  ·unfold drawMake at e
   split at e
   ·split at e
    ·cases e
     exact ⟨Nice.refl hw,fun e he=>by
      rcases List.mem_cons.1 he with rfl | he
      ·show base+i < _; omega
      ·have:=hd.ids e he; omega,hd.hist,by omega⟩
    ·cases e
   ·cases e
  ·unfold drawChange at e
   obtain ⟨a1,a2,a3⟩:=addMade_wf (p:=newIn s d.took) hw hids
   have hh:∀ h∈((i,true,st.m,d.took) :: d.hist),Wf h.2.2.1∧top≤h.2.2.1.nx:=fun h he=>by
    rcases List.mem_cons.1 he with rfl | he
    ·exact ⟨hw,ht⟩
    ·exact hd.hist h he
   split at e
   ·cases e
   ·split at e
    ·split at e
     ·split at e
      ·split at e
       ·rename_i x mm hop
        cases e
        have k:=opA_nice hf a1 hop
        refine ⟨⟨k.wf,k.fl.trans a3,by have:=k.nx; rw [a2] at this; exact this⟩,fun e he=>by have:=hd.ids e he; omega,?_,by omega⟩
        intro h he
        rcases List.mem_cons.1 he with rfl | he
        ·exact ⟨hw,ht⟩
        ·exact hd.hist h he
       ·cases e
      ·cases e
     ·split at e
      ·rename_i x mm hop
       cases e
       have hfl:softFl ops base st.m.nx s i d q r≤st.m.nx:=by
        unfold softFl
        split
        ·omega
        ·exact Nat.le_refl _
       have k:=opA_nice hf (u:={ addMade (newIn s d.took) d.made st.m with fl:=softFl ops base st.m.nx s i d q r }) ⟨by show softFl _ _ _ _ _ _ _ _≤(addMade _ _ _).nx; rw [a2]; exact hfl,a1.2⟩ hop
       have kn:st.m.nx≤mm.nx:=by have:=k.nx; rw [a2] at this; exact this
       refine ⟨⟨⟨Nat.le_trans hw.1 kn,k.wf.2⟩,rfl,kn⟩,fun e he=>by have:=hd.ids e he; omega,?_,by omega⟩
       exact hh
      ·cases e
    ·split at e
     ·rename_i x mm hop
      cases e
      have k:=opA_nice hf a1 hop
      refine ⟨⟨k.wf,k.fl.trans a3,by have:=k.nx; rw [a2] at this; exact this⟩,fun e he=>by have:=hd.ids e he; omega,?_,by omega⟩
      intro h he
      rcases List.mem_cons.1 he with rfl | he
      ·exact ⟨hw,ht⟩
      ·exact hd.hist h he
     ·cases e
 ·unfold drawRead at e
  split at e
  ·split at e
   ·cases e
    exact ⟨Nice.refl hw,fun e he=>by have:=hd.ids e he; omega,hd.hist,by omega⟩
   ·cases e
  ·cases e
 ·unfold drawPlain at e
  split at e
  ·cases e
   exact ⟨Nice.refl hw,fun e he=>by have:=hd.ids e he; omega,hd.hist,by omega⟩
  ·cases e
theorem runDraw_nice {f:Caller} (hf:NiC f) {ops:List Oper} {base top:Nat}:∀ {rest:List Oper} {ss:List Nat} {i:Nat} {d:Dr} {st st':St},Wf st.m→top≤st.m.nx→DrWf base top i d→base+i+rest.length≤top →
  runDraw cx f ops base rest ss i d st=some st'→Nice st.m st'.m
 | [],ss,i,d,st,st',hw,ht,hd,hl,e=>by
  unfold runDraw at e
  cases e
  obtain ⟨a1,a2,a3⟩:=addMade_wf (p:=fun k=>!hasBit d.took k) hw (fun e he=>by have:=hd.ids e he; omega)
  exact ⟨a1,a3,Nat.le_of_eq a2.symm⟩
 | o :: r,[],i,d,st,st',hw,ht,hd,hl,e=>by unfold runDraw at e; cases e
 | o :: r,s :: q,i,d,st,st',hw,ht,hd,hl,e=>by
  have hl':base+i+(r.length+1)≤top:=hl
  unfold runDraw at e
  split at e
  ·split at e
   ·rename_i v m1 d1 hop
    obtain ⟨k1,k2⟩:=drawOp_nice hf hw ht hd (by omega) hop
    split at e
    ·rename_i st1 hp
     obtain ⟨p1,p2⟩:=putT_m hp
     have:=runDraw_nice hf (by rw [p1]; exact k1.wf) (by rw [p1]; exact Nat.le_trans ht k1.nx) k2 (by omega) e
     rw [p1] at this
     exact k1.trans this
    ·cases e
   ·cases e
  ·split at e
   ·rename_i st1 hp
    obtain ⟨p1,p2⟩:=putT_m hp
    have:=runDraw_nice hf (by rw [p1]; exact hw) (by rw [p1]; exact ht) (d:=d) (i:=i+1) ⟨fun e he=>by have:=hd.ids e he; omega,hd.hist,by omega⟩ (by omega) e
    rw [p1] at this
    exact this
   ·cases e
  ·cases e
end
def NiR (f:Code→St→Option (Ex×St)):Prop:=∀ c st ex st',f c st=some (ex,st')→Wf st.m→Nice st.m st'.m
def OvNi (cx:Cx):Prop:=∀ k f,cx.ov.get k=some f→∀ a u r u',f a u=some (r,u')→Wf u→Nice u u'
theorem callOf_nice (ho:OvNi cx) {f:Code→St→Option (Ex×St)} (hf:NiR f):NiC (callOf cx f):=by
 intro k a u r u' e hw
 unfold callOf at e
 cases hov:cx.ov.get k with
 | some g=>rw [hov] at e; exact ho k g hov a u r u' e hw
 | none=>
  rw [hov] at e
  (try dsimp only at e)
  unfold callBody at e
  split at e
  ·split at e
   ·split at e
    ·split at e
     ·rename_i st hr
      have k:=hf _ _ _ _ hr hw
      unfold retOf at e
      split at e
      ·cases e; exact k
      ·cases e
     ·rename_i st hr
      have k:=hf _ _ _ _ hr hw
      unfold retOf at e
      split at e
      ·cases e; exact k
      ·cases e
     ·cases e
    ·cases e
   ·cases e
  ·cases e
theorem step_nice (ho:OvNi cx) {f:Code→St→Option (Ex×St)} (hf:NiR f):NiR (step cx f):=by
 intro c st ex st' e hw
 cases c with
 | skip=>simp only [step] at e; cases e; exact Nice.refl hw
 | label l=>simp only [step] at e; cases e; exact Nice.refl hw
 | exit id=>simp only [step] at e; cases e; exact Nice.refl hw
 | ret=>simp only [step] at e; cases e; exact Nice.refl hw
 | region id ops draw=>
  cases draw with
  | false=>
   simp only [step] at e
   split at e
   ·rename_i st1 h1; cases e; exact runOps_nice (callOf_nice ho hf) hw h1
   ·cases e
  | true=>
   simp only [step] at e
   split at e
   ·split at e
    ·rename_i st1 h1
     cases e
     have k:=runDraw_nice (top:=st.m.nx+ops.toList.length) (callOf_nice ho hf) (st:={ st with m:={ st.m with nx:=st.m.nx+ops.toList.length } }) (hw.bump (n:=ops.toList.length)) (Nat.le_refl _) ⟨(fun e he=>by cases he),(fun h he=>by cases he),Nat.le_add_right _ _⟩ (by omega) h1
     exact ⟨k.wf,k.fl,Nat.le_trans (Nat.le_add_right _ _) k.nx⟩
    ·cases e
   ·cases e
 | seq a b=>
  simp only [step] at e
  split at e
  ·rename_i st1 h1
   have k:=hf _ _ _ _ h1 hw
   exact k.trans (hf _ _ _ _ e k.wf)
  ·exact hf _ _ _ _ e hw
 | cond o x y=>
  simp only [step] at e
  split at e
  ·exact hf _ _ _ _ e hw
  ·exact hf _ _ _ _ e hw
  ·cases e
 | block id x=>
  simp only [step] at e
  split at e
  ·rename_i h1
   split at e
   ·cases e; exact hf _ _ _ _ h1 hw
   ·cases e; exact hf _ _ _ _ h1 hw
  ·exact hf _ _ _ _ e hw
 | loop x=>
  simp only [step] at e
  split at e
  ·rename_i st1 h1
   have k:=hf _ _ _ _ h1 hw
   exact k.trans (hf _ _ _ _ e k.wf)
  ·exact hf _ _ _ _ e hw
 | rangeFunc _ _ _ _=>simp [step] at e
 | goto _=>simp [step] at e
 | scope _=>simp [step] at e
 | refuse _=>simp [step] at e
theorem exec_nice (ho:OvNi cx):∀ n,NiR (exec cx n)
 | 0=>fun c st ex st' e=>by cases e
 | n+1=>step_nice ho (exec_nice ho n)
theorem exec_call_nice (ho:OvNi cx) (n:Nat):NiC (callOf cx (exec cx n)):=callOf_nice ho (exec_nice ho n)
end Go.AX
namespace Go.AX
set_option linter.unusedSimpArgs false
set_option linter.unusedVariables false
set_option linter.unusedSectionVars false
noncomputable section
structure VS where
 tm:Tr Value
 lp:Tr (Nat×Nat)
 loc:Tr (Nat×List Value)
 cnt:Nat
 pend:Nat
def fmV (s:VS) (u:Mem):Mem:=match s.pend with
 | 0=>u
 | n+1=>bump u (n+1)
variable (cx:Cx)
def CallV (k:FuncId) (args:List Value) (u:Mem) (Q:Value→Mem→Prop):Prop:=
 Wf u→∃ n r m',callOf cx (exec cx n) k args u=some (r,m')∧∃ E u',Bes E u' m'∧Wf u'∧(∀ b o,E b=some o→u.nx≤b)∧Q r u'
def putV (sz:Nat) (s:VS) (dst:Option Tmp) (v:Option Value) (K:VS→Prop):Prop:=match dst with
 | none=>K s
 | some d=>match Nat.blt d sz with
  | true=>match v with
   | some x=>K { s with tm:=s.tm.put d x,lp:=s.lp.del d }
   | none=>K { s with tm:=s.tm.del d,lp:=s.lp.del d }
  | false=>False
def putL (sz:Nat) (s:VS) (dst:Option Tmp) (id off:Nat) (K:VS→Prop):Prop:=match dst with
 | none=>K s
 | some d=>match Nat.blt d sz with
  | true=>K { s with tm:=s.tm.del d,lp:=s.lp.put d (id,off) }
  | false=>False
def lpO (s:VS):Operand→Option (Nat×Nat)
 | .tmp t=>s.lp.get t
 | _=>none
def locD (LS:List Nat):Option Tmp→Bool
 | none=>false
 | some d=>memN LS d
def cellsAt (s:VS) (id:Nat):Option (List Value):=match s.loc.get id with
 | some (_,c)=>some c
 | none=>none
def ldL (t:TypeId) (c:List Value) (off:Nat) (K:Value→Prop):Prop:=match cx.un.get t,sizeT cx t with
 | some d,some n=>match isAggD d with
  | true=>match n with
   | 0=>False
   | n+1=>match Nat.ble (off+(n+1)) c.length with
    | true=>K (.agg ((c.drop off).take (n+1)).toArray)
    | false=>False
  | false=>vVal c[off]? K
 | _,_=>False
def stL (t:TypeId) (c:List Value) (off:Nat) (v:Value) (K:List Value→Prop):Prop:=match sizeT cx t with
 | some n=>match isAggT cx t with
  | false=>match Nat.beq n 1 && Nat.blt off c.length with
   | true=>vOne v (K (splice c off [v]))
   | false=>False
  | true=>match v with
   | .agg cs=>match Nat.ble (off+cs.toList.length) c.length with
    | true=>okL cs.toList n (K (splice c off cs.toList))
    | false=>False
   | _=>False
 | none=>False
def vCallFV (u:Mem) (f:Value) (args:List Value) (K:Value→Mem→Prop):Prop:=match f with
 | .func (.func k) first captured=>CallV cx k (first.toList ++ (args ++ captured.toList)) u K
 | _=>False
def vInvokeV (u:Mem) (x:Value) (name:String) (args:List Value) (K:Value→Mem→Prop):Prop:=
 ∃ t v,x = .iface t v∧∃ k r,methodA cx t v name=some (k,r)∧CallV cx k (r :: args) u K
def vCallX (tm:Tr Value) (u:Mem) (dst:Option Tmp) (ty:TypeId) (c:Call) (K:Option Value→Mem→Prop):Prop:=
 evL cx tm c.args.toList fun args=>match c.callee with
  | .builtin b=>vBuiltin cx u b c.argTypes.toList args fun r u'=>K (some r) u'
  | .value f=>vVal (evT cx tm f) fun f=>vCallFV cx u f args fun r u'=>vRes cx dst ty (fun r u'=>K (some r) u') r u'
  | .invoke x name=>vVal (evT cx tm x) fun x=>vInvokeV cx u x name args fun r u'=>vRes cx dst ty (fun r u'=>K (some r) u') r u'
def vOpX (tm:Tr Value) (u:Mem) (dst:Option Tmp) (ty:TypeId) (op:Op) (K:Option Value→Mem→Prop):Prop:=match op with
 | .call c=>vCallX cx tm u dst ty c K
 | op=>vOp cx tm u dst ty op K
def vOpO (sz:Nat) (s:VS) (u:Mem) (dst:Option Tmp) (ty:TypeId) (op:Op) (K:VS→Mem→Prop):Prop:=match kindO op with
 | 2=>vOpX cx s.tm (fmV s u) dst ty op fun v u'=>putV sz { s with pend:=0 } dst v fun s=>K s u'
 | _=>vOpX cx s.tm (fmV s u) dst ty op fun v _=>putV sz s dst v fun s=>K s u
def newL (s:VS) (l:List Value):VS:={ s with loc:=s.loc.put s.cnt (s.cnt,l),cnt:=s.cnt+1,pend:=s.pend+1 }
def setL (s:VS) (id:Nat) (l:List Value):VS:={ s with loc:=s.loc.put id (s.cnt,l),cnt:=s.cnt+1 }
def fieldL (t:TypeId) (f:Nat) (K:Nat→Prop):Prop:=match cx.un.get t with
 | some (.struct fs)=>match fs.toList[f]? with
  | some fd=>match sizeT cx fd.type with
   | some (_+1)=>K fd.offset
   | _=>False
  | none=>False
 | _=>False
inductive LKind where
 | no
 | make (z:Option Value)
 | load (t:TypeId) (id off:Nat)
 | store (t:TypeId) (id off:Nat) (x:Operand)
 | field (t:TypeId) (id off f:Nat)
 | same (id off:Nat)
def lkind (LS:List Nat) (s:VS) (dst:Option Tmp):Op→LKind
 | .alloc e=>match locD LS dst with
  | true=>.make (zeroT cx e)
  | false=>.no
 | .box e x=>match locD LS dst with
  | true=>match evT cx s.tm x with
   | some v=>match isAggT cx e,v with
    | true,.agg c=>.make (some (.agg c))
    | true,_=>.make none
    | false,.agg _=>.make none
    | false,.tuple _=>.make none
    | false,v=>.make (some v)
   | none=>.make none
  | false=>.no
 | .load t a=>match lpO s a with
  | some (id,off)=>.load t id off
  | none=>.no
 | .store t a x=>match lpO s a with
  | some (id,off)=>.store t id off x
  | none=>.no
 | .fieldAddr t x f=>match lpO s x with
  | some (id,off)=>.field t id off f
  | none=>.no
 | .nilCheck x | .move x | .assign x=>match lpO s x with
  | some (id,off)=>.same id off
  | none=>.no
 | _=>.no
def vOp2 (LS:List Nat) (sz:Nat) (s:VS) (u:Mem) (dst:Option Tmp) (ty:TypeId) (op:Op) (K:VS→Mem→Prop):Prop:=match lkind cx LS s dst op with
 | .no=>vOpO cx sz s u dst ty op K
 | .make z=>vVal z fun z=>putL sz (newL s (cellsL z)) dst s.cnt 0 fun s=>K s u
 | .load t id off=>vList (cellsAt s id) fun c=>ldL cx t c off fun v=>putV sz s dst (some v) fun s=>K s u
 | .store t id off x=>vVal (evT cx s.tm x) fun v=>vList (cellsAt s id) fun c=>stL cx t c off v fun c=>putV sz (setL s id c) dst none fun s=>K s u
 | .field t id off f=>fieldL cx t f fun o=>putL sz s dst id (off+o) fun s=>K s u
 | .same id off=>putL sz s dst id off fun s=>K s u
def vOps2 (LS:List Nat) (sz:Nat) (ops:List Oper):List Oper→VS→Mem→(VS→Mem→Prop)→Prop
 | [],s,u,K=>K s u
 | o :: r,s,u,K=>vGuard ops s.tm o fun tm go=>match go with
  | true=>vOp2 cx LS sz { s with tm:=tm } u o.dst o.type o.op fun s u=>vOps2 LS sz ops r s u K
  | false=>putV sz { s with tm:=tm } o.dst skipV fun s=>vOps2 LS sz ops r s u K
def takeV (p:Nat→Bool) (s:VS) (u:Mem) (made:List (Nat×Nat×AObj)) (K:VS→Mem→Prop):Prop:=match made with
 | []=>K s u
 | _ :: _=>K { s with pend:=0 } (addMade p made (fmV s u))
def apartL (s:VS) (bw rd sm:Nat):List Oper→Nat→Prop→Prop
 | [],_,K=>K
 | x :: r,j,K=>match hasBit rd j && !hasBit sm j with
  | false=>apartL s bw rd sm r (j+1) K
  | true=>match loadP x.op with
   | some a=>match lpO s a with
    | some (id,_)=>match cellsAt s id with
     | some _=>apartL s bw rd sm r (j+1) K
     | none=>False
    | none=>match evT cx s.tm a with
     | some (.pointer (some ad))=>ad.block≠bw∧apartL s bw rd sm r (j+1) K
     | _=>False
   | none=>False
def apartV (s:VS) (M:Mem) (o:Op) (ops:List Oper) (rd sm:Nat) (K:Prop):Prop:=match storeP o with
 | some x=>match evT cx s.tm x with
  | some (.pointer (some ad))=>okW M ad.block 0 0∧apartL cx s ad.block rd sm ops 0 K
  | _=>False
 | none=>False
def vDrawOp2 (LS:List Nat) (sz:Nat) (ops:List Oper) (s:VS) (u:Mem) (o:Oper) (r:List Oper) (sm:Nat) (q:List Nat) (i base:Nat) (d:Dr) (K:VS→Mem→Dr→Prop):Prop:=
 match kindO o.op with
 | 2=>match makesO o.op with
  | true=>match locD LS o.dst with
   | true=>False
   | false=>vMake cx s.tm o.op (base+i) fun v ob=>putV sz s o.dst (some v) fun s=>K s u { d with made:=(i,base+i,ob) :: d.made }
  | false=>match waitsFor sm d.hist with
   | false=>False
   | true=>match !Nat.beq (Nat.land d.rd sm) d.rd || laterFree i q r with
    | true=>match apartW ops o.op r sm q i d.rd with
     | true=>match lkind cx LS s o.dst o.op with
      | .no=>apartV cx s (addMade (newIn sm d.took) d.made (fmV s u)) o.op ops d.rd sm (vOpX cx s.tm (addMade (newIn sm d.took) d.made (fmV s u)) o.dst o.type o.op fun v m'=>putV sz { s with pend:=0 } o.dst v fun s'=>K s' m' { d with took:=Nat.lor d.took sm,hist:=(i,false,fmV s u,d.took) :: d.hist })
      | _=>False
     | false=>match lkind cx LS s o.dst o.op with
      | .no=>vOpX cx s.tm (setFl (addMade (newIn sm d.took) d.made (fmV s u)) (softFl ops base (fmV s u).nx sm i d q r)) o.dst o.type o.op fun v m'=>putV sz { s with pend:=0 } o.dst v fun s'=>K s' (setFl m' (fmV s u).fl) { d with took:=Nat.lor d.took sm,hist:=(i,true,fmV s u,d.took) :: d.hist }
      | _=>False
    | false=>match lkind cx LS s o.dst o.op with
     | .no=>vOpX cx s.tm (addMade (newIn sm d.took) d.made (fmV s u)) o.dst o.type o.op fun v m'=>putV sz { s with pend:=0 } o.dst v fun s'=>K s' m' { d with took:=Nat.lor d.took sm,hist:=(i,false,fmV s u,d.took) :: d.hist }
     | .store t id off x=>vVal (evT cx s.tm x) fun v=>vList (cellsAt s id) fun c=>stL cx t c off v fun c=>takeV (newIn sm d.took) s u d.made fun s' u'=>putV sz (setL s' id c) o.dst none fun s'=>K s' u' { d with took:=Nat.lor d.took sm,hist:=(i,false,fmV s u,d.took) :: d.hist }
     | _=>False
 | 1=>match memAt sm (fmV s u) d.took d.hist with
  | some (m0,tk)=>match lkind cx LS s o.dst o.op with
   | .no=>vOpX cx s.tm (addMade (newIn sm tk) d.made m0) o.dst o.type o.op fun v _=>putV sz s o.dst v fun s=>K s u { d with rd:=Nat.lor d.rd (bit i) }
   | .load t id off=>vList (cellsAt s id) fun c=>ldL cx t c off fun v=>putV sz s o.dst (some v) fun s=>K s u { d with rd:=Nat.lor d.rd (bit i) }
   | _=>False
  | none=>False
 | _=>match lkind cx LS s o.dst o.op with
  | .no=>vOpX cx s.tm ⟨.nil,0,0⟩ o.dst o.type o.op fun v _=>putV sz s o.dst v fun s=>K s u d
  | .field t id off f=>fieldL cx t f fun o'=>putL sz s o.dst id (off+o') fun s=>K s u d
  | .same id off=>putL sz s o.dst id off fun s=>K s u d
  | _=>False
def vDraw2 (LS:List Nat) (sz:Nat) (ops:List Oper) (base:Nat):List Oper→List Nat→Nat→Dr→VS→Mem→(VS→Mem→Prop)→Prop
 | o :: r,sm :: q,i,d,s,u,K=>vGuard ops s.tm o fun tm go=>match go with
  | true=>vDrawOp2 cx LS sz ops { s with tm:=tm } u o r sm q i base d fun s u d=>vDraw2 LS sz ops base r q (i+1) d s u K
  | false=>putV sz { s with tm:=tm } o.dst skipV fun s=>vDraw2 LS sz ops base r q (i+1) d s u K
 | [],_,_,d,s,u,K=>match d.made with
  | []=>K s u
  | _ :: _=>mBind (addMade (fun k=>!hasBit d.took k) d.made (fmV s u)) (K { s with pend:=0 })
 | _ :: _,[],_,_,_,_,_=>False
def vRegion2 (LS:List Nat) (sz:Nat) (ops:List Oper) (draw:Bool) (s:VS) (u:Mem) (K:VS→Mem→Prop):Prop:=match draw with
 | false=>vOps2 cx LS sz ops ops s u K
 | true=>match slotsOk ops ops (ancs ops []) 0 with
  | true=>vDraw2 cx LS sz ops (fmV s u).nx ops (ancs ops []) 0 ⟨0,[],[],0⟩ { s with pend:=s.pend+ops.length } u K
  | false=>False
structure JA where
 keep:List Nat
 live:Live
 lks:List (Nat×Nat×Nat)
 fix:List Nat
 cts:List (Nat×List Nat)
 cnt:Nat
inductive AD where
 | skip
 | label (l:Nat)
 | region (id:Nat) (ops:Array Oper) (draw:Bool)
 | seq (a b:AD)
 | seqJ (a:AD) (j:JA) (b:AD)
 | cond (c:Operand) (x y:AD)
 | block (id:Nat) (c:AD)
 | loop (j:JA) (c:AD)
 | exit (id:Nat)
 | ret
 | other (c:Code)
def AD.code:AD→Code
 | .skip=>.skip
 | .label l=>.label l
 | .region id ops draw=>.region id ops draw
 | .seq a b=>.seq a.code b.code
 | .seqJ a _ b=>.seq a.code b.code
 | .cond c x y=>.cond c x.code y.code
 | .block id c=>.block id c.code
 | .loop _ c=>.loop c.code
 | .exit id=>.exit id
 | .ret=>.ret
 | .other c=>c
abbrev AnD:=List (Option JA)
def anHead:AnD→Option JA×AnD
 | []=>(none,[])
 | x :: r=>(x,r)
def AD.of:Code→AnD→AD×AnD
 | .skip,n=>(.skip,n)
 | .label l,n=>(.label l,n)
 | .region id ops draw,n=>(.region id ops draw,n)
 | .seq a b,n=>match anHead n with
  | (none,n)=>match AD.of a n with
   | (x,n)=>match AD.of b n with
    | (y,n)=>(.seq x y,n)
  | (some j,n)=>match AD.of a n with
   | (x,n)=>match AD.of b n with
    | (y,n)=>(.seqJ x j y,n)
 | .cond c a b,n=>match AD.of a n with
  | (x,n)=>match AD.of b n with
   | (y,n)=>(.cond c x y,n)
 | .block id c,n=>match AD.of c n with
  | (x,n)=>(.block id x,n)
 | .loop c,n=>match anHead n with
  | (none,n)=>(.other (.loop c),n)
  | (some j,n)=>match AD.of c n with
   | (x,n)=>(.loop j x,n)
 | .exit id,n=>(.exit id,n)
 | .ret,n=>(.ret,n)
 | c,n=>(.other c,n)
def putSl (tm:Tr Value):List Nat→List Value→Tr Value
 | i :: r,v :: q=>(putSl tm r q).put i v
 | _,_=>tm
def putCts (loc:Tr (Nat×List Value)):List (Nat×List Nat)→Tr Value→Option (Tr Value)
 | [],tm=>some tm
 | (id,sl) :: r,tm=>match loc.get id with
  | some (_,c)=>match Nat.beq c.length sl.length with
   | true=>match putCts loc r tm with
    | some tm=>some (putSl tm sl c)
    | none=>none
   | false=>none
  | none=>none
def getSl (tm:Tr Value):List Nat→Option (List Value)
 | []=>some []
 | i :: r=>match tm.get i,getSl tm r with
  | some v,some l=>some (v :: l)
  | _,_=>none
def getCts (tm:Tr Value) (v:Nat):List (Nat×List Nat)→Tr (Nat×List Value)→Option (Tr (Nat×List Value))
 | [],loc=>some loc
 | (id,sl) :: r,loc=>match getSl tm sl,getCts tm v r loc with
  | some c,some loc=>some (loc.put id (v,c))
  | _,_=>none
def delSl (tm:Tr Value):List Nat→Tr Value
 | []=>tm
 | i :: r=>(delSl tm r).del i
def delCts:List (Nat×List Nat)→Tr Value→Tr Value
 | [],tm=>tm
 | (_,sl) :: r,tm=>delSl (delCts r tm) sl
def ctsSlots:List (Nat×List Nat)→List Nat
 | []=>[]
 | (_,sl) :: r=>sl ++ ctsSlots r
def lksT:List (Nat×Nat×Nat)→Tr (Nat×Nat)
 | []=>.nil
 | (t,id,off) :: r=>(lksT r).put t (id,off)
def fixT (loc:Tr (Nat×List Value)):List Nat→Tr (Nat×List Value)
 | []=>.nil
 | id :: r=>match loc.get id with
  | some x=>(fixT loc r).put id x
  | none=>fixT loc r
def nodupN:List Nat→Bool
 | []=>true
 | x :: r=>match memN r x with
  | true=>false
  | false=>nodupN r
def jaOk (j:JA) (s:VS):Bool:=
 Nat.ble s.cnt j.cnt && (j.lks.all (fun x=>Nat.ble x.2.1 j.cnt) && (j.fix.all (fun x=>Nat.ble x j.cnt) && (j.cts.all (fun x=>Nat.ble x.1 j.cnt) && (apartN j.keep (ctsSlots j.cts) && nodupN (ctsSlots j.cts)))))
def lksOk (s:VS):List (Nat×Nat×Nat)→Bool
 | []=>true
 | (t,id,off) :: r=>match s.lp.get t with
  | some (id',off')=>match Nat.beq id' id && Nat.beq off' off with
   | true=>lksOk s r
   | false=>false
  | none=>false
def fixOk (s0 s:VS):List Nat→Bool
 | []=>true
 | id :: r=>match s0.loc.get id,s.loc.get id with
  | some (v,_),some (v',_)=>match Nat.beq v v' with
   | true=>fixOk s0 s r
   | false=>false
  | _,_=>false
def headV (j:JA) (s0:VS) (tm:Tr Value):Option VS:=match getCts tm j.cnt j.cts (fixT s0.loc j.fix) with
 | some loc=>some { tm:=delCts j.cts tm,lp:=lksT j.lks,loc:=loc,cnt:=j.cnt+1,pend:=0 }
 | none=>none
def jmp1 (j:JA) (s0 s:VS) (J:Cur j.live (Mem→Prop)) (u:Mem):Prop:=match lksOk s j.lks && fixOk s0 s j.fix with
 | true=>match putCts s.loc j.cts s.tm with
  | some tm=>appT j.live J tm (fun _=>False) (fmV s u)
  | none=>False
 | false=>False
def jmp2 (j:JA) (s0 s:VS) (J:Cur j.live (Mem→Nat→Prop)) (u:Mem) (n:Nat):Prop:=match lksOk s j.lks && fixOk s0 s j.fix with
 | true=>match putCts s.loc j.cts s.tm with
  | some tm=>appT j.live J tm (fun _ _=>False) (fmV s u) n
  | none=>False
 | false=>False
def vcg2 (LS:List Nat) (sz:Nat):AD→VS→Mem→(Ex→VS→Mem→Prop)→Prop
 | .skip,s,u,Q=>Q .normal s u
 | .label _,s,u,Q=>Q .normal s u
 | .region _ ops draw,s,u,Q=>vRegion2 cx LS sz ops.toList draw s u fun s u=>Q .normal s u
 | .seq a b,s,u,Q=>vcg2 LS sz a s u fun
  | .normal,s,u=>vcg2 LS sz b s u Q
  | .exit i,s,u=>Q (.exit i) s u
  | .ret,s,u=>Q .ret s u
 | .seqJ a j b,s,u,Q=>match apartN j.keep (writesC a.code) && jaOk j s with
  | true=>joinK (mkJ j.live (keepT s.tm j.keep) fun tm u=>match headV j s tm with
    | some s=>vcg2 LS sz b s u Q
    | none=>False) fun J=>vcg2 LS sz a s u fun
   | .normal,s',u=>jmp1 j s s' J u
   | .exit i,s,u=>Q (.exit i) s u
   | .ret,s,u=>Q .ret s u
  | false=>False
 | .cond c x y,s,u,Q=>vCond cx s.tm c fun tm b=>match b with
  | true=>vcg2 LS sz x { s with tm:=tm } u Q
  | false=>vcg2 LS sz y { s with tm:=tm } u Q
 | .block id c,s,u,Q=>vcg2 LS sz c s u fun
  | .normal,s,u=>Q .normal s u
  | .exit i,s,u=>match Nat.beq i id with
   | true=>Q .normal s u
   | false=>Q (.exit i) s u
  | .ret,s,u=>Q .ret s u
 | .loop j c,s,u,Q=>match apartN j.keep (writesC c.code) && jaOk j s with
  | true=>∃ Inv:Cur j.live (Mem→Nat→Prop),(∃ n,jmp2 j s s Inv u n) ∧
   alL j.live Inv (keepT s.tm j.keep) fun I tm=>∀ u n,I u n→match headV j s tm with
    | some s1=>vcg2 LS sz c s1 u fun
     | .normal,s',u=>∃ n',n' < n∧jmp2 j s s' Inv u n'
     | .exit i,s,u=>Q (.exit i) s u
     | .ret,s,u=>Q .ret s u
    | none=>False
  | false=>False
 | .exit id,s,u,Q=>Q (.exit id) s u
 | .ret,s,u,Q=>Q .ret s u
 | .other _,_,_,_=>False
def vResults2 (s:VS) (u:Mem):List ResultVar→(List Value→Prop)→Prop
 | [],K=>K []
 | .tmp t :: r,K=>vVal (s.tm.get t) fun v=>vResults2 s u r fun vs=>K (v :: vs)
 | .cell a t :: r,K=>match s.lp.get a with
  | some (id,off)=>vList (cellsAt s id) fun c=>ldL cx t c off fun v=>vResults2 s u r fun vs=>K (v :: vs)
  | none=>match s.tm.get a with
   | some (.pointer p)=>vPtr p fun b o=>vLoad cx (fmV s u) t b o fun v=>vResults2 s u r fun vs=>K (v :: vs)
   | _=>False
def vFn2 (fn:Func) (LS:List Nat) (ann:AnD) (args:List Value) (u:Mem) (Q:Value→Mem→Prop):Prop:=match fn.body with
 | none=>False
 | some c=>match Nat.ble args.length fn.ntmps with
  | false=>False
  | true=>vcg2 cx LS fn.ntmps (AD.of c ann).1 ⟨writeL .nil args 0,.nil,.nil,0,0⟩ u fun
   | .normal,s,u=>vResults2 cx s u fn.results.toList fun l=>Q (oneOf l) (fmV s u)
   | .ret,s,u=>vResults2 cx s u fn.results.toList fun l=>Q (oneOf l) (fmV s u)
   | .exit _,_,_=>False
end
end Go.AX
