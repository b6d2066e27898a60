import Derived.Test.YtiehbnmpaeedpaaGreatQR17
namespace Go.AX
variable [Kap]
variable {P:Program} {cx:Cx} {φ : Phi} {m:Mem} {w:World}
theorem storeL_ok (h0:R0 P φ m w) {a a':Addr} {l l':List Value} {m':Mem} (h:storeL m a l=some m') (ha:VR φ (.pointer (some a)) (.pointer (some a'))) (hl:LR φ l l') :
  ∃ w',(storeCells a' l').run P w = .ok () w'∧R0 P φ m' w'∧Stp φ m w φ m' w'∧m'.nx=m.nx:=by
 cases ha with
 | ptr b off lc hb=>
  unfold storeL at h
  split at h
  ·cases ‹_›
  ·split at h
   ·rename_i c k e x hk
    split at h
    ·rename_i hc
     simp only [Option.some.injEq] at h; subst h
     simp only [Bool.and_eq_true] at hc
     obtain ⟨⟨hc1,hc2⟩,hc3⟩:=hc
     have c1:off+l.length≤k:=Nat.le_of_ble_eq_true hc1
     have c2:m.fl≤b:=Nat.le_of_ble_eq_true hc2
     obtain ⟨l0,hl0,c',hc',hn,hre,hsz,hcells,hx1,hx2⟩:=h0.obj _ _ hk
     rw [hb] at hl0; cases hl0
     have hrun:=run_storeCells_at P lc.rb (lc.ro+off) e l' 0 c' w hc' (by rw [← hl.1]; omega) (hl.one1 hc3)
     generalize hnew:(c'.toList.take (lc.ro+off+0) ++ l' ++ c'.toList.drop (lc.ro+off+0+l'.length)).toArray=cn at hrun
     have hcnl:cn.toList=splice c'.toList (lc.ro+off) l':=by rw [← hnew]; simp [AX.splice]
     have hcsz:cn.size=c'.size:=by
      have:=splice_length (a:=c'.toList) (b:=l') (off:=lc.ro+off) (by rw [← hl.1]; simp; omega)
      rw [← hcnl] at this
      simpa using this
     have hup:=upd_ok (P:=P) h0 (o:=.cells (writeL c l off) k e x) (w':=w.setRow lc.rb cn) hk hb c2 (fun r hr=>setRow_other w lc.rb r cn hr) (by simp) rfl rfl rfl (Nat.le_refl _) (by
      refine ⟨cn,setRow_heap w lc.rb c' cn e (0,0) hc',hn,hre,by omega,?_,hx1,hx2⟩
      intro i hi
      obtain ⟨v',g2,g3⟩:=hcells i hi
      by_cases hin:off≤i∧i < off+l.length
      ·have h1:i - off < l.length:=by omega
       have h2:i - off < l'.length:=by rw [← hl.1]; exact h1
       refine cellR_of (v:=l[i - off]) (v':=l'[i - off]) ?_ ?_ (hl.2 _ _ _ (List.getElem?_eq_getElem h1) (List.getElem?_eq_getElem h2))
       ·rw [writeL_get,if_pos hin]; simp [h1]
       ·rw [← Array.getElem?_toList,hcnl]
        unfold AX.splice
        rw [List.append_assoc,List.getElem?_append_right (by simp; omega)]
        have e1:(List.take (lc.ro+off) c'.toList).length=lc.ro+off:=by simp; omega
        rw [e1,List.getElem?_append_left (by omega)]
        rw [show lc.ro+i - (lc.ro+off)=i - off by omega]
        exact List.getElem?_eq_getElem h2
      ·refine ⟨v',?_,fun v hv=>g3 v (by rw [writeL_get,if_neg hin] at hv; exact hv)⟩
       ·rw [← Array.getElem?_toList,hcnl]
        unfold AX.splice
        rw [← Array.getElem?_toList] at g2
        have e1:(List.take (lc.ro+off) c'.toList).length=lc.ro+off:=by simp; omega
        by_cases hlt:i < off
        ·rw [List.append_assoc,List.getElem?_append_left (by omega),List.getElem?_take,if_pos (by omega)]; exact g2
        ·rw [List.getElem?_append_right (by simp; rw [← hl.1]; omega),List.getElem?_drop]
         rw [← g2]
         congr 1
         simp
         rw [← hl.1]
         omega)
     exact ⟨_,hrun,hup.1,hup.2,rfl⟩
    ·cases h
   ·cases h
theorem store_ok (hcx:CxOk P cx) (h0:R0 P φ m w) {t:TypeId} {a:Addr} {x y y':Value} {m':Mem} (h:storeT cx m t a y=some m') (ha:VR φ (.pointer (some a)) x) (hy:VR φ y y') :
  ∃ w',(Instr.storeAt t x y').run P w = .ok () w'∧R0 P φ m' w'∧Stp φ m w φ m' w'∧m'.nx=m.nx:=by
 obtain ⟨a',rfl⟩:∃ a',x = .pointer (some a'):=by cases ha; exact ⟨_,rfl⟩
 unfold storeT at h
 split at h
 ·rename_i n hn
  obtain ⟨i,hi,rfl⟩:=sizeT_ok hcx hn
  split at h
  ·rename_i hc
   have c2:(cellsL y).length=i.size:=Nat.eq_of_beq_eq_true hc
   obtain ⟨w',h1,h2⟩:=storeL_ok h0 h ha hy.cells
   refine ⟨w',?_,h2⟩
   have hsz:y'.cells.size=i.size:=by rw [← c2,hy.cells.1,← cells_toList]; simp
   simp only [Instr.storeAt,Instr.sureAddr,storeVar,Sem.run_bind,Sem.run_pure,Result.andThen_ok,run_size hi]
   rw [if_neg (by simp [hsz])]
   rw [← cells_toList] at h1
   simpa using h1
  ·cases h
 ·cases h
theorem setO_ok (h0:R0 P φ m w) {r:Nat} {l:Loc} {es es1:List MapEntry} {clock clock1:Nat} {es' es1':Array MapEntry} {m':Mem} (h:setO m r (.map es1 clock1)=some m') (hm:m.hp.get r=some (.map es clock)) (hr:φ r=some l)
  (hw:w.heap[l.rb]? = some (.map es' clock)) (he:ER φ es1 es1'.toList) :
  ∃ w',(setObj l.rb (.map es1' clock1)).run P w = .ok () w'∧R0 P φ m' w'∧Stp φ m w φ m' w'∧m'.nx=m.nx:=by
 unfold setO at h
 split at h
 ·rename_i hf
  simp only [Option.some.injEq] at h; subst h
  have hlt:l.rb < w.heap.size:=(Array.getElem?_eq_some_iff.1 hw).1
  have hup:=upd_ok (P:=P) h0 (o:=.map es1 clock1) (w':={ w with heap:=w.heap.setIfInBounds l.rb (.map es1' clock1) }) hm hr (Nat.le_of_ble_eq_true hf)
   (fun r hr=>by simp [Ne.symm hr]) (by simp) rfl rfl rfl (Nat.le_refl _) ⟨es1',by simp [hlt],he⟩
  refine ⟨_,?_,hup.1,hup.2,rfl⟩
  simp [setObj,Sem.run,hw]
 ·cases h
omit [Kap] in
theorem ER.modify {es es':List MapEntry} (h:ER φ es es') (i:Nat) {f f':MapEntry→MapEntry}
  (hf:∀ e e',VR φ e.key e'.key→VR φ e.val e'.val→e.born=e'.born→VR φ (f e).key (f' e').key∧VR φ (f e).val (f' e').val∧(f e).born=(f' e').born):ER φ (es.modify i f) (es'.modify i f'):=by
 refine ⟨by simp [h.1],fun j e e' h1 h2=>?_⟩
 rw [List.getElem?_modify] at h1 h2
 cases ha:es[j]? with
 | none=>simp [ha] at h1
 | some a=>
  cases hb:es'[j]? with
  | none=>simp [hb] at h2
  | some b=>
   obtain ⟨k1,k2,k3⟩:=h.2 j a b ha hb
   simp only [ha,hb,Option.map_eq_map,Option.map_some,Option.some.injEq] at h1 h2
   by_cases hij:i=j
   ·simp only [hij,if_true] at h1 h2
    subst h1; subst h2
    exact hf _ _ k1 k2 k3
   ·simp only [hij,if_false] at h1 h2
    subst h1; subst h2
    exact ⟨k1,k2,k3⟩
omit [Kap] in
theorem ER.snoc {es es':List MapEntry} (h:ER φ es es') {e e':MapEntry} (he:VR φ e.key e'.key∧VR φ e.val e'.val∧e.born=e'.born):ER φ (es ++ [e]) (es' ++ [e']):=by
 refine ⟨by simp [h.1],fun j a b h1 h2=>?_⟩
 by_cases hj:j < es.length
 ·rw [List.getElem?_append_left hj] at h1
  rw [List.getElem?_append_left (by rw [← h.1]; exact hj)] at h2
  exact h.2 j a b h1 h2
 ·rw [List.getElem?_append_right (by omega)] at h1
  rw [List.getElem?_append_right (by rw [← h.1]; omega)] at h2
  rw [← h.1] at h2
  cases hd:j - es.length with
  | zero=>rw [hd] at h1 h2; simp at h1 h2; subst h1; subst h2; exact he
  | succ n=>rw [hd] at h1; simp at h1
omit [Kap] in
theorem ER.erase {es es':List MapEntry} (h:ER φ es es') (i:Nat):ER φ (es.eraseIdx i) (es'.eraseIdx i):=by
 refine ⟨by simp [List.length_eraseIdx,h.1],fun j a b h1 h2=>?_⟩
 rw [List.getElem?_eraseIdx] at h1 h2
 split at h1
 ·rw [if_pos ‹_›] at h2; exact h.2 _ a b h1 h2
 ·rw [if_neg ‹_›] at h2; exact h.2 _ a b h1 h2
omit [Kap] in
theorem findNow_key {d:TypeDesc} {k:Value}:∀ (es:List MapEntry) (i j:Nat) (v:Value),Instr.findNow d k es i=some (some (j,v))→i≤j∧∃ e,es[j - i]? = some e∧Instr.sameNow d k e.key=some true∧e.val=v
 | [],i,j,v,h=>by simp [Instr.findNow] at h
 | e :: es,i,j,v,h=>by
  unfold Instr.findNow at h
  split at h
  ·rename_i hs
   simp only [Option.some.injEq,Prod.mk.injEq] at h
   obtain ⟨rfl,rfl⟩:=h
   exact ⟨Nat.le_refl _,e,by simp,hs,rfl⟩
  ·obtain ⟨h1,e',h2,h3⟩:=findNow_key es (i+1) j v h
   refine ⟨by omega,e',?_,h3⟩
   rw [show j - i=(j - (i+1))+1 by omega]; simpa using h2
  ·cases h
omit [Kap] in
theorem sameNow_bits {d:TypeDesc} {a b:Value} (h:Instr.sameNow d a b=some true):Instr.sameBits 10000 b a=true:=by
 unfold Instr.sameNow at h
 split at h
 ·split at h
  ·rename_i hk
   subst hk
   have e:=eq_of_beq (Option.some.inj h)
   subst e
   simp [Instr.sameBits]
  ·cases h
 ·have e:=Option.some.inj h
  rw [beq_toListBytes] at e
  have e':=eq_of_beq e
  unfold Instr.sameBits
  rw [beq_toListBytes,e']
  simp
 ·have e:=eq_of_beq (Option.some.inj h)
  subst e
  simp [Instr.sameBits]
 ·cases h
omit [Kap] in
theorem keyStays_ok {old new:Value} (h:Instr.sameBits 10000 old new=true):(Instr.keyThatStays old new).run P w = .ok new w:=by
 simp [Instr.keyThatStays,h]
theorem mapUpdate_ok (hcx:CxOk P cx) (h0:R0 P φ m w) {t:TypeId} {x k v x' k' v':Value} {m':Mem} (h:mapUpdateA cx m t x k v=some m') (hx:VR φ x x') (hk:VR φ k k') (hv:VR φ v v') :
  ∃ w',(Instr.mapUpdate t x' k' v').run P w = .ok () w'∧R0 P φ m' w'∧Stp φ m w φ m' w'∧m'.nx=m.nx:=by
 unfold mapUpdateA at h
 split at h
 ·rename_i d et r hmk
  obtain ⟨kt,hu,hd,hkk⟩:=mapKey_ok hcx hmk
  have e:=keyKind_same hkk hk
  subst e
  cases hx with
  | map _ l hr=>
   split at h
   ·rename_i es clock hm
    obtain ⟨es',hw,he⟩:=map_of h0 hm hr
    have hg:=run_getObj_map (P:=P) (w:=w) _ _ _ hw
    split at h
    ·rename_i i u hf
     obtain ⟨r',g1,g2⟩:=findK_ok _ _ _ _ he hf
     cases r' with
     | none=>exact g2.elim
     | some p=>
      obtain ⟨i',u'⟩:=p
      obtain ⟨rfl,hu'⟩:=g2
      obtain ⟨_,e',q1,q2,q3⟩:=findNow_key _ _ _ _ g1
      rw [Nat.sub_zero] at q1
      have hes:(es'[i]?).map (·.key)=some e'.key:=by rw [← Array.getElem?_toList,q1]; rfl
      obtain ⟨w',s1,s2⟩:=setO_ok h0 (es1':=es'.modify i fun e=>{ e with key:=k',val:=v' }) h hm hr hw (by
       rw [Array.toList_modify]
       exact he.modify i (fun a b ha hb hc=>⟨hk,hv,hc⟩))
      refine ⟨w',?_,s2⟩
      simp [Instr.mapUpdate,run_underlying hu,hg,checkKey_ok hd hkk,findKey_ok hd g1,hes,keyStays_ok (sameNow_bits q2),s1]
    ·rename_i hf
     obtain ⟨r',g1,g2⟩:=findK_ok _ _ _ _ he hf
     cases r' with
     | some p=>exact g2.elim
     | none=>
      obtain ⟨w',s1,s2⟩:=setO_ok h0 (es1':=es'.push { key:=k',val:=v',born:=clock }) h hm hr hw (by
       rw [Array.toList_push]
       exact he.snoc ⟨hk,hv,rfl⟩)
      refine ⟨w',?_,s2⟩
      simp [Instr.mapUpdate,run_underlying hu,hg,checkKey_ok hd hkk,findKey_ok hd g1,s1]
    ·cases h
   ·cases h
 ·cases h
theorem mapEntry_ok (hcx:CxOk P cx) (h0:R0 P φ m w) {t:TypeId} {x k x' k' v:Value} {m':Mem} (h:mapEntryA cx m t x k=some (v,m')) (hx:VR φ x x') (hk:VR φ k k') :
  ∃ v' w',(Instr.mapEntry t x' k').run P w = .ok v' w'∧VR φ v v'∧R0 P φ m' w'∧Stp φ m w φ m' w'∧m'.nx=m.nx:=by
 unfold mapEntryA at h
 split at h
 ·rename_i d et r hmk
  obtain ⟨kt,hu,hd,hkk⟩:=mapKey_ok hcx hmk
  have e:=keyKind_same hkk hk
  subst e
  cases hx with
  | map _ l hr=>
   split at h
   ·rename_i es clock hm
    obtain ⟨es',hw,he⟩:=map_of h0 hm hr
    have hg:=run_getObj_map (P:=P) (w:=w) _ _ _ hw
    split at h
    ·rename_i i u hf
     obtain ⟨r',g1,g2⟩:=findK_ok _ _ _ _ he hf
     cases r' with
     | none=>exact g2.elim
     | some p=>
      obtain ⟨i',u'⟩:=p
      obtain ⟨rfl,hu'⟩:=g2
      obtain ⟨_,e',q1,q2,q3⟩:=findNow_key _ _ _ _ g1
      rw [Nat.sub_zero] at q1
      have hbn:es'[i]? = some e':=by rw [← Array.getElem?_toList,q1]
      have hlt:i < es.length:=by rw [he.1]; exact (List.getElem?_eq_some_iff.1 q1).1
      have hbe:es[i].born=e'.born:=(he.2 i _ _ (List.getElem?_eq_getElem hlt) q1).2.2
      split at h
      ·rename_i m1 hs
       simp only [Option.some.injEq,Prod.mk.injEq] at h
       obtain ⟨rfl,rfl⟩:=h
       obtain ⟨w',s1,s2⟩:=setO_ok h0 (es1':=es'.modify i fun e=>{ e with key:=k' }) hs hm hr hw (by
        rw [Array.toList_modify]
        exact he.modify i (fun a b ha hb hc=>⟨hk,hb,hc⟩))
       refine ⟨.tuple #[u',.int .i64 e'.born],w',?_,?_,s2⟩
       ·simp [Instr.mapEntry,run_underlying hu,hg,checkKey_ok hd hkk,findKey_ok hd g1,hbn,keyStays_ok (sameNow_bits q2),s1,goInt]
       ·simp only [List.getElem?_eq_getElem hlt,hbe]
        exact .tuple _ _ rfl ((LR.nil φ).cons (.int _ _) |>.cons hu').2
      ·cases h
    ·rename_i hf
     obtain ⟨r',g1,g2⟩:=findK_ok _ _ _ _ he hf
     cases r' with
     | some p=>exact g2.elim
     | none=>
      split at h
      ·rename_i z hz
       obtain ⟨hzr,hp⟩:=zeroT_ok hcx hz w
       split at h
       ·rename_i m1 hs
        simp only [Option.some.injEq,Prod.mk.injEq] at h
        obtain ⟨rfl,rfl⟩:=h
        obtain ⟨w',s1,s2⟩:=setO_ok h0 (es1':=es'.push { key:=k',val:=z,born:=clock }) hs hm hr hw (by
         rw [Array.toList_push]
         exact he.snoc ⟨hk,VR.plain φ hp,rfl⟩)
        refine ⟨.tuple #[z,.int .i64 clock],w',?_,?_,s2⟩
        ·simp [Instr.mapEntry,run_underlying hu,hg,checkKey_ok hd hkk,findKey_ok hd g1,hzr,s1,goInt]
        ·exact .tuple _ _ rfl ((LR.nil φ).cons (.int _ _) |>.cons (VR.plain φ hp)).2
       ·cases h
      ·cases h
    ·cases h
   ·cases h
 ·cases h
omit [Kap] in
theorem findIdx_same {born:Int}:∀ (es es':List MapEntry),ER φ es es'→es'.findIdx? (fun e=>(e.born:Int) == born)=es.findIdx? (fun e=>decide ((e.born:Int)=born))
 | [],es',h=>by
  have:es'=[]:=List.length_eq_zero_iff.1 h.1.symm
  subst this; rfl
 | e :: es,es',h=>by
  obtain ⟨e',r',rfl,⟨_,_,hb⟩,hr⟩:=h.uncons
  simp only [List.findIdx?_cons,findIdx_same es r' hr,hb]
  by_cases q:(e'.born:Int)=born <;> simp [q]
theorem entryStore_ok (h0:R0 P φ m w) {t:TypeId} {x s v x' s' v':Value} {m':Mem} (h:entryStoreA m x s v=some m') (hx:VR φ x x') (hs:VR φ s s') (hv:VR φ v v') :
  ∃ w',(Instr.entryStore t x' s' v').run P w = .ok () w'∧R0 P φ m' w'∧Stp φ m w φ m' w'∧m'.nx=m.nx:=by
 unfold entryStoreA at h
 split at h
 ·rename_i r k born
  have:=vr_int hs
  subst this
  cases hx with
  | map _ l hr=>
   split at h
   ·rename_i es clock hm
    obtain ⟨es',hw,he⟩:=map_of h0 hm hr
    have hg:=run_getObj_map (P:=P) (w:=w) _ _ _ hw
    split at h
    ·rename_i i hi
     obtain ⟨w',s1,s2⟩:=setO_ok h0 (es1':=es'.modify i fun e=>{ e with val:=v' }) h hm hr hw (by
      rw [Array.toList_modify]
      exact he.modify i (fun a b ha hb hc=>⟨ha,hv,hc⟩))
     have hi':es'.findIdx? (fun e=>(e.born:Int) == born)=some i:=by
      rw [← hi,← findIdx_same es es'.toList he]
      cases es'
      rw [List.findIdx?_toArray]
     refine ⟨w',?_,s2⟩
     simp [Instr.entryStore,hg,asInt,asIntOf,hi',s1]
    ·cases h
   ·cases h
 ·cases h
theorem delete_ok (hcx:CxOk P cx) (h0:R0 P φ m w) {ts:Array TypeId} {ty t:TypeId} {x k:Value} {args':Array Value} {m':Mem} (ht:ts[0]? = some t) (h:deleteA cx m t x k=some m') (ha:LR φ [x,k] args'.toList) :
  ∃ w',(Builtin.delete_ ts ty args').run P w = .ok (.tuple #[]) w'∧R0 P φ m' w'∧Stp φ m w φ m' w'∧m'.nx=m.nx:=by
 obtain ⟨x',r1,e1,hx,hr1⟩:=ha.uncons
 obtain ⟨k',r2,e2,hk,hr2⟩:=hr1.uncons
 have:=hr2.nil_iff
 subst this; subst e2
 have ea:args' = #[x',k']:=Array.ext' (by simpa using e1)
 subst ea
 unfold deleteA at h
 split at h
 ·rename_i p hmk
  obtain ⟨d,et⟩:=p
  obtain ⟨kt,hu,hd,hkk⟩:=mapKey_ok hcx hmk
  have e:=keyKind_same hkk hk
  subst e
  cases hx
  simp only [Option.some.injEq] at h; subst h
  refine ⟨w,?_,h0,Stp.refl _ _ _,rfl⟩
  simp [Builtin.delete_,ht,run_underlying hu,checkKey_ok hd hkk]
 ·rename_i d et r hmk
  obtain ⟨kt,hu,hd,hkk⟩:=mapKey_ok hcx hmk
  have e:=keyKind_same hkk hk
  subst e
  cases hx with
  | map _ l hr=>
   split at h
   ·rename_i es clock hm
    obtain ⟨es',hw,he⟩:=map_of h0 hm hr
    have hg:=run_getObj_map (P:=P) (w:=w) _ _ _ hw
    split at h
    ·rename_i i u hf
     obtain ⟨r',g1,g2⟩:=findK_ok _ _ _ _ he hf
     cases r' with
     | none=>exact g2.elim
     | some p=>
      obtain ⟨i',u'⟩:=p
      obtain ⟨rfl,hu'⟩:=g2
      obtain ⟨w',s1,s2⟩:=setO_ok h0 (es1':=es'.eraseIdxIfInBounds i) h hm hr hw (by
       rw [Array.toList_eraseIdxIfInBounds]
       exact he.erase i)
      refine ⟨w',?_,s2⟩
      simp [Builtin.delete_,ht,run_underlying hu,hg,checkKey_ok hd hkk,findKey_ok hd g1,s1]
    ·rename_i hf
     obtain ⟨r',g1,g2⟩:=findK_ok _ _ _ _ he hf
     cases r' with
     | some p=>exact g2.elim
     | none=>
      simp only [Option.some.injEq] at h; subst h
      refine ⟨{ w with heap:=w.heap.setIfInBounds l.rb (.map es' clock) },?_,?_,?_,rfl⟩
      ·simp [Builtin.delete_,ht,run_underlying hu,hg,checkKey_ok hd hkk,findKey_ok hd g1,setObj,Sem.run,hw]
      ·have hlt:l.rb < w.heap.size:=(Array.getElem?_eq_some_iff.1 hw).1
       have hsame:w.heap.setIfInBounds l.rb (.map es' clock)=w.heap:=by
        apply Array.ext_getElem?
        intro i
        rw [Array.getElem?_setIfInBounds]
        split
        ·rename_i q; subst q; first | exact hw.symm | (rw [if_pos hlt]; exact hw.symm)
        ·rfl
       rw [hsame]; exact h0
      ·have hlt:l.rb < w.heap.size:=(Array.getElem?_eq_some_iff.1 hw).1
       have hsame:w.heap.setIfInBounds l.rb (.map es' clock)=w.heap:=by
        apply Array.ext_getElem?
        intro i
        rw [Array.getElem?_setIfInBounds]
        split
        ·rename_i q; subst q; first | exact hw.symm | (rw [if_pos hlt]; exact hw.symm)
        ·rfl
       rw [hsame]; exact Stp.refl _ _ _
    ·cases h
   ·cases h
 ·cases h
end Go.AX
namespace Go.AX
variable [Kap]
variable {P:Program} {cx:Cx} {φ : Phi} {m:Mem} {w:World}
omit [Kap] in
theorem grow_le (need:Nat):∀ (k c:Nat),c≤2*need+192→Builtin.growBy need k c≤2*need+192
 | 0,c,h=>h
 | k+1,c,h=>by
  simp only [Builtin.growBy]
  split
  ·exact h
  ·exact grow_le need k _ (by omega)
omit [Kap] in
theorem next_le {need c:Nat} (h:c < need):Builtin.nextslicecap need c≤2*need+192:=by
 unfold Builtin.nextslicecap
 split
 ·omega
 ·split
  ·omega
  ·exact grow_le _ _ _ (by omega)
omit [Kap] in
theorem lenV_ok {x x':Value} {n:Nat} (h:lenV x=some n) (hx:VR φ x x'):(Builtin.lenOf x').run P w = .ok n w:=by
 cases hx <;> simp only [lenV,Option.some.injEq,reduceCtorEq] at h <;> subst h <;> simp [Builtin.lenOf] <;> rfl
omit [Kap] in
theorem firstL_ok (h0:R0 P φ m w) {s n k:Nat} {x x':Value} {l:List Value} (h:firstL m s n x=some l) (hx:VR φ x x') (hk:lenV x=some k) (hn:n≤k) :
  ∃ l',(Builtin.firstCells s n x').run P w = .ok l'.toArray w∧LR φ l l':=by
 cases hx with
 | sl b off len cap cap' lc hb hc=>
  simp only [firstL] at h
  split at h
  ·cases h
   exact ⟨[],by simp [Builtin.firstCells,loadCells,loadCellsFrom],LR.nil φ⟩
  ·obtain ⟨_,l',hlr,hlen,hcl⟩:=row_ok h0 h (.ptr b off lc hb)
   have hrun:=run_loadCells_list (P:=P) w _ l' hcl
   refine ⟨l',?_,hlr⟩
   simp only [Builtin.firstCells]
   rw [← hlen,hlr.1]
   simpa using hrun
 | slE a a'=>
  simp only [lenV,Option.some.injEq] at hk
  obtain rfl:n=0:=by omega
  simp only [firstL,Option.some.injEq] at h
  subst h
  exact ⟨[],by simp [Builtin.firstCells,loadCells,loadCellsFrom],LR.nil φ⟩
 | sl0 len cap=>
  simp only [firstL,Option.some.injEq] at h; subst h
  exact ⟨[],by simp [Builtin.firstCells],LR.nil φ⟩
 | string z=>
  simp only [firstL,Option.some.injEq] at h; subst h
  refine ⟨(z.data.toList.take n).map fun b=>.int .u8 b.toNat,?_,?_⟩
  ·simp only [Builtin.firstCells,Sem.run_pure]
   congr 1
   apply Array.ext'
   have:z.extract 0 n=⟨((z.data.toList.drop 0).take (n - 0)).toArray⟩:=by rw [← ByteArray.extract_mk]
   rw [this]
   simp
  ·refine ⟨rfl,fun i v v' h1 h2=>?_⟩
   rw [h1] at h2; cases h2
   simp only [List.getElem?_map,Option.map_eq_some_iff] at h1
   obtain ⟨b,_,rfl⟩:=h1
   exact .int _ _
 | _=>simp [firstL] at h
theorem copy_ok (hcx:CxOk P cx) (h0:R0 P φ m w) {ts:Array TypeId} {ty:TypeId} {args:List Value} {args':Array Value} {v:Value} {m':Mem} (h:copyA cx m ts.toList args=some (v,m')) (ha:LR φ args args'.toList) :
  ∃ v' w',(Builtin.copy_ ts ty args').run P w = .ok v' w'∧VR φ v v'∧R0 P φ m' w'∧Stp φ m w φ m' w'∧m'.nx=m.nx:=by
 unfold copyA at h
 split at h
 ·rename_i t r base dl cap src hts
  obtain ⟨d',r1,e1,hd0,hr1⟩:=ha.uncons
  obtain ⟨s',r2,e2,hs0,hr2⟩:=hr1.uncons
  have:=hr2.nil_iff
  subst this; subst e2
  have ea:args' = #[d',s']:=Array.ext' (by simpa using e1)
  subst ea
  have ht:ts[0]? = some t:=by rw [← Array.getElem?_toList,hts]; rfl
  split at h
  ·rename_i e hd
   have hu:=hcx.un _ _ hd
   split at h
   ·rename_i s n hs hn
    obtain ⟨i,hi,rfl⟩:=sizeT_ok hcx hs
    have hlen:=lenV_ok (P:=P) (w:=w) hn hs0
    split at h
    ·rename_i l hl
     obtain ⟨l',hf,hlr⟩:=firstL_ok h0 hl hs0 hn (Nat.min_le_left _ _)
     have hmin:Nat.min n dl=min n dl:=rfl
     have done:∀ (b':Option Addr) (c':Nat) (w1:World) ,(match b' with | some a=>storeCells a l' | none=>pure ()).run P w = .ok () w1 →
       (Builtin.copy_ ts ty #[.slice b' dl c',s']).run P w = .ok (.int .i64 (min n dl:Nat)) w1:=by
      intro b' c' w1 hst
      cases b' with
      | none=>
       have hst':w1=w:=by simpa using hst.symm
       subst hst'
       simp [Builtin.copy_,ht,run_underlying hu,hlen,hmin,hf,run_size hi,goInt]
      | some a=>
       have hst':(storeCells a l').run P w = .ok () w1:=hst
       simp [Builtin.copy_,ht,run_underlying hu,hlen,hmin,hf,run_size hi,hst',goInt]
     split at h
     ·rename_i a
      split at h
      ·
       simp only [Option.some.injEq,Prod.mk.injEq] at h
       obtain ⟨rfl,rfl⟩:=h
       have:=hlr.nil_iff
       subst this
       cases hd0 with
       | sl b off _ _ cap' lc hb hc=>exact ⟨_,w,done _ _ w (by simp [storeCells]),.int _ _,h0,Stp.refl _ _ _,rfl⟩
       | slE a a'=>exact ⟨_,w,done _ _ w (by simp [storeCells]),.int _ _,h0,Stp.refl _ _ _,rfl⟩
      ·rename_i hne
       split at h
       ·rename_i m1 hst
        simp only [Option.some.injEq,Prod.mk.injEq] at h
        obtain ⟨rfl,rfl⟩:=h
        cases hd0 with
        | sl b off _ _ cap' lc hb hc=>
         obtain ⟨w1,g1,g2,g3,g4⟩:=storeL_ok h0 hst (.ptr b off lc hb) hlr
         exact ⟨_,w1,done _ _ w1 g1,.int _ _,g2,g3,g4⟩
        | slE a a'=>
         exfalso
         rw [show min n 0=0 by omega] at hl
         cases hs0 with
         | sl b off len cap cap' lc hb hc=>simp only [firstL,Option.some.injEq] at hl; exact hne hl.symm
         | slE a a'=>simp only [firstL,Option.some.injEq] at hl; exact hne hl.symm
         | sl0 len cap=>simp only [firstL,Option.some.injEq] at hl; exact hne hl.symm
         | string z=>simp only [firstL,Option.some.injEq,List.take_zero,List.map_nil] at hl; exact hne hl.symm
         | _=>simp [firstL] at hl
       ·cases h
     ·simp only [Option.some.injEq,Prod.mk.injEq] at h
      obtain ⟨rfl,rfl⟩:=h
      cases hd0
      exact ⟨_,w,done none _ w rfl,.int _ _,h0,Stp.refl _ _ _,rfl⟩
    ·cases h
   ·cases h
  ·cases h
 ·cases h
theorem clear_ok (hcx:CxOk P cx) (h0:R0 P φ m w) {ts:Array TypeId} {ty:TypeId} {args:List Value} {args':Array Value} {v:Value} {m':Mem} (h:clearA cx m ts.toList args=some (v,m')) (ha:LR φ args args'.toList) :
  ∃ v' w',(Builtin.clear_ ts ty args').run P w = .ok v' w'∧VR φ v v'∧R0 P φ m' w'∧Stp φ m w φ m' w'∧m'.nx=m.nx:=by
 have tup:VR φ (.tuple #[]) (.tuple #[]):=.tuple _ _ rfl (LR.nil φ).2
 unfold clearA at h
 split at h
 ·rename_i t r a n cap hts
  obtain ⟨d',r1,e1,hd0,hr1⟩:=ha.uncons
  have:=hr1.nil_iff
  subst this
  have ea:args' = #[d']:=Array.ext' (by simpa using e1)
  subst ea
  have ht:ts[0]? = some t:=by rw [← Array.getElem?_toList,hts]; rfl
  split at h
  ·rename_i e hd
   have hu:=hcx.un _ _ hd
   split at h
   ·simp only [Option.some.injEq,Prod.mk.injEq] at h
    obtain ⟨rfl,rfl⟩:=h
    cases hd0
    exact ⟨_,w,by simp [Builtin.clear_,ht,run_underlying hu],tup,h0,Stp.refl _ _ _,rfl⟩
   ·simp only [Option.some.injEq,Prod.mk.injEq] at h
    obtain ⟨rfl,rfl⟩:=h
    refine ⟨.tuple #[],w,?_,tup,h0,Stp.refl _ _ _,rfl⟩
    cases hd0 <;> simp [Builtin.clear_,ht,run_underlying hu]
   ·rename_i a n
    split at h
    ·rename_i z hz
     obtain ⟨hzr,_⟩:=zeroT_ok hcx hz w
     obtain ⟨i,hi,hiz,hp⟩:=zeroT_info hcx hz
     split at h
     ·rename_i hpos
      have hpos':0 < (cellsL z).length:=Nat.le_of_ble_eq_true hpos
      split at h
      ·rename_i m1 hst
       simp only [Option.some.injEq,Prod.mk.injEq] at h
       obtain ⟨rfl,rfl⟩:=h
       cases hd0 with
       | sl b off _ _ cap' lc hb hc=>
        have hzl:LR φ (cellsL z) (cellsL z):=(VR.plain φ hp).cells
        obtain ⟨w1,g1,g2,g3,g4⟩:=storeL_ok h0 hst (.ptr b off lc hb) (hzl.rep (n+1))
        refine ⟨.tuple #[],w1,?_,tup,g2,g3,g4⟩
        have hzs:(cellsL z).length=z.cells.size:=by rw [← cells_toList]; simp
        have hzc:(Builtin.zeroCells z.cells (n+1)).toList=repL (cellsL z) (n+1):=by
         unfold Builtin.zeroCells
         rw [rep_eq z.cells (n+1) z.cells.size rfl (by omega),cells_toList]
        simp [Builtin.clear_,ht,run_underlying hu,hzr,hzc,g1]
      ·cases h
     ·cases h
    ·cases h
  ·cases h
 ·cases h
omit [Kap] in
theorem giveUp_sub {m m1:Mem} {base:Option Addr} {e s cap:Nat} (h:giveUp m base e s cap=some m1) :
  m1.nx=m.nx∧m1.fl=m.fl∧(∀ b o,m1.hp.get b=some o→m.hp.get b=some o)∧(∀ b,b < m.fl→m1.hp.get b=m.hp.get b):=by
 unfold giveUp at h
 split at h
 ·simp only [Option.some.injEq] at h; subst h; exact ⟨rfl,rfl,fun _ _ h=>h,fun _ _=>rfl⟩
 ·split at h
  ·simp only [Option.some.injEq] at h; subst h; exact ⟨rfl,rfl,fun _ _ h=>h,fun _ _=>rfl⟩
  split at h
  ·split at h
   ·simp only [Option.some.injEq] at h; subst h; exact ⟨rfl,rfl,fun _ _ h=>h,fun _ _=>rfl⟩
   ·split at h
    ·split at h
     ·split at h
      ·rename_i hfl
       have:=Nat.le_of_ble_eq_true hfl
       simp only [Option.some.injEq] at h; subst h
       refine ⟨rfl,rfl,fun b o hb=>?_,fun b hb=>?_⟩
       ·rw [Tr.get_del] at hb
        split at hb
        ·cases hb
        ·exact hb
       ·rw [Tr.get_del,if_neg (by omega)]
      ·cases h
     ·simp only [Option.some.injEq] at h; subst h; exact ⟨rfl,rfl,fun _ _ h=>h,fun _ _=>rfl⟩
    ·cases h
  ·cases h
omit [Kap] in
theorem giveUp_room (h0:R0 P φ m w) {m1:Mem} {b off e s cap cap':Nat} {l:Loc} {i:TypeInfo} (hi:P.info? e=some i) (his:i.size=s) (h:giveUp m (some ⟨b,off,none⟩) e s cap=some m1) (hb:φ b=some l) (hc:CapR l off cap cap') :
  cap'=cap∨(m1.hp.get b=none∧l.s=s∧0 < s∧off+cap*s=l.n∧cap≤cap'∧off+cap'*s≤l.re∧m.fl≤b∧∃ c':Array Value,w.heap[l.rb]? = some (.cells c' e (0,0))∧l.ro+l.re≤c'.size∧∃ o,m.hp.get b=some o):=by
 rcases hc with rfl | ⟨h1,h2,h3,h4⟩
 ·exact .inl rfl
 ·unfold giveUp at h
  dsimp only at h
  split at h
  ·rename_i c n e' loose hk
   obtain ⟨l0,hl0,c',hc',hn,hre,hsz,hcells,hx1,hx2⟩:=h0.obj _ _ hk
   rw [hb] at hl0; cases hl0
   split at h
   ·have:=(hx1 rfl).1; omega
   ·split at h
    ·rename_i he
     have he':=Nat.eq_of_beq_eq_true he
     subst he'
     have hls:l.s=s:=by rw [← his]; exact ((hx2 rfl).2 i hi).symm
     rw [hls] at h1 h2 h4
     split at h
     ·split at h
      ·rename_i hfl
       simp only [Option.some.injEq] at h; subst h
       right
       refine ⟨by rw [Tr.get_del,if_pos rfl],hls,h1,h2,h3,h4,Nat.le_of_ble_eq_true hfl,c',hc',hsz,_,hk⟩
      ·cases h
     ·rename_i hne
      have:=Tr.beq_false.1 hne
      omega
    ·cases h
  ·cases h
end Go.AX
