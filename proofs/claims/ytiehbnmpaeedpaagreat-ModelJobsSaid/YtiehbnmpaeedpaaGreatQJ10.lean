import Derived.Test.YtiehbnmpaeedpaaGreatQJ04
namespace Go.AX
variable {P:Program} {cx:Cx} {φ : Phi} {m:Mem} {w:World}
def TR (φ : Phi) (st:St) (a:Act):Prop:=
 a.tmps.size=st.sz∧a.defers=[]∧∀ (t:Nat) (v:Value),st.tm.get t=some v→VR φ v (a.tmps.getD t undef)
theorem eval_ok (hcx:CxOk P cx) (hg:∀ g,g≤P.globals.size→∃ l,φ g=some l∧l.rb=g∧l.ro=0) {st:St} {a:Act} (ht:TR φ st a) {x:Operand} {v:Value} (h:evalA cx st x=some v):VR φ v (a.eval x):=by
 cases x with
 | tmp t=>exact ht.2.2 t v h
 | const c=>
  simp only [evalA] at h
  split at h
  ·rename_i hp; cases h; exact VR.plain φ hp
  ·cases h
 | global g=>
  simp only [evalA] at h
  split at h
  ·rename_i hp
   cases h
   have hlt:g < P.globals.size:=by rw [← hcx.gl]; exact Nat.le_of_ble_eq_true hp
   obtain ⟨l,h1,h2,h3⟩:=hg g (Nat.le_of_lt hlt)
   have:=VR.ptr (φ:=φ) g 0 l h1
   rw [h2,h3] at this
   exact this
  ·cases h
 | func f=>
  simp only [evalA] at h; cases h
  exact .func _ _ _ _ _ rfl (fun i v v' h1=>by simp at h1) rfl (fun i v v' h1=>by simp at h1)
theorem evalL_ok (hcx:CxOk P cx) (hg:∀ g,g≤P.globals.size→∃ l,φ g=some l∧l.rb=g∧l.ro=0) {st:St} {a:Act} (ht:TR φ st a):∀ {xs:List Operand} {l:List Value},evalL cx st xs=some l→LR φ l (xs.map a.eval)
 | [],l,h=>by simp only [evalL] at h; cases h; exact LR.nil φ
 | x :: r,l,h=>by
  simp only [evalL] at h
  split at h
  ·rename_i v hv
   split at h
   ·rename_i l0 hl
    cases h
    exact (evalL_ok hcx hg ht hl).cons (eval_ok hcx hg ht hv)
   ·cases h
  ·cases h
theorem run_isAgg {t:TypeId} {d:TypeDesc} (h:P.underlying t=some d) (w:World):(isAgg t).run P w = .ok (isAggD d) w:=by
 simp only [isAgg,Sem.run_bind,run_underlying h,Result.andThen_ok]
 cases d <;> rfl
theorem run_size {t:TypeId} {i:TypeInfo} (h:P.info? t=some i) (w:World):(sizeOf t).run P w = .ok i.size w:=by
 simp [sizeOf,typeInfo,h]
theorem run_info {t:TypeId} {i:TypeInfo} (h:P.info? t=some i) (w:World):(typeInfo t).run P w = .ok i w:=by
 simp [typeInfo,h]
theorem sizeT_ok (hcx:CxOk P cx) {t:TypeId} {n:Nat} (h:sizeT cx t=some n):∃ i,P.info? t=some i∧i.size=n:=by
 simp only [sizeT] at h
 split at h
 ·rename_i i hi; cases h; exact ⟨i,hcx.ty _ _ hi,rfl⟩
 ·cases h
theorem zeroT_ok (hcx:CxOk P cx) {t:TypeId} {z:Value} (h:zeroT cx t=some z) (w:World):(zeroValue t).run P w = .ok z w∧plainV z=true:=by
 simp only [zeroT] at h
 split at h
 ·rename_i i hi
  split at h
  ·rename_i y hy
   split at h
   ·rename_i hp
    cases h
    exact ⟨by simp [zeroValue,typeInfo,hcx.ty _ _ hi,hy],hp⟩
   ·cases h
  ·cases h
 ·cases h
theorem readL_ok:∀ (n i:Nat) (c:Tr Value) (l:List Value),readL c n i=some l→l.length=n∧∀ j,j < n→c.get (i+j)=l[j]?
 | 0,i,c,l,h=>by simp only [readL] at h; cases h; exact ⟨rfl,fun j hj=>by omega⟩
 | n+1,i,c,l,h=>by
  simp only [readL] at h
  split at h
  ·rename_i v hv
   split at h
   ·rename_i l0 hl
    cases h
    obtain ⟨h1,h2⟩:=readL_ok n (i+1) c l0 hl
    refine ⟨by simp [h1],fun j hj=>?_⟩
    cases j with
    | zero=>simpa using hv
    | succ j=>
     have:=h2 j (by omega)
     rw [show i+(j+1)=i+1+j by omega,this]; simp
   ·cases h
  ·cases h
theorem add_none (b o n:Nat):(⟨b,o,none⟩:Addr).add n=⟨b,o+n,none⟩:=by
 unfold Addr.add; split <;> simp_all
theorem row_ok (h0:R0 P φ m w) {a:Addr} {a':Addr} {n:Nat} {l:List Value} (h:rowAtL m a n=some l) (ha:VR φ (.pointer (some a)) (.pointer (some a'))) :
  a'.spot=none∧∃ l',LR φ l l'∧l.length=n∧∀ (j:Nat) (v:Value),l'[j]? = some v→w.cell? (a'.add j)=some v:=by
 cases ha with
 | ptr b off lc hb=>
  refine ⟨rfl,?_⟩
  simp only [rowAtL] at h
  split at h
  ·rename_i c k e x hk
   split at h
   ·rename_i hle
    obtain ⟨l0,hl0,c',hc',hn,hre,hsz,hcells,hx1,hx2⟩:=h0.obj _ _ hk
    rw [hb] at hl0; cases hl0
    obtain ⟨r1,r2⟩:=readL_ok _ _ _ _ h
    have hle':off+n≤k:=Nat.le_of_ble_eq_true hle
    refine ⟨(c'.toList.drop (lc.ro+off)).take n,⟨?_,?_⟩,r1,?_⟩
    ·rw [r1,List.length_take,List.length_drop]; simp; omega
    ·intro i v v' h1 h2
     have hi:i < n:=by rw [← r1]; exact (List.getElem?_eq_some_iff.1 h1).1
     have e1:=r2 i hi
     rw [h1] at e1
     obtain ⟨u',g2,g3⟩:=hcells (off+i) (by omega)
     have g3:=g3 _ e1
     rw [List.getElem?_take,if_pos hi,List.getElem?_drop] at h2
     rw [show lc.ro+(off+i)=lc.ro+off+i by omega,← Array.getElem?_toList,h2] at g2
     cases g2; exact g3
    ·intro j v h1
     rw [List.getElem?_take] at h1
     split at h1
     ·rw [List.getElem?_drop,Array.getElem?_toList] at h1
      rw [add_none]
      simp [World.cell?,hc',h1]
     ·cases h1
   ·cases h
  ·rename_i c k hk
   split at h
   ·rename_i hle
    obtain ⟨l0,hl0,c',e,fr,hc',hn,hs0,hsz,hcells⟩:=h0.obj _ _ hk
    rw [hb] at hl0; cases hl0
    obtain ⟨r1,r2⟩:=readL_ok _ _ _ _ h
    have hle':off+n≤k:=Nat.le_of_ble_eq_true hle
    refine ⟨(c'.toList.drop (lc.ro+off)).take n,⟨?_,?_⟩,r1,?_⟩
    ·rw [r1,List.length_take,List.length_drop]; simp; omega
    ·intro i v v' h1 h2
     have hi:i < n:=by rw [← r1]; exact (List.getElem?_eq_some_iff.1 h1).1
     have e1:=r2 i hi
     rw [h1] at e1
     obtain ⟨u',g2,g3⟩:=hcells (off+i) v (by omega) e1
     rw [List.getElem?_take,if_pos hi,List.getElem?_drop] at h2
     rw [show lc.ro+(off+i)=lc.ro+off+i by omega,← Array.getElem?_toList,h2] at g2
     cases g2; exact g3
    ·intro j v h1
     rw [List.getElem?_take] at h1
     split at h1
     ·rw [List.getElem?_drop,Array.getElem?_toList] at h1
      rw [add_none]
      simp [World.cell?,hc',h1]
     ·cases h1
   ·cases h
  ·cases h
theorem loadT_ok (hcx:CxOk P cx) (h0:R0 P φ m w) {t:TypeId} {a:Addr} {v:Value} {x:Value} (h:loadT cx m t a=some v) (ha:VR φ (.pointer (some a)) x) :
  ∃ v',(Instr.loadAt t x).run P w = .ok v' w∧VR φ v v':=by
 obtain ⟨a',rfl⟩:∃ a',x = .pointer (some a'):=by cases ha; exact ⟨_,rfl⟩
 simp only [loadT] at h
 split at h
 ·rename_i d n hd hn
  obtain ⟨i,hi,rfl⟩:=sizeT_ok hcx hn
  have hu:=hcx.un _ _ hd
  split at h
  ·rename_i hag
   split at h
   ·rename_i l hl
    cases h
    obtain ⟨hs,l',hlr,hlen,hc⟩:=row_ok h0 hl ha
    have hrun:=run_loadCells_list (P:=P) w a' l' hc
    refine ⟨.agg l'.toArray,?_,.agg _ _ (by simpa using hlr.1) (by simpa using hlr.2)⟩
    simp only [Instr.loadAt,Instr.sureAddr,loadVar,Sem.run_bind,Sem.run_pure,Result.andThen_ok,run_isAgg hu,hag,if_true,run_size hi]
    rw [← hlen,hlr.1]
    simp [hrun]
   ·cases h
  ·rename_i hag
   split at h
   ·rename_i u hl
    cases h
    obtain ⟨hs,l',hlr,hlen,hc⟩:=row_ok h0 hl ha
    obtain ⟨v',r',rfl,hv,hr⟩:=hlr.uncons
    refine ⟨v',?_,hv⟩
    have hc0:w.cell? a'=some v':=by
     have:=hc 0 v' rfl
     simpa [Addr.add] using this
    simp [Instr.loadAt,Instr.sureAddr,loadVar,run_isAgg hu,hag,load,Sem.run,hc0]
   ·cases h
 ·cases h
end Go.AX
