import Derived.Test.YtiehbnmpaeedpaaGreatQJ14
set_option linter.unusedSimpArgs false
set_option linter.unusedVariables false
set_option linter.unusedSectionVars false
namespace Go.AX
variable [Kap]
variable {P:Program} {cx:Cx} {φ : Phi} {m:Mem} {w:World}
omit [Kap] in
theorem grow_le (need:Nat):∀ (k c:Nat),c≤2*need+192→Builtin.growBy need k c≤2*need+192
 | 0,c,h=>h
 | k+1,c,h=>by
  simp only [Builtin.growBy]
  split
  ·exact h
  ·exact grow_le need k _ (by omega)
omit [Kap] in
theorem next_le {need c:Nat} (h:c < need):Builtin.nextslicecap need c≤2*need+192:=by
 unfold Builtin.nextslicecap
 split
 ·omega
 ·split
  ·omega
  ·exact grow_le _ _ _ (by omega)
omit [Kap] in
theorem lenV_ok {x x':Value} {n:Nat} (h:lenV x=some n) (hx:VR φ x x'):(Builtin.lenOf x').run P w = .ok n w:=by
 cases hx <;> simp only [lenV,Option.some.injEq,reduceCtorEq] at h <;> subst h <;> simp [Builtin.lenOf] <;> rfl
omit [Kap] in
theorem firstL_ok (h0:R0 P φ m w) {s n k:Nat} {x x':Value} {l:List Value} (h:firstL m s n x=some l) (hx:VR φ x x') (hk:lenV x=some k) (hn:n≤k) :
  ∃ l',(Builtin.firstCells s n x').run P w = .ok l'.toArray w∧LR φ l l':=by
 cases hx with
 | sl b off len cap cap' lc hb hc=>
  simp only [firstL] at h
  split at h
  ·cases h
   exact ⟨[],by simp [Builtin.firstCells,loadCells,loadCellsFrom],LR.nil φ⟩
  ·obtain ⟨_,l',hlr,hlen,hcl⟩:=row_ok h0 h (.ptr b off lc hb)
   have hrun:=run_loadCells_list (P:=P) w _ l' hcl
   refine ⟨l',?_,hlr⟩
   simp only [Builtin.firstCells]
   rw [← hlen,hlr.1]
   simpa using hrun
 | slE a a'=>
  simp only [lenV,Option.some.injEq] at hk
  obtain rfl:n=0:=by omega
  simp only [firstL,Option.some.injEq] at h
  subst h
  exact ⟨[],by simp [Builtin.firstCells,loadCells,loadCellsFrom],LR.nil φ⟩
 | sl0 len cap=>
  simp only [firstL,Option.some.injEq] at h; subst h
  exact ⟨[],by simp [Builtin.firstCells],LR.nil φ⟩
 | string z=>
  simp only [firstL,Option.some.injEq] at h; subst h
  refine ⟨(z.data.toList.take n).map fun b=>.int .u8 b.toNat,?_,?_⟩
  ·simp only [Builtin.firstCells,Sem.run_pure]
   congr 1
   apply Array.ext'
   have:z.extract 0 n=⟨((z.data.toList.drop 0).take (n - 0)).toArray⟩:=by rw [← ByteArray.extract_mk]
   rw [this]
   simp
  ·refine ⟨rfl,fun i v v' h1 h2=>?_⟩
   rw [h1] at h2; cases h2
   simp only [List.getElem?_map,Option.map_eq_some_iff] at h1
   obtain ⟨b,_,rfl⟩:=h1
   exact .int _ _
 | _=>simp [firstL] at h
theorem copy_ok (hcx:CxOk P cx) (h0:R0 P φ m w) {ts:Array TypeId} {ty:TypeId} {args:List Value} {args':Array Value} {v:Value} {m':Mem} (h:copyA cx m ts.toList args=some (v,m')) (ha:LR φ args args'.toList) :
  ∃ v' w',(Builtin.copy_ ts ty args').run P w = .ok v' w'∧VR φ v v'∧R0 P φ m' w'∧Stp φ m w φ m' w'∧m'.nx=m.nx:=by
 unfold copyA at h
 split at h
 ·rename_i t r base dl cap src hts
  obtain ⟨d',r1,e1,hd0,hr1⟩:=ha.uncons
  obtain ⟨s',r2,e2,hs0,hr2⟩:=hr1.uncons
  have:=hr2.nil_iff
  subst this; subst e2
  have ea:args' = #[d',s']:=Array.ext' (by simpa using e1)
  subst ea
  have ht:ts[0]? = some t:=by rw [← Array.getElem?_toList,hts]; rfl
  split at h
  ·rename_i e hd
   have hu:=hcx.un _ _ hd
   split at h
   ·rename_i s n hs hn
    obtain ⟨i,hi,rfl⟩:=sizeT_ok hcx hs
    have hlen:=lenV_ok (P:=P) (w:=w) hn hs0
    split at h
    ·rename_i l hl
     obtain ⟨l',hf,hlr⟩:=firstL_ok h0 hl hs0 hn (Nat.min_le_left _ _)
     have hmin:Nat.min n dl=min n dl:=rfl
     have done:∀ (b':Option Addr) (c':Nat) (w1:World) ,(match b' with | some a=>storeCells a l' | none=>pure ()).run P w = .ok () w1 →
       (Builtin.copy_ ts ty #[.slice b' dl c',s']).run P w = .ok (.int .i64 (min n dl:Nat)) w1:=by
      intro b' c' w1 hst
      cases b' with
      | none=>
       have hst':w1=w:=by simpa using hst.symm
       subst hst'
       simp [Builtin.copy_,ht,run_underlying hu,hlen,hmin,hf,run_size hi,goInt]
      | some a=>
       have hst':(storeCells a l').run P w = .ok () w1:=hst
       simp [Builtin.copy_,ht,run_underlying hu,hlen,hmin,hf,run_size hi,hst',goInt]
     split at h
     ·rename_i a
      split at h
      ·
       simp only [Option.some.injEq,Prod.mk.injEq] at h
       obtain ⟨rfl,rfl⟩:=h
       have:=hlr.nil_iff
       subst this
       cases hd0 with
       | sl b off _ _ cap' lc hb hc=>exact ⟨_,w,done _ _ w (by simp [storeCells]),.int _ _,h0,Stp.refl _ _ _,rfl⟩
       | slE a a'=>exact ⟨_,w,done _ _ w (by simp [storeCells]),.int _ _,h0,Stp.refl _ _ _,rfl⟩
      ·rename_i hne
       split at h
       ·rename_i m1 hst
        simp only [Option.some.injEq,Prod.mk.injEq] at h
        obtain ⟨rfl,rfl⟩:=h
        cases hd0 with
        | sl b off _ _ cap' lc hb hc=>
         obtain ⟨w1,g1,g2,g3,g4⟩:=storeL_ok h0 hst (.ptr b off lc hb) hlr
         exact ⟨_,w1,done _ _ w1 g1,.int _ _,g2,g3,g4⟩
        | slE a a'=>
         exfalso
         rw [show min n 0=0 by omega] at hl
         cases hs0 with
         | sl b off len cap cap' lc hb hc=>simp only [firstL,Option.some.injEq] at hl; exact hne hl.symm
         | slE a a'=>simp only [firstL,Option.some.injEq] at hl; exact hne hl.symm
         | sl0 len cap=>simp only [firstL,Option.some.injEq] at hl; exact hne hl.symm
         | string z=>simp only [firstL,Option.some.injEq,List.take_zero,List.map_nil] at hl; exact hne hl.symm
         | _=>simp [firstL] at hl
       ·cases h
     ·simp only [Option.some.injEq,Prod.mk.injEq] at h
      obtain ⟨rfl,rfl⟩:=h
      cases hd0
      exact ⟨_,w,done none _ w rfl,.int _ _,h0,Stp.refl _ _ _,rfl⟩
    ·cases h
   ·cases h
  ·cases h
 ·cases h
theorem clear_ok (hcx:CxOk P cx) (h0:R0 P φ m w) {ts:Array TypeId} {ty:TypeId} {args:List Value} {args':Array Value} {v:Value} {m':Mem} (h:clearA cx m ts.toList args=some (v,m')) (ha:LR φ args args'.toList) :
  ∃ v' w',(Builtin.clear_ ts ty args').run P w = .ok v' w'∧VR φ v v'∧R0 P φ m' w'∧Stp φ m w φ m' w'∧m'.nx=m.nx:=by
 have tup:VR φ (.tuple #[]) (.tuple #[]):=.tuple _ _ rfl (LR.nil φ).2
 unfold clearA at h
 split at h
 ·rename_i t r a n cap hts
  obtain ⟨d',r1,e1,hd0,hr1⟩:=ha.uncons
  have:=hr1.nil_iff
  subst this
  have ea:args' = #[d']:=Array.ext' (by simpa using e1)
  subst ea
  have ht:ts[0]? = some t:=by rw [← Array.getElem?_toList,hts]; rfl
  split at h
  ·rename_i e hd
   have hu:=hcx.un _ _ hd
   split at h
   ·simp only [Option.some.injEq,Prod.mk.injEq] at h
    obtain ⟨rfl,rfl⟩:=h
    cases hd0
    exact ⟨_,w,by simp [Builtin.clear_,ht,run_underlying hu],tup,h0,Stp.refl _ _ _,rfl⟩
   ·simp only [Option.some.injEq,Prod.mk.injEq] at h
    obtain ⟨rfl,rfl⟩:=h
    refine ⟨.tuple #[],w,?_,tup,h0,Stp.refl _ _ _,rfl⟩
    cases hd0 <;> simp [Builtin.clear_,ht,run_underlying hu]
   ·rename_i a n
    split at h
    ·rename_i z hz
     obtain ⟨hzr,_⟩:=zeroT_ok hcx hz w
     obtain ⟨i,hi,hiz,hp⟩:=zeroT_info hcx hz
     split at h
     ·rename_i hpos
      have hpos':0 < (cellsL z).length:=Nat.le_of_ble_eq_true hpos
      split at h
      ·rename_i m1 hst
       simp only [Option.some.injEq,Prod.mk.injEq] at h
       obtain ⟨rfl,rfl⟩:=h
       cases hd0 with
       | sl b off _ _ cap' lc hb hc=>
        have hzl:LR φ (cellsL z) (cellsL z):=(VR.plain φ hp).cells
        obtain ⟨w1,g1,g2,g3,g4⟩:=storeL_ok h0 hst (.ptr b off lc hb) (hzl.rep (n+1))
        refine ⟨.tuple #[],w1,?_,tup,g2,g3,g4⟩
        have hzs:(cellsL z).length=z.cells.size:=by rw [← cells_toList]; simp
        have hzc:(Builtin.zeroCells z.cells (n+1)).toList=repL (cellsL z) (n+1):=by
         unfold Builtin.zeroCells
         rw [rep_eq z.cells (n+1) z.cells.size rfl (by omega),cells_toList]
        simp [Builtin.clear_,ht,run_underlying hu,hzr,hzc,g1]
      ·cases h
     ·cases h
    ·cases h
  ·cases h
 ·cases h
omit [Kap] in
theorem giveUp_sub {m m1:Mem} {base:Option Addr} {e s cap:Nat} (h:giveUp m base e s cap=some m1) :
  m1.nx=m.nx∧m1.fl=m.fl∧(∀ b o,m1.hp.get b=some o→m.hp.get b=some o)∧(∀ b,b < m.fl→m1.hp.get b=m.hp.get b):=by
 unfold giveUp at h
 split at h
 ·simp only [Option.some.injEq] at h; subst h; exact ⟨rfl,rfl,fun _ _ h=>h,fun _ _=>rfl⟩
 ·split at h
  ·simp only [Option.some.injEq] at h; subst h; exact ⟨rfl,rfl,fun _ _ h=>h,fun _ _=>rfl⟩
  split at h
  ·split at h
   ·simp only [Option.some.injEq] at h; subst h; exact ⟨rfl,rfl,fun _ _ h=>h,fun _ _=>rfl⟩
   ·split at h
    ·split at h
     ·split at h
      ·rename_i hfl
       have:=Nat.le_of_ble_eq_true hfl
       simp only [Option.some.injEq] at h; subst h
       refine ⟨rfl,rfl,fun b o hb=>?_,fun b hb=>?_⟩
       ·rw [Tr.get_del] at hb
        split at hb
        ·cases hb
        ·exact hb
       ·rw [Tr.get_del,if_neg (by omega)]
      ·cases h
     ·simp only [Option.some.injEq] at h; subst h; exact ⟨rfl,rfl,fun _ _ h=>h,fun _ _=>rfl⟩
    ·cases h
  ·cases h
omit [Kap] in
theorem giveUp_room (h0:R0 P φ m w) {m1:Mem} {b off e s cap cap':Nat} {l:Loc} {i:TypeInfo} (hi:P.info? e=some i) (his:i.size=s) (h:giveUp m (some ⟨b,off,none⟩) e s cap=some m1) (hb:φ b=some l) (hc:CapR l off cap cap') :
  cap'=cap∨(m1.hp.get b=none∧l.s=s∧0 < s∧off+cap*s=l.n∧cap≤cap'∧off+cap'*s≤l.re∧m.fl≤b∧∃ c':Array Value,w.heap[l.rb]? = some (.cells c' e (0,0))∧l.ro+l.re≤c'.size∧∃ o,m.hp.get b=some o):=by
 rcases hc with rfl | ⟨h1,h2,h3,h4⟩
 ·exact .inl rfl
 ·unfold giveUp at h
  dsimp only at h
  split at h
  ·rename_i c n e' loose hk
   obtain ⟨l0,hl0,c',hc',hn,hre,hsz,hcells,hx1,hx2⟩:=h0.obj _ _ hk
   rw [hb] at hl0; cases hl0
   split at h
   ·have:=(hx1 rfl).1; omega
   ·split at h
    ·rename_i he
     have he':=Nat.eq_of_beq_eq_true he
     subst he'
     have hls:l.s=s:=by rw [← his]; exact ((hx2 rfl).2 i hi).symm
     rw [hls] at h1 h2 h4
     split at h
     ·split at h
      ·rename_i hfl
       simp only [Option.some.injEq] at h; subst h
       right
       refine ⟨by rw [Tr.get_del,if_pos rfl],hls,h1,h2,h3,h4,Nat.le_of_ble_eq_true hfl,c',hc',hsz,_,hk⟩
      ·cases h
     ·rename_i hne
      have:=Tr.beq_false.1 hne
      omega
    ·cases h
  ·cases h
end Go.AX
namespace Go.AX
variable [Kap]
variable {P:Program} {cx:Cx} {φ : Phi} {m:Mem} {w:World}
omit [Kap] in
set_option maxHeartbeats 1000000 in
theorem run_append_grow {ts:Array TypeId} {ty t tx e:TypeId} {ux:TypeDesc} {i:TypeInfo} {z x':Value} {b':Option Addr} {len cap' n:Nat} {old' new':Array Value}
  (h0:ts[0]? = some t) (h1:ts[1]? = some tx) (hu:P.underlying t=some (.slice e)) (hux:P.underlying tx=some ux) (hni:isRowD ux=true) (hi:P.info? e=some i)
  (hz:(zeroValue e).run P w.drew = .ok z w.drew)
  (hlen:(Builtin.lenOf x').run P w = .ok n w) (hold:(Builtin.firstCells i.size len (.slice b' len cap')).run P w.drew = .ok old' w.drew)
  (hnew:(Builtin.firstCells i.size n x').run P w.drew = .ok new' w.drew)
  (hgt:¬ len+n≤cap') (hbig:Builtin.nextslicecap (len+n) cap'*i.bytes≤281474976710656) (hsm:len+n≤1099511627776) :
  ∃ nc,len+n≤nc∧(Builtin.append_ ts ty #[.slice b' len cap',x']).run P w =
   .ok (.slice (some ⟨w.heap.size,0,none⟩) (len+n) nc) (w.drew.alloc (.cells (old' ++ (new' ++ Builtin.zeroCells z.cells (nc - (len+n)))) e)):=by
 refine ⟨(Question.appendCap (len+n) cap' e).cut (w.tape w.drawn (.appendCap (len+n) cap' e)),by simp [Question.cut],?_⟩
 have hf:(Question.appendCap (len+n) cap' e).forced=false:=rfl
 have hm1:¬ (9223372036854775807 < (len:Int)+n∧i.bytes=0):=by omega
 have hm2:¬ 281474976710656 < Builtin.nextslicecap (len+n) cap'*i.bytes:=by omega
 have hsz:w.drew.heap.size=w.heap.size:=rfl
 cases ux <;> first
  | (simp [isRowD] at hni; done)
  | simp [Builtin.append_,h0,h1,run_underlying hu,run_underlying hux,run_size hi,run_info hi,hlen,hgt,hm1,hm2,hf,hold,hnew,hz,newRow]
omit [Kap] in
set_option maxHeartbeats 1000000 in
theorem run_append_fits {ts:Array TypeId} {ty t tx e:TypeId} {ux:TypeDesc} {i:TypeInfo} {x':Value} {b':Option Addr} {len cap' n:Nat} {new':List Value} {w':World}
  (h0:ts[0]? = some t) (h1:ts[1]? = some tx) (hu:P.underlying t=some (.slice e)) (hux:P.underlying tx=some ux) (hni:isRowD ux=true) (hi:P.info? e=some i)
  (hlen:(Builtin.lenOf x').run P w = .ok n w)
  (hnew:(Builtin.firstCells i.size n x').run P w = .ok new'.toArray w)
  (hle:len+n≤cap') (hst:match b' with | some a=>(storeCells (a.add (len*i.size)) new').run P w = .ok () w' | none=>w'=w) :
  (Builtin.append_ ts ty #[.slice b' len cap',x']).run P w = .ok (.slice b' (len+n) cap') w':=by
 cases b' with
 | none=>
  subst hst
  cases ux <;> first
   | (simp [isRowD] at hni; done)
   | simp [Builtin.append_,h0,h1,run_underlying hu,run_underlying hux,run_size hi,hlen,hle,hnew]
 | some a=>
  dsimp only at hst
  cases ux <;> first
   | (simp [isRowD] at hni; done)
   | simp [Builtin.append_,h0,h1,run_underlying hu,run_underlying hux,run_size hi,hlen,hle,hnew,hst]
omit [Kap] in
theorem first_cells (h0:R0 P φ m w) {s len n c b off:Nat} {lc:Loc} {old:List Value} (h:firstL m s len (.slice (some ⟨b,off,none⟩) n c)=some old) (hb:φ b=some lc) :
  ∃ old',LR φ old old'∧∀ (j:Nat) (v:Value),old'[j]? = some v→w.cell? ((⟨lc.rb,lc.ro+off,none⟩:Addr).add j)=some v:=by
 simp only [firstL] at h
 split at h
 ·cases h; exact ⟨[],LR.nil φ,fun j v h=>by simp at h⟩
 ·obtain ⟨_,l',h1,_,h2⟩:=row_ok h0 h (.ptr b off lc hb)
  exact ⟨l',h1,h2⟩
theorem reuse_ok (h0:R0 P φ m w) {m1:Mem} (hs:∀ b o,m1.hp.get b=some o→m.hp.get b=some o) (_hn:m1.nx=m.nx) (_hf:m1.fl=m.fl) (hlow:∀ b,b < m.fl→m1.hp.get b=m.hp.get b)
  {b:Nat} {lb l:Loc} {o0 o:AObj} {w':World} (hb:m.hp.get b=some o0) (hlb:φ b=some lb) (hgone:m1.hp.get b=none) (hrb:l.rb=lb.rb) (hid:φ m.nx=none) (hfl:m.fl≤m.nx)
  (hw:∀ r,r≠lb.rb→w'.heap[r]? = w.heap[r]?) (hsz:w'.heap.size=w.heap.size) (q1:w'.os=w.os) (q2:w'.tape=w.tape) (q3:w'.output=w.output) (q4:w.drawn≤w'.drawn)
  (ho:OR P (Phi.put φ m.nx l) w' l o) :
  R0 P (Phi.put φ m.nx l) { hp:=m1.hp.put m.nx o,nx:=m.nx+1,fl:=m.fl } w'∧Stp φ m w (Phi.put φ m.nx l) { hp:=m1.hp.put m.nx o,nx:=m.nx+1,fl:=m.fl } w':=by
 have hext:=Phi.put_ext (l:=l) hid
 have hfb:m.fl≤b:=by
  rcases Nat.lt_or_ge b m.fl with q | q
  ·have:=hlow b q
   rw [hgone,hb] at this; cases this
  ·exact q
 have key:∀ b' o' l',b'≠m.nx→m1.hp.get b'=some o'→Phi.put φ m.nx l b'=some l'→φ b'=some l'∧m.hp.get b'=some o'∧l'.rb≠lb.rb:=by
  intro b' o' l' hne hg hp
  have hp':φ b'=some l':=by simpa [Phi.put,hne] using hp
  refine ⟨hp',hs _ _ hg,fun e=>?_⟩
  have:=h0.inj _ _ _ _ _ _ (hs _ _ hg) hb hp' hlb e
  subst this
  rw [hgone] at hg; cases hg
 refine ⟨⟨?_,?_,?_⟩,⟨hext,?_,?_,by omega,q1,q2,q3,by simp,rfl,?_,?_,?_,fun _=>q4⟩⟩
 ·intro b' o' hb'
  rw [Tr.get_put] at hb'
  by_cases e:b'=m.nx
  ·subst e
   rw [if_pos rfl] at hb'; cases hb'
   exact ⟨l,Phi.put_self,ho⟩
  ·rw [if_neg e] at hb'
   obtain ⟨l',hl',ho'⟩:=h0.obj _ _ (hs _ _ hb')
   obtain ⟨_,_,hne⟩:=key _ _ _ e hb' (hext _ _ hl')
   exact ⟨l',hext _ _ hl',ho'.mono hext (hw _ hne)⟩
 ·intro b1 b2 o1 o2 l1 l2 g1 g2 p1 p2 hr
  rw [Tr.get_put] at g1 g2
  by_cases e1:b1=m.nx
  ·by_cases e2:b2=m.nx
   ·rw [e1,e2]
   ·rw [if_neg e2] at g2
    obtain ⟨_,_,hne⟩:=key _ _ _ e2 g2 p2
    subst e1; rw [Phi.put_self] at p1; cases p1
    exact absurd (by rw [← hr,hrb]) hne
  ·rw [if_neg e1] at g1
   obtain ⟨a1,a2,hne⟩:=key _ _ _ e1 g1 p1
   by_cases e2:b2=m.nx
   ·subst e2; rw [Phi.put_self] at p2; cases p2
    exact absurd (by rw [hr,hrb]) hne
   ·rw [if_neg e2] at g2
    obtain ⟨a3,a4,_⟩:=key _ _ _ e2 g2 p2
    exact h0.inj _ _ _ _ _ _ a2 a4 a1 a3 hr
 ·intro g hg
  obtain ⟨l',h1,h2⟩:=h0.glob g hg
  exact ⟨l',hext _ _ h1,h2⟩
 ·rintro r ⟨b',o',l',hfb',hb',hp,hr⟩
  dsimp only at hb' hfb'
  rw [Tr.get_put] at hb'
  by_cases e:b'=m.nx
  ·subst e; rw [Phi.put_self] at hp; cases hp
   exact .inr ⟨b,_,lb,hfb,hb,hlb,by rw [← hr,hrb]⟩
  ·rw [if_neg e] at hb'
   obtain ⟨a1,a2,_⟩:=key _ _ _ e hb' hp
   exact .inr ⟨b',o',l',hfb',a2,a1,hr⟩
 ·intro r hr hn'
  exact hw r (fun e=>hn' ⟨b,_,lb,hfb,hb,hlb,e.symm⟩)
 ·intro b' hb'
  rw [Tr.get_put,if_neg (by omega)]
  exact hlow _ hb'
 ·intro b' hb' hnn
  rw [Tr.get_put,if_neg (by omega)]
  cases hg:m1.hp.get b' with
  | none=>rfl
  | some o=>rw [hs _ _ hg] at hnn; cases hnn
 ·intro b' hb'
  simp only [Phi.put]
  rw [if_neg (by omega)]
theorem Stp.world {φ':Phi} {m':Mem} {w1 w2:World} (h:Stp φ m w φ' m' w1) (e:w2.heap=w1.heap) (h1:w2.os=w1.os) (h2:w2.tape=w1.tape) (h3:w2.output=w1.output) (h4:w1.drawn≤w2.drawn):Stp φ m w φ' m' w2:=
 ⟨h.ext,h.own,fun r hr hn=>by rw [e]; exact h.same r hr hn,by rw [e]; exact h.size,h1.trans h.os,h2.trans h.tape,h3.trans h.output,h.nx,h.fl,h.low,h.old,h.keep,fun hk=>Nat.le_trans (h.drawn hk) h4⟩
set_option maxHeartbeats 1000000 in
theorem appendT_ok (hcx:CxOk P cx) (hr:RR P φ m w) {ts:Array TypeId} {ty e:TypeId} {i:TypeInfo} {s' x' v:Value} {base:Option Addr} {len cap n:Nat} {new new':List Value} {m':Mem} (hi:P.info? e=some i)
  (h:appendT cx m e i base len cap n new=some (v,m')) (hsv:VR φ (.slice base len cap) s') (hlr:LR φ new new')
  (fits:∀ {b':Option Addr} {cap':Nat} {w':World},len+n≤cap'→(match b' with | some a=>(storeCells (a.add (len*i.size)) new').run P w = .ok () w' | none=>w'=w)→(Builtin.append_ ts ty #[.slice b' len cap',x']).run P w = .ok (.slice b' (len+n) cap') w')
  (grows:∀ {z:Value} {b':Option Addr} {cap':Nat} {old':Array Value},(zeroValue e).run P w.drew = .ok z w.drew→(Builtin.firstCells i.size len (.slice b' len cap')).run P w.drew = .ok old' w.drew→¬ len+n≤cap'→Builtin.nextslicecap (len+n) cap'*i.bytes≤281474976710656→len+n≤1099511627776 →
   ∃ nc,len+n≤nc∧(Builtin.append_ ts ty #[.slice b' len cap',x']).run P w = .ok (.slice (some ⟨w.heap.size,0,none⟩) (len+n) nc) (w.drew.alloc (.cells (old' ++ (new'.toArray ++ Builtin.zeroCells z.cells (nc - (len+n)))) e))) :
  ∃ v' w' φ',(Builtin.append_ ts ty #[s',x']).run P w = .ok v' w'∧VR φ' v v'∧RR P φ' m' w'∧Stp φ m w φ' m' w':=by
 have h0:=hr.r0
 unfold appendT at h
 split at h
 ·cases h
 ·rename_i hc
  simp only [Bool.and_eq_true] at hc
  have c1:new.length=n*i.size:=Nat.eq_of_beq_eq_true hc.1.1
  have c2:0 < i.size:=Nat.le_of_ble_eq_true hc.1.2
  have c0:=hc.2
  split at h
  ·
   rename_i hle
   have hle':len+n≤cap:=Nat.le_of_ble_eq_true hle
   split at h
   ·rename_i a
    split at h
    ·
     simp only [Option.some.injEq,Prod.mk.injEq] at h
     obtain ⟨rfl,rfl⟩:=h
     have hn0:=hlr.nil_iff
     subst hn0
     have hnz:n=0:=by
      simp only [List.length_nil] at c1
      rcases Nat.mul_eq_zero.1 c1.symm with q | q
      ·exact q
      ·omega
     subst hnz
     cases hsv with
     | sl b off _ _ cap' lc hb hcr=>
      have hcc:cap≤cap':=by
       rcases hcr with rfl | ⟨_,_,h3,_⟩
       ·exact Nat.le_refl _
       ·exact h3
      exact ⟨_,w,φ,fits (by omega) (by simp [storeCells]),.sl _ _ _ _ _ _ hb hcr,hr,Stp.refl _ _ _⟩
     | slE a a'=>
      exact ⟨_,w,φ,fits (by omega) (by simp [storeCells]),.slE _ _,hr,Stp.refl _ _ _⟩
    ·rename_i hne
     split at h
     ·rename_i m1 hst
      simp only [Option.some.injEq,Prod.mk.injEq] at h
      obtain ⟨rfl,rfl⟩:=h
      cases hsv with
      | sl b off _ _ cap' lc hb hcr=>
       have hcc:cap≤cap':=by
        rcases hcr with rfl | ⟨_,_,h3,_⟩
        ·exact Nat.le_refl _
        ·exact h3
       obtain ⟨w1,g1,g2,g3,g4⟩:=storeL_ok h0 hst (addA_ptr hb) hlr
       refine ⟨_,w1,φ,fits (by omega) g1,.sl _ _ _ _ _ _ hb hcr,⟨g2,by rw [g4]; exact hr.fresh,by rw [g4,g3.fl]; exact hr.fl⟩,g3⟩
      | slE a a'=>
       exfalso
       have:n=0:=by omega
       subst this
       simp only [Nat.zero_mul] at c1
       exact hne (List.length_eq_zero_iff.1 c1)
     ·cases h
   ·split at h
    ·simp only [Option.some.injEq,Prod.mk.injEq] at h
     obtain ⟨rfl,rfl⟩:=h
     cases hsv
     exact ⟨_,w,φ,fits hle' rfl,.sl0 _ _,hr,Stp.refl _ _ _⟩
    ·cases h
  ·
   rename_i hgt
   have hgt':¬ len+n≤cap:=by
    intro q
    have:=Nat.ble_eq_true_of_le q
    rw [this] at hgt; cases hgt
   split at h
   ·rename_i old z hbd hold hz
    simp only [Bool.and_eq_true] at hbd
    have b1:(2*(len+n)+192)*i.bytes≤140737488355328:=Nat.le_of_ble_eq_true hbd.1
    have b2:len+n≤1099511627776:=Nat.le_of_ble_eq_true hbd.2
    split at h
    ·rename_i m1 hgu hc3
     simp only [Bool.and_eq_true] at hc3
     have c3:old.length=len*i.size:=Nat.eq_of_beq_eq_true hc3.1
     have c4:(cellsL z).length=i.size:=Nat.eq_of_beq_eq_true hc3.2
     simp only [newCells_eq,Option.some.injEq,Prod.mk.injEq] at h
     obtain ⟨rfl,rfl⟩:=h
     obtain ⟨u1,u2,u3,u4⟩:=giveUp_sub hgu
     have hnew_len:(old ++ new).length=(len+n)*i.size:=by rw [List.length_append,c1,c3,Nat.add_mul]
     obtain ⟨hzr,hzp⟩:=zeroT_ok hcx hz w.drew
     have h0d:R0 P φ m w.drew:=h0.world rfl
     have hzs:z.cells.size=i.size:=by rw [← c4,← cells_toList]; simp
     have fresh_case:∀ (b':Option Addr) (cap':Nat),VR φ (.slice base len cap) (.slice b' len cap')→¬ len+n≤cap' →
       ∃ v' w' φ',(Builtin.append_ ts ty #[.slice b' len cap',x']).run P w = .ok v' w'∧VR φ' (.slice (some ⟨m1.nx,0,none⟩) (len+n) (len+n)) v' ∧
        RR P φ' { hp:=m1.hp.put m1.nx (.cells (writeL .nil (old ++ new) 0) (old ++ new).length e true),nx:=m1.nx+1,fl:=m1.fl } w' ∧
        Stp φ m w φ' { hp:=m1.hp.put m1.nx (.cells (writeL .nil (old ++ new) 0) (old ++ new).length e true),nx:=m1.nx+1,fl:=m1.fl } w':=by
      intro b' cap' hvr hng
      obtain ⟨oldd,hod,hlod⟩:=firstL_ok h0d hold hvr rfl (Nat.le_refl len)
      have hbig:Builtin.nextslicecap (len+n) cap'*i.bytes≤281474976710656:=by
       have:=next_le (need:=len+n) (c:=cap') (by omega)
       have:=Nat.mul_le_mul_right i.bytes this
       omega
      obtain ⟨nc,hnc,hrun⟩:=grows hzr hod hng hbig b2
      generalize hcn:(oldd.toArray ++ (new'.toArray ++ Builtin.zeroCells z.cells (nc - (len+n))))=cn at hrun
      have hcnl:cn.toList=(oldd ++ new') ++ repL (cellsL z) (nc - (len+n)):=by
       rw [← hcn]
       simp only [Array.toList_append,List.append_assoc]
       unfold Builtin.zeroCells
       rw [rep_eq z.cells _ z.cells.size rfl (by omega),cells_toList]
      have hpre:LR φ (old ++ new) (oldd ++ new'):=hlod.append hlr
      have hcsz:cn.size=nc*i.size:=by
       have e1:cn.size=cn.toList.length:=by simp
       rw [e1,hcnl,List.length_append,← hpre.1,hnew_len,repL_length,c4,← Nat.add_mul]
       congr 1; omega
      have hle2:(len+n)*i.size≤nc*i.size:=Nat.mul_le_mul_right _ hnc
      obtain ⟨φ',rfl,g1,g2⟩:=new_ok (P:=P) (less_ok h0 u3) (l:=old ++ new) (c':=cn) (e:=e) (loose:=true) (s:=i.size) (id:=m1.nx) (n:=m1.nx+1) (f:=m1.fl)
       (by rw [u1]; exact hr.fresh_id) rfl (by rw [u1,u2]; exact hr.fl) (by omega) (Nat.le_refl _) (by rw [hnew_len,hcsz]; exact hle2)
       (fun j a b p q=>hpre.2 j a b p (by
        have hj:j < (oldd ++ new').length:=by rw [← hpre.1]; exact (List.getElem?_eq_some_iff.1 p).1
        rw [← Array.getElem?_toList,hcnl,List.getElem?_append_left hj] at q; exact q))
       (fun q=>by cases q) (fun _=>⟨c2,fun i' hi'=>by rw [hi] at hi'; cases hi'; rfl⟩)
      refine ⟨_,_,_,hrun,?_,⟨g1.world rfl,?_,?_⟩,?_⟩
      ·refine vr_new_slice (.inr ⟨c2,?_,hnc,?_⟩)
       ·show 0+(len+n)*i.size=(old ++ new).length
        rw [hnew_len]; omega
       ·show 0+nc*i.size≤cn.size
        rw [hcsz]; omega
      ·exact fresh_put (by rw [u1]; exact hr.fresh)
      ·show m1.fl≤m1.nx+1
       rw [u1,u2]; have:=hr.fl; omega
      ·exact (less_stp u3 (by omega) u2 u4).trans (g2.world rfl rfl rfl rfl (Nat.le_succ _))
     cases hsv with
     | sl0 _ _=>exact fresh_case none cap (.sl0 _ _) hgt'
     | slE a a'=>exact fresh_case (some a') 0 (.slE _ _) hgt'
     | sl b off _ _ cap' lc hb hcr=>
      by_cases hin:len+n≤cap'
      ·
       rcases giveUp_room h0 hi rfl hgu hb hcr with rfl | ⟨d1,d2,d3,d4,d5,d6,d7,c',hc',hcs,o0,ho0⟩
       ·exact absurd hin hgt'
       ·have hm1:off+len*i.size+new'.length≤lc.re:=by
         rw [← hlr.1,c1,Nat.add_assoc,← Nat.add_mul]
         have:=Nat.mul_le_mul_right i.size hin
         omega
        have hone:∀ u∈new',u.oneCell'=true:=hlr.one1 c0
        have hst:=run_storeCells_at P lc.rb (lc.ro+(off+len*i.size)) e new' 0 c' w hc' (by omega) hone
        generalize hcn:(c'.toList.take (lc.ro+(off+len*i.size)+0) ++ new' ++ c'.toList.drop (lc.ro+(off+len*i.size)+0+new'.length)).toArray=cn at hst
        have hcnl:cn.toList=splice c'.toList (lc.ro+(off+len*i.size)) new':=by rw [← hcn]; simp [AX.splice]
        have hcsz:cn.size=c'.size:=by
         have:=splice_length (a:=c'.toList) (b:=new') (off:=lc.ro+(off+len*i.size)) (by simp; omega)
         rw [← hcnl] at this
         simpa using this
        obtain ⟨old',hlo,hoc⟩:=first_cells h0 hold hb
        have hrun:=fits (b':=some ⟨lc.rb,lc.ro+off,none⟩) (w':=w.setRow lc.rb cn) hin (by
         (try dsimp only)
         rw [add_none,Nat.add_assoc]; exact hst)
        have hid:=hr.fresh_id
        have hext:=Phi.put_ext (l:=⟨lc.rb,lc.ro+off,(old ++ new).length,lc.re - off,i.size⟩) hid
        have hru:=reuse_ok (P:=P) h0 u3 u1 u2 u4 (l:=⟨lc.rb,lc.ro+off,(old ++ new).length,lc.re - off,i.size⟩) (o:=.cells (writeL .nil (old ++ new) 0) (old ++ new).length e true) (w':=w.setRow lc.rb cn)
         ho0 hb d1 rfl hid hr.fl (fun r hr=>setRow_other w lc.rb r cn hr) (by simp) rfl rfl rfl (Nat.le_refl _) (by
          refine ⟨cn,setRow_heap w lc.rb c' cn e (0,0) hc',rfl,?_,?_,?_,(fun q=>by cases q),fun _=>⟨c2,fun i' hi'=>by rw [hi] at hi'; cases hi'; rfl⟩⟩
          ·show (old ++ new).length≤lc.re - off
           rw [hnew_len]
           have:=Nat.mul_le_mul_right i.size hin
           omega
          ·show lc.ro+off+(lc.re - off)≤cn.size
           omega
          ·intro j hj
           have hj2:j < (len+n)*i.size:=by rw [← hnew_len]; exact hj
           by_cases hjl:j < len*i.size
           ·have h1:j < old.length:=by omega
            have h2:j < old'.length:=by rw [← hlo.1]; exact h1
            refine cellR_of (v:=old[j]) (v':=old'[j]) ?_ ?_ ((hlo.2 _ _ _ (List.getElem?_eq_getElem h1) (List.getElem?_eq_getElem h2)).mono hext)
            ·rw [writeL_get,if_pos (by simpa using hj),Nat.sub_zero,List.getElem?_append_left h1]; exact List.getElem?_eq_getElem h1
            ·have:=hoc j _ (List.getElem?_eq_getElem h2)
             rw [add_none] at this
             simp only [World.cell?,hc'] at this
             show cn[lc.ro+off+j]? = some old'[j]
             rw [← Array.getElem?_toList,hcnl]
             unfold AX.splice
             rw [List.append_assoc,List.getElem?_append_left (by simp; omega),List.getElem?_take,if_pos (by omega),Array.getElem?_toList]
             simpa using this
           ·have h1:j - len*i.size < new.length:=by rw [c1]; rw [Nat.add_mul] at hj2; omega
            have h2:j - len*i.size < new'.length:=by rw [← hlr.1]; exact h1
            refine cellR_of (v:=new[j - len*i.size]) (v':=new'[j - len*i.size]) ?_ ?_ ((hlr.2 _ _ _ (List.getElem?_eq_getElem h1) (List.getElem?_eq_getElem h2)).mono hext)
            ·rw [writeL_get,if_pos (by simpa using hj),Nat.sub_zero,List.getElem?_append_right (by omega),c3]; exact List.getElem?_eq_getElem h1
            ·show cn[lc.ro+off+j]? = some new'[j - len*i.size]
             rw [← Array.getElem?_toList,hcnl]
             unfold AX.splice
             have e1:(List.take (lc.ro+(off+len*i.size)) c'.toList).length=lc.ro+(off+len*i.size):=by simp; omega
             rw [List.append_assoc,List.getElem?_append_right (by omega),e1,List.getElem?_append_left (by omega)]
             rw [show lc.ro+off+j - (lc.ro+(off+len*i.size))=j - len*i.size by omega]
             exact List.getElem?_eq_getElem h2)
        rw [u1,u2]
        refine ⟨_,_,_,hrun,?_,⟨hru.1,?_,?_⟩,hru.2⟩
        ·refine .sl m.nx 0 _ _ _ ⟨lc.rb,lc.ro+off,(old ++ new).length,lc.re - off,i.size⟩ Phi.put_self (.inr ⟨c2,?_,hin,?_⟩)
         ·show 0+(len+n)*i.size=(old ++ new).length
          rw [hnew_len]; omega
         ·show 0+cap'*i.size≤lc.re - off
          omega
        ·exact fresh_put hr.fresh
        ·show m.fl≤m.nx+1
         have:=hr.fl; omega
      ·exact fresh_case _ cap' (.sl _ _ _ _ _ _ hb hcr) hin
    ·cases h
   ·cases h
omit [Kap] in
theorem isIntD_ok {ux:TypeDesc} (h:isIntD ux=true):∃ k,ux = .int k:=by
 cases ux with
 | int k=>exact ⟨k,rfl⟩
 | _=>cases h
set_option maxHeartbeats 1000000 in
theorem appendZ_ok (hcx:CxOk P cx) (hr:RR P φ m w) {ts:Array TypeId} {ty t tx e:TypeId} {i:TypeInfo} {ux:TypeDesc} {s' x x' v:Value} {base:Option Addr} {len cap:Nat} {m':Mem}
  (ht0:ts[0]? = some t) (ht1:ts[1]? = some tx) (hu:P.underlying t=some (.slice e)) (hux:P.underlying tx=some ux) (hi:P.info? e=some i)
  (h:appendZ cx m e i ux x base len cap=some (v,m')) (hsv:VR φ (.slice base len cap) s') (hxv:VR φ x x') :
  ∃ v' w' φ',(Builtin.append_ ts ty #[s',x']).run P w = .ok v' w'∧VR φ' v v'∧RR P φ' m' w'∧Stp φ m w φ' m' w':=by
 unfold appendZ at h
 split at h
 ·rename_i l z hint hz
  obtain ⟨k,rfl⟩:=isIntD_ok hint
  split at h
  ·rename_i hc
   simp only [Bool.and_eq_true,decide_eq_true_eq] at hc
   obtain ⟨⟨⟨⟨hc1,hc2⟩,hc3⟩,hc4⟩,hc5⟩:=hc
   have hc3:=Nat.le_of_ble_eq_true hc3
   have hc4:=Nat.eq_of_beq_eq_true hc4
   have hc5:0 < i.size:=Nat.le_of_ble_eq_true hc5
   cases hxv
   obtain ⟨hzr,hzp⟩:=zeroT_ok hcx hz w
   obtain ⟨hzd,_⟩:=zeroT_ok hcx hz w.drew
   have hwrap:IntKind.i64.wrap l=l:=by
    apply wrap_fits
    simp [fitsI,IntKind.min,IntKind.max,IntKind.bits,IntKind.signed]
    omega
   have hzs:z.cells.size=i.size:=by rw [← hc4,← cells_toList]; simp
   have hcells:Builtin.zeroCells z.cells l.toNat=(repL (cellsL z) l.toNat).toArray:=by
    apply Array.ext'
    unfold Builtin.zeroCells
    rw [rep_eq z.cells _ z.cells.size rfl (by omega),cells_toList]
   have hneg:¬ l < 0:=by omega
   have hbig:¬ l*(i.bytes:Int) > 281474976710656:=by
    have:((l.toNat*i.bytes:Nat):Int)=l*i.bytes:=by rw [Int.natCast_mul,Int.toNat_of_nonneg hc1]
    omega
   have hzero:l.toNat*i.size=0→l.toNat=0:=fun h0=>by
    rcases Nat.mul_eq_zero.1 h0 with q | q
    ·exact q
    ·omega
   refine appendT_ok hcx hr hi h hsv ((VR.plain φ hzp).cells.rep l.toNat) ?_ ?_
   ·intro b' cap' w' hle hst
    by_cases h0:l.toNat*i.size=0
    ·have hl:=hzero h0
     have hl':l=0:=by omega
     subst hl'
     have hw0:IntKind.i64.wrap 0=0:=hwrap
     have hle':len≤cap':=hle
     cases b' with
     | none=>
      subst hst
      simp [Builtin.append_,ht0,ht1,run_underlying hu,run_underlying hux,run_size hi,run_info hi,asInt,asIntOf,hw0,hle',repL]
     | some a=>
      have hst':(storeCells (a.add (len*i.size)) []).run P w = .ok () w':=hst
      simp [Builtin.append_,ht0,ht1,run_underlying hu,run_underlying hux,run_size hi,run_info hi,asInt,asIntOf,hw0,hle',hst',repL]
    ·cases b' with
     | none=>
      subst hst
      simp [Builtin.append_,ht0,ht1,run_underlying hu,run_underlying hux,run_size hi,run_info hi,asInt,asIntOf,hwrap,hneg,hbig,hle,h0,hzr,hcells]
     | some a=>
      dsimp only at hst
      simp [Builtin.append_,ht0,ht1,run_underlying hu,run_underlying hux,run_size hi,run_info hi,asInt,asIntOf,hwrap,hneg,hbig,hle,h0,hzr,hcells,hst]
   ·intro z' b' cap' old' hz' hold hgt hbg hsm
    have e1:z'=z:=by rw [hzd] at hz'; cases hz'; rfl
    subst e1
    refine ⟨(Question.appendCap (len+l.toNat) cap' e).cut (w.tape w.drawn (.appendCap (len+l.toNat) cap' e)),by simp [Question.cut],?_⟩
    have hf:(Question.appendCap (len+l.toNat) cap' e).forced=false:=rfl
    have hm1:¬ 9223372036854775807 < (len:Int)+max l 0:=by omega
    have hm2:¬ 281474976710656 < Builtin.nextslicecap (len+l.toNat) cap'*i.bytes:=by omega
    have hsz:w.drew.heap.size=w.heap.size:=rfl
    by_cases h0:l.toNat*i.size=0
    ·have hl:=hzero h0
     have hl':l=0:=by omega
     subst hl'
     have hw0:IntKind.i64.wrap 0=0:=hwrap
     have hgt':¬ len≤cap':=hgt
     have hm1':¬ 9223372036854775807 < (len:Int):=by omega
     have hm2':¬ 281474976710656 < Builtin.nextslicecap len cap'*i.bytes:=hm2
     have hf':(Question.appendCap len cap' e).forced=false:=rfl
     simp [Builtin.append_,ht0,ht1,run_underlying hu,run_underlying hux,run_size hi,run_info hi,asInt,asIntOf,hw0,hgt',hm1',hm2',hf',hold,hzd,newRow,repL]
    ·simp [Builtin.append_,ht0,ht1,run_underlying hu,run_underlying hux,run_size hi,run_info hi,asInt,asIntOf,hwrap,hneg,hbig,hgt,hm1,hm2,hf,hold,h0,hzd,hcells,newRow]
  ·cases h
 ·cases h
set_option maxHeartbeats 1000000 in
theorem append_ok (hcx:CxOk P cx) (hr:RR P φ m w) {ts:Array TypeId} {ty:TypeId} {args:List Value} {args':Array Value} {v:Value} {m':Mem} (h:appendA cx m ts.toList args=some (v,m')) (ha:LR φ args args'.toList) :
  ∃ v' w' φ',(Builtin.append_ ts ty args').run P w = .ok v' w'∧VR φ' v v'∧RR P φ' m' w'∧Stp φ m w φ' m' w':=by
 have h0:=hr.r0
 unfold appendA at h
 split at h
 ·rename_i t tx base len cap x hts
  obtain ⟨s',r1,e1,hsv,hr1⟩:=ha.uncons
  obtain ⟨x',r2,e2,hxv,hr2⟩:=hr1.uncons
  have:=hr2.nil_iff
  subst this; subst e2
  have ea:args' = #[s',x']:=Array.ext' (by simpa using e1)
  subst ea
  have ht0:ts[0]? = some t:=by rw [← Array.getElem?_toList,hts]; rfl
  have ht1:ts[1]? = some tx:=by rw [← Array.getElem?_toList,hts]; rfl
  split at h
  ·rename_i e ux hd hdx
   have hu:=hcx.un _ _ hd
   have hux:=hcx.un _ _ hdx
   split at h
   ·rename_i i n hi0 hn hrow
    have hi:=hcx.ty _ _ hi0
    have hlen:=lenV_ok (P:=P) (w:=w) hn hxv
    split at h
    ·rename_i new hnew
     split at h
     ·cases h
     ·rename_i hc
      simp only [Bool.and_eq_true] at hc
      have c1:new.length=n*i.size:=Nat.eq_of_beq_eq_true hc.1.1
      have c2:0 < i.size:=Nat.le_of_ble_eq_true hc.1.2
      have c0:=hc.2
      obtain ⟨new',hf,hlr⟩:=firstL_ok h0 hnew hxv hn (Nat.le_refl n)
      split at h
      ·
       rename_i hle
       have hle':len+n≤cap:=Nat.le_of_ble_eq_true hle
       split at h
       ·rename_i a
        split at h
        ·
         simp only [Option.some.injEq,Prod.mk.injEq] at h
         obtain ⟨rfl,rfl⟩:=h
         have hn0:=hlr.nil_iff
         subst hn0
         have hnz:n=0:=by
          simp only [List.length_nil] at c1
          rcases Nat.mul_eq_zero.1 c1.symm with q | q
          ·exact q
          ·omega
         subst hnz
         cases hsv with
         | sl b off _ _ cap' lc hb hcr=>
          have hcc:cap≤cap':=by
           rcases hcr with rfl | ⟨_,_,h3,_⟩
           ·exact Nat.le_refl _
           ·exact h3
          exact ⟨_,w,φ,run_append_fits (w':=w) ht0 ht1 hu hux hrow hi hlen hf (by omega) (by simp [storeCells]),.sl _ _ _ _ _ _ hb hcr,hr,Stp.refl _ _ _⟩
         | slE a a'=>
          exact ⟨_,w,φ,run_append_fits (w':=w) ht0 ht1 hu hux hrow hi hlen hf (by omega) (by simp [storeCells]),.slE _ _,hr,Stp.refl _ _ _⟩
        ·rename_i hne
         split at h
         ·rename_i m1 hst
          simp only [Option.some.injEq,Prod.mk.injEq] at h
          obtain ⟨rfl,rfl⟩:=h
          cases hsv with
          | sl b off _ _ cap' lc hb hcr=>
           have hcc:cap≤cap':=by
            rcases hcr with rfl | ⟨_,_,h3,_⟩
            ·exact Nat.le_refl _
            ·exact h3
           obtain ⟨w1,g1,g2,g3,g4⟩:=storeL_ok h0 hst (addA_ptr hb) hlr
           refine ⟨_,w1,φ,run_append_fits (w':=w1) ht0 ht1 hu hux hrow hi hlen hf (by omega) g1,.sl _ _ _ _ _ _ hb hcr,⟨g2,by rw [g4]; exact hr.fresh,by rw [g4,g3.fl]; exact hr.fl⟩,g3⟩
          | slE a a'=>
           exfalso
           have:n=0:=by omega
           subst this
           simp only [Nat.zero_mul] at c1
           exact hne (List.length_eq_zero_iff.1 c1)
         ·cases h
       ·split at h
        ·simp only [Option.some.injEq,Prod.mk.injEq] at h
         obtain ⟨rfl,rfl⟩:=h
         cases hsv
         exact ⟨_,w,φ,run_append_fits (b':=none) (w':=w) ht0 ht1 hu hux hrow hi hlen hf hle' rfl,.sl0 _ _,hr,Stp.refl _ _ _⟩
        ·cases h
      ·
       rename_i hgt
       have hgt':¬ len+n≤cap:=by
        intro q
        have:=Nat.ble_eq_true_of_le q
        rw [this] at hgt; cases hgt
       split at h
       ·rename_i old z hbd hold hz
        simp only [Bool.and_eq_true] at hbd
        have b1:(2*(len+n)+192)*i.bytes≤140737488355328:=Nat.le_of_ble_eq_true hbd.1
        have b2:len+n≤1099511627776:=Nat.le_of_ble_eq_true hbd.2
        split at h
        ·rename_i m1 hgu hc3
         simp only [Bool.and_eq_true] at hc3
         have c3:old.length=len*i.size:=Nat.eq_of_beq_eq_true hc3.1
         have c4:(cellsL z).length=i.size:=Nat.eq_of_beq_eq_true hc3.2
         simp only [newCells_eq,Option.some.injEq,Prod.mk.injEq] at h
         obtain ⟨rfl,rfl⟩:=h
         obtain ⟨u1,u2,u3,u4⟩:=giveUp_sub hgu
         have hnew_len:(old ++ new).length=(len+n)*i.size:=by rw [List.length_append,c1,c3,Nat.add_mul]
         obtain ⟨hzr,hzp⟩:=zeroT_ok hcx hz w.drew
         have h0d:R0 P φ m w.drew:=h0.world rfl
         obtain ⟨newd,hfd,hlrd⟩:=firstL_ok h0d hnew hxv hn (Nat.le_refl n)
         have hzs:z.cells.size=i.size:=by rw [← c4,← cells_toList]; simp
         have fresh_case:∀ (b':Option Addr) (cap':Nat),VR φ (.slice base len cap) (.slice b' len cap')→¬ len+n≤cap' →
           ∃ v' w' φ',(Builtin.append_ ts ty #[.slice b' len cap',x']).run P w = .ok v' w'∧VR φ' (.slice (some ⟨m1.nx,0,none⟩) (len+n) (len+n)) v' ∧
            RR P φ' { hp:=m1.hp.put m1.nx (.cells (writeL .nil (old ++ new) 0) (old ++ new).length e true),nx:=m1.nx+1,fl:=m1.fl } w' ∧
            Stp φ m w φ' { hp:=m1.hp.put m1.nx (.cells (writeL .nil (old ++ new) 0) (old ++ new).length e true),nx:=m1.nx+1,fl:=m1.fl } w':=by
          intro b' cap' hvr hng
          obtain ⟨oldd,hod,hlod⟩:=firstL_ok h0d hold hvr rfl (Nat.le_refl len)
          have hbig:Builtin.nextslicecap (len+n) cap'*i.bytes≤281474976710656:=by
           have:=next_le (need:=len+n) (c:=cap') (by omega)
           have:=Nat.mul_le_mul_right i.bytes this
           omega
          obtain ⟨nc,hnc,hrun⟩:=run_append_grow (ty:=ty) ht0 ht1 hu hux hrow hi hzr hlen hod hfd hng hbig b2
          generalize hcn:(oldd.toArray ++ (newd.toArray ++ Builtin.zeroCells z.cells (nc - (len+n))))=cn at hrun
          have hcnl:cn.toList=(oldd ++ newd) ++ repL (cellsL z) (nc - (len+n)):=by
           rw [← hcn]
           simp only [Array.toList_append,List.append_assoc]
           unfold Builtin.zeroCells
           rw [rep_eq z.cells _ z.cells.size rfl (by omega),cells_toList]
          have hpre:LR φ (old ++ new) (oldd ++ newd):=hlod.append hlrd
          have hcsz:cn.size=nc*i.size:=by
           have e1:cn.size=cn.toList.length:=by simp
           rw [e1,hcnl,List.length_append,← hpre.1,hnew_len,repL_length,c4,← Nat.add_mul]
           congr 1; omega
          have hle2:(len+n)*i.size≤nc*i.size:=Nat.mul_le_mul_right _ hnc
          obtain ⟨φ',rfl,g1,g2⟩:=new_ok (P:=P) (less_ok h0 u3) (l:=old ++ new) (c':=cn) (e:=e) (loose:=true) (s:=i.size) (id:=m1.nx) (n:=m1.nx+1) (f:=m1.fl)
           (by rw [u1]; exact hr.fresh_id) rfl (by rw [u1,u2]; exact hr.fl) (by omega) (Nat.le_refl _) (by rw [hnew_len,hcsz]; exact hle2)
           (fun j a b p q=>hpre.2 j a b p (by
            have hj:j < (oldd ++ newd).length:=by rw [← hpre.1]; exact (List.getElem?_eq_some_iff.1 p).1
            rw [← Array.getElem?_toList,hcnl,List.getElem?_append_left hj] at q; exact q))
           (fun q=>by cases q) (fun _=>⟨c2,fun i' hi'=>by rw [hi] at hi'; cases hi'; rfl⟩)
          refine ⟨_,_,_,hrun,?_,⟨g1.world rfl,?_,?_⟩,?_⟩
          ·refine vr_new_slice (.inr ⟨c2,?_,hnc,?_⟩)
           ·show 0+(len+n)*i.size=(old ++ new).length
            rw [hnew_len]; omega
           ·show 0+nc*i.size≤cn.size
            rw [hcsz]; omega
          ·exact fresh_put (by rw [u1]; exact hr.fresh)
          ·show m1.fl≤m1.nx+1
           rw [u1,u2]; have:=hr.fl; omega
          ·exact (less_stp u3 (by omega) u2 u4).trans (g2.world rfl rfl rfl rfl (Nat.le_succ _))
         cases hsv with
         | sl0 _ _=>exact fresh_case none cap (.sl0 _ _) hgt'
         | slE a a'=>exact fresh_case (some a') 0 (.slE _ _) hgt'
         | sl b off _ _ cap' lc hb hcr=>
          by_cases hin:len+n≤cap'
          ·
           rcases giveUp_room h0 hi rfl hgu hb hcr with rfl | ⟨d1,d2,d3,d4,d5,d6,d7,c',hc',hcs,o0,ho0⟩
           ·exact absurd hin hgt'
           ·have hm1:off+len*i.size+new'.length≤lc.re:=by
             rw [← hlr.1,c1,Nat.add_assoc,← Nat.add_mul]
             have:=Nat.mul_le_mul_right i.size hin
             omega
            have hone:∀ u∈new',u.oneCell'=true:=hlr.one1 c0
            have hst:=run_storeCells_at P lc.rb (lc.ro+(off+len*i.size)) e new' 0 c' w hc' (by omega) hone
            generalize hcn:(c'.toList.take (lc.ro+(off+len*i.size)+0) ++ new' ++ c'.toList.drop (lc.ro+(off+len*i.size)+0+new'.length)).toArray=cn at hst
            have hcnl:cn.toList=splice c'.toList (lc.ro+(off+len*i.size)) new':=by rw [← hcn]; simp [AX.splice]
            have hcsz:cn.size=c'.size:=by
             have:=splice_length (a:=c'.toList) (b:=new') (off:=lc.ro+(off+len*i.size)) (by simp; omega)
             rw [← hcnl] at this
             simpa using this
            obtain ⟨old',hlo,hoc⟩:=first_cells h0 hold hb
            have hrun:=run_append_fits (ty:=ty) (b':=some ⟨lc.rb,lc.ro+off,none⟩) (w':=w.setRow lc.rb cn) ht0 ht1 hu hux hrow hi hlen hf hin (by
             dsimp only
             rw [add_none,Nat.add_assoc]; exact hst)
            have hid:=hr.fresh_id
            have hext:=Phi.put_ext (l:=⟨lc.rb,lc.ro+off,(old ++ new).length,lc.re - off,i.size⟩) hid
            have hru:=reuse_ok (P:=P) h0 u3 u1 u2 u4 (l:=⟨lc.rb,lc.ro+off,(old ++ new).length,lc.re - off,i.size⟩) (o:=.cells (writeL .nil (old ++ new) 0) (old ++ new).length e true) (w':=w.setRow lc.rb cn)
             ho0 hb d1 rfl hid hr.fl (fun r hr=>setRow_other w lc.rb r cn hr) (by simp) rfl rfl rfl (Nat.le_refl _) (by
              refine ⟨cn,setRow_heap w lc.rb c' cn e (0,0) hc',rfl,?_,?_,?_,(fun q=>by cases q),fun _=>⟨c2,fun i' hi'=>by rw [hi] at hi'; cases hi'; rfl⟩⟩
              ·show (old ++ new).length≤lc.re - off
               rw [hnew_len]
               have:=Nat.mul_le_mul_right i.size hin
               omega
              ·show lc.ro+off+(lc.re - off)≤cn.size
               omega
              ·intro j hj
               have hj2:j < (len+n)*i.size:=by rw [← hnew_len]; exact hj
               by_cases hjl:j < len*i.size
               ·have h1:j < old.length:=by omega
                have h2:j < old'.length:=by rw [← hlo.1]; exact h1
                refine cellR_of (v:=old[j]) (v':=old'[j]) ?_ ?_ ((hlo.2 _ _ _ (List.getElem?_eq_getElem h1) (List.getElem?_eq_getElem h2)).mono hext)
                ·rw [writeL_get,if_pos (by simpa using hj),Nat.sub_zero,List.getElem?_append_left h1]; exact List.getElem?_eq_getElem h1
                ·have:=hoc j _ (List.getElem?_eq_getElem h2)
                 rw [add_none] at this
                 simp only [World.cell?,hc'] at this
                 show cn[lc.ro+off+j]? = some old'[j]
                 rw [← Array.getElem?_toList,hcnl]
                 unfold AX.splice
                 rw [List.append_assoc,List.getElem?_append_left (by simp; omega),List.getElem?_take,if_pos (by omega),Array.getElem?_toList]
                 simpa using this
               ·have h1:j - len*i.size < new.length:=by rw [c1]; rw [Nat.add_mul] at hj2; omega
                have h2:j - len*i.size < new'.length:=by rw [← hlr.1]; exact h1
                refine cellR_of (v:=new[j - len*i.size]) (v':=new'[j - len*i.size]) ?_ ?_ ((hlr.2 _ _ _ (List.getElem?_eq_getElem h1) (List.getElem?_eq_getElem h2)).mono hext)
                ·rw [writeL_get,if_pos (by simpa using hj),Nat.sub_zero,List.getElem?_append_right (by omega),c3]; exact List.getElem?_eq_getElem h1
                ·show cn[lc.ro+off+j]? = some new'[j - len*i.size]
                 rw [← Array.getElem?_toList,hcnl]
                 unfold AX.splice
                 have e1:(List.take (lc.ro+(off+len*i.size)) c'.toList).length=lc.ro+(off+len*i.size):=by simp; omega
                 rw [List.append_assoc,List.getElem?_append_right (by omega),e1,List.getElem?_append_left (by omega)]
                 rw [show lc.ro+off+j - (lc.ro+(off+len*i.size))=j - len*i.size by omega]
                 exact List.getElem?_eq_getElem h2)
            rw [u1,u2]
            refine ⟨_,_,_,hrun,?_,⟨hru.1,?_,?_⟩,hru.2⟩
            ·refine .sl m.nx 0 _ _ _ ⟨lc.rb,lc.ro+off,(old ++ new).length,lc.re - off,i.size⟩ Phi.put_self (.inr ⟨c2,?_,hin,?_⟩)
             ·show 0+(len+n)*i.size=(old ++ new).length
              rw [hnew_len]; omega
             ·show 0+cap'*i.size≤lc.re - off
              omega
            ·exact fresh_put hr.fresh
            ·show m.fl≤m.nx+1
             have:=hr.fl; omega
          ·exact fresh_case _ cap' (.sl _ _ _ _ _ _ hb hcr) hin
        ·cases h
       ·cases h
    ·cases h
   ·rename_i i hi0 hn hrow
    exact appendZ_ok hcx hr ht0 ht1 hu hux (hcx.ty _ _ hi0) h hsv hxv
   ·cases h
  ·cases h
 ·cases h
end Go.AX
namespace Go.AX
variable {P:Program} {cx:Cx} {φ : Phi} {m:Mem} {w:World}
theorem evalO_ok (hcx:CxOk P cx) (hg:∀ g,g≤P.globals.size→∃ l,φ g=some l∧l.rb=g∧l.ro=0) {st:St} {a:Act} (ht:TR φ st a) {x:Option Operand} {v:Option Value} (h:evalO cx st x=some v):OVR φ v (x.map a.eval):=by
 cases x with
 | none=>simp only [evalO,Option.some.injEq] at h; subst h; trivial
 | some x=>
  simp only [evalO] at h
  split at h
  ·rename_i y hy
   simp only [Option.some.injEq] at h; subst h
   exact eval_ok hcx hg ht hy
  ·cases h
set_option maxHeartbeats 1000000 in
theorem quiet_ok (hcx:CxOk P cx) {call:Caller} {st:St} {a:Act} (ht:TR φ st a) (h0:R0 P φ st.m w) {o:Oper} (hk:kindO o.op≤1) {ov:Option Value} {m':Mem} (h:opA cx call st o=some (ov,m')) :
  m'=st.m∧∃ v v',ov=some v∧(execOp a.eval o).run P w = .ok (.value v') w∧VR φ v v':=by
 have fin:∀ {r:Option Value} {s:Sem Value},(match r with | some x=>some (some x,st.m) | none=>(none:Out (Option Value)))=some (ov,m') →
   (∀ v,r=some v→∃ v',s.run P w = .ok v' w∧VR φ v v')→execOp a.eval o=(do pure (.value (← s))) →
   m'=st.m∧∃ v v',ov=some v∧(execOp a.eval o).run P w = .ok (.value v') w∧VR φ v v':=by
  intro r s hr hs he
  cases r with
  | none=>cases hr
  | some v=>
   simp only [Option.some.injEq,Prod.mk.injEq] at hr
   obtain ⟨rfl,rfl⟩:=hr
   obtain ⟨v',h1,h2⟩:=hs v rfl
   exact ⟨rfl,v,v',rfl,by rw [he]; simp [h1],h2⟩
 have hg:=h0.glob
 cases hop:o.op <;> simp only [hop,kindO] at hk <;> try omega
 case move x=>
  simp only [opA,hop] at h
  refine fin (s:=pure (a.eval x)) h (fun v hv=>⟨_,rfl,eval_ok hcx hg ht hv⟩) (by simp [execOp,hop])
 case assign x=>
  simp only [opA,hop] at h
  refine fin (s:=pure (a.eval x)) h (fun v hv=>⟨_,rfl,eval_ok hcx hg ht hv⟩) (by simp [execOp,hop])
 case pick c x y=>
  simp only [opA,hop] at h
  split at h
  ·rename_i vx hc hx
   have h1:=eval_ok hcx hg ht hc
   have h2:=eval_ok hcx hg ht hx
   have hb:a.eval c = .bool true:=by generalize a.eval c=q at h1; cases h1; rfl
   refine fin (r:=some vx) (s:=pure (a.eval x)) h (fun v hv=>by cases hv; exact ⟨_,rfl,h2⟩) (by simp [execOp,hop,hb,asBool])
  ·rename_i vy hc hy
   have h1:=eval_ok hcx hg ht hc
   have h2:=eval_ok hcx hg ht hy
   have hb:a.eval c = .bool false:=by generalize a.eval c=q at h1; cases h1; rfl
   refine fin (r:=some vy) (s:=pure (a.eval y)) h (fun v hv=>by cases hv; exact ⟨_,rfl,h2⟩) (by simp [execOp,hop,hb,asBool])
  ·cases h
 case build t ps=>
  simp only [opA,hop] at h
  split at h
  ·rename_i l hl
   have hpr:=evalP_ok hcx hg ht hl
   refine fin (s:=Instr.build t (ps.map fun (i,x)=>(i,a.eval x))) h (fun v hv=>build_ok hcx hv (by rw [Array.toList_map]; exact hpr)) (by simp [execOp,hop])
  ·cases h
 case load t x=>
  simp only [opA,hop] at h
  split at h
  ·rename_i p hp
   have h1:=eval_ok hcx hg ht hp
   refine fin (s:=Instr.loadAt t (a.eval x)) h (fun v hv=>loadT_ok hcx h0 hv h1) (by simp [execOp,hop])
  ·cases h
 case nilCheck x=>
  simp only [opA,hop] at h
  split at h
  ·rename_i p hp
   have h1:=eval_ok hcx hg ht hp
   obtain ⟨p',hq⟩:∃ p',a.eval x = .pointer (some p'):=by generalize a.eval x=q at h1; cases h1; exact ⟨_,rfl⟩
   refine fin (r:=some (.pointer (some p))) (s:=pure (a.eval x)) h (fun v hv=>by cases hv; exact ⟨_,rfl,h1⟩) (by simp [execOp,hop,hq])
  ·rename_i t y hp
   have h1:=eval_ok hcx hg ht hp
   obtain ⟨p',hq⟩:∃ p',a.eval x = .iface t p':=by generalize a.eval x=q at h1; cases h1; exact ⟨_,rfl⟩
   refine fin (r:=some (.iface t y)) (s:=pure (a.eval x)) h (fun v hv=>by cases hv; exact ⟨_,rfl,h1⟩) (by simp [execOp,hop,hq])
  ·rename_i k f c hp
   have h1:=eval_ok hcx hg ht hp
   obtain ⟨f',c',hq⟩:∃ f' c',a.eval x = .func (.func k) f' c':=by generalize a.eval x=q at h1; cases h1; exact ⟨_,_,rfl⟩
   refine fin (r:=some (.func (.func k) f c)) (s:=pure (a.eval x)) h (fun v hv=>by cases hv; exact ⟨_,rfl,h1⟩) (by simp [execOp,hop,hq])
  ·cases h
 case binOp op t x y yt=>
  simp only [opA,hop] at h
  split at h
  ·rename_i va vb hx hy
   have h1:=eval_ok hcx hg ht hx
   have h2:=eval_ok hcx hg ht hy
   split at h
   ·rename_i hgd
    have hgu:=guard_ok (P:=P) (w:=w) hcx hgd h1 h2
    refine fin (s:=do eqGuard op t x y (a.eval x) (a.eval y); binOp op t (a.eval x) (a.eval y)) h (fun v hv=>?_) (by simp [execOp,hop])
    obtain ⟨g1,g2⟩:=binOp_ok hcx h0 hv h1 h2
    exact ⟨v,by simp [hgu,g1],g2⟩
   ·cases h
  ·cases h
 case unOp op t x=>
  simp only [opA,hop] at h
  split at h
  ·rename_i va hx
   have h1:=eval_ok hcx hg ht hx
   refine fin (s:=Op.unary op (a.eval x)) h (fun v hv=>⟨v,unOp_ok hv h1⟩) (by simp [execOp,hop])
  ·cases h
 case convert s d x=>
  simp only [opA,hop] at h
  split at h
  ·rename_i va hx
   have h1:=eval_ok hcx hg ht hx
   refine fin (s:=convert s d (a.eval x)) h (fun v hv=>convert_ok hcx h0 hv h1) (by simp [execOp,hop])
  ·cases h
 case makeInterface t x=>
  simp only [opA,hop] at h
  split at h
  ·cases h
  ·rename_i va d hne hx hd
   have h1:=eval_ok hcx hg ht hx
   have hu:=hcx.un _ _ hd
   refine fin (r:=some (.iface t va)) (s:=Instr.makeInterface t (a.eval x)) h (fun v hv=>?_) (by simp [execOp,hop])
   cases hv
   refine ⟨.iface t (a.eval x),?_,.iface _ _ _ h1⟩
   simp only [Instr.makeInterface,Sem.run_bind,run_underlying hu,Result.andThen_ok]
   cases d <;> first | rfl | exact (hne _ _ hx hd).elim
  ·cases h
 case makeFunc fn f c=>
  simp only [opA,hop] at h
  split at h
  ·rename_i lf lc hf hc
   have h1:=evalL_ok hcx hg ht hf
   have h2:=evalL_ok hcx hg ht hc
   refine fin (r:=some (.func fn lf.toArray lc.toArray)) (s:=Instr.makeFunc fn (f.map a.eval) (c.map a.eval)) h (fun v hv=>?_) (by simp [execOp,hop])
   cases hv
   refine ⟨_,rfl,.func _ _ _ _ _ ?_ ?_ ?_ ?_⟩
   ·simpa using h1.1
   ·simpa [Array.toList_map] using h1.2
   ·simpa using h2.1
   ·simpa [Array.toList_map] using h2.2
  ·cases h
 case slice t x lo hi mx=>
  simp only [opA,hop] at h
  split at h
  ·rename_i vx vlo vhi vmx hx hlo hhi hmx
   have h1:=eval_ok hcx hg ht hx
   refine fin (s:=Instr.sliceAt t (a.eval x) (lo.map a.eval) (hi.map a.eval) (mx.map a.eval)) h
    (fun v hv=>sliceOp_ok hcx h0 hv h1 (evalO_ok hcx hg ht hlo) (evalO_ok hcx hg ht hhi) (evalO_ok hcx hg ht hmx)) (by simp [execOp,hop])
  ·cases h
 case fieldAddr t x f=>
  simp only [opA,hop] at h
  split at h
  ·rename_i va hx
   have h1:=eval_ok hcx hg ht hx
   refine fin (s:=Instr.fieldAt t (a.eval x) f) h (fun v hv=>fieldAddr_ok hcx hv h1) (by simp [execOp,hop])
  ·cases h
 case field t x f=>
  simp only [opA,hop] at h
  split at h
  ·rename_i va hx
   have h1:=eval_ok hcx hg ht hx
   refine fin (s:=Instr.field t (a.eval x) f) h (fun v hv=>field_ok hcx hv h1) (by simp [execOp,hop])
  ·cases h
 case indexAddr t x i=>
  simp only [opA,hop] at h
  split at h
  ·rename_i va vi hx hi
   have h1:=eval_ok hcx hg ht hx
   have h2:=eval_ok hcx hg ht hi
   refine fin (s:=Instr.indexAt t (a.eval x) (a.eval i)) h (fun v hv=>indexAddr_ok hcx hv h1 h2) (by simp [execOp,hop])
  ·cases h
 case index t x i=>
  simp only [opA,hop] at h
  split at h
  ·rename_i va vi hx hi
   have h1:=eval_ok hcx hg ht hx
   have h2:=eval_ok hcx hg ht hi
   refine fin (s:=Instr.index t (a.eval x) (a.eval i)) h (fun v hv=>index_ok hcx hv h1 h2) (by simp [execOp,hop])
  ·cases h
 case lookup t x k ok=>
  simp only [opA,hop] at h
  split at h
  ·rename_i va vk hx hk
   have h1:=eval_ok hcx hg ht hx
   have h2:=eval_ok hcx hg ht hk
   refine fin (s:=Instr.lookup t (a.eval x) (a.eval k) ok) h (fun v hv=>lookup_ok hcx h0 hv h1 h2) (by simp [execOp,hop])
  ·cases h
 case typeAssert x xT t ok=>
  simp only [opA,hop] at h
  split at h
  ·rename_i va hx
   have h1:=eval_ok hcx hg ht hx
   refine fin (s:=Instr.typeAssert (a.eval x) xT t ok) h (fun v hv=>assert_ok hcx hv h1) (by simp [execOp,hop])
  ·cases h
 case extract x i=>
  simp only [opA,hop] at h
  split at h
  ·rename_i vs hx
   have h1:=eval_ok hcx hg ht hx
   obtain ⟨vs',hq,hl⟩:∃ vs',a.eval x = .tuple vs'∧LR φ vs.toList vs'.toList:=by
    generalize a.eval x=q at h1
    cases h1 with
    | tuple c c' hc hcv=>exact ⟨_,rfl,hc,hcv⟩
   refine fin (s:=Instr.extract (a.eval x) i) h (fun v hv=>?_) (by simp [execOp,hop])
   obtain ⟨v',g1,g2⟩:=hl.get hv
   refine ⟨v',?_,g2⟩
   have g1':vs'[i]? = some v':=by simpa using g1
   simp [Instr.extract,hq,g1']
  ·cases h
 case call c=>
  simp only [opA,hop] at h
  cases hc:callA cx call st c with
  | none=>rw [hc] at h; cases h
  | some p=>
   rw [hc] at h
   obtain ⟨v,m1⟩:=p
   simp only [Option.some.injEq,Prod.mk.injEq] at h
   obtain ⟨rfl,rfl⟩:=h
   obtain ⟨callee,args,ats⟩:=c
   cases callee with
   | value f=>simp at hk
   | invoke r n=>simp at hk
   | builtin bi=>
    simp only [callA] at hc
    split at hc
    ·cases hc
    ·rename_i l hl
     have hlr:=evalL_ok hcx hg ht hl
     rw [← Array.toList_map] at hlr
     have key:∀ {r:Option Value} {s:Sem Value},(match r with | some x=>some (x,st.m) | none=>(none:Out Value))=some (v,m1)→(∀ u,r=some u→∃ v',s.run P w = .ok v' w∧VR φ u v') →
       (execOp a.eval o)=(do pure (.value (← s))) →
       m1=st.m∧∃ u v',some v=some u∧(execOp a.eval o).run P w = .ok (.value v') w∧VR φ u v':=by
      intro r s hr hs he
      cases r with
      | none=>cases hr
      | some u=>
       simp only [Option.some.injEq,Prod.mk.injEq] at hr
       obtain ⟨rfl,rfl⟩:=hr
       obtain ⟨v',g1,g2⟩:=hs _ rfl
       exact ⟨rfl,_,v',rfl,by rw [he]; simp [g1],g2⟩
     cases bi <;> simp only [] at hk <;> try omega
     case len=>
      simp only [builtinA] at hc
      exact key (s:=Builtin.len_ ats o.type (args.map a.eval)) hc (fun u hu=>len_ok hcx h0 hu hlr) (by simp [execOp,hop,resolve,invoke,builtin])
     case cap=>
      simp only [builtinA] at hc
      exact key (s:=Builtin.cap_ ats o.type (args.map a.eval)) hc (fun u hu=>cap_ok hcx h0 hu hlr) (by simp [execOp,hop,resolve,invoke,builtin])
     case max=>
      simp only [builtinA] at hc
      split at hc
      ·rename_i x r
       refine key (s:=Builtin.max_ ats o.type (args.map a.eval)) hc (fun u hu=>?_) (by simp [execOp,hop,resolve,invoke,builtin])
       obtain ⟨x',r',e1,hx,hr⟩:=hlr.uncons
       obtain ⟨v',g1,g2⟩:=maxMin_ok (P:=P) (w:=w) true _ _ _ _ _ hu hx hr
       exact ⟨v',by simp only [Builtin.max_,e1]; exact g1,g2⟩
      ·cases hc
     case min=>
      simp only [builtinA] at hc
      split at hc
      ·rename_i x r
       refine key (s:=Builtin.min_ ats o.type (args.map a.eval)) hc (fun u hu=>?_) (by simp [execOp,hop,resolve,invoke,builtin])
       obtain ⟨x',r',e1,hx,hr⟩:=hlr.uncons
       obtain ⟨v',g1,g2⟩:=maxMin_ok (P:=P) (w:=w) false _ _ _ _ _ hu hx hr
       exact ⟨v',by simp only [Builtin.min_,e1]; exact g1,g2⟩
      ·cases hc
end Go.AX
