import Derived.Test.YtiehbnmpaeedpaaGreatQJ04
set_option linter.unusedSectionVars false
set_option linter.unusedSimpArgs false
set_option linter.unusedVariables false
namespace Go.AX
variable {cx:Cx}
structure Bes (E:Nat→Option AObj) (u m:Mem):Prop where
 nx:m.nx=u.nx
 fl:m.fl=u.fl
 get:∀ b,m.hp.get b=match E b with
  | some o=>some o
  | none=>u.hp.get b
 gap:∀ b o,E b=some o→u.hp.get b=none∧b < u.nx
section
variable {E:Nat→Option AObj} {u m:Mem}
theorem Bes.got (h:Bes E u m) {b:Nat} {o:AObj} (hb:u.hp.get b=some o):m.hp.get b=some o:=by
 rw [h.get]
 cases hE:E b with
 | none=>exact hb
 | some o'=>rw [(h.gap b o' hE).1] at hb; cases hb
theorem Bes.noE (h:Bes E u m) {b:Nat} {o:AObj} (hb:u.hp.get b=some o):E b=none:=by
 cases hE:E b with
 | none=>rfl
 | some o'=>rw [(h.gap b o' hE).1] at hb; cases hb
theorem Bes.refl (u:Mem):Bes (fun _=>none) u u:=⟨rfl,rfl,fun _=>rfl,fun b o h=>by cases h⟩
theorem Bes.put (h:Bes E u m) {b:Nat} (hb:E b=none) (o':AObj):Bes E { u with hp:=u.hp.put b o' } { m with hp:=m.hp.put b o' }:=by
 refine ⟨h.nx,h.fl,fun b'=>?_,fun b' o1 h1=>?_⟩
 ·show (m.hp.put b o').get b'=match E b' with | some o=>some o | none=>(u.hp.put b o').get b'
  rw [Tr.get_put,Tr.get_put,h.get]
  by_cases e:b'=b
  ·subst e; rw [if_pos rfl,if_pos rfl,hb]
  ·rw [if_neg e,if_neg e]
 ·obtain ⟨h2,h3⟩:=h.gap b' o1 h1
  refine ⟨?_,h3⟩
  show (u.hp.put b o').get b'=_
  rw [Tr.get_put,if_neg (fun e=>by rw [e,hb] at h1; cases h1)]
  exact h2
theorem Bes.noNx (h:Bes E u m):E u.nx=none:=by
 cases hE:E u.nx with
 | none=>rfl
 | some o=>have:=(h.gap _ o hE).2; omega
theorem Bes.new (h:Bes E u m) (o:AObj):Bes E { hp:=u.hp.put u.nx o,nx:=u.nx+1,fl:=u.fl } { hp:=m.hp.put m.nx o,nx:=m.nx+1,fl:=m.fl }:=by
 have h1:=h.put h.noNx o
 refine ⟨by show m.nx+1=u.nx+1; rw [h.nx],h.fl,fun b=>?_,fun b o1 hb=>?_⟩
 ·have:=h1.get b
  show (m.hp.put m.nx o).get b=_
  rw [h.nx]; exact this
 ·obtain ⟨h2,h3⟩:=h1.gap b o1 hb
  exact ⟨h2,Nat.lt_succ_of_lt h3⟩
theorem Bes.del (h:Bes E u m) {b:Nat} (hb:E b=none):Bes E { u with hp:=u.hp.del b } { m with hp:=m.hp.del b }:=by
 refine ⟨h.nx,h.fl,fun b'=>?_,fun b' o1 h1=>?_⟩
 ·show (m.hp.del b).get b'=match E b' with | some o=>some o | none=>(u.hp.del b).get b'
  rw [Tr.get_del,Tr.get_del,h.get]
  by_cases e:b'=b
  ·subst e; rw [if_pos rfl,if_pos rfl,hb]
  ·rw [if_neg e,if_neg e]
 ·obtain ⟨h2,h3⟩:=h.gap b' o1 h1
  refine ⟨?_,h3⟩
  show (u.hp.del b).get b'=_
  rw [Tr.get_del]
  split
  ·rfl
  ·exact h2
theorem Bes.setFl (h:Bes E u m) (n:Nat):Bes E { u with fl:=n } { m with fl:=n }:=⟨h.nx,rfl,h.get,h.gap⟩
theorem Bes.bump (h:Bes E u m) (n:Nat):Bes E { u with nx:=u.nx+n } { m with nx:=m.nx+n }:=
 ⟨by show m.nx+n=u.nx+n; rw [h.nx],h.fl,h.get,fun b o hb=>let ⟨p,q⟩:=h.gap b o hb; ⟨p,Nat.lt_of_lt_of_le q (Nat.le_add_right _ _)⟩⟩
theorem rowAtL_bes (h:Bes E u m) {a:Addr} {n:Nat} {l:List Value} (e:rowAtL u a n=some l):rowAtL m a n=some l:=by
 unfold rowAtL at e ⊢
 cases hs:a.spot with
 | some _=>simp only [hs] at e; cases e
 | none=>
  simp only [hs] at e ⊢
  cases hg:u.hp.get a.block with
  | none=>rw [hg] at e; cases e
  | some o=>rw [hg] at e; rw [h.got hg]; exact e
theorem loadT_bes (h:Bes E u m) {t:TypeId} {a:Addr} {v:Value} (e:loadT cx u t a=some v):loadT cx m t a=some v:=by
 unfold loadT at e ⊢
 split at e
 ·rename_i d n hd hn
  split at e
  ·rename_i ha
   split at e
   ·rename_i l hl
    (try simp only [ha,rowAtL_bes h hl]); exact e
   ·cases e
  ·rename_i ha
   split at e
   ·rename_i x hl
    (try simp only [ha,rowAtL_bes h hl]); exact e
   ·cases e
 ·cases e
theorem liveCells_bes (h:Bes E u m) {b:Nat} (e:liveCells u b=true):liveCells m b=true:=by
 unfold liveCells at e ⊢
 cases hg:u.hp.get b with
 | none=>rw [hg] at e; cases e
 | some o=>rw [hg] at e; rw [h.got hg]; exact e
theorem eqPtr_bes (h:Bes E u m) {x y:Option Addr} {r:Bool} (e:eqPtr u x y=some r):eqPtr m x y=some r:=by
 cases x with
 | none=>exact e
 | some a=>
  cases y with
  | none=>exact e
  | some b=>
   unfold eqPtr at e ⊢
   (try dsimp only at e ⊢)
   split at e
   ·rename_i h1 h2 h3 h4
    rw [h1,h2,liveCells_bes h h3,liveCells_bes h h4]; exact e
   ·cases e
theorem eqFields_mono {f g:TypeId→Value→Value→Option Bool} (hfg:∀ t x y r,f t x y=some r→g t x y=some r) {xs ys:List Value}:∀ {l:List Field} {r:Bool},eqFields cx f xs ys l=some r→eqFields cx g xs ys l=some r
 | [],r,e=>e
 | fd :: l,r,e=>by
  unfold eqFields at e ⊢
  split at e
  ·rename_i h1; (try simp only [h1]); exact eqFields_mono hfg e
  ·rename_i h1
   split at e
   ·rename_i a b h2 h3
    split at e
    ·rename_i h4; (try simp only [h1,h2,h3,hfg _ _ _ _ h4]); exact eqFields_mono hfg e
    ·rename_i h4; (try simp only [h1,h2,h3,hfg _ _ _ _ h4]); exact e
    ·cases e
   ·cases e
theorem eqV_bes (h:Bes E u m):∀ {d:Nat} {t:TypeId} {x y:Value} {r:Bool},eqV cx u d t x y=some r→eqV cx m d t x y=some r
 | 0,_,_,_,_,e=>e
 | d+1,t,x,y,r,e=>by
  unfold eqV at e ⊢
  cases hu:cx.un.get t with
  | none=>rw [hu] at e; cases e
  | some w=>
   rw [hu] at e
   (try dsimp only at e ⊢)
   split at e
   ·exact e
   ·exact e
   ·exact e
   ·split at e
    ·rename_i hs; (try simp only [hs]); exact eqPtr_bes h e
    ·cases e
   ·exact e
   ·exact e
   ·exact e
   ·split at e
    ·rename_i hb; (try simp only [hb]); exact e
    ·rename_i hb
     split at e
     ·rename_i i hi
      split at e
      ·rename_i hc; (try simp only [hb,hi,hc]); exact eqV_bes h e
      ·cases e
     ·cases e
   ·split at e
    ·rename_i hn; (try simp only [hn]); exact eqFields_mono (fun t x y r q=>eqV_bes h q) e
    ·cases e
   ·exact e
   ·exact e
   ·exact e
   ·exact e
   ·exact e
   ·exact e
   ·exact e
   ·cases e
theorem binOpA_bes (h:Bes E u m) {op:BinOp} {t:TypeId} {x y v:Value} (e:binOpA cx u op t x y=some v):binOpA cx m op t x y=some v:=by
 unfold binOpA at e ⊢
 split at e
 ·exact e
 ·exact e
 ·split at e
  ·split at e
   ·rename_i hq; (try simp only [eqV_bes h hq]); exact e
   ·cases e
  ·split at e
   ·rename_i hq; (try simp only [eqV_bes h hq]); exact e
   ·cases e
  ·cases e
theorem sameSize_bes (h:Bes E u m) {b s:Nat} (e:sameSize cx u b s=true):sameSize cx m b s=true:=by
 unfold sameSize at e ⊢
 cases hg:u.hp.get b with
 | none=>rw [hg] at e; cases e
 | some o=>rw [hg] at e; rw [h.got hg]; exact e
theorem sliceOp_bes (h:Bes E u m) {t:TypeId} {x v:Value} {lo hi mx:Option Value} (e:sliceOp cx u t x lo hi mx=some v):sliceOp cx m t x lo hi mx=some v:=by
 unfold sliceOp at e ⊢
 split at e
 ·exact e
 ·rename_i el a len cap hd
  split at e
  ·rename_i s hs
   split at e
   ·split at e
    ·rename_i hh e1
     split at e
     ·rename_i l e2
      (try simp only [hs,e1,e2])
      split at e
      ·rename_i a0
       (try dsimp only at e ⊢)
       cases hsp:a0.spot with
       | some q=>simp only [hsp] at e ⊢; exact e
       | none=>
        simp only [hsp] at e ⊢
        cases hq:sameSize cx u a0.block s with
        | true=>rw [hq] at e; rw [sameSize_bes h hq]; exact e
        | false=>
         rw [hq] at e
         simp only [Bool.false_and] at e
         split at e
         ·rename_i hz
          simp only [Bool.and_eq_true] at hz
          obtain ⟨⟨z1,z2⟩,z3⟩:=hz
          have z1:=Nat.eq_of_beq_eq_true z1
          have z2:=Nat.eq_of_beq_eq_true z2
          have z3:=Nat.eq_of_beq_eq_true z3
          subst z1; subst z2; subst z3
          cases hq2:sameSize cx m a0.block s with
          | true=>
           simp only [show Nat.ble 0 0=true from rfl,Bool.and_true]
           rw [← e]
           unfold addA
           simp only [Nat.zero_mul,Nat.add_zero,Nat.sub_self]
           obtain ⟨b,of,sp⟩:=a0
           simp only at hsp; subst hsp; rfl
          | false=>(try simp only [Bool.false_and]); exact e
         ·cases e
      ·exact e
     ·cases e
    ·cases e
   ·(try simp only [hs]); exact e
  ·cases e
 ·rename_i n el a hd
  split at e
  ·rename_i s h1 h2 h3
   (try simp only [h1,h2,liveCells_bes h h3]); exact e
  ·cases e
 ·cases e
theorem firstL_bes (h:Bes E u m) {s n:Nat} {x:Value} {l:List Value} (e:firstL u s n x=some l):firstL m s n x=some l:=by
 unfold firstL at e ⊢
 split at e
 ·cases n with
  | zero=>exact e
  | succ n=>exact rowAtL_bes h e
 ·exact e
 ·exact e
 ·cases e
theorem convertA_bes (h:Bes E u m) {s d:TypeId} {x v:Value} (e:convertA cx u s d x=some v):convertA cx m s d x=some v:=by
 unfold convertA at e ⊢
 split at e
 ·exact e
 ·exact e
 ·split at e
  ·rename_i h1
   split at e
   ·rename_i l hl
    (try simp only [h1,rowAtL_bes h hl]); exact e
   ·cases e
  ·rename_i h1; (try simp only [h1]); exact e
  ·cases e
 ·cases e
theorem lookupA_bes (h:Bes E u m) {t:TypeId} {x k v:Value} {ok:Bool} (e:lookupA cx u t x k ok=some v):lookupA cx m t x k ok=some v:=by
 unfold lookupA at e ⊢
 split at e
 ·rename_i d et hk
  split at e
  ·exact e
  ·rename_i r
   cases hg:u.hp.get r with
   | none=>rw [hg] at e; cases e
   | some o=>rw [hg] at e; (try simp only [h.got hg]); exact e
  ·cases e
 ·cases e
theorem lenA_bes (h:Bes E u m) {ts:List TypeId} {l:List Value} {v:Value} (e:lenA cx u ts l=some v):lenA cx m ts l=some v:=by
 unfold lenA at e ⊢
 split at e
 ·split at e
  ·exact e
  ·exact e
  ·exact e
  ·exact e
  ·rename_i r hd
   cases hg:u.hp.get r with
   | none=>rw [hg] at e; cases e
   | some o=>rw [hg] at e; (try simp only [h.got hg]); exact e
  ·cases e
 ·cases e
theorem capA_bes (h:Bes E u m) {ts:List TypeId} {l:List Value} {v:Value} (e:capA cx u ts l=some v):capA cx m ts l=some v:=by
 unfold capA at e ⊢
 split at e
 ·split at e
  ·exact e
  ·exact e
  ·rename_i el a n c hd
   cases hg:u.hp.get a.block with
   | none=>rw [hg] at e; cases e
   | some o=>rw [hg] at e; (try simp only [h.got hg]); exact e
  ·cases e
 ·cases e
theorem storeL_bes (h:Bes E u m) {a:Addr} {l:List Value} {u':Mem} (e:storeL u a l=some u'):∃ m',storeL m a l=some m'∧Bes E u' m':=by
 unfold storeL at e ⊢
 cases hs:a.spot with
 | some _=>simp only [hs] at e; cases e
 | none=>
  simp only [hs] at e ⊢
  cases hg:u.hp.get a.block with
  | none=>rw [hg] at e; cases e
  | some o=>
   rw [hg] at e; rw [h.got hg]
   cases o with
   | cells c k el x=>
    (try dsimp only at e ⊢)
    rw [show Nat.ble m.fl a.block=Nat.ble u.fl a.block by rw [h.fl]]
    split at e
    ·rename_i hc; cases e; exact ⟨_,by first | rfl | rw [hc],h.put (h.noE hg) _⟩
    ·cases e
   | _=>cases e
theorem storeT_bes (h:Bes E u m) {t:TypeId} {a:Addr} {v:Value} {u':Mem} (e:storeT cx u t a v=some u'):∃ m',storeT cx m t a v=some m'∧Bes E u' m':=by
 unfold storeT at e ⊢
 split at e
 ·split at e
  ·rename_i hb; (try simp only [hb]); exact storeL_bes h e
  ·cases e
 ·cases e
theorem setO_bes (h:Bes E u m) {b:Nat} {o ob:AObj} {u':Mem} (hb:u.hp.get b=some ob) (e:setO u b o=some u'):∃ m',setO m b o=some m'∧Bes E u' m':=by
 unfold setO at e ⊢
 rw [show Nat.ble m.fl b=Nat.ble u.fl b by rw [h.fl]]
 split at e
 ·rename_i hc; cases e; exact ⟨_,by first | rfl | rw [hc],h.put (h.noE hb) _⟩
 ·cases e
theorem newCells_bes (h:Bes E u m) (l:List Value) (e:TypeId) (x:Bool):(newCells m l e x).1=(newCells u l e x).1∧Bes E (newCells u l e x).2 (newCells m l e x).2:=⟨h.nx,h.new _⟩
theorem buildSliceA_bes (h:Bes E u m) {t:TypeId} {n:Nat} {ps:List (Nat×Value)} {v:Value} {u':Mem} (e:buildSliceA cx u t n ps=some (v,u')):∃ m',buildSliceA cx m t n ps=some (v,m')∧Bes E u' m':=by
 unfold buildSliceA at e ⊢
 split at e
 ·rename_i el hd
  split at e
  ·rename_i s z hs hz
   split at e
   ·rename_i hc
    split at e
    ·rename_i l hl
     obtain ⟨k1,k2⟩:=newCells_bes h l el false
     cases e
     exact ⟨_,by (try simp only [hs,hz,hc,hl]); (first | (rw [k1]; done) | (rw [k1]; rfl)),k2⟩
    ·cases e
   ·cases e
  ·cases e
 ·cases e
theorem makeSliceA_bes (h:Bes E u m) {t:TypeId} {a b v:Value} {u':Mem} (e:makeSliceA cx u t a b=some (v,u')):∃ m',makeSliceA cx m t a b=some (v,m')∧Bes E u' m':=by
 unfold makeSliceA at e ⊢
 split at e
 ·rename_i el k l k' c hd
  split at e
  ·rename_i s z i hs hz hi
   split at e
   ·rename_i hc
    obtain ⟨k1,k2⟩:=newCells_bes h (repL (cellsL z) c.toNat) el false
    cases e
    exact ⟨_,by (try simp only [hs,hz,hi,hc]); (first | (rw [k1]; done) | (rw [k1]; rfl)),k2⟩
   ·cases e
  ·cases e
 ·cases e
theorem giveUp_bes (h:Bes E u m) {base:Option Addr} {e s cap:Nat} {u':Mem} (k:giveUp u base e s cap=some u'):∃ m',giveUp m base e s cap=some m'∧Bes E u' m':=by
 unfold giveUp at k ⊢
 split at k
 ·cases k; exact ⟨_,rfl,h⟩
 ·rename_i a
  (try dsimp only)
  cases hs:a.spot with
  | some _=>simp only [hs] at k ⊢; cases k; exact ⟨_,rfl,h⟩
  | none=>
   simp only [hs] at k ⊢
   cases hg:u.hp.get a.block with
   | none=>rw [hg] at k; cases k
   | some o=>
    rw [hg] at k; rw [h.got hg]
    cases o with
    | cells c n e' loose=>
     (try dsimp only at k ⊢)
     rw [show Nat.ble m.fl a.block=Nat.ble u.fl a.block by rw [h.fl]]
     split at k
     ·cases k; exact ⟨_,rfl,h⟩
     ·split at k
      ·rename_i h1
       split at k
       ·rename_i h2
        split at k
        ·rename_i h3
         cases k
         exact ⟨_,by first | rfl | simp only [h1,h2,h3],h.del (h.noE hg)⟩
        ·cases k
       ·rename_i h2
        cases k; exact ⟨_,by first | rfl | simp only [h1,h2],h⟩
      ·cases k
    | _=>cases k
theorem appendT_bes (h:Bes E u m) {el:TypeId} {i:TypeInfo} {base:Option Addr} {len cap n:Nat} {new:List Value} {v:Value} {u':Mem} (e:appendT cx u el i base len cap n new=some (v,u')):∃ m',appendT cx m el i base len cap n new=some (v,m')∧Bes E u' m':=by
 unfold appendT at e ⊢
 split at e
 ·cases e
 ·rename_i hc
  (try dsimp only)
  (try simp only [hc])
  split at e
  ·split at e
   ·split at e
    ·cases e; exact ⟨_,rfl,h⟩
    ·rename_i hne
     split at e
     ·rename_i m1 hst
      cases e
      obtain ⟨m',k1,k2⟩:=storeL_bes h hst
      refine ⟨m',?_,k2⟩
      cases new with
      | nil=>exact (hne rfl).elim
      | cons p q=>simp only [k1]
     ·cases e
   ·split at e
    ·cases e; exact ⟨_,rfl,h⟩
    ·cases e
  ·split at e
   ·rename_i old z hbd hold hz
    split at e
    ·rename_i m1 hg hc3
     obtain ⟨m',k1,k2⟩:=giveUp_bes h hg
     obtain ⟨q1,q2⟩:=newCells_bes k2 (old ++ new) el true
     cases e
     exact ⟨_,by simp only [hbd,firstL_bes h hold,hz,k1,hc3]; (first | (rw [q1]; done) | (rw [q1]; rfl)),q2⟩
    ·cases e
   ·cases e
theorem appendZ_bes (h:Bes E u m) {el:TypeId} {i:TypeInfo} {ux:TypeDesc} {x:Value} {base:Option Addr} {len cap:Nat} {v:Value} {u':Mem} (e:appendZ cx u el i ux x base len cap=some (v,u')):∃ m',appendZ cx m el i ux x base len cap=some (v,m')∧Bes E u' m':=by
 unfold appendZ at e ⊢
 split at e
 ·split at e
  ·exact appendT_bes h e
  ·cases e
 ·cases e
theorem appendA_bes (h:Bes E u m) {ts:List TypeId} {args:List Value} {v:Value} {u':Mem} (e:appendA cx u ts args=some (v,u')):∃ m',appendA cx m ts args=some (v,m')∧Bes E u' m':=by
 unfold appendA at e ⊢
 split at e
 ·rename_i t tx base len cap x
  split at e
  ·rename_i el ux hd hdx
   split at e
   ·rename_i i n hi hn hr
    split at e
    ·rename_i new hnew
     split at e
     ·cases e
     ·rename_i hc
      (try dsimp only)
      simp only [hd,hdx,hi,hn,hr,firstL_bes h hnew,hc]
      split at e
      ·split at e
       ·split at e
        ·cases e; exact ⟨_,rfl,h⟩
        ·rename_i hne
         split at e
         ·rename_i m1 hst
          cases e
          obtain ⟨m',k1,k2⟩:=storeL_bes h hst
          refine ⟨m',?_,k2⟩
          cases new with
          | nil=>exact (hne rfl).elim
          | cons p q=>simp only [k1]
         ·cases e
       ·split at e
        ·cases e; exact ⟨_,rfl,h⟩
        ·cases e
      ·split at e
       ·rename_i old z hbd hold hz
        split at e
        ·rename_i m1 hg hc3
         obtain ⟨m',k1,k2⟩:=giveUp_bes h hg
         obtain ⟨q1,q2⟩:=newCells_bes k2 (old ++ new) el true
         cases e
         exact ⟨_,by simp only [hbd,firstL_bes h hold,hz,k1,hc3]; (first | (rw [q1]; done) | (rw [q1]; rfl)),q2⟩
        ·cases e
       ·cases e
    ·cases e
   ·exact appendZ_bes h e
   ·cases e
  ·cases e
 ·cases e
theorem copyA_bes (h:Bes E u m) {ts:List TypeId} {args:List Value} {v:Value} {u':Mem} (e:copyA cx u ts args=some (v,u')):∃ m',copyA cx m ts args=some (v,m')∧Bes E u' m':=by
 unfold copyA at e ⊢
 split at e
 ·split at e
  ·rename_i el hd
   split at e
   ·rename_i s n hs hn
    split at e
    ·rename_i l hl
     (try dsimp only)
     simp only [hd,hs,hn,firstL_bes h hl]
     split at e
     ·split at e
      ·cases e; exact ⟨_,rfl,h⟩
      ·rename_i hne
       split at e
       ·rename_i m1 hst
        cases e
        obtain ⟨m',k1,k2⟩:=storeL_bes h hst
        refine ⟨m',?_,k2⟩
        cases l with
        | nil=>exact (hne rfl).elim
        | cons p q=>simp only [k1]
       ·cases e
     ·cases e; exact ⟨_,rfl,h⟩
    ·cases e
   ·cases e
  ·cases e
 ·cases e
theorem mapUpdateA_bes (h:Bes E u m) {t:TypeId} {x k v:Value} {u':Mem} (e:mapUpdateA cx u t x k v=some u'):∃ m',mapUpdateA cx m t x k v=some m'∧Bes E u' m':=by
 unfold mapUpdateA at e ⊢
 split at e
 ·rename_i d et r hk
  (try dsimp only)
  cases hg:u.hp.get r with
  | none=>rw [hg] at e; cases e
  | some o=>
   rw [hg] at e; rw [h.got hg]
   cases o with
   | map es clock=>
    (try dsimp only at e ⊢)
    split at e
    ·rename_i hf; exact setO_bes h hg e
    ·rename_i hf; exact setO_bes h hg e
    ·cases e
   | _=>cases e
 ·cases e
theorem mapEntryA_bes (h:Bes E u m) {t:TypeId} {x k v:Value} {u':Mem} (e:mapEntryA cx u t x k=some (v,u')):∃ m',mapEntryA cx m t x k=some (v,m')∧Bes E u' m':=by
 unfold mapEntryA at e ⊢
 split at e
 ·rename_i d et r hk
  (try dsimp only)
  cases hg:u.hp.get r with
  | none=>rw [hg] at e; cases e
  | some o=>
   rw [hg] at e; rw [h.got hg]
   cases o with
   | map es clock=>
    (try dsimp only at e ⊢)
    split at e
    ·rename_i hf
     split at e
     ·rename_i m1 hs
      obtain ⟨m',k1,k2⟩:=setO_bes h hg hs
      cases e
      exact ⟨m',by first | rfl | simp only [k1],k2⟩
     ·cases e
    ·rename_i hf
     split at e
     ·rename_i z hz
      split at e
      ·rename_i m1 hs
       obtain ⟨m',k1,k2⟩:=setO_bes h hg hs
       cases e
       exact ⟨m',by first | rfl | simp only [k1],k2⟩
      ·cases e
     ·cases e
    ·cases e
   | _=>cases e
 ·cases e
theorem entryStoreA_bes (h:Bes E u m) {x s v:Value} {u':Mem} (e:entryStoreA u x s v=some u'):∃ m',entryStoreA m x s v=some m'∧Bes E u' m':=by
 unfold entryStoreA at e ⊢
 split at e
 ·rename_i r k born
  (try dsimp only)
  cases hg:u.hp.get r with
  | none=>rw [hg] at e; cases e
  | some o=>
   rw [hg] at e; rw [h.got hg]
   cases o with
   | map es clock=>
    (try dsimp only at e ⊢)
    split at e
    ·rename_i i hf; exact setO_bes h hg e
    ·cases e
   | _=>cases e
 ·cases e
theorem deleteA_bes (h:Bes E u m) {t:TypeId} {x k:Value} {u':Mem} (e:deleteA cx u t x k=some u'):∃ m',deleteA cx m t x k=some m'∧Bes E u' m':=by
 unfold deleteA at e ⊢
 split at e
 ·cases e; exact ⟨_,rfl,h⟩
 ·rename_i d et r hk
  (try dsimp only)
  cases hg:u.hp.get r with
  | none=>rw [hg] at e; cases e
  | some o=>
   rw [hg] at e; rw [h.got hg]
   cases o with
   | map es clock=>
    (try dsimp only at e ⊢)
    split at e
    ·rename_i hf; exact setO_bes h hg e
    ·cases e; exact ⟨_,rfl,h⟩
    ·cases e
   | _=>cases e
 ·cases e
theorem clearA_bes (h:Bes E u m) {ts:List TypeId} {args:List Value} {v:Value} {u':Mem} (e:clearA cx u ts args=some (v,u')):∃ m',clearA cx m ts args=some (v,m')∧Bes E u' m':=by
 unfold clearA at e ⊢
 split at e
 ·split at e
  ·(try dsimp only)
   split at e
   ·cases e; exact ⟨_,rfl,h⟩
   ·cases e; exact ⟨_,rfl,h⟩
   ·split at e
    ·rename_i z hz
     split at e
     ·rename_i hb
      split at e
      ·rename_i m1 hst
       cases e
       obtain ⟨m',k1,k2⟩:=storeL_bes h hst
       exact ⟨m',by first | rfl | simp only [hb,k1],k2⟩
      ·cases e
     ·cases e
    ·cases e
  ·cases e
 ·cases e
theorem builtinA_bes (h:Bes E u m) {b:Builtin} {ts:List TypeId} {args:List Value} {v:Value} {u':Mem} (e:builtinA cx u b ts args=some (v,u')):∃ m',builtinA cx m b ts args=some (v,m')∧Bes E u' m':=by
 unfold builtinA at e ⊢
 (try dsimp only at e ⊢)
 cases b <;> (try dsimp only at e ⊢)
 case append=>exact appendA_bes h e
 case copy=>exact copyA_bes h e
 case len=>
  split at e
  ·rename_i x hx; cases e; exact ⟨m,by rw [lenA_bes h hx],h⟩
  ·cases e
 case cap=>
  split at e
  ·rename_i x hx; cases e; exact ⟨m,by rw [capA_bes h hx],h⟩
  ·cases e
 case max=>
  split at e
  ·split at e
   ·rename_i x hx; cases e; exact ⟨m,by (try dsimp only); (try rw [hx]),h⟩
   ·cases e
  ·cases e
 case min=>
  split at e
  ·split at e
   ·rename_i x hx; cases e; exact ⟨m,by (try dsimp only); (try rw [hx]),h⟩
   ·cases e
  ·cases e
 case delete=>
  split at e
  ·split at e
   ·rename_i m1 hd
    cases e
    obtain ⟨m',k1,k2⟩:=deleteA_bes h hd
    exact ⟨m',by (try dsimp only); (first | (rw [k1]; done) | (rw [k1]; rfl)),k2⟩
   ·cases e
  ·cases e
 case clear=>exact clearA_bes h e
 all_goals cases e
end
def FrC (f:Caller):Prop:=∀ k a u r u',f k a u=some (r,u')→∀ E m,Bes E u m→∃ m',f k a m=some (r,m')∧Bes E u' m'
theorem evalA_at (tm:Tr Value) (sz:Nat) (m m':Mem) (x:Operand):evalA cx ⟨tm,sz,m⟩ x=evalA cx ⟨tm,sz,m'⟩ x:=by cases x <;> rfl
theorem ptrA_at (tm:Tr Value) (sz:Nat) (m m':Mem) (x:Operand):ptrA cx ⟨tm,sz,m⟩ x=ptrA cx ⟨tm,sz,m'⟩ x:=by unfold ptrA; rw [evalA_at tm sz m m' x]
theorem apartB_at (tm:Tr Value) (sz:Nat) (m m':Mem) (bw:Nat) (rng:Option (Nat×Nat)) (base rd s:Nat):∀ (l:List Oper) (n:Nat),apartB cx ⟨tm,sz,m⟩ bw rng base rd s l n=apartB cx ⟨tm,sz,m'⟩ bw rng base rd s l n
 | [],_=>rfl
 | x :: r,n=>by
  have ih:=apartB_at tm sz m m' bw rng base rd s r (n+1)
  unfold apartB
  simp only [ptrA_at tm sz m m',ih]
theorem apartD_at (tm:Tr Value) (sz:Nat) (m m':Mem) (o:Op) (ops:List Oper) (base rd s:Nat):apartD cx ⟨tm,sz,m'⟩ o ops base rd s=apartD cx ⟨tm,sz,m⟩ o ops base rd s:=by
 have hc:chgB cx ⟨tm,sz,m'⟩ o=chgB cx ⟨tm,sz,m⟩ o:=by
  unfold chgB
  cases o <;> simp only [ptrA_at tm sz m' m,evalA_at tm sz m' m]
 unfold apartD
 simp only [hc,apartB_at tm sz m' m]
theorem evalL_at (tm:Tr Value) (sz:Nat) (m m':Mem):∀ l:List Operand,evalL cx ⟨tm,sz,m⟩ l=evalL cx ⟨tm,sz,m'⟩ l
 | []=>rfl
 | x :: r=>by simp only [evalL,evalA_at tm sz m m',evalL_at tm sz m m' r]
theorem evalO_at (tm:Tr Value) (sz:Nat) (m m':Mem) (x:Option Operand):evalO cx ⟨tm,sz,m⟩ x=evalO cx ⟨tm,sz,m'⟩ x:=by
 cases x with
 | none=>rfl
 | some x=>simp only [evalO,evalA_at tm sz m m']
theorem evalP_at (tm:Tr Value) (sz:Nat) (m m':Mem):∀ l:List (Nat×Operand),evalP cx ⟨tm,sz,m⟩ l=evalP cx ⟨tm,sz,m'⟩ l
 | []=>rfl
 | (i,x) :: r=>by simp only [evalP,evalA_at tm sz m m',evalP_at tm sz m m' r]
section
variable {E:Nat→Option AObj} {u m:Mem}
theorem callA_bes {f:Caller} (hf:FrC f) (h:Bes E u m) {tm:Tr Value} {sz:Nat} {c:Call} {v:Value} {u':Mem} (e:callA cx f ⟨tm,sz,u⟩ c=some (v,u')):∃ m',callA cx f ⟨tm,sz,m⟩ c=some (v,m')∧Bes E u' m':=by
 unfold callA at e ⊢
 rw [evalL_at tm sz m u]
 cases ha:evalL cx ⟨tm,sz,u⟩ c.args.toList with
 | none=>rw [ha] at e; cases e
 | some args=>
  rw [ha] at e
  (try dsimp only at e ⊢)
  cases hc:c.callee with
  | builtin b=>rw [hc] at e; exact builtinA_bes h e
  | value g=>
   rw [hc] at e
   (try dsimp only at e ⊢)
   rw [evalA_at tm sz m u]
   split at e
   ·exact hf _ _ _ _ _ e _ _ h
   ·cases e
  | invoke x name=>
   rw [hc] at e
   (try dsimp only at e ⊢)
   rw [evalA_at tm sz m u]
   split at e
   ·split at e
    ·exact hf _ _ _ _ _ e _ _ h
    ·cases e
   ·cases e
theorem opA_bes {f:Caller} (hf:FrC f) (h:Bes E u m) {tm:Tr Value} {sz:Nat} {o:Oper} {v:Option Value} {u':Mem} (e:opA cx f ⟨tm,sz,u⟩ o=some (v,u')):∃ m',opA cx f ⟨tm,sz,m⟩ o=some (v,m')∧Bes E u' m':=by
 unfold opA at e ⊢
 (try dsimp only at e ⊢)
 cases ho:o.op <;> simp only [ho] at e ⊢ <;> (try simp only [evalA_at tm sz m u,evalL_at tm sz m u,evalO_at tm sz m u,evalP_at tm sz m u])
 all_goals (try (cases e; done))
 case move x=>
  split at e
  ·cases e; exact ⟨m,rfl,h⟩
  ·cases e
 case assign x=>
  split at e
  ·cases e; exact ⟨m,rfl,h⟩
  ·cases e
 case pick c x y=>
  split at e
  ·rename_i h1 h2; cases e; exact ⟨m,by first | rfl | rw [h1,h2],h⟩
  ·rename_i h1 h2; cases e; exact ⟨m,by first | rfl | rw [h1,h2],h⟩
  ·cases e
 case alloc t=>
  split at e
  ·rename_i z hz
   obtain ⟨k1,k2⟩:=newCells_bes h (cellsL z) t false
   cases e
   exact ⟨_,by (first | (rw [← k1]; done) | (rw [← k1]; rfl)),k2⟩
  ·cases e
 case box t x=>
  split at e
  ·rename_i z hz
   obtain ⟨k1,k2⟩:=newCells_bes h (cellsL z) t false
   cases e
   exact ⟨_,by (first | (rw [← k1]; done) | (rw [← k1]; rfl)),k2⟩
  ·cases e
 case build t ps=>
  split at e
  ·rename_i l hl
   split at e
   ·rename_i x hx; cases e; exact ⟨m,by (try rw [hl]); (try dsimp only); (try rw [hx]),h⟩
   ·cases e
  ·cases e
 case buildSlice t n ps=>
  split at e
  ·rename_i l hl
   split at e
   ·rename_i x m1 hx
    obtain ⟨m',k1,k2⟩:=buildSliceA_bes h hx
    cases e
    exact ⟨m',by (try rw [hl]); (try dsimp only); (first | (rw [k1]; done) | (rw [k1]; rfl)),k2⟩
   ·cases e
  ·cases e
 case load t a=>
  split at e
  ·rename_i p hp
   split at e
   ·rename_i x hx; cases e; exact ⟨m,by (try rw [hp]); (try dsimp only); rw [loadT_bes h hx],h⟩
   ·cases e
  ·cases e
 case store t a x=>
  split at e
  ·rename_i p y hp hy
   split at e
   ·rename_i m1 hst
    obtain ⟨m',k1,k2⟩:=storeT_bes h hst
    cases e
    exact ⟨m',by (try rw [hp,hy]); (try dsimp only); (first | (rw [k1]; done) | (rw [k1]; rfl)),k2⟩
   ·cases e
  ·cases e
 case nilCheck x=>
  split at e
  ·rename_i hp; cases e; exact ⟨m,by first | rfl | rw [hp],h⟩
  ·rename_i hp; cases e; exact ⟨m,by first | rfl | rw [hp],h⟩
  ·rename_i hp; cases e; exact ⟨m,by first | rfl | rw [hp],h⟩
  ·cases e
 case binOp op t x y q=>
  split at e
  ·rename_i a b ha hb
   split at e
   ·rename_i hg
    split at e
    ·rename_i x hx; cases e; exact ⟨m,by (try rw [ha,hb]); (try dsimp only); (try rw [hg]); (try dsimp only); rw [binOpA_bes h hx],h⟩
    ·cases e
   ·cases e
  ·cases e
 case unOp op t x=>
  split at e
  ·rename_i a ha
   split at e
   ·rename_i x hx; cases e; exact ⟨m,by (try rw [ha]); (try dsimp only); (try rw [hx]),h⟩
   ·cases e
  ·cases e
 case convert s d x=>
  split at e
  ·rename_i a ha
   split at e
   ·rename_i x hx; cases e; exact ⟨m,by (try rw [ha]); (try dsimp only); rw [convertA_bes h hx],h⟩
   ·cases e
  ·cases e
 case makeInterface t x=>
  split at e
  ·cases e
  ·rename_i a d h1 h2 h3
   cases e
   refine ⟨m,?_,h⟩
   first | rfl | (rw [h2,h1]; rfl)
  ·cases e
 case makeFunc fn ff c=>
  split at e
  ·rename_i a b ha hb; cases e; exact ⟨m,by first | rfl | rw [ha,hb],h⟩
  ·cases e
 case makeMap t r=>
  cases r with
  | none=>cases e; exact ⟨_,by rw [h.nx],by have:=h.new (.map [] 0); rw [h.nx] at this; exact this⟩
  | some r=>cases e
 case makeSlice t l c=>
  split at e
  ·rename_i a b ha hb
   split at e
   ·rename_i x m1 hx
    obtain ⟨m',k1,k2⟩:=makeSliceA_bes h hx
    cases e
    exact ⟨m',by (try rw [ha,hb]); (try dsimp only); (first | (rw [k1]; done) | (rw [k1]; rfl)),k2⟩
   ·cases e
  ·cases e
 case slice t x lo hi mx=>
  split at e
  ·rename_i a b c d ha hb hc hd
   split at e
   ·rename_i x hx; cases e; exact ⟨m,by (try rw [ha,hb,hc,hd]); (try dsimp only); rw [sliceOp_bes h hx],h⟩
   ·cases e
  ·cases e
 case fieldAddr t x i=>
  split at e
  ·rename_i a ha
   split at e
   ·rename_i x hx; cases e; exact ⟨m,by (try rw [ha]); (try dsimp only); (try rw [hx]),h⟩
   ·cases e
  ·cases e
 case field t x i=>
  split at e
  ·rename_i a ha
   split at e
   ·rename_i x hx; cases e; exact ⟨m,by (try rw [ha]); (try dsimp only); (try rw [hx]),h⟩
   ·cases e
  ·cases e
 case indexAddr t x i=>
  split at e
  ·rename_i a b ha hb
   split at e
   ·rename_i x hx; cases e; exact ⟨m,by (try rw [ha,hb]); (try dsimp only); (try rw [hx]),h⟩
   ·cases e
  ·cases e
 case index t x i=>
  split at e
  ·rename_i a b ha hb
   split at e
   ·rename_i x hx; cases e; exact ⟨m,by (try rw [ha,hb]); (try dsimp only); (try rw [hx]),h⟩
   ·cases e
  ·cases e
 case lookup t x k ok=>
  split at e
  ·rename_i a b ha hb
   split at e
   ·rename_i x hx; cases e; exact ⟨m,by (try rw [ha,hb]); (try dsimp only); rw [lookupA_bes h hx],h⟩
   ·cases e
  ·cases e
 case mapUpdate t x k y=>
  split at e
  ·rename_i a b c ha hb hc
   split at e
   ·rename_i m1 hx
    obtain ⟨m',k1,k2⟩:=mapUpdateA_bes h hx
    cases e
    exact ⟨m',by (try rw [ha,hb,hc]); (try dsimp only); (first | (rw [k1]; done) | (rw [k1]; rfl)),k2⟩
   ·cases e
  ·cases e
 case insert t x k y=>
  split at e
  ·rename_i a b c ha hb hc
   split at e
   ·rename_i m1 hx
    obtain ⟨m',k1,k2⟩:=mapUpdateA_bes h hx
    cases e
    exact ⟨m',by (try rw [ha,hb,hc]); (try dsimp only); (first | (rw [k1]; done) | (rw [k1]; rfl)),k2⟩
   ·cases e
  ·cases e
 case mapEntry t x k=>
  split at e
  ·rename_i a b ha hb
   split at e
   ·rename_i x m1 hx
    obtain ⟨m',k1,k2⟩:=mapEntryA_bes h hx
    cases e
    exact ⟨m',by (try rw [ha,hb]); (try dsimp only); (first | (rw [k1]; done) | (rw [k1]; rfl)),k2⟩
   ·cases e
  ·cases e
 case entryStore t x s y=>
  split at e
  ·rename_i a b c ha hb hc
   split at e
   ·rename_i m1 hx
    obtain ⟨m',k1,k2⟩:=entryStoreA_bes h hx
    cases e
    exact ⟨m',by (try rw [ha,hb,hc]); (try dsimp only); (first | (rw [k1]; done) | (rw [k1]; rfl)),k2⟩
   ·cases e
  ·cases e
 case typeAssert x xT t ok=>
  split at e
  ·rename_i a ha
   split at e
   ·rename_i x hx; cases e; exact ⟨m,by (try rw [ha]); (try dsimp only); (try rw [hx]),h⟩
   ·cases e
  ·cases e
 case extract t i=>
  split at e
  ·rename_i vs ha
   split at e
   ·rename_i x hx; cases e; exact ⟨m,by (try rw [ha]); (try dsimp only); (try rw [hx]),h⟩
   ·cases e
  ·cases e
 case call c=>
  split at e
  ·rename_i x m1 hx
   obtain ⟨m',k1,k2⟩:=callA_bes hf h hx
   cases e
   exact ⟨m',by (first | (rw [k1]; done) | (rw [k1]; rfl)),k2⟩
  ·cases e
theorem putT_bes (h:Bes E u m) {tm:Tr Value} {sz:Nat} {u0 m0:Mem} {dst:Option Tmp} {v:Option Value} {st:St} (e:putT ⟨tm,sz,u0⟩ dst v u=some st):st.m=u∧putT ⟨tm,sz,m0⟩ dst v m=some ⟨st.tm,st.sz,m⟩:=by
 unfold putT at e ⊢
 split at e
 ·cases e; exact ⟨rfl,rfl⟩
 ·(try dsimp only at e ⊢)
  split at e
  ·rename_i hb
   (try rw [hb])
   split at e
   ·cases e; exact ⟨rfl,rfl⟩
   ·cases e; exact ⟨rfl,rfl⟩
  ·cases e
theorem wantedA_at (ops:List Oper) (tm:Tr Value) (sz:Nat) (m m':Mem) (o:Oper):wantedA ops ⟨tm,sz,m⟩ o=wantedA ops ⟨tm,sz,m'⟩ o:=rfl
theorem runOps_bes {f:Caller} (hf:FrC f) {ops:List Oper}:∀ {rest:List Oper} {tm:Tr Value} {sz:Nat} {u m:Mem} {st:St},Bes E u m→runOps cx f ops rest ⟨tm,sz,u⟩=some st→∃ m',runOps cx f ops rest ⟨tm,sz,m⟩=some ⟨st.tm,st.sz,m'⟩∧Bes E st.m m'
 | [],tm,sz,u,m,st,h,e=>by unfold runOps at e; cases e; exact ⟨m,rfl,h⟩
 | o :: r,tm,sz,u,m,st,h,e=>by
  unfold runOps at e ⊢
  rw [wantedA_at ops tm sz m u]
  split at e
  ·split at e
   ·rename_i v m1 hop
    obtain ⟨m2,k1,k2⟩:=opA_bes hf h hop
    rw [k1]
    split at e
    ·rename_i st1 hp
     obtain ⟨p1,p2⟩:=putT_bes (m0:=m) k2 hp
     (try dsimp only)
     rw [p2]
     obtain ⟨tm1,sz1,u1⟩:=st1
     simp only at p1; subst p1
     exact runOps_bes hf k2 e
    ·cases e
   ·cases e
  ·split at e
   ·rename_i st1 hp
    obtain ⟨p1,p2⟩:=putT_bes (m0:=m) h hp
    (try dsimp only)
    rw [p2]
    obtain ⟨tm1,sz1,u1⟩:=st1
    simp only at p1; subst p1
    exact runOps_bes hf h e
   ·cases e
  ·cases e
def HiBes (E:Nat→Option AObj):List (Nat×Bool×Mem×Nat)→List (Nat×Bool×Mem×Nat)→Prop
 | [],[]=>True
 | x :: r,y :: q=>x.1=y.1∧x.2.1=y.2.1∧Bes E x.2.2.1 y.2.2.1∧x.2.2.2=y.2.2.2∧HiBes E r q
 | _,_=>False
structure DrBes (E:Nat→Option AObj) (base:Nat) (d d':Dr):Prop where
 took:d'.took=d.took
 made:d'.made=d.made
 rd:d'.rd=d.rd
 hist:HiBes E d.hist d'.hist
 free:∀ b o,E b=some o→b < base
 ids:∀ e∈d.made,base≤e.2.1
theorem addMade_bes {base:Nat} (hfree:∀ b o,E b=some o→b < base) {p:Nat→Bool}:∀ {made:List (Nat×Nat×AObj)},(∀ e∈made,base≤e.2.1)→∀ {u m:Mem},Bes E u m→Bes E (addMade p made u) (addMade p made m)
 | [],_,u,m,h=>h
 | (i,id,o) :: r,hid,u,m,h=>by
  unfold addMade
  have ih:=addMade_bes hfree (p:=p) (made:=r) (fun e he=>hid e (List.mem_cons_of_mem _ he)) h
  split
  ·refine ih.put ?_ o
   cases hE:E id with
   | none=>rfl
   | some o'=>
    have h1:=hfree _ _ hE
    have h2:=hid _ (List.mem_cons_self ..)
    simp only at h2
    omega
  ·exact ih
theorem memAt_bes {anc:Nat}:∀ {hist hist':List (Nat×Bool×Mem×Nat)} {cur cur':Mem} {tk:Nat} {r:Mem×Nat},HiBes E hist hist'→Bes E cur cur'→memAt anc cur tk hist=some r→∃ m',memAt anc cur' tk hist'=some (m',r.2)∧Bes E r.1 m'
 | [],[],cur,cur',tk,r,_,h,e=>by unfold memAt at e; cases e; exact ⟨cur',rfl,h⟩
 | [],_ :: _,_,_,_,_,hh,_,_=>hh.elim
 | _ :: _,[],_,_,_,_,hh,_,_=>hh.elim
 | (i,s,b,t) :: l,(i',s',b',t') :: l',cur,cur',tk,r,hh,h,e=>by
  obtain ⟨h1,h2,h3,h4,h5⟩:=hh
  simp only at h1 h2 h3 h4
  subst h1; subst h2; subst h4
  unfold memAt at e ⊢
  split at e
  ·cases e; exact ⟨cur',rfl,h⟩
  ·split at e
   ·exact memAt_bes h5 h3 e
   ·cases e
theorem waitsFor_bes {s:Nat}:∀ {hist hist':List (Nat×Bool×Mem×Nat)},HiBes E hist hist'→waitsFor s hist'=waitsFor s hist
 | [],[],_=>rfl
 | [],_ :: _,hh=>hh.elim
 | _ :: _,[],hh=>hh.elim
 | (i,s,b,t) :: l,(i',s',b',t') :: l',hh=>by
  obtain ⟨h1,_⟩:=hh
  simp only at h1; subst h1; rfl
theorem ownC_bes {ops:List Oper} {s i base:Nat} {d d':Dr} {q:List Nat} {r:List Oper} (hd:DrBes E base d d'):ownC ops s i d' q r=ownC ops s i d q r:=by
 obtain ⟨took,made,hist,rd⟩:=d
 obtain ⟨took',made',hist',rd'⟩:=d'
 obtain ⟨h1,h2,h3,h4,_,_⟩:=hd
 simp only at h1 h2 h3 h4
 subst h1; subst h2; subst h3
 unfold ownC
 cases hist with
 | nil=>
  cases hist' with
  | nil=>rfl
  | cons x y=>exact h4.elim
 | cons x y=>
  cases hist' with
  | nil=>exact h4.elim
  | cons x y=>rfl
theorem drawOp_bes {f:Caller} (hf:FrC f) {ops:List Oper} {o:Oper} {r:List Oper} {s:Nat} {q:List Nat} {i base:Nat} {d d1:Dr} {tm:Tr Value} {sz:Nat} {v:Option Value} {u1:Mem} (d':Dr)
  (h:Bes E u m) (hd:DrBes E base d d') (e:drawOp cx f ops o r s q i base d ⟨tm,sz,u⟩=some (v,u1,d1)) :
  ∃ m1 d1',drawOp cx f ops o r s q i base d' ⟨tm,sz,m⟩=some (v,m1,d1')∧Bes E u1 m1∧DrBes E base d1 d1':=by
 unfold drawOp at e ⊢
 split at e
 ·split at e
  ·unfold drawMake at e ⊢
   (try dsimp only at e ⊢)
   split at e
   ·rename_i x mm hop
    split at e
    ·rename_i ob hob
     cases e
     (try rw [hop])
     (try dsimp only)
     (try rw [hob])
     exact ⟨m,_,rfl,h,⟨hd.took,by first | rfl | simp only [hd.made],hd.rd,hd.hist,hd.free,fun e he=>by
      rcases List.mem_cons.1 he with rfl | he
      ·simp
      ·exact hd.ids e he⟩⟩
    ·cases e
   ·cases e
  ·unfold drawChange at e ⊢
   rw [waitsFor_bes hd.hist,hd.rd,hd.took,hd.made]
   split at e
   ·cases e
   ·rename_i hw
    split at e
    ·rename_i hc
     split at e
     ·rename_i hap
      split at e
      ·rename_i hdn
       have hdn':apartD cx ⟨tm,sz,m⟩ o.op ops base d.rd s=true:=(apartD_at ..).trans hdn
       split at e
       ·rename_i x mm hop
        cases e
        have hb:=addMade_bes hd.free (p:=newIn s d.took) hd.ids h
        obtain ⟨m1,k1,k2⟩:=opA_bes hf hb hop
        (try dsimp only at k1 ⊢)
        simp only [hdn',k1]
        exact ⟨_,_,rfl,k2,⟨rfl,by first | rfl | simp only [hd.made],by first | rfl | simp only [hd.rd],⟨rfl,rfl,h,rfl,hd.hist⟩,hd.free,hd.ids⟩⟩
       ·cases e
      ·cases e
     ·rename_i hap
      split at e
      ·rename_i x mm hop
       cases e
       have hb:=(addMade_bes hd.free (p:=newIn s d.took) hd.ids h).setFl (softFl ops base u.nx s i d q r)
       obtain ⟨m1,k1,k2⟩:=opA_bes hf hb hop
       have e1:softFl ops base m.nx s i d' q r=softFl ops base u.nx s i d q r:=by unfold softFl; rw [ownC_bes hd,h.nx]
       simp only [e1]
       (try dsimp only at k1 ⊢)
       rw [k1]
       refine ⟨_,_,rfl,?_,⟨rfl,by first | rfl | simp only [hd.made],by first | rfl | simp only [hd.rd],⟨rfl,rfl,h,rfl,hd.hist⟩,hd.free,hd.ids⟩⟩
       have:=k2.setFl u.fl
       rw [h.fl]; exact this
      ·cases e
    ·rename_i hc
     split at e
     ·rename_i x mm hop
      cases e
      have hb:=addMade_bes hd.free (p:=newIn s d.took) hd.ids h
      obtain ⟨m1,k1,k2⟩:=opA_bes hf hb hop
      (try dsimp only at k1 ⊢)
      rw [k1]
      exact ⟨_,_,rfl,k2,⟨rfl,by first | rfl | simp only [hd.made],by first | rfl | simp only [hd.rd],⟨rfl,rfl,h,rfl,hd.hist⟩,hd.free,hd.ids⟩⟩
     ·cases e
 ·unfold drawRead at e ⊢
  split at e
  ·rename_i m0 tk hm
   obtain ⟨m',k1,k2⟩:=memAt_bes hd.hist h hm
   rw [hd.took]
   (try dsimp only at k1 ⊢)
   rw [k1,hd.made,hd.rd]
   split at e
   ·rename_i x mm hop
    cases e
    obtain ⟨m1,q1,q2⟩:=opA_bes hf (addMade_bes hd.free (p:=newIn s tk) hd.ids k2) hop
    (try dsimp only at q1 ⊢)
    rw [q1]
    exact ⟨m,_,rfl,h,⟨rfl,rfl,rfl,hd.hist,hd.free,hd.ids⟩⟩
   ·cases e
  ·cases e
 ·unfold drawPlain at e ⊢
  (try dsimp only at e ⊢)
  split at e
  ·rename_i x mm hop
   cases e
   (try rw [hop])
   exact ⟨m,d',rfl,h,hd⟩
  ·cases e
theorem runDraw_bes {f:Caller} (hf:FrC f) {ops:List Oper} {base:Nat}:∀ {rest:List Oper} {ss:List Nat} {i:Nat} {d:Dr} {tm:Tr Value} {sz:Nat} {u m:Mem} {st:St} (d':Dr),Bes E u m→DrBes E base d d' →
  runDraw cx f ops base rest ss i d ⟨tm,sz,u⟩=some st→∃ m',runDraw cx f ops base rest ss i d' ⟨tm,sz,m⟩=some ⟨st.tm,st.sz,m'⟩∧Bes E st.m m'
 | [],ss,i,d,tm,sz,u,m,st,d',h,hd,e=>by
  unfold runDraw at e ⊢
  cases e
  rw [hd.took,hd.made]
  exact ⟨_,rfl,addMade_bes hd.free hd.ids h⟩
 | o :: r,[],i,d,tm,sz,u,m,st,d',h,hd,e=>by unfold runDraw at e; cases e
 | o :: r,s :: q,i,d,tm,sz,u,m,st,d',h,hd,e=>by
  unfold runDraw at e ⊢
  rw [wantedA_at ops tm sz m u]
  split at e
  ·split at e
   ·rename_i v m1 d1 hop
    obtain ⟨m2,d2,k1,k2,k3⟩:=drawOp_bes hf d' h hd hop
    rw [k1]
    split at e
    ·rename_i st1 hp
     obtain ⟨p1,p2⟩:=putT_bes (m0:=m) k2 hp
     (try dsimp only)
     rw [p2]
     obtain ⟨tm1,sz1,u1⟩:=st1
     simp only at p1; subst p1
     exact runDraw_bes hf d2 k2 k3 e
    ·cases e
   ·cases e
  ·split at e
   ·rename_i st1 hp
    obtain ⟨p1,p2⟩:=putT_bes (m0:=m) h hp
    (try dsimp only)
    rw [p2]
    obtain ⟨tm1,sz1,u1⟩:=st1
    simp only at p1; subst p1
    exact runDraw_bes hf d' h hd e
   ·cases e
  ·cases e
end
def FrR (f:Code→St→Option (Ex×St)):Prop:=∀ c tm sz u ex st,f c ⟨tm,sz,u⟩=some (ex,st)→∀ E m,Bes E u m→∃ m',f c ⟨tm,sz,m⟩=some (ex,⟨st.tm,st.sz,m'⟩)∧Bes E st.m m'
def OvFr (cx:Cx):Prop:=∀ k f,cx.ov.get k=some f→∀ a u r u',f a u=some (r,u')→∀ E m,Bes E u m→∃ m',f a m=some (r,m')∧Bes E u' m'
theorem resultsA_bes {E:Nat→Option AObj} {u m:Mem} (h:Bes E u m) {tm:Tr Value} {sz:Nat}:∀ {l:List ResultVar} {vs:List Value},resultsA cx ⟨tm,sz,u⟩ l=some vs→resultsA cx ⟨tm,sz,m⟩ l=some vs
 | [],vs,e=>e
 | .tmp t :: r,vs,e=>by
  unfold resultsA at e ⊢
  (try dsimp only at e ⊢)
  split at e
  ·rename_i v l hv hl; rw [hv,resultsA_bes h hl]; exact e
  ·cases e
 | .cell a t :: r,vs,e=>by
  unfold resultsA at e ⊢
  (try dsimp only at e ⊢)
  split at e
  ·rename_i p hp
   split at e
   ·rename_i v l hv hl; (try rw [hp]); (try dsimp only); rw [loadT_bes h hv,resultsA_bes h hl]; exact e
   ·cases e
  ·cases e
theorem callOf_bes (ho:OvFr cx) {f:Code→St→Option (Ex×St)} (hf:FrR f):FrC (callOf cx f):=by
 intro k a u r u' e E m h
 unfold callOf at e ⊢
 cases hov:cx.ov.get k with
 | some g=>rw [hov] at e; exact ho k g hov a u r u' e E m h
 | none=>
  rw [hov] at e
  (try dsimp only at e ⊢)
  unfold callBody at e ⊢
  split at e
  ·rename_i fn hfn
   split at e
   ·rename_i c hc
    split at e
    ·rename_i hb
     split at e
     ·rename_i st hr
      obtain ⟨m',k1,k2⟩:=hf _ _ _ _ _ _ hr E m h
      (try rw [hfn]); (try dsimp only); (try rw [hc]); (try dsimp only); (try rw [hb]); (try dsimp only); rw [k1]
      unfold retOf at e ⊢
      split at e
      ·rename_i l hl; cases e; (try dsimp only); rw [resultsA_bes k2 hl]; exact ⟨m',rfl,k2⟩
      ·cases e
     ·rename_i st hr
      obtain ⟨m',k1,k2⟩:=hf _ _ _ _ _ _ hr E m h
      (try rw [hfn]); (try dsimp only); (try rw [hc]); (try dsimp only); (try rw [hb]); (try dsimp only); rw [k1]
      unfold retOf at e ⊢
      split at e
      ·rename_i l hl; cases e; (try dsimp only); rw [resultsA_bes k2 hl]; exact ⟨m',rfl,k2⟩
      ·cases e
     ·cases e
    ·cases e
   ·cases e
  ·cases e
theorem step_bes (ho:OvFr cx) {f:Code→St→Option (Ex×St)} (hf:FrR f):FrR (step cx f):=by
 intro c tm sz u ex st e E m h
 cases c with
 | skip=>simp only [step] at e ⊢; cases e; exact ⟨m,rfl,h⟩
 | label l=>simp only [step] at e ⊢; cases e; exact ⟨m,rfl,h⟩
 | exit id=>simp only [step] at e ⊢; cases e; exact ⟨m,rfl,h⟩
 | ret=>simp only [step] at e ⊢; cases e; exact ⟨m,rfl,h⟩
 | region id ops draw=>
  cases draw with
  | false=>
   simp only [step] at e ⊢
   split at e
   ·rename_i st1 h1
    cases e
    obtain ⟨m',k1,k2⟩:=runOps_bes (callOf_bes ho hf) h h1
    rw [k1]; exact ⟨m',rfl,k2⟩
   ·cases e
  | true=>
   simp only [step] at e ⊢
   split at e
   ·rename_i hs
    split at e
    ·rename_i st1 h1
     cases e
     obtain ⟨m',k1,k2⟩:=runDraw_bes (E:=E) (callOf_bes ho hf) ⟨0,[],[],0⟩ (h.bump ops.toList.length) ⟨rfl,rfl,rfl,trivial,fun b o hb=>(h.gap b o hb).2,fun e he=>by cases he⟩ h1
     rw [h.nx]; (try rw [hs]); (try dsimp only)
     rw [h.nx] at k1
     rw [k1]; exact ⟨m',rfl,k2⟩
    ·cases e
   ·cases e
 | seq a b=>
  simp only [step] at e ⊢
  split at e
  ·rename_i st1 h1
   obtain ⟨m1,k1,k2⟩:=hf _ _ _ _ _ _ h1 E m h
   rw [k1]
   obtain ⟨tm1,sz1,u1⟩:=st1
   exact hf _ _ _ _ _ _ e E m1 k2
  ·rename_i hne
   cases hr:f a ⟨tm,sz,u⟩ with
   | none=>rw [hr] at e; cases e
   | some x=>
    obtain ⟨ex1,st1⟩:=x
    rw [hr] at e
    obtain ⟨m1,k1,k2⟩:=hf _ _ _ _ _ _ hr E m h
    rw [k1]
    cases e
    cases ex with
    | normal=>exact (hne st hr).elim
    | exit i=>exact ⟨m1,rfl,k2⟩
    | ret=>exact ⟨m1,rfl,k2⟩
 | cond o x y=>
  simp only [step] at e ⊢
  rw [evalA_at tm sz m u]
  split at e
  ·exact hf _ _ _ _ _ _ e E m h
  ·exact hf _ _ _ _ _ _ e E m h
  ·cases e
 | block id x=>
  simp only [step] at e ⊢
  cases hr:f x ⟨tm,sz,u⟩ with
  | none=>rw [hr] at e; cases e
  | some w=>
   obtain ⟨ex1,st1⟩:=w
   rw [hr] at e
   obtain ⟨m1,k1,k2⟩:=hf _ _ _ _ _ _ hr E m h
   rw [k1]
   cases ex1 with
   | normal=>cases e; exact ⟨m1,rfl,k2⟩
   | ret=>cases e; exact ⟨m1,rfl,k2⟩
   | exit i=>
    (try dsimp only at e ⊢)
    split at e
    ·rename_i hb; cases e; (try rw [hb]); exact ⟨m1,rfl,k2⟩
    ·rename_i hb; cases e; (try rw [hb]); exact ⟨m1,rfl,k2⟩
 | loop x=>
  simp only [step] at e ⊢
  split at e
  ·rename_i st1 h1
   obtain ⟨m1,k1,k2⟩:=hf _ _ _ _ _ _ h1 E m h
   rw [k1]
   obtain ⟨tm1,sz1,u1⟩:=st1
   exact hf _ _ _ _ _ _ e E m1 k2
  ·rename_i hne
   cases hr:f x ⟨tm,sz,u⟩ with
   | none=>rw [hr] at e; cases e
   | some w=>
    obtain ⟨ex1,st1⟩:=w
    rw [hr] at e
    obtain ⟨m1,k1,k2⟩:=hf _ _ _ _ _ _ hr E m h
    rw [k1]
    cases e
    cases ex with
    | normal=>exact (hne st hr).elim
    | exit i=>exact ⟨m1,rfl,k2⟩
    | ret=>exact ⟨m1,rfl,k2⟩
 | rangeFunc _ _ _ _=>simp [step] at e
 | goto _=>simp [step] at e
 | scope _=>simp [step] at e
 | refuse _=>simp [step] at e
theorem exec_bes (ho:OvFr cx):∀ n,FrR (exec cx n)
 | 0=>fun c tm sz u ex st e=>by cases e
 | n+1=>step_bes ho (exec_bes ho n)
theorem exec_call_bes (ho:OvFr cx) (n:Nat):FrC (callOf cx (exec cx n)):=callOf_bes ho (exec_bes ho n)
end Go.AX
