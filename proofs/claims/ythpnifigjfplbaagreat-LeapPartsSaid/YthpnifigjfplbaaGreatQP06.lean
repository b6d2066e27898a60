import Derived.Test.YthpnifigjfplbaaGreatQP04
import Derived.Test.YthpnifigjfplbaaGreatQP05
set_option linter.unusedSectionVars false
set_option linter.unusedSimpArgs false
set_option linter.unusedVariables false
namespace Go.AX
variable {cx:Cx}
structure Bes (E:Nat->Option AObj) (u m:Mem):Prop where
 nx:m.nx=u.nx
 fl:m.fl=u.fl
 get:∀b,m.hp.get b=match E b with
  | some o=>some o
  | none=>u.hp.get b
 gap:∀b o,E b=some o->u.hp.get b=none/\b<u.nx
section
variable {E:Nat->Option AObj} {u m:Mem}
theorem Bes.got(h:Bes E u m){b:Nat}{o:AObj}(hb:u.hp.get b=some o):m.hp.get b=some o:=by
 rw[h.get];cases hE:E b with
 | none=>exact hb
 | some o'=>rw[(h.gap b o' hE).1]at hb;cases hb
theorem Bes.noE(h:Bes E u m){b:Nat}{o:AObj}(hb:u.hp.get b=some o):E b=none:=by
 cases hE:E b with
 | none=>rfl
 | some o'=>rw[(h.gap b o' hE).1]at hb;cases hb
theorem Bes.refl(u:Mem):Bes (fun _=>none) u u:=⟨rfl,rfl,fun _=>rfl,fun b o h=>by cases h⟩
theorem Bes.put(h:Bes E u m){b:Nat}(hb:E b=none)(o':AObj):Bes E { u with hp:=u.hp.put b o' } { m with hp:=m.hp.put b o' }:=by
 refine⟨h.nx,h.fl,fun b'=>?_,fun b' o1 h1=>?_⟩
 .show (m.hp.put b o').get b'=match E b' with|some o=>some o|none=>(u.hp.put b o').get b'
  rw[Tr.get_put,Tr.get_put,h.get];by_cases e:b'=b
  .subst e;rw[if_pos rfl,if_pos rfl,hb]
  .rw[if_neg e,if_neg e]
 .obtain⟨h2,h3⟩:=h.gap b' o1 h1;refine⟨?_,h3⟩;show (u.hp.put b o').get b'=_;rw[Tr.get_put,if_neg (fun e=>by rw[e,hb]at h1;cases h1)];exact h2
theorem Bes.noNx(h:Bes E u m):E u.nx=none:=by
 cases hE:E u.nx with
 | none=>rfl
 | some o=>have:=(h.gap _ o hE).2;omega
theorem Bes.new(h:Bes E u m)(o:AObj):Bes E { hp:=u.hp.put u.nx o,nx:=u.nx+1,fl:=u.fl } { hp:=m.hp.put m.nx o,nx:=m.nx+1,fl:=m.fl }:=by
 have h1:=h.put h.noNx o;refine⟨by show m.nx+1=u.nx+1;rw[h.nx],h.fl,fun b=>?_,fun b o1 hb=>?_⟩
 .have:=h1.get b;show (m.hp.put m.nx o).get b=_;rw[h.nx];exact this
 .obtain⟨h2,h3⟩:=h1.gap b o1 hb;exact⟨h2,Nat.lt_succ_of_lt h3⟩
theorem Bes.del(h:Bes E u m){b:Nat}(hb:E b=none):Bes E { u with hp:=u.hp.del b } { m with hp:=m.hp.del b }:=by
 refine⟨h.nx,h.fl,fun b'=>?_,fun b' o1 h1=>?_⟩
 .show (m.hp.del b).get b'=match E b' with|some o=>some o|none=>(u.hp.del b).get b'
  rw[Tr.get_del,Tr.get_del,h.get];by_cases e:b'=b
  .subst e;rw[if_pos rfl,if_pos rfl,hb]
  .rw[if_neg e,if_neg e]
 .obtain⟨h2,h3⟩:=h.gap b' o1 h1;refine⟨?_,h3⟩;show (u.hp.del b).get b'=_;rw[Tr.get_del];split
  .rfl
  .exact h2
theorem Bes.setFl(h:Bes E u m)(n:Nat):Bes E { u with fl:=n } { m with fl:=n }:=⟨h.nx,rfl,h.get,h.gap⟩
theorem Bes.bump(h:Bes E u m)(n:Nat):Bes E { u with nx:=u.nx+n } { m with nx:=m.nx+n }:=
 ⟨by show m.nx+n=u.nx+n;rw[h.nx],h.fl,h.get,fun b o hb=>let ⟨p,q⟩:=h.gap b o hb;⟨p,Nat.lt_of_lt_of_le q (Nat.le_add_right _ _)⟩⟩
theorem pH(h:Bes E u m){a:Addr}{n:Nat}{l:List Value}(e:fi u a n=some l):fi m a n=some l:=by
 unfold fi at e ⊢;cases hs:a.spot with
 | some _=>simp only[hs]at e;cases e
 | none=>
  simp only[hs]at e ⊢;cases hg:u.hp.get a.block with
  | none=>rw[hg]at e;cases e
  | some o=>rw[hg]at e;rw[h.got hg];exact e
theorem xH(h:Bes E u m){t:TypeId}{a:Addr}{v:Value}(e:loadT cx u t a=some v):loadT cx m t a=some v:=by
 unfold loadT at e ⊢;split at e
 .rename_i d n hd hn;split at e
  .rename_i ha;split at e
   .rename_i l hl
    (try simp only[ha,pH h hl]);exact e
   .cases e
  .rename_i ha;split at e
   .rename_i x hl
    (try simp only[ha,pH h hl]);exact e
   .cases e
 .cases e
theorem rK(h:Bes E u m){b:Nat}(e:ly u b=true):ly m b=true:=by
 unfold ly at e ⊢;cases hg:u.hp.get b with
 | none=>rw[hg]at e;cases e
 | some o=>rw[hg]at e;rw[h.got hg];exact e
theorem Jx(h:Bes E u m){x y:Option Addr}{r:Bool}(e:pG u x y=some r):pG m x y=some r:=by
 cases x with
 | none=>exact e
 | some a=>
  cases y with
  | none=>exact e
  | some b=>
   unfold pG at e ⊢
   (try dsimp only at e ⊢)
   split at e
   .rename_i h1 h2 h3 h4;rw[h1,h2,rK h h3,rK h h4];exact e
   .cases e
theorem rM{f g:TypeId->Value->Value->Option Bool}(hfg:∀t x y r,f t x y=some r->g t x y=some r){xs ys:List Value}:∀{l:List Field} {r:Bool},eqFields cx f xs ys l=some r->eqFields cx g xs ys l=some r
 | [],r,e=>e
 | fd::l,r,e=>by
  unfold eqFields at e ⊢;split at e
  .rename_i h1;(try simp only[h1]);exact rM hfg e
  .rename_i h1;split at e
   .rename_i a b h2 h3;split at e
    .rename_i h4;(try simp only[h1,h2,h3,hfg _ _ _ _ h4]);exact rM hfg e
    .rename_i h4;(try simp only[h1,h2,h3,hfg _ _ _ _ h4]);exact e
    .cases e
   .cases e
theorem yV(h:Bes E u m):∀{d:Nat} {t:TypeId} {x y:Value} {r:Bool},fM cx u d t x y=some r->fM cx m d t x y=some r
 | 0,_,_,_,_,e=>e
 | d+1,t,x,y,r,e=>by
  unfold fM at e ⊢;cases hu:cx.un.get t with
  | none=>rw[hu]at e;cases e
  | some w=>
   rw[hu]at e
   (try dsimp only at e ⊢)
   split at e
   .exact e
   .exact e
   .exact e
   .split at e
    .rename_i hs;(try simp only[hs]);exact Jx h e
    .cases e
   .exact e
   .exact e
   .exact e
   .split at e
    .rename_i hb;(try simp only[hb]);exact e
    .rename_i hb;split at e
     .rename_i i hi;split at e
      .rename_i hc;(try simp only[hb,hi,hc]);exact yV h e
      .cases e
     .cases e
   .split at e
    .rename_i hn;(try simp only[hn]);exact rM (fun t x y r q=>yV h q) e
    .cases e
   .exact e
   .exact e
   .exact e
   .exact e
   .exact e
   .exact e
   .exact e
   .cases e
theorem Ic(h:Bes E u m){op:BinOp}{t:TypeId}{x y v:Value}(e:gL cx u op t x y=some v):gL cx m op t x y=some v:=by
 unfold gL at e ⊢;split at e
 .exact e
 .exact e
 .split at e
  .split at e
   .rename_i hq;(try simp only[yV h hq]);exact e
   .cases e
  .split at e
   .rename_i hq;(try simp only[yV h hq]);exact e
   .cases e
  .cases e
theorem xI(h:Bes E u m){b s:Nat}(e:sameSize cx u b s=true):sameSize cx m b s=true:=by
 unfold sameSize at e ⊢;cases hg:u.hp.get b with
 | none=>rw[hg]at e;cases e
 | some o=>rw[hg]at e;rw[h.got hg];exact e
theorem zn(h:Bes E u m){t:TypeId}{x v:Value}{lo hi mx:Option Value}(e:cW cx u t x lo hi mx=some v):cW cx m t x lo hi mx=some v:=by
 unfold cW at e ⊢;split at e
 .exact e
 .rename_i el a len cap hd;split at e
  .rename_i s hs;split at e
   .split at e
    .rename_i hh e1;split at e
     .rename_i l e2
      (try simp only[hs,e1,e2])
      split at e
      .rename_i a0
       (try dsimp only at e ⊢)
       cases hsp:a0.spot with
       | some q=>simp only[hsp]at e ⊢;exact e
       | none=>
        simp only[hsp]at e ⊢;cases hq:sameSize cx u a0.block s with
        | true=>rw[hq]at e;rw[xI h hq];exact e
        | false=>
         rw[hq]at e;simp only[Bool.false_and]at e;split at e
         .rename_i hz;simp only[Bool.and_eq_true]at hz;obtain⟨⟨z1,z2⟩,z3⟩:=hz;have z1:=Nat.eq_of_beq_eq_true z1;have z2:=Nat.eq_of_beq_eq_true z2;have z3:=Nat.eq_of_beq_eq_true z3;subst z1;subst z2;subst z3;cases hq2:sameSize cx m a0.block s with
          | true=>
           simp only[show Nat.ble 0 0=true from rfl,Bool.and_true];rw[<-e];unfold mP;simp only[Nat.zero_mul,Nat.add_zero,Nat.sub_self];obtain⟨b,of,sp⟩:=a0;simp only at hsp;subst hsp;rfl
          | false=>(try simp only[Bool.false_and]);exact e
         .cases e
      .exact e
     .cases e
    .cases e
   ·(try simp only[hs]);exact e
  .cases e
 .rename_i n el a hd;split at e
  .rename_i s h1 h2 h3
   (try simp only[h1,h2,rK h h3]);exact e
  .cases e
 .cases e
theorem pI(h:Bes E u m){s n:Nat}{x:Value}{l:List Value}(e:dA u s n x=some l):dA m s n x=some l:=by
 unfold dA at e ⊢;split at e
 .cases n with
  | zero=>exact e
  | succ n=>exact pH h e
 .exact e
 .exact e
 .cases e
theorem Fg(h:Bes E u m){s d:TypeId}{x v:Value}(e:kr cx u s d x=some v):kr cx m s d x=some v:=by
 unfold kr at e ⊢;split at e
 .exact e
 .exact e
 .split at e
  .rename_i h1;split at e
   .rename_i l hl
    (try simp only[h1,pH h hl]);exact e
   .cases e
  .rename_i h1;(try simp only[h1]);exact e
  .cases e
 .cases e
theorem GR(h:Bes E u m){t:TypeId}{x k v:Value}{ok:Bool}(e:mg cx u t x k ok=some v):mg cx m t x k ok=some v:=by
 unfold mg at e ⊢;split at e
 .rename_i d et hk;split at e
  .exact e
  .rename_i r;cases hg:u.hp.get r with
   | none=>rw[hg]at e;cases e
   | some o=>rw[hg]at e;(try simp only[h.got hg]);exact e
  .cases e
 .cases e
theorem Lx(h:Bes E u m){ts:List TypeId}{l:List Value}{v:Value}(e:qq cx u ts l=some v):qq cx m ts l=some v:=by
 unfold qq at e ⊢;split at e
 .split at e
  .exact e
  .exact e
  .exact e
  .exact e
  .rename_i r hd;cases hg:u.hp.get r with
   | none=>rw[hg]at e;cases e
   | some o=>rw[hg]at e;(try simp only[h.got hg]);exact e
  .cases e
 .cases e
theorem Ly(h:Bes E u m){ts:List TypeId}{l:List Value}{v:Value}(e:mq cx u ts l=some v):mq cx m ts l=some v:=by
 unfold mq at e ⊢;split at e
 .split at e
  .exact e
  .exact e
  .rename_i el a n c hd;cases hg:u.hp.get a.block with
   | none=>rw[hg]at e;cases e
   | some o=>rw[hg]at e;(try simp only[h.got hg]);exact e
  .cases e
 .cases e
theorem pJ(h:Bes E u m){a:Addr}{l:List Value}{u':Mem}(e:iH u a l=some u'):∃m',iH m a l=some m'/\Bes E u' m':=by
 unfold iH at e ⊢;cases hs:a.spot with
 | some _=>simp only[hs]at e;cases e
 | none=>
  simp only[hs]at e ⊢;cases hg:u.hp.get a.block with
  | none=>rw[hg]at e;cases e
  | some o=>
   rw[hg]at e;rw[h.got hg];cases o with
   | cells c k el x=>
    (try dsimp only at e ⊢)
    rw[show Nat.ble m.fl a.block=Nat.ble u.fl a.block by rw[h.fl]];split at e
    .rename_i hc;cases e;exact⟨_,by first|rfl|rw[hc],h.put (h.noE hg) _⟩
    .cases e
   | _=>cases e
theorem Ie(h:Bes E u m){t:TypeId}{a:Addr}{v:Value}{u':Mem}(e:storeT cx u t a v=some u'):∃m',storeT cx m t a v=some m'/\Bes E u' m':=by
 unfold storeT at e ⊢;split at e
 .split at e
  .rename_i hb;(try simp only[hb]);exact pJ h e
  .cases e
 .cases e
theorem qt(h:Bes E u m){b:Nat}{o ob:AObj}{u':Mem}(hb:u.hp.get b=some ob)(e:mM u b o=some u'):∃m',mM m b o=some m'/\Bes E u' m':=by
 unfold mM at e ⊢;rw[show Nat.ble m.fl b=Nat.ble u.fl b by rw[h.fl]];split at e
 .rename_i hc;cases e;exact⟨_,by first|rfl|rw[hc],h.put (h.noE hb) _⟩
 .cases e
theorem jB(h:Bes E u m)(l:List Value)(e:TypeId)(x:Bool):(fY m l e x).1=(fY u l e x).1/\Bes E (fY u l e x).2 (fY m l e x).2:=⟨h.nx,h.new _⟩
theorem AW(h:Bes E u m){t:TypeId}{n:Nat}{ps:List (Nat×Value)}{v:Value}{u':Mem}(e:iB cx u t n ps=some (v,u')):∃m',iB cx m t n ps=some (v,m')/\Bes E u' m':=by
 unfold iB at e ⊢;split at e
 .rename_i el hd;split at e
  .rename_i s z hs hz;split at e
   .rename_i hc;split at e
    .rename_i l hl;obtain⟨k1,k2⟩:=jB h l el false;cases e;exact⟨_,by(try simp only[hs,hz,hc,hl]);(first|(rw[k1];done)|(rw[k1];rfl)),k2⟩
    .cases e
   .cases e
  .cases e
 .cases e
theorem Cu(h:Bes E u m){t:TypeId}{a b v:Value}{u':Mem}(e:iY cx u t a b=some (v,u')):∃m',iY cx m t a b=some (v,m')/\Bes E u' m':=by
 unfold iY at e ⊢;split at e
 .rename_i el k l k' c hd;split at e
  .rename_i s z i hs hz hi;split at e
   .rename_i hc;obtain⟨k1,k2⟩:=jB h (ed (bQ z) c.toNat) el false;cases e;exact⟨_,by(try simp only[hs,hz,hi,hc]);(first|(rw[k1];done)|(rw[k1];rfl)),k2⟩
   .cases e
  .cases e
 .cases e
theorem AY(h:Bes E u m){base:Option Addr}{e s cap:Nat}{u':Mem}(k:giveUp u base e s cap=some u'):∃m',giveUp m base e s cap=some m'/\Bes E u' m':=by
 unfold giveUp at k ⊢;split at k
 .cases k;exact⟨_,rfl,h⟩
 .rename_i a
  (try dsimp only)
  cases hs:a.spot with
  | some _=>simp only[hs]at k ⊢;cases k;exact⟨_,rfl,h⟩
  | none=>
   simp only[hs]at k ⊢;cases hg:u.hp.get a.block with
   | none=>rw[hg]at k;cases k
   | some o=>
    rw[hg]at k;rw[h.got hg];cases o with
    | cells c n e' loose=>
     (try dsimp only at k ⊢)
     rw[show Nat.ble m.fl a.block=Nat.ble u.fl a.block by rw[h.fl]];split at k
     .cases k;exact⟨_,rfl,h⟩
     .split at k
      .rename_i h1;split at k
       .rename_i h2;split at k
        .rename_i h3;cases k;exact⟨_,by first|rfl|simp only[h1,h2,h3],h.del (h.noE hg)⟩
        .cases k
       .rename_i h2;cases k;exact⟨_,by first|rfl|simp only[h1,h2],h⟩
      .cases k
    | _=>cases k
theorem GT(h:Bes E u m){el:TypeId}{i:TypeInfo}{base:Option Addr}{len cap n:Nat}{new:List Value}{v:Value}{u':Mem}(e:jS cx u el i base len cap n new=some (v,u')):∃m',jS cx m el i base len cap n new=some (v,m')/\Bes E u' m':=by
 unfold jS at e ⊢;split at e
 .cases e
 .rename_i hc
  (try dsimp only)
  (try simp only[hc])
  split at e
  .split at e
   .split at e
    .cases e;exact⟨_,rfl,h⟩
    .rename_i hne;split at e
     .rename_i m1 hst;cases e;obtain⟨m',k1,k2⟩:=pJ h hst;refine⟨m',?_,k2⟩;cases new with
      | nil=>exact(hne rfl).elim
      | cons p q=>simp only[k1]
     .cases e
   .split at e
    .cases e;exact⟨_,rfl,h⟩
    .cases e
  .split at e
   .rename_i old z hbd hold hz;split at e
    .rename_i m1 hg hc3;obtain⟨m',k1,k2⟩:=AY h hg;obtain⟨q1,q2⟩:=jB k2 (old++new) el true;cases e;exact⟨_,by simp only[hbd,pI h hold,hz,k1,hc3];(first|(rw[q1];done)|(rw[q1];rfl)),q2⟩
    .cases e
   .cases e
theorem GU(h:Bes E u m){el:TypeId}{i:TypeInfo}{ux:TypeDesc}{x:Value}{base:Option Addr}{len cap:Nat}{v:Value}{u':Mem}(e:kS cx u el i ux x base len cap=some (v,u')):∃m',kS cx m el i ux x base len cap=some (v,m')/\Bes E u' m':=by
 unfold kS at e ⊢;split at e
 .split at e
  .exact GT h e
  .cases e
 .cases e
theorem zo(h:Bes E u m){ts:List TypeId}{args:List Value}{v:Value}{u':Mem}(e:cQ cx u ts args=some (v,u')):∃m',cQ cx m ts args=some (v,m')/\Bes E u' m':=by
 unfold cQ at e ⊢;split at e
 .rename_i t tx base len cap x;split at e
  .rename_i el ux hd hdx;split at e
   .rename_i i n hi hn hr;split at e
    .rename_i new hnew;split at e
     .cases e
     .rename_i hc
      (try dsimp only)
      simp only[hd,hdx,hi,hn,hr,pI h hnew,hc];split at e
      .split at e
       .split at e
        .cases e;exact⟨_,rfl,h⟩
        .rename_i hne;split at e
         .rename_i m1 hst;cases e;obtain⟨m',k1,k2⟩:=pJ h hst;refine⟨m',?_,k2⟩;cases new with
          | nil=>exact(hne rfl).elim
          | cons p q=>simp only[k1]
         .cases e
       .split at e
        .cases e;exact⟨_,rfl,h⟩
        .cases e
      .split at e
       .rename_i old z hbd hold hz;split at e
        .rename_i m1 hg hc3;obtain⟨m',k1,k2⟩:=AY h hg;obtain⟨q1,q2⟩:=jB k2 (old++new) el true;cases e;exact⟨_,by simp only[hbd,pI h hold,hz,k1,hc3];(first|(rw[q1];done)|(rw[q1];rfl)),q2⟩
        .cases e
       .cases e
    .cases e
   .exact GU h e
   .cases e
  .cases e
 .cases e
theorem Jy(h:Bes E u m){ts:List TypeId}{args:List Value}{v:Value}{u':Mem}(e:iC cx u ts args=some (v,u')):∃m',iC cx m ts args=some (v,m')/\Bes E u' m':=by
 unfold iC at e ⊢;split at e
 .split at e
  .rename_i el hd;split at e
   .rename_i s n hs hn;split at e
    .rename_i l hl
     (try dsimp only)
     simp only[hd,hs,hn,pI h hl];split at e
     .split at e
      .cases e;exact⟨_,rfl,h⟩
      .rename_i hne;split at e
       .rename_i m1 hst;cases e;obtain⟨m',k1,k2⟩:=pJ h hst;refine⟨m',?_,k2⟩;cases l with
        | nil=>exact(hne rfl).elim
        | cons p q=>simp only[k1]
       .cases e
     .cases e;exact⟨_,rfl,h⟩
    .cases e
   .cases e
  .cases e
 .cases e
theorem vw(h:Bes E u m){t:TypeId}{x k v:Value}{u':Mem}(e:fK cx u t x k v=some u'):∃m',fK cx m t x k v=some m'/\Bes E u' m':=by
 unfold fK at e ⊢;split at e
 .rename_i d et r hk
  (try dsimp only)
  cases hg:u.hp.get r with
  | none=>rw[hg]at e;cases e
  | some o=>
   rw[hg]at e;rw[h.got hg];cases o with
   | map es clock=>
    (try dsimp only at e ⊢)
    split at e
    .rename_i hf;exact qt h hg e
    .rename_i hf;exact qt h hg e
    .cases e
   | _=>cases e
 .cases e
theorem El(h:Bes E u m){t:TypeId}{x k v:Value}{u':Mem}(e:jV cx u t x k=some (v,u')):∃m',jV cx m t x k=some (v,m')/\Bes E u' m':=by
 unfold jV at e ⊢;split at e
 .rename_i d et r hk
  (try dsimp only)
  cases hg:u.hp.get r with
  | none=>rw[hg]at e;cases e
  | some o=>
   rw[hg]at e;rw[h.got hg];cases o with
   | map es clock=>
    (try dsimp only at e ⊢)
    split at e
    .rename_i hf;split at e
     .rename_i m1 hs;obtain⟨m',k1,k2⟩:=qt h hg hs;cases e;exact⟨m',by first|rfl|simp only[k1],k2⟩
     .cases e
    .rename_i hf;split at e
     .rename_i z hz;split at e
      .rename_i m1 hs;obtain⟨m',k1,k2⟩:=qt h hg hs;cases e;exact⟨m',by first|rfl|simp only[k1],k2⟩
      .cases e
     .cases e
    .cases e
   | _=>cases e
 .cases e
theorem AZ(h:Bes E u m){x s v:Value}{u':Mem}(e:iD u x s v=some u'):∃m',iD m x s v=some m'/\Bes E u' m':=by
 unfold iD at e ⊢;split at e
 .rename_i r k born
  (try dsimp only)
  cases hg:u.hp.get r with
  | none=>rw[hg]at e;cases e
  | some o=>
   rw[hg]at e;rw[h.got hg];cases o with
   | map es clock=>
    (try dsimp only at e ⊢)
    split at e
    .rename_i i hf;exact qt h hg e
    .cases e
   | _=>cases e
 .cases e
theorem GV(h:Bes E u m){t:TypeId}{x k:Value}{u':Mem}(e:nC cx u t x k=some u'):∃m',nC cx m t x k=some m'/\Bes E u' m':=by
 unfold nC at e ⊢;split at e
 .cases e;exact⟨_,rfl,h⟩
 .rename_i d et r hk
  (try dsimp only)
  cases hg:u.hp.get r with
  | none=>rw[hg]at e;cases e
  | some o=>
   rw[hg]at e;rw[h.got hg];cases o with
   | map es clock=>
    (try dsimp only at e ⊢)
    split at e
    .rename_i hf;exact qt h hg e
    .cases e;exact⟨_,rfl,h⟩
    .cases e
   | _=>cases e
 .cases e
theorem If(h:Bes E u m){ts:List TypeId}{args:List Value}{v:Value}{u':Mem}(e:kT cx u ts args=some (v,u')):∃m',kT cx m ts args=some (v,m')/\Bes E u' m':=by
 unfold kT at e ⊢;split at e
 .split at e
  ·(try dsimp only)
   split at e
   .cases e;exact⟨_,rfl,h⟩
   .cases e;exact⟨_,rfl,h⟩
   .split at e
    .rename_i z hz;split at e
     .rename_i hb;split at e
      .rename_i m1 hst;cases e;obtain⟨m',k1,k2⟩:=pJ h hst;exact⟨m',by first|rfl|simp only[hb,k1],k2⟩
      .cases e
     .cases e
    .cases e
  .cases e
 .cases e
theorem Fh(h:Bes E u m){b:Builtin}{ts:List TypeId}{args:List Value}{v:Value}{u':Mem}(e:fZ cx u b ts args=some (v,u')):∃m',fZ cx m b ts args=some (v,m')/\Bes E u' m':=by
 unfold fZ at e ⊢
 (try dsimp only at e ⊢)
 cases b<;>(try dsimp only at e ⊢)
 case append=>exact zo h e
 case copy=>exact Jy h e
 case len=>
  split at e
  .rename_i x hx;cases e;exact⟨m,by rw[Lx h hx],h⟩
  .cases e
 case cap=>
  split at e
  .rename_i x hx;cases e;exact⟨m,by rw[Ly h hx],h⟩
  .cases e
 case max=>
  split at e
  .split at e
   .rename_i x hx;cases e;exact⟨m,by(try dsimp only);(try rw[hx]),h⟩
   .cases e
  .cases e
 case min=>
  split at e
  .split at e
   .rename_i x hx;cases e;exact⟨m,by(try dsimp only);(try rw[hx]),h⟩
   .cases e
  .cases e
 case delete=>
  split at e
  .split at e
   .rename_i m1 hd;cases e;obtain⟨m',k1,k2⟩:=GV h hd;exact⟨m',by(try dsimp only);(first|(rw[k1];done)|(rw[k1];rfl)),k2⟩
   .cases e
  .cases e
 case clear=>exact If h e
 all_goals cases e
end
def Fi(f:dB):Prop:=∀k a u r u',f k a u=some (r,u')->∀E m,Bes E u m->∃m',f k a m=some (r,m')/\Bes E u' m'
theorem lH(tm:Tr Value)(sz:Nat)(m m':Mem)(x:Operand):cT cx ⟨tm,sz,m⟩ x=cT cx ⟨tm,sz,m'⟩ x:=by cases x<;>rfl
theorem Ho(tm:Tr Value)(sz:Nat)(m m':Mem)(x:Operand):sS cx ⟨tm,sz,m⟩ x=sS cx ⟨tm,sz,m'⟩ x:=by unfold sS;rw[lH tm sz m m' x]
theorem De(tm:Tr Value)(sz:Nat)(m m':Mem)(bw:Nat)(rng:Option (Nat×Nat))(base rd s:Nat):∀(l:List Oper) (n:Nat),apartB cx ⟨tm,sz,m⟩ bw rng base rd s l n=apartB cx ⟨tm,sz,m'⟩ bw rng base rd s l n
 | [],_=>rfl
 | x::r,n=>by
  have ih:=De tm sz m m' bw rng base rd s r (n+1);unfold apartB;simp only[Ho tm sz m m',ih]
theorem Jz(tm:Tr Value)(sz:Nat)(m m':Mem)(o:Op)(ops:List Oper)(base rd s:Nat):nY cx ⟨tm,sz,m'⟩ o ops base rd s=nY cx ⟨tm,sz,m⟩ o ops base rd s:=by
 have hc:xF cx ⟨tm,sz,m'⟩ o=xF cx ⟨tm,sz,m⟩ o:=by
  unfold xF;cases o<;>simp only[Ho tm sz m' m,lH tm sz m' m]
 unfold nY;simp only[hc,De tm sz m' m]
theorem vV(tm:Tr Value)(sz:Nat)(m m':Mem):∀l:List Operand,gU cx ⟨tm,sz,m⟩ l=gU cx ⟨tm,sz,m'⟩ l
 | []=>rfl
 | x::r=>by simp only[gU,lH tm sz m m',vV tm sz m m' r]
theorem Lz(tm:Tr Value)(sz:Nat)(m m':Mem)(x:Option Operand):iA cx ⟨tm,sz,m⟩ x=iA cx ⟨tm,sz,m'⟩ x:=by
 cases x with
 | none=>rfl
 | some x=>simp only[iA,lH tm sz m m']
theorem Fj(tm:Tr Value)(sz:Nat)(m m':Mem):∀l:List (Nat×Operand),gO cx ⟨tm,sz,m⟩ l=gO cx ⟨tm,sz,m'⟩ l
 | []=>rfl
 | (i,x)::r=>by simp only[gO,lH tm sz m m',Fj tm sz m m' r]
section
variable {E:Nat->Option AObj} {u m:Mem}
theorem JB{f:dB}(hf:Fi f)(h:Bes E u m){tm:Tr Value}{sz:Nat}{c:Call}{v:Value}{u':Mem}(e:gn cx f ⟨tm,sz,u⟩ c=some (v,u')):∃m',gn cx f ⟨tm,sz,m⟩ c=some (v,m')/\Bes E u' m':=by
 unfold gn at e ⊢;rw[vV tm sz m u];cases ha:gU cx ⟨tm,sz,u⟩ c.args.toList with
 | none=>rw[ha]at e;cases e
 | some args=>
  rw[ha]at e
  (try dsimp only at e ⊢)
  cases hc:c.callee with
  | builtin b=>rw[hc]at e;exact Fh h e
  | value g=>
   rw[hc]at e
   (try dsimp only at e ⊢)
   rw[lH tm sz m u];split at e
   .exact hf _ _ _ _ _ e _ _ h
   .cases e
  | invoke x name=>
   rw[hc]at e
   (try dsimp only at e ⊢)
   rw[lH tm sz m u];split at e
   .split at e
    .exact hf _ _ _ _ _ e _ _ h
    .cases e
   .cases e
theorem sG{f:dB}(hf:Fi f)(h:Bes E u m){tm:Tr Value}{sz:Nat}{o:Oper}{v:Option Value}{u':Mem}(e:de cx f ⟨tm,sz,u⟩ o=some (v,u')):∃m',de cx f ⟨tm,sz,m⟩ o=some (v,m')/\Bes E u' m':=by
 unfold de at e ⊢
 (try dsimp only at e ⊢)
 cases ho:o.op<;>simp only[ho]at e ⊢<;>(try simp only[lH tm sz m u,vV tm sz m u,Lz tm sz m u,Fj tm sz m u])
 all_goals (try (cases e;done))
 case move x=>
  split at e
  .cases e;exact⟨m,rfl,h⟩
  .cases e
 case assign x=>
  split at e
  .cases e;exact⟨m,rfl,h⟩
  .cases e
 case pick c x y=>
  split at e
  .rename_i h1 h2;cases e;exact⟨m,by first|rfl|rw[h1,h2],h⟩
  .rename_i h1 h2;cases e;exact⟨m,by first|rfl|rw[h1,h2],h⟩
  .cases e
 case alloc t=>
  split at e
  .rename_i z hz;obtain⟨k1,k2⟩:=jB h (bQ z) t false;cases e;exact⟨_,by(first|(rw[<-k1];done)|(rw[<-k1];rfl)),k2⟩
  .cases e
 case box t x=>
  split at e
  .rename_i z hz;obtain⟨k1,k2⟩:=jB h (bQ z) t false;cases e;exact⟨_,by(first|(rw[<-k1];done)|(rw[<-k1];rfl)),k2⟩
  .cases e
 case build t ps=>
  split at e
  .rename_i l hl;split at e
   .rename_i x hx;cases e;exact⟨m,by(try rw[hl]);(try dsimp only);(try rw[hx]),h⟩
   .cases e
  .cases e
 case buildSlice t n ps=>
  split at e
  .rename_i l hl;split at e
   .rename_i x m1 hx;obtain⟨m',k1,k2⟩:=AW h hx;cases e;exact⟨m',by(try rw[hl]);(try dsimp only);(first|(rw[k1];done)|(rw[k1];rfl)),k2⟩
   .cases e
  .cases e
 case load t a=>
  split at e
  .rename_i p hp;split at e
   .rename_i x hx;cases e;exact⟨m,by(try rw[hp]);(try dsimp only);rw[xH h hx],h⟩
   .cases e
  .cases e
 case store t a x=>
  split at e
  .rename_i p y hp hy;split at e
   .rename_i m1 hst;obtain⟨m',k1,k2⟩:=Ie h hst;cases e;exact⟨m',by(try rw[hp,hy]);(try dsimp only);(first|(rw[k1];done)|(rw[k1];rfl)),k2⟩
   .cases e
  .cases e
 case nilCheck x=>
  split at e
  .rename_i hp;cases e;exact⟨m,by first|rfl|rw[hp],h⟩
  .rename_i hp;cases e;exact⟨m,by first|rfl|rw[hp],h⟩
  .rename_i hp;cases e;exact⟨m,by first|rfl|rw[hp],h⟩
  .cases e
 case binOp op t x y q=>
  split at e
  .rename_i a b ha hb;split at e
   .rename_i hg;split at e
    .rename_i x hx;cases e;exact⟨m,by(try rw[ha,hb]);(try dsimp only);(try rw[hg]);(try dsimp only);rw[Ic h hx],h⟩
    .cases e
   .cases e
  .cases e
 case unOp op t x=>
  split at e
  .rename_i a ha;split at e
   .rename_i x hx;cases e;exact⟨m,by(try rw[ha]);(try dsimp only);(try rw[hx]),h⟩
   .cases e
  .cases e
 case convert s d x=>
  split at e
  .rename_i a ha;split at e
   .rename_i x hx;cases e;exact⟨m,by(try rw[ha]);(try dsimp only);rw[Fg h hx],h⟩
   .cases e
  .cases e
 case makeInterface t x=>
  split at e
  .cases e
  .rename_i a d h1 h2 h3;cases e;refine⟨m,?_,h⟩
   first|rfl|(rw[h2,h1];rfl)
  .cases e
 case makeFunc fn ff c=>
  split at e
  .rename_i a b ha hb;cases e;exact⟨m,by first|rfl|rw[ha,hb],h⟩
  .cases e
 case makeMap t r=>
  cases r with
  | none=>cases e;exact⟨_,by rw[h.nx],by have:=h.new (.map [] 0);rw[h.nx]at this;exact this⟩
  | some r=>cases e
 case makeSlice t l c=>
  split at e
  .rename_i a b ha hb;split at e
   .rename_i x m1 hx;obtain⟨m',k1,k2⟩:=Cu h hx;cases e;exact⟨m',by(try rw[ha,hb]);(try dsimp only);(first|(rw[k1];done)|(rw[k1];rfl)),k2⟩
   .cases e
  .cases e
 case slice t x lo hi mx=>
  split at e
  .rename_i a b c d ha hb hc hd;split at e
   .rename_i x hx;cases e;exact⟨m,by(try rw[ha,hb,hc,hd]);(try dsimp only);rw[zn h hx],h⟩
   .cases e
  .cases e
 case fieldAddr t x i=>
  split at e
  .rename_i a ha;split at e
   .rename_i x hx;cases e;exact⟨m,by(try rw[ha]);(try dsimp only);(try rw[hx]),h⟩
   .cases e
  .cases e
 case field t x i=>
  split at e
  .rename_i a ha;split at e
   .rename_i x hx;cases e;exact⟨m,by(try rw[ha]);(try dsimp only);(try rw[hx]),h⟩
   .cases e
  .cases e
 case indexAddr t x i=>
  split at e
  .rename_i a b ha hb;split at e
   .rename_i x hx;cases e;exact⟨m,by(try rw[ha,hb]);(try dsimp only);(try rw[hx]),h⟩
   .cases e
  .cases e
 case index t x i=>
  split at e
  .rename_i a b ha hb;split at e
   .rename_i x hx;cases e;exact⟨m,by(try rw[ha,hb]);(try dsimp only);(try rw[hx]),h⟩
   .cases e
  .cases e
 case lookup t x k ok=>
  split at e
  .rename_i a b ha hb;split at e
   .rename_i x hx;cases e;exact⟨m,by(try rw[ha,hb]);(try dsimp only);rw[GR h hx],h⟩
   .cases e
  .cases e
 case mapUpdate t x k y=>
  split at e
  .rename_i a b c ha hb hc;split at e
   .rename_i m1 hx;obtain⟨m',k1,k2⟩:=vw h hx;cases e;exact⟨m',by(try rw[ha,hb,hc]);(try dsimp only);(first|(rw[k1];done)|(rw[k1];rfl)),k2⟩
   .cases e
  .cases e
 case insert t x k y=>
  split at e
  .rename_i a b c ha hb hc;split at e
   .rename_i m1 hx;obtain⟨m',k1,k2⟩:=vw h hx;cases e;exact⟨m',by(try rw[ha,hb,hc]);(try dsimp only);(first|(rw[k1];done)|(rw[k1];rfl)),k2⟩
   .cases e
  .cases e
 case mapEntry t x k=>
  split at e
  .rename_i a b ha hb;split at e
   .rename_i x m1 hx;obtain⟨m',k1,k2⟩:=El h hx;cases e;exact⟨m',by(try rw[ha,hb]);(try dsimp only);(first|(rw[k1];done)|(rw[k1];rfl)),k2⟩
   .cases e
  .cases e
 case entryStore t x s y=>
  split at e
  .rename_i a b c ha hb hc;split at e
   .rename_i m1 hx;obtain⟨m',k1,k2⟩:=AZ h hx;cases e;exact⟨m',by(try rw[ha,hb,hc]);(try dsimp only);(first|(rw[k1];done)|(rw[k1];rfl)),k2⟩
   .cases e
  .cases e
 case typeAssert x xT t ok=>
  split at e
  .rename_i a ha;split at e
   .rename_i x hx;cases e;exact⟨m,by(try rw[ha]);(try dsimp only);(try rw[hx]),h⟩
   .cases e
  .cases e
 case extract t i=>
  split at e
  .rename_i vs ha;split at e
   .rename_i x hx;cases e;exact⟨m,by(try rw[ha]);(try dsimp only);(try rw[hx]),h⟩
   .cases e
  .cases e
 case call c=>
  split at e
  .rename_i x m1 hx;obtain⟨m',k1,k2⟩:=JB hf h hx;cases e;exact⟨m',by(first|(rw[k1];done)|(rw[k1];rfl)),k2⟩
  .cases e
theorem vW(h:Bes E u m){tm:Tr Value}{sz:Nat}{u0 m0:Mem}{dst:Option Tmp}{v:Option Value}{st:St}(e:gq ⟨tm,sz,u0⟩ dst v u=some st):st.m=u/\gq ⟨tm,sz,m0⟩ dst v m=some ⟨st.tm,st.sz,m⟩:=by
 unfold gq at e ⊢;split at e
 .cases e;exact⟨rfl,rfl⟩
 ·(try dsimp only at e ⊢)
  split at e
  .rename_i hb
   (try rw[hb])
   split at e
   .cases e;exact⟨rfl,rfl⟩
   .cases e;exact⟨rfl,rfl⟩
  .cases e
theorem A0(ops:List Oper)(tm:Tr Value)(sz:Nat)(m m':Mem)(o:Oper):eX ops ⟨tm,sz,m⟩ o=eX ops ⟨tm,sz,m'⟩ o:=rfl
theorem vX{f:dB}(hf:Fi f){ops:List Oper}:∀{rest:List Oper} {tm:Tr Value} {sz:Nat} {u m:Mem} {st:St},Bes E u m->gA cx f ops rest ⟨tm,sz,u⟩=some st->∃m',gA cx f ops rest ⟨tm,sz,m⟩=some ⟨st.tm,st.sz,m'⟩/\Bes E st.m m'
 | [],tm,sz,u,m,st,h,e=>by unfold gA at e;cases e;exact⟨m,rfl,h⟩
 | o::r,tm,sz,u,m,st,h,e=>by
  unfold gA at e ⊢;rw[A0 ops tm sz m u];split at e
  .split at e
   .rename_i v m1 hop;obtain⟨m2,k1,k2⟩:=sG hf h hop;rw[k1];split at e
    .rename_i st1 hp;obtain⟨p1,p2⟩:=vW (m0:=m) k2 hp
     (try dsimp only)
     rw[p2];obtain⟨tm1,sz1,u1⟩:=st1;simp only at p1;subst p1;exact vX hf k2 e
    .cases e
   .cases e
  .split at e
   .rename_i st1 hp;obtain⟨p1,p2⟩:=vW (m0:=m) h hp
    (try dsimp only)
    rw[p2];obtain⟨tm1,sz1,u1⟩:=st1;simp only at p1;subst p1;exact vX hf h e
   .cases e
  .cases e
def HiBes(E:Nat->Option AObj):List (Nat×Bool×Mem×Nat)->List (Nat×Bool×Mem×Nat)->Prop
 | [],[]=>True
 | x::r,y::q=>x.1=y.1/\x.2.1=y.2.1/\Bes E x.2.2.1 y.2.2.1/\x.2.2.2=y.2.2.2/\HiBes E r q
 | _,_=>False
structure DrBes (E:Nat->Option AObj) (base:Nat) (d d':Dr):Prop where
 took:d'.took=d.took
 made:d'.made=d.made
 rd:d'.rd=d.rd
 hist:HiBes E d.hist d'.hist
 free:∀b o,E b=some o->b<base
 ids:∀e∈d.made,base<=e.2.1
theorem mh{base:Nat}(hfree:∀b o,E b=some o->b<base){p:Nat->Bool}:∀{made:List (Nat×Nat×AObj)},(∀e∈made,base<=e.2.1)->∀{u m:Mem},Bes E u m->Bes E (addMade p made u) (addMade p made m)
 | [],_,u,m,h=>h
 | (i,id,o)::r,hid,u,m,h=>by
  unfold addMade;have ih:=mh hfree (p:=p) (made:=r) (fun e he=>hid e (List.mem_cons_of_mem _ he)) h;split
  .refine ih.put ?_ o;cases hE:E id with
   | none=>rfl
   | some o'=>
    have h1:=hfree _ _ hE;have h2:=hid _ (List.mem_cons_self ..);simp only at h2;omega
  .exact ih
theorem Df{anc:Nat}:∀{hist hist':List (Nat×Bool×Mem×Nat)} {cur cur':Mem} {tk:Nat} {r:Mem×Nat},HiBes E hist hist'->Bes E cur cur'->kM anc cur tk hist=some r->∃m',kM anc cur' tk hist'=some (m',r.2)/\Bes E r.1 m'
 | [],[],cur,cur',tk,r,_,h,e=>by unfold kM at e;cases e;exact⟨cur',rfl,h⟩
 | [],_::_,_,_,_,_,hh,_,_=>hh.elim
 | _::_,[],_,_,_,_,hh,_,_=>hh.elim
 | (i,s,b,t)::l,(i',s',b',t')::l',cur,cur',tk,r,hh,h,e=>by
  obtain⟨h1,h2,h3,h4,h5⟩:=hh;simp only at h1 h2 h3 h4;subst h1;subst h2;subst h4;unfold kM at e ⊢;split at e
  .cases e;exact⟨cur',rfl,h⟩
  .split at e
   .exact Df h5 h3 e
   .cases e
theorem Fl{s:Nat}:∀{hist hist':List (Nat×Bool×Mem×Nat)},HiBes E hist hist'->waitsFor s hist'=waitsFor s hist
 | [],[],_=>rfl
 | [],_::_,hh=>hh.elim
 | _::_,[],hh=>hh.elim
 | (i,s,b,t)::l,(i',s',b',t')::l',hh=>by
  obtain⟨h1,_⟩:=hh;simp only at h1;subst h1;rfl
theorem LA{ops:List Oper}{s i base:Nat}{d d':Dr}{q:List Nat}{r:List Oper}(hd:DrBes E base d d'):uJ ops s i d' q r=uJ ops s i d q r:=by
 obtain⟨took,made,hist,rd⟩:=d;obtain⟨took',made',hist',rd'⟩:=d';obtain⟨h1,h2,h3,h4,_,_⟩:=hd;simp only at h1 h2 h3 h4;subst h1;subst h2;subst h3;unfold uJ;cases hist with
 | nil=>
  cases hist' with
  | nil=>rfl
  | cons x y=>exact h4.elim
 | cons x y=>
  cases hist' with
  | nil=>exact h4.elim
  | cons x y=>rfl
theorem Ig{f:dB}(hf:Fi f){ops:List Oper}{o:Oper}{r:List Oper}{s:Nat}{q:List Nat}{i base:Nat}{d d1:Dr}{tm:Tr Value}{sz:Nat}{v:Option Value}{u1:Mem}(d':Dr)
  (h:Bes E u m) (hd:DrBes E base d d') (e:fB cx f ops o r s q i base d ⟨tm,sz,u⟩=some (v,u1,d1)) :
  ∃m1 d1',fB cx f ops o r s q i base d' ⟨tm,sz,m⟩=some (v,m1,d1')/\Bes E u1 m1/\DrBes E base d1 d1':=by
 unfold fB at e ⊢;split at e
 .split at e
  .unfold lE at e ⊢
   (try dsimp only at e ⊢)
   split at e
   .rename_i x mm hop;split at e
    .rename_i ob hob;cases e
     (try rw[hop])
     (try dsimp only)
     (try rw[hob])
     exact⟨m,_,rfl,h,⟨hd.took,by first|rfl|simp only[hd.made],hd.rd,hd.hist,hd.free,fun e he=>by
      rcases List.mem_cons.1 he with rfl|he
      ·simp
      ·exact hd.ids e he⟩⟩
    .cases e
   .cases e
  .unfold gC at e ⊢;rw[Fl hd.hist,hd.rd,hd.took,hd.made];split at e
   .cases e
   .rename_i hw;split at e
    .rename_i hc;split at e
     .rename_i hap;split at e
      .rename_i hdn;have hdn':nY cx ⟨tm,sz,m⟩ o.op ops base d.rd s=true:=(Jz ..).trans hdn;split at e
       .rename_i x mm hop;cases e;have hb:=mh hd.free (p:=dO s d.took) hd.ids h;obtain⟨m1,k1,k2⟩:=sG hf hb hop
        (try dsimp only at k1 ⊢)
        simp only[hdn',k1];exact⟨_,_,rfl,k2,⟨rfl,by first|rfl|simp only[hd.made],by first|rfl|simp only[hd.rd],⟨rfl,rfl,h,rfl,hd.hist⟩,hd.free,hd.ids⟩⟩
       .cases e
      .cases e
     .rename_i hap;split at e
      .rename_i x mm hop;cases e;have hb:=(mh hd.free (p:=dO s d.took) hd.ids h).setFl (gf ops base u.nx s i d q r);obtain⟨m1,k1,k2⟩:=sG hf hb hop;have e1:gf ops base m.nx s i d' q r=gf ops base u.nx s i d q r:=by unfold gf;rw[LA hd,h.nx]
       simp only[e1]
       (try dsimp only at k1 ⊢)
       rw[k1];refine⟨_,_,rfl,?_,⟨rfl,by first|rfl|simp only[hd.made],by first|rfl|simp only[hd.rd],⟨rfl,rfl,h,rfl,hd.hist⟩,hd.free,hd.ids⟩⟩;have:=k2.setFl u.fl;rw[h.fl];exact this
      .cases e
    .rename_i hc;split at e
     .rename_i x mm hop;cases e;have hb:=mh hd.free (p:=dO s d.took) hd.ids h;obtain⟨m1,k1,k2⟩:=sG hf hb hop
      (try dsimp only at k1 ⊢)
      rw[k1];exact⟨_,_,rfl,k2,⟨rfl,by first|rfl|simp only[hd.made],by first|rfl|simp only[hd.rd],⟨rfl,rfl,h,rfl,hd.hist⟩,hd.free,hd.ids⟩⟩
     .cases e
 .unfold kq at e ⊢;split at e
  .rename_i m0 tk hm;obtain⟨m',k1,k2⟩:=Df hd.hist h hm;rw[hd.took]
   (try dsimp only at k1 ⊢)
   rw[k1,hd.made,hd.rd];split at e
   .rename_i x mm hop;cases e;obtain⟨m1,q1,q2⟩:=sG hf (mh hd.free (p:=dO s tk) hd.ids k2) hop
    (try dsimp only at q1 ⊢)
    rw[q1];exact⟨m,_,rfl,h,⟨rfl,rfl,rfl,hd.hist,hd.free,hd.ids⟩⟩
   .cases e
  .cases e
 .unfold jU at e ⊢
  (try dsimp only at e ⊢)
  split at e
  .rename_i x mm hop;cases e
   (try rw[hop])
   exact⟨m,d',rfl,h,hd⟩
  .cases e
theorem uK{f:dB}(hf:Fi f){ops:List Oper}{base:Nat}:∀{rest:List Oper} {ss:List Nat} {i:Nat} {d:Dr} {tm:Tr Value} {sz:Nat} {u m:Mem} {st:St} (d':Dr),Bes E u m->DrBes E base d d'->
  eH cx f ops base rest ss i d ⟨tm,sz,u⟩=some st->∃m',eH cx f ops base rest ss i d' ⟨tm,sz,m⟩=some ⟨st.tm,st.sz,m'⟩/\Bes E st.m m'
 | [],ss,i,d,tm,sz,u,m,st,d',h,hd,e=>by
  unfold eH at e ⊢;cases e;rw[hd.took,hd.made];exact⟨_,rfl,mh hd.free hd.ids h⟩
 | o::r,[],i,d,tm,sz,u,m,st,d',h,hd,e=>by unfold eH at e;cases e
 | o::r,s::q,i,d,tm,sz,u,m,st,d',h,hd,e=>by
  unfold eH at e ⊢;rw[A0 ops tm sz m u];split at e
  .split at e
   .rename_i v m1 d1 hop;obtain⟨m2,d2,k1,k2,k3⟩:=Ig hf d' h hd hop;rw[k1];split at e
    .rename_i st1 hp;obtain⟨p1,p2⟩:=vW (m0:=m) k2 hp
     (try dsimp only)
     rw[p2];obtain⟨tm1,sz1,u1⟩:=st1;simp only at p1;subst p1;exact uK hf d2 k2 k3 e
    .cases e
   .cases e
  .split at e
   .rename_i st1 hp;obtain⟨p1,p2⟩:=vW (m0:=m) h hp
    (try dsimp only)
    rw[p2];obtain⟨tm1,sz1,u1⟩:=st1;simp only at p1;subst p1;exact uK hf d' h hd e
   .cases e
  .cases e
end
def Nq(f:Code->St->Option (Ex×St)):Prop:=∀c tm sz u ex st,f c ⟨tm,sz,u⟩=some (ex,st)->∀E m,Bes E u m->∃m',f c ⟨tm,sz,m⟩=some (ex,⟨st.tm,st.sz,m'⟩)/\Bes E st.m m'
def nO(cx:Cx):Prop:=∀k f,cx.ov.get k=some f->∀a u r u',f a u=some (r,u')->∀E m,Bes E u m->∃m',f a m=some (r,m')/\Bes E u' m'
theorem pK{E:Nat->Option AObj}{u m:Mem}(h:Bes E u m){tm:Tr Value}{sz:Nat}:∀{l:List ResultVar} {vs:List Value},gF cx ⟨tm,sz,u⟩ l=some vs->gF cx ⟨tm,sz,m⟩ l=some vs
 | [],vs,e=>e
 | .tmp t::r,vs,e=>by
  unfold gF at e ⊢
  (try dsimp only at e ⊢)
  split at e
  .rename_i v l hv hl;rw[hv,pK h hl];exact e
  .cases e
 | .cell a t::r,vs,e=>by
  unfold gF at e ⊢
  (try dsimp only at e ⊢)
  split at e
  .rename_i p hp;split at e
   .rename_i v l hv hl;(try rw[hp]);(try dsimp only);rw[xH h hv,pK h hl];exact e
   .cases e
  .cases e
theorem vY(ho:nO cx){f:Code->St->Option (Ex×St)}(hf:Nq f):Fi (dT cx f):=by
 intro k a u r u' e E m h;unfold dT at e ⊢;cases hov:cx.ov.get k with
 | some g=>rw[hov]at e;exact ho k g hov a u r u' e E m h
 | none=>
  rw[hov]at e
  (try dsimp only at e ⊢)
  unfold ku at e ⊢;split at e
  .rename_i fn hfn;split at e
   .rename_i c hc;split at e
    .rename_i hb;split at e
     .rename_i st hr;obtain⟨m',k1,k2⟩:=hf _ _ _ _ _ _ hr E m h
      (try rw[hfn]);(try dsimp only);(try rw[hc]);(try dsimp only);(try rw[hb]);(try dsimp only);rw[k1]
      unfold qM at e ⊢;split at e
      .rename_i l hl;cases e;(try dsimp only);rw[pK k2 hl];exact⟨m',rfl,k2⟩
      .cases e
     .rename_i st hr;obtain⟨m',k1,k2⟩:=hf _ _ _ _ _ _ hr E m h
      (try rw[hfn]);(try dsimp only);(try rw[hc]);(try dsimp only);(try rw[hb]);(try dsimp only);rw[k1]
      unfold qM at e ⊢;split at e
      .rename_i l hl;cases e;(try dsimp only);rw[pK k2 hl];exact⟨m',rfl,k2⟩
      .cases e
     .cases e
    .cases e
   .cases e
  .cases e
theorem LB(ho:nO cx){f:Code->St->Option (Ex×St)}(hf:Nq f):Nq (step cx f):=by
 intro c tm sz u ex st e E m h;cases c with
 | skip=>simp only[step]at e ⊢;cases e;exact⟨m,rfl,h⟩
 | label l=>simp only[step]at e ⊢;cases e;exact⟨m,rfl,h⟩
 | exit id=>simp only[step]at e ⊢;cases e;exact⟨m,rfl,h⟩
 | ret=>simp only[step]at e ⊢;cases e;exact⟨m,rfl,h⟩
 | region id ops draw=>
  cases draw with
  | false=>
   simp only[step]at e ⊢;split at e
   .rename_i st1 h1;cases e;obtain⟨m',k1,k2⟩:=vX (vY ho hf) h h1;rw[k1];exact⟨m',rfl,k2⟩
   .cases e
  | true=>
   simp only[step]at e ⊢;split at e
   .rename_i hs;split at e
    .rename_i st1 h1;cases e;obtain⟨m',k1,k2⟩:=uK (E:=E) (vY ho hf) ⟨0,[],[],0⟩ (h.bump ops.toList.length) ⟨rfl,rfl,rfl,trivial,fun b o hb=>(h.gap b o hb).2,fun e he=>by cases he⟩ h1;rw[h.nx];(try rw[hs]);(try dsimp only);rw[h.nx]at k1;rw[k1];exact⟨m',rfl,k2⟩
    .cases e
   .cases e
 | seq a b=>
  simp only[step]at e ⊢;split at e
  .rename_i st1 h1;obtain⟨m1,k1,k2⟩:=hf _ _ _ _ _ _ h1 E m h;rw[k1];obtain⟨tm1,sz1,u1⟩:=st1;exact hf _ _ _ _ _ _ e E m1 k2
  .rename_i hne;cases hr:f a ⟨tm,sz,u⟩with
   | none=>rw[hr]at e;cases e
   | some x=>
    obtain⟨ex1,st1⟩:=x;rw[hr]at e;obtain⟨m1,k1,k2⟩:=hf _ _ _ _ _ _ hr E m h;rw[k1];cases e;cases ex with
    | normal=>exact(hne st hr).elim
    | exit i=>exact⟨m1,rfl,k2⟩
    | ret=>exact⟨m1,rfl,k2⟩
 | cond o x y=>
  simp only[step]at e ⊢;rw[lH tm sz m u];split at e
  .exact hf _ _ _ _ _ _ e E m h
  .exact hf _ _ _ _ _ _ e E m h
  .cases e
 | block id x=>
  simp only[step]at e ⊢;cases hr:f x ⟨tm,sz,u⟩with
  | none=>rw[hr]at e;cases e
  | some w=>
   obtain⟨ex1,st1⟩:=w;rw[hr]at e;obtain⟨m1,k1,k2⟩:=hf _ _ _ _ _ _ hr E m h;rw[k1];cases ex1 with
   | normal=>cases e;exact⟨m1,rfl,k2⟩
   | ret=>cases e;exact⟨m1,rfl,k2⟩
   | exit i=>
    (try dsimp only at e ⊢)
    split at e
    .rename_i hb;cases e;(try rw[hb]);exact⟨m1,rfl,k2⟩
    .rename_i hb;cases e;(try rw[hb]);exact⟨m1,rfl,k2⟩
 | loop x=>
  simp only[step]at e ⊢;split at e
  .rename_i st1 h1;obtain⟨m1,k1,k2⟩:=hf _ _ _ _ _ _ h1 E m h;rw[k1];obtain⟨tm1,sz1,u1⟩:=st1;exact hf _ _ _ _ _ _ e E m1 k2
  .rename_i hne;cases hr:f x ⟨tm,sz,u⟩with
   | none=>rw[hr]at e;cases e
   | some w=>
    obtain⟨ex1,st1⟩:=w;rw[hr]at e;obtain⟨m1,k1,k2⟩:=hf _ _ _ _ _ _ hr E m h;rw[k1];cases e;cases ex with
    | normal=>exact(hne st hr).elim
    | exit i=>exact⟨m1,rfl,k2⟩
    | ret=>exact⟨m1,rfl,k2⟩
 | rangeFunc _ _ _ _=>simp[step]at e
 | goto _=>simp[step]at e
 | scope _=>simp[step]at e
 | refuse _=>simp[step]at e
theorem Fo(ho:nO cx):∀n,Nq (eG cx n)
 | 0=>fun c tm sz u ex st e=>by cases e
 | n+1=>LB ho (Fo ho n)
theorem rG(ho:nO cx)(n:Nat):Fi (dT cx (eG cx n)):=vY ho (Fo ho n)
end Go.AX
namespace Go.AX
@[simp] theorem Qd (m:Mem) (o:AObj):(newO m o).nx=m.nx+1:=rfl
@[simp] theorem Qe (m:Mem) (o:AObj):(newO m o).fl=m.fl:=rfl
theorem kw(m:Mem)(o:AObj)(b:Nat):(newO m o).hp.get b=if b=m.nx then some o else m.hp.get b:=Tr.get_put ..
@[simp] theorem Qf (m:Mem) (n:Nat):(bump m n).nx=m.nx+n:=rfl
@[simp] theorem Qg (m:Mem) (n:Nat):(bump m n).fl=m.fl:=rfl
@[simp] theorem Qh (m:Mem) (n:Nat):(bump m n).hp=m.hp:=rfl
@[simp] theorem LC (m:Mem) (n:Nat):(setFl m n).nx=m.nx:=rfl
@[simp] theorem LD (m:Mem) (n:Nat):(setFl m n).fl=n:=rfl
@[simp] theorem P4 (m:Mem) (n:Nat):(setFl m n).hp=m.hp:=rfl
@[simp] theorem Qi (m:Mem) (b:Nat) (o:AObj):(addO m b o).nx=m.nx:=rfl
@[simp] theorem Qj (m:Mem) (b:Nat) (o:AObj):(addO m b o).fl=m.fl:=rfl
theorem gG(m:Mem)(b:Nat)(o:AObj)(b':Nat):(addO m b o).hp.get b'=if b'=b then some o else m.hp.get b':=Tr.get_put ..
@[simp] theorem PU (m:Mem) (b o:Nat) (l:List Value):(wr m b o l).nx=m.nx:=by unfold wr;split<;>rfl
@[simp] theorem A1 (m:Mem) (b o:Nat) (l:List Value):(wr m b o l).fl=m.fl:=by unfold wr;split<;>rfl
theorem sN{m m':Mem}{b o:Nat}(h:m'.hp.get b=m.hp.get b):rd m' b o=rd m b o:=by unfold rd;rw[h]
def Row(m:Mem)(b:Nat)(l:List Value)(e:TypeId)(x:Bool):Prop:=
 ∃c,m.hp.get b=some (.cells c l.length e x)/\∀i,i<l.length->c.get i=l[i]?
theorem Row.of_row{m:Mem}{b:Nat}{l:List Value}{e:TypeId}{x:Bool}(h:m.hp.get b=some (row l e x)):Row m b l e x:=
 ⟨_,h,fun i hi=>by
  have:∀(l:List Value) (c:Tr Value) (k i:Nat),(ec c l k).get i=if k<=i/\i<k+l.length then l[i-k]? else c.get i:=by
   intro l
   induction l with
   | nil=>intro c k i;rw[if_neg (by simp)];rfl
   | cons v r ih=>
    intro c k i;show (ec (c.put k v) r (k+1)).get i=_;rw[ih,Tr.get_put];by_cases h1:i=k
    ·subst h1;rw[if_neg (by omega),if_pos rfl,if_pos (by simp)];simp
    ·rw[if_neg h1];by_cases h2:k+1<=i/\i<k+1+r.length
     ·rw[if_pos h2,if_pos (by simp;omega)];rw[show i-k=(i-(k+1))+1 by omega];simp
     ·rw[if_neg h2,if_neg (by simp;omega)]
  rw[this,if_pos (by omega)];simp⟩
theorem Row.congr{m m':Mem}{b:Nat}{l:List Value}{e:TypeId}{x:Bool}(h:Row m b l e x)(hg:m'.hp.get b=m.hp.get b):Row m' b l e x:=by
 obtain⟨c,h1,h2⟩:=h;exact⟨c,hg.trans h1,h2⟩
theorem Row.rd{m:Mem}{b o:Nat}{l:List Value}{e:TypeId}{x:Bool}(h:Row m b l e x):rd m b o=l[o]?:=by
 obtain⟨c,h1,h2⟩:=h;by_cases ho:o<l.length
 .rw[zp (by rw[h1];rfl) ho,h2 o ho]
 .unfold AX.rd;rw[h1];have:Nat.blt o l.length=false:=by
   cases hb:Nat.blt o l.length with
   | false=>rfl
   | true=>exact absurd (Nat.le_of_ble_eq_true hb) (by omega)
  simp only[vZ,this];rw[List.getElem?_eq_none (by omega)]
theorem Row.okW{m:Mem}{b o n:Nat}{l:List Value}{e:TypeId}{x:Bool}(h:Row m b l e x)(hf:m.fl<=b)(hn:o+n<=l.length):okW m b o n:=by
 obtain⟨c,h1,h2⟩:=h;exact⟨hf,c,_,e,x,h1,hn⟩
theorem ky:∀(l:List Value) (c:Tr Value) (k i:Nat),(ec c l k).get i=if k<=i/\i<k+l.length then l[i-k]? else c.get i:=by
 intro l
 induction l with
 | nil=>intro c k i;rw[if_neg (by simp)];rfl
 | cons v r ih=>
  intro c k i;show (ec (c.put k v) r (k+1)).get i=_;rw[ih,Tr.get_put];by_cases h1:i=k
  .subst h1;rw[if_neg (by omega),if_pos rfl,if_pos (by simp)];simp
  .rw[if_neg h1];by_cases h2:k+1<=i/\i<k+1+r.length
   .rw[if_pos h2,if_pos (by simp;omega)];rw[show i-k=(i-(k+1))+1 by omega];simp
   .rw[if_neg h2,if_neg (by simp;omega)]
def over(l:List Value)(o:Nat)(vs:List Value):List Value:=l.take o++vs++l.drop (o+vs.length)
theorem qN{l:List Value}{o:Nat}{vs:List Value}(h:o+vs.length<=l.length):(over l o vs).length=l.length:=by
 simp[over];omega
theorem wc{l:List Value}{o:Nat}{vs:List Value}(h:o+vs.length<=l.length)(i:Nat):(over l o vs)[i]? = if o<=i/\i<o+vs.length then vs[i-o]? else l[i]?:=by
 unfold over;by_cases h1:i<o
 .rw[if_neg (by omega),List.append_assoc,List.getElem?_append_left (by simp;omega),List.getElem?_take,if_pos h1]
 .by_cases h2:i<o+vs.length
  .rw[if_pos (by omega),List.append_assoc,List.getElem?_append_right (by simp;omega),List.getElem?_append_left (by simp;omega)];congr 1;simp;omega
  .rw[if_neg (by omega),List.getElem?_append_right (by simp;omega),List.getElem?_drop];congr 1;simp;omega
theorem LE{l:List Value}{o:Nat}{v:Value}(h:o<l.length):over l o [v]=l.set o v:=by
 apply List.ext_getElem?;intro i;rw[wc (by simp;omega),List.getElem?_set];by_cases h1:o=i
 .subst h1;simp[h]
 .rw[if_neg (by simp;omega),if_neg h1]
theorem kU{m:Mem}{b o:Nat}{l:List Value}{b':Nat}(h:b'≠b):(wr m b o l).hp.get b'=m.hp.get b':=by
 unfold wr;split
 .show (m.hp.put b _).get b'=_;rw[Tr.get_put,if_neg h]
 .rfl
theorem Row.wr{m:Mem}{b o:Nat}{l vs:List Value}{e:TypeId}{x:Bool}(h:Row m b l e x)(hn:o+vs.length<=l.length):Row (wr m b o vs) b (over l o vs) e x:=by
 obtain⟨c,h1,h2⟩:=h;refine⟨ec c vs o,?_,fun i hi=>?_⟩
 .unfold AX.wr;simp only[h1];show (m.hp.put b _).get b=_;rw[Tr.get_put,if_pos rfl,qN hn]
 .rw[qN hn]at hi;rw[ky,wc hn,h2 i hi]
theorem Row.wr1{m:Mem}{b o:Nat}{l:List Value}{v:Value}{e:TypeId}{x:Bool}(h:Row m b l e x)(hn:o<l.length):Row (AX.wr m b o [v]) b (l.set o v) e x:=by
 have:=h.wr (o:=o) (vs:=[v]) (by simp;omega)
 rwa [LE hn]at this
theorem Row.newO{m:Mem}{l:List Value}{e:TypeId}{x:Bool}:Row (newO m (row l e x)) m.nx l e x:=
 Row.of_row (by rw[kw,if_pos rfl])
theorem Row.apart{m:Mem}{b b' o:Nat}{l vs:List Value}{e:TypeId}{x:Bool}(h:Row m b l e x)(hb:b≠b'):Row (AX.wr m b' o vs) b l e x:=
 h.congr (kU hb)
@[simp] theorem Hp (m:Mem) (n b o:Nat):rd (bump m n) b o=rd m b o:=rfl
@[simp] theorem P5 (m:Mem) (n b o:Nat):rd (setFl m n) b o=rd m b o:=rfl
structure Fr (m m':Mem) (S:List Nat):Prop where
 nx:m.nx<=m'.nx
 fl:m'.fl=m.fl
 get:∀b,b<m.nx->b∉S->m'.hp.get b=m.hp.get b
theorem Fr.refl(m:Mem)(S:List Nat):Fr m m S:=⟨Nat.le_refl _,rfl,fun _ _ _=>rfl⟩
theorem Fr.trans{m m1 m2:Mem}{S S':List Nat}(h:Fr m m1 S)(k:Fr m1 m2 S')(hs:∀b∈S',b∈S∨m.nx<=b):Fr m m2 S:=
 ⟨Nat.le_trans h.nx k.nx,k.fl.trans h.fl,fun b hb hn=>(k.get b (Nat.lt_of_lt_of_le hb h.nx) (fun hx=>by
  rcases hs b hx with h1|h1
  ·exact hn h1
  ·omega)).trans (h.get b hb hn)⟩
theorem Fr.mono{m m':Mem}{S S':List Nat}(h:Fr m m' S)(hs:∀b∈S,b∈S'∨m.nx<=b):Fr m m' S':=
 ⟨h.nx,h.fl,fun b hb hn=>h.get b hb (fun hx=>by
  rcases hs b hx with h1|h1
  ·exact hn h1
  ·omega)⟩
theorem Fr.newO{m m':Mem}{S:List Nat}{ob:AObj}(h:Fr m m' S):Fr m (newO m' ob) S:=
 h.trans (S':=[]) ⟨Nat.le_succ _,rfl,fun b hb _=>by rw[kw,if_neg (by omega)]⟩ (fun b hb=>by cases hb)
theorem Fr.wr{m m':Mem}{S:List Nat}{b o:Nat}{l:List Value}(h:Fr m m' S)(hb:b∈S∨m.nx<=b):Fr m (wr m' b o l) S:=
 h.trans (S':=[b]) ⟨by simp,by simp,fun b' _ hn=>kU (by simpa using hn)⟩ (fun b' hb'=>by simp at hb';subst hb';exact hb)
theorem Fr.addO{m m':Mem}{S:List Nat}{b:Nat}{ob:AObj}(h:Fr m m' S)(hb:b∈S∨m.nx<=b):Fr m (addO m' b ob) S:=
 h.trans (S':=[b]) ⟨by simp,by simp,fun b' _ hn=>by rw[gG,if_neg (by simpa using hn)]⟩ (fun b' hb'=>by simp at hb';subst hb';exact hb)
theorem Fr.row{m m':Mem}{S:List Nat}(h:Fr m m' S){b:Nat}{l:List Value}{e:TypeId}{x:Bool}(hr:Row m b l e x)(hb:b<m.nx)(hn:b∉S):Row m' b l e x:=hr.congr (h.get b hb hn)
def Wf(m:Mem):Prop:=m.fl<=m.nx/\∀b,m.nx<=b->m.hp.get b=none
theorem Wf.lt{m:Mem}(h:Wf m){b:Nat}{o:AObj}(hb:m.hp.get b=some o):b<m.nx:=by
 by_cases hc:b<m.nx
 .exact hc
 .rw[h.2 b (by omega)]at hb;cases hb
theorem Wf.row{m:Mem}(h:Wf m){b:Nat}{l:List Value}{e:TypeId}{x:Bool}(hr:Row m b l e x):b<m.nx:=by
 obtain⟨c,h1,_⟩:=hr;exact h.lt h1
theorem Wf.rd{m:Mem}(h:Wf m){b o:Nat}{v:Value}(hr:rd m b o=some v):b<m.nx:=by
 obtain⟨c,n,h1,_⟩:=Ag hr;cases hg:m.hp.get b with
 | none=>rw[hg]at h1;cases h1
 | some o=>exact h.lt hg
theorem Wf.newO{m:Mem}(h:Wf m){ob:AObj}:Wf (newO m ob):=
 ⟨Nat.le_trans h.1 (Nat.le_succ _),fun b hb=>by rw[kw,if_neg (by simp at hb;omega),h.2 b (by simp at hb;omega)]⟩
theorem Wf.bump{m:Mem}(h:Wf m){n:Nat}:Wf (bump m n):=⟨Nat.le_trans h.1 (Nat.le_add_right _ _),fun b hb=>h.2 b (by simp at hb;omega)⟩
theorem NL{m:Mem}{b o:Nat}{l:List Value}{b':Nat}(h:m.hp.get b'=none):(wr m b o l).hp.get b'=none:=by
 by_cases e:b'=b
 .subst e;unfold wr;rw[h];exact h
 .rw[kU e,h]
theorem Wf.wr{m:Mem}(h:Wf m){b o:Nat}{l:List Value}:Wf (wr m b o l):=⟨by simpa using h.1,fun b' hb=>NL (h.2 b' (by simpa using hb))⟩
theorem Wf.addO{m:Mem}(h:Wf m){b:Nat}{ob:AObj}(hb:b<m.nx):Wf (addO m b ob):=
 ⟨h.1,fun b' hb'=>by simp at hb';rw[gG,if_neg (by omega),h.2 b' hb']⟩
theorem Wf.at{m m':Mem}(h:Wf m){r:Nat}(hr:r<m.nx)(hn:m'.nx=m.nx)(hf:m'.fl=m.fl)(hg:∀b,b≠r->m'.hp.get b=m.hp.get b):Wf m':=
 ⟨by rw[hn,hf];exact h.1,fun b hb=>by rw[hn]at hb;rw[hg b (by omega)];exact h.2 b hb⟩
theorem fb{b:Bool}{t e:Prop}:splitB b t e↔(b=true->t)/\(b=false->e):=by
 cases b<;>simp[splitB]
theorem eF{t e:Prop}:splitB true t e↔t:=Iff.rfl
theorem gi{t e:Prop}:splitB false t e↔e:=Iff.rfl
@[simp] theorem cP {m:Mem} {K:Mem->Prop}:cZ m K↔K m:=⟨fun h=>h m rfl,fun h _ e=>e▸h⟩
@[simp] theorem cX {b o:Nat} {K:Nat->Nat->Prop}:da (some ⟨b,o,none⟩) K↔K b o:=Iff.rfl
@[simp] theorem P0 {K:Nat->Nat->Prop}:da none K↔False:=Iff.rfl
theorem gE{x y:Int}:cR x y=true↔x<y:=by simp[cR]
theorem dS{x y:Int}:cR x y=false↔y<=x:=by simp[cR]
theorem gh{x y:Int}:leI x y=true↔x<=y:=by simp[leI]
theorem lw{x y:Int}:leI x y=false↔y<x:=by simp[leI]
theorem eC{x y:Int}:cU x y=true↔x=y:=by simp[cU]
theorem dX{x y:Int}:cU x y=false↔x≠y:=by simp[cU]
theorem jz{x y:Int}:dV x y=true↔x≠y:=by simp[dV]
theorem fH{x y:Int}:dV x y=false↔x=y:=by simp[dV]
theorem Dg{k:IntKind}{r:Int}(h1:k.min<=r)(h2:r<=k.max):lF k r=r:=by
 unfold lF yR;simp[h1,h2]
def P3(x:Int):Prop:=-9223372036854775808<=x/\x<=9223372036854775807
theorem jC{r:Int}(h1:-9223372036854775808<=r)(h2:r<=9223372036854775807):lF .i64 r=r:=Dg h1 h2
theorem dG{x y:Int}(h1:-9223372036854775808<=x+y)(h2:x+y<=9223372036854775807):bh .i64 x y=x+y:=jC h1 h2
theorem eY{x y:Int}(h1:-9223372036854775808<=x-y)(h2:x-y<=9223372036854775807):cY .i64 x y=x-y:=jC h1 h2
theorem Cv{x y:Int}(h1:-9223372036854775808<=x*y)(h2:x*y<=9223372036854775807):ig .i64 x y=x*y:=jC h1 h2
theorem Row.rowAt{m:Mem}{b o k:Nat}{l:List Value}{e:TypeId}{x:Bool}(h:Row m b l e x)(hk:o+k<=l.length):fi m ⟨b,o,none⟩ k=some ((l.drop o).take k):=by
 obtain⟨c,h1,h2⟩:=h;rw[lz,h1];simp only[vZ,Nat.ble_eq_true_of_le hk];have hl:((l.drop o).take k).length=k:=by simp;omega
 have:=oF (c:=c) (vs:=(l.drop o).take k) (i:=o) (fun j v e=>by
  have hj:j<k:=by rw[<-hl];exact(List.getElem?_eq_some_iff.1 e).1
  rw[h2 (o+j) (by omega),<-e,List.getElem?_take,if_pos hj,List.getElem?_drop])
 rwa [hl]at this
theorem Row.rowAll{m:Mem}{b:Nat}{l:List Value}{e:TypeId}{x:Bool}(h:Row m b l e x):fi m ⟨b,0,none⟩ l.length=some l:=by
 have:=h.rowAt (o:=0) (k:=l.length) (by omega);simpa using this
def Grow(m:Mem)(a:Option Addr)(n c s:Nat)(e:TypeId)(l:List Value):Prop:=
 l.length=n*s/\((a=none/\n=0/\c=0)∨∃b,a=some ⟨b,0,none⟩/\c=n/\m.fl<=b/\Row m b l e true)
theorem Grow.nil(m:Mem)(s:Nat)(e:TypeId):Grow m none 0 0 s e []:=⟨by simp,.inl ⟨rfl,rfl,rfl⟩⟩
theorem nZ{cx:Cx}{m:Mem}{a:Option Addr}{n c s k:Nat}{e t tx:TypeId}{ux:TypeDesc}{i:TypeInfo}{z x:Value}{l new:List Value}(hG:Grow m a n c s e l)
  (ht:cx.un.get t=some (.slice e)) (htx:cx.un.get tx=some ux) (hux:iI ux=true) (hi:cx.ty.get e=some i) (his:i.size=s) (hz:ft cx e=some z) (hzl:(bQ z).length=s) (hs:0<s)
  (hx:mn x=some k) (hf:dA m s k x=some new) (hn:new.length=k*s) (ho:new.all one1=true) (hk:0<k) (hb1:(2*(n+k)+192)*i.bytes<=140737488355328) (hb2:n+k<=1099511627776) :
  ∃m',cQ cx m [t,tx] [.slice a n c,x]=some (.slice (some ⟨m.nx,0,none⟩) (n+k) (n+k),m')/\m'.nx=m.nx+1/\m'.fl=m.fl/\Row m' m.nx (l++new) e true/\
   ∀b',b'≠m.nx->(∀b,a=some ⟨b,0,none⟩->b'≠b)->m'.hp.get b'=m.hp.get b':=by
 obtain⟨hl,hG⟩:=hG;have hcn:Nat.ble (n+k) c=false:=by
  rcases hG with⟨_,h1,h2⟩|⟨b,_,h2,_⟩
  .cases h:Nat.ble (n+k) c with
   | false=>rfl
   | true=>have:=Nat.le_of_ble_eq_true h;omega
  .cases h:Nat.ble (n+k) c with
   | false=>rfl
   | true=>have:=Nat.le_of_ble_eq_true h;omega
 subst his;have hfirst:dA m i.size n (.slice a n c)=some l:=by
  rcases hG with⟨rfl,rfl,rfl⟩|⟨b,rfl,rfl,_,hr⟩
  .simp only[dA];congr 1;exact(List.length_eq_zero_iff.1 (by simpa using hl)).symm
  .cases c with
   | zero=>simp only[dA];congr 1;exact(List.length_eq_zero_iff.1 (by simpa using hl)).symm
   | succ c=>simp only[dA];rw[<-hl];exact hr.rowAll
 have hgu:∃m1,giveUp m a e i.size c=some m1/\m1.nx=m.nx/\m1.fl=m.fl/\∀b',(∀b,a=some ⟨b,0,none⟩->b'≠b)->m1.hp.get b'=m.hp.get b':=by
  rcases hG with⟨rfl,rfl,rfl⟩|⟨b,rfl,rfl,hfl,tr,hr,_⟩
  .exact⟨m,rfl,rfl,rfl,fun _ _=>rfl⟩
  .refine⟨{ m with hp:=m.hp.del b },?_,rfl,rfl,fun b' hb'=>?_⟩
   .unfold giveUp;simp only[hr];have e1:Nat.beq e e=true:=Nat.beq_refl e;have e2:Nat.beq (0+c*i.size) l.length=true:=by rw[hl,Nat.zero_add];exact Nat.beq_refl _
    simp only[e1,e2,Nat.ble_eq_true_of_le hfl]
   .show (m.hp.del b).get b'=_;rw[Tr.get_del,if_neg (hb' b rfl)]
 obtain⟨m1,g1,g2,g3,g4⟩:=hgu;refine⟨newO m1 (row (l++new) e true),?_,by simp[g2],by simp[g3],?_,fun b' h1 h2=>?_⟩
 .unfold cQ;simp only[ht,htx,hi,hx,hux,hf,hcn];have e1:(Nat.beq new.length (k*i.size)&&Nat.blt 0 i.size&&new.all one1)=true:=by
   rw[hn,ho,show Nat.beq (k*i.size) (k*i.size)=true from Nat.beq_refl _,show Nat.blt 0 i.size=true from Nat.ble_eq_true_of_le hs];rfl
  have e2:(Nat.ble ((2*(n+k)+192)*i.bytes) 140737488355328&&Nat.ble (n+k) 1099511627776)=true:=by
   rw[Nat.ble_eq_true_of_le hb1,Nat.ble_eq_true_of_le hb2];rfl
  have e3:(Nat.beq l.length (n*i.size)&&Nat.beq (bQ z).length i.size)=true:=by
   rw[hl,hzl,show Nat.beq (n*i.size) (n*i.size)=true from Nat.beq_refl _,show Nat.beq i.size i.size=true from Nat.beq_refl _];rfl
  simp only[e1,e2,hfirst,hz,g1,e3];show some _=_;rw[<-g2];rfl
 .rw[<-g2];exact Row.newO
 .rw[kw,if_neg (by rw[g2];exact h1),g4 b' h2]
def EV(k:IntKind)(es:List MapEntry)(f:Int->Option Value):Prop:=
 (∀e∈es,∃n,e.key = .int k n)/\∀n,∃r,gu (.int k) (.int k n) es 0=some r/\r.map (·.2)=f n
theorem EV.nil(k:IntKind):EV k [] fun _=>none:=⟨(fun _ he=>nomatch he),(fun _=>⟨none,rfl,rfl⟩)⟩
theorem gD{k:IntKind}{n j:Int}{e:MapEntry}{es:List MapEntry}{i:Nat}(he:e.key = .int k j):gu (.int k) (.int k n) (e::es) i=if n=j then some (some (i,e.val)) else gu (.int k) (.int k n) es (i+1):=by
 simp only[gu,he,iM,yT,Bool.and_self,decide_true];by_cases h:n=j
 .rw[if_pos h];simp[h]
 .rw[if_neg h];simp[h]
theorem kC{k:IntKind}{n:Int}:∀{es:List MapEntry} {i:Nat},(∀e∈es,∃n,e.key = .int k n)->gu (.int k) (.int k n) es i=(gu (.int k) (.int k n) es 0).map (·.map fun x=>(x.1+i,x.2))
 | [],i,_=>rfl
 | e::r,i,h=>by
  obtain⟨j,hj⟩:=h e (List.mem_cons_self ..);have hr:∀e∈r,∃n,e.key = .int k n:=fun e he=>h e (List.mem_cons_of_mem _ he)
  rw[gD hj,gD hj];by_cases hn:n=j
  .rw[if_pos hn,if_pos hn];simp
  .rw[if_neg hn,if_neg hn,kC hr (i:=i+1),kC hr (i:=0+1)];cases gu (.int k) (.int k n) r 0 with
   | none=>rfl
   | some o=>cases o with
    | none=>rfl
    | some p=>simp;omega
theorem xJ{k:IntKind}{n j:Int}{v:Value}{born:Nat}:∀{es:List MapEntry} {i:Nat},(∀e∈es,∃n,e.key = .int k n)->
  gu (.int k) (.int k n) (es++[{ key:=.int k j,val:=v,born:=born }]) i=match gu (.int k) (.int k n) es i with
   | some (some p)=>some (some p)
   | some none=>if n=j then some (some (i+es.length,v)) else some none
   | none=>none
 | [],i,_=>by rw[List.nil_append,gD rfl];simp[gu]
 | e::r,i,h=>by
  obtain⟨q,hq⟩:=h e (List.mem_cons_self ..);have hr:∀e∈r,∃n,e.key = .int k n:=fun e he=>h e (List.mem_cons_of_mem _ he)
  rw[List.cons_append,gD hq,gD hq];by_cases hn:n=q
  .rw[if_pos hn,if_pos hn]
  .rw[if_neg hn,if_neg hn,xJ hr];rw[show i+1+r.length=i+(e::r).length by simp;omega]
theorem sU{k:IntKind}{n j:Int}{v:Value}:∀{es:List MapEntry} {p:Nat} {old:Value},(∀e∈es,∃n,e.key = .int k n)->gu (.int k) (.int k j) es 0=some (some (p,old))->
  (gu (.int k) (.int k n) (es.modify p fun e=>{ e with key:=.int k j,val:=v }) 0=if n=j then some (some (p,v)) else gu (.int k) (.int k n) es 0)/\∀e∈(es.modify p fun e=>{ e with key:=.int k j,val:=v }),∃n,e.key = .int k n
 | [],p,old,_,h=>by cases h
 | e::r,p,old,hk,h=>by
  obtain⟨q,hq⟩:=hk e (List.mem_cons_self ..);have hr:∀e∈r,∃n,e.key = .int k n:=fun e he=>hk e (List.mem_cons_of_mem _ he)
  rw[gD hq]at h;by_cases hj:j=q
  .rw[if_pos hj]at h;cases h;subst hj;refine⟨?_,?_⟩
   .simp only[List.modify_zero_cons];rw[gD rfl,gD hq];by_cases hn:n=j
    .rw[if_pos hn,if_pos hn]
    .rw[if_neg hn,if_neg hn,if_neg hn]
   .intro e' he';simp only[List.modify_zero_cons,List.mem_cons]at he';rcases he' with rfl|he'
    .exact⟨j,rfl⟩
    .exact hr e' he'
  .rw[if_neg hj,kC hr]at h;cases hf:gu (.int k) (.int k j) r 0 with
   | none=>rw[hf]at h;cases h
   | some o=>
    cases o with
    | none=>rw[hf]at h;cases h
    | some x=>
     obtain⟨p',v'⟩:=x;rw[hf]at h;simp at h;obtain⟨rfl,rfl⟩:=h;obtain⟨h1,h2⟩:=sU (n:=n) (v:=v) hr hf;refine⟨?_,?_⟩
     .simp only[List.modify_succ_cons];rw[gD hq,gD hq,kC h2,h1,kC hr];by_cases hn:n=j
      .rw[if_pos hn,if_pos hn,if_neg (fun e=>hj (hn▸e))];rfl
      .rw[if_neg hn];by_cases hq2:n=q
       .rw[if_pos hq2];simp[hq2,Ne.symm hj]
       .rw[if_neg hq2,if_neg hq2,if_neg hn,kC hr (i:=0+1)];cases gu (.int k) (.int k n) r 0 with
        | none=>rfl
        | some o=>cases o<;>rfl
     .intro e' he';simp only[List.modify_succ_cons,List.mem_cons]at he';rcases he' with rfl|he'
      .exact⟨q,hq⟩
      .exact h2 e' he'
def Fp(f:Int->Option Value)(j:Int)(v:Value):Int->Option Value:=fun n=>if n=j then some v else f n
def OY(es:List MapEntry)(clock:Nat):Prop:=(∀e∈es,e.born<clock)/\(es.map (·.born)).Nodup/\(es.map (·.key)).Nodup
theorem A2{k:IntKind}{n:Int}:∀{es:List MapEntry} {i:Nat},(∀e∈es,∃n,e.key = .int k n)->gu (.int k) (.int k n) es i=some none->∀e∈es,e.key≠.int k n
 | [],_,_,_,_,he=>nomatch he
 | e::r,i,h,hf,e',he'=>by
  obtain⟨q,hq⟩:=h e (List.mem_cons_self ..);rw[gD hq]at hf;by_cases hn:n=q
  .rw[if_pos hn]at hf;cases hf
  .rw[if_neg hn]at hf;rcases List.mem_cons.1 he' with rfl|he'
   .rw[hq];intro e1;injection e1 with _ e1;exact hn e1.symm
   .exact A2 (fun e he=>h e (List.mem_cons_of_mem _ he)) hf e' he'
theorem modify_keys{k:IntKind}{j:Int}{v old:Value}:∀{es:List MapEntry} {p:Nat},(∀e∈es,∃n,e.key = .int k n)->gu (.int k) (.int k j) es 0=some (some (p,old))->
  (es.modify p fun e=>{ e with key:=.int k j,val:=v }).map (·.key)=es.map (·.key)/\(es.modify p fun e=>{ e with key:=.int k j,val:=v }).map (·.born)=es.map (·.born)
 | [],p,_,h=>by cases h
 | e::r,p,hk,h=>by
  obtain⟨q,hq⟩:=hk e (List.mem_cons_self ..);have hr:∀e∈r,∃n,e.key = .int k n:=fun e he=>hk e (List.mem_cons_of_mem _ he)
  rw[gD hq]at h;by_cases hj:j=q
  .rw[if_pos hj]at h;cases h;subst hj;simp only[List.modify_zero_cons,List.map_cons,hq,and_self]
  .rw[if_neg hj,kC hr]at h;cases hf:gu (.int k) (.int k j) r 0 with
   | none=>rw[hf]at h;cases h
   | some o=>
    cases o with
    | none=>rw[hf]at h;cases h
    | some x=>
     obtain⟨p',v'⟩:=x;rw[hf]at h;simp at h;obtain⟨rfl,rfl⟩:=h;obtain⟨h1,h2⟩:=modify_keys (v:=v) hr hf;simp only[List.modify_succ_cons,List.map_cons];exact⟨by rw[h1],by rw[h2]⟩
def oG(m:Mem)(r:Nat)(k:IntKind)(f:Int->Option Value):Prop:=∃es clock,m.hp.get r=some (.map es clock)/\EV k es f/\OY es clock
theorem oG.congr{m m':Mem}{r:Nat}{k:IntKind}{f:Int->Option Value}(h:oG m r k f)(hg:m'.hp.get r=m.hp.get r):oG m' r k f:=by
 obtain⟨es,cl,h1,h2⟩:=h;exact⟨es,cl,hg.trans h1,h2⟩
theorem oG.newO{m:Mem}{k:IntKind}:oG (newO m (.map [] 0)) m.nx k fun _=>none:=⟨[],0,by rw[kw,if_pos rfl],EV.nil k,(fun _ he=>nomatch he),List.nodup_nil,List.nodup_nil⟩
theorem oG.look{cx:Cx}{m:Mem}{r:Nat}{k:IntKind}{f:Int->Option Value}(h:oG m r k f){t et:TypeId}{n:Int}(hk:mapKey cx t (.int k n)=some (.int k,et)){ok:Bool}{z:Value}(hz:ft cx et=some z) :
  mg cx m t (.map (some r)) (.int k n) ok=some (match f n with|some v=>okV ok v true|none=>okV ok z false):=by
 obtain⟨es,cl,h1,⟨h2,h3⟩,_⟩:=h;obtain⟨q,hq,he⟩:=h3 n;unfold mg;simp only[hk,h1,sT,hq];rw[<-he];cases q with
 | none=>simp[hz]
 | some p=>rfl
theorem oG.update{cx:Cx}{m:Mem}{r:Nat}{k:IntKind}{f:Int->Option Value}(h:oG m r k f)(hf:m.fl<=r){t et:TypeId}{n:Int}(hk:mapKey cx t (.int k n)=some (.int k,et))(v:Value) :
  ∃m',fK cx m t (.map (some r)) (.int k n) v=some m'/\oG m' r k (Fp f n v)/\m'.nx=m.nx/\m'.fl=m.fl/\∀b,b≠r->m'.hp.get b=m.hp.get b:=by
 obtain⟨es,cl,h1,⟨h2,h3⟩,s1,s2,s3⟩:=h;obtain⟨q,hq,he⟩:=h3 n;cases q with
 | none=>
  refine⟨{ m with hp:=m.hp.put r (.map (es++[{ key:=.int k n,val:=v,born:=cl }]) (cl+1)) },?_,⟨_,_,by show (m.hp.put r _).get r=_;rw[Tr.get_put,if_pos rfl],⟨?_,fun j=>?_⟩,?_,?_,?_⟩,rfl,rfl,fun b hb=>by show (m.hp.put r _).get b=_;rw[Tr.get_put,if_neg hb]⟩
  .unfold fK;simp only[hk,h1,hq,mM,Nat.ble_eq_true_of_le hf]
  .intro e' he';rcases List.mem_append.1 he' with h|h
   .exact h2 e' h
   .simp at h;subst h;exact⟨n,rfl⟩
  .obtain⟨q',hq',he'⟩:=h3 j;rw[xJ h2,hq'];unfold Fp;cases q' with
   | none=>
    by_cases hj:j=n
    .subst hj;exact⟨_,by rw[if_pos rfl],by rw[if_pos rfl];rfl⟩
    .exact⟨_,by rw[if_neg hj],by rw[if_neg hj];exact he'⟩
   | some p=>
    have hne:j≠n:=by rintro rfl;rw[hq]at hq';cases hq'
    exact⟨_,rfl,by rw[if_neg hne];exact he'⟩
  .intro e' he';rcases List.mem_append.1 he' with h|h
   .exact Nat.lt_succ_of_lt (s1 e' h)
   .simp at h;subst h;exact Nat.lt_succ_self _
  .rw[List.map_append];refine List.nodup_append.2 ⟨s2,by simp,fun a ha b hb e=>?_⟩;obtain⟨x,hx,rfl⟩:=List.mem_map.1 ha;simp at hb;have:=s1 x hx;omega
  .rw[List.map_append];refine List.nodup_append.2 ⟨s3,by simp,fun a ha b hb e=>?_⟩;obtain⟨x,hx,rfl⟩:=List.mem_map.1 ha;simp at hb;exact A2 h2 hq x hx (e.trans hb)
 | some p=>
  obtain⟨i,old⟩:=p;refine⟨{ m with hp:=m.hp.put r (.map (es.modify i fun e=>{ e with key:=.int k n,val:=v }) cl) },?_,⟨_,_,by show (m.hp.put r _).get r=_;rw[Tr.get_put,if_pos rfl],⟨(sU (n:=n) h2 hq).2,fun j=>?_⟩,?_,?_,?_⟩,rfl,rfl,fun b hb=>by show (m.hp.put r _).get b=_;rw[Tr.get_put,if_neg hb]⟩
  .unfold fK;simp only[hk,h1,hq,mM,Nat.ble_eq_true_of_le hf]
  .rw[(sU (n:=j) h2 hq).1];unfold Fp;by_cases hj:j=n
   .subst hj;exact⟨_,by rw[if_pos rfl],by rw[if_pos rfl];rfl⟩
   .obtain⟨q',hq',he'⟩:=h3 j;exact⟨q',by rw[if_neg hj];exact hq',by rw[if_neg hj];exact he'⟩
  .intro e' he';have:e'.born∈(es.modify i fun e=>{ e with key:=.int k n,val:=v }).map (·.born):=List.mem_map_of_mem he';rw[(modify_keys h2 hq).2]at this;obtain⟨x,hx,e⟩:=List.mem_map.1 this;rw[<-e];exact s1 x hx
  .rw[(modify_keys h2 hq).2];exact s2
  .rw[(modify_keys h2 hq).1];exact s3
end Go.AX
