import Derived.Test.YthpnifigjfplbaaGreatQU04
import Derived.Test.YthpnifigjfplbaaGreatQU05
set_option linter.unusedSectionVars false
set_option linter.unusedSimpArgs false
set_option linter.unusedVariables false
namespace Go.AX
variable {cx:Cx}
structure Bes (E:Nat->Option AObj) (u m:Mem):Prop where
 nx:m.nx=u.nx
 fl:m.fl=u.fl
 get:∀b,m.hp.get b=match E b with
  | some o=>some o
  | none=>u.hp.get b
 gap:∀b o,E b=some o->u.hp.get b=none/\b<u.nx
section
variable {E:Nat->Option AObj} {u m:Mem}
theorem Bes.got(h:Bes E u m){b:Nat}{o:AObj}(hb:u.hp.get b=some o):m.hp.get b=some o:=by
 rw[h.get];cases hE:E b with
 | none=>exact hb
 | some o'=>rw[(h.gap b o' hE).1]at hb;cases hb
theorem Bes.noE(h:Bes E u m){b:Nat}{o:AObj}(hb:u.hp.get b=some o):E b=none:=by
 cases hE:E b with
 | none=>rfl
 | some o'=>rw[(h.gap b o' hE).1]at hb;cases hb
theorem Bes.refl(u:Mem):Bes (fun _=>none) u u:=⟨rfl,rfl,fun _=>rfl,fun b o h=>by cases h⟩
theorem Bes.put(h:Bes E u m){b:Nat}(hb:E b=none)(o':AObj):Bes E { u with hp:=u.hp.put b o' } { m with hp:=m.hp.put b o' }:=by
 refine⟨h.nx,h.fl,fun b'=>?_,fun b' o1 h1=>?_⟩
 .show (m.hp.put b o').get b'=match E b' with|some o=>some o|none=>(u.hp.put b o').get b'
  rw[Tr.get_put,Tr.get_put,h.get];by_cases e:b'=b
  .subst e;rw[if_pos rfl,if_pos rfl,hb]
  .rw[if_neg e,if_neg e]
 .obtain⟨h2,h3⟩:=h.gap b' o1 h1;refine⟨?_,h3⟩;show (u.hp.put b o').get b'=_;rw[Tr.get_put,if_neg (fun e=>by rw[e,hb]at h1;cases h1)];exact h2
theorem Bes.noNx(h:Bes E u m):E u.nx=none:=by
 cases hE:E u.nx with
 | none=>rfl
 | some o=>have:=(h.gap _ o hE).2;omega
theorem Bes.new(h:Bes E u m)(o:AObj):Bes E { hp:=u.hp.put u.nx o,nx:=u.nx+1,fl:=u.fl } { hp:=m.hp.put m.nx o,nx:=m.nx+1,fl:=m.fl }:=by
 have h1:=h.put h.noNx o;refine⟨by show m.nx+1=u.nx+1;rw[h.nx],h.fl,fun b=>?_,fun b o1 hb=>?_⟩
 .have:=h1.get b;show (m.hp.put m.nx o).get b=_;rw[h.nx];exact this
 .obtain⟨h2,h3⟩:=h1.gap b o1 hb;exact⟨h2,Nat.lt_succ_of_lt h3⟩
theorem Bes.del(h:Bes E u m){b:Nat}(hb:E b=none):Bes E { u with hp:=u.hp.del b } { m with hp:=m.hp.del b }:=by
 refine⟨h.nx,h.fl,fun b'=>?_,fun b' o1 h1=>?_⟩
 .show (m.hp.del b).get b'=match E b' with|some o=>some o|none=>(u.hp.del b).get b'
  rw[Tr.get_del,Tr.get_del,h.get];by_cases e:b'=b
  .subst e;rw[if_pos rfl,if_pos rfl,hb]
  .rw[if_neg e,if_neg e]
 .obtain⟨h2,h3⟩:=h.gap b' o1 h1;refine⟨?_,h3⟩;show (u.hp.del b).get b'=_;rw[Tr.get_del];split
  .rfl
  .exact h2
theorem Bes.setFl(h:Bes E u m)(n:Nat):Bes E { u with fl:=n } { m with fl:=n }:=⟨h.nx,rfl,h.get,h.gap⟩
theorem Bes.bump(h:Bes E u m)(n:Nat):Bes E { u with nx:=u.nx+n } { m with nx:=m.nx+n }:=
 ⟨by show m.nx+n=u.nx+n;rw[h.nx],h.fl,h.get,fun b o hb=>let ⟨p,q⟩:=h.gap b o hb;⟨p,Nat.lt_of_lt_of_le q (Nat.le_add_right _ _)⟩⟩
theorem pT(h:Bes E u m){a:Addr}{n:Nat}{l:List Value}(e:fk u a n=some l):fk m a n=some l:=by
 unfold fk at e ⊢;cases hs:a.spot with
 | some _=>simp only[hs]at e;cases e
 | none=>
  simp only[hs]at e ⊢;cases hg:u.hp.get a.block with
  | none=>rw[hg]at e;cases e
  | some o=>rw[hg]at e;rw[h.got hg];exact e
theorem yj(h:Bes E u m){t:TypeId}{a:Addr}{v:Value}(e:loadT cx u t a=some v):loadT cx m t a=some v:=by
 unfold loadT at e ⊢;split at e
 .rename_i d n hd hn;split at e
  .rename_i ha;split at e
   .rename_i l hl
    (try simp only[ha,pT h hl]);exact e
   .cases e
  .rename_i ha;split at e
   .rename_i x hl
    (try simp only[ha,pT h hl]);exact e
   .cases e
 .cases e
theorem sd(h:Bes E u m){b:Nat}(e:lG u b=true):lG m b=true:=by
 unfold lG at e ⊢;cases hg:u.hp.get b with
 | none=>rw[hg]at e;cases e
 | some o=>rw[hg]at e;rw[h.got hg];exact e
theorem J0(h:Bes E u m){x y:Option Addr}{r:Bool}(e:pS u x y=some r):pS m x y=some r:=by
 cases x with
 | none=>exact e
 | some a=>
  cases y with
  | none=>exact e
  | some b=>
   unfold pS at e ⊢
   (try dsimp only at e ⊢)
   split at e
   .rename_i h1 h2 h3 h4;rw[h1,h2,sd h h3,sd h h4];exact e
   .cases e
theorem se{f g:TypeId->Value->Value->Option Bool}(hfg:∀t x y r,f t x y=some r->g t x y=some r){xs ys:List Value}:∀{l:List Field} {r:Bool},eqFields cx f xs ys l=some r->eqFields cx g xs ys l=some r
 | [],r,e=>e
 | fd::l,r,e=>by
  unfold eqFields at e ⊢;split at e
  .rename_i h1;(try simp only[h1]);exact se hfg e
  .rename_i h1;split at e
   .rename_i a b h2 h3;split at e
    .rename_i h4;(try simp only[h1,h2,h3,hfg _ _ _ _ h4]);exact se hfg e
    .rename_i h4;(try simp only[h1,h2,h3,hfg _ _ _ _ h4]);exact e
    .cases e
   .cases e
theorem zw(h:Bes E u m):∀{d:Nat} {t:TypeId} {x y:Value} {r:Bool},gj cx u d t x y=some r->gj cx m d t x y=some r
 | 0,_,_,_,_,e=>e
 | d+1,t,x,y,r,e=>by
  unfold gj at e ⊢;cases hu:cx.un.get t with
  | none=>rw[hu]at e;cases e
  | some w=>
   rw[hu]at e
   (try dsimp only at e ⊢)
   split at e
   .exact e
   .exact e
   .exact e
   .split at e
    .rename_i hs;(try simp only[hs]);exact J0 h e
    .cases e
   .exact e
   .exact e
   .exact e
   .split at e
    .rename_i hb;(try simp only[hb]);exact e
    .rename_i hb;split at e
     .rename_i i hi;split at e
      .rename_i hc;(try simp only[hb,hi,hc]);exact zw h e
      .cases e
     .cases e
   .split at e
    .rename_i hn;(try simp only[hn]);exact se (fun t x y r q=>zw h q) e
    .cases e
   .exact e
   .exact e
   .exact e
   .exact e
   .exact e
   .exact e
   .exact e
   .cases e
theorem IF(h:Bes E u m){op:BinOp}{t:TypeId}{x y v:Value}(e:gP cx u op t x y=some v):gP cx m op t x y=some v:=by
 unfold gP at e ⊢;split at e
 .exact e
 .exact e
 .split at e
  .split at e
   .rename_i hq;(try simp only[zw h hq]);exact e
   .cases e
  .split at e
   .rename_i hq;(try simp only[zw h hq]);exact e
   .cases e
  .cases e
theorem yk(h:Bes E u m){b s:Nat}(e:sameSize cx u b s=true):sameSize cx m b s=true:=by
 unfold sameSize at e ⊢;cases hg:u.hp.get b with
 | none=>rw[hg]at e;cases e
 | some o=>rw[hg]at e;rw[h.got hg];exact e
theorem zN(h:Bes E u m){t:TypeId}{x v:Value}{lo hi mx:Option Value}(e:cX cx u t x lo hi mx=some v):cX cx m t x lo hi mx=some v:=by
 unfold cX at e ⊢;split at e
 .exact e
 .rename_i el a len cap hd;split at e
  .rename_i s hs;split at e
   .split at e
    .rename_i hh e1;split at e
     .rename_i l e2
      (try simp only[hs,e1,e2])
      split at e
      .rename_i a0
       (try dsimp only at e ⊢)
       cases hsp:a0.spot with
       | some q=>simp only[hsp]at e ⊢;exact e
       | none=>
        simp only[hsp]at e ⊢;cases hq:sameSize cx u a0.block s with
        | true=>rw[hq]at e;rw[yk h hq];exact e
        | false=>
         rw[hq]at e;simp only[Bool.false_and]at e;split at e
         .rename_i hz;simp only[Bool.and_eq_true]at hz;obtain⟨⟨z1,z2⟩,z3⟩:=hz;have z1:=gR3 z1;have z2:=gR3 z2;have z3:=gR3 z3;subst z1;subst z2;subst z3;cases hq2:sameSize cx m a0.block s with
          | true=>
           simp only[show Nat.ble 0 0=true from rfl,Bool.and_true];rw[<-e];unfold ng;simp only[Nat.zero_mul,Nat.add_zero,Nat.sub_self];obtain⟨b,of,sp⟩:=a0;simp only at hsp;subst hsp;rfl
          | false=>(try simp only[Bool.false_and]);exact e
         .cases e
      .exact e
     .cases e
    .cases e
   ·(try simp only[hs]);exact e
  .cases e
 .rename_i n el a hd;split at e
  .rename_i s h1 h2 h3
   (try simp only[h1,h2,sd h h3]);exact e
  .cases e
 .cases e
theorem pU(h:Bes E u m){s n:Nat}{x:Value}{l:List Value}(e:dA u s n x=some l):dA m s n x=some l:=by
 unfold dA at e ⊢;split at e
 .cases n with
  | zero=>exact e
  | succ n=>exact pT h e
 .exact e
 .exact e
 .cases e
theorem FJ(h:Bes E u m){s d:TypeId}{x v:Value}(e:kK cx u s d x=some v):kK cx m s d x=some v:=by
 unfold kK at e ⊢;split at e
 .exact e
 .exact e
 .split at e
  .rename_i h1;split at e
   .rename_i l hl
    (try simp only[h1,pT h hl]);exact e
   .cases e
  .rename_i h1;(try simp only[h1]);exact e
  .cases e
 .cases e
theorem Hk(h:Bes E u m){t:TypeId}{x k v:Value}{ok:Bool}(e:mw cx u t x k ok=some v):mw cx m t x k ok=some v:=by
 unfold mw at e ⊢;split at e
 .rename_i d et hk;split at e
  .exact e
  .rename_i r;cases hg:u.hp.get r with
   | none=>rw[hg]at e;cases e
   | some o=>rw[hg]at e;(try simp only[h.got hg]);exact e
  .cases e
 .cases e
theorem L1(h:Bes E u m){ts:List TypeId}{l:List Value}{v:Value}(e:qF cx u ts l=some v):qF cx m ts l=some v:=by
 unfold qF at e ⊢;split at e
 .split at e
  .exact e
  .exact e
  .exact e
  .exact e
  .rename_i r hd;cases hg:u.hp.get r with
   | none=>rw[hg]at e;cases e
   | some o=>rw[hg]at e;(try simp only[h.got hg]);exact e
  .cases e
 .cases e
theorem L2(h:Bes E u m){ts:List TypeId}{l:List Value}{v:Value}(e:mF cx u ts l=some v):mF cx m ts l=some v:=by
 unfold mF at e ⊢;split at e
 .split at e
  .exact e
  .exact e
  .rename_i el a n c hd;cases hg:u.hp.get a.block with
   | none=>rw[hg]at e;cases e
   | some o=>rw[hg]at e;(try simp only[h.got hg]);exact e
  .cases e
 .cases e
theorem pV(h:Bes E u m){a:Addr}{l:List Value}{u':Mem}(e:iQ u a l=some u'):∃m',iQ m a l=some m'/\Bes E u' m':=by
 unfold iQ at e ⊢;cases hs:a.spot with
 | some _=>simp only[hs]at e;cases e
 | none=>
  simp only[hs]at e ⊢;cases hg:u.hp.get a.block with
  | none=>rw[hg]at e;cases e
  | some o=>
   rw[hg]at e;rw[h.got hg];cases o with
   | cells c k el x=>
    (try dsimp only at e ⊢)
    rw[show Nat.ble m.fl a.block=Nat.ble u.fl a.block by rw[h.fl]];split at e
    .rename_i hc;cases e;exact⟨_,by first|rfl|rw[hc],h.put (h.noE hg) _⟩
    .cases e
   | _=>cases e
theorem IG(h:Bes E u m){t:TypeId}{a:Addr}{v:Value}{u':Mem}(e:storeT cx u t a v=some u'):∃m',storeT cx m t a v=some m'/\Bes E u' m':=by
 unfold storeT at e ⊢;split at e
 .split at e
  .rename_i hb;(try simp only[hb]);exact pV h e
  .cases e
 .cases e
theorem qG(h:Bes E u m){b:Nat}{o ob:AObj}{u':Mem}(hb:u.hp.get b=some ob)(e:mY u b o=some u'):∃m',mY m b o=some m'/\Bes E u' m':=by
 unfold mY at e ⊢;rw[show Nat.ble m.fl b=Nat.ble u.fl b by rw[h.fl]];split at e
 .rename_i hc;cases e;exact⟨_,by first|rfl|rw[hc],h.put (h.noE hb) _⟩
 .cases e
theorem jM(h:Bes E u m)(l:List Value)(e:TypeId)(x:Bool):(gd m l e x).1=(gd u l e x).1/\Bes E (gd u l e x).2 (gd m l e x).2:=⟨h.nx,h.new _⟩
theorem Bl(h:Bes E u m){t:TypeId}{n:Nat}{ps:List (Nat×Value)}{v:Value}{u':Mem}(e:iJ cx u t n ps=some (v,u')):∃m',iJ cx m t n ps=some (v,m')/\Bes E u' m':=by
 unfold iJ at e ⊢;split at e
 .rename_i el hd;split at e
  .rename_i s z hs hz;split at e
   .rename_i hc;split at e
    .rename_i l hl;obtain⟨k1,k2⟩:=jM h l el false;cases e;exact⟨_,by(try simp only[hs,hz,hc,hl]);(first|(rw[k1];done)|(rw[k1];rfl)),k2⟩
    .cases e
   .cases e
  .cases e
 .cases e
theorem CW(h:Bes E u m){t:TypeId}{a b v:Value}{u':Mem}(e:jp cx u t a b=some (v,u')):∃m',jp cx m t a b=some (v,m')/\Bes E u' m':=by
 unfold jp at e ⊢;split at e
 .rename_i el k l k' c hd;split at e
  .rename_i s z i hs hz hi;split at e
   .rename_i hc;obtain⟨k1,k2⟩:=jM h (ey (bQ z) c.toNat) el false;cases e;exact⟨_,by(try simp only[hs,hz,hi,hc]);(first|(rw[k1];done)|(rw[k1];rfl)),k2⟩
   .cases e
  .cases e
 .cases e
theorem Bm(h:Bes E u m){base:Option Addr}{e s cap:Nat}{u':Mem}(k:giveUp u base e s cap=some u'):∃m',giveUp m base e s cap=some m'/\Bes E u' m':=by
 unfold giveUp at k ⊢;split at k
 .cases k;exact⟨_,rfl,h⟩
 .rename_i a
  (try dsimp only)
  cases hs:a.spot with
  | some _=>simp only[hs]at k ⊢;cases k;exact⟨_,rfl,h⟩
  | none=>
   simp only[hs]at k ⊢;cases hg:u.hp.get a.block with
   | none=>rw[hg]at k;cases k
   | some o=>
    rw[hg]at k;rw[h.got hg];cases o with
    | cells c n e' loose=>
     (try dsimp only at k ⊢)
     rw[show Nat.ble m.fl a.block=Nat.ble u.fl a.block by rw[h.fl]];split at k
     .cases k;exact⟨_,rfl,h⟩
     .split at k
      .rename_i h1;split at k
       .rename_i h2;split at k
        .rename_i h3;cases k;exact⟨_,by first|rfl|simp only[h1,h2,h3],h.del (h.noE hg)⟩
        .cases k
       .rename_i h2;cases k;exact⟨_,by first|rfl|simp only[h1,h2],h⟩
      .cases k
    | _=>cases k
theorem Hl(h:Bes E u m){el:TypeId}{i:TypeInfo}{base:Option Addr}{len cap n:Nat}{new:List Value}{v:Value}{u':Mem}(e:kh cx u el i base len cap n new=some (v,u')):∃m',kh cx m el i base len cap n new=some (v,m')/\Bes E u' m':=by
 unfold kh at e ⊢;split at e
 .cases e
 .rename_i hc
  (try dsimp only)
  (try simp only[hc])
  split at e
  .split at e
   .split at e
    .cases e;exact⟨_,rfl,h⟩
    .rename_i hne;split at e
     .rename_i m1 hst;cases e;obtain⟨m',k1,k2⟩:=pV h hst;refine⟨m',?_,k2⟩;cases new with
      | nil=>exact(hne rfl).elim
      | cons p q=>simp only[k1]
     .cases e
   .split at e
    .cases e;exact⟨_,rfl,h⟩
    .cases e
  .split at e
   .rename_i old z hbd hold hz;split at e
    .rename_i m1 hg hc3;obtain⟨m',k1,k2⟩:=Bm h hg;obtain⟨q1,q2⟩:=jM k2 (old++new) el true;cases e;exact⟨_,by simp only[hbd,pU h hold,hz,k1,hc3];(first|(rw[q1];done)|(rw[q1];rfl)),q2⟩
    .cases e
   .cases e
theorem Hm(h:Bes E u m){el:TypeId}{i:TypeInfo}{ux:TypeDesc}{x:Value}{base:Option Addr}{len cap:Nat}{v:Value}{u':Mem}(e:lj cx u el i ux x base len cap=some (v,u')):∃m',lj cx m el i ux x base len cap=some (v,m')/\Bes E u' m':=by
 unfold lj at e ⊢;split at e
 .split at e
  .exact Hl h e
  .cases e
 .cases e
theorem zO(h:Bes E u m){ts:List TypeId}{args:List Value}{v:Value}{u':Mem}(e:cQ cx u ts args=some (v,u')):∃m',cQ cx m ts args=some (v,m')/\Bes E u' m':=by
 unfold cQ at e ⊢;split at e
 .rename_i t tx base len cap x;split at e
  .rename_i el ux hd hdx;split at e
   .rename_i i n hi hn hr;split at e
    .rename_i new hnew;split at e
     .cases e
     .rename_i hc
      (try dsimp only)
      simp only[hd,hdx,hi,hn,hr,pU h hnew,hc];split at e
      .split at e
       .split at e
        .cases e;exact⟨_,rfl,h⟩
        .rename_i hne;split at e
         .rename_i m1 hst;cases e;obtain⟨m',k1,k2⟩:=pV h hst;refine⟨m',?_,k2⟩;cases new with
          | nil=>exact(hne rfl).elim
          | cons p q=>simp only[k1]
         .cases e
       .split at e
        .cases e;exact⟨_,rfl,h⟩
        .cases e
      .split at e
       .rename_i old z hbd hold hz;split at e
        .rename_i m1 hg hc3;obtain⟨m',k1,k2⟩:=Bm h hg;obtain⟨q1,q2⟩:=jM k2 (old++new) el true;cases e;exact⟨_,by simp only[hbd,pU h hold,hz,k1,hc3];(first|(rw[q1];done)|(rw[q1];rfl)),q2⟩
        .cases e
       .cases e
    .cases e
   .exact Hm h e
   .cases e
  .cases e
 .cases e
theorem J1(h:Bes E u m){ts:List TypeId}{args:List Value}{v:Value}{u':Mem}(e:iK cx u ts args=some (v,u')):∃m',iK cx m ts args=some (v,m')/\Bes E u' m':=by
 unfold iK at e ⊢;split at e
 .split at e
  .rename_i el hd;split at e
   .rename_i s n hs hn;split at e
    .rename_i l hl
     (try dsimp only)
     simp only[hd,hs,hn,pU h hl];split at e
     .split at e
      .cases e;exact⟨_,rfl,h⟩
      .rename_i hne;split at e
       .rename_i m1 hst;cases e;obtain⟨m',k1,k2⟩:=pV h hst;refine⟨m',?_,k2⟩;cases l with
        | nil=>exact(hne rfl).elim
        | cons p q=>simp only[k1]
       .cases e
     .cases e;exact⟨_,rfl,h⟩
    .cases e
   .cases e
  .cases e
 .cases e
theorem vV(h:Bes E u m){t:TypeId}{x k v:Value}{u':Mem}(e:fN cx u t x k v=some u'):∃m',fN cx m t x k v=some m'/\Bes E u' m':=by
 unfold fN at e ⊢;split at e
 .rename_i d et r hk
  (try dsimp only)
  cases hg:u.hp.get r with
  | none=>rw[hg]at e;cases e
  | some o=>
   rw[hg]at e;rw[h.got hg];cases o with
   | map es clock=>
    (try dsimp only at e ⊢)
    split at e
    .rename_i hf;exact qG h hg e
    .rename_i hf;exact qG h hg e
    .cases e
   | _=>cases e
 .cases e
theorem EM(h:Bes E u m){t:TypeId}{x k v:Value}{u':Mem}(e:kl cx u t x k=some (v,u')):∃m',kl cx m t x k=some (v,m')/\Bes E u' m':=by
 unfold kl at e ⊢;split at e
 .rename_i d et r hk
  (try dsimp only)
  cases hg:u.hp.get r with
  | none=>rw[hg]at e;cases e
  | some o=>
   rw[hg]at e;rw[h.got hg];cases o with
   | map es clock=>
    (try dsimp only at e ⊢)
    split at e
    .rename_i hf;split at e
     .rename_i m1 hs;obtain⟨m',k1,k2⟩:=qG h hg hs;cases e;exact⟨m',by first|rfl|simp only[k1],k2⟩
     .cases e
    .rename_i hf;split at e
     .rename_i z hz;split at e
      .rename_i m1 hs;obtain⟨m',k1,k2⟩:=qG h hg hs;cases e;exact⟨m',by first|rfl|simp only[k1],k2⟩
      .cases e
     .cases e
    .cases e
   | _=>cases e
 .cases e
theorem Bn(h:Bes E u m){x s v:Value}{u':Mem}(e:iL u x s v=some u'):∃m',iL m x s v=some m'/\Bes E u' m':=by
 unfold iL at e ⊢;split at e
 .rename_i r k born
  (try dsimp only)
  cases hg:u.hp.get r with
  | none=>rw[hg]at e;cases e
  | some o=>
   rw[hg]at e;rw[h.got hg];cases o with
   | map es clock=>
    (try dsimp only at e ⊢)
    split at e
    .rename_i i hf;exact qG h hg e
    .cases e
   | _=>cases e
 .cases e
theorem Hn(h:Bes E u m){t:TypeId}{x k:Value}{u':Mem}(e:nO cx u t x k=some u'):∃m',nO cx m t x k=some m'/\Bes E u' m':=by
 unfold nO at e ⊢;split at e
 .cases e;exact⟨_,rfl,h⟩
 .rename_i d et r hk
  (try dsimp only)
  cases hg:u.hp.get r with
  | none=>rw[hg]at e;cases e
  | some o=>
   rw[hg]at e;rw[h.got hg];cases o with
   | map es clock=>
    (try dsimp only at e ⊢)
    split at e
    .rename_i hf;exact qG h hg e
    .cases e;exact⟨_,rfl,h⟩
    .cases e
   | _=>cases e
 .cases e
theorem IH(h:Bes E u m){ts:List TypeId}{args:List Value}{v:Value}{u':Mem}(e:lm cx u ts args=some (v,u')):∃m',lm cx m ts args=some (v,m')/\Bes E u' m':=by
 unfold lm at e ⊢;split at e
 .split at e
  ·(try dsimp only)
   split at e
   .cases e;exact⟨_,rfl,h⟩
   .cases e;exact⟨_,rfl,h⟩
   .split at e
    .rename_i z hz;split at e
     .rename_i hb;split at e
      .rename_i m1 hst;cases e;obtain⟨m',k1,k2⟩:=pV h hst;exact⟨m',by first|rfl|simp only[hb,k1],k2⟩
      .cases e
     .cases e
    .cases e
  .cases e
 .cases e
theorem FK(h:Bes E u m){b:Builtin}{ts:List TypeId}{args:List Value}{v:Value}{u':Mem}(e:ge cx u b ts args=some (v,u')):∃m',ge cx m b ts args=some (v,m')/\Bes E u' m':=by
 unfold ge at e ⊢
 (try dsimp only at e ⊢)
 cases b<;>(try dsimp only at e ⊢)
 case append=>exact zO h e
 case copy=>exact J1 h e
 case len=>
  split at e
  .rename_i x hx;cases e;exact⟨m,by rw[L1 h hx],h⟩
  .cases e
 case cap=>
  split at e
  .rename_i x hx;cases e;exact⟨m,by rw[L2 h hx],h⟩
  .cases e
 case max=>
  split at e
  .split at e
   .rename_i x hx;cases e;exact⟨m,by(try dsimp only);(try rw[hx]),h⟩
   .cases e
  .cases e
 case min=>
  split at e
  .split at e
   .rename_i x hx;cases e;exact⟨m,by(try dsimp only);(try rw[hx]),h⟩
   .cases e
  .cases e
 case delete=>
  split at e
  .split at e
   .rename_i m1 hd;cases e;obtain⟨m',k1,k2⟩:=Hn h hd;exact⟨m',by(try dsimp only);(first|(rw[k1];done)|(rw[k1];rfl)),k2⟩
   .cases e
  .cases e
 case clear=>exact IH h e
 all_goals cases e
end
def FL(f:dB):Prop:=∀k a u r u',f k a u=some (r,u')->∀E m,Bes E u m->∃m',f k a m=some (r,m')/\Bes E u' m'
theorem lO(tm:Tr Value)(sz:Nat)(m m':Mem)(x:Operand):cU cx ⟨tm,sz,m⟩ x=cU cx ⟨tm,sz,m'⟩ x:=by cases x<;>rfl
theorem HR(tm:Tr Value)(sz:Nat)(m m':Mem)(x:Operand):tq cx ⟨tm,sz,m⟩ x=tq cx ⟨tm,sz,m'⟩ x:=by unfold tq;rw[lO tm sz m m' x]
theorem DI(tm:Tr Value)(sz:Nat)(m m':Mem)(bw:Nat)(rng:Option (Nat×Nat))(base rd s:Nat):∀(l:List Oper) (n:Nat),apartB cx ⟨tm,sz,m⟩ bw rng base rd s l n=apartB cx ⟨tm,sz,m'⟩ bw rng base rd s l n
 | [],_=>rfl
 | x::r,n=>by
  have ih:=DI tm sz m m' bw rng base rd s r (n+1);unfold apartB;simp only[HR tm sz m m',ih]
theorem J2(tm:Tr Value)(sz:Nat)(m m':Mem)(o:Op)(ops:List Oper)(base rd s:Nat):oE cx ⟨tm,sz,m'⟩ o ops base rd s=oE cx ⟨tm,sz,m⟩ o ops base rd s:=by
 have hc:yh cx ⟨tm,sz,m'⟩ o=yh cx ⟨tm,sz,m⟩ o:=by
  unfold yh;cases o<;>simp only[HR tm sz m' m,lO tm sz m' m]
 unfold oE;simp only[hc,DI tm sz m' m]
theorem wC(tm:Tr Value)(sz:Nat)(m m':Mem):∀l:List Operand,gZ cx ⟨tm,sz,m⟩ l=gZ cx ⟨tm,sz,m'⟩ l
 | []=>rfl
 | x::r=>by simp only[gZ,lO tm sz m m',wC tm sz m m' r]
theorem L3(tm:Tr Value)(sz:Nat)(m m':Mem)(x:Option Operand):iI cx ⟨tm,sz,m⟩ x=iI cx ⟨tm,sz,m'⟩ x:=by
 cases x with
 | none=>rfl
 | some x=>simp only[iI,lO tm sz m m']
theorem FM(tm:Tr Value)(sz:Nat)(m m':Mem):∀l:List (Nat×Operand),gT cx ⟨tm,sz,m⟩ l=gT cx ⟨tm,sz,m'⟩ l
 | []=>rfl
 | (i,x)::r=>by simp only[gT,lO tm sz m m',FM tm sz m m' r]
section
variable {E:Nat->Option AObj} {u m:Mem}
theorem J3{f:dB}(hf:FL f)(h:Bes E u m){tm:Tr Value}{sz:Nat}{c:Call}{v:Value}{u':Mem}(e:gq cx f ⟨tm,sz,u⟩ c=some (v,u')):∃m',gq cx f ⟨tm,sz,m⟩ c=some (v,m')/\Bes E u' m':=by
 unfold gq at e ⊢;rw[wC tm sz m u];cases ha:gZ cx ⟨tm,sz,u⟩ c.args.toList with
 | none=>rw[ha]at e;cases e
 | some args=>
  rw[ha]at e
  (try dsimp only at e ⊢)
  cases hc:c.callee with
  | builtin b=>rw[hc]at e;exact FK h e
  | value g=>
   rw[hc]at e
   (try dsimp only at e ⊢)
   rw[lO tm sz m u];split at e
   .exact hf _ _ _ _ _ e _ _ h
   .cases e
  | invoke x name=>
   rw[hc]at e
   (try dsimp only at e ⊢)
   rw[lO tm sz m u];split at e
   .split at e
    .exact hf _ _ _ _ _ e _ _ h
    .cases e
   .cases e
theorem sT{f:dB}(hf:FL f)(h:Bes E u m){tm:Tr Value}{sz:Nat}{o:Oper}{v:Option Value}{u':Mem}(e:dh cx f ⟨tm,sz,u⟩ o=some (v,u')):∃m',dh cx f ⟨tm,sz,m⟩ o=some (v,m')/\Bes E u' m':=by
 unfold dh at e ⊢
 (try dsimp only at e ⊢)
 cases ho:o.op<;>simp only[ho]at e ⊢<;>(try simp only[lO tm sz m u,wC tm sz m u,L3 tm sz m u,FM tm sz m u])
 all_goals (try (cases e;done))
 case move x=>
  split at e
  .cases e;exact⟨m,rfl,h⟩
  .cases e
 case assign x=>
  split at e
  .cases e;exact⟨m,rfl,h⟩
  .cases e
 case pick c x y=>
  split at e
  .rename_i h1 h2;cases e;exact⟨m,by first|rfl|rw[h1,h2],h⟩
  .rename_i h1 h2;cases e;exact⟨m,by first|rfl|rw[h1,h2],h⟩
  .cases e
 case alloc t=>
  split at e
  .rename_i z hz;obtain⟨k1,k2⟩:=jM h (bQ z) t false;cases e;exact⟨_,by(first|(rw[<-k1];done)|(rw[<-k1];rfl)),k2⟩
  .cases e
 case box t x=>
  split at e
  .rename_i z hz;obtain⟨k1,k2⟩:=jM h (bQ z) t false;cases e;exact⟨_,by(first|(rw[<-k1];done)|(rw[<-k1];rfl)),k2⟩
  .cases e
 case build t ps=>
  split at e
  .rename_i l hl;split at e
   .rename_i x hx;cases e;exact⟨m,by(try rw[hl]);(try dsimp only);(try rw[hx]),h⟩
   .cases e
  .cases e
 case buildSlice t n ps=>
  split at e
  .rename_i l hl;split at e
   .rename_i x m1 hx;obtain⟨m',k1,k2⟩:=Bl h hx;cases e;exact⟨m',by(try rw[hl]);(try dsimp only);(first|(rw[k1];done)|(rw[k1];rfl)),k2⟩
   .cases e
  .cases e
 case load t a=>
  split at e
  .rename_i p hp;split at e
   .rename_i x hx;cases e;exact⟨m,by(try rw[hp]);(try dsimp only);rw[yj h hx],h⟩
   .cases e
  .cases e
 case store t a x=>
  split at e
  .rename_i p y hp hy;split at e
   .rename_i m1 hst;obtain⟨m',k1,k2⟩:=IG h hst;cases e;exact⟨m',by(try rw[hp,hy]);(try dsimp only);(first|(rw[k1];done)|(rw[k1];rfl)),k2⟩
   .cases e
  .cases e
 case nilCheck x=>
  split at e
  .rename_i hp;cases e;exact⟨m,by first|rfl|rw[hp],h⟩
  .rename_i hp;cases e;exact⟨m,by first|rfl|rw[hp],h⟩
  .rename_i hp;cases e;exact⟨m,by first|rfl|rw[hp],h⟩
  .cases e
 case binOp op t x y q=>
  split at e
  .rename_i a b ha hb;split at e
   .rename_i hg;split at e
    .rename_i x hx;cases e;exact⟨m,by(try rw[ha,hb]);(try dsimp only);(try rw[hg]);(try dsimp only);rw[IF h hx],h⟩
    .cases e
   .cases e
  .cases e
 case unOp op t x=>
  split at e
  .rename_i a ha;split at e
   .rename_i x hx;cases e;exact⟨m,by(try rw[ha]);(try dsimp only);(try rw[hx]),h⟩
   .cases e
  .cases e
 case convert s d x=>
  split at e
  .rename_i a ha;split at e
   .rename_i x hx;cases e;exact⟨m,by(try rw[ha]);(try dsimp only);rw[FJ h hx],h⟩
   .cases e
  .cases e
 case makeInterface t x=>
  split at e
  .cases e
  .rename_i a d h1 h2 h3;cases e;refine⟨m,?_,h⟩
   first|rfl|(rw[h2,h1];rfl)
  .cases e
 case makeFunc fn ff c=>
  split at e
  .rename_i a b ha hb;cases e;exact⟨m,by first|rfl|rw[ha,hb],h⟩
  .cases e
 case makeMap t r=>
  cases r with
  | none=>cases e;exact⟨_,by rw[h.nx],by have:=h.new (.map [] 0);rw[h.nx]at this;exact this⟩
  | some r=>cases e
 case makeSlice t l c=>
  split at e
  .rename_i a b ha hb;split at e
   .rename_i x m1 hx;obtain⟨m',k1,k2⟩:=CW h hx;cases e;exact⟨m',by(try rw[ha,hb]);(try dsimp only);(first|(rw[k1];done)|(rw[k1];rfl)),k2⟩
   .cases e
  .cases e
 case slice t x lo hi mx=>
  split at e
  .rename_i a b c d ha hb hc hd;split at e
   .rename_i x hx;cases e;exact⟨m,by(try rw[ha,hb,hc,hd]);(try dsimp only);rw[zN h hx],h⟩
   .cases e
  .cases e
 case fieldAddr t x i=>
  split at e
  .rename_i a ha;split at e
   .rename_i x hx;cases e;exact⟨m,by(try rw[ha]);(try dsimp only);(try rw[hx]),h⟩
   .cases e
  .cases e
 case field t x i=>
  split at e
  .rename_i a ha;split at e
   .rename_i x hx;cases e;exact⟨m,by(try rw[ha]);(try dsimp only);(try rw[hx]),h⟩
   .cases e
  .cases e
 case indexAddr t x i=>
  split at e
  .rename_i a b ha hb;split at e
   .rename_i x hx;cases e;exact⟨m,by(try rw[ha,hb]);(try dsimp only);(try rw[hx]),h⟩
   .cases e
  .cases e
 case index t x i=>
  split at e
  .rename_i a b ha hb;split at e
   .rename_i x hx;cases e;exact⟨m,by(try rw[ha,hb]);(try dsimp only);(try rw[hx]),h⟩
   .cases e
  .cases e
 case lookup t x k ok=>
  split at e
  .rename_i a b ha hb;split at e
   .rename_i x hx;cases e;exact⟨m,by(try rw[ha,hb]);(try dsimp only);rw[Hk h hx],h⟩
   .cases e
  .cases e
 case mapUpdate t x k y=>
  split at e
  .rename_i a b c ha hb hc;split at e
   .rename_i m1 hx;obtain⟨m',k1,k2⟩:=vV h hx;cases e;exact⟨m',by(try rw[ha,hb,hc]);(try dsimp only);(first|(rw[k1];done)|(rw[k1];rfl)),k2⟩
   .cases e
  .cases e
 case insert t x k y=>
  split at e
  .rename_i a b c ha hb hc;split at e
   .rename_i m1 hx;obtain⟨m',k1,k2⟩:=vV h hx;cases e;exact⟨m',by(try rw[ha,hb,hc]);(try dsimp only);(first|(rw[k1];done)|(rw[k1];rfl)),k2⟩
   .cases e
  .cases e
 case mapEntry t x k=>
  split at e
  .rename_i a b ha hb;split at e
   .rename_i x m1 hx;obtain⟨m',k1,k2⟩:=EM h hx;cases e;exact⟨m',by(try rw[ha,hb]);(try dsimp only);(first|(rw[k1];done)|(rw[k1];rfl)),k2⟩
   .cases e
  .cases e
 case entryStore t x s y=>
  split at e
  .rename_i a b c ha hb hc;split at e
   .rename_i m1 hx;obtain⟨m',k1,k2⟩:=Bn h hx;cases e;exact⟨m',by(try rw[ha,hb,hc]);(try dsimp only);(first|(rw[k1];done)|(rw[k1];rfl)),k2⟩
   .cases e
  .cases e
 case typeAssert x xT t ok=>
  split at e
  .rename_i a ha;split at e
   .rename_i x hx;cases e;exact⟨m,by(try rw[ha]);(try dsimp only);(try rw[hx]),h⟩
   .cases e
  .cases e
 case extract t i=>
  split at e
  .rename_i vs ha;split at e
   .rename_i x hx;cases e;exact⟨m,by(try rw[ha]);(try dsimp only);(try rw[hx]),h⟩
   .cases e
  .cases e
 case call c=>
  split at e
  .rename_i x m1 hx;obtain⟨m',k1,k2⟩:=J3 hf h hx;cases e;exact⟨m',by(first|(rw[k1];done)|(rw[k1];rfl)),k2⟩
  .cases e
theorem wD(h:Bes E u m){tm:Tr Value}{sz:Nat}{u0 m0:Mem}{dst:Option Tmp}{v:Option Value}{st:St}(e:gu ⟨tm,sz,u0⟩ dst v u=some st):st.m=u/\gu ⟨tm,sz,m0⟩ dst v m=some ⟨st.tm,st.sz,m⟩:=by
 unfold gu at e ⊢;split at e
 .cases e;exact⟨rfl,rfl⟩
 ·(try dsimp only at e ⊢)
  split at e
  .rename_i hb
   (try rw[hb])
   split at e
   .cases e;exact⟨rfl,rfl⟩
   .cases e;exact⟨rfl,rfl⟩
  .cases e
theorem Bo(ops:List Oper)(tm:Tr Value)(sz:Nat)(m m':Mem)(o:Oper):fa ops ⟨tm,sz,m⟩ o=fa ops ⟨tm,sz,m'⟩ o:=rfl
theorem wE{f:dB}(hf:FL f){ops:List Oper}:∀{rest:List Oper} {tm:Tr Value} {sz:Nat} {u m:Mem} {st:St},Bes E u m->gD cx f ops rest ⟨tm,sz,u⟩=some st->∃m',gD cx f ops rest ⟨tm,sz,m⟩=some ⟨st.tm,st.sz,m'⟩/\Bes E st.m m'
 | [],tm,sz,u,m,st,h,e=>by unfold gD at e;cases e;exact⟨m,rfl,h⟩
 | o::r,tm,sz,u,m,st,h,e=>by
  unfold gD at e ⊢;rw[Bo ops tm sz m u];split at e
  .split at e
   .rename_i v m1 hop;obtain⟨m2,k1,k2⟩:=sT hf h hop;rw[k1];split at e
    .rename_i st1 hp;obtain⟨p1,p2⟩:=wD (m0:=m) k2 hp
     (try dsimp only)
     rw[p2];obtain⟨tm1,sz1,u1⟩:=st1;simp only at p1;subst p1;exact wE hf k2 e
    .cases e
   .cases e
  .split at e
   .rename_i st1 hp;obtain⟨p1,p2⟩:=wD (m0:=m) h hp
    (try dsimp only)
    rw[p2];obtain⟨tm1,sz1,u1⟩:=st1;simp only at p1;subst p1;exact wE hf h e
   .cases e
  .cases e
def HiBes(E:Nat->Option AObj):List (Nat×Bool×Mem×Nat)->List (Nat×Bool×Mem×Nat)->Prop
 | [],[]=>True
 | x::r,y::q=>x.1=y.1/\x.2.1=y.2.1/\Bes E x.2.2.1 y.2.2.1/\x.2.2.2=y.2.2.2/\HiBes E r q
 | _,_=>False
structure DrBes (E:Nat->Option AObj) (base:Nat) (d d':Dr):Prop where
 took:d'.took=d.took
 made:d'.made=d.made
 rd:d'.rd=d.rd
 hist:HiBes E d.hist d'.hist
 free:∀b o,E b=some o->b<base
 ids:∀e∈d.made,base<=e.2.1
theorem my{base:Nat}(hfree:∀b o,E b=some o->b<base){p:Nat->Bool}:∀{made:List (Nat×Nat×AObj)},(∀e∈made,base<=e.2.1)->∀{u m:Mem},Bes E u m->Bes E (addMade p made u) (addMade p made m)
 | [],_,u,m,h=>h
 | (i,id,o)::r,hid,u,m,h=>by
  unfold addMade;have ih:=my hfree (p:=p) (made:=r) (fun e he=>hid e (gQ5 _ he)) h;split
  .refine ih.put ?_ o;cases hE:E id with
   | none=>rfl
   | some o'=>
    have h1:=hfree _ _ hE;have h2:=hid _ (gQ9 ..);simp only at h2;omega
  .exact ih
theorem DJ{anc:Nat}:∀{hist hist':List (Nat×Bool×Mem×Nat)} {cur cur':Mem} {tk:Nat} {r:Mem×Nat},HiBes E hist hist'->Bes E cur cur'->kY anc cur tk hist=some r->∃m',kY anc cur' tk hist'=some (m',r.2)/\Bes E r.1 m'
 | [],[],cur,cur',tk,r,_,h,e=>by unfold kY at e;cases e;exact⟨cur',rfl,h⟩
 | [],_::_,_,_,_,_,hh,_,_=>hh.elim
 | _::_,[],_,_,_,_,hh,_,_=>hh.elim
 | (i,s,b,t)::l,(i',s',b',t')::l',cur,cur',tk,r,hh,h,e=>by
  obtain⟨h1,h2,h3,h4,h5⟩:=hh;simp only at h1 h2 h3 h4;subst h1;subst h2;subst h4;unfold kY at e ⊢;split at e
  .cases e;exact⟨cur',rfl,h⟩
  .split at e
   .exact DJ h5 h3 e
   .cases e
theorem FN{s:Nat}:∀{hist hist':List (Nat×Bool×Mem×Nat)},HiBes E hist hist'->waitsFor s hist'=waitsFor s hist
 | [],[],_=>rfl
 | [],_::_,hh=>hh.elim
 | _::_,[],hh=>hh.elim
 | (i,s,b,t)::l,(i',s',b',t')::l',hh=>by
  obtain⟨h1,_⟩:=hh;simp only at h1;subst h1;rfl
theorem L4{ops:List Oper}{s i base:Nat}{d d':Dr}{q:List Nat}{r:List Oper}(hd:DrBes E base d d'):vm ops s i d' q r=vm ops s i d q r:=by
 obtain⟨took,made,hist,rd⟩:=d;obtain⟨took',made',hist',rd'⟩:=d';obtain⟨h1,h2,h3,h4,_,_⟩:=hd;simp only at h1 h2 h3 h4;subst h1;subst h2;subst h3;unfold vm;cases hist with
 | nil=>
  cases hist' with
  | nil=>rfl
  | cons x y=>exact h4.elim
 | cons x y=>
  cases hist' with
  | nil=>exact h4.elim
  | cons x y=>rfl
theorem II{f:dB}(hf:FL f){ops:List Oper}{o:Oper}{r:List Oper}{s:Nat}{q:List Nat}{i base:Nat}{d d1:Dr}{tm:Tr Value}{sz:Nat}{v:Option Value}{u1:Mem}(d':Dr)
  (h:Bes E u m) (hd:DrBes E base d d') (e:fE cx f ops o r s q i base d ⟨tm,sz,u⟩=some (v,u1,d1)) :
  ∃m1 d1',fE cx f ops o r s q i base d' ⟨tm,sz,m⟩=some (v,m1,d1')/\Bes E u1 m1/\DrBes E base d1 d1':=by
 unfold fE at e ⊢;split at e
 .split at e
  .unfold lL at e ⊢
   (try dsimp only at e ⊢)
   split at e
   .rename_i x mm hop;split at e
    .rename_i ob hob;cases e
     (try rw[hop])
     (try dsimp only)
     (try rw[hob])
     exact⟨m,_,rfl,h,⟨hd.took,by first|rfl|simp only[hd.made],hd.rd,hd.hist,hd.free,fun e he=>by
      rcases List.mem_cons.1 he with rfl|he
      ·simp
      ·exact hd.ids e he⟩⟩
    .cases e
   .cases e
  .unfold gF at e ⊢;rw[FN hd.hist,hd.rd,hd.took,hd.made];split at e
   .cases e
   .rename_i hw;split at e
    .rename_i hc;split at e
     .rename_i hap;split at e
      .rename_i hdn;have hdn':oE cx ⟨tm,sz,m⟩ o.op ops base d.rd s=true:=(J2 ..).trans hdn;split at e
       .rename_i x mm hop;cases e;have hb:=my hd.free (p:=dQ s d.took) hd.ids h;obtain⟨m1,k1,k2⟩:=sT hf hb hop
        (try dsimp only at k1 ⊢)
        simp only[hdn',k1];exact⟨_,_,rfl,k2,⟨rfl,by first|rfl|simp only[hd.made],by first|rfl|simp only[hd.rd],⟨rfl,rfl,h,rfl,hd.hist⟩,hd.free,hd.ids⟩⟩
       .cases e
      .cases e
     .rename_i hap;split at e
      .rename_i x mm hop;cases e;have hb:=(my hd.free (p:=dQ s d.took) hd.ids h).setFl (gh ops base u.nx s i d q r);obtain⟨m1,k1,k2⟩:=sT hf hb hop;have e1:gh ops base m.nx s i d' q r=gh ops base u.nx s i d q r:=by unfold gh;rw[L4 hd,h.nx]
       simp only[e1]
       (try dsimp only at k1 ⊢)
       rw[k1];refine⟨_,_,rfl,?_,⟨rfl,by first|rfl|simp only[hd.made],by first|rfl|simp only[hd.rd],⟨rfl,rfl,h,rfl,hd.hist⟩,hd.free,hd.ids⟩⟩;have:=k2.setFl u.fl;rw[h.fl];exact this
      .cases e
    .rename_i hc;split at e
     .rename_i x mm hop;cases e;have hb:=my hd.free (p:=dQ s d.took) hd.ids h;obtain⟨m1,k1,k2⟩:=sT hf hb hop
      (try dsimp only at k1 ⊢)
      rw[k1];exact⟨_,_,rfl,k2,⟨rfl,by first|rfl|simp only[hd.made],by first|rfl|simp only[hd.rd],⟨rfl,rfl,h,rfl,hd.hist⟩,hd.free,hd.ids⟩⟩
     .cases e
 .unfold kJ at e ⊢;split at e
  .rename_i m0 tk hm;obtain⟨m',k1,k2⟩:=DJ hd.hist h hm;rw[hd.took]
   (try dsimp only at k1 ⊢)
   rw[k1,hd.made,hd.rd];split at e
   .rename_i x mm hop;cases e;obtain⟨m1,q1,q2⟩:=sT hf (my hd.free (p:=dQ s tk) hd.ids k2) hop
    (try dsimp only at q1 ⊢)
    rw[q1];exact⟨m,_,rfl,h,⟨rfl,rfl,rfl,hd.hist,hd.free,hd.ids⟩⟩
   .cases e
  .cases e
 .unfold kj at e ⊢
  (try dsimp only at e ⊢)
  split at e
  .rename_i x mm hop;cases e
   (try rw[hop])
   exact⟨m,d',rfl,h,hd⟩
  .cases e
theorem vn{f:dB}(hf:FL f){ops:List Oper}{base:Nat}:∀{rest:List Oper} {ss:List Nat} {i:Nat} {d:Dr} {tm:Tr Value} {sz:Nat} {u m:Mem} {st:St} (d':Dr),Bes E u m->DrBes E base d d'->
  eJ cx f ops base rest ss i d ⟨tm,sz,u⟩=some st->∃m',eJ cx f ops base rest ss i d' ⟨tm,sz,m⟩=some ⟨st.tm,st.sz,m'⟩/\Bes E st.m m'
 | [],ss,i,d,tm,sz,u,m,st,d',h,hd,e=>by
  unfold eJ at e ⊢;cases e;rw[hd.took,hd.made];exact⟨_,rfl,my hd.free hd.ids h⟩
 | o::r,[],i,d,tm,sz,u,m,st,d',h,hd,e=>by unfold eJ at e;cases e
 | o::r,s::q,i,d,tm,sz,u,m,st,d',h,hd,e=>by
  unfold eJ at e ⊢;rw[Bo ops tm sz m u];split at e
  .split at e
   .rename_i v m1 d1 hop;obtain⟨m2,d2,k1,k2,k3⟩:=II hf d' h hd hop;rw[k1];split at e
    .rename_i st1 hp;obtain⟨p1,p2⟩:=wD (m0:=m) k2 hp
     (try dsimp only)
     rw[p2];obtain⟨tm1,sz1,u1⟩:=st1;simp only at p1;subst p1;exact vn hf d2 k2 k3 e
    .cases e
   .cases e
  .split at e
   .rename_i st1 hp;obtain⟨p1,p2⟩:=wD (m0:=m) h hp
    (try dsimp only)
    rw[p2];obtain⟨tm1,sz1,u1⟩:=st1;simp only at p1;subst p1;exact vn hf d' h hd e
   .cases e
  .cases e
end
def NP(f:Code->St->Option (Ex×St)):Prop:=∀c tm sz u ex st,f c ⟨tm,sz,u⟩=some (ex,st)->∀E m,Bes E u m->∃m',f c ⟨tm,sz,m⟩=some (ex,⟨st.tm,st.sz,m'⟩)/\Bes E st.m m'
def oo(cx:Cx):Prop:=∀k f,cx.ov.get k=some f->∀a u r u',f a u=some (r,u')->∀E m,Bes E u m->∃m',f a m=some (r,m')/\Bes E u' m'
theorem pW{E:Nat->Option AObj}{u m:Mem}(h:Bes E u m){tm:Tr Value}{sz:Nat}:∀{l:List ResultVar} {vs:List Value},gI cx ⟨tm,sz,u⟩ l=some vs->gI cx ⟨tm,sz,m⟩ l=some vs
 | [],vs,e=>e
 | .tmp t::r,vs,e=>by
  unfold gI at e ⊢
  (try dsimp only at e ⊢)
  split at e
  .rename_i v l hv hl;rw[hv,pW h hl];exact e
  .cases e
 | .cell a t::r,vs,e=>by
  unfold gI at e ⊢
  (try dsimp only at e ⊢)
  split at e
  .rename_i p hp;split at e
   .rename_i v l hv hl;(try rw[hp]);(try dsimp only);rw[yj h hv,pW h hl];exact e
   .cases e
  .cases e
theorem wF(ho:oo cx){f:Code->St->Option (Ex×St)}(hf:NP f):FL (dU cx f):=by
 intro k a u r u' e E m h;unfold dU at e ⊢;cases hov:cx.ov.get k with
 | some g=>rw[hov]at e;exact ho k g hov a u r u' e E m h
 | none=>
  rw[hov]at e
  (try dsimp only at e ⊢)
  unfold kL at e ⊢;split at e
  .rename_i fn hfn;split at e
   .rename_i c hc;split at e
    .rename_i hb;split at e
     .rename_i st hr;obtain⟨m',k1,k2⟩:=hf _ _ _ _ _ _ hr E m h
      (try rw[hfn]);(try dsimp only);(try rw[hc]);(try dsimp only);(try rw[hb]);(try dsimp only);rw[k1]
      unfold qY at e ⊢;split at e
      .rename_i l hl;cases e;(try dsimp only);rw[pW k2 hl];exact⟨m',rfl,k2⟩
      .cases e
     .rename_i st hr;obtain⟨m',k1,k2⟩:=hf _ _ _ _ _ _ hr E m h
      (try rw[hfn]);(try dsimp only);(try rw[hc]);(try dsimp only);(try rw[hb]);(try dsimp only);rw[k1]
      unfold qY at e ⊢;split at e
      .rename_i l hl;cases e;(try dsimp only);rw[pW k2 hl];exact⟨m',rfl,k2⟩
      .cases e
     .cases e
    .cases e
   .cases e
  .cases e
theorem L5(ho:oo cx){f:Code->St->Option (Ex×St)}(hf:NP f):NP (step cx f):=by
 intro c tm sz u ex st e E m h;cases c with
 | skip=>simp only[step]at e ⊢;cases e;exact⟨m,rfl,h⟩
 | label l=>simp only[step]at e ⊢;cases e;exact⟨m,rfl,h⟩
 | exit id=>simp only[step]at e ⊢;cases e;exact⟨m,rfl,h⟩
 | ret=>simp only[step]at e ⊢;cases e;exact⟨m,rfl,h⟩
 | region id ops draw=>
  cases draw with
  | false=>
   simp only[step]at e ⊢;split at e
   .rename_i st1 h1;cases e;obtain⟨m',k1,k2⟩:=wE (wF ho hf) h h1;rw[k1];exact⟨m',rfl,k2⟩
   .cases e
  | true=>
   simp only[step]at e ⊢;split at e
   .rename_i hs;split at e
    .rename_i st1 h1;cases e;obtain⟨m',k1,k2⟩:=vn (E:=E) (wF ho hf) ⟨0,[],[],0⟩ (h.bump ops.toList.length) ⟨rfl,rfl,rfl,trivial,fun b o hb=>(h.gap b o hb).2,fun e he=>by cases he⟩ h1;rw[h.nx];(try rw[hs]);(try dsimp only);rw[h.nx]at k1;rw[k1];exact⟨m',rfl,k2⟩
    .cases e
   .cases e
 | seq a b=>
  simp only[step]at e ⊢;split at e
  .rename_i st1 h1;obtain⟨m1,k1,k2⟩:=hf _ _ _ _ _ _ h1 E m h;rw[k1];obtain⟨tm1,sz1,u1⟩:=st1;exact hf _ _ _ _ _ _ e E m1 k2
  .rename_i hne;cases hr:f a ⟨tm,sz,u⟩with
   | none=>rw[hr]at e;cases e
   | some x=>
    obtain⟨ex1,st1⟩:=x;rw[hr]at e;obtain⟨m1,k1,k2⟩:=hf _ _ _ _ _ _ hr E m h;rw[k1];cases e;cases ex with
    | normal=>exact(hne st hr).elim
    | exit i=>exact⟨m1,rfl,k2⟩
    | ret=>exact⟨m1,rfl,k2⟩
 | cond o x y=>
  simp only[step]at e ⊢;rw[lO tm sz m u];split at e
  .exact hf _ _ _ _ _ _ e E m h
  .exact hf _ _ _ _ _ _ e E m h
  .cases e
 | block id x=>
  simp only[step]at e ⊢;cases hr:f x ⟨tm,sz,u⟩with
  | none=>rw[hr]at e;cases e
  | some w=>
   obtain⟨ex1,st1⟩:=w;rw[hr]at e;obtain⟨m1,k1,k2⟩:=hf _ _ _ _ _ _ hr E m h;rw[k1];cases ex1 with
   | normal=>cases e;exact⟨m1,rfl,k2⟩
   | ret=>cases e;exact⟨m1,rfl,k2⟩
   | exit i=>
    (try dsimp only at e ⊢)
    split at e
    .rename_i hb;cases e;(try rw[hb]);exact⟨m1,rfl,k2⟩
    .rename_i hb;cases e;(try rw[hb]);exact⟨m1,rfl,k2⟩
 | loop x=>
  simp only[step]at e ⊢;split at e
  .rename_i st1 h1;obtain⟨m1,k1,k2⟩:=hf _ _ _ _ _ _ h1 E m h;rw[k1];obtain⟨tm1,sz1,u1⟩:=st1;exact hf _ _ _ _ _ _ e E m1 k2
  .rename_i hne;cases hr:f x ⟨tm,sz,u⟩with
   | none=>rw[hr]at e;cases e
   | some w=>
    obtain⟨ex1,st1⟩:=w;rw[hr]at e;obtain⟨m1,k1,k2⟩:=hf _ _ _ _ _ _ hr E m h;rw[k1];cases e;cases ex with
    | normal=>exact(hne st hr).elim
    | exit i=>exact⟨m1,rfl,k2⟩
    | ret=>exact⟨m1,rfl,k2⟩
 | rangeFunc _ _ _ _=>simp[step]at e
 | goto _=>simp[step]at e
 | scope _=>simp[step]at e
 | refuse _=>simp[step]at e
theorem FO(ho:oo cx):∀n,NP (eI cx n)
 | 0=>fun c tm sz u ex st e=>by cases e
 | n+1=>L5 ho (FO ho n)
theorem rX(ho:oo cx)(n:Nat):FL (dU cx (eI cx n)):=wF ho (FO ho n)
end Go.AX
namespace Go.AX
@[simp] theorem QA (m:Mem) (o:AObj):(newO m o).nx=m.nx+1:=rfl
@[simp] theorem QB (m:Mem) (o:AObj):(newO m o).fl=m.fl:=rfl
theorem kM(m:Mem)(o:AObj)(b:Nat):(newO m o).hp.get b=if b=m.nx then some o else m.hp.get b:=Tr.get_put ..
@[simp] theorem QC (m:Mem) (n:Nat):(bump m n).nx=m.nx+n:=rfl
@[simp] theorem QD (m:Mem) (n:Nat):(bump m n).fl=m.fl:=rfl
@[simp] theorem QE (m:Mem) (n:Nat):(bump m n).hp=m.hp:=rfl
@[simp] theorem L6 (m:Mem) (n:Nat):(setFl m n).nx=m.nx:=rfl
@[simp] theorem L8 (m:Mem) (n:Nat):(setFl m n).fl=n:=rfl
@[simp] theorem Qr (m:Mem) (n:Nat):(setFl m n).hp=m.hp:=rfl
@[simp] theorem QF (m:Mem) (b:Nat) (o:AObj):(addO m b o).nx=m.nx:=rfl
@[simp] theorem QG (m:Mem) (b:Nat) (o:AObj):(addO m b o).fl=m.fl:=rfl
theorem gJ(m:Mem)(b:Nat)(o:AObj)(b':Nat):(addO m b o).hp.get b'=if b'=b then some o else m.hp.get b':=Tr.get_put ..
@[simp] theorem Qg (m:Mem) (b o:Nat) (l:List Value):(wr m b o l).nx=m.nx:=by unfold wr;split<;>rfl
@[simp] theorem Bp (m:Mem) (b o:Nat) (l:List Value):(wr m b o l).fl=m.fl:=by unfold wr;split<;>rfl
theorem tf{m m':Mem}{b o:Nat}(h:m'.hp.get b=m.hp.get b):rd m' b o=rd m b o:=by unfold rd;rw[h]
def Row(m:Mem)(b:Nat)(l:List Value)(e:TypeId)(x:Bool):Prop:=
 ∃c,m.hp.get b=some (.cells c l.length e x)/\∀i,i<l.length->c.get i=l[i]?
theorem Row.of_row{m:Mem}{b:Nat}{l:List Value}{e:TypeId}{x:Bool}(h:m.hp.get b=some (row l e x)):Row m b l e x:=
 ⟨_,h,fun i hi=>by
  have:∀(l:List Value) (c:Tr Value) (k i:Nat),(ec c l k).get i=if k<=i/\i<k+l.length then l[i-k]? else c.get i:=by
   intro l
   induction l with
   | nil=>intro c k i;rw[if_neg (by simp)];rfl
   | cons v r ih=>
    intro c k i;show (ec (c.put k v) r (k+1)).get i=_;rw[ih,Tr.get_put];by_cases h1:i=k
    ·subst h1;rw[if_neg (by omega),if_pos rfl,if_pos (by simp)];simp
    ·rw[if_neg h1];by_cases h2:k+1<=i/\i<k+1+r.length
     ·rw[if_pos h2,if_pos (by simp;omega)];rw[show i-k=(i-(k+1))+1 by omega];simp
     ·rw[if_neg h2,if_neg (by simp;omega)]
  rw[this,if_pos (by omega)];simp⟩
theorem Row.congr{m m':Mem}{b:Nat}{l:List Value}{e:TypeId}{x:Bool}(h:Row m b l e x)(hg:m'.hp.get b=m.hp.get b):Row m' b l e x:=by
 obtain⟨c,h1,h2⟩:=h;exact⟨c,hg.trans h1,h2⟩
theorem Row.rd{m:Mem}{b o:Nat}{l:List Value}{e:TypeId}{x:Bool}(h:Row m b l e x):rd m b o=l[o]?:=by
 obtain⟨c,h1,h2⟩:=h;by_cases ho:o<l.length
 .rw[zP (by rw[h1];rfl) ho,h2 o ho]
 .unfold AX.rd;rw[h1];have:Nat.blt o l.length=false:=by
   cases hb:Nat.blt o l.length with
   | false=>rfl
   | true=>exact absurd (gQ6 hb) (by omega)
  simp only[wG,this];rw[List.getElem?_eq_none (by omega)]
theorem Row.okW{m:Mem}{b o n:Nat}{l:List Value}{e:TypeId}{x:Bool}(h:Row m b l e x)(hf:m.fl<=b)(hn:o+n<=l.length):okW m b o n:=by
 obtain⟨c,h1,h2⟩:=h;exact⟨hf,c,_,e,x,h1,hn⟩
theorem kN:∀(l:List Value) (c:Tr Value) (k i:Nat),(ec c l k).get i=if k<=i/\i<k+l.length then l[i-k]? else c.get i:=by
 intro l
 induction l with
 | nil=>intro c k i;rw[if_neg (by simp)];rfl
 | cons v r ih=>
  intro c k i;show (ec (c.put k v) r (k+1)).get i=_;rw[ih,Tr.get_put];by_cases h1:i=k
  .subst h1;rw[if_neg (by omega),if_pos rfl,if_pos (by simp)];simp
  .rw[if_neg h1];by_cases h2:k+1<=i/\i<k+1+r.length
   .rw[if_pos h2,if_pos (by simp;omega)];rw[show i-k=(i-(k+1))+1 by omega];simp
   .rw[if_neg h2,if_neg (by simp;omega)]
def over(l:List Value)(o:Nat)(vs:List Value):List Value:=l.take o++vs++l.drop (o+vs.length)
theorem qZ{l:List Value}{o:Nat}{vs:List Value}(h:o+vs.length<=l.length):(over l o vs).length=l.length:=by
 simp[over];omega
theorem wH{l:List Value}{o:Nat}{vs:List Value}(h:o+vs.length<=l.length)(i:Nat):(over l o vs)[i]? = if o<=i/\i<o+vs.length then vs[i-o]? else l[i]?:=by
 unfold over;by_cases h1:i<o
 .rw[if_neg (by omega),List.append_assoc,List.getElem?_append_left (by simp;omega),List.getElem?_take,if_pos h1]
 .by_cases h2:i<o+vs.length
  .rw[if_pos (by omega),List.append_assoc,List.getElem?_append_right (by simp;omega),List.getElem?_append_left (by simp;omega)];congr 1;simp;omega
  .rw[if_neg (by omega),List.getElem?_append_right (by simp;omega),List.getElem?_drop];congr 1;simp;omega
theorem L9{l:List Value}{o:Nat}{v:Value}(h:o<l.length):over l o [v]=l.set o v:=by
 apply List.ext_getElem?;intro i;rw[wH (by simp;omega),List.getElem?_set];by_cases h1:o=i
 .subst h1;simp[h]
 .rw[if_neg (by simp;omega),if_neg h1]
theorem ln{m:Mem}{b o:Nat}{l:List Value}{b':Nat}(h:b'≠b):(wr m b o l).hp.get b'=m.hp.get b':=by
 unfold wr;split
 .show (m.hp.put b _).get b'=_;rw[Tr.get_put,if_neg h]
 .rfl
theorem Row.wr{m:Mem}{b o:Nat}{l vs:List Value}{e:TypeId}{x:Bool}(h:Row m b l e x)(hn:o+vs.length<=l.length):Row (wr m b o vs) b (over l o vs) e x:=by
 obtain⟨c,h1,h2⟩:=h;refine⟨ec c vs o,?_,fun i hi=>?_⟩
 .unfold AX.wr;simp only[h1];show (m.hp.put b _).get b=_;rw[Tr.get_put,if_pos rfl,qZ hn]
 .rw[qZ hn]at hi;rw[kN,wH hn,h2 i hi]
theorem Row.wr1{m:Mem}{b o:Nat}{l:List Value}{v:Value}{e:TypeId}{x:Bool}(h:Row m b l e x)(hn:o<l.length):Row (AX.wr m b o [v]) b (l.set o v) e x:=by
 have:=h.wr (o:=o) (vs:=[v]) (by simp;omega)
 rwa [L9 hn]at this
theorem Row.newO{m:Mem}{l:List Value}{e:TypeId}{x:Bool}:Row (newO m (row l e x)) m.nx l e x:=
 Row.of_row (by rw[kM,if_pos rfl])
theorem Row.apart{m:Mem}{b b' o:Nat}{l vs:List Value}{e:TypeId}{x:Bool}(h:Row m b l e x)(hb:b≠b'):Row (AX.wr m b' o vs) b l e x:=
 h.congr (ln hb)
@[simp] theorem CX (m:Mem) (n b o:Nat):rd (bump m n) b o=rd m b o:=rfl
@[simp] theorem Qs (m:Mem) (n b o:Nat):rd (setFl m n) b o=rd m b o:=rfl
structure Fr (m m':Mem) (S:List Nat):Prop where
 nx:m.nx<=m'.nx
 fl:m'.fl=m.fl
 get:∀b,b<m.nx->b∉S->m'.hp.get b=m.hp.get b
theorem Fr.refl(m:Mem)(S:List Nat):Fr m m S:=⟨gQ4 _,rfl,fun _ _ _=>rfl⟩
theorem Fr.trans{m m1 m2:Mem}{S S':List Nat}(h:Fr m m1 S)(k:Fr m1 m2 S')(hs:∀b∈S',b∈S∨m.nx<=b):Fr m m2 S:=
 ⟨Nat.le_trans h.nx k.nx,k.fl.trans h.fl,fun b hb hn=>(k.get b (Nat.lt_of_lt_of_le hb h.nx) (fun hx=>by
  rcases hs b hx with h1|h1
  ·exact hn h1
  ·omega)).trans (h.get b hb hn)⟩
theorem Fr.mono{m m':Mem}{S S':List Nat}(h:Fr m m' S)(hs:∀b∈S,b∈S'∨m.nx<=b):Fr m m' S':=
 ⟨h.nx,h.fl,fun b hb hn=>h.get b hb (fun hx=>by
  rcases hs b hx with h1|h1
  ·exact hn h1
  ·omega)⟩
theorem Fr.newO{m m':Mem}{S:List Nat}{ob:AObj}(h:Fr m m' S):Fr m (newO m' ob) S:=
 h.trans (S':=[]) ⟨Nat.le_succ _,rfl,fun b hb _=>by rw[kM,if_neg (by omega)]⟩ (fun b hb=>by cases hb)
theorem Fr.wr{m m':Mem}{S:List Nat}{b o:Nat}{l:List Value}(h:Fr m m' S)(hb:b∈S∨m.nx<=b):Fr m (wr m' b o l) S:=
 h.trans (S':=[b]) ⟨by simp,by simp,fun b' _ hn=>ln (by simpa using hn)⟩ (fun b' hb'=>by simp at hb';subst hb';exact hb)
theorem Fr.addO{m m':Mem}{S:List Nat}{b:Nat}{ob:AObj}(h:Fr m m' S)(hb:b∈S∨m.nx<=b):Fr m (addO m' b ob) S:=
 h.trans (S':=[b]) ⟨by simp,by simp,fun b' _ hn=>by rw[gJ,if_neg (by simpa using hn)]⟩ (fun b' hb'=>by simp at hb';subst hb';exact hb)
theorem Fr.row{m m':Mem}{S:List Nat}(h:Fr m m' S){b:Nat}{l:List Value}{e:TypeId}{x:Bool}(hr:Row m b l e x)(hb:b<m.nx)(hn:b∉S):Row m' b l e x:=hr.congr (h.get b hb hn)
def Wf(m:Mem):Prop:=m.fl<=m.nx/\∀b,m.nx<=b->m.hp.get b=none
theorem Wf.lt{m:Mem}(h:Wf m){b:Nat}{o:AObj}(hb:m.hp.get b=some o):b<m.nx:=by
 by_cases hc:b<m.nx
 .exact hc
 .rw[h.2 b (by omega)]at hb;cases hb
theorem Wf.row{m:Mem}(h:Wf m){b:Nat}{l:List Value}{e:TypeId}{x:Bool}(hr:Row m b l e x):b<m.nx:=by
 obtain⟨c,h1,_⟩:=hr;exact h.lt h1
theorem Wf.rd{m:Mem}(h:Wf m){b o:Nat}{v:Value}(hr:rd m b o=some v):b<m.nx:=by
 obtain⟨c,n,h1,_⟩:=AF hr;cases hg:m.hp.get b with
 | none=>rw[hg]at h1;cases h1
 | some o=>exact h.lt hg
theorem Wf.newO{m:Mem}(h:Wf m){ob:AObj}:Wf (newO m ob):=
 ⟨Nat.le_trans h.1 (Nat.le_succ _),fun b hb=>by rw[kM,if_neg (by simp at hb;omega),h.2 b (by simp at hb;omega)]⟩
theorem Wf.bump{m:Mem}(h:Wf m){n:Nat}:Wf (bump m n):=⟨Nat.le_trans h.1 (Nat.le_add_right _ _),fun b hb=>h.2 b (by simp at hb;omega)⟩
theorem Ob{m:Mem}{b o:Nat}{l:List Value}{b':Nat}(h:m.hp.get b'=none):(wr m b o l).hp.get b'=none:=by
 by_cases e:b'=b
 .subst e;unfold wr;rw[h];exact h
 .rw[ln e,h]
theorem Wf.wr{m:Mem}(h:Wf m){b o:Nat}{l:List Value}:Wf (wr m b o l):=⟨by simpa using h.1,fun b' hb=>Ob (h.2 b' (by simpa using hb))⟩
theorem Wf.addO{m:Mem}(h:Wf m){b:Nat}{ob:AObj}(hb:b<m.nx):Wf (addO m b ob):=
 ⟨h.1,fun b' hb'=>by simp at hb';rw[gJ,if_neg (by omega),h.2 b' hb']⟩
theorem Wf.at{m m':Mem}(h:Wf m){r:Nat}(hr:r<m.nx)(hn:m'.nx=m.nx)(hf:m'.fl=m.fl)(hg:∀b,b≠r->m'.hp.get b=m.hp.get b):Wf m':=
 ⟨by rw[hn,hf];exact h.1,fun b hb=>by rw[hn]at hb;rw[hg b (by omega)];exact h.2 b hb⟩
theorem fe{b:Bool}{t e:Prop}:splitB b t e↔(b=true->t)/\(b=false->e):=by
 cases b<;>simp[splitB]
theorem eG{t e:Prop}:splitB true t e↔t:=Iff.rfl
theorem gk{t e:Prop}:splitB false t e↔e:=Iff.rfl
@[simp] theorem cO {m:Mem} {K:Mem->Prop}:cY m K↔K m:=⟨fun h=>h m rfl,fun h _ e=>e▸h⟩
@[simp] theorem cW {b o:Nat} {K:Nat->Nat->Prop}:cZ (some ⟨b,o,none⟩) K↔K b o:=Iff.rfl
@[simp] theorem Qn {K:Nat->Nat->Prop}:cZ none K↔False:=Iff.rfl
theorem gH{x y:Int}:cR x y=true↔x<y:=by simp[cR]
theorem dW{x y:Int}:cR x y=false↔y<=x:=by simp[cR]
theorem fZ{x y:Int}:leI x y=true↔x<=y:=by simp[leI]
theorem ki{x y:Int}:leI x y=false↔y<x:=by simp[leI]
theorem eH{x y:Int}:cT x y=true↔x=y:=by simp[cT]
theorem dY{x y:Int}:cT x y=false↔x≠y:=by simp[cT]
theorem iw{x y:Int}:dT x y=true↔x≠y:=by simp[dT]
theorem fF{x y:Int}:dT x y=false↔x=y:=by simp[dT]
theorem DK{k:IntKind}{r:Int}(h1:k.min<=r)(h2:r<=k.max):lM k r=r:=by
 unfold lM zr;simp[h1,h2]
def Qq(x:Int):Prop:=-9223372036854775808<=x/\x<=9223372036854775807
theorem jN{r:Int}(h1:-9223372036854775808<=r)(h2:r<=9223372036854775807):lM .i64 r=r:=DK h1 h2
theorem dN{x y:Int}(h1:-9223372036854775808<=x+y)(h2:x+y<=9223372036854775807):bh .i64 x y=x+y:=jN h1 h2
theorem eO{x y:Int}(h1:-9223372036854775808<=x-y)(h2:x-y<=9223372036854775807):de .i64 x y=x-y:=jN h1 h2
theorem CY{x y:Int}(h1:-9223372036854775808<=x*y)(h2:x*y<=9223372036854775807):io .i64 x y=x*y:=jN h1 h2
theorem Row.rowAt{m:Mem}{b o k:Nat}{l:List Value}{e:TypeId}{x:Bool}(h:Row m b l e x)(hk:o+k<=l.length):fk m ⟨b,o,none⟩ k=some ((l.drop o).take k):=by
 obtain⟨c,h1,h2⟩:=h;rw[lH,h1];simp only[wG,gQ8 hk];have hl:((l.drop o).take k).length=k:=by simp;omega
 have:=oU (c:=c) (vs:=(l.drop o).take k) (i:=o) (fun j v e=>by
  have hj:j<k:=by rw[<-hl];exact(gQ1 e).1
  rw[h2 (o+j) (by omega),<-e,List.getElem?_take,if_pos hj,List.getElem?_drop])
 rwa [hl]at this
theorem Row.rowAll{m:Mem}{b:Nat}{l:List Value}{e:TypeId}{x:Bool}(h:Row m b l e x):fk m ⟨b,0,none⟩ l.length=some l:=by
 have:=h.rowAt (o:=0) (k:=l.length) (by omega);simpa using this
def Grow(m:Mem)(a:Option Addr)(n c s:Nat)(e:TypeId)(l:List Value):Prop:=
 l.length=n*s/\((a=none/\n=0/\c=0)∨∃b,a=some ⟨b,0,none⟩/\c=n/\m.fl<=b/\Row m b l e true)
theorem Grow.nil(m:Mem)(s:Nat)(e:TypeId):Grow m none 0 0 s e []:=⟨by simp,.inl ⟨rfl,rfl,rfl⟩⟩
theorem oF{cx:Cx}{m:Mem}{a:Option Addr}{n c s k:Nat}{e t tx:TypeId}{ux:TypeDesc}{i:TypeInfo}{z x:Value}{l new:List Value}(hG:Grow m a n c s e l)
  (ht:cx.un.get t=some (.slice e)) (htx:cx.un.get tx=some ux) (hux:iR ux=true) (hi:cx.ty.get e=some i) (his:i.size=s) (hz:fB cx e=some z) (hzl:(bQ z).length=s) (hs:0<s)
  (hx:mE x=some k) (hf:dA m s k x=some new) (hn:new.length=k*s) (ho:new.all one1=true) (hk:0<k) (hb1:(2*(n+k)+192)*i.bytes<=140737488355328) (hb2:n+k<=1099511627776) :
  ∃m',cQ cx m [t,tx] [.slice a n c,x]=some (.slice (some ⟨m.nx,0,none⟩) (n+k) (n+k),m')/\m'.nx=m.nx+1/\m'.fl=m.fl/\Row m' m.nx (l++new) e true/\
   ∀b',b'≠m.nx->(∀b,a=some ⟨b,0,none⟩->b'≠b)->m'.hp.get b'=m.hp.get b':=by
 obtain⟨hl,hG⟩:=hG;have hcn:Nat.ble (n+k) c=false:=by
  rcases hG with⟨_,h1,h2⟩|⟨b,_,h2,_⟩
  .cases h:Nat.ble (n+k) c with
   | false=>rfl
   | true=>have:=gQ6 h;omega
  .cases h:Nat.ble (n+k) c with
   | false=>rfl
   | true=>have:=gQ6 h;omega
 subst his;have hfirst:dA m i.size n (.slice a n c)=some l:=by
  rcases hG with⟨rfl,rfl,rfl⟩|⟨b,rfl,rfl,_,hr⟩
  .simp only[dA];congr 1;exact(List.length_eq_zero_iff.1 (by simpa using hl)).symm
  .cases c with
   | zero=>simp only[dA];congr 1;exact(List.length_eq_zero_iff.1 (by simpa using hl)).symm
   | succ c=>simp only[dA];rw[<-hl];exact hr.rowAll
 have hgu:∃m1,giveUp m a e i.size c=some m1/\m1.nx=m.nx/\m1.fl=m.fl/\∀b',(∀b,a=some ⟨b,0,none⟩->b'≠b)->m1.hp.get b'=m.hp.get b':=by
  rcases hG with⟨rfl,rfl,rfl⟩|⟨b,rfl,rfl,hfl,tr,hr,_⟩
  .exact⟨m,rfl,rfl,rfl,fun _ _=>rfl⟩
  .refine⟨{ m with hp:=m.hp.del b },?_,rfl,rfl,fun b' hb'=>?_⟩
   .unfold giveUp;simp only[hr];have e1:Nat.beq e e=true:=Nat.beq_refl e;have e2:Nat.beq (0+c*i.size) l.length=true:=by rw[hl,Nat.zero_add];exact Nat.beq_refl _
    simp only[e1,e2,gQ8 hfl]
   .show (m.hp.del b).get b'=_;rw[Tr.get_del,if_neg (hb' b rfl)]
 obtain⟨m1,g1,g2,g3,g4⟩:=hgu;refine⟨newO m1 (row (l++new) e true),?_,by simp[g2],by simp[g3],?_,fun b' h1 h2=>?_⟩
 .unfold cQ;simp only[ht,htx,hi,hx,hux,hf,hcn];have e1:(Nat.beq new.length (k*i.size)&&Nat.blt 0 i.size&&new.all one1)=true:=by
   rw[hn,ho,show Nat.beq (k*i.size) (k*i.size)=true from Nat.beq_refl _,show Nat.blt 0 i.size=true from gQ8 hs];rfl
  have e2:(Nat.ble ((2*(n+k)+192)*i.bytes) 140737488355328&&Nat.ble (n+k) 1099511627776)=true:=by
   rw[gQ8 hb1,gQ8 hb2];rfl
  have e3:(Nat.beq l.length (n*i.size)&&Nat.beq (bQ z).length i.size)=true:=by
   rw[hl,hzl,show Nat.beq (n*i.size) (n*i.size)=true from Nat.beq_refl _,show Nat.beq i.size i.size=true from Nat.beq_refl _];rfl
  simp only[e1,e2,hfirst,hz,g1,e3];show some _=_;rw[<-g2];rfl
 .rw[<-g2];exact Row.newO
 .rw[kM,if_neg (by rw[g2];exact h1),g4 b' h2]
def Fv(k:IntKind)(es:List MapEntry)(f:Int->Option Value):Prop:=
 (∀e∈es,∃n,e.key = .int k n)/\∀n,∃r,gx (.int k) (.int k n) es 0=some r/\r.map (·.2)=f n
theorem Fv.nil(k:IntKind):Fv k [] fun _=>none:=⟨(fun _ he=>nomatch he),(fun _=>⟨none,rfl,rfl⟩)⟩
theorem gG{k:IntKind}{n j:Int}{e:MapEntry}{es:List MapEntry}{i:Nat}(he:e.key = .int k j):gx (.int k) (.int k n) (e::es) i=if n=j then some (some (i,e.val)) else gx (.int k) (.int k n) es (i+1):=by
 simp only[gx,he,iW,zu,Bool.and_self,decide_true];by_cases h:n=j
 .rw[if_pos h];simp[h]
 .rw[if_neg h];simp[h]
theorem kO{k:IntKind}{n:Int}:∀{es:List MapEntry} {i:Nat},(∀e∈es,∃n,e.key = .int k n)->gx (.int k) (.int k n) es i=(gx (.int k) (.int k n) es 0).map (·.map fun x=>(x.1+i,x.2))
 | [],i,_=>rfl
 | e::r,i,h=>by
  obtain⟨j,hj⟩:=h e (gQ9 ..);have hr:∀e∈r,∃n,e.key = .int k n:=fun e he=>h e (gQ5 _ he)
  rw[gG hj,gG hj];by_cases hn:n=j
  .rw[if_pos hn,if_pos hn];simp
  .rw[if_neg hn,if_neg hn,kO hr (i:=i+1),kO hr (i:=0+1)];cases gx (.int k) (.int k n) r 0 with
   | none=>rfl
   | some o=>cases o with
    | none=>rfl
    | some p=>simp;omega
theorem yl{k:IntKind}{n j:Int}{v:Value}{born:Nat}:∀{es:List MapEntry} {i:Nat},(∀e∈es,∃n,e.key = .int k n)->
  gx (.int k) (.int k n) (es++[{ key:=.int k j,val:=v,born:=born }]) i=match gx (.int k) (.int k n) es i with
   | some (some p)=>some (some p)
   | some none=>if n=j then some (some (i+es.length,v)) else some none
   | none=>none
 | [],i,_=>by rw[List.nil_append,gG rfl];simp[gx]
 | e::r,i,h=>by
  obtain⟨q,hq⟩:=h e (gQ9 ..);have hr:∀e∈r,∃n,e.key = .int k n:=fun e he=>h e (gQ5 _ he)
  rw[List.cons_append,gG hq,gG hq];by_cases hn:n=q
  .rw[if_pos hn,if_pos hn]
  .rw[if_neg hn,if_neg hn,yl hr];rw[show i+1+r.length=i+(e::r).length by simp;omega]
theorem tw{k:IntKind}{n j:Int}{v:Value}:∀{es:List MapEntry} {p:Nat} {old:Value},(∀e∈es,∃n,e.key = .int k n)->gx (.int k) (.int k j) es 0=some (some (p,old))->
  (gx (.int k) (.int k n) (es.modify p fun e=>{ e with key:=.int k j,val:=v }) 0=if n=j then some (some (p,v)) else gx (.int k) (.int k n) es 0)/\∀e∈(es.modify p fun e=>{ e with key:=.int k j,val:=v }),∃n,e.key = .int k n
 | [],p,old,_,h=>by cases h
 | e::r,p,old,hk,h=>by
  obtain⟨q,hq⟩:=hk e (gQ9 ..);have hr:∀e∈r,∃n,e.key = .int k n:=fun e he=>hk e (gQ5 _ he)
  rw[gG hq]at h;by_cases hj:j=q
  .rw[if_pos hj]at h;cases h;subst hj;refine⟨?_,?_⟩
   .simp only[List.modify_zero_cons];rw[gG rfl,gG hq];by_cases hn:n=j
    .rw[if_pos hn,if_pos hn]
    .rw[if_neg hn,if_neg hn,if_neg hn]
   .intro e' he';simp only[List.modify_zero_cons,List.mem_cons]at he';rcases he' with rfl|he'
    .exact⟨j,rfl⟩
    .exact hr e' he'
  .rw[if_neg hj,kO hr]at h;cases hf:gx (.int k) (.int k j) r 0 with
   | none=>rw[hf]at h;cases h
   | some o=>
    cases o with
    | none=>rw[hf]at h;cases h
    | some x=>
     obtain⟨p',v'⟩:=x;rw[hf]at h;simp at h;obtain⟨rfl,rfl⟩:=h;obtain⟨h1,h2⟩:=tw (n:=n) (v:=v) hr hf;refine⟨?_,?_⟩
     .simp only[List.modify_succ_cons];rw[gG hq,gG hq,kO h2,h1,kO hr];by_cases hn:n=j
      .rw[if_pos hn,if_pos hn,if_neg (fun e=>hj (hn▸e))];rfl
      .rw[if_neg hn];by_cases hq2:n=q
       .rw[if_pos hq2];simp[hq2,Ne.symm hj]
       .rw[if_neg hq2,if_neg hq2,if_neg hn,kO hr (i:=0+1)];cases gx (.int k) (.int k n) r 0 with
        | none=>rfl
        | some o=>cases o<;>rfl
     .intro e' he';simp only[List.modify_succ_cons,List.mem_cons]at he';rcases he' with rfl|he'
      .exact⟨q,hq⟩
      .exact h2 e' he'
def FP(f:Int->Option Value)(j:Int)(v:Value):Int->Option Value:=fun n=>if n=j then some v else f n
def Po(es:List MapEntry)(clock:Nat):Prop:=(∀e∈es,e.born<clock)/\(es.map (·.born)).Nodup/\(es.map (·.key)).Nodup
theorem Bq{k:IntKind}{n:Int}:∀{es:List MapEntry} {i:Nat},(∀e∈es,∃n,e.key = .int k n)->gx (.int k) (.int k n) es i=some none->∀e∈es,e.key≠.int k n
 | [],_,_,_,_,he=>nomatch he
 | e::r,i,h,hf,e',he'=>by
  obtain⟨q,hq⟩:=h e (gQ9 ..);rw[gG hq]at hf;by_cases hn:n=q
  .rw[if_pos hn]at hf;cases hf
  .rw[if_neg hn]at hf;rcases List.mem_cons.1 he' with rfl|he'
   .rw[hq];intro e1;injection e1 with _ e1;exact hn e1.symm
   .exact Bq (fun e he=>h e (gQ5 _ he)) hf e' he'
theorem modify_keys{k:IntKind}{j:Int}{v old:Value}:∀{es:List MapEntry} {p:Nat},(∀e∈es,∃n,e.key = .int k n)->gx (.int k) (.int k j) es 0=some (some (p,old))->
  (es.modify p fun e=>{ e with key:=.int k j,val:=v }).map (·.key)=es.map (·.key)/\(es.modify p fun e=>{ e with key:=.int k j,val:=v }).map (·.born)=es.map (·.born)
 | [],p,_,h=>by cases h
 | e::r,p,hk,h=>by
  obtain⟨q,hq⟩:=hk e (gQ9 ..);have hr:∀e∈r,∃n,e.key = .int k n:=fun e he=>hk e (gQ5 _ he)
  rw[gG hq]at h;by_cases hj:j=q
  .rw[if_pos hj]at h;cases h;subst hj;simp only[List.modify_zero_cons,List.map_cons,hq,and_self]
  .rw[if_neg hj,kO hr]at h;cases hf:gx (.int k) (.int k j) r 0 with
   | none=>rw[hf]at h;cases h
   | some o=>
    cases o with
    | none=>rw[hf]at h;cases h
    | some x=>
     obtain⟨p',v'⟩:=x;rw[hf]at h;simp at h;obtain⟨rfl,rfl⟩:=h;obtain⟨h1,h2⟩:=modify_keys (v:=v) hr hf;simp only[List.modify_succ_cons,List.map_cons];exact⟨by rw[h1],by rw[h2]⟩
def oV(m:Mem)(r:Nat)(k:IntKind)(f:Int->Option Value):Prop:=∃es clock,m.hp.get r=some (.map es clock)/\Fv k es f/\Po es clock
theorem oV.congr{m m':Mem}{r:Nat}{k:IntKind}{f:Int->Option Value}(h:oV m r k f)(hg:m'.hp.get r=m.hp.get r):oV m' r k f:=by
 obtain⟨es,cl,h1,h2⟩:=h;exact⟨es,cl,hg.trans h1,h2⟩
theorem oV.newO{m:Mem}{k:IntKind}:oV (newO m (.map [] 0)) m.nx k fun _=>none:=⟨[],0,by rw[kM,if_pos rfl],Fv.nil k,(fun _ he=>nomatch he),List.nodup_nil,List.nodup_nil⟩
theorem oV.look{cx:Cx}{m:Mem}{r:Nat}{k:IntKind}{f:Int->Option Value}(h:oV m r k f){t et:TypeId}{n:Int}(hk:mapKey cx t (.int k n)=some (.int k,et)){ok:Bool}{z:Value}(hz:fB cx et=some z) :
  mw cx m t (.map (some r)) (.int k n) ok=some (match f n with|some v=>okV ok v true|none=>okV ok z false):=by
 obtain⟨es,cl,h1,⟨h2,h3⟩,_⟩:=h;obtain⟨q,hq,he⟩:=h3 n;unfold mw;simp only[hk,h1,tu,hq];rw[<-he];cases q with
 | none=>simp[hz]
 | some p=>rfl
theorem oV.update{cx:Cx}{m:Mem}{r:Nat}{k:IntKind}{f:Int->Option Value}(h:oV m r k f)(hf:m.fl<=r){t et:TypeId}{n:Int}(hk:mapKey cx t (.int k n)=some (.int k,et))(v:Value) :
  ∃m',fN cx m t (.map (some r)) (.int k n) v=some m'/\oV m' r k (FP f n v)/\m'.nx=m.nx/\m'.fl=m.fl/\∀b,b≠r->m'.hp.get b=m.hp.get b:=by
 obtain⟨es,cl,h1,⟨h2,h3⟩,s1,s2,s3⟩:=h;obtain⟨q,hq,he⟩:=h3 n;cases q with
 | none=>
  refine⟨{ m with hp:=m.hp.put r (.map (es++[{ key:=.int k n,val:=v,born:=cl }]) (cl+1)) },?_,⟨_,_,by show (m.hp.put r _).get r=_;rw[Tr.get_put,if_pos rfl],⟨?_,fun j=>?_⟩,?_,?_,?_⟩,rfl,rfl,fun b hb=>by show (m.hp.put r _).get b=_;rw[Tr.get_put,if_neg hb]⟩
  .unfold fN;simp only[hk,h1,hq,mY,gQ8 hf]
  .intro e' he';rcases List.mem_append.1 he' with h|h
   .exact h2 e' h
   .simp at h;subst h;exact⟨n,rfl⟩
  .obtain⟨q',hq',he'⟩:=h3 j;rw[yl h2,hq'];unfold FP;cases q' with
   | none=>
    by_cases hj:j=n
    .subst hj;exact⟨_,by rw[if_pos rfl],by rw[if_pos rfl];rfl⟩
    .exact⟨_,by rw[if_neg hj],by rw[if_neg hj];exact he'⟩
   | some p=>
    have hne:j≠n:=by rintro rfl;rw[hq]at hq';cases hq'
    exact⟨_,rfl,by rw[if_neg hne];exact he'⟩
  .intro e' he';rcases List.mem_append.1 he' with h|h
   .exact Nat.lt_succ_of_lt (s1 e' h)
   .simp at h;subst h;exact Nat.lt_succ_self _
  .rw[List.map_append];refine List.nodup_append.2 ⟨s2,by simp,fun a ha b hb e=>?_⟩;obtain⟨x,hx,rfl⟩:=List.mem_map.1 ha;simp at hb;have:=s1 x hx;omega
  .rw[List.map_append];refine List.nodup_append.2 ⟨s3,by simp,fun a ha b hb e=>?_⟩;obtain⟨x,hx,rfl⟩:=List.mem_map.1 ha;simp at hb;exact Bq h2 hq x hx (e.trans hb)
 | some p=>
  obtain⟨i,old⟩:=p;refine⟨{ m with hp:=m.hp.put r (.map (es.modify i fun e=>{ e with key:=.int k n,val:=v }) cl) },?_,⟨_,_,by show (m.hp.put r _).get r=_;rw[Tr.get_put,if_pos rfl],⟨(tw (n:=n) h2 hq).2,fun j=>?_⟩,?_,?_,?_⟩,rfl,rfl,fun b hb=>by show (m.hp.put r _).get b=_;rw[Tr.get_put,if_neg hb]⟩
  .unfold fN;simp only[hk,h1,hq,mY,gQ8 hf]
  .rw[(tw (n:=j) h2 hq).1];unfold FP;by_cases hj:j=n
   .subst hj;exact⟨_,by rw[if_pos rfl],by rw[if_pos rfl];rfl⟩
   .obtain⟨q',hq',he'⟩:=h3 j;exact⟨q',by rw[if_neg hj];exact hq',by rw[if_neg hj];exact he'⟩
  .intro e' he';have:e'.born∈(es.modify i fun e=>{ e with key:=.int k n,val:=v }).map (·.born):=List.mem_map_of_mem he';rw[(modify_keys h2 hq).2]at this;obtain⟨x,hx,e⟩:=List.mem_map.1 this;rw[<-e];exact s1 x hx
  .rw[(modify_keys h2 hq).2];exact s2
  .rw[(modify_keys h2 hq).1];exact s3
end Go.AX
