import Derived.Test.YthpnifigjfplbaaGreatQU06
import Derived.Test.YthpnifigjfplbaaGreatQU05
set_option linter.unusedSectionVars false
set_option linter.unusedSimpArgs false
set_option linter.unusedVariables false
namespace Go.AX
variable {cx:Cx}
structure Nice (u u':Mem):Prop where
 wf:Wf u'
 fl:u'.fl=u.fl
 nx:u.nx<=u'.nx
section
variable {u:Mem}
theorem Nice.refl(hw:Wf u):Nice u u:=⟨hw,rfl,gQ4 _⟩
theorem Nice.trans{u1 u2:Mem}(h:Nice u u1)(k:Nice u1 u2):Nice u u2:=⟨k.wf,k.fl.trans h.fl,Nat.le_trans h.nx k.nx⟩
theorem Nice.put(hw:Wf u){b:Nat}(hb:b<u.nx)(o:AObj):Nice u { u with hp:=u.hp.put b o }:=⟨hw.addO hb,rfl,gQ4 _⟩
theorem Nice.new(hw:Wf u)(o:AObj):Nice u { hp:=u.hp.put u.nx o,nx:=u.nx+1,fl:=u.fl }:=⟨hw.newO,rfl,Nat.le_succ _⟩
theorem Nice.del(hw:Wf u)(b:Nat):Nice u { u with hp:=u.hp.del b }:=⟨⟨hw.1,fun b' hb'=>by
 show (u.hp.del b).get b'=none;rw[Tr.get_del];split
 ·rfl
 ·exact hw.2 b' hb'⟩,rfl,gQ4 _⟩
theorem oJ(hw:Wf u){a:Addr}{l:List Value}{u':Mem}(e:iQ u a l=some u'):Nice u u':=by
 unfold iQ at e;split at e
 .cases e
 .split at e
  .rename_i hg;split at e
   .cases e;exact Nice.put hw (hw.lt hg) _
   .cases e
  .cases e
theorem HE(hw:Wf u){t:TypeId}{a:Addr}{v:Value}{u':Mem}(e:storeT cx u t a v=some u'):Nice u u':=by
 unfold storeT at e;split at e
 .split at e
  .exact oJ hw e
  .cases e
 .cases e
theorem pI(hw:Wf u){b:Nat}{o ob:AObj}{u':Mem}(hb:u.hp.get b=some ob)(e:mY u b o=some u'):Nice u u':=by
 unfold mY at e;split at e
 .cases e;exact Nice.put hw (hw.lt hb) _
 .cases e
theorem ik(hw:Wf u)(l:List Value)(e:TypeId)(x:Bool):Nice u (gd u l e x).2:=Nice.new hw _
theorem AY(hw:Wf u){t:TypeId}{n:Nat}{ps:List (Nat×Value)}{v:Value}{u':Mem}(e:iJ cx u t n ps=some (v,u')):Nice u u':=by
 unfold iJ at e;split at e
 .split at e
  .split at e
   .split at e
    .cases e;exact ik hw _ _ _
    .cases e
   .cases e
  .cases e
 .cases e
theorem Ce(hw:Wf u){t:TypeId}{a b v:Value}{u':Mem}(e:jp cx u t a b=some (v,u')):Nice u u':=by
 unfold jp at e;split at e
 .split at e
  .split at e
   .cases e;exact ik hw _ _ _
   .cases e
  .cases e
 .cases e
theorem An(hw:Wf u){base:Option Addr}{e s cap:Nat}{u':Mem}(k:giveUp u base e s cap=some u'):Nice u u':=by
 unfold giveUp at k;split at k
 .cases k;exact Nice.refl hw
 .split at k
  .cases k;exact Nice.refl hw
  .split at k
   .split at k
    .cases k;exact Nice.refl hw
    .split at k
     .split at k
      .split at k
       .cases k;exact Nice.del hw _
       .cases k
      .cases k;exact Nice.refl hw
     .cases k
   .cases k
theorem GQ(hw:Wf u){el:TypeId}{i:TypeInfo}{base:Option Addr}{len cap n:Nat}{new:List Value}{v:Value}{u':Mem}(e:kh cx u el i base len cap n new=some (v,u')):Nice u u':=by
 unfold kh at e;split at e
 .cases e
 .split at e
  .split at e
   .split at e
    .cases e;exact Nice.refl hw
    .split at e
     .rename_i hst;cases e;exact oJ hw hst
     .cases e
   .split at e
    .cases e;exact Nice.refl hw
    .cases e
  .split at e
   .split at e
    .rename_i m1 hg hc3;have k:=An hw hg;cases e;exact k.trans (ik k.wf _ _ _)
    .cases e
   .cases e
theorem GR(hw:Wf u){el:TypeId}{i:TypeInfo}{ux:TypeDesc}{x:Value}{base:Option Addr}{len cap:Nat}{v:Value}{u':Mem}(e:lj cx u el i ux x base len cap=some (v,u')):Nice u u':=by
 unfold lj at e;split at e
 .split at e
  .exact GQ hw e
  .cases e
 .cases e
theorem yn(hw:Wf u){ts:List TypeId}{args:List Value}{v:Value}{u':Mem}(e:cQ cx u ts args=some (v,u')):Nice u u':=by
 unfold cQ at e;split at e
 .split at e
  .split at e
   .split at e
    .split at e
     .cases e
     .split at e
      .split at e
       .split at e
        .cases e;exact Nice.refl hw
        .split at e
         .rename_i hst;cases e;exact oJ hw hst
         .cases e
       .split at e
        .cases e;exact Nice.refl hw
        .cases e
      .split at e
       .split at e
        .rename_i m1 hg hc3;have k:=An hw hg;cases e;exact k.trans (ik k.wf _ _ _)
        .cases e
       .cases e
    .cases e
   .exact GR hw e
   .cases e
  .cases e
 .cases e
theorem Jo(hw:Wf u){ts:List TypeId}{args:List Value}{v:Value}{u':Mem}(e:iK cx u ts args=some (v,u')):Nice u u':=by
 unfold iK at e;split at e
 .split at e
  .split at e
   .split at e
    .split at e
     .split at e
      .cases e;exact Nice.refl hw
      .split at e
       .rename_i hst;cases e;exact oJ hw hst
       .cases e
     .cases e;exact Nice.refl hw
    .cases e
   .cases e
  .cases e
 .cases e
theorem uV(hw:Wf u){t:TypeId}{x k v:Value}{u':Mem}(e:fN cx u t x k v=some u'):Nice u u':=by
 unfold fN at e;split at e
 .split at e
  .rename_i hg;split at e
   .exact pI hw hg e
   .exact pI hw hg e
   .cases e
  .cases e
 .cases e
theorem Dg(hw:Wf u){t:TypeId}{x k v:Value}{u':Mem}(e:kl cx u t x k=some (v,u')):Nice u u':=by
 unfold kl at e;split at e
 .split at e
  .rename_i hg;split at e
   .split at e
    .rename_i hs;cases e;exact pI hw hg hs
    .cases e
   .split at e
    .split at e
     .rename_i hs;cases e;exact pI hw hg hs
     .cases e
    .cases e
   .cases e
  .cases e
 .cases e
theorem AZ(hw:Wf u){x s v:Value}{u':Mem}(e:iL u x s v=some u'):Nice u u':=by
 unfold iL at e;split at e
 .split at e
  .rename_i hg;split at e
   .exact pI hw hg e
   .cases e
  .cases e
 .cases e
theorem GT(hw:Wf u){t:TypeId}{x k:Value}{u':Mem}(e:nO cx u t x k=some u'):Nice u u':=by
 unfold nO at e;split at e
 .cases e;exact Nice.refl hw
 .split at e
  .rename_i hg;split at e
   .exact pI hw hg e
   .cases e;exact Nice.refl hw
   .cases e
  .cases e
 .cases e
theorem HF(hw:Wf u){ts:List TypeId}{args:List Value}{v:Value}{u':Mem}(e:lm cx u ts args=some (v,u')):Nice u u':=by
 unfold lm at e;split at e
 .split at e
  .split at e
   .cases e;exact Nice.refl hw
   .cases e;exact Nice.refl hw
   .split at e
    .split at e
     .split at e
      .rename_i hst;cases e;exact oJ hw hst
      .cases e
     .cases e
    .cases e
  .cases e
 .cases e
theorem E5(hw:Wf u){b:Builtin}{ts:List TypeId}{args:List Value}{v:Value}{u':Mem}(e:ge cx u b ts args=some (v,u')):Nice u u':=by
 unfold ge at e
 (try dsimp only at e)
 cases b<;>(try dsimp only at e)
 case append=>exact yn hw e
 case copy=>exact Jo hw e
 case len=>
  split at e
  .cases e;exact Nice.refl hw
  .cases e
 case cap=>
  split at e
  .cases e;exact Nice.refl hw
  .cases e
 case max=>
  split at e
  .split at e
   .cases e;exact Nice.refl hw
   .cases e
  .cases e
 case min=>
  split at e
  .split at e
   .cases e;exact Nice.refl hw
   .cases e
  .cases e
 case delete=>
  split at e
  .split at e
   .rename_i hd;cases e;exact GT hw hd
   .cases e
  .cases e
 case clear=>exact HF hw e
 all_goals cases e
end
def GU(f:dB):Prop:=∀k a u r u',f k a u=some (r,u')->Wf u->Nice u u'
section
variable {u:Mem}
theorem Jp{f:dB}(hf:GU f)(hw:Wf u){tm:Tr Value}{sz:Nat}{c:Call}{v:Value}{u':Mem}(e:gq cx f ⟨tm,sz,u⟩ c=some (v,u')):Nice u u':=by
 unfold gq at e;split at e
 .cases e
 .split at e
  .exact E5 hw e
  .split at e
   .exact hf _ _ _ _ _ e hw
   .cases e
  .split at e
   .split at e
    .exact hf _ _ _ _ _ e hw
    .cases e
   .cases e
theorem tU{f:dB}(hf:GU f)(hw:Wf u){tm:Tr Value}{sz:Nat}{o:Oper}{v:Option Value}{u':Mem}(e:dh cx f ⟨tm,sz,u⟩ o=some (v,u')):Nice u u':=by
 unfold dh at e
 (try dsimp only at e)
 cases ho:o.op<;>simp only[ho]at e
 all_goals (try (cases e;done))
 case alloc t=>
  split at e
  .cases e;exact ik hw _ _ _
  .cases e
 case box t x=>
  split at e
  .cases e;exact ik hw _ _ _
  .cases e
 case buildSlice t n ps=>
  split at e
  .split at e
   .rename_i hx;cases e;exact AY hw hx
   .cases e
  .cases e
 case makeSlice t l c=>
  split at e
  .split at e
   .rename_i hx;cases e;exact Ce hw hx
   .cases e
  .cases e
 case makeMap t r=>
  cases r with
  | none=>cases e;exact Nice.new hw _
  | some r=>cases e
 case store t a x=>
  split at e
  .split at e
   .rename_i hx;cases e;exact HE hw hx
   .cases e
  .cases e
 case mapUpdate t x k y=>
  split at e
  .split at e
   .rename_i hx;cases e;exact uV hw hx
   .cases e
  .cases e
 case insert t x k y=>
  split at e
  .split at e
   .rename_i hx;cases e;exact uV hw hx
   .cases e
  .cases e
 case mapEntry t x k=>
  split at e
  .split at e
   .rename_i hx;cases e;exact Dg hw hx
   .cases e
  .cases e
 case entryStore t x s y=>
  split at e
  .split at e
   .rename_i hx;cases e;exact AZ hw hx
   .cases e
  .cases e
 case call c=>
  split at e
  .rename_i hx;cases e;exact Jp hf hw hx
  .cases e
 case pick c x y=>
  split at e
  .cases e;exact Nice.refl hw
  .cases e;exact Nice.refl hw
  .cases e
 case nilCheck x=>
  split at e
  .cases e;exact Nice.refl hw
  .cases e;exact Nice.refl hw
  .cases e;exact Nice.refl hw
  .cases e
 case makeInterface t x=>
  split at e
  .cases e
  .cases e;exact Nice.refl hw
  .cases e
 case binOp op t x y q=>
  split at e
  .split at e
   .split at e
    .cases e;exact Nice.refl hw
    .cases e
   .cases e
  .cases e
 all_goals (split at e)
 all_goals first
  | (cases e;done)
  | (cases e;exact Nice.refl hw)
  | (split at e<;>first|(cases e;done)|(cases e;exact Nice.refl hw))
theorem M5{f:dB}{tm:Tr Value}{sz:Nat}{o:Oper}{v:Option Value}{u':Mem}(hk:fD o.op≠2)(e:dh cx f ⟨tm,sz,u⟩ o=some (v,u')):u'=u:=by
 unfold dh at e
 (try dsimp only at e)
 cases ho:o.op<;>simp only[ho]at e hk
 all_goals (try (exact absurd rfl hk))
 all_goals (try (cases e;done))
 case call c=>
  split at e
  .rename_i x m1 hx;cases e;unfold gq at hx;split at hx
   .cases hx
   .split at hx
    .rename_i b hb;unfold ge at hx;obtain⟨cal,ca,ct⟩:=c;simp only at hb;subst hb
     (try dsimp only at hx)
     cases b<;>(try dsimp only at hx)<;>(try (exact absurd rfl hk))
     case len=>
      split at hx
      .cases hx;rfl
      .cases hx
     case cap=>
      split at hx
      .cases hx;rfl
      .cases hx
     case max=>
      split at hx
      .split at hx
       .cases hx;rfl
       .cases hx
      .cases hx
     case min=>
      split at hx
      .split at hx
       .cases hx;rfl
       .cases hx
      .cases hx
    .rename_i g hb;obtain⟨cal,ca,ct⟩:=c;simp only at hb;subst hb;exact absurd rfl hk
    .rename_i g n hb;obtain⟨cal,ca,ct⟩:=c;simp only at hb;subst hb;exact absurd rfl hk
  .cases e
 case pick c x y=>
  split at e
  .cases e;rfl
  .cases e;rfl
  .cases e
 case nilCheck x=>
  split at e
  .cases e;rfl
  .cases e;rfl
  .cases e;rfl
  .cases e
 case makeInterface t x=>
  split at e
  .cases e
  .cases e;rfl
  .cases e
 case binOp op t x y q=>
  split at e
  .split at e
   .split at e
    .cases e;rfl
    .cases e
   .cases e
  .cases e
 all_goals (split at e)
 all_goals first
  | (cases e;done)
  | (cases e;rfl)
  | (split at e<;>first|(cases e;done)|(cases e;rfl))
theorem Cf{st st':St}{dst:Option Tmp}{v:Option Value}{m:Mem}(e:gu st dst v m=some st'):st'.m=m/\st'.sz=st.sz:=by
 unfold gu at e;split at e
 .cases e;exact⟨rfl,rfl⟩
 .split at e
  .split at e
   .cases e;exact⟨rfl,rfl⟩
   .cases e;exact⟨rfl,rfl⟩
  .cases e
theorem vz{f:dB}(hf:GU f){ops:List Oper}:∀{rest:List Oper} {st st':St},Wf st.m->gD cx f ops rest st=some st'->Nice st.m st'.m
 | [],st,st',hw,e=>by unfold gD at e;cases e;exact Nice.refl hw
 | o::r,st,st',hw,e=>by
  unfold gD at e;split at e
  .split at e
   .rename_i v m1 hop;have k:=tU hf hw hop;split at e
    .rename_i st1 hp;obtain⟨p1,p2⟩:=Cf hp;exact k.trans (by have:=vz hf (by rw[p1];exact k.wf) e;rw[p1]at this;exact this)
    .cases e
   .cases e
  .split at e
   .rename_i st1 hp;obtain⟨p1,p2⟩:=Cf hp;have:=vz hf (by rw[p1];exact hw) e;rw[p1]at this;exact this
   .cases e
  .cases e
structure DrWf (base top i:Nat) (d:Dr):Prop where
 ids:∀e∈d.made,e.2.1<base+i
 hist:∀h∈d.hist,Wf h.2.2.1/\top<=h.2.2.1.nx
 le:base+i<=top
theorem ku{p:Nat->Bool}:∀{made:List (Nat×Nat×AObj)} {u:Mem},Wf u->(∀e∈made,e.2.1<u.nx)->Wf (addMade p made u)/\(addMade p made u).nx=u.nx/\(addMade p made u).fl=u.fl
 | [],u,hw,_=>⟨hw,rfl,rfl⟩
 | (i,id,o)::r,u,hw,hid=>by
  obtain⟨h1,h2,h3⟩:=ku (p:=p) (made:=r) hw (fun e he=>hid e (gQ5 _ he));unfold addMade;split
  .exact⟨h1.addO (by rw[h2];exact hid _ (gQ9 ..)),h2,h3⟩
  .exact⟨h1,h2,h3⟩
theorem HG{f:dB}(hf:GU f){ops:List Oper}{o:Oper}{r:List Oper}{s:Nat}{q:List Nat}{i base top:Nat}{d d1:Dr}{st:St}{v:Option Value}{u1:Mem}
  (hw:Wf st.m) (ht:top<=st.m.nx) (hd:DrWf base top i d) (hlt:base+i<top) (e:fE cx f ops o r s q i base d st=some (v,u1,d1)):Nice st.m u1/\DrWf base top (i+1) d1:=by
 have hids:∀e∈d.made,e.2.1<st.m.nx:=fun e he=>by have:=hd.ids e he;omega
 unfold fE at e;split at e
 .split at e
  .unfold lL at e;split at e
   .split at e
    .cases e;exact⟨Nice.refl hw,fun e he=>by
      rcases List.mem_cons.1 he with rfl|he
      ·show base+i<_;omega
      ·have:=hd.ids e he;omega,hd.hist,by omega⟩
    .cases e
   .cases e
  .unfold gF at e;obtain⟨a1,a2,a3⟩:=ku (p:=dQ s d.took) hw hids;have hh:∀h∈((i,true,st.m,d.took)::d.hist),Wf h.2.2.1/\top<=h.2.2.1.nx:=fun h he=>by
    rcases List.mem_cons.1 he with rfl|he
    .exact⟨hw,ht⟩
    .exact hd.hist h he
   split at e
   .cases e
   .split at e
    .split at e
     .split at e
      .split at e
       .rename_i x mm hop;cases e;have k:=tU hf a1 hop;refine⟨⟨k.wf,k.fl.trans a3,by have:=k.nx;rw[a2]at this;exact this⟩,fun e he=>by have:=hd.ids e he;omega,?_,by omega⟩;intro h he;rcases List.mem_cons.1 he with rfl|he
        .exact⟨hw,ht⟩
        .exact hd.hist h he
       .cases e
      .cases e
     .split at e
      .rename_i x mm hop;cases e;have hfl:gh ops base st.m.nx s i d q r<=st.m.nx:=by
        unfold gh;split
        .omega
        .exact gQ4 _
       have k:=tU hf (u:={ addMade (dQ s d.took) d.made st.m with fl:=gh ops base st.m.nx s i d q r }) ⟨by show gh _ _ _ _ _ _ _ _<=(addMade _ _ _).nx;rw[a2];exact hfl,a1.2⟩ hop;have kn:st.m.nx<=mm.nx:=by have:=k.nx;rw[a2]at this;exact this
       refine⟨⟨⟨Nat.le_trans hw.1 kn,k.wf.2⟩,rfl,kn⟩,fun e he=>by have:=hd.ids e he;omega,?_,by omega⟩;exact hh
      .cases e
    .split at e
     .rename_i x mm hop;cases e;have k:=tU hf a1 hop;refine⟨⟨k.wf,k.fl.trans a3,by have:=k.nx;rw[a2]at this;exact this⟩,fun e he=>by have:=hd.ids e he;omega,?_,by omega⟩;intro h he;rcases List.mem_cons.1 he with rfl|he
      .exact⟨hw,ht⟩
      .exact hd.hist h he
     .cases e
 .unfold kJ at e;split at e
  .split at e
   .cases e;exact⟨Nice.refl hw,fun e he=>by have:=hd.ids e he;omega,hd.hist,by omega⟩
   .cases e
  .cases e
 .unfold kj at e;split at e
  .cases e;exact⟨Nice.refl hw,fun e he=>by have:=hd.ids e he;omega,hd.hist,by omega⟩
  .cases e
theorem tV{f:dB}(hf:GU f){ops:List Oper}{base top:Nat}:∀{rest:List Oper} {ss:List Nat} {i:Nat} {d:Dr} {st st':St},Wf st.m->top<=st.m.nx->DrWf base top i d->base+i+rest.length<=top->
  eJ cx f ops base rest ss i d st=some st'->Nice st.m st'.m
 | [],ss,i,d,st,st',hw,ht,hd,hl,e=>by
  unfold eJ at e;cases e;obtain⟨a1,a2,a3⟩:=ku (p:=fun k=>!hasBit d.took k) hw (fun e he=>by have:=hd.ids e he;omega);exact⟨a1,a3,Nat.le_of_eq a2.symm⟩
 | o::r,[],i,d,st,st',hw,ht,hd,hl,e=>by unfold eJ at e;cases e
 | o::r,s::q,i,d,st,st',hw,ht,hd,hl,e=>by
  have hl':base+i+(r.length+1)<=top:=hl;unfold eJ at e;split at e
  .split at e
   .rename_i v m1 d1 hop;obtain⟨k1,k2⟩:=HG hf hw ht hd (by omega) hop;split at e
    .rename_i st1 hp;obtain⟨p1,p2⟩:=Cf hp;have:=tV hf (by rw[p1];exact k1.wf) (by rw[p1];exact Nat.le_trans ht k1.nx) k2 (by omega) e;rw[p1]at this;exact k1.trans this
    .cases e
   .cases e
  .split at e
   .rename_i st1 hp;obtain⟨p1,p2⟩:=Cf hp;have:=tV hf (by rw[p1];exact hw) (by rw[p1];exact ht) (d:=d) (i:=i+1) ⟨fun e he=>by have:=hd.ids e he;omega,hd.hist,by omega⟩ (by omega) e;rw[p1]at this;exact this
   .cases e
  .cases e
end
def NY(f:Code->St->Option (Ex×St)):Prop:=∀c st ex st',f c st=some (ex,st')->Wf st.m->Nice st.m st'.m
def mG(cx:Cx):Prop:=∀k f,cx.ov.get k=some f->∀a u r u',f a u=some (r,u')->Wf u->Nice u u'
theorem vA(ho:mG cx){f:Code->St->Option (Ex×St)}(hf:NY f):GU (dU cx f):=by
 intro k a u r u' e hw;unfold dU at e;cases hov:cx.ov.get k with
 | some g=>rw[hov]at e;exact ho k g hov a u r u' e hw
 | none=>
  rw[hov]at e
  (try dsimp only at e)
  unfold kL at e;split at e
  .split at e
   .split at e
    .split at e
     .rename_i st hr;have k:=hf _ _ _ _ hr hw;unfold qY at e;split at e
      .cases e;exact k
      .cases e
     .rename_i st hr;have k:=hf _ _ _ _ hr hw;unfold qY at e;split at e
      .cases e;exact k
      .cases e
     .cases e
    .cases e
   .cases e
  .cases e
theorem Ld(ho:mG cx){f:Code->St->Option (Ex×St)}(hf:NY f):NY (step cx f):=by
 intro c st ex st' e hw;cases c with
 | skip=>simp only[step]at e;cases e;exact Nice.refl hw
 | label l=>simp only[step]at e;cases e;exact Nice.refl hw
 | exit id=>simp only[step]at e;cases e;exact Nice.refl hw
 | ret=>simp only[step]at e;cases e;exact Nice.refl hw
 | region id ops draw=>
  cases draw with
  | false=>
   simp only[step]at e;split at e
   .rename_i st1 h1;cases e;exact vz (vA ho hf) hw h1
   .cases e
  | true=>
   simp only[step]at e;split at e
   .split at e
    .rename_i st1 h1;cases e;have k:=tV (top:=st.m.nx+ops.toList.length) (vA ho hf) (st:={ st with m:={ st.m with nx:=st.m.nx+ops.toList.length } }) (hw.bump (n:=ops.toList.length)) (gQ4 _) ⟨(fun e he=>by cases he),(fun h he=>by cases he),Nat.le_add_right _ _⟩ (by omega) h1;exact⟨k.wf,k.fl,Nat.le_trans (Nat.le_add_right _ _) k.nx⟩
    .cases e
   .cases e
 | seq a b=>
  simp only[step]at e;split at e
  .rename_i st1 h1;have k:=hf _ _ _ _ h1 hw;exact k.trans (hf _ _ _ _ e k.wf)
  .exact hf _ _ _ _ e hw
 | cond o x y=>
  simp only[step]at e;split at e
  .exact hf _ _ _ _ e hw
  .exact hf _ _ _ _ e hw
  .cases e
 | block id x=>
  simp only[step]at e;split at e
  .rename_i h1;split at e
   .cases e;exact hf _ _ _ _ h1 hw
   .cases e;exact hf _ _ _ _ h1 hw
  .exact hf _ _ _ _ e hw
 | loop x=>
  simp only[step]at e;split at e
  .rename_i st1 h1;have k:=hf _ _ _ _ h1 hw;exact k.trans (hf _ _ _ _ e k.wf)
  .exact hf _ _ _ _ e hw
 | rangeFunc _ _ _ _=>simp[step]at e
 | goto _=>simp[step]at e
 | scope _=>simp[step]at e
 | refuse _=>simp[step]at e
theorem En(ho:mG cx):∀n,NY (eI cx n)
 | 0=>fun c st ex st' e=>by cases e
 | n+1=>Ld ho (En ho n)
theorem we(ho:mG cx)(n:Nat):GU (dU cx (eI cx n)):=vA ho (En ho n)
end Go.AX
namespace Go.AX
noncomputable section
structure VS where
 tm:Tr Value
 lp:Tr (Nat×Nat)
 loc:Tr (Nat×List Value)
 cnt:Nat
 pend:Nat
def fmV(s:VS)(u:Mem):Mem:=match s.pend with
 | 0=>u
 | n+1=>bump u (n+1)
variable (cx:Cx)
def ah(k:FuncId)(args:List Value)(u:Mem)(Q:Value->Mem->Prop):Prop:=
 Wf u->∃n r m',dU cx (eI cx n) k args u=some (r,m')/\∃E u',Bes E u' m'/\Wf u'/\(∀b o,E b=some o->u.nx<=b)/\Q r u'
def ox(sz:Nat)(s:VS)(dst:Option Tmp)(v:Option Value)(K:VS->Prop):Prop:=match dst with
 | none=>K s
 | some d=>match Nat.blt d sz with
  | true=>match v with
   | some x=>K { s with tm:=s.tm.put d x,lp:=s.lp.del d }
   | none=>K { s with tm:=s.tm.del d,lp:=s.lp.del d }
  | false=>False
def AR(sz:Nat)(s:VS)(dst:Option Tmp)(id off:Nat)(K:VS->Prop):Prop:=match dst with
 | none=>K s
 | some d=>match Nat.blt d sz with
  | true=>K { s with tm:=s.tm.del d,lp:=s.lp.put d (id,off) }
  | false=>False
def Ak(s:VS):Operand->Option (Nat×Nat)
 | .tmp t=>s.lp.get t
 | _=>none
def M0(LS:List Nat):Option Tmp->Bool
 | none=>false
 | some d=>Dc LS d
def pH(s:VS)(id:Nat):Option (List Value):=match s.loc.get id with
 | some (_,c)=>some c
 | none=>none
def K8(t:TypeId)(c:List Value)(off:Nat)(K:Value->Prop):Prop:=match cx.un.get t,dO cx t with
 | some d,some n=>match mX d with
  | true=>match n with
   | 0=>False
   | n+1=>match Nat.ble (off+(n+1)) c.length with
    | true=>K (.agg ((c.drop off).take (n+1)).toArray)
    | false=>False
  | false=>eW c[off]? K
 | _,_=>False
def NX(t:TypeId)(c:List Value)(off:Nat)(v:Value)(K:List Value->Prop):Prop:=match dO cx t with
 | some n=>match tP cx t with
  | false=>match Nat.beq n 1&&Nat.blt off c.length with
   | true=>GA v (K (splice c off [v]))
   | false=>False
  | true=>match v with
   | .agg cs=>match Nat.ble (off+cs.toList.length) c.length with
    | true=>KY cs.toList n (K (splice c off cs.toList))
    | false=>False
   | _=>False
 | none=>False
def jJ(u:Mem)(f:Value)(args:List Value)(K:Value->Mem->Prop):Prop:=match f with
 | .func (.func k) first captured=>ah cx k (first.toList++(args++captured.toList)) u K
 | _=>False
def M2(u:Mem)(x:Value)(name:String)(args:List Value)(K:Value->Mem->Prop):Prop:=
 ∃t v,x = .iface t v/\∃k r,vU cx t v name=some (k,r)/\ah cx k (r::args) u K
def GJ(tm:Tr Value)(u:Mem)(dst:Option Tmp)(ty:TypeId)(c:Call)(K:Option Value->Mem->Prop):Prop:=
 H8 cx tm c.args.toList fun args=>match c.callee with
  | .builtin b=>xi cx u b c.argTypes.toList args fun r u'=>K (some r) u'
  | .value f=>eW (fQ cx tm f) fun f=>jJ cx u f args fun r u'=>GF cx dst ty (fun r u'=>K (some r) u') r u'
  | .invoke x name=>eW (fQ cx tm x) fun x=>M2 cx u x name args fun r u'=>GF cx dst ty (fun r u'=>K (some r) u') r u'
def yU(tm:Tr Value)(u:Mem)(dst:Option Tmp)(ty:TypeId)(op:Op)(K:Option Value->Mem->Prop):Prop:=match op with
 | .call c=>GJ cx tm u dst ty c K
 | op=>PW cx tm u dst ty op K
def PZ(sz:Nat)(s:VS)(u:Mem)(dst:Option Tmp)(ty:TypeId)(op:Op)(K:VS->Mem->Prop):Prop:=match fD op with
 | 2=>yU cx s.tm (fmV s u) dst ty op fun v u'=>ox sz { s with pend:=0 } dst v fun s=>K s u'
 | _=>yU cx s.tm (fmV s u) dst ty op fun v _=>ox sz s dst v fun s=>K s u
def newL(s:VS)(l:List Value):VS:={ s with loc:=s.loc.put s.cnt (s.cnt,l),cnt:=s.cnt+1,pend:=s.pend+1 }
def setL(s:VS)(id:Nat)(l:List Value):VS:={ s with loc:=s.loc.put id (s.cnt,l),cnt:=s.cnt+1 }
def B4(t:TypeId)(f:Nat)(K:Nat->Prop):Prop:=match cx.un.get t with
 | some (.struct fs)=>match fs.toList[f]? with
  | some fd=>match dO cx fd.type with
   | some (_+1)=>K fd.offset
   | _=>False
  | none=>False
 | _=>False
inductive LKind where
 | no
 | make (z:Option Value)
 | load (t:TypeId) (id off:Nat)
 | store (t:TypeId) (id off:Nat) (x:Operand)
 | field (t:TypeId) (id off f:Nat)
 | same (id off:Nat)
def kZ(LS:List Nat)(s:VS)(dst:Option Tmp):Op->LKind
 | .alloc e=>match M0 LS dst with
  | true=>.make (fB cx e)
  | false=>.no
 | .box e x=>match M0 LS dst with
  | true=>match fQ cx s.tm x with
   | some v=>match tP cx e,v with
    | true,.agg c=>.make (some (.agg c))
    | true,_=>.make none
    | false,.agg _=>.make none
    | false,.tuple _=>.make none
    | false,v=>.make (some v)
   | none=>.make none
  | false=>.no
 | .load t a=>match Ak s a with
  | some (id,off)=>.load t id off
  | none=>.no
 | .store t a x=>match Ak s a with
  | some (id,off)=>.store t id off x
  | none=>.no
 | .fieldAddr t x f=>match Ak s x with
  | some (id,off)=>.field t id off f
  | none=>.no
 | .nilCheck x | .move x | .assign x=>match Ak s x with
  | some (id,off)=>.same id off
  | none=>.no
 | _=>.no
def M3(LS:List Nat)(sz:Nat)(s:VS)(u:Mem)(dst:Option Tmp)(ty:TypeId)(op:Op)(K:VS->Mem->Prop):Prop:=match kZ cx LS s dst op with
 | .no=>PZ cx sz s u dst ty op K
 | .make z=>eW z fun z=>AR sz (newL s (bQ z)) dst s.cnt 0 fun s=>K s u
 | .load t id off=>sI (pH s id) fun c=>K8 cx t c off fun v=>ox sz s dst (some v) fun s=>K s u
 | .store t id off x=>eW (fQ cx s.tm x) fun v=>sI (pH s id) fun c=>NX cx t c off v fun c=>ox sz (setL s id c) dst none fun s=>K s u
 | .field t id off f=>B4 cx t f fun o=>AR sz s dst id (off+o) fun s=>K s u
 | .same id off=>AR sz s dst id off fun s=>K s u
def B5(LS:List Nat)(sz:Nat)(ops:List Oper):List Oper->VS->Mem->(VS->Mem->Prop)->Prop
 | [],s,u,K=>K s u
 | o::r,s,u,K=>B0 ops s.tm o fun tm go=>match go with
  | true=>M3 cx LS sz { s with tm:=tm } u o.dst o.type o.op fun s u=>B5 LS sz ops r s u K
  | false=>ox sz { s with tm:=tm } o.dst eD fun s=>B5 LS sz ops r s u K
def Jk(p:Nat->Bool)(s:VS)(u:Mem)(made:List (Nat×Nat×AObj))(K:VS->Mem->Prop):Prop:=match made with
 | []=>K s u
 | _::_=>K { s with pend:=0 } (addMade p made (fmV s u))
def isMap(M:Mem)(r:Nat):Prop:=∃es cl,M.hp.get r=some (.map es cl)
def P0(b o:Nat)(t:TypeId)(bw:Nat)(rng:Option (Nat×Nat))(base:Nat):Prop:=b≠bw∨(bw<base/\vR cx rng t o=true)
def tS(s:VS)(bw:Nat)(rng:Option (Nat×Nat))(base rd sm:Nat):List Oper->Nat->Prop->Prop
 | [],_,K=>K
 | x::r,j,K=>match hasBit rd j&&!hasBit sm j with
  | false=>tS s bw rng base rd sm r (j+1) K
  | true=>match wB x.op with
   | some a=>match Ak s a with
    | some (id,_)=>match pH s id with
     | some _=>tS s bw rng base rd sm r (j+1) K
     | none=>False
    | none=>match fQ cx s.tm a with
     | some (.pointer (some ad))=>P0 cx ad.block ad.off (yi x.op) bw rng base/\tS s bw rng base rd sm r (j+1) K
     | _=>False
   | none=>False
def GK(s:VS)(M:Mem)(o:Op)(ops:List Oper)(base rd sm:Nat)(K:Prop):Prop:=match o with
 | .store t x _=>match fQ cx s.tm x with
  | some (.pointer (some ad))=>okW M ad.block 0 0/\tS cx s ad.block (match dO cx t with
   | some n=>some (ad.off,n)
   | none=>none) base rd sm ops 0 K
  | _=>False
 | .mapUpdate _ x _ _=>match fQ cx s.tm x with
  | some (.map (some r))=>isMap M r/\tS cx s r none base rd sm ops 0 K
  | _=>False
 | _=>False
def AS(LS:List Nat)(sz:Nat)(ops:List Oper)(s:VS)(u:Mem)(o:Oper)(r:List Oper)(sm:Nat)(q:List Nat)(i base:Nat)(d:Dr)(K:VS->Mem->Dr->Prop):Prop:=
 match fD o.op with
 | 2=>match gC o.op with
  | true=>match M0 LS o.dst with
   | true=>False
   | false=>sJ cx s.tm o.op (base+i) fun v ob=>ox sz s o.dst (some v) fun s=>K s u { d with made:=(i,base+i,ob)::d.made }
  | false=>match waitsFor sm d.hist with
   | false=>False
   | true=>match !Nat.beq (Nat.land d.rd sm) d.rd || lF i q r with
    | true=>match yg ops o.op r sm q i d.rd with
     | true=>match kZ cx LS s o.dst o.op with
      | .no=>GK cx s (addMade (dQ sm d.took) d.made (fmV s u)) o.op ops base d.rd sm (yU cx s.tm (addMade (dQ sm d.took) d.made (fmV s u)) o.dst o.type o.op fun v m'=>ox sz { s with pend:=0 } o.dst v fun s'=>K s' m' { d with took:=Nat.lor d.took sm,hist:=(i,false,fmV s u,d.took)::d.hist })
      | _=>False
     | false=>match kZ cx LS s o.dst o.op with
      | .no=>yU cx s.tm (setFl (addMade (dQ sm d.took) d.made (fmV s u)) (gh ops base (fmV s u).nx sm i d q r)) o.dst o.type o.op fun v m'=>ox sz { s with pend:=0 } o.dst v fun s'=>K s' (setFl m' (fmV s u).fl) { d with took:=Nat.lor d.took sm,hist:=(i,true,fmV s u,d.took)::d.hist }
      | _=>False
    | false=>match kZ cx LS s o.dst o.op with
     | .no=>yU cx s.tm (addMade (dQ sm d.took) d.made (fmV s u)) o.dst o.type o.op fun v m'=>ox sz { s with pend:=0 } o.dst v fun s'=>K s' m' { d with took:=Nat.lor d.took sm,hist:=(i,false,fmV s u,d.took)::d.hist }
     | .store t id off x=>eW (fQ cx s.tm x) fun v=>sI (pH s id) fun c=>NX cx t c off v fun c=>Jk (dQ sm d.took) s u d.made fun s' u'=>ox sz (setL s' id c) o.dst none fun s'=>K s' u' { d with took:=Nat.lor d.took sm,hist:=(i,false,fmV s u,d.took)::d.hist }
     | _=>False
 | 1=>match kY sm (fmV s u) d.took d.hist with
  | some (m0,tk)=>match kZ cx LS s o.dst o.op with
   | .no=>yU cx s.tm (addMade (dQ sm tk) d.made m0) o.dst o.type o.op fun v _=>ox sz s o.dst v fun s=>K s u { d with rd:=Nat.lor d.rd (bit i) }
   | .load t id off=>sI (pH s id) fun c=>K8 cx t c off fun v=>ox sz s o.dst (some v) fun s=>K s u { d with rd:=Nat.lor d.rd (bit i) }
   | _=>False
  | none=>False
 | _=>match kZ cx LS s o.dst o.op with
  | .no=>yU cx s.tm ⟨.nil,0,0⟩ o.dst o.type o.op fun v _=>ox sz s o.dst v fun s=>K s u d
  | .field t id off f=>B4 cx t f fun o'=>AR sz s o.dst id (off+o') fun s=>K s u d
  | .same id off=>AR sz s o.dst id off fun s=>K s u d
  | _=>False
def tT(LS:List Nat)(sz:Nat)(ops:List Oper)(base:Nat):List Oper->List Nat->Nat->Dr->VS->Mem->(VS->Mem->Prop)->Prop
 | o::r,sm::q,i,d,s,u,K=>B0 ops s.tm o fun tm go=>match go with
  | true=>AS cx LS sz ops { s with tm:=tm } u o r sm q i base d fun s u d=>tT LS sz ops base r q (i+1) d s u K
  | false=>ox sz { s with tm:=tm } o.dst eD fun s=>tT LS sz ops base r q (i+1) d s u K
 | [],_,_,d,s,u,K=>match d.made with
  | []=>K s u
  | _::_=>cY (addMade (fun k=>!hasBit d.took k) d.made (fmV s u)) (K { s with pend:=0 })
 | _::_,[],_,_,_,_,_=>False
def AT(LS:List Nat)(sz:Nat)(ops:List Oper)(draw:Bool)(s:VS)(u:Mem)(K:VS->Mem->Prop):Prop:=match draw with
 | false=>B5 cx LS sz ops ops s u K
 | true=>match gO ops ops (eN ops []) 0 with
  | true=>tT cx LS sz ops (fmV s u).nx ops (eN ops []) 0 ⟨0,[],[],0⟩ { s with pend:=s.pend+ops.length } u K
  | false=>False
structure JA where
 keep:List Nat
 live:Live
 lks:List (Nat×Nat×Nat)
 fix:List Nat
 cts:List (Nat×List Nat)
 cnt:Nat
inductive AD where
 | skip
 | label (l:Nat)
 | region (id:Nat) (ops:Array Oper) (draw:Bool)
 | seq (a b:AD)
 | seqJ (a:AD) (j:JA) (b:AD)
 | cond (c:Operand) (x y:AD)
 | block (id:Nat) (c:AD)
 | loop (j:JA) (c:AD)
 | exit (id:Nat)
 | ret
 | other (c:Code)
def AD.code:AD->Code
 | .skip=>.skip
 | .label l=>.label l
 | .region id ops draw=>.region id ops draw
 | .seq a b=>.seq a.code b.code
 | .seqJ a _ b=>.seq a.code b.code
 | .cond c x y=>.cond c x.code y.code
 | .block id c=>.block id c.code
 | .loop _ c=>.loop c.code
 | .exit id=>.exit id
 | .ret=>.ret
 | .other c=>c
abbrev GL:=List (Option JA)
def B6:GL->Option JA×GL
 | []=>(none,[])
 | x::r=>(x,r)
def AD.of:Code->GL->AD×GL
 | .skip,n=>(.skip,n)
 | .label l,n=>(.label l,n)
 | .region id ops draw,n=>(.region id ops draw,n)
 | .seq a b,n=>match B6 n with
  | (none,n)=>match AD.of a n with
   | (x,n)=>match AD.of b n with
    | (y,n)=>(.seq x y,n)
  | (some j,n)=>match AD.of a n with
   | (x,n)=>match AD.of b n with
    | (y,n)=>(.seqJ x j y,n)
 | .cond c a b,n=>match AD.of a n with
  | (x,n)=>match AD.of b n with
   | (y,n)=>(.cond c x y,n)
 | .block id c,n=>match AD.of c n with
  | (x,n)=>(.block id x,n)
 | .loop c,n=>match B6 n with
  | (none,n)=>(.other (.loop c),n)
  | (some j,n)=>match AD.of c n with
   | (x,n)=>(.loop j x,n)
 | .exit id,n=>(.exit id,n)
 | .ret,n=>(.ret,n)
 | c,n=>(.other c,n)
def rm(tm:Tr Value):List Nat->List Value->Tr Value
 | i::r,v::q=>(rm tm r q).put i v
 | _,_=>tm
def lr(loc:Tr (Nat×List Value)):List (Nat×List Nat)->Tr Value->Option (Tr Value)
 | [],tm=>some tm
 | (id,sl)::r,tm=>match loc.get id with
  | some (_,c)=>match Nat.beq c.length sl.length with
   | true=>match lr loc r tm with
    | some tm=>some (rm tm sl c)
    | none=>none
   | false=>none
  | none=>none
def B7(tm:Tr Value):List Nat->Option (List Value)
 | []=>some []
 | i::r=>match tm.get i,B7 tm r with
  | some v,some l=>some (v::l)
  | _,_=>none
def yV(tm:Tr Value)(v:Nat):List (Nat×List Nat)->Tr (Nat×List Value)->Option (Tr (Nat×List Value))
 | [],loc=>some loc
 | (id,sl)::r,loc=>match B7 tm sl,yV tm v r loc with
  | some c,some loc=>some (loc.put id (v,c))
  | _,_=>none
def Fy(tm:Tr Value):List Nat->Tr Value
 | []=>tm
 | i::r=>(Fy tm r).del i
def B8:List (Nat×List Nat)->Tr Value->Tr Value
 | [],tm=>tm
 | (_,sl)::r,tm=>Fy (B8 r tm) sl
def jQ:List (Nat×List Nat)->List Nat
 | []=>[]
 | (_,sl)::r=>sl++jQ r
def GM:List (Nat×Nat×Nat)->Tr (Nat×Nat)
 | []=>.nil
 | (t,id,off)::r=>(GM r).put t (id,off)
def Dd(loc:Tr (Nat×List Value)):List Nat->Tr (Nat×List Value)
 | []=>.nil
 | id::r=>match loc.get id with
  | some x=>(Dd loc r).put id x
  | none=>Dd loc r
def B9:List Nat->Bool
 | []=>true
 | x::r=>match Dc r x with
  | true=>false
  | false=>B9 r
def yW(j:JA)(s:VS):Bool:=
 Nat.ble s.cnt j.cnt&&(j.lks.all (fun x=>Nat.ble x.2.1 j.cnt)&&(j.fix.all (fun x=>Nat.ble x j.cnt)&&(j.cts.all (fun x=>Nat.ble x.1 j.cnt)&&(rK j.keep (jQ j.cts)&&B9 (jQ j.cts)))))
def zF(s:VS):List (Nat×Nat×Nat)->Bool
 | []=>true
 | (t,id,off)::r=>match s.lp.get t with
  | some (id',off')=>match Nat.beq id' id&&Nat.beq off' off with
   | true=>zF s r
   | false=>false
  | none=>false
def zG(s0 s:VS):List Nat->Bool
 | []=>true
 | id::r=>match s0.loc.get id,s.loc.get id with
  | some (v,_),some (v',_)=>match Nat.beq v v' with
   | true=>zG s0 s r
   | false=>false
  | _,_=>false
def sL(j:JA)(s0:VS)(tm:Tr Value):Option VS:=match yV tm j.cnt j.cts (Dd s0.loc j.fix)with
 | some loc=>some { tm:=B8 j.cts tm,lp:=GM j.lks,loc:=loc,cnt:=j.cnt+1,pend:=0 }
 | none=>none
def M4(j:JA)(s0 s:VS)(J:tQ j.live (Mem->Prop))(u:Mem):Prop:=match zF s j.lks&&zG s0 s j.fix with
 | true=>match lr s.loc j.cts s.tm with
  | some tm=>eP j.live J tm (fun _=>False) (fmV s u)
  | none=>False
 | false=>False
def De(j:JA)(s0 s:VS)(J:tQ j.live (Mem->Nat->Prop))(u:Mem)(n:Nat):Prop:=match zF s j.lks&&zG s0 s j.fix with
 | true=>match lr s.loc j.cts s.tm with
  | some tm=>eP j.live J tm (fun _ _=>False) (fmV s u) n
  | none=>False
 | false=>False
def mH(LS:List Nat)(sz:Nat):AD->VS->Mem->(Ex->VS->Mem->Prop)->Prop
 | .skip,s,u,Q=>Q .normal s u
 | .label _,s,u,Q=>Q .normal s u
 | .region _ ops draw,s,u,Q=>AT cx LS sz ops.toList draw s u fun s u=>Q .normal s u
 | .seq a b,s,u,Q=>mH LS sz a s u fun
  | .normal,s,u=>mH LS sz b s u Q
  | .exit i,s,u=>Q (.exit i) s u
  | .ret,s,u=>Q .ret s u
 | .seqJ a j b,s,u,Q=>match rK j.keep (iy a.code)&&yW j s with
  | true=>dJ (qy j.live (mQ s.tm j.keep) fun tm u=>match sL j s tm with
    | some s=>mH LS sz b s u Q
    | none=>False) fun J=>mH LS sz a s u fun
   | .normal,s',u=>M4 j s s' J u
   | .exit i,s,u=>Q (.exit i) s u
   | .ret,s,u=>Q .ret s u
  | false=>False
 | .cond c x y,s,u,Q=>Ji cx s.tm c fun tm b=>match b with
  | true=>mH LS sz x { s with tm:=tm } u Q
  | false=>mH LS sz y { s with tm:=tm } u Q
 | .block id c,s,u,Q=>mH LS sz c s u fun
  | .normal,s,u=>Q .normal s u
  | .exit i,s,u=>match Nat.beq i id with
   | true=>Q .normal s u
   | false=>Q (.exit i) s u
  | .ret,s,u=>Q .ret s u
 | .loop j c,s,u,Q=>match rK j.keep (iy c.code)&&yW j s with
  | true=>∃Inv:tQ j.live (Mem->Nat->Prop),(∃n,De j s s Inv u n)/\
   Ah j.live Inv (mQ s.tm j.keep) fun I tm=>∀u n,I u n->match sL j s tm with
    | some s1=>mH LS sz c s1 u fun
     | .normal,s',u=>∃n',n'<n/\De j s s' Inv u n'
     | .exit i,s,u=>Q (.exit i) s u
     | .ret,s,u=>Q .ret s u
    | none=>False
  | false=>False
 | .exit id,s,u,Q=>Q (.exit id) s u
 | .ret,s,u,Q=>Q .ret s u
 | .other _,_,_,_=>False
def kr(s:VS)(u:Mem):List ResultVar->(List Value->Prop)->Prop
 | [],K=>K []
 | .tmp t::r,K=>eW (s.tm.get t) fun v=>kr s u r fun vs=>K (v::vs)
 | .cell a t::r,K=>match s.lp.get a with
  | some (id,off)=>sI (pH s id) fun c=>K8 cx t c off fun v=>kr s u r fun vs=>K (v::vs)
  | none=>match s.tm.get a with
   | some (.pointer p)=>cZ p fun b o=>Fx cx (fmV s u) t b o fun v=>kr s u r fun vs=>K (v::vs)
   | _=>False
def iz(fn:Func)(LS:List Nat)(ann:GL)(args:List Value)(u:Mem)(Q:Value->Mem->Prop):Prop:=match fn.body with
 | none=>False
 | some c=>match Nat.ble args.length fn.ntmps with
  | false=>False
  | true=>mH cx LS fn.ntmps (AD.of c ann).1 ⟨ec .nil args 0,.nil,.nil,0,0⟩ u fun
   | .normal,s,u=>kr cx s u fn.results.toList fun l=>Q (oneOf l) (fmV s u)
   | .ret,s,u=>kr cx s u fn.results.toList fun l=>Q (oneOf l) (fmV s u)
   | .exit _,_,_=>False
end
end Go.AX
namespace Go.AX
variable {cx:Cx}
def RowE(E:Nat->Option AObj)(fl b:Nat)(c:List Value):Prop:=fl<=b/\∃tr e,E b=some (.cells tr c.length e false)/\∀i,i<c.length->tr.get i=c[i]?
structure Rel (n0:Nat) (β : Nat->Nat) (E:Nat->Option AObj) (s:VS) (u:Mem) (tm1:Tr Value) (m:Mem):Prop where
 bes:Bes E (fmV s u) m
 wf:Wf (fmV s u)
 lo:∀b o,E b=some o->n0<=b
 nx:n0<=(fmV s u).nx
 tm:Sub s.tm tm1
 lp:∀t id off,s.lp.get t=some (id,off)->id<s.cnt/\tm1.get t=some (.pointer (some ⟨β id,off,none⟩))
 loc:∀id v c,s.loc.get id=some (v,c)->id<s.cnt/\v<s.cnt/\RowE E m.fl (β id) c
 inj:∀id id' x y,s.loc.get id=some x->s.loc.get id'=some y->β id = β id'->id=id'
structure Lat (s s':VS) (β β':Nat->Nat):Prop where
 cnt:s.cnt<=s'.cnt
 ver:∀id v c,s'.loc.get id=some (v,c)->v<s.cnt->s.loc.get id=some (v,c)
 beta:∀id,id<s.cnt->β' id = β id
theorem Lat.refl(s:VS)(β : Nat->Nat):Lat s s β β:=⟨gQ4 _,fun _ _ _ h _=>h,fun _ _=>rfl⟩
theorem Lat.trans{s s1 s2:VS}{β β1 β2:Nat->Nat}(h:Lat s s1 β β1)(k:Lat s1 s2 β1 β2):Lat s s2 β β2:=
 ⟨Nat.le_trans h.cnt k.cnt,fun id v c e hv=>h.ver id v c (k.ver id v c e (Nat.lt_of_lt_of_le hv h.cnt)) hv,fun id hi=>(k.beta id (Nat.lt_of_lt_of_le hi h.cnt)).trans (h.beta id hi)⟩
section
variable {n0:Nat} {β : Nat->Nat} {E:Nat->Option AObj} {s:VS} {u:Mem} {tm1:Tr Value} {m:Mem} {sz:Nat}
theorem Rel.withTm(h:Rel n0 β E s u tm1 m){tm:Tr Value}(ht:Sub tm tm1):Rel n0 β E { s with tm:=tm } u tm1 m:=
 ⟨h.bes,h.wf,h.lo,h.nx,ht,h.lp,h.loc,h.inj⟩
theorem iX{dst:Option Tmp}{v:Option Value}{K:VS->Prop}(h:ox sz s dst v K)(hr:Rel n0 β E s u tm1 m)(m0:Mem) :
  ∃tm2,gu ⟨tm1,sz,m0⟩ dst v m=some ⟨tm2,sz,m⟩/\∃s',Rel n0 β E s' u tm2 m/\Lat s s' β β/\s'.loc=s.loc/\s'.cnt=s.cnt/\s'.pend=s.pend/\K s':=by
 unfold ox at h;split at h
 .exact⟨tm1,rfl,s,hr,Lat.refl _ _,rfl,rfl,rfl,h⟩
 .rename_i d;split at h
  .rename_i hd;split at h
   .rename_i x;refine⟨tm1.put d x,by simp only[gu,hd],{ s with tm:=s.tm.put d x,lp:=s.lp.del d },⟨hr.bes,hr.wf,hr.lo,hr.nx,hr.tm.put d x,fun t id off e=>?_,hr.loc,hr.inj⟩,⟨gQ4 _,fun _ _ _ h _=>h,fun _ _=>rfl⟩,rfl,rfl,rfl,h⟩;rw[Tr.get_del]at e;split at e
    .cases e
    .rename_i hne;obtain⟨h1,h2⟩:=hr.lp t id off e;exact⟨h1,by rw[Tr.get_put,if_neg hne];exact h2⟩
   .refine⟨tm1.del d,by simp only[gu,hd],{ s with tm:=s.tm.del d,lp:=s.lp.del d },⟨hr.bes,hr.wf,hr.lo,hr.nx,hr.tm.del d,fun t id off e=>?_,hr.loc,hr.inj⟩,⟨gQ4 _,fun _ _ _ h _=>h,fun _ _=>rfl⟩,rfl,rfl,rfl,h⟩;rw[Tr.get_del]at e;split at e
    .cases e
    .rename_i hne;obtain⟨h1,h2⟩:=hr.lp t id off e;exact⟨h1,by rw[Tr.get_del,if_neg hne];exact h2⟩
  .exact h.elim
theorem wd{dst:Option Tmp}{id off:Nat}{K:VS->Prop}(h:AR sz s dst id off K)(hid:id<s.cnt)(hr:Rel n0 β E s u tm1 m)(m0:Mem) :
  ∃tm2,gu ⟨tm1,sz,m0⟩ dst (some (.pointer (some ⟨β id,off,none⟩))) m=some ⟨tm2,sz,m⟩/\∃s',Rel n0 β E s' u tm2 m/\Lat s s' β β/\s'.loc=s.loc/\s'.cnt=s.cnt/\s'.pend=s.pend/\K s':=by
 unfold AR at h;split at h
 .exact⟨tm1,rfl,s,hr,Lat.refl _ _,rfl,rfl,rfl,h⟩
 .rename_i d;split at h
  .rename_i hd;refine⟨tm1.put d (.pointer (some ⟨β id,off,none⟩)),by simp only[gu,hd],{ s with tm:=s.tm.del d,lp:=s.lp.put d (id,off) },⟨hr.bes,hr.wf,hr.lo,hr.nx,fun i v e=>?_,fun t id' off' e=>?_,hr.loc,hr.inj⟩,⟨gQ4 _,fun _ _ _ h _=>h,fun _ _=>rfl⟩,rfl,rfl,rfl,h⟩
   .rw[Tr.get_del]at e;split at e
    .cases e
    .rename_i hne;rw[Tr.get_put,if_neg hne];exact hr.tm i v e
   .rw[Tr.get_put]at e;rw[Tr.get_put];split at e
    .rename_i he;cases e;exact⟨hid,by rw[if_pos he]⟩
    .rename_i hne;obtain⟨h1,h2⟩:=hr.lp t id' off' e;exact⟨h1,by rw[if_neg hne];exact h2⟩
  .exact h.elim
theorem RowE.row{fl b:Nat}{c:List Value}(h:RowE E fl b c){M:Mem}(hb:Bes E M m):∃e,Row m b c e false:=by
 obtain⟨_,tr,e,h1,h2⟩:=h;exact⟨e,tr,by rw[hb.get,h1],h2⟩
theorem RowE.mono{E':Nat->Option AObj}{fl b:Nat}{c:List Value}(h:RowE E fl b c)(he:E' b=E b):RowE E' fl b c:=by
 obtain⟨h0,tr,e,h1,h2⟩:=h;exact⟨h0,tr,e,he.trans h1,h2⟩
theorem qh(hr:Rel n0 β E s u tm1 m){x:Operand}{id off:Nat}(h:Ak s x=some (id,off))(M:Mem):id<s.cnt/\cU cx ⟨tm1,sz,M⟩ x=some (.pointer (some ⟨β id,off,none⟩)):=by
 cases x with
 | tmp t=>exact hr.lp t id off h
 | _=>cases h
theorem nX{id:Nat}{c:List Value}(h:pH s id=some c):∃v,s.loc.get id=some (v,c):=by
 unfold pH at h;split at h
 .rename_i v c' hv;cases h;exact⟨v,hv⟩
 .cases h
theorem GN{t:TypeId}{c:List Value}{off b:Nat}{e:TypeId}{x:Bool}{K:Value->Prop}(h:K8 cx t c off K)(hr:Row m b c e x):∃v,loadT cx m t ⟨b,off,none⟩=some v/\K v:=by
 unfold K8 at h;split at h
 .rename_i d n hd hn;split at h
  .rename_i ha;split at h
   .exact h.elim
   .rename_i k;split at h
    .rename_i hb;refine⟨_,?_,h⟩;have:=hr.rowAt (o:=off) (k:=k+1) (gQ6 hb);unfold loadT;simp only[hd,hn,ha,this]
    .exact h.elim
  .rename_i ha;obtain⟨v,h1,h2⟩:=dz h;refine⟨v,?_,h2⟩;have hlt:=(gQ1 h1).1;have:=hr.rowAt (o:=off) (k:=1) (by omega);have e1:(c.drop off).take 1=[v]:=by
    rw[List.drop_eq_getElem_cons hlt];simp only[List.take_succ_cons,List.take_zero];rw[(gQ1 h1).2]
   rw[e1]at this;unfold loadT;simp only[hd,hn,ha,this]
 .exact h.elim
theorem K9{t:TypeId}{c:List Value}{off b:Nat}{e:TypeId}{v:Value}{K:List Value->Prop}(h:NX cx t c off v K)(hr:Row m b c e false)(hf:m.fl<=b) :
  ∃l c',storeT cx m t ⟨b,off,none⟩ v=some (wr m b off l)/\Row (wr m b off l) b c' e false/\c'.length=c.length/\K c':=by
 unfold NX at h;split at h
 .rename_i n hn;split at h
  .split at h
   .rename_i hc;simp only[Bool.and_eq_true]at hc;have h1:=gR3 hc.1;have h2:off<c.length:=gQ6 hc.2;subst h1;obtain⟨⟨k1,k2⟩,k3⟩:=zD h;have hle:off+[v].length<=c.length:=by simp;omega
    refine⟨[v],_,?_,hr.wr hle,by rw[qZ hle],k3⟩;unfold storeT;simp only[hn,k2];exact jf (hr.okW hf hle) (by simp[k1])
   .exact h.elim
  .split at h
   .rename_i cs;split at h
    .rename_i hb;have hle:=gQ6 hb;obtain⟨k1,k2,k3⟩:=GG h;refine⟨cs.toList,_,?_,hr.wr hle,by rw[qZ hle],k3⟩;unfold storeT;simp only[hn,bQ,k1,Nat.beq_refl];exact jf (hr.okW hf hle) k2
    .exact h.elim
   .exact h.elim
 .exact h.elim
def qi(E:Nat->Option AObj)(b:Nat)(o:AObj):Nat->Option AObj:=fun b'=>if b'=b then some o else E b'
def pd(β : Nat->Nat)(id b:Nat):Nat->Nat:=fun i=>if i=id then b else β i
theorem Df(s:VS)(l:List Value)(u:Mem):fmV (newL s l) u=bump (fmV s u) 1:=by
 unfold fmV newL;cases s.pend with
 | zero=>rfl
 | succ n=>rfl
theorem Rel.newL(hr:Rel n0 β E s u tm1 m)(l:List Value)(e:TypeId) :
  Rel n0 (pd β s.cnt m.nx) (qi E m.nx (row l e false)) (newL s l) u tm1 (newO m (row l e false))/\Lat s (newL s l) β (pd β s.cnt m.nx):=by
 have hnx:=hr.bes.nx;have hE:∀b o,E b=some o->b<m.nx:=fun b o h=>by have:=(hr.bes.gap b o h).2;omega
 have hlat:Lat s (AX.newL s l) β (pd β s.cnt m.nx):=by
  refine⟨Nat.le_succ _,fun id v c e hv=>?_,fun id hi=>by unfold pd;rw[if_neg (by omega)]⟩;change (s.loc.put s.cnt (s.cnt,l)).get id=_ at e;rw[Tr.get_put]at e;split at e
  .cases e;omega
  .exact e
 refine⟨⟨?_,?_,?_,?_,hr.tm,?_,?_,?_⟩,hlat⟩
 .rw[Df];refine⟨?_,hr.bes.fl,fun b=>?_,fun b o h=>?_⟩
  .show m.nx+1=(fmV s u).nx+1;rw[hnx]
  .show (m.hp.put m.nx _).get b=_;rw[Tr.get_put];unfold qi;split
   .rfl
   .exact hr.bes.get b
  .unfold qi at h;split at h
   .rename_i hb;subst hb;exact⟨hr.wf.2 _ (by rw[hnx];exact gQ4 _),by show m.nx<(fmV s u).nx+1;omega⟩
   .obtain⟨h1,h2⟩:=hr.bes.gap b o h;exact⟨h1,Nat.lt_succ_of_lt h2⟩
 .rw[Df];exact hr.wf.bump
 .intro b o h;unfold qi at h;split at h
  .rename_i hb;subst hb;rw[hnx];exact hr.nx
  .exact hr.lo b o h
 .rw[Df];exact Nat.le_succ_of_le hr.nx
 .intro t id off e;obtain⟨h1,h2⟩:=hr.lp t id off e;refine⟨Nat.lt_succ_of_lt h1,?_⟩;unfold pd;rw[if_neg (by omega)];exact h2
 .intro id v c e;change (s.loc.put s.cnt (s.cnt,l)).get id=_ at e;rw[Tr.get_put]at e;split at e
  .rename_i hid;cases e;subst hid;refine⟨Nat.lt_succ_self _,Nat.lt_succ_self _,?_,?_⟩
   .unfold pd;rw[if_pos rfl];show m.fl<=m.nx;rw[hnx,hr.bes.fl];exact hr.wf.1
   .unfold pd qi;rw[if_pos rfl,if_pos rfl];refine⟨_,e,rfl,fun i hi=>?_⟩;rw[kN,if_pos (by omega)];simp
  .obtain⟨h1,h2,h3⟩:=hr.loc id v c e;refine⟨Nat.lt_succ_of_lt h1,Nat.lt_succ_of_lt h2,?_⟩;have hb:pd β s.cnt m.nx id = β id:=by unfold pd;rw[if_neg (by omega)]
   rw[hb];refine h3.mono ?_;unfold qi;obtain⟨_,tr,e',h4,_⟩:=h3;rw[if_neg (by have:=hE _ _ h4;omega)]
 .intro id id' x y e e' hb;change (s.loc.put s.cnt (s.cnt,l)).get id=_ at e;change (s.loc.put s.cnt (s.cnt,l)).get id'=_ at e';rw[Tr.get_put]at e e';have key:∀i v c,i≠s.cnt->s.loc.get i=some (v,c)->pd β s.cnt m.nx i = β i/\β i<m.nx:=fun i v c hi h=>by
   obtain⟨_,_,_,tr,e',h4,_⟩:=hr.loc i v c h;exact⟨by unfold pd;rw[if_neg hi],hE _ _ h4⟩
  have self:pd β s.cnt m.nx s.cnt=m.nx:=by unfold pd;rw[if_pos rfl]
  split at e
  .rename_i h1;split at e'
   .rename_i h2;rw[h1,h2]
   .rename_i h2;obtain⟨k1,k2⟩:=key id' y.1 y.2 h2 e';rw[h1,self,k1]at hb;omega
  .rename_i h1;obtain⟨k1,k2⟩:=key id x.1 x.2 h1 e;split at e'
   .rename_i h2;rw[h2,self,k1]at hb;omega
   .rename_i h2;obtain⟨k3,k4⟩:=key id' y.1 y.2 h2 e';rw[k1,k3]at hb;exact hr.inj _ _ _ _ e e' hb
theorem OK(s:VS)(id:Nat)(l:List Value)(u:Mem):fmV (setL s id l) u=fmV s u:=rfl
theorem Bes.upd{M:Mem}(h:Bes E M m){b:Nat}{o0:AObj}(hb:E b=some o0){m':Mem}{o:AObj}(h1:m'.nx=m.nx)(h2:m'.fl=m.fl)(h3:m'.hp.get b=some o)(h4:∀b',b'≠b->m'.hp.get b'=m.hp.get b'):Bes (qi E b o) M m':=by
 refine⟨h1.trans h.nx,h2.trans h.fl,fun b'=>?_,fun b' o' hb'=>?_⟩
 .unfold qi;by_cases e:b'=b
  .subst e;rw[if_pos rfl,h3]
  .rw[if_neg e,h4 b' e];exact h.get b'
 .unfold qi at hb';split at hb'
  .rename_i e;subst e;exact h.gap _ _ hb
  .exact h.gap _ _ hb'
theorem Rel.setL(hr:Rel n0 β E s u tm1 m){id v0:Nat}{c c' l:List Value}{off:Nat}{e:TypeId}(hid:s.loc.get id=some (v0,c))(hrow:Row (wr m (β id) off l) (β id) c' e false)(hlen:c'.length=c.length) :
  ∃E',Rel n0 β E' (setL s id c') u tm1 (wr m (β id) off l)/\Lat s (AX.setL s id c') β β/\∀b,b≠β id->E' b=E b:=by
 obtain⟨h1,h2,h3⟩:=hr.loc id v0 c hid;obtain⟨hfl,tr0,e0,hE0,_⟩:=h3;obtain⟨tr,ht1,ht2⟩:=hrow;have hoth:∀b,b≠β id->qi E (β id) (.cells tr c'.length e false) b=E b:=fun b hb=>by unfold qi;rw[if_neg hb]
 refine⟨qi E (β id) (.cells tr c'.length e false),⟨?_,hr.wf,?_,hr.nx,hr.tm,?_,?_,?_⟩,⟨Nat.le_succ _,?_,fun _ _=>rfl⟩,hoth⟩
 .rw[OK];exact hr.bes.upd hE0 (Qg ..) (Bp ..) ht1 (fun b' hb'=>ln hb')
 .intro b o h;unfold qi at h;split at h
  .rename_i hb;subst hb;exact hr.lo _ _ hE0
  .exact hr.lo b o h
 .intro t id' off' e';obtain⟨k1,k2⟩:=hr.lp t id' off' e';exact⟨Nat.lt_succ_of_lt k1,k2⟩
 .intro id' v c1 e';change (s.loc.put id (s.cnt,c')).get id'=_ at e';rw[Tr.get_put]at e';split at e'
  .rename_i hi;cases e';subst hi;refine⟨Nat.lt_succ_of_lt h1,Nat.lt_succ_self _,by rw[Bp];exact hfl,tr,e,?_,ht2⟩;unfold qi;rw[if_pos rfl]
  .rename_i hi;obtain⟨k1,k2,k3⟩:=hr.loc id' v c1 e';refine⟨Nat.lt_succ_of_lt k1,Nat.lt_succ_of_lt k2,?_⟩;rw[Bp];exact k3.mono (hoth _ (fun hb=>hi (hr.inj _ _ _ _ e' hid hb)))
 .intro id' id'' x y e' e'' hb;change (s.loc.put id (s.cnt,c')).get id'=_ at e';change (s.loc.put id (s.cnt,c')).get id''=_ at e'';rw[Tr.get_put]at e' e'';split at e'
  .rename_i q1;split at e''
   .rename_i q2;rw[q1,q2]
   .rw[q1]at hb ⊢;exact hr.inj _ _ _ _ hid e'' hb
  .split at e''
   .rename_i q2;rw[q2]at hb ⊢;exact hr.inj _ _ _ _ e' hid hb
   .exact hr.inj _ _ _ _ e' e'' hb
 .intro id' v c1 e' hv;change (s.loc.put id (s.cnt,c')).get id'=_ at e';rw[Tr.get_put]at e';split at e'
  .cases e';omega
  .exact e'
theorem Bes.comp{E0:Nat->Option AObj}{M' m' m1:Mem}(h0:Bes E0 M' m')(h:Bes E m' m1):Bes (fun b=>match E b with|some o=>some o|none=>E0 b) M' m1:=by
 refine⟨h.nx.trans h0.nx,h.fl.trans h0.fl,fun b=>?_,fun b o hb=>?_⟩
 .rw[h.get b,h0.get b];cases E b<;>rfl
 .cases hE:E b with
  | some o'=>
   obtain⟨k1,k2⟩:=h.gap b o' hE;rw[h0.get b]at k1;refine⟨?_,by rw[<-h0.nx];exact k2⟩;cases hE0:E0 b with
   | none=>rw[hE0]at k1;exact k1
   | some o2=>rw[hE0]at k1;cases k1
  | none=>
   rw[hE]at hb;exact h0.gap b o hb
theorem qQ(hof:oo cx)(hon:mG cx){tm:Tr Value}{M:Mem}{o:Oper}{K:Option Value->Mem->Prop}(h:yU cx tm M o.dst o.type o.op K)(hb:Bes E M m)(hw:Wf M)(hs:Sub tm tm1)(sz:Nat) :
  ∃n v m1,dh cx (dU cx (eI cx n)) ⟨tm1,sz,m⟩ o=some (v,m1)/\∃E' M',Bes E' M' m1/\Nice M M'/\(∀b o,E b=some o->E' b=some o)/\(∀b o,E' b=some o->E b=some o∨M.nx<=b)/\K v M':=by
 have plain:∀{n:Nat} {v:Option Value} {M':Mem},dh cx (dU cx (eI cx n)) ⟨tm,sz,M⟩ o=some (v,M')->K v M'->
   ∃n v m1,dh cx (dU cx (eI cx n)) ⟨tm1,sz,m⟩ o=some (v,m1)/\∃E' M',Bes E' M' m1/\Nice M M'/\(∀b o,E b=some o->E' b=some o)/\(∀b o,E' b=some o->E b=some o∨M.nx<=b)/\K v M':=by
  intro n v M' h1 h2;have k0:=tU (we hon n) hw h1;obtain⟨m1,k1,k2⟩:=sT (rX hof n) hb (HU hs h1);exact⟨n,v,m1,k1,E,M',k2,k0,fun _ _ h=>h,fun _ _ h=>.inl h,h2⟩
 have call:∀{k:FuncId} {args:List Value} {K':Value->Mem->Prop} {f:dB->Option (Option Value×Mem)},ah cx k args M K'->(∀r M',K' r M'->K (some r) M')->
   (∀n r m',dU cx (eI cx n) k args m=some (r,m')->dh cx (dU cx (eI cx n)) ⟨tm1,sz,m⟩ o=some (some r,m'))->
   ∃n v m1,dh cx (dU cx (eI cx n)) ⟨tm1,sz,m⟩ o=some (v,m1)/\∃E' M',Bes E' M' m1/\Nice M M'/\(∀b o,E b=some o->E' b=some o)/\(∀b o,E' b=some o->E b=some o∨M.nx<=b)/\K v M':=by
  intro k args K' f h1 h2 h3;obtain⟨n,r,m',c1,E0,u',c2,c3,c4,c5⟩:=h1 hw;have k0:=we hon n _ _ _ _ _ c1 hw;obtain⟨m1,k1,k2⟩:=rX hof n _ _ _ _ _ c1 _ _ hb;refine⟨n,some r,m1,h3 n r m1 k1,_,u',c2.comp k2,⟨c3,?_,?_⟩,fun b o hE=>by simp only[hE],fun b o hE=>?_,h2 _ _ c5⟩
  .rw[<-c2.fl];exact k0.fl
  .rw[<-c2.nx];exact k0.nx
  .cases hq:E b with
   | some o'=>rw[hq]at hE;exact .inl hE
   | none=>rw[hq]at hE;exact .inr (c4 b o hE)
 cases hop:o.op with
 | call c=>
  rw[hop]at h;have h':GJ cx tm M o.dst o.type c K:=h;unfold GJ at h';obtain⟨args,h1,h2⟩:=yR (sz:=sz) (m:=M) h';have h1':gZ cx ⟨tm1,sz,m⟩ c.args.toList=some args:=by rw[wC tm1 sz m M];exact rA hs h1
  split at h2
  .rename_i b hbc;obtain⟨v,m',h3,h4⟩:=Aj h2;refine plain (n:=0) (v:=some v) (M':=m') ?_ h4;unfold dh;simp only[hop,gq,h1,hbc,h3]
  .rename_i f hf;obtain⟨fv,h3,h4⟩:=dz h2;rw[dX tm sz m]at h3;have h3':=da hs h3;unfold jJ at h4;split at h4
   .refine call (f:=fun _=>none) h4 (fun r M' q=>zE (K:=fun r M'=>K (some r) M') q) (fun n r m' q=>?_);unfold dh;simp only[hop,gq,h1',hf,h3',List.append_assoc,q]
   .exact h4.elim
  .rename_i x name hx;obtain⟨xv,h3,h4⟩:=dz h2;rw[dX tm sz m]at h3;have h3':=da hs h3;obtain⟨t,v,rfl,k,r,h5,h6⟩:=h4;refine call (f:=fun _=>none) h6 (fun r M' q=>zE (K:=fun r M'=>K (some r) M') q) (fun n r m' q=>?_);unfold dh;simp only[hop,gq,h1',hx,h3',h5,q]
 | _=>
  have h':PW cx tm M o.dst o.type o.op K:=by rw[hop]at h ⊢;exact h
  obtain⟨n,v,M',h1,h2⟩:=PY (sz:=sz) h';exact plain h1 h2
theorem Rel.step(hr:Rel n0 β E s u tm1 m){E':Nat->Option AObj}{M' m1:Mem}(h1:Bes E' M' m1)(h2:Nice (fmV s u) M')(h3:∀b o,E b=some o->E' b=some o)(h4:∀b o,E' b=some o->E b=some o∨(fmV s u).nx<=b) :
  Rel n0 β E' { s with pend:=0 } M' tm1 m1:=by
 refine⟨h1,h2.wf,fun b o hb=>?_,Nat.le_trans hr.nx h2.nx,hr.tm,hr.lp,fun id v c e=>?_,hr.inj⟩
 .rcases h4 b o hb with h|h
  .exact hr.lo b o h
  .exact Nat.le_trans hr.nx h
 .obtain⟨k1,k2,k3,tr,e',k4,k5⟩:=hr.loc id v c e;refine⟨k1,k2,?_,tr,e',h3 _ _ k4,k5⟩;rw[h1.fl,h2.fl,<-hr.bes.fl];exact k3
theorem Jl{LS:List Nat}{dst:Option Tmp}{op:Op}{z:Value}(h:kZ cx LS s dst op = .make (some z)):(∃e,op = .alloc e/\fB cx e=some z)∨∃e x,op = .box e x/\fQ cx s.tm x=some z:=by
 unfold kZ at h;split at h
 .split at h
  .injection h with h;exact .inl ⟨_,rfl,h⟩
  .cases h
 .rename_i e x;split at h
  .split at h
   .rename_i v hv;right;refine⟨e,x,rfl,?_⟩;split at h
    .injection h with h;rw[hv,<-h]
    .injection h with h;cases h
    .injection h with h;cases h
    .injection h with h;cases h
    .injection h with h;rw[hv,<-h]
   .injection h with h;cases h
  .cases h
 all_goals first
  | (split at h<;>cases h)
  | cases h
theorem Ca{LS:List Nat}{dst:Option Tmp}{op:Op}{t id off:Nat}(h:kZ cx LS s dst op = .load t id off):∃a,op = .load t a/\Ak s a=some (id,off):=by
 unfold kZ at h;split at h
 .split at h<;>cases h
 .split at h
  .split at h
   .split at h<;>cases h
   .cases h
  .cases h
 .split at h
  .rename_i hl;cases h;exact⟨_,rfl,hl⟩
  .cases h
 all_goals first
  | (split at h<;>cases h)
  | cases h
theorem Al{LS:List Nat}{dst:Option Tmp}{op:Op}{t id off:Nat}{x:Operand}(h:kZ cx LS s dst op = .store t id off x):∃a,op = .store t a x/\Ak s a=some (id,off):=by
 unfold kZ at h;split at h
 .split at h<;>cases h
 .split at h
  .split at h
   .split at h<;>cases h
   .cases h
  .cases h
 .split at h<;>cases h
 .split at h
  .rename_i hl;cases h;exact⟨_,rfl,hl⟩
  .cases h
 all_goals first
  | (split at h<;>cases h)
  | cases h
theorem Am{LS:List Nat}{dst:Option Tmp}{op:Op}{t id off f:Nat}(h:kZ cx LS s dst op = .field t id off f):∃a,op = .fieldAddr t a f/\Ak s a=some (id,off):=by
 unfold kZ at h;split at h
 .split at h<;>cases h
 .split at h
  .split at h
   .split at h<;>cases h
   .cases h
  .cases h
 .split at h<;>cases h
 .split at h<;>cases h
 .split at h
  .rename_i hl;cases h;exact⟨_,rfl,hl⟩
  .cases h
 all_goals first
  | (split at h<;>cases h)
  | cases h
theorem Cb{LS:List Nat}{dst:Option Tmp}{op:Op}{id off:Nat}(h:kZ cx LS s dst op = .same id off):∃a,(op = .nilCheck a∨op = .move a∨op = .assign a)/\Ak s a=some (id,off):=by
 unfold kZ at h;split at h
 .split at h<;>cases h
 .split at h
  .split at h
   .split at h<;>cases h
   .cases h
  .cases h
 .split at h<;>cases h
 .split at h<;>cases h
 .split at h<;>cases h
 .split at h
  .rename_i hl;cases h;exact⟨_,.inl rfl,hl⟩
  .cases h
 .split at h
  .rename_i hl;cases h;exact⟨_,.inr (.inl rfl),hl⟩
  .cases h
 .split at h
  .rename_i hl;cases h;exact⟨_,.inr (.inr rfl),hl⟩
  .cases h
 .cases h
theorem Ee{t f:Nat}{K:Nat->Prop}(h:B4 cx t f K)(b off:Nat):∃o,lN cx t (.pointer (some ⟨b,off,none⟩)) f=some (.pointer (some ⟨b,off+o,none⟩))/\K o:=by
 unfold B4 at h;split at h
 .rename_i fs hd;split at h
  .rename_i fd hf;split at h
   .rename_i k hs;refine⟨fd.offset,?_,h⟩;unfold lN;simp only[hd,hf,hs,ng]
   .exact h.elim
  .exact h.elim
 .exact h.elim
theorem OL(hof:oo cx)(hon:mG cx){LS:List Nat}{o:Oper}{K:VS->Mem->Prop}(h:M3 cx LS sz s u o.dst o.type o.op K)(hr:Rel n0 β E s u tm1 m) :
  ∃n v m1 tm2,dh cx (dU cx (eI cx n)) ⟨tm1,sz,m⟩ o=some (v,m1)/\gu ⟨tm1,sz,m⟩ o.dst v m1=some ⟨tm2,sz,m1⟩/\∃β' E' s' u',Rel n0 β' E' s' u' tm2 m1/\Lat s s' β β'/\K s' u':=by
 unfold M3 at h;split at h
 ·
  unfold PZ at h;split at h
  .obtain⟨n,v,m1,k1,E',M',k2,k3,k4,k5,k6⟩:=qQ hof hon h hr.bes hr.wf hr.tm sz;obtain⟨tm2,p1,s',p2,p3,_,_,_,p4⟩:=iX k6 (hr.step k2 k3 k4 k5) m;exact⟨n,v,m1,tm2,k1,p1,β,E',s',M',p2,⟨p3.cnt,p3.ver,p3.beta⟩,p4⟩
  .rename_i hk;obtain⟨n,v,m1,k1,E',M',k2,k3,k4,k5,k6⟩:=qQ hof hon h hr.bes hr.wf hr.tm sz;have e1:=M5 (fun e=>hk e) k1;subst e1;obtain⟨tm2,p1,s',p2,p3,_,_,_,p4⟩:=iX k6 hr m1;exact⟨n,v,m1,tm2,k1,p1,β,E,s',u,p2,p3,p4⟩
 ·
  rename_i z hk;obtain⟨z,rfl,h1⟩:=dz h;have made:∀(e:TypeId),dh cx (dU cx (eI cx 0)) ⟨tm1,sz,m⟩ o=some (some (.pointer (some ⟨m.nx,0,none⟩)),newO m (row (bQ z) e false))->
    ∃n v m1 tm2,dh cx (dU cx (eI cx n)) ⟨tm1,sz,m⟩ o=some (v,m1)/\gu ⟨tm1,sz,m⟩ o.dst v m1=some ⟨tm2,sz,m1⟩/\∃β' E' s' u',Rel n0 β' E' s' u' tm2 m1/\Lat s s' β β'/\K s' u':=by
   intro e ho;obtain⟨q1,q2⟩:=hr.newL (bQ z) e;obtain⟨tm2,p1,s',p2,p3,_,_,_,p4⟩:=wd h1 (Nat.lt_succ_self _) q1 m;have e1:pd β s.cnt m.nx s.cnt=m.nx:=by unfold pd;rw[if_pos rfl]
   rw[e1]at p1;exact⟨0,_,_,tm2,ho,p1,_,_,s',u,p2,q2.trans p3,p4⟩
  rcases Jl hk with⟨e,ho,hz⟩|⟨e,x,ho,hx⟩
  .refine made e ?_;unfold dh;simp only[ho,hz,lq]
  .refine made e ?_;rw[dX s.tm sz m]at hx;have hx':=da hr.tm hx;unfold dh;simp only[ho,hx',lq]
 ·
  rename_i t id off hk;obtain⟨a,ho,hl⟩:=Ca hk;obtain⟨c,h1,h2⟩:=nC h;obtain⟨v0,hc⟩:=nX h1;obtain⟨_,_,hrow⟩:=hr.loc id v0 c hc;obtain⟨e,hrow⟩:=hrow.row hr.bes;obtain⟨v,h3,h4⟩:=GN h2 hrow;obtain⟨_,hev⟩:=qh (cx:=cx) (sz:=sz) hr hl m;obtain⟨tm2,p1,s',p2,p3,_,_,_,p4⟩:=iX h4 hr m;exact⟨0,_,m,tm2,by unfold dh;simp only[ho,hev,h3],p1,β,E,s',u,p2,p3,p4⟩
 ·
  rename_i t id off x hk;obtain⟨a,ho,hl⟩:=Al hk;obtain⟨v,h0,h⟩:=dz h;obtain⟨c,h1,h2⟩:=nC h;obtain⟨v0,hc⟩:=nX h1;obtain⟨_,_,hrowE⟩:=hr.loc id v0 c hc;obtain⟨e,hrow⟩:=hrowE.row hr.bes;obtain⟨l,c',h3,h4,h5,h6⟩:=K9 h2 hrow hrowE.1;obtain⟨_,hev⟩:=qh (cx:=cx) (sz:=sz) hr hl m;rw[dX s.tm sz m]at h0;have hx:=da hr.tm h0;obtain⟨E',q1,q2,_⟩:=hr.setL hc h4 h5;obtain⟨tm2,p1,s',p2,p3,_,_,_,p4⟩:=iX h6 q1 m;exact⟨0,_,_,tm2,by unfold dh;simp only[ho,hev,hx,h3],p1,β,E',s',u,p2,q2.trans p3,p4⟩
 ·
  rename_i t id off f hk;obtain⟨a,ho,hl⟩:=Am hk;obtain⟨hid,hev⟩:=qh (cx:=cx) (sz:=sz) hr hl m;obtain⟨o',h1,h2⟩:=Ee h (β id) off;obtain⟨tm2,p1,s',p2,p3,_,_,_,p4⟩:=wd h2 hid hr m;exact⟨0,_,m,tm2,by unfold dh;simp only[ho,hev,h1],p1,β,E,s',u,p2,p3,p4⟩
 .rename_i id off hk;obtain⟨a,ho,hl⟩:=Cb hk;obtain⟨hid,hev⟩:=qh (cx:=cx) (sz:=sz) hr hl m;obtain⟨tm2,p1,s',p2,p3,_,_,_,p4⟩:=wd h hid hr m;refine⟨0,_,m,tm2,?_,p1,β,E,s',u,p2,p3,p4⟩;unfold dh;rcases ho with ho|ho|ho<;>simp only[ho,hev]
end
theorem AU(hof:oo cx)(hon:mG cx){LS:List Nat}{sz n0:Nat}{ops:List Oper}:∀{rest:List Oper} {s:VS} {u:Mem} {K:VS->Mem->Prop},B5 cx LS sz ops rest s u K->∀{β : Nat->Nat} {E:Nat->Option AObj} {tm1:Tr Value} {m:Mem},Rel n0 β E s u tm1 m->
  ∃n tm2 m2,gD cx (dU cx (eI cx n)) ops rest ⟨tm1,sz,m⟩=some ⟨tm2,sz,m2⟩/\∃β' E' s' u',Rel n0 β' E' s' u' tm2 m2/\Lat s s' β β'/\K s' u'
 | [],s,u,K,h,β,E,tm1,m,hr=>⟨0,tm1,m,rfl,β,E,s,u,hr,Lat.refl _ _,h⟩
 | o::r,s,u,K,h,β,E,tm1,m,hr=>by
  unfold B5 at h;obtain⟨b,tm2,h1,h2,h3⟩:=Ed h hr.tm sz m;cases b with
  | true=>
   obtain⟨n1,v,m1,tm3,k1,k2,β1,E1,s1,u1,k3,k4,k5⟩:=OL hof hon h3 (hr.withTm h2);obtain⟨n2,tm4,m4,q1,β2,E2,s2,u2,q2,q3,q4⟩:=AU hof hon k5 k3;refine⟨max n1 n2,tm4,m4,?_,β2,E2,s2,u2,q2,(⟨k4.cnt,k4.ver,k4.beta⟩:Lat s s1 β β1).trans q3,q4⟩;unfold gD;simp only[h1,nk (nP (Nat.le_max_left n1 n2)) k1,k2];exact rf (nP (Nat.le_max_right n1 n2)) q1
  | false=>
   obtain⟨tm3,k2,s1,k3,k4,_,_,_,k5⟩:=iX h3 (hr.withTm h2) m;obtain⟨n2,tm4,m4,q1,β2,E2,s2,u2,q2,q3,q4⟩:=AU hof hon k5 k3;refine⟨n2,tm4,m4,?_,β2,E2,s2,u2,q2,(⟨k4.cnt,k4.ver,k4.beta⟩:Lat s s1 β β).trans q3,q4⟩;unfold gD;simp only[h1,k2];exact q1
end Go.AX
