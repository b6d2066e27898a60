import Derived.Test.YthpnifigjfplbaaGreatQU24
set_option linter.unusedSimpArgs false
set_option linter.unusedVariables false
set_option linter.unusedSectionVars false
namespace Go.AX.pm
open Go.AX
def headSem(x:Serv):Int:=match x.jobs with
 | []=>0
 | j::_=>j.cur.1
def headDone(x:Serv):Int:=match x.jobs with
 | []=>0
 | j::_=>j.done
structure GoodV (k:Nat) (x:Serv):Prop where
 id1:1<=x.id
 id2:x.id<=255
 s:CF x.s
 len:x.jobs.length<=8
 jobs:∀j∈x.jobs,GoodJ k j
 rest:∀j∈x.jobs.tail,j.at_=0/\j.done=0
 sec:x.sec=0∨(x.sec=1∨x.sec=2)/\1<=headSem x
 done0:x.sec≠2->1<=headSem x->headDone x=0
abbrev Key:=Int×Int×Int
def key(x:Serv):Key:=(x.id,x.sec,if x.sec=0 then 0 else headSem x)
structure LockOk (K:List Key) (q:Nat) (l:Lock):Prop where
 nd:l.queue.Nodup
 wait:∀id,id∈l.queue↔(id,1,(q:Int)+1)∈K
 hold:∀id,(id≠0/\l.holder=id)↔(id,2,(q:Int)+1)∈K
 free:l.holder=0->l.queue=[]
structure Iw (B R:Int) (σ : St):Prop where
 m1:1<=σ.m
 m2:σ.m<=64
 now1:0<=σ.now
 now2:σ.now<=4611686018427387904
 rise:Rise σ.servs
 len1:σ.servs.length<=32
 len2:σ.sems.length<=8
 len3:σ.backs.length<=16
 serv:∀x∈σ.servs,GoodV σ.sems.length x
 num:∀x∈σ.servs,0<=x.num/\x.num<=B
 ran:∀x∈σ.servs,0<=x.ran/\x.ran<=R
 most:∀l∈σ.sems,1<=l.most/\l.most<=1048576
 lock:∀(q:Nat) l,σ.sems[q]? = some l->LockOk (σ.servs.map key) q l
 back:∀b∈σ.backs,1<=b.id/\b.id<=255/\0<=b.ran/\b.ran<=R
 bnd:(σ.backs.map (·.id)).Nodup
noncomputable def fixed(σ : St):Nat:=pl.nfix ((ready σ.servs).map Serv.ent)
def Idl(x:Serv):Prop:=x.jobs=[]↔x.s.mode=0
structure Iv (B:Int) (σ : St):Prop extends Iw B σ.now σ where
 idle:∀x∈σ.servs,Idl x
 fix:(fixed σ : Int)<=σ.m
theorem Iv.mono{B B':Int}{σ : St}(h:Iv B σ)(hb:B<=B'):Iv B' σ:=
 { h with num:=fun x hx=>⟨(h.num x hx).1,by have:=(h.num x hx).2;omega⟩ }
theorem Rise.nd:∀{l:List Serv},Rise l->(l.map (·.id)).Nodup
 | [],_=>List.nodup_nil
 | x::r,h=>by
  rw[List.map_cons,List.nodup_cons];refine⟨fun hm=>?_,Rise.nd h.2⟩;obtain⟨y,hy,e⟩:=List.mem_map.1 hm;have:=h.1 y hy;omega
theorem C6{l:List Serv}(hr:Rise l){i:Nat}{x:Serv}(hx:l[i]? = some x):at_ l x.id=i:=
 NS hr (by have:=(gQ1 hx).1;omega)
  (fun j y hj hy=>Rise.lt hr hj hy hx)
  (fun j y hj hy=>by
   rcases Nat.lt_or_eq_of_le hj with h|h
   ·have:=hr.lt h hx hy;omega
   ·subst h;rw[hx]at hy;cases hy;omega)
theorem at_mem{l:List Serv}(hr:Rise l){x:Serv}(hx:x∈l):l[at_ l x.id]? = some x:=by
 obtain⟨i,hi⟩:=List.getElem?_of_mem hx;rw[C6 hr hi];exact hi
theorem oY(l:List Serv):(l.map key).map (·.1)=l.map (·.id):=by
 rw[List.map_map];rfl
theorem Hv{α : Type}{l:List α}{i:Nat}{a c:α}(hc:l[i]? = some c)(z:α):z∈l.set i a↔z=a∨∃j,j≠i/\l[j]? = some z:=by
 have hi:=(gQ1 hc).1;constructor
 .intro h;obtain⟨j,hj⟩:=List.getElem?_of_mem h;rw[List.getElem?_set]at hj;by_cases e:i=j
  .subst e;rw[if_pos rfl,if_pos hi]at hj;cases hj;exact .inl rfl
  .rw[if_neg e]at hj;exact .inr ⟨j,fun h=>e h.symm,hj⟩
 .rintro(rfl|⟨j,hj,hz⟩)
  .exact gQ3 (i:=i) (by rw[List.getElem?_set,if_pos rfl,if_pos hi])
  .exact gQ3 (i:=j) (by rw[List.getElem?_set,if_neg (fun h=>hj h.symm)];exact hz)
theorem oZ{α : Type}:∀{l:List α},l.Nodup->∀{i j:Nat} {x:α},l[i]? = some x->l[j]? = some x->i=j
 | [],_,i,j,x,h,_=>by cases h
 | y::r,hn,i,j,x,hi,hj=>by
  rw[List.nodup_cons]at hn;cases i with
  | zero=>
   cases j with
   | zero=>rfl
   | succ j=>cases hi;exact absurd (gQ3 (by simpa using hj)) hn.1
  | succ i=>
   cases j with
   | zero=>cases hj;exact absurd (gQ3 (by simpa using hi)) hn.1
   | succ j=>have:=oZ (x:=x) hn.2 (i:=i) (j:=j) (by simpa using hi) (by simpa using hj);omega
theorem tF{K:List Key}(hn:(K.map (·.1)).Nodup){i:Nat}{a c:Key}(hc:K[i]? = some c)(ha:a.1=c.1)(z:Key):z∈K.set i a↔z=a∨(z∈K/\z.1≠c.1):=by
 rw[Hv hc];constructor
 .rintro(h|⟨j,hj,hz⟩)
  .exact .inl h
  .refine .inr ⟨gQ3 hz,fun e=>hj ?_⟩;exact oZ hn (x:=c.1) (by rw[List.getElem?_map,hz];simp[e]) (by rw[List.getElem?_map,hc];rfl)
 .rintro(h|⟨hz,hne⟩)
  .exact .inl h
  .obtain⟨j,hj⟩:=List.getElem?_of_mem hz;refine .inr ⟨j,fun e=>?_,hj⟩;subst e;rw[hc]at hj;cases hj;exact hne rfl
theorem lV{α β : Type}(f:α->β)(l:List α)(i:Nat)(x:α):(l.set i x).map f=(l.map f).set i (f x):=by
 apply List.ext_getElem?;intro j;rw[List.getElem?_map,List.getElem?_set,List.getElem?_set,List.getElem?_map];by_cases h:i=j
 .subst h;rw[if_pos rfl,if_pos rfl,List.length_map];split<;>rfl
 .rw[if_neg h,if_neg h]
theorem fK{α : Type}{p:α->Prop}{l:List α}{i:Nat}{x:α}(h:∀y∈l,p y)(hx:p x):∀y∈l.set i x,p y:=fun y hy=>by
 rcases List.mem_or_eq_of_mem_set hy with h1|h1
 .exact h y h1
 .subst h1;exact hx
theorem Gl{α : Type}{l:List α}{i:Nat}{x:α}(h:l[i]? = some x):l.set i x=l:=by
 apply List.ext_getElem?;intro j;rw[List.getElem?_set];split
 .rename_i e;subst e;rw[h,if_pos (gQ1 h).1]
 .rfl
theorem Iw.setS{B R:Int}{σ : St}(h:Iw B R σ){i:Nat}{x x':Serv}(hx:σ.servs[i]? = some x)(hk:key x'=key x)(hg:GoodV σ.sems.length x')(hn:0<=x'.num/\x'.num<=B)(hr:0<=x'.ran/\x'.ran<=R):Iw B R { σ with servs:=σ.servs.set i x' }:=by
 have hid:x'.id=x.id:=congrArg (·.1) hk;have hids:=jH hx hid;have hkeys:(σ.servs.set i x').map key = σ.servs.map key:=by
  rw[lV,hk];exact Gl (by rw[List.getElem?_map,hx];rfl)
 exact { h with rise:=kq hids.symm h.rise,len1:=by simpa using h.len1,serv:=fK h.serv hg,num:=fK h.num hn,ran:=fK h.ran hr,lock:=fun q l hl=>by rw[hkeys];exact h.lock q l hl }
theorem Iw.withS{B R:Int}{σ : St}(h:Iw B R σ){l:List Serv}(hk:l.map key = σ.servs.map key)(hg:∀x∈l,GoodV σ.sems.length x)(hn:∀x∈l,0<=x.num/\x.num<=B)(hr:∀x∈l,0<=x.ran/\x.ran<=R):Iw B R { σ with servs:=l }:=by
 have hids:l.map (·.id) = σ.servs.map (·.id):=by rw[<-oY,hk,oY]
 have hl:l.length = σ.servs.length:=by have:=congrArg List.length hids;simpa using this
 exact { h with rise:=kq hids.symm h.rise,len1:=by rw[hl];exact h.len1,serv:=hg,num:=hn,ran:=hr,lock:=fun q l hl=>by rw[hk];exact h.lock q l hl }
theorem I1{σ : St}{id:Int}(h:id∈bm σ):∃x∈σ.servs,x.id=id/\x.s.mode=1:=by
 obtain⟨e,he,rfl⟩:=pl.mem_pick.1 h;have:=pl.run_sub he;obtain⟨x,hx,rfl⟩:=List.mem_map.1 this;unfold ready at hx;rw[List.mem_filter]at hx;exact⟨x,hx.1,rfl,eH.1 hx.2⟩
theorem jC{B:Int}{σ : St}(h:Iv B σ){id:Int}(hi:id∈bm σ):∃x,σ.servs[at_ σ.servs id]? = some x/\x.id=id/\x.s.mode=1/\x.jobs≠[]:=by
 obtain⟨x,hx,rfl,hm⟩:=I1 hi;exact⟨x,at_mem h.rise hx,rfl,hm,fun e=>by have:=(h.idle x hx).1 e;omega⟩
theorem BI(σ : St):(bm σ).Nodup:=by
 have:=pl.pick_strict (m:=σ.m) (l:=(ready σ.servs).map Serv.ent);exact this.imp fun h=>by omega
theorem qK{B:Int}{σ : St}(h:Iv B σ){p:Nat×Int}(hp:p∈asks σ):∃x,σ.servs[p.1]? = some x/\x.id∈bm σ/\x.s.mode=1/\x.sec=0/\headSem x=p.2/\1<=p.2/\p.2<=(σ.sems.length:Int)/\p.1=at_ σ.servs x.id:=by
 unfold asks at hp;obtain⟨id,hid,h2⟩:=List.mem_filterMap.1 hp;obtain⟨x,hx,rfl,hm,hj⟩:=jC h hid;rw[hx]at h2;simp only at h2;have hg:=h.serv x (gQ3 hx);cases hjs:x.jobs with
 | nil=>exact absurd hjs hj
 | cons j r=>
  rw[hjs]at h2;simp only at h2;have hgj:=hg.jobs j (by rw[hjs];exact gQ9 ..);rw[hgj.step]at h2;cases hc:(true&&(cR 0 j.cur.1&&cT x.sec 0))with
  | false=>rw[hc]at h2;cases h2
  | true=>
   rw[hc]at h2;cases h2;simp only[Bool.true_and,Bool.and_eq_true,gH,eH]at hc;refine⟨x,hx,hid,hm,hc.2,?_,?_,hgj.cur.2.1,rfl⟩
   .unfold headSem;rw[hjs]
   .show 1<=j.cur.1;omega
theorem tI(now:Int)(v:Serv):(ft now v).1=v∨(v.s.mode≠0/\v.sec=0/\(ft now v).1 = { v with s:=(dE v.s now).1 }):=by
 unfold ft Serv.idle;cases hc:(cT v.s.mode 0 || dT v.sec 0)with
 | true=>exact .inl rfl
 | false=>
  simp only[Bool.or_eq_false_iff,dY,fF]at hc;exact .inr ⟨hc.1,hc.2,rfl⟩
theorem KC(now:Int)(v:Serv):key (ft now v).1=key v:=by
 rcases tI now v with h|⟨_,_,h⟩
 .rw[h]
 .rw[h];rfl
theorem I2{k:Nat}{now:Int}{v:Serv}(h:GoodV k v):GoodV k (ft now v).1:=by
 rcases tI now v with e|⟨hm,hs,e⟩
 .rw[e];exact h
 .rw[e];obtain⟨t1,t2,t3⟩:=BG (now:=now) h.s;exact { h with s:=t1 }
theorem KD{k:Nat}{now:Int}{v:Serv}(hg:GoodV k v)(h:Idl v):Idl (ft now v).1:=by
 rcases tI now v with e|⟨hm,hs,e⟩
 .rw[e];exact h
 .rw[e];obtain⟨t1,t2,t3⟩:=BG (now:=now) hg.s;exact⟨fun e=>absurd (h.1 e) hm,fun e=>absurd e (t2 hm)⟩
theorem BK(σ : St):(fm σ).servs.map key = σ.servs.map key:=by
 show (σ.servs.map fun v=>(ft σ.now v).1).map key=_;rw[List.map_map];exact List.map_congr_left fun v _=>KC σ.now v
theorem wZ(now:Int)(v:Serv):(ft now v).1.id=v.id/\(ft now v).1.num=v.num/\(ft now v).1.ran=v.ran/\(ft now v).1.jobs=v.jobs/\(ft now v).1.sec=v.sec/\(ft now v).1.held=v.held:=by
 rcases tI now v with h|⟨_,_,h⟩<;>rw[h]<;>exact⟨rfl,rfl,rfl,rfl,rfl,rfl⟩
theorem KE(σ : St):fixed (fm σ)=fixed σ:=by
 unfold fixed pl.nfix ready;rw[List.countP_map,List.countP_map,List.countP_filter,List.countP_filter];show (σ.servs.map fun v=>(ft σ.now v).1).countP _=_;rw[List.countP_map];apply List.countP_congr;intro v _;rcases tI σ.now v with h|⟨_,hs,h⟩
 .simp only[Function.comp,h]
 .simp only[Function.comp,h,Serv.ent,hs,fF.2 rfl,Bool.false_and]
theorem qN{B:Int}{σ : St}(h:Iv B σ):Iv B (fm σ):=by
 have hm:∀x∈(fm σ).servs,∃v∈σ.servs,x=(ft σ.now v).1:=fun x hx=>by
  obtain⟨v,hv,rfl⟩:=List.mem_map.1 hx;exact⟨v,hv,rfl⟩
 refine { toIw:=h.toIw.withS (BK σ) (fun x hx=>?_) (fun x hx=>?_) (fun x hx=>?_),idle:=fun x hx=>?_,fix:=by rw[KE];exact h.fix }
 .obtain⟨v,hv,rfl⟩:=hm x hx;exact I2 (h.serv v hv)
 .obtain⟨v,hv,rfl⟩:=hm x hx;rw[(wZ σ.now v).2.1];exact h.num v hv
 .obtain⟨v,hv,rfl⟩:=hm x hx;rw[(wZ σ.now v).2.2.1];exact h.ran v hv
 .obtain⟨v,hv,rfl⟩:=hm x hx;exact KD (h.serv v hv) (h.idle v hv)
noncomputable def readies(σ : St):Nat:=(ready σ.servs).length
theorem jh{σ σ':St}{e:Ev}:∀{l:List (Nat×Int)},lS σ l=some (σ',e)->∃p∈l,∃v k,σ.servs[p.1]? = some v/\σ.sems[(p.2-1).toNat]? = some k/\pE σ.m k.most v.s.bud (de .i64 v.s.due σ.now)=false/\σ' = { σ with servs:=σ.servs.set p.1 { v with s:=(eS v.s).1 } }/\e=dS σ 8 v.id p.2
 | [],h=>by cases h
 | (i,q)::r,h=>by
  unfold lS at h;split at h
  .rename_i v k hv hk;cases hg:pE σ.m k.most v.s.bud (de .i64 v.s.due σ.now)with
   | true=>
    rw[hg,cond_true]at h;obtain⟨p,hp,h⟩:=jh h;exact⟨p,gQ5 _ hp,h⟩
   | false=>
    rw[hg,cond_false]at h;cases h;exact⟨(i,q),gQ9 ..,v,k,hv,hk,hg,rfl,rfl⟩
  .cases h
theorem C7{l:List Serv}{i:Nat}{x x':Serv}(hx:l[i]? = some x)(h1:cT x.s.mode 1=true)(h2:cT x'.s.mode 1=false):(ready (l.set i x')).length+1=(ready l).length:=by
 unfold ready
 induction l generalizing i with
 | nil=>cases hx
 | cons y r ih=>
  cases i with
  | zero=>
   cases hx;rw[List.set_cons_zero,List.filter_cons,List.filter_cons,h1,h2];simp
  | succ i=>
   have:=ih (i:=i) (by simpa using hx);rw[List.set_cons_succ,List.filter_cons,List.filter_cons];cases cT y.s.mode 1
   .simpa using this
   .simp only[if_true,List.length_cons];omega
theorem nB(l:List Serv):pl.nfix ((ready l).map Serv.ent)=l.countP fun y=>(cT y.s.mode 1&&dT y.sec 0):=by
 unfold pl.nfix ready;rw[List.countP_map,List.countP_filter];apply List.countP_congr;intro x _;simp[Serv.ent,Function.comp,and_comm]
theorem pF{l:List Serv}{i:Nat}{x x':Serv}(hx:l[i]? = some x)(h:(cT x'.s.mode 1&&dT x'.sec 0)=true->(cT x.s.mode 1&&dT x.sec 0)=true):pl.nfix ((ready (l.set i x')).map Serv.ent)<=pl.nfix ((ready l).map Serv.ent):=by
 rw[nB,nB]
 induction l generalizing i with
 | nil=>cases hx
 | cons y r ih=>
  cases i with
  | zero=>
   cases hx;rw[List.set_cons_zero,List.countP_cons,List.countP_cons];cases hb:(cT x'.s.mode 1&&dT x'.sec 0)with
   | false=>simp
   | true=>rw[h hb];exact gQ4 _
  | succ i=>
   have:=ih (i:=i) (by simpa using hx);rw[List.set_cons_succ,List.countP_cons,List.countP_cons];omega
theorem uM{B:Int}{σ σ':St}{e:Ev}(h:Iv B σ)(hr:refuse σ = some (σ',e)):Iv B σ'/\readies σ'+1=readies σ:=by
 obtain⟨p,hp,v,k,hv,hk,_,rfl,_⟩:=jh hr;obtain⟨x,hx,_,hm,hs,_⟩:=qK h hp;rw[hv]at hx;cases hx;have hvm:=gQ3 hv;have hg:=h.serv v hvm;obtain⟨w1,w2⟩:=BF hg.s hm;have hm2:(eS v.s).1.mode=2:=by rw[w2]
 refine⟨{ toIw:=h.toIw.setS hv rfl { hg with s:=w1 } (h.num v hvm) (h.ran v hvm),idle:=fK h.idle ⟨fun e=>by have:=(h.idle v hvm).1 e;omega,fun e=>?_⟩,fix:=Int.le_trans (Int.ofNat_le.2 (pF hv (fun e=>?_))) h.fix },?_⟩
 .have e:(eS v.s).1.mode=0:=e;omega
 .have e:(cT (eS v.s).1.mode 1&&dT v.sec 0)=true:=e;rw[hs,fF.2 rfl,Bool.and_false]at e;cases e
 .exact C7 hv (eH.2 hm) (dY.2 (by show (eS v.s).1.mode≠1;omega))
theorem nV{B:Int}:∀(n:Nat) {σ : St},Iv B σ->Iv B (du n σ).1
 | 0,σ,h=>h
 | n+1,σ,h=>by
  unfold du;split
  .exact h
  .rename_i σ' e hr;exact nV n (uM h hr).1
theorem I4(σ : St):readies σ<=σ.servs.length:=List.length_filter_le _ _
end Go.AX.pm
namespace Go.AX.pm
open Go.AX
theorem LockOk.other{K:List Key}{r:Nat}{l:Lock}(hn:(K.map (·.1)).Nodup){i:Nat}{a c:Key}(hc:K[i]? = some c)(ha:a.1=c.1)(h1:c.2.2≠(r:Int)+1)(h2:a.2.2≠(r:Int)+1)(h:LockOk K r l):LockOk (K.set i a) r l:=by
 have key:∀id s,(id,s,(r:Int)+1)∈K.set i a↔(id,s,(r:Int)+1)∈K:=fun id s=>by
  rw[tF hn hc ha];constructor
  .rintro(e|⟨h,_⟩)
   .rw[<-e]at h2;exact absurd rfl h2
   .exact h
  .intro hz;refine .inr ⟨hz,fun e=>?_⟩;obtain⟨j,hj⟩:=List.getElem?_of_mem hz;have:i=j:=oZ hn (x:=c.1) (by rw[List.getElem?_map,hc];rfl) (by rw[List.getElem?_map,hj,<-e];rfl);subst this;rw[hc]at hj;cases hj;exact h1 rfl
 exact⟨h.nd,fun id=>by rw[key];exact h.wait id,fun id=>by rw[key];exact h.hold id,h.free⟩
theorem Gh{K:List Key}(hn:(K.map (·.1)).Nodup){i:Nat}{c z:Key}(hc:K[i]? = some c)(hz:z∈K)(e:z.1=c.1):z=c:=by
 obtain⟨j,hj⟩:=List.getElem?_of_mem hz;have:i=j:=oZ hn (x:=c.1) (by rw[List.getElem?_map,hc];rfl) (by rw[List.getElem?_map,hj];simp[e]);subst this;rw[hc]at hj;cases hj;rfl
theorem C2{B R:Int}{σ : St}(h:Iw B R σ):((σ.servs.map key).map (·.1)).Nodup:=by rw[oY];exact Rise.nd h.rise
theorem Iw.setSL{B R:Int}{σ : St}(h:Iw B R σ){i q:Nat}{x x':Serv}{l l':Lock}(hx:σ.servs[i]? = some x)(hl:σ.sems[q]? = some l)(hid:x'.id=x.id)(hm:l'.most=l.most)(hg:GoodV σ.sems.length x')(hn:0<=x'.num/\x'.num<=B)(hr:0<=x'.ran/\x'.ran<=R)
  (h1:∀r:Nat,r≠q->(key x).2.2≠(r:Int)+1/\(key x').2.2≠(r:Int)+1) (h2:LockOk ((σ.servs.map key).set i (key x')) q l'):Iw B R { σ with servs:=σ.servs.set i x',sems:=σ.sems.set q l' }:=by
 have hids:=jH hx hid;have hc:(σ.servs.map key)[i]? = some (key x):=by rw[List.getElem?_map,hx];rfl
 refine { h with rise:=kq hids.symm h.rise,len1:=by simpa using h.len1,len2:=by simpa using h.len2,serv:=?_,num:=fK h.num hn,ran:=fK h.ran hr,most:=fK h.most (by rw[hm];exact h.most l (gQ3 hl)),lock:=fun r k hk=>?_ }
 .show ∀y∈σ.servs.set i x',GoodV (σ.sems.set q l').length y;rw[List.length_set];exact fK h.serv hg
 .have hk:(σ.sems.set q l')[r]? = some k:=hk;show LockOk ((σ.servs.set i x').map key) r k;rw[lV];rw[List.getElem?_set]at hk;by_cases e:q=r
  .subst e;rw[if_pos rfl,if_pos (gQ1 hl).1]at hk;cases hk;exact h2
  .rw[if_neg e]at hk;obtain⟨a,b⟩:=h1 r (fun h=>e h.symm);exact(h.lock r k hk).other (C2 h) hc (show x'.id=x.id from hid) a b
theorem wY{x:Serv}(h:x.sec=0):key x=(x.id,0,0):=by unfold key;rw[h];rfl
theorem Gg{x:Serv}(h:x.sec≠0):key x=(x.id,x.sec,headSem x):=by unfold key;rw[if_neg h]
theorem yF{σ : St}{i q:Nat}{x:Serv}{l:Lock}(hx:σ.servs[i]? = some x)(hl:σ.sems[q]? = some l):eU σ i ((q:Int)+1) =
  (bif dT l.holder 0 then ({ σ with servs:=σ.servs.set i { x with sec:=1 },sems:=σ.sems.set q { l with queue:=l.queue++[x.id] } },[]) else
  ({ σ with servs:=σ.servs.set i { x with sec:=2,held:=0 },sems:=σ.sems.set q { l with holder:=x.id,dead:=false } },(bif l.dead then [dS σ 7 x.id 0] else [])++[dS σ 6 x.id ((q:Int)+1)])):=by
 unfold eU;rw[show ((q:Int)+1-1).toNat=q by omega,hx,hl]
theorem Kw{B R:Int}{σ : St}(h:Iw B R σ){i q:Nat}{x:Serv}(hx:σ.servs[i]? = some x)(hs:x.sec=0)(hq:headSem x=(q:Int)+1)(hq2:q < σ.sems.length):Iw B R (eU σ i ((q:Int)+1)).1:=by
 have hl:=gQ2 hq2;generalize σ.sems[q]=l at hl;rw[yF hx hl];have hL:=h.lock q l hl;have hn:=C2 h;have hc:(σ.servs.map key)[i]? = some (x.id,0,0):=by rw[List.getElem?_map,hx,<-wY hs];rfl
 have hxm:=gQ3 hx;have hg:=h.serv x hxm;have uq:∀s,s≠0->(x.id,s,(q:Int)+1)∉σ.servs.map key:=fun s hs hz=>by
  have:=Gh hn hc hz rfl;simp at this;exact hs this.1
 have irr:∀x':Serv,x'.id=x.id->headSem x'=headSem x->∀r:Nat,r≠q->(key x).2.2≠(r:Int)+1/\(key x').2.2≠(r:Int)+1:=fun x' e1 e2 r hr=>by
  rw[wY hs];refine⟨by simp;omega,?_⟩;unfold key;simp only;split
  .omega
  .rw[e2,hq];omega
 cases hh:dT l.holder 0 with
 | true=>
  have hh:=iw.1 hh;rw[cond_true];refine h.setSL (l':={ l with queue:=l.queue++[x.id] }) hx hl rfl rfl { hg with sec:=.inr ⟨.inl rfl,by show 1<=headSem x;omega⟩,done0:=fun _ h=>hg.done0 (by omega) h } (h.num x hxm) (h.ran x hxm) (irr _ rfl rfl) ?_;have e:key { x with sec:=1 }=(x.id,1,(q:Int)+1):=by rw[Gg (by simp),<-hq];rfl
  rw[e];have hmk:∀z,z∈(σ.servs.map key).set i (x.id,1,(q:Int)+1)↔z=(x.id,1,(q:Int)+1)∨(z∈σ.servs.map key/\z.1≠x.id):=fun z=>tF (a:=(x.id,1,(q:Int)+1)) hn hc rfl z
  refine⟨?_,fun id=>?_,fun id=>?_,fun h0=>absurd h0 hh⟩
  .rw[List.nodup_append];refine⟨hL.nd,by simp,fun a ha b hb=>?_⟩;simp at hb;subst hb;intro e;subst e;exact uq 1 (by omega) ((hL.wait _).1 ha)
  .rw[List.mem_append,hL.wait,hmk];simp only[List.mem_singleton,Prod.mk.injEq,and_true];constructor
   .rintro(h|h)
    .refine .inr ⟨h,fun e=>?_⟩;rw[e]at h;exact uq 1 (by omega) h
    .exact .inl h
   .rintro(h|⟨h,_⟩)
    .exact .inr h
    .exact .inl h
  .rw[hmk];rw[show ({ l with queue:=l.queue++[x.id] }:Lock).holder=l.holder from rfl,hL.hold];simp only[Prod.mk.injEq];constructor
   .intro h;refine .inr ⟨h,fun e=>?_⟩;rw[e]at h;exact uq 2 (by omega) h
   .rintro(h|⟨h,_⟩)
    .omega
    .exact h
 | false=>
  have hh:=fF.1 hh;rw[cond_false];refine h.setSL (l':={ l with holder:=x.id,dead:=false }) hx hl rfl rfl { hg with sec:=.inr ⟨.inr rfl,by show 1<=headSem x;omega⟩,done0:=fun h _=>absurd rfl h } (h.num x hxm) (h.ran x hxm) (irr _ rfl rfl) ?_;have e:key { x with sec:=2,held:=0 }=(x.id,2,(q:Int)+1):=by rw[Gg (by simp),<-hq];rfl
  rw[e];have hmk:∀z,z∈(σ.servs.map key).set i (x.id,2,(q:Int)+1)↔z=(x.id,2,(q:Int)+1)∨(z∈σ.servs.map key/\z.1≠x.id):=fun z=>tF (a:=(x.id,2,(q:Int)+1)) hn hc rfl z
  have hq0:=hL.free hh;refine⟨hL.nd,fun id=>?_,fun id=>?_,fun _=>hq0⟩
  .rw[hmk];rw[show ({ l with holder:=x.id,dead:=false }:Lock).queue=l.queue from rfl,hL.wait];simp only[Prod.mk.injEq];constructor
   .intro h;refine .inr ⟨h,fun e=>?_⟩;rw[e]at h;exact uq 1 (by omega) h
   .rintro(h|⟨h,_⟩)
    .omega
    .exact h
  .rw[hmk];simp only[Prod.mk.injEq,and_true];have:=hg.id1;constructor
   .rintro⟨_,h⟩;exact .inl h.symm
   .rintro(h|⟨h,_⟩)
    .exact⟨by omega,h.symm⟩
    .have:=(hL.hold id).2 h;omega
theorem Gj{σ : St}{i q:Nat}{x:Serv}{l:Lock}(hx:σ.servs[i]? = some x)(hl:σ.sems[q]? = some l):(eU σ i ((q:Int)+1)).1.servs.map (·.id) = σ.servs.map (·.id)/\(∀j,j≠i->(eU σ i ((q:Int)+1)).1.servs[j]? = σ.servs[j]?)/\(eU σ i ((q:Int)+1)).1.sems.length = σ.sems.length/\(eU σ i ((q:Int)+1)).1.m = σ.m/\(eU σ i ((q:Int)+1)).1.now = σ.now/\(eU σ i ((q:Int)+1)).1.backs = σ.backs/\
  ∃x',(eU σ i ((q:Int)+1)).1.servs[i]? = some x'/\x'.sec≠0/\x'.s=x.s/\x'.id=x.id/\x'.jobs=x.jobs/\x'.num=x.num/\x'.ran=x.ran:=by
 rw[yF hx hl];have hi:=(gQ1 hx).1;cases dT l.holder 0 with
 | true=>
  rw[cond_true];refine⟨jH hx rfl,fun j hj=>?_,?_,rfl,rfl,rfl,{ x with sec:=1 },?_,?_⟩
  .show (σ.servs.set i _)[j]? = _;rw[List.getElem?_set,if_neg (fun h=>hj h.symm)]
  .show (σ.sems.set q _).length=_;rw[List.length_set]
  .show (σ.servs.set i _)[i]? = _;rw[List.getElem?_set,if_pos rfl,if_pos hi]
  .refine⟨by simp,rfl,rfl,rfl,rfl,rfl⟩
 | false=>
  rw[cond_false];refine⟨jH hx rfl,fun j hj=>?_,?_,rfl,rfl,rfl,{ x with sec:=2,held:=0 },?_,?_⟩
  .show (σ.servs.set i _)[j]? = _;rw[List.getElem?_set,if_neg (fun h=>hj h.symm)]
  .show (σ.sems.set q _).length=_;rw[List.length_set]
  .show (σ.servs.set i _)[i]? = _;rw[List.getElem?_set,if_pos rfl,if_pos hi]
  .refine⟨by simp,rfl,rfl,rfl,rfl,rfl⟩
def NR(σ : St)(p:Nat×Int):Prop:=∃x,σ.servs[p.1]? = some x/\x.sec=0/\headSem x=p.2/\1<=p.2/\p.2<=(σ.sems.length:Int)/\x.s.mode=1
structure Granted (σ τ : St) (L:List (Nat×Int)):Prop where
 m:τ.m = σ.m
 now:τ.now = σ.now
 backs:τ.backs = σ.backs
 ids:τ.servs.map (·.id) = σ.servs.map (·.id)
 sems:τ.sems.length = σ.sems.length
 other:∀j,(∀p∈L,p.1≠j)->τ.servs[j]? = σ.servs[j]?
 got:∀p∈L,∃x x',σ.servs[p.1]? = some x/\τ.servs[p.1]? = some x'/\x.sec=0/\x'.sec≠0/\x'.s=x.s/\x'.id=x.id/\x'.jobs=x.jobs/\x'.num=x.num/\x'.ran=x.ran
theorem yG{B R:Int}:∀{L:List (Nat×Int)} {σ : St},Iw B R σ->(∀p∈L,NR σ p)->(L.map (·.1)).Nodup->Iw B R (eF σ L).1/\Granted σ (eF σ L).1 L
 | [],σ,h,_,_=>⟨h,rfl,rfl,rfl,rfl,rfl,fun _ _=>rfl,fun p hp=>by cases hp⟩
 | (i,q)::r,σ,h,ha,hn=>by
  obtain⟨x,hx,hs,hq,q1,q2,hm⟩:=ha (i,q) (gQ9 ..);obtain⟨n,rfl⟩:∃n:Nat,q=(n:Int)+1:=⟨(q-1).toNat,by simp at q1;omega⟩;simp only at hx hq q1 q2;have hnl:n < σ.sems.length:=by omega
  have hl:=gQ2 hnl;have h1:=Kw h hx hs hq hnl;obtain⟨g1,g2,g3,g4,g5,g6,x',g7,g8,g9,g10,g11,g12,g13⟩:=Gj hx hl;rw[List.map_cons,List.nodup_cons]at hn;have hne:∀p∈r,p.1≠i:=fun p hp e=>hn.1 (List.mem_map.2 ⟨p,hp,e⟩)
  obtain⟨k1,k2⟩:=yG (L:=r) h1 (fun p hp=>by
   obtain⟨y,hy,a,b,c,d,e⟩:=ha p (gQ5 _ hp);exact⟨y,by rw[g2 _ (hne p hp)];exact hy,a,b,c,by rw[g3];exact d,e⟩) hn.2
  refine⟨k1,k2.m.trans g4,k2.now.trans g5,k2.backs.trans g6,k2.ids.trans g1,k2.sems.trans g3,fun j hj=>?_,fun p hp=>?_⟩
  .rw[show (eF σ ((i,(n:Int)+1)::r)).1=(eF (eU σ i ((n:Int)+1)).1 r).1 from rfl,k2.other j (fun p hp=>hj p (gQ5 _ hp)),g2 j (fun e=>hj (i,(n:Int)+1) (gQ9 ..) e.symm)]
  .rcases List.mem_cons.1 hp with e|hp
   .subst e;refine⟨x,x',hx,?_,hs,g8,g9,g10,g11,g12,g13⟩;rw[show (eF σ ((i,(n:Int)+1)::r)).1=(eF (eU σ i ((n:Int)+1)).1 r).1 from rfl,k2.other _ (fun p hp=>hne p hp)];exact g7
   .obtain⟨y,y',a,b,c⟩:=k2.got p hp;refine⟨y,y',?_,b,c⟩;rw[g2 _ (hne p hp)]at a;exact a
theorem BH{B:Int}{σ : St}(h:Iv B σ):∀p∈asks σ,NR σ p:=fun p hp=>by
 obtain⟨x,hx,_,hm,hs,hq,h1,h2,_⟩:=qK h hp;exact⟨x,hx,hs,hq,h1,h2,hm⟩
theorem H1{B:Int}{σ : St}(h:Iv B σ):((asks σ).map (·.1)).Nodup:=by
 unfold asks;rw[List.Nodup,List.pairwise_map,List.pairwise_filterMap];refine(List.Pairwise.and_mem.1 (BI σ)).imp fun{a b} hab=>?_
 obtain⟨ha,hb,hne⟩:=hab;obtain⟨x,hx,rfl,_⟩:=jC h ha;obtain⟨y,hy,rfl,_⟩:=jC h hb;intro p hp p' hp' e;rw[hx]at hp;rw[hy]at hp';simp only at hp hp';have e1:p.1=at_ σ.servs x.id:=by
  split at hp
  .cases hp
  .cases hc:((dI _).2&&(cR 0 (dI _).1.1&&cT x.sec 0))with
   | true=>rw[hc]at hp;cases hp;rfl
   | false=>rw[hc]at hp;cases hp
 have e2:p'.1=at_ σ.servs y.id:=by
  split at hp'
  .cases hp'
  .cases hc:((dI _).2&&(cR 0 (dI _).1.1&&cT y.sec 0))with
   | true=>rw[hc]at hp';cases hp';rfl
   | false=>rw[hc]at hp';cases hp'
 rw[<-e1,e,e2,hy]at hx;cases hx;exact hne rfl
end Go.AX.pm
namespace Go.AX.pl
open Go.AX
def Fixes(m:Int)(l:List E)(e e':E):Prop:=e'.1=e.1/\e'.2.1=e.2.1/\(e'.2.2=e.2.2∨(e.1∈pick m l/\e'.2.2=true))
theorem Gt{R:E->E->Prop}(hR:∀a b,R a b->b.1=a.1):∀{l l':List E},All2 R l l'->ids l'=ids l
 | _,_,.nil=>rfl
 | _,_,.cons h r=>by unfold ids;rw[List.map_cons,List.map_cons,hR _ _ h];congr 1;exact Gt hR r
theorem Ad{R:E->E->Prop}{p q:E->Bool}(h:∀a b,R a b->p a=true->q b=true):∀{l l':List E},All2 R l l'->l.countP p<=l'.countP q
 | _,_,.nil=>gQ4 _
 | _,_,.cons (a:=a) (b:=b) hab r=>by
  rw[List.countP_cons,List.countP_cons];have:=Ad h r;cases hp:p a with
  | true=>rw[h _ _ hab hp];simp;exact this
  | false=>simp;omega
theorem uQ{R:E->E->Prop}:∀{l l':List E},All2 R l l'->∀{b:E},b∈l'->∃a∈l,R a b
 | _,_,.nil,b,h=>by cases h
 | _,_,.cons hab r,b,h=>by
  rcases List.mem_cons.1 h with e|h
  .subst e;exact⟨_,gQ9 ..,hab⟩
  .obtain⟨a,ha,hR⟩:=uQ r h;exact⟨a,gQ5 _ ha,hR⟩
theorem Db(m:Int)(l:List E):(pick m l).Nodup:=(pick_strict (m:=m) (l:=l)).imp fun h=>by omega
theorem pick_fix{m:Int}{l l':List E}(h:Good m l)(ha:All2 (Fixes m l) l l'):Good m l'/\pick m l'=pick m l:=by
 have hids:=Gt (fun a b h=>h.1) ha;have hlen:l.length=l'.length:=ha.len;have inpick:∀e∈l,e.2.2=true->e.1∈pick m l:=fun e he hf=>(zY h he).2 (BB h he hf)
 have hG:Good m l':=by
  refine⟨h.m1,h.m2,by rw[<-hlen];exact h.len,fun x hx=>?_,by rw[hids];exact h.nd,?_⟩
  .obtain⟨a,ha,hR⟩:=uQ ha hx;rw[hR.1];exact h.id a ha
  .have hsub:((l'.filter (·.2.2)).map (·.1)).length<=(pick m l).length:=by
    refine List.Nodup.length_le_of_subset ?_ ?_
    .have:(ids l').Nodup:=by rw[hids];exact h.nd
     exact this.sublist ((List.filter_sublist ..).map _)
    .intro i hi;obtain⟨e',he',rfl⟩:=List.mem_map.1 hi;rw[List.mem_filter]at he';obtain⟨e,he,hR⟩:=uQ ha he'.1;rw[hR.1];rcases hR.2.2 with h1|⟨h1,_⟩
     .exact inpick e he (by rw[<-h1];exact he'.2)
     .exact h1
   have h3:=pick_length h;rw[List.length_map]at hsub;unfold nfix;rw[List.countP_eq_length_filter];have:=h.m1;omega
 refine⟨hG,?_⟩;have hsub:∀i∈pick m l',i∈pick m l:=by
  intro i hi;obtain⟨y',hy',rfl⟩:=mem_pick.1 hi;have hr:=(zz hG).1 hy';obtain⟨y,hy,hR⟩:=uQ ha hr.1;rw[hR.1];rcases hR.2.2 with h1|⟨h1,_⟩
  .have e:y'=y:=Prod.ext hR.1 (Prod.ext hR.2.1 h1);subst e;rw[zY h hy];cases hf:y'.2.2 with
   | true=>exact BB h hy hf
   | false=>
    rw[zz h];refine⟨hy,Nat.lt_of_le_of_lt ?_ hr.2⟩;refine Ad (fun a b hab hl=>?_) ha;rw[tD]at hl ⊢;rw[hab.1,hab.2.1,hf]at *;rcases hab.2.2 with h2|⟨_,h2⟩
    .rw[h2];exact hl
    .rw[h2];exact .inl ⟨rfl,rfl⟩
  .exact h1
 have hle:(pick m l).length=(pick m l').length:=by rw[pick_length h,pick_length hG,hlen]
 have hperm:(pick m l').Perm (pick m l):=by
  rw[List.perm_ext_iff_of_nodup (Db _ _) (Db _ _)];intro i;refine⟨hsub i,fun hi=>?_⟩;by_cases hc:i∈pick m l'
  .exact hc
  .have:=List.Nodup.length_le_of_subset (l₁:=i::pick m l') (l₂:=pick m l) (List.nodup_cons.2 ⟨hc,Db _ _⟩) (fun x hx=>by
    rcases List.mem_cons.1 hx with e|hx
    ·subst e;exact hi
    ·exact hsub x hx)
   rw[List.length_cons]at this;omega
 exact hperm.eq_of_pairwise (le:=fun x y=>x<=y) (fun a b _ _ h1 h2=>by omega) (pick_strict.imp fun h=>by omega) (pick_strict.imp fun h=>by omega)
end Go.AX.pl
namespace Go.AX.pm
open Go.AX
noncomputable def AL(σ : St):List pl.E:=(ready σ.servs).map Serv.ent
theorem D4{B:Int}{σ : St}(h:Iv B σ):pl.Good σ.m (AL σ):=by
 refine⟨h.m1,h.m2,?_,fun x hx=>?_,?_,h.fix⟩
 .unfold AL;rw[List.length_map];have:=List.length_filter_le (fun v:Serv=>cT v.s.mode 1) σ.servs;have:=h.len1;unfold ready;omega
 .obtain⟨v,hv,rfl⟩:=List.mem_map.1 hx;have hv:=(List.mem_filter.1 hv).1;have:=h.serv v hv;exact⟨by have:=this.id1;show 0<=v.id;omega,by have:=this.id2;show v.id<=1023;omega⟩
 .unfold pl.ids AL;rw[List.map_map];exact(Rise.nd h.rise).sublist ((List.filter_sublist ..).map _)
theorem Ae{α β : Type}{R:α->β->Prop}{p:α->Bool}{q:β->Bool}(h:∀a b,R a b->p a=q b):∀{l:List α} {k:List β},All2 R l k->All2 R (l.filter p) (k.filter q)
 | _,_,.nil=>.nil
 | _,_,.cons (a:=a) (b:=b) hab r=>by
  rw[List.filter_cons,List.filter_cons,h _ _ hab];have:=Ae h r;split
  .exact .cons hab this
  .exact this
theorem tM{α β γ δ : Type}{R:α->β->Prop}{S:γ->δ->Prop}{f:α->γ}{g:β->δ}(h:∀a b,R a b->S (f a) (g b)):∀{l:List α} {k:List β},All2 R l k->All2 S (l.map f) (k.map g)
 | _,_,.nil=>.nil
 | _,_,.cons hab r=>.cons (h _ _ hab) (tM h r)
def Gr(σ : St)(x x':Serv):Prop:=x'.id=x.id/\x'.s=x.s/\x'.jobs=x.jobs/\x'.num=x.num/\x'.ran=x.ran/\(x'=x∨(x.id∈bm σ/\x.sec=0/\x'.sec≠0/\1<=headSem x))
theorem vu{B:Int}{σ τ : St}(h:Iv B σ)(hg:Granted σ τ (asks σ)):All2 (Gr σ) σ.servs τ.servs:=by
 have hl:σ.servs.length = τ.servs.length:=by have:=congrArg List.length hg.ids;simpa using this.symm
 refine All2.of hl fun j x x' hx hx'=>?_
 by_cases hc:∃p∈asks σ,p.1=j
 .obtain⟨p,hp,rfl⟩:=hc;obtain⟨y,y',hy,hy',a,b,c,d,e,f,g⟩:=hg.got p hp;rw[hx]at hy;cases hy;rw[hx']at hy';cases hy';obtain⟨z,hz,h1,_,_,h2,h3,_⟩:=qK h hp;rw[hx]at hz;cases hz;exact⟨d,c,e,f,g,.inr ⟨h1,a,b,by omega⟩⟩
 .have:=hg.other j (fun p hp e=>hc ⟨p,hp,e⟩);rw[hx,hx']at this;cases this;exact⟨rfl,rfl,rfl,rfl,rfl,.inl rfl⟩
theorem Ox{σ τ : St}(ha:All2 (Gr σ) σ.servs τ.servs):All2 (pl.Fixes σ.m (AL σ)) (AL σ) (AL τ):=by
 refine tM (R:=Gr σ) (fun a b hab=>?_) (Ae (fun a b hab=>by rw[hab.2.1]) ha);refine⟨hab.1,by show b.s.due=a.s.due;rw[hab.2.1],?_⟩;rcases hab.2.2.2.2.2 with e|⟨h1,h2,h3,_⟩
 .rw[e];exact .inl rfl
 .exact .inr ⟨h1,iw.2 h3⟩
theorem rG{B:Int}{σ : St}(h:Iv B σ):Iv B (eF σ (asks σ)).1/\Granted σ (eF σ (asks σ)).1 (asks σ)/\bm (eF σ (asks σ)).1=bm σ:=by
 obtain⟨h1,h2⟩:=yG h.toIw (BH h) (H1 h);generalize (eF σ (asks σ)).1 = τ at h1 h2;have ha:=vu h h2;obtain⟨p1,p2⟩:=pl.pick_fix (D4 h) (Ox ha);refine⟨{ toIw:=by rw[h2.now];exact h1,idle:=fun x' hx'=>?_,fix:=?_ },h2,?_⟩
 .obtain⟨i,hi⟩:=List.getElem?_of_mem hx';obtain⟨x,hx,hR⟩:=ha.get' hi;have:=h.idle x (gQ3 hx);unfold Idl at this ⊢;rw[hR.2.2.1,hR.2.1];exact this
 .rw[h2.m];exact p1.fx
 .unfold bm;rw[h2.m];exact p2
def rk(σ : St):Prop:=∀x∈σ.servs,x.id∈bm σ->x.sec=0->headSem x<=0
theorem Gu{B:Int}{σ : St}(h:Iv B σ):rk (eF σ (asks σ)).1:=by
 obtain⟨h1,h2,h3⟩:=rG h;generalize (eF σ (asks σ)).1 = τ at h1 h2 h3;intro x' hx' hr hs;rw[h3]at hr;have ha:=vu h h2;obtain⟨i,hi⟩:=List.getElem?_of_mem hx';obtain⟨x,hx,hR⟩:=ha.get' hi;rcases hR.2.2.2.2.2 with e|⟨_,_,h5,_⟩
 .subst e;rcases Int.lt_or_le 0 (headSem x')with hpos|hle
  .exfalso;have hat:=C6 h.rise hx;obtain⟨y,hy,_,_,hj⟩:=jC h hr;rw[hat,hx]at hy;cases hy;cases hjs:x'.jobs with
   | nil=>exact hj hjs
   | cons j r=>
    have hgj:=(h.serv x' (gQ3 hx)).jobs j (by rw[hjs];exact gQ9 ..);have hq:headSem x'=j.cur.1:=by unfold headSem;rw[hjs]
    have hp:(i,headSem x')∈asks σ:=by
     unfold asks;rw[List.mem_filterMap];refine⟨x'.id,hr,?_⟩;rw[hat,hx];simp only[hjs];rw[hgj.step,<-hq];have:(true&&(cR 0 (headSem x')&&cT x'.sec 0))=true:=by rw[gH.2 hpos,eH.2 hs];rfl
     rw[this];rfl
    obtain⟨z,z',a,b,_,c,_⟩:=h2.got _ hp;rw[hi]at b;cases b;exact c hs
  .exact hle
 .exact absurd hs h5
theorem jD{B:Int}{σ : St}(h:Iv B σ):Iv B (settle σ).1/\rk (settle σ).1/\(settle σ).1.m = σ.m:=by
 have h1:=nV (σ.servs.length+1) (qN h);refine⟨(rG h1).1,Gu h1,?_⟩;have:=(rG h1).2.1.m;refine this.trans ?_;have gen:∀(n:Nat) (τ : St),(du n τ).1.m = τ.m:=by
  intro n
  induction n with
  | zero=>intro τ;rfl
  | succ n ih=>
   intro τ;unfold du;split
   .rfl
   .rename_i σ' e hr;show (du n σ').1.m=_;rw[ih];obtain⟨_,_,_,_,_,_,_,e,_⟩:=jh hr;rw[e]
 exact gen _ _
end Go.AX.pm
namespace Go.AX.pm
open Go.AX
noncomputable def jI(x:Serv):List Job:=if x.sec=1 then x.jobs else match x.jobs with
 | []=>[]
 | j::r=>(eY j 1).1::r
noncomputable def qL(x:Serv):Int:=if x.sec=1 then x.held else match x.jobs with
 | []=>x.held
 | _::_=>bif cT x.sec 2 then bh .i64 x.held 1 else x.held
theorem nT(x:Serv):gW x = { x with s:=(dM x.s 1).1,ran:=bh .i64 x.ran 1,jobs:=jI x,held:=qL x }:=by
 obtain⟨i1,i2,i3,i4,i5,i6,i7⟩:=x;unfold gW jI qL;simp only;cases h:cT i4 1 with
 | true=>simp only[cond_true,eH.1 h,if_true]
 | false=>
  have:=dY.1 h;simp only[cond_false,if_neg this];cases i3 with
  | nil=>rfl
  | cons j r=>
   simp only;cases cT i4 2<;>rfl
theorem D6{k:Nat}{x:Serv}(h:GoodV k x)(hj:x.jobs≠[])(ha:x.sec=0->headSem x<=0):GoodV k (gW x)/\key (gW x)=key x/\headSem (gW x)=headSem x:=by
 rw[nT];cases hjs:x.jobs with
 | nil=>exact absurd hjs hj
 | cons j r=>
  have hgj:=h.jobs j (by rw[hjs];exact gQ9 ..);obtain⟨r1,r2,r3,r4,r5,r6⟩:=Kv hgj;have hJ:jI x=(if x.sec=1 then j else (eY j 1).1)::r:=by
   unfold jI;rw[hjs];split<;>rfl
  have hs:headSem { x with s:=(dM x.s 1).1,ran:=bh .i64 x.ran 1,jobs:=jI x,held:=qL x }=headSem x:=by
   unfold headSem;simp only[hJ,hjs];split
   .rfl
   .rw[r5]
  refine⟨?_,?_,hs⟩
  .refine { h with s:=(DU h.s).1,len:=?_,jobs:=fun y hy=>?_,rest:=fun y hy=>?_,sec:=?_,done0:=fun h2 h1=>?_ }
   .show (jI x).length<=8;have:=h.len;rw[hjs]at this;rw[hJ];exact this
   .have hy:y∈jI x:=hy;rw[hJ]at hy;rcases List.mem_cons.1 hy with e|hy
    .subst e;split
     .exact hgj
     .exact r1
    .exact h.jobs y (by rw[hjs];exact gQ5 _ hy)
   .have hy:y∈(jI x).tail:=hy;rw[hJ]at hy;exact h.rest y (by rw[hjs];exact hy)
   .rw[hs];exact h.sec
   .rw[hs]at h1;have h2:x.sec≠2:=h2;have h0:=h.done0 h2 h1;rcases h.sec with e|⟨e|e,_⟩
    .have:=ha e;omega
    .unfold headDone at h0 ⊢;simp only[hJ,hjs]at h0 ⊢;rw[if_pos e];exact h0
    .exact absurd e h2
  .unfold key;rw[hs]
theorem MD{k:Nat}{x:Serv}(h:GoodV k x)(hi:Idl x)(hm:x.s.mode=1):Idl (gW x):=by
 rw[nT];unfold Idl at *;have hne:x.jobs≠[]:=fun e=>by have:=hi.1 e;omega
 have h2:=(DU h.s).2 (by omega);constructor
 .intro e;exfalso;have e:jI x=[]:=e;unfold jI at e;split at e
  .exact hne e
  .split at e
   .rename_i hj;exact hne hj
   .cases e
 .intro e;exact absurd e h2
theorem nU:∀(L:List Nat) (σ : St),L.Nodup->(runs σ L).m = σ.m/\(runs σ L).now = σ.now/\(runs σ L).sems = σ.sems/\(runs σ L).backs = σ.backs/\(runs σ L).servs.length = σ.servs.length/\∀j,(runs σ L).servs[j]? = if j∈L then (σ.servs[j]?).map gW else σ.servs[j]?
 | [],σ,_=>⟨rfl,rfl,rfl,rfl,rfl,fun j=>by simp[runs]⟩
 | i::r,σ,hn=>by
  rw[List.nodup_cons]at hn;show let τ:=(match σ.servs[i]? with|some v=>{ σ with servs:=σ.servs.set i (gW v) }|none=>σ : St);_/\_
  intro τ;have e:runs σ (i::r)=runs τ r:=rfl;obtain⟨a,b,c,d,l,g⟩:=nU r τ hn.2;rw[e,a,b,c,d,l];have hτ0:∀v,σ.servs[i]? = some v->τ = { σ with servs:=σ.servs.set i (gW v) }:=fun v hv=>by
   show (match σ.servs[i]? with|some v=>{ σ with servs:=σ.servs.set i (gW v) }|none=>σ : St)=_;rw[hv]
  have hτ1:σ.servs[i]? = none->τ = σ:=fun hv=>by
   show (match σ.servs[i]? with|some v=>{ σ with servs:=σ.servs.set i (gW v) }|none=>σ : St) = σ;rw[hv]
  clear_value τ
  have hτ : τ.m = σ.m/\τ.now = σ.now/\τ.sems = σ.sems/\τ.backs = σ.backs/\τ.servs.length = σ.servs.length/\∀j,τ.servs[j]? = if j=i then (σ.servs[j]?).map gW else σ.servs[j]?:=by
   cases hv:σ.servs[i]? with
   | none=>
    rw[hτ1 hv];refine⟨rfl,rfl,rfl,rfl,rfl,fun j=>?_⟩;split
    .rename_i e;subst e;rw[hv];rfl
    .rfl
   | some v=>
    rw[hτ0 v hv];refine⟨rfl,rfl,rfl,rfl,by simp,fun j=>?_⟩;show (σ.servs.set i (gW v))[j]? = _;rw[List.getElem?_set];by_cases e:i=j
    .subst e;rw[if_pos rfl,if_pos rfl,if_pos (gQ1 hv).1,hv];rfl
    .rw[if_neg e,if_neg (fun h=>e h.symm)]
  obtain⟨a',b',c',d',l',g'⟩:=hτ;refine⟨a',b',c',d',l',fun j=>?_⟩;rw[g,g'];by_cases e1:j∈r
  .have:j≠i:=fun e=>hn.1 (e▸e1)
   rw[if_pos e1,if_neg this,if_pos (gQ5 _ e1)]
  .rw[if_neg e1];by_cases e2:j=i
   .subst e2;rw[if_pos rfl,if_pos (gQ9 ..)]
   .rw[if_neg e2,if_neg (fun h=>by rcases List.mem_cons.1 h with h|h<;>contradiction)]
def Fw(σ : St)(L:List Nat):Prop:=L.Nodup/\∀p∈L,∃x,σ.servs[p]? = some x/\x.s.mode=1/\x.jobs≠[]/\(x.sec=0->headSem x<=0)
theorem Ou{B:Int}{σ : St}(h:Iv B σ){L:List Nat}(hL:Fw σ L):Iw B (σ.now+1) (runs σ L)/\(∀x∈(runs σ L).servs,Idl x)/\(fixed (runs σ L):Int)<=σ.m:=by
 obtain⟨hn,hp⟩:=hL;obtain⟨e1,e2,e3,e4,e5,e6⟩:=nU L σ hn;have hx:∀j x',(runs σ L).servs[j]? = some x'->∃x,σ.servs[j]? = some x/\(x'=x∨(x'=gW x/\x.s.mode=1/\x.jobs≠[]/\(x.sec=0->headSem x<=0))):=fun j x' hj=>by
  rw[e6]at hj;split at hj
  .rename_i hm;obtain⟨x,hx,a,b,c⟩:=hp j hm;rw[hx]at hj;cases hj;exact⟨x,hx,.inr ⟨rfl,a,b,c⟩⟩
  .exact⟨x',hj,.inl rfl⟩
 have hk:(runs σ L).servs.map key = σ.servs.map key:=by
  apply List.ext_getElem?;intro j;rw[List.getElem?_map,List.getElem?_map,e6];split
  .rename_i hm;obtain⟨x,hx,a,b,c⟩:=hp j hm;rw[hx];show some (key (gW x))=some (key x);rw[(D6 (h.serv x (gQ3 hx)) b c).2.1]
  .rfl
 have eq:runs σ L = { σ with servs:=(runs σ L).servs }:=by
  cases hr:runs σ L;rw[hr]at e1 e2 e3 e4;simp at e1 e2 e3 e4;simp[e1,e2,e3,e4]
 have hall:∀x'∈(runs σ L).servs,∃x∈σ.servs,(x'=x∨(x'=gW x/\x.s.mode=1/\x.jobs≠[]/\(x.sec=0->headSem x<=0))):=fun x' hm=>by
  obtain⟨j,hj⟩:=List.getElem?_of_mem hm;obtain⟨x,a,b⟩:=hx j x' hj;exact⟨x,gQ3 a,b⟩
 have h0:Iw B (σ.now+1) σ:={ h.toIw with ran:=fun x hx=>⟨(h.ran x hx).1,by have:=(h.ran x hx).2;omega⟩,back:=fun b hb=>⟨(h.back b hb).1,(h.back b hb).2.1,(h.back b hb).2.2.1,by have:=(h.back b hb).2.2.2;omega⟩ };refine⟨?_,fun x' hm=>?_,?_⟩
 .rw[eq];refine h0.withS hk (fun x' hm=>?_) (fun x' hm=>?_) (fun x' hm=>?_)
  .obtain⟨x,hx,e|⟨e,a,b,c⟩⟩:=hall x' hm
   .subst e;exact h.serv x' hx
   .subst e;exact(D6 (h.serv x hx) b c).1
  .obtain⟨x,hx,e|⟨e,a,b,c⟩⟩:=hall x' hm
   .subst e;exact h.num x' hx
   .subst e;rw[nT];exact h.num x hx
  .obtain⟨x,hx,e|⟨e,a,b,c⟩⟩:=hall x' hm
   .subst e;exact h0.ran x' hx
   .subst e;rw[nT];have:=h.ran x hx;have:=h.now2;show 0<=bh .i64 x.ran 1/\bh .i64 x.ran 1<=σ.now+1;rw[dN (by omega) (by omega)];omega
 .obtain⟨x,hx,e|⟨e,a,b,c⟩⟩:=hall x' hm
  .subst e;exact h.idle x' hx
  .subst e;exact MD (h.serv x hx) (h.idle x hx) a
 .refine Int.le_trans (Int.ofNat_le.2 ?_) h.fix;unfold fixed;rw[nB,nB];have ha:All2 (fun x' x=>(cT x'.s.mode 1&&dT x'.sec 0)=true->(cT x.s.mode 1&&dT x.sec 0)=true) (runs σ L).servs σ.servs:=All2.of e5 fun j x' x hx' hx0=>by
   obtain⟨y,hy,e|⟨e,a,b,c⟩⟩:=hx j x' hx'
   .subst e;rw[hx0]at hy;cases hy;exact fun h=>h
   .rw[hx0]at hy;cases hy;subst e;intro hb;simp only[Bool.and_eq_true]at hb ⊢;refine⟨eH.2 a,?_⟩;have:=hb.2;rw[nT]at this;exact this
  generalize (runs σ L).servs=l' at ha;generalize σ.servs=l at ha;clear hx hall h0 eq hk e6 e5 e4 e3 e2 e1
  induction ha with
  | nil=>exact gQ4 _
  | cons hab _ ih=>
   rw[List.countP_cons,List.countP_cons];rename_i a b _ _ _;cases hb:(cT a.s.mode 1&&dT a.sec 0)with
   | true=>rw[hab hb];simp;exact ih
   | false=>simp;omega
end Go.AX.pm
namespace Go.AX.pm
open Go.AX
theorem Iw.withSL{B R:Int}{σ : St}(h:Iw B R σ){L:List Serv}{q:Nat}{l l':Lock}(hids:L.map (·.id) = σ.servs.map (·.id))(hl:σ.sems[q]? = some l)(hm:l'.most=l.most)(hg:∀x∈L,GoodV σ.sems.length x)(hn:∀x∈L,0<=x.num/\x.num<=B)(hr:∀x∈L,0<=x.ran/\x.ran<=R)
  (h1:∀r:Nat,r≠q->∀k,LockOk (σ.servs.map key) r k->LockOk (L.map key) r k) (h2:LockOk (L.map key) q l'):Iw B R { σ with servs:=L,sems:=σ.sems.set q l' }:=by
 have hlen:L.length = σ.servs.length:=by have:=congrArg List.length hids;simpa using this
 refine { h with rise:=kq hids.symm h.rise,len1:=by rw[hlen];exact h.len1,len2:=by simpa using h.len2,serv:=?_,num:=hn,ran:=hr,most:=fK h.most (by rw[hm];exact h.most l (gQ3 hl)),lock:=fun r k hk=>?_ }
 .show ∀y∈L,GoodV (σ.sems.set q l').length y;rw[List.length_set];exact hg
 .have hk:(σ.sems.set q l')[r]? = some k:=hk;rw[List.getElem?_set]at hk;by_cases e:q=r
  .subst e;rw[if_pos rfl,if_pos (gQ1 hl).1]at hk;cases hk;exact h2
  .rw[if_neg e]at hk;exact h1 r (fun h=>e h.symm) k (h.lock r k hk)
theorem uK{B R:Int}{σ : St}(h:Iw B R σ){q:Nat}{l:Lock}(hl:σ.sems[q]? = some l){y:Int}(hy:y∈l.queue):∃v,σ.servs[at_ σ.servs y]? = some v/\v.id=y/\v.sec=1/\headSem v=(q:Int)+1:=by
 have:=(h.lock q l hl).wait y;obtain⟨v,hv,e⟩:=List.mem_map.1 (this.1 hy);unfold key at e;simp only[Prod.mk.injEq]at e;obtain⟨rfl,e2,e3⟩:=e;rw[if_neg (by omega)]at e3;exact⟨v,at_mem h.rise hv,rfl,e2,e3⟩
theorem yD{B R:Int}{σ : St}(h:Iw B R σ){i:Nat}{x:Serv}(hx:σ.servs[i]? = some x)(hs:x.sec=2):∃q l,headSem x=((q:Nat):Int)+1/\σ.sems[q]? = some l/\l.holder=x.id/\key x=(x.id,2,(q:Int)+1)/\x.jobs≠[]:=by
 have hg:=h.serv x (gQ3 hx);have h1:1<=headSem x:=by rcases hg.sec with e|⟨_,e⟩<;>omega
 cases hjs:x.jobs with
 | nil=>unfold headSem at h1;rw[hjs]at h1;simp at h1
 | cons j r=>
  have hgj:=hg.jobs j (by rw[hjs];exact gQ9 ..);have he:headSem x=j.cur.1:=by unfold headSem;rw[hjs]
  have:=hgj.cur.2.1;obtain⟨q,hq⟩:∃q:Nat,headSem x=(q:Int)+1:=⟨(headSem x-1).toNat,by omega⟩;have hl:=gQ2 (show q < σ.sems.length by omega);generalize σ.sems[q]=l at hl;have hk:key x=(x.id,2,(q:Int)+1):=by rw[Gg (by omega),hs,hq]
  refine⟨q,l,hq,hl,?_,hk,by simp⟩;have:=((h.lock q l hl).hold x.id).2 (by rw[<-hk];exact List.mem_map_of_mem (gQ3 hx));exact this.2
theorem wW{σ : St}{q:Nat}{l:Lock}(t:Bool)(hl:σ.sems[q]? = some l)(hq:l.queue=[]):free σ ((q:Int)+1) t=({ σ with sems:=σ.sems.set q { l with holder:=0,dead:=t } },[]):=by
 unfold free;rw[show ((q:Int)+1-1).toNat=q by omega,hl];simp only[hq]
theorem wX{σ : St}{q:Nat}{l:Lock}(t:Bool){y:Int}{r:List Int}{v:Serv}(hl:σ.sems[q]? = some l)(hq:l.queue=y::r)(hv:σ.servs[at_ σ.servs y]? = some v):free σ ((q:Int)+1) t=({ σ with sems:=σ.sems.set q { l with holder:=y,queue:=r },servs:=σ.servs.set (at_ σ.servs y) { v with sec:=2,held:=0 } },(bif t then [dS σ 7 y 0] else [])++[dS σ 6 y ((q:Int)+1)]):=by
 unfold free;rw[show ((q:Int)+1-1).toNat=q by omega,hl];simp only[hq,hv]
def Next(x x':Serv):Prop:=x'=x∨(x.sec=1/\x' = { x with sec:=2,held:=0 })
theorem Pv{B R:Int}{σ : St}(h:Iw B R σ){i q:Nat}{x x':Serv}{l:Lock}(t:Bool)(hx:σ.servs[i]? = some x)(hk:key x=(x.id,2,(q:Int)+1))(hl:σ.sems[q]? = some l)(hh:l.holder=x.id)(hid:x'.id=x.id)(hs:x'.sec=0)(hg:GoodV σ.sems.length x')(hn:0<=x'.num/\x'.num<=B)(hr:0<=x'.ran/\x'.ran<=R) :
  let τ:=(free { σ with servs:=σ.servs.set i x' } ((q:Int)+1) t).1
  Iw B R τ/\τ.m = σ.m/\τ.now = σ.now/\τ.backs = σ.backs/\τ.sems.length = σ.sems.length/\τ.servs.map (·.id) = σ.servs.map (·.id)/\τ.servs[i]? = some x'/\(∀j y,j≠i->σ.servs[j]? = some y->∃y',τ.servs[j]? = some y'/\Next y y'):=by
 have hi:=(gQ1 hx).1;have hc:(σ.servs.map key)[i]? = some (key x):=by rw[List.getElem?_map,hx];rfl
 have hnd:=C2 h;have hL:=h.lock q l hl;have hids:(σ.servs.set i x').map (·.id) = σ.servs.map (·.id):=jH hx hid;have uq:∀s a,(x.id,s,a)∈σ.servs.map key->s=2:=fun s a hz=>by
  have:=Gh hnd hc hz rfl;rw[hk]at this;simp at this;exact this.1
 have e0:key x'=(x.id,0,0):=by rw[wY hs,hid]
 have hm1:∀z,z∈(σ.servs.map key).set i (x.id,0,0)↔z=(x.id,0,0)∨(z∈σ.servs.map key/\z.1≠x.id):=fun z=>tF (a:=(x.id,0,0)) hnd hc rfl z
 have nof:∀(s:Int) (r:Nat),s≠0->∀id,(id,s,(r:Int)+1)≠(x.id,0,0):=fun s r hs id e=>by
  simp at e;exact hs e.2.1
 intro τ;cases hq:l.queue with
 | nil=>
  have hτ : τ = { σ with servs:=σ.servs.set i x',sems:=σ.sems.set q { l with holder:=0,dead:=t } }:=by
   show (free { σ with servs:=σ.servs.set i x' } ((q:Int)+1) t).1=_;rw[wW (σ:={ σ with servs:=σ.servs.set i x' }) t hl hq]
  clear_value τ
  subst hτ;refine⟨?_,rfl,rfl,rfl,by simp,hids,?_,fun j y hj hy=>⟨y,?_,.inl rfl⟩⟩
  .refine h.withSL (l':={ l with holder:=0,dead:=t }) hids hl rfl (fK h.serv hg) (fK h.num hn) (fK h.ran hr) (fun r hr' k hk'=>?_) ?_
   .rw[lV,e0];exact hk'.other hnd hc rfl (by rw[hk];simp;omega) (by simp;omega)
   .rw[lV,e0];refine⟨by rw[show ({ l with holder:=0,dead:=t }:Lock).queue=l.queue from rfl];exact hL.nd,fun id=>?_,fun id=>?_,fun _=>hq⟩
    .rw[hm1];rw[show ({ l with holder:=0,dead:=t }:Lock).queue=l.queue from rfl,hL.wait];constructor
     .intro hz;refine .inr ⟨hz,fun e=>?_⟩;rw[show (id,(1:Int),(q:Int)+1).1=id from rfl]at e;subst e;have:=uq _ _ hz;omega
     .rintro(e|⟨hz,_⟩)
      .exact absurd e (nof 1 q (by omega) id)
      .exact hz
    .rw[hm1];constructor
     .rintro⟨h1,h2⟩;exact absurd h2.symm h1
     .rintro(e|⟨hz,hne⟩)
      .exact absurd e (nof 2 q (by omega) id)
      .have:=(hL.hold id).2 hz;rw[hh]at this;exact absurd this.2.symm hne
  .show (σ.servs.set i x')[i]? = _;rw[List.getElem?_set,if_pos rfl,if_pos hi]
  .show (σ.servs.set i x')[j]? = _;rw[List.getElem?_set,if_neg (fun h=>hj h.symm)];exact hy
 | cons y r=>
  obtain⟨v,hv,hvid,hvs,hvh⟩:=uK h hl (y:=y) (by rw[hq];exact gQ9 ..);have hki:at_ σ.servs y≠i:=fun e=>by
   rw[e,hx]at hv;cases hv;have:=congrArg (·.2.1) hk;unfold key at this;simp at this;omega
  have hat:at_ (σ.servs.set i x') y=at_ σ.servs y:=nA hids y
  generalize hp:at_ σ.servs y=p at hv hki hat
  have hv':(σ.servs.set i x')[p]? = some v:=by rw[List.getElem?_set,if_neg (fun h=>hki h.symm)];exact hv
  have hτ : τ = { σ with servs:=(σ.servs.set i x').set p { v with sec:=2,held:=0 },sems:=σ.sems.set q { l with holder:=y,queue:=r } }:=by
   show (free { σ with servs:=σ.servs.set i x' } ((q:Int)+1) t).1=_;rw[wX (σ:={ σ with servs:=σ.servs.set i x' }) t hl hq (by show (σ.servs.set i x')[at_ (σ.servs.set i x') y]? = some v;rw[hat];exact hv')];show ({ σ with servs:=(σ.servs.set i x').set (at_ (σ.servs.set i x') y) _,sems:=_ }:St)=_;rw[hat]
  clear_value τ
  subst hτ;have hvm:=gQ3 hv;have hgv:=h.serv v hvm;have hids2:((σ.servs.set i x').set p { v with sec:=2,held:=0 }).map (·.id) = σ.servs.map (·.id):=(jH (x':={ v with sec:=2,held:=0 }) hv' rfl).trans hids;have e2:key { v with sec:=2,held:=0 }=(y,2,(q:Int)+1):=by
   rw[Gg (by simp),<-hvh,<-hvid];rfl
  have e3:key v=(y,1,(q:Int)+1):=by rw[Gg (by omega),hvs,hvh,hvid]
  have hyx:y≠x.id:=fun e=>by
   have:(x.id,(1:Int),(q:Int)+1)∈σ.servs.map key:=by rw[<-e,<-e3];exact List.mem_map_of_mem hvm
   have:=uq _ _ this;omega
  have hnd1:(((σ.servs.map key).set i (x.id,0,0)).map (·.1)).Nodup:=by
   have:((σ.servs.map key).set i (x.id,0,0)).map (·.1)=(σ.servs.set i x').map (·.id):=by rw[<-e0,<-lV,oY]
   rw[this,hids];exact Rise.nd h.rise
  have hc1:((σ.servs.map key).set i (x.id,0,0))[p]? = some (y,1,(q:Int)+1):=by
   rw[List.getElem?_set,if_neg (fun h=>hki h.symm),List.getElem?_map,hv,<-e3];rfl
  have hm2:∀z,z∈((σ.servs.map key).set i (x.id,0,0)).set p (y,2,(q:Int)+1)↔z=(y,2,(q:Int)+1)∨(z∈(σ.servs.map key).set i (x.id,0,0)/\z.1≠y):=fun z=>tF (a:=(y,2,(q:Int)+1)) hnd1 hc1 rfl z
  have hnq:=hL.nd;rw[hq,List.nodup_cons]at hnq;refine⟨?_,rfl,rfl,rfl,by simp,hids2,?_,fun j u hj hu=>?_⟩
  .refine h.withSL (l':={ l with holder:=y,queue:=r }) hids2 hl rfl ?_ ?_ ?_ (fun r' hr' k hk'=>?_) ?_
   .exact fK (fK h.serv hg) { hgv with sec:=.inr ⟨.inr rfl,by show 1<=headSem v;omega⟩,done0:=fun h _=>absurd rfl h }
   .exact fK (fK h.num hn) (h.num v hvm)
   .exact fK (fK h.ran hr) (h.ran v hvm)
   .rw[lV,lV,e0,e2];refine(hk'.other (r:=r') (a:=(x.id,0,0)) hnd hc rfl (by rw[hk];simp;omega) (by simp;omega)).other hnd1 hc1 rfl (by simp;omega) (by simp;omega)
   .rw[lV,lV,e0,e2];refine⟨hnq.2,fun id=>?_,fun id=>?_,fun h0=>?_⟩
    .rw[hm2,hm1];constructor
     .intro hid;have h1:(id,(1:Int),(q:Int)+1)∈σ.servs.map key:=(hL.wait id).1 (by rw[hq];exact gQ5 _ hid);refine .inr ⟨.inr ⟨h1,fun e=>?_⟩,fun e=>?_⟩
      .rw[show (id,(1:Int),(q:Int)+1).1=id from rfl]at e;subst e;have:=uq _ _ h1;omega
      .rw[show (id,(1:Int),(q:Int)+1).1=id from rfl]at e;subst e;exact hnq.1 hid
     .rintro(e|⟨e|⟨hz,_⟩,hne⟩)
      .simp at e
      .exact absurd e (nof 1 q (by omega) id)
      .have:=(hL.wait id).2 hz;rw[hq]at this;rcases List.mem_cons.1 this with e|e
       .exact absurd e hne
       .exact e
    .rw[hm2,hm1];constructor
     .rintro⟨_,e⟩;have e:y=id:=e;exact .inl (by rw[e])
     .rintro(e|⟨e|⟨hz,hne⟩,_⟩)
      .simp at e;have:=hgv.id1;exact⟨by omega,e.symm⟩
      .exact absurd e (nof 2 q (by omega) id)
      .have:=(hL.hold id).2 hz;rw[hh]at this;exact absurd this.2.symm hne
    .have h0:y=0:=h0;have:=hgv.id1;omega
  .show ((σ.servs.set i x').set p _)[i]? = _;rw[List.getElem?_set,if_neg hki,List.getElem?_set,if_pos rfl,if_pos hi]
  .show ∃y',((σ.servs.set i x').set p _)[j]? = some y'/\_;by_cases e:p=j
   .subst e;rw[hv]at hu;cases hu;refine⟨_,?_,.inr ⟨hvs,rfl⟩⟩;rw[List.getElem?_set,if_pos rfl,if_pos (by rw[List.length_set];exact(gQ1 hv).1)]
   .refine⟨u,?_,.inl rfl⟩;rw[List.getElem?_set,if_neg e,List.getElem?_set,if_neg (fun h=>hj h.symm)];exact hu
end Go.AX.pm
