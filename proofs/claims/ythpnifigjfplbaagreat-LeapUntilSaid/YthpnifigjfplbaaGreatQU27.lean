import Derived.Test.YthpnifigjfplbaaGreatQU26
set_option linter.unusedSimpArgs false
set_option linter.unusedVariables false
set_option linter.unusedSectionVars false
namespace Go.AX.pm
open Go.AX
noncomputable section
def iu:Nat->St->List Ev
 | 0,_=>[]
 | k+1,s=>iu k s++(tick (dK k s)).2.1
theorem oI:∀(k:Nat) (s:St),dK (k+1) s=dK k (tick s).1
 | 0,_=>rfl
 | k+1,s=>by
  show (tick (dK (k+1) s)).1=(tick (dK k (tick s).1)).1;rw[oI k s]
theorem uN:∀(k:Nat) (s:St),iu (k+1) s=(tick s).2.1++iu k (tick s).1
 | 0,s=>by show []++(tick s).2.1=(tick s).2.1++[];simp
 | k+1,s=>by
  show iu (k+1) s++(tick (dK (k+1) s)).2.1=(tick s).2.1++(iu k (tick s).1++(tick (dK k (tick s).1)).2.1);rw[uN k s,oI k s,List.append_assoc]
theorem uO:∀(a b:Nat) (s:St),dK (a+b) s=dK b (dK a s)
 | a,0,_=>rfl
 | a,b+1,s=>by
  show (tick (dK (a+b) s)).1=(tick (dK b (dK a s))).1;rw[uO a b s]
theorem sW:∀(a b:Nat) (s:St),iu (a+b) s=iu a s++iu b (dK a s)
 | a,0,_=>by show iu a _=_++[];simp
 | a,b+1,s=>by
  show iu (a+b) s++(tick (dK (a+b) s)).2.1=iu a s++(iu b (dK a s)++(tick (dK b (dK a s))).2.1);rw[sW a b s,uO a b s,List.append_assoc]
theorem yH{B:Int}{σ : St}(h:Iv B σ):∀(k:Nat),σ.now+k<=4611686018427387904->(dK k σ).now = σ.now+k
 | 0,_=>by show σ.now=_;simp
 | k+1,hk=>by
  have ih:=yH h k (by omega);have:=(zA (lU h k).1).2.2.2.1;show (tick (dK k σ)).1.now=_;rw[this,ih,if_pos (by omega)];omega
theorem yI{B:Int}{σ : St}(h:Iv B σ)(hn:σ.now<4611686018427387904)(k:Nat):dK (k+1) (settle σ).1=dK (k+1) σ/\iu (k+1) σ = (settle σ).2++iu (k+1) (settle σ).1:=by
 obtain⟨p1,p2,_⟩:=Aa h hn;rw[oI,oI,uN,uN,p1,p2,List.append_assoc];exact⟨rfl,rfl⟩
def headN(x:Serv):Int:=match x.jobs with
 | []=>0
 | j::_=>j.cur.2
def mostAt(s:St)(q:Int):Int:=match s.sems[(q-1).toNat]? with
 | some l=>l.most
 | none=>0
def mn(s:St)(run:List Int)(most:Int)(v:Serv):Int:=
 let a:=if v.s.mode≠0/\s.now<v.s.due then min most (v.s.due-s.now) else most
 if v.id∈run then
  let b:=min a (v.s.bud-1)
  let c:=if v.sec≠1 then min b (headN v-headDone v-1) else b
  if v.sec=2 then min c (mostAt s (headSem v)-v.held-1) else c
 else a
def still(s:St)(most:Int):Int:=max (s.servs.foldl (mn s (bm s)) most) 0
structure Lasts (s:St) (run:List Int) (k:Int) (v:Serv):Prop where
 due:v.s.mode≠0->s.now<v.s.due->k<=v.s.due-s.now
 bud:v.id∈run->k<=v.s.bud-1
 job:v.id∈run->v.sec≠1->k<=headN v-headDone v-1
 sem:v.id∈run->v.sec=2->k<=mostAt s (headSem v)-v.held-1
theorem KF{s:St}{run:List Int}{most k:Int}{v:Serv}(h:k<=mn s run most v):k<=most/\Lasts s run k v:=by
 unfold mn at h;simp only at h;have ha:∀{a:Int},k<=(if v.s.mode≠0/\s.now<v.s.due then min most (v.s.due-s.now) else most)->k<=most/\(v.s.mode≠0->s.now<v.s.due->k<=v.s.due-s.now):=by
  intro _ h;split at h
  .exact⟨by omega,fun _ _=>by omega⟩
  .rename_i hn;exact⟨h,fun h1 h2=>absurd ⟨h1,h2⟩ hn⟩
 by_cases hr:v.id∈run
 .rw[if_pos hr]at h;generalize hA:(if v.s.mode≠0/\s.now<v.s.due then min most (v.s.due-s.now) else most)=A at h ha;by_cases h2:v.sec=2
  .rw[if_pos h2,if_pos (by omega)]at h;obtain⟨a1,a2⟩:=ha (a:=0) (by omega);exact⟨a1,a2,fun _=>by omega,fun _ _=>by omega,fun _ _=>by omega⟩
  .rw[if_neg h2]at h;by_cases h1:v.sec=1
   .rw[if_neg (by omega)]at h;obtain⟨a1,a2⟩:=ha (a:=0) (by omega);exact⟨a1,a2,fun _=>by omega,fun _ e=>absurd h1 e,fun _ e=>absurd e h2⟩
   .rw[if_pos h1]at h;obtain⟨a1,a2⟩:=ha (a:=0) (by omega);exact⟨a1,a2,fun _=>by omega,fun _ _=>by omega,fun _ e=>absurd e h2⟩
 .rw[if_neg hr]at h;obtain⟨a1,a2⟩:=ha (a:=0) h;exact⟨a1,a2,fun e=>absurd e hr,fun e=>absurd e hr,fun e=>absurd e hr⟩
theorem Ab{s:St}{run:List Int}{k:Int}:∀{l:List Serv} {most:Int},k<=l.foldl (mn s run) most->k<=most/\∀v∈l,Lasts s run k v
 | [],_,h=>⟨h,fun v hv=>by cases hv⟩
 | x::r,most,h=>by
  obtain⟨h1,h2⟩:=Ab (l:=r) h;obtain⟨h3,h4⟩:=KF h1;exact⟨h3,fun v hv=>by
   rcases List.mem_cons.1 hv with rfl|hv
   ·exact h4
   ·exact h2 v hv⟩
theorem Gm{s:St}{most k:Int}(hk:1<=k)(h:k<=still s most):k<=most/\∀v∈s.servs,Lasts s (bm s) k v:=by
 unfold still at h;exact Ab (by omega)
def eD(run:List Int)(n:Int)(v:Serv):Serv:=if v.id∈run then
  { v with s:=(dM v.s n).1,ran:=v.ran+n,jobs:=if v.sec=1 then v.jobs else (match v.jobs with|[]=>[]|j::r=>(eY j n).1::r),held:=if v.sec=2 then v.held+n else v.held }
 else v
def nW:Nat->List Back->Nat->List Back
 | 0,l,_=>l
 | k+1,l,n=>nW k (fq l n) n
def skip(s:St)(n:Int):St:=if n=0 then s else
 { s with servs:=s.servs.map (eD (bm s) n),backs:=nW n.toNat s.backs (fX s).length,now:=s.now+n }
theorem KG{σ : St}{p:Nat}{x:Serv}{j:Job}{r:List Job}(hx:σ.servs[p]? = some x)(hj:x.jobs=j::r)(hs:dI j=(j.cur,true))(hd:j.done≠j.cur.2)(hh:x.sec=2->∀l,σ.sems[(j.cur.1-1).toNat]? = some l->x.held≠l.most)(hm:x.s.mode≠2):gw σ p=(σ,[]):=by
 have e1:gE σ p=(σ,[]):=by
  unfold gE;rw[hx];simp only[hj,hs,dY.2 hd,cond_false];cases h2:cT x.sec 2 with
  | false=>simp
  | true=>
   cases hl:σ.sems[(j.cur.1-1).toNat]? with
   | none=>simp
   | some l=>simp[dY.2 (hh (eH.1 h2) l hl)]
 have e2:kQ σ p=(σ,[]):=by
  unfold kQ;rw[hx];simp only[hj,dY.2 hm,cond_false]
 unfold gw;simp only[e1,e2,List.append_nil]
theorem BM{σ : St}:∀{L:List Nat},(∀p∈L,gw σ p=(σ,[]))->ends σ L=(σ,[])
 | [],_=>rfl
 | p::r,h=>by
  unfold ends;rw[h p (gQ9 ..)];simp only[BM (L:=r) fun q hq=>h q (gQ5 _ hq),List.append_nil]
theorem C8{s:Srv}{n:Int}(h:CF s)(hm:s.mode=1)(h1:1<=n)(h2:n<=s.bud-1):(dM s n).1 = { s with bud:=s.bud-n }:=by
 have hq:=h.q2;have hp:=h.p2;have hb:=h.b2;unfold dM;rw[gA.2 h,dW.2 h1,show cR s.bud n=false from dW.2 (by omega),fF.2 hm];have e:de .i64 s.bud n=s.bud-n:=eO (by omega) (by omega);rw[e];show (ji { s with bud:=s.bud-n })=_;unfold ji;rw[show cT ({ s with bud:=s.bud-n }:Srv).bud 0=false from dY.2 (by show s.bud-n≠0;omega)];obtain⟨q,p,b,d,m⟩:=s;simp only at hm;subst hm;rfl
theorem C9{k:Nat}{j:Job}{n:Int}(h:GoodJ k j)(h1:1<=n)(h2:n<=j.cur.2-j.done):(eY j n).1 = { j with done:=j.done+n }:=by
 have hc:=h.cur;have hd:=h.done;unfold eY;rw[h.step];simp only[Bool.not_true,cond_false];have e1:de .i64 j.cur.2 j.done=j.cur.2-j.done:=eO (by omega) (by omega);have e2:fG (ke n 0) (j.cur.2-j.done)=n:=by
  unfold fG ke;rw[if_neg (by omega),if_neg (by omega)]
 rw[e1,e2,dN (by omega) (by omega)]
theorem rH{B:Int}{σ : St}(h:Iv B σ){v:Serv}(hv:v∈σ.servs)(hr:v.id∈bm σ):v.s.mode=1/\v.jobs≠[]:=by
 obtain⟨y,hy,hyid,hym,hyj⟩:=jC h hr;have:=at_mem h.rise hv;rw[this]at hy;cases hy;exact⟨hym,hyj⟩
theorem KH{B:Int}{σ : St}(h:Iv B σ)(hd:Hd σ){v:Serv}(hv:v∈σ.servs)(hr:v.id∈bm σ)(hn:σ.now<4611686018427387904):eD (bm σ) 1 v=gW v:=by
 have hran:=h.ran v hv;have hho:=hd v hv;unfold HO at hho;obtain⟨hym,hyj⟩:=rH h hv hr;rw[nT];unfold eD jI qL;rw[if_pos hr];have e1:bh .i64 v.ran 1=v.ran+1:=dN (by omega) (by omega);have e2:bh .i64 v.held 1=v.held+1:=dN (by omega) (by omega);rw[e1,e2];cases hjs:v.jobs with
 | nil=>exact absurd hjs hyj
 | cons j r=>
  by_cases h1:v.sec=1
  .simp only[h1,if_true,show ¬((1:Int)=2) by decide,if_false]
  .simp only[h1,if_false];by_cases h2:v.sec=2
   .rw[if_pos h2,eH.2 h2];rfl
   .rw[if_neg h2,dY.2 h2];rfl
theorem tJ{B:Int}{σ : St}{k:Int}(h:Iv B σ){v:Serv}(hv:v∈σ.servs)(hk:1<=k)(hl:Lasts σ (bm σ) k v):(eD (bm σ) k v).id=v.id/\(eD (bm σ) k v).sec=v.sec/\(eD (bm σ) k v).s.mode=v.s.mode/\(eD (bm σ) k v).s.due=v.s.due/\(eD (bm σ) k v).s.p=v.s.p/\headSem (eD (bm σ) k v)=headSem v/\headN (eD (bm σ) k v)=headN v/\
  (v.id∈bm σ->(eD (bm σ) k v).s.bud=v.s.bud-k/\(v.sec≠1->headDone (eD (bm σ) k v)=headDone v+k)/\(v.sec=2->(eD (bm σ) k v).held=v.held+k)):=by
 by_cases hr:v.id∈bm σ
 .obtain⟨hm,hj⟩:=rH h hv hr;have hg:=h.serv v hv;have hu:=C8 hg.s hm hk (hl.bud hr);cases hjs:v.jobs with
  | nil=>exact absurd hjs hj
  | cons j r=>
   have hgj:=hg.jobs j (by rw[hjs];exact gQ9 ..);by_cases h1:v.sec=1
   .have ew:eD (bm σ) k v = { v with s:={ v.s with bud:=v.s.bud-k },ran:=v.ran+k }:=by
     unfold eD;rw[if_pos hr,hu,if_pos h1,if_neg (by omega)]
    rw[ew];exact⟨rfl,rfl,rfl,rfl,rfl,rfl,rfl,fun _=>⟨rfl,fun e=>absurd h1 e,fun e=>absurd e (by omega)⟩⟩
   .have hjob:=hl.job hr h1;have e1:headN v=j.cur.2:=by unfold headN;rw[hjs]
    have e2:headDone v=j.done:=by unfold headDone;rw[hjs]
    have e3:headSem v=j.cur.1:=by unfold headSem;rw[hjs]
    have hjr:=C9 hgj hk (by omega);have ew:eD (bm σ) k v = { v with s:={ v.s with bud:=v.s.bud-k },ran:=v.ran+k,jobs:={ j with done:=j.done+k }::r,held:=if v.sec=2 then v.held+k else v.held }:=by
     unfold eD;rw[if_pos hr,hu,if_neg h1,hjs];simp only[hjr]
    rw[ew,e1,e2,e3];exact⟨rfl,rfl,rfl,rfl,rfl,rfl,rfl,fun _=>⟨rfl,fun _=>rfl,fun e=>by simp only[e,if_true]⟩⟩
 .unfold eD;rw[if_neg hr];exact⟨rfl,rfl,rfl,rfl,rfl,rfl,rfl,fun e=>absurd e hr⟩
theorem BN{B:Int}{σ : St}(h:Iv B σ)(hd:Hd σ)(ha:rk σ)(ht:∀x∈σ.servs,fM σ.now x)(hl:∀v∈σ.servs,Lasts σ (bm σ) 1 v)(hn:σ.now<4611686018427387904):tick σ = (skip σ 1,[],0):=by
 rw[qM hn];simp only[yJ h ha ht,List.nil_append];have hL:=nt h ha;obtain⟨e1,e2,e3,e4,e5,e6⟩:=nU _ σ hL.1;have h1:=h.now1;have hmem:∀{i:Nat} {v:Serv},σ.servs[i]? = some v->(i∈(bm σ).map (at_ σ.servs)↔v.id∈bm σ):=by
  intro i v hv;constructor
  .intro hi;obtain⟨id,hid,rfl⟩:=List.mem_map.1 hi;obtain⟨y,hy,hyid,_⟩:=jC h hid;rw[hy]at hv;cases hv;rw[hyid];exact hid
  .intro hi;refine List.mem_map.2 ⟨v.id,hi,C6 h.rise hv⟩
 have hservs:(runs σ ((bm σ).map (at_ σ.servs))).servs = σ.servs.map (eD (bm σ) 1):=by
  refine List.ext_getElem? fun i=>?_
  rw[e6,List.getElem?_map];cases hv:σ.servs[i]? with
  | none=>simp
  | some v=>
   have hvm:=gQ3 hv;by_cases hr:v.id∈bm σ
   .rw[if_pos ((hmem hv).2 hr),Option.map_some,Option.map_some,KH h hd hvm hr hn]
   .rw[if_neg (fun e=>hr ((hmem hv).1 e)),Option.map_some];unfold eD;rw[if_neg hr]
 have hrun:({ runs σ ((bm σ).map (at_ σ.servs))with backs:=fq (runs σ ((bm σ).map (at_ σ.servs))).backs (fX σ).length,now:=bh .i64 (runs σ ((bm σ).map (at_ σ.servs))).now 1 }:St)=skip σ 1:=by
  unfold skip;rw[if_neg (by decide)];have gen:∀(ρ : St) (X:List Serv) (nb:Nat),ρ.m = σ.m->ρ.now = σ.now->ρ.sems = σ.sems->ρ.backs = σ.backs->ρ.servs=X->({ ρ with backs:=fq ρ.backs nb,now:=bh .i64 ρ.now 1 }:St)=⟨σ.m,σ.now+1,X,σ.sems,fq σ.backs nb⟩:=by
   rintro⟨a,b,c,d,e⟩ X nb q1 q2 q3 q4 q5;simp only at q1 q2 q3 q4 q5;subst q1 q2 q3 q4 q5;show (⟨σ.m,bh .i64 σ.now 1,c,σ.sems,fq σ.backs nb⟩:St)=_;rw[dN (by omega) (by omega)]
  exact gen _ _ _ e1 e2 e3 e4 hservs
 rw[hrun];have hiv:=(Gk h hn hL (fX σ).length).1;rw[hrun]at hiv;have hends:ends (skip σ 1) ((bm σ).map (at_ σ.servs))=(skip σ 1,[]):=by
  refine BM fun p hp=>?_
  obtain⟨v,hv,hm,hj,_⟩:=hL.2 p hp;have hvm:=gQ3 hv;have hr:=(hmem hv).1 hp;obtain⟨i1,i2,i3,i4,i5,i6,i7,i8⟩:=tJ h hvm (Int.le_refl _) (hl v hvm);obtain⟨b1,b2,b3⟩:=i8 hr;have hx:(skip σ 1).servs[p]? = some (eD (bm σ) 1 v):=by
   unfold skip;rw[if_neg (by decide)];show (σ.servs.map _)[p]? = _;rw[List.getElem?_map,hv];rfl
  have hg:=h.serv v hvm;have hg':=hiv.serv _ (gQ3 hx);cases hjs:(eD (bm σ) 1 v).jobs with
  | nil=>
   exfalso;unfold eD at hjs;rw[if_pos hr]at hjs;cases hjv:v.jobs with
   | nil=>exact hj hjv
   | cons j r=>
    simp only[hjv]at hjs;split at hjs<;>cases hjs
  | cons j r=>
   have hgj:=hg'.jobs j (by rw[hjs];exact gQ9 ..);have d1:headDone (eD (bm σ) 1 v)=j.done:=by unfold headDone;rw[hjs]
   have d2:headN (eD (bm σ) 1 v)=j.cur.2:=by unfold headN;rw[hjs]
   have d3:headSem (eD (bm σ) 1 v)=j.cur.1:=by unfold headSem;rw[hjs]
   have hlv:=hl v hvm;refine KG hx hjs hgj.step ?_ ?_ (by rw[i3,hm];decide)
   .by_cases hs:v.sec=1
    ·
     have:=hg'.done0 (by rw[i2,hs];decide) (by
      rcases hg'.sec with e|⟨_,e⟩
      ·rw[i2,hs]at e;exact absurd e (by decide)
      ·exact e)
     rw[d1]at this;have:=hgj.cur;omega
    .have q1:=hlv.job hr hs;have q2:=b2 hs;rw[d1]at q2;rw[d2]at i7;omega
   .intro hs l hl';have hs':v.sec=2:=by rw[<-i2];exact hs
    have q1:=hlv.sem hr hs';have q2:=b3 hs';have q3:mostAt σ (headSem v)=l.most:=by
     unfold mostAt;rw[<-i6,d3];have:(skip σ 1).sems = σ.sems:=by unfold skip;rw[if_neg (by decide)]
     rw[this]at hl';rw[hl']
    omega
 rw[hends]
theorem Lasts.less{s:St}{run:List Int}{k k':Int}{v:Serv}(h:Lasts s run k v)(hk:k'<=k):Lasts s run k' v:=
 ⟨fun a b=>by have:=h.due a b;omega,fun a=>by have:=h.bud a;omega,fun a b=>by have:=h.job a b;omega,fun a b=>by have:=h.sem a b;omega⟩
theorem iM(σ : St){k:Int}(hk:1<=k):(skip σ k).servs = σ.servs.map (eD (bm σ) k)/\(skip σ k).now = σ.now+k/\(skip σ k).sems = σ.sems/\(skip σ k).m = σ.m/\(skip σ k).backs=nW k.toNat σ.backs (fX σ).length:=by
 unfold skip;rw[if_neg (by omega)];exact⟨rfl,rfl,rfl,rfl,rfl⟩
theorem D3{f:Serv->Serv}:∀{l:List Serv},(∀v∈l,(f v).s.mode=v.s.mode/\(f v).ent=v.ent)->(ready (l.map f)).map Serv.ent=(ready l).map Serv.ent
 | [],_=>rfl
 | v::r,h=>by
  obtain⟨h1,h2⟩:=h v (gQ9 ..);have ih:=D3 (l:=r) fun w hw=>h w (gQ5 _ hw)
  unfold ready at ih ⊢;rw[List.map_cons,List.filter_cons,List.filter_cons,h1];cases cT v.s.mode 1 with
  | true=>simp only[if_true,List.map_cons,h2,ih]
  | false=>exact ih
theorem tK{B:Int}{σ : St}{k:Int}(h:Iv B σ)(hk:1<=k)(hl:∀v∈σ.servs,Lasts σ (bm σ) k v):bm (skip σ k)=bm σ:=by
 obtain⟨s1,_,_,s4,_⟩:=iM σ hk;unfold bm;rw[s4,s1];congr 1;refine D3 fun v hv=>?_
 obtain⟨i1,i2,i3,i4,_⟩:=tJ h hv hk (hl v hv);refine⟨i3,?_⟩;unfold Serv.ent;rw[i1,i2,i4]
theorem Mz{t d p:Int}(hp:1<=p)(hp2:p<=2147483648)(ht:0<=t)(ht2:t+1<=4611686018427387904)(hd:0<=d)(hd2:d<=t)(h:(kp t d p).2=false):(kp (t+1) d p).2=false:=by
 have form:∀u:Int,d<=u->u<=4611686018427387904->(kp u d p).2=decide (d+((u-d).tdiv p+1)*p<=4611686018427387904):=by
  intro u hdu hu;obtain⟨q1,q2,q3,q4⟩:=KI (a:=u-d) (p:=p) (by omega) hp;unfold kp;have h1:gy u=true:=jB.2 ⟨by omega,by omega⟩;have h2:gy d=true:=jB.2 ⟨by omega,by omega⟩;have h3:sx p 1 2147483648=true:=by unfold sx;rw[fZ.2 hp,fZ.2 hp2];rfl
  rw[h1,h2,h3,dW.2 hdu];have e1:de .i64 u d=u-d:=eO (by omega) (by omega);have e2:ot .i64 (u-d) p=(u-d).tdiv p:=jN (by omega) (by omega);have e3:bh .i64 ((u-d).tdiv p) 1=(u-d).tdiv p+1:=dN (by omega) (by omega);have e4:io .i64 ((u-d).tdiv p+1) p=((u-d).tdiv p+1)*p:=CY (by omega) (by omega);have e5:bh .i64 d (((u-d).tdiv p+1)*p)=d+((u-d).tdiv p+1)*p:=dN (by omega) (by omega);rw[e1,e2,e3,e4,e5];simp only[Bool.and_self,cond_true,cond_false];unfold rh;by_cases hz:d+((u-d).tdiv p+1)*p<=4611686018427387904
  .rw[jB.2 ⟨by omega,hz⟩,decide_eq_true hz];rfl
  .have:gy (d+((u-d).tdiv p+1)*p)=false:=by
    cases hb:gy (d+((u-d).tdiv p+1)*p)with
    | false=>rfl
    | true=>exact absurd (jB.1 hb).2 hz
   rw[this,decide_eq_false hz];rfl
 rw[form t hd2 (by omega)]at h;rw[form (t+1) (by omega) ht2];have h1:=of_decide_eq_false h;refine decide_eq_false fun h2=>h1 ?_
 have m1:(t-d).tdiv p<=(t+1-d).tdiv p:=by
  rw[Int.tdiv_eq_ediv_of_nonneg (by omega),Int.tdiv_eq_ediv_of_nonneg (by omega)];exact Int.ediv_le_ediv (by omega) (by omega)
 have m2:=Int.mul_le_mul_of_nonneg_right (show (t-d).tdiv p+1<=(t+1-d).tdiv p+1 by omega) (show 0<=p by omega);omega
theorem I5{B:Int}{σ : St}{k:Int}(h:Iv B σ)(ha:rk σ)(ht:∀x∈σ.servs,fM σ.now x)(hk:1<=k)(hl:∀v∈σ.servs,Lasts σ (bm σ) (k+1) v)(hn:σ.now+1<=4611686018427387904)(hI':Iv B (skip σ 1)) :
  rk (skip σ 1)/\(∀x∈(skip σ 1).servs,fM (skip σ 1).now x)/\(∀v∈(skip σ 1).servs,Lasts (skip σ 1) (bm (skip σ 1)) k v):=by
 have hl1:∀v∈σ.servs,Lasts σ (bm σ) 1 v:=fun v hv=>(hl v hv).less (by omega)
 have hr:=tK h (Int.le_refl _) hl1;obtain⟨s1,s2,s3,s4,s5⟩:=iM σ (Int.le_refl 1);have hx:∀x∈(skip σ 1).servs,∃v∈σ.servs,eD (bm σ) 1 v=x:=fun x hx=>by
  rw[s1]at hx;exact List.mem_map.1 hx
 refine⟨fun x hx' hxr hxs=>?_,fun x hx'=>?_,fun x hx'=>?_⟩
 .obtain⟨v,hv,rfl⟩:=hx x hx';obtain⟨i1,i2,i3,i4,i5,i6,i7,i8⟩:=tJ h hv (Int.le_refl _) (hl1 v hv);rw[hr,i1]at hxr;rw[i2]at hxs;rw[i6];exact ha v hv hxr hxs
 .have hg':=hI'.serv x hx';obtain⟨v,hv,rfl⟩:=hx x hx';obtain⟨i1,i2,i3,i4,i5,i6,i7,i8⟩:=tJ h hv (Int.le_refl _) (hl1 v hv);by_cases hs:v.sec=0
  .have hT:=ht v hv;unfold fM ft at hT ⊢;have hid:(eD (bm σ) 1 v).idle=v.idle:=by unfold Serv.idle;rw[i3]
   rw[hid,i2];rw[fF.2 hs,Bool.or_false]at hT ⊢;cases hi:v.idle with
   | true=>rfl
   | false=>
    rw[hi]at hT;simp only[cond_false,Prod.mk.injEq]at hT ⊢;have hno:(dE (eD (bm σ) 1 v).s (skip σ 1).now).2=false:=by
     have h2:=hT.2;have hg:=h.serv v hv;unfold dE at h2 ⊢;rw[gA.2 hg.s]at h2;rw[gA.2 hg'.s,i3,i4,i5,s2];have hmode:cT v.s.mode 0=false:=hi;rw[hmode]at h2 ⊢;simp only[Bool.not_true,Bool.false_or]at h2 ⊢;by_cases hlt:σ.now<v.s.due
     .have:=(hl v hv).due (dY.1 hmode) hlt;rw[gH.2 (show σ.now+1<v.s.due by omega)];rfl
     .rw[dW.2 (by omega)]at h2;rw[dW.2 (show v.s.due<=σ.now+1 by omega)];simp only[cond_false]at h2 ⊢;have h3:(kp σ.now v.s.due v.s.p).2=false:=by
       cases hb:(kp σ.now v.s.due v.s.p).2 with
       | false=>rfl
       | true=>rw[hb]at h2;simp at h2
      rw[Mz hg.s.p1 hg.s.p2 h.now1 (by omega) hg.s.d1 (by omega) h3];rfl
    rw[hno];refine⟨?_,rfl⟩;rw[tG hno,<-i2]
  .exact fM.sec (by rw[i2];exact hs)
 .obtain⟨v,hv,rfl⟩:=hx x hx';obtain⟨i1,i2,i3,i4,i5,i6,i7,i8⟩:=tJ h hv (Int.le_refl _) (hl1 v hv);have hL:=hl v hv;have hm:mostAt (skip σ 1) (headSem v)=mostAt σ (headSem v):=by unfold mostAt;rw[s3]
  refine⟨fun a b=>?_,fun a=>?_,fun a b=>?_,fun a b=>?_⟩
  .rw[i3]at a;rw[i4,s2]at b ⊢;have:=hL.due a (by omega);omega
  .rw[hr,i1]at a;have:=hL.bud a;rw[(i8 a).1];omega
  .rw[hr,i1]at a;rw[i2]at b;have:=hL.job a b;rw[i7,(i8 a).2.1 b];omega
  .rw[hr,i1]at a;rw[i2]at b;have:=hL.sem a b;rw[i6,(i8 a).2.2 b,hm];omega
theorem BO(l:List Back)(n:Nat):(fq l n).length=l.length:=by
 unfold fq;rw[gR2,List.length_map,List.length_drop,List.length_take];omega
theorem Gn{B:Int}{σ : St}(h:Iv B σ)(hl:∀v∈σ.servs,Lasts σ (bm σ) 1 v):(fX (skip σ 1)).length=(fX σ).length:=by
 obtain⟨s1,s2,s3,s4,s5⟩:=iM σ (Int.le_refl 1);have e:(skip σ 1).backs.length = σ.backs.length:=by rw[s5];exact BO _ _
 have hr:=tK h (Int.le_refl _) hl;unfold fX;rw[List.length_map,List.length_map,List.length_take,List.length_take,hr,s4,e]
theorem PD:∀{a b:St},a.m=b.m->a.now=b.now->a.servs=b.servs->a.sems=b.sems->a.backs=b.backs->a=b:=by
 rintro⟨_,_,_,_,_⟩ ⟨_,_,_,_,_⟩ h1 h2 h3 h4 h5;simp only at h1 h2 h3 h4 h5;subst h1 h2 h3 h4 h5;rfl
theorem Hw{B:Int}{σ : St}{k:Int}(h:Iv B σ)(hI':Iv B (skip σ 1)){v:Serv}(hv:v∈σ.servs)(hk:1<=k)(hl:Lasts σ (bm σ) (k+1) v):eD (bm σ) k (eD (bm σ) 1 v)=eD (bm σ) (k+1) v:=by
 by_cases hr:v.id∈bm σ
 .obtain⟨hm,hj⟩:=rH h hv hr;have hg:=h.serv v hv;have hb:=hl.bud hr;have hmem:eD (bm σ) 1 v∈(skip σ 1).servs:=by
   rw[(iM σ (Int.le_refl 1)).1];exact List.mem_map.2 ⟨v,hv,rfl⟩
  have hg':=hI'.serv _ hmem;cases hjs:v.jobs with
  | nil=>exact absurd hjs hj
  | cons j r=>
   have hgj:=hg.jobs j (by rw[hjs];exact gQ9 ..);have e1:headN v=j.cur.2:=by unfold headN;rw[hjs]
   have e2:headDone v=j.done:=by unfold headDone;rw[hjs]
   have w:∀n:Int,1<=n->n<=k+1->eD (bm σ) n v = { v with s:={ v.s with bud:=v.s.bud-n },ran:=v.ran+n,jobs:=if v.sec=1 then v.jobs else { j with done:=j.done+n }::r,held:=if v.sec=2 then v.held+n else v.held }:=by
    intro n h1 h2;unfold eD;rw[if_pos hr,C8 hg.s hm h1 (by omega)];by_cases hs:v.sec=1
    .rw[if_pos hs,if_pos hs]
    .rw[if_neg hs,if_neg hs,hjs];have:=hl.job hr hs;simp only[C9 hgj h1 (by omega:n<=j.cur.2-j.done)]
   rw[w 1 (Int.le_refl _) (by omega),w (k+1) (by omega) (Int.le_refl _)];rw[w 1 (Int.le_refl _) (by omega)]at hg';unfold eD;rw[if_pos (show ({ v with s:={ v.s with bud:=v.s.bud-1 },ran:=v.ran+1,jobs:=if v.sec=1 then v.jobs else { j with done:=j.done+1 }::r,held:=if v.sec=2 then v.held+1 else v.held }:Serv).id∈bm σ from hr)];have hcu:=C8 (s:={ v.s with bud:=v.s.bud-1 }) (n:=k) hg'.s hm hk (by show k<=v.s.bud-1-1;omega);simp only[hcu];by_cases hs:v.sec=1
   .simp only[hs,if_true,show ¬((1:Int)=2) by decide,if_false];congr 1
    .congr 1;omega
    .omega
   .have hjob:=hl.job hr hs;have hgj1:=hg'.jobs { j with done:=j.done+1 } (by simp only[hs,if_false];exact gQ9 ..);have hj2:=C9 (n:=k) hgj1 hk (by show k<=j.cur.2-(j.done+1);omega);simp only[hs,if_false,hj2];by_cases h2:v.sec=2
    .simp only[h2,if_true];congr 1
     .congr 1;omega
     .congr 2;omega
     .omega
     .omega
    .simp only[h2,if_false];congr 1
     .congr 1;omega
     .congr 2;omega
     .omega
 .unfold eD;rw[if_neg hr,if_neg hr,if_neg hr]
theorem KJ{B:Int}{σ : St}{k:Nat}(h:Iv B σ)(hI':Iv B (skip σ 1))(hk:1<=k)(hl:∀v∈σ.servs,Lasts σ (bm σ) ((k:Int)+1) v):skip (skip σ 1) k=skip σ ((k:Int)+1):=by
 have hl1:∀v∈σ.servs,Lasts σ (bm σ) 1 v:=fun v hv=>(hl v hv).less (by omega)
 obtain⟨s1,s2,s3,s4,s5⟩:=iM σ (Int.le_refl 1);have hr:=tK h (Int.le_refl _) hl1;have hb:=Gn h hl1;obtain⟨p1,p2,p3,p4,p5⟩:=iM (skip σ 1) (k:=(k:Int)) (by omega);obtain⟨r1,r2,r3,r4,r5⟩:=iM σ (k:=(k:Int)+1) (by omega);refine PD ?_ ?_ ?_ ?_ ?_
 .rw[p4,s4,r4]
 .rw[p2,s2,r2];omega
 .rw[p1,r1,hr,s1,List.map_map];exact List.map_congr_left fun v hv=>Hw h hI' hv (by omega) (hl v hv)
 .rw[p3,s3,r3]
 .rw[p5,r5,hb,s5];have e2:((k:Int)+1).toNat=k+1:=by omega
  have e3:(k:Int).toNat=k:=by omega
  rw[e2,e3];rfl
theorem vr{B:Int}:∀(k:Nat) {σ : St},1<=k->Iv B σ->Hd σ->rk σ->(∀x∈σ.servs,fM σ.now x)->(∀v∈σ.servs,Lasts σ (bm σ) k v)->σ.now+k<=4611686018427387904->dK k σ = skip σ k/\iu k σ = []
 | 0,_,h,_,_,_,_,_,_=>absurd h (by omega)
 | 1,σ,_,h,hd,ha,ht,hl,hn=>by
  have:=BN h hd ha ht hl (by omega);show (tick σ).1=skip σ 1/\[]++(tick σ).2.1=[];rw[this];exact⟨rfl,rfl⟩
 | k+2,σ,_,h,hd,ha,ht,hl,hn=>by
  have hl':∀v∈σ.servs,Lasts σ (bm σ) (((k+1:Nat):Int)+1) v:=fun v hv=>(hl v hv).less (by omega)
  have hl1:∀v∈σ.servs,Lasts σ (bm σ) 1 v:=fun v hv=>(hl v hv).less (by omega)
  have ht1:=BN h hd ha ht hl1 (by omega);have hI':Iv B (skip σ 1):=by have:=(zA h).1;rw[ht1]at this;exact this
  have hd':Hd (skip σ 1):=by have:=C3 h hd;rw[ht1]at this;exact this
  obtain⟨a1,a2,a3⟩:=I5 h ha ht (by omega) hl' (by omega) hI';have hnow:=(iM σ (Int.le_refl 1)).2.1;obtain⟨b1,b2⟩:=vr (k+1) (σ:=skip σ 1) (by omega) hI' hd' a1 a2 a3 (by rw[hnow];omega);rw[oI,uN,ht1];simp only;rw[b1,b2,KJ h hI' (by omega) hl'];exact⟨rfl,rfl⟩
end
end Go.AX.pm
namespace Go.AX.pm
open Go.AX
noncomputable section
def jE(q:Int)(b:Back):Back:={ b with ran:=b.ran+q }
def gU:Nat->List Back->List Back
 | 0,l=>l
 | _+1,[]=>[]
 | k+1,b::r=>gU k (r++[jE 1 b])
theorem KO(p q:Int)(b:Back):jE p (jE q b)=jE (q+p) b:=by
 unfold jE;simp only[Int.add_assoc]
theorem yL:∀k,gU k []=[]
 | 0=>rfl
 | _+1=>rfl
theorem sG:∀(n:Nat) (r s:List Back),n<=r.length->gU n (r++s)=r.drop n++s++(r.take n).map (jE 1)
 | 0,r,s,_=>by simp[gU]
 | n+1,[],_,h=>by simp at h
 | n+1,x::r,s,h=>by
  show gU n (r++s++[jE 1 x])=_;rw[List.append_assoc,sG n r (s++[jE 1 x]) (by simpa using h)];simp
theorem D7:∀(k:Nat) (l:List Back),(gU k l).length=l.length
 | 0,_=>rfl
 | _+1,[]=>rfl
 | k+1,b::r=>by
  show (gU k (r++[jE 1 b])).length=_;rw[D7 k];simp
theorem uR:∀(a b:Nat) (l:List Back),gU (a+b) l=gU b (gU a l)
 | 0,b,l=>by rw[Nat.zero_add];rfl
 | a+1,b,[]=>by rw[yL,yL,yL]
 | a+1,b,x::r=>by
  rw[show a+1+b=(a+b)+1 by omega];show gU (a+b) (r++[jE 1 x])=gU b (gU a (r++[jE 1 x]));exact uR a b _
theorem KP(l:List Back):gU l.length l=l.map (jE 1):=by
 have:=sG l.length l [] (gQ4 _);simpa using this
theorem Af(l:List Back):∀q:Nat,gU (l.length*q) l=l.map (jE q)
 | 0=>by
  show l=_;rw[List.map_congr_left (g:=id) (fun b _=>by unfold jE;simp),List.map_id]
 | q+1=>by
  rw[Nat.mul_succ,uR,Af l q];have:=KP (l.map (jE q));rw[List.length_map]at this;rw[this,List.map_map];refine List.map_congr_left fun b _=>?_
  show jE 1 (jE q b)=_;rw[KO];rfl
theorem ME{l:List Back}(T:Nat)(h:0<l.length):gU T l=(l.drop (T % l.length)).map (jE (T / l.length:Nat))++(l.take (T % l.length)).map (jE ((T / l.length:Nat)+1)):=by
 have e:=Nat.div_add_mod T l.length;have hm:=Nat.mod_lt T h;have:gU T l=gU (T % l.length) (l.map (jE (T / l.length:Nat))):=by
  rw[<-Af,<-uR,e]
 rw[this];have hp:=sG (T % l.length) (l.map (jE (T / l.length:Nat))) [] (by rw[List.length_map];omega);simp only[List.append_nil]at hp;rw[hp,List.map_drop];congr 1;rw[<-List.map_take,List.map_map];refine List.map_congr_left fun b _=>?_
 show jE 1 (jE _ b)=_;rw[KO]
theorem KQ{l:List Back}{n:Nat}(hn:n<=l.length)(h:∀b∈l,0<=b.ran/\b.ran<=4611686018427387904):fq l n=gU n l:=by
 have hp:=sG n l [] hn;simp only[List.append_nil]at hp;rw[hp];unfold fq;congr 1;refine List.map_congr_left fun b hb=>?_
 have:=h b (List.mem_of_mem_take hb);unfold jE;rw[dN (by omega) (by omega)]
theorem KR{l:List Back}{n:Nat}(h:∀b∈l,0<=b.ran/\b.ran<=4611686018427387904):∀b∈fq l n,∃c∈l,c.ran<=b.ran/\b.ran<=c.ran+1:=by
 intro b hb;unfold fq at hb;rcases List.mem_append.1 hb with hb|hb
 .exact⟨b,List.mem_of_mem_drop hb,by omega,by omega⟩
 .obtain⟨c,hc,rfl⟩:=List.mem_map.1 hb;have hcm:=List.mem_of_mem_take hc;have:=h c hcm;refine⟨c,hcm,?_⟩;show c.ran<=bh .i64 c.ran 1/\bh .i64 c.ran 1<=c.ran+1;rw[dN (by omega) (by omega)];omega
theorem BQ:∀(k:Nat) {l:List Back} {n:Nat},n<=l.length->(∀b∈l,0<=b.ran/\b.ran+k<=4611686018427387904)->nW k l n=gU (k*n) l
 | 0,l,n,_,_=>by rw[Nat.zero_mul];rfl
 | k+1,l,n,hn,h=>by
  show nW k (fq l n) n=_;have h0:∀b∈l,0<=b.ran/\b.ran<=4611686018427387904:=fun b hb=>by have:=h b hb;omega
  rw[BQ k (by rw[BO];exact hn) (fun b hb=>by
   obtain⟨c,hc,h1,h2⟩:=KR h0 b hb;have:=h c hc;omega),KQ hn h0,<-uR]
  congr 1;rw[Nat.succ_mul];omega
theorem KS{k n a:Nat}(ha:0<a):(k*n) / a=k / a*n+(n*(k % a)) / a/\(k*n) % a=(n*(k % a)) % a:=by
 have e:=Nat.div_add_mod k a;have e2:k*n=n*(k % a)+a*(k / a*n):=by
  conv=>lhs;rw[<-e]
  rw[Nat.add_mul,Nat.mul_assoc,Nat.mul_comm n (k % a)];omega
 refine⟨?_,?_⟩
 .rw[e2,Nat.add_mul_div_left _ _ ha];omega
 .rw[e2,Nat.add_mul_mod_self_left]
end
end Go.AX.pm
namespace Go.AX.pm
open Go.AX
noncomputable section
theorem yM:∀(k:Nat) (l:List Back),nW k l 0=l
 | 0,_=>rfl
 | k+1,l=>by
  show nW k (fq l 0) 0=l;have:fq l 0=l:=by unfold fq;simp
  rw[this,yM k l]
def sH(n r j:Nat):Nat:=if j<n-r then r+j else j-(n-r)
theorem MF{n r j:Nat}(hr:r<n)(hj:j<n):sH n r j<n:=by unfold sH;split<;>omega
theorem KT{n r j:Nat}(hr:r<n)(hj:j<n){f:Nat->Int}:(((List.range n).map f).drop r++((List.range n).map f).take r)[j]? = some (f (sH n r j)):=by
 have hl:((List.range n).map f).length=n:=by simp
 rw[List.getElem?_append,List.length_drop,hl];unfold sH;by_cases h:j<n-r
 .rw[if_pos h,if_pos h,List.getElem?_drop,List.getElem?_map,List.getElem?_range (by omega)];rfl
 .rw[if_neg h,if_neg h,List.getElem?_take,if_pos (by omega),List.getElem?_map,List.getElem?_range (by omega)];rfl
theorem MG{l:List Back}{k many j:Nat}(hj:j<l.length) :
  (gU (k*many) l)[j]? = (l[sH l.length (many*(k % l.length) % l.length) j]?).map (jE (((k / l.length*many+many*(k % l.length) / l.length:Nat):Int)+if sH l.length (many*(k % l.length) % l.length) j<many*(k % l.length) % l.length then 1 else 0)):=by
 have hpos:0<l.length:=by omega
 obtain⟨e1,e2⟩:=KS (k:=k) (n:=many) hpos;rw[ME _ hpos,e1,e2];have hr:=Nat.mod_lt (many*(k % l.length)) hpos;generalize many*(k % l.length) % l.length=r at hr;generalize k / l.length*many+many*(k % l.length) / l.length=q;rw[List.getElem?_append,List.length_map,List.length_drop];unfold sH;by_cases h:j<l.length-r
 .rw[if_pos h,if_pos h,List.getElem?_map,List.getElem?_drop,if_neg (by omega),Int.add_zero]
 .rw[if_neg h,if_neg h,List.getElem?_map,List.getElem?_take,if_pos (by omega),if_pos (by omega)]
end
end Go.AX.pm
namespace Go.AX.pm
open Go.AX
noncomputable section
theorem Hy{σ : St}(h:((bm σ).length:Int)<=σ.m)(hm:σ.m<=64)(hb:σ.backs.length<=1000):((fX σ).length:Int)=min (σ.m-(bm σ).length) σ.backs.length:=by
 unfold fX;rw[List.length_map,List.length_take];have e:de .i64 σ.m (aQ (bm σ).length) = σ.m-(bm σ).length:=eO (by unfold aQ;omega) (by unfold aQ;omega);rw[e];have:fG (σ.m-(bm σ).length) (aQ σ.backs.length)=min (σ.m-(bm σ).length) σ.backs.length:=by
  unfold fG aQ;split<;>omega
 rw[this];omega
end
end Go.AX.pm
namespace Go.AX.pm
open Go.AX
noncomputable section
theorem Ac:∀(n:Nat) (s:St),(du n s).2.length<=n
 | 0,_=>gQ4 _
 | n+1,s=>by
  unfold du;cases refuse s with
  | none=>simp
  | some p=>
   obtain⟨s',e⟩:=p;have:=Ac n s';simp only[List.length_cons];omega
theorem I6(s:St)(i:Nat)(q:Int):(eU s i q).2.length<=2:=by
 unfold eU;split
 .rename_i v l _ _;cases dT l.holder 0 with
  | true=>simp
  | false=>cases l.dead<;>simp
 .simp
theorem BP:∀(l:List (Nat×Int)) (s:St),(eF s l).2.length<=2*l.length
 | [],_=>by simp[eF]
 | (i,q)::r,s=>by
  have h1:=I6 s i q;have h2:=BP r (eU s i q).1;unfold eF;simp only[gR2,List.length_cons];omega
theorem Gp(s:St)(q:Int)(t:Bool):(free s q t).2.length<=2:=by
 unfold free;split
 .simp
 .split
  .simp
  .split
   .simp
   .cases t<;>simp
theorem MA(s:St)(i:Nat):(gE s i).2.length<=3:=by
 unfold gE;split
 .simp
 .rename_i v hv;split
  .simp
  .rename_i j r hj;simp only;have key:∀a:St×List Ev,a.2.length<=2->(match a.1.servs[i]? with
    | none=>a
    | some w=>bif cT (eL j).1.at_ (aQ j.prog.length) then ({ a.1 with servs:=a.1.servs.set i { w with jobs:=r } },a.2++[dS s 2 w.id j.num])
     else ({ a.1 with servs:=a.1.servs.set i { w with jobs:=(eL j).1::r } },a.2)).2.length<=3:=by
    intro a ha;split
    .omega
    .rename_i w hw;cases cT (eL j).1.at_ (aQ j.prog.length)with
     | true=>simp only[cond_true,gR2,List.length_singleton];omega
     | false=>simp only[cond_false];omega
   cases cT j.done (dI j).1.2 with
   | true=>
    simp only[cond_true];refine key _ ?_;cases cT v.sec 2 with
    | true=>exact Gp _ _ _
    | false=>simp
   | false=>
    simp only[cond_false];cases (cT v.sec 2&&(match s.sems[((dI j).1.1-1).toNat]? with|some l=>cT v.held l.most|none=>false))with
    | true=>
     have:=Gp { s with servs:=s.servs.set i { v with jobs:=r,sec:=0 } } (dI j).1.1 true;simp only[cond_true,List.length_cons];omega
    | false=>simp
theorem MB(s:St)(i:Nat):(kQ s i).2.length<=1:=by
 unfold kQ;split
 .simp
 .rename_i v hv;split
  .simp
  .cases cT v.s.mode 2<;>simp
theorem Gq:∀(l:List Nat) (s:St),(ends s l).2.length<=4*l.length
 | [],_=>by simp[ends]
 | i::r,s=>by
  have h1:=MA s i;have h2:=MB (gE s i).1 i;have h3:=Gq r (gw s i).1;unfold ends;show ((gE s i).2++(kQ (gE s i).1 i).2++(ends (gw s i).1 r).2).length<=_;simp only[gR2,List.length_cons];omega
theorem vt{B:Int}{σ : St}(h:Iv B σ):(bm σ).length<=64:=by
 have:=pl.pick_length (D4 h);have h2:=h.m2;unfold bm;unfold AL at this;omega
theorem I7{B:Int}{σ : St}(h:Iv B σ):(settle σ).2.length<=200:=by
 have h0:=h.len1;have h1:(lT σ).length<=σ.servs.length:=List.length_filterMap_le _ _;have h2:=Ac (σ.servs.length+1) (fm σ);have hI:=nV (σ.servs.length+1) (qN h);have h3:=BP (asks (du (σ.servs.length+1) (fm σ)).1) (du (σ.servs.length+1) (fm σ)).1;have h4:(asks (du (σ.servs.length+1) (fm σ)).1).length<=64:=Nat.le_trans (List.length_filterMap_le _ _) (vt hI);show (lT σ++(du (σ.servs.length+1) (fm σ)).2++(eF (du (σ.servs.length+1) (fm σ)).1 (asks (du (σ.servs.length+1) (fm σ)).1)).2).length<=200;simp only[gR2];omega
theorem MC{B:Int}{σ : St}(h:Iv B σ):(tick σ).2.1.length<=500:=by
 by_cases hn:σ.now<4611686018427387904
 .rw[qM hn];have h1:=I7 h;have h2:=vt (jD h).1;have h3:=fun s=>Gq ((bm (settle σ).1).map (at_ (settle σ).1.servs)) s
  simp only[List.length_map]at h3;simp only[gR2];exact Nat.le_trans (Nat.add_le_add h1 (h3 _)) (by omega)
 .unfold tick;rw[show leI qI σ.now=true from fZ.2 (by show (4611686018427387904:Int)<=σ.now;omega)];simp
theorem H5{B:Int}{σ : St}(h:Iv B σ):∀n,(iu n σ).length<=500*n
 | 0=>by simp[iu]
 | n+1=>by
  have h1:=H5 h n;have h2:=MC (lU h n).1;show (iu n σ++(tick (dK n σ)).2.1).length<=_;rw[gR2];omega
end
end Go.AX.pm
