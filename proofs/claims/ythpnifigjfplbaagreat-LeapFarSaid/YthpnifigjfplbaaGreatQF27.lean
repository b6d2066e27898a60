import Derived.Test.YthpnifigjfplbaaGreatQF26
set_option linter.unusedSimpArgs false
set_option linter.unusedVariables false
set_option linter.unusedSectionVars false
namespace Go.AX.pm
open Go.AX
noncomputable section
def ku:Nat->St->List Ev
 | 0,_=>[]
 | k+1,s=>ku k s++(tick (dL k s)).2.1
theorem nt:∀(k:Nat)(s:St),dL (k+1) s=dL k (tick s).1
 | 0,_=>rfl
 | k+1,s=>by
  show (tick (dL (k+1) s)).1=(tick (dL k (tick s).1)).1;rw[nt k s]
theorem sY:∀(k:Nat)(s:St),ku (k+1) s=(tick s).2.1++ku k (tick s).1
 | 0,s=>by show []++(tick s).2.1=(tick s).2.1++[];simp
 | k+1,s=>by
  show ku (k+1) s++(tick (dL (k+1) s)).2.1=(tick s).2.1++(ku k (tick s).1++(tick (dL k (tick s).1)).2.1);rw[sY k s,nt k s,List.append_assoc]
theorem wP:∀(a b:Nat)(s:St),dL (a+b) s=dL b (dL a s)
 | a,0,_=>rfl
 | a,b+1,s=>by
  show (tick (dL (a+b) s)).1=(tick (dL b (dL a s))).1;rw[wP a b s]
theorem xJ:∀(a b:Nat)(s:St),ku (a+b) s=ku a s++ku b (dL a s)
 | a,0,_=>by show ku a _=_++[];simp
 | a,b+1,s=>by
  show ku (a+b) s++(tick (dL (a+b) s)).2.1=ku a s++(ku b (dL a s)++(tick (dL b (dL a s))).2.1);rw[xJ a b s,wP a b s,List.append_assoc]
theorem BY{B:Int}{σ : St}(h:Iv B σ):∀(k:Nat),σ.now+k<=4611686018427387904->(dL k σ).now = σ.now+k
 | 0,_=>by show σ.now=_;simp
 | k+1,hk=>by
  have ih:=BY h k (by omega);have:=(xI (rQ h k).1).2.2.2.1;show (tick (dL k σ)).1.now=_;rw[this,ih,if_pos (by omega)];omega
theorem wQ{B:Int}{σ : St}(h:Iv B σ)(hn:σ.now<4611686018427387904)(k:Nat):dL (k+1) (settle σ).1=dL (k+1) σ/\ku (k+1) σ = (settle σ).2++ku (k+1) (settle σ).1:=by
 obtain⟨p1,p2,_⟩:=yl h hn;rw[nt,nt,sY,sY,p1,p2,List.append_assoc];exact⟨rfl,rfl⟩
def headN(x:Serv):Int:=match x.jobs with
 | []=>0
 | j::_=>j.cur.2
def mostAt(s:St)(q:Int):Int:=match s.sems[(q-1).toNat]? with
 | some l=>l.most
 | none=>0
def lA(s:St)(run:List Int)(most:Int)(v:Serv):Int:=
 let a:=if v.s.mode≠0/\s.now<v.s.due then min most (v.s.due-s.now) else most
 if v.id∈run then
  let b:=min a (v.s.bud-1)
  let c:=if v.sec≠1 then min b (headN v-headDone v-1) else b
  if v.sec=2 then min c (mostAt s (headSem v)-v.held-1) else c
 else a
def still(s:St)(most:Int):Int:=max (s.servs.foldl (lA s (aQ s)) most) 0
structure Lasts (s:St)(run:List Int)(k:Int)(v:Serv):Prop where
 due:v.s.mode≠0->s.now<v.s.due->k<=v.s.due-s.now
 bud:v.id∈run->k<=v.s.bud-1
 job:v.id∈run->v.sec≠1->k<=headN v-headDone v-1
 sem:v.id∈run->v.sec=2->k<=mostAt s (headSem v)-v.held-1
theorem If{s:St}{run:List Int}{most k:Int}{v:Serv}(h:k<=lA s run most v):k<=most/\Lasts s run k v:=by
 unfold lA at h;simp only at h;have ha:∀{a:Int},k<=(if v.s.mode≠0/\s.now<v.s.due then min most (v.s.due-s.now) else most)->k<=most/\(v.s.mode≠0->s.now<v.s.due->k<=v.s.due-s.now):=by
  intro _ h;split at h
  .exact⟨by omega,fun _ _=>by omega⟩
  .rename_i hn;exact⟨h,fun h1 h2=>absurd ⟨h1,h2⟩ hn⟩
 by_cases hr:v.id∈run
 .rw[if_pos hr]at h;generalize hA:(if v.s.mode≠0/\s.now<v.s.due then min most (v.s.due-s.now) else most)=A at h ha;by_cases h2:v.sec=2
  .rw[if_pos h2,if_pos (by omega)]at h;obtain⟨a1,a2⟩:=ha (a:=0) (by omega);exact⟨a1,a2,fun _=>by omega,fun _ _=>by omega,fun _ _=>by omega⟩
  .rw[if_neg h2]at h;by_cases h1:v.sec=1
   .rw[if_neg (by omega)]at h;obtain⟨a1,a2⟩:=ha (a:=0) (by omega);exact⟨a1,a2,fun _=>by omega,fun _ e=>absurd h1 e,fun _ e=>absurd e h2⟩
   .rw[if_pos h1]at h;obtain⟨a1,a2⟩:=ha (a:=0) (by omega);exact⟨a1,a2,fun _=>by omega,fun _ _=>by omega,fun _ e=>absurd e h2⟩
 .rw[if_neg hr]at h;obtain⟨a1,a2⟩:=ha (a:=0) h;exact⟨a1,a2,fun e=>absurd e hr,fun e=>absurd e hr,fun e=>absurd e hr⟩
theorem ym{s:St}{run:List Int}{k:Int}:∀{l:List Serv}{most:Int},k<=l.foldl (lA s run) most->k<=most/\∀v∈l,Lasts s run k v
 | [],_,h=>⟨h,fun v hv=>by cases hv⟩
 | x::r,most,h=>by
  obtain⟨h1,h2⟩:=ym (l:=r) h;obtain⟨h3,h4⟩:=If h1;exact⟨h3,fun v hv=>by
   rcases List.mem_cons.1 hv with rfl|hv
   .exact h4
   .exact h2 v hv⟩
theorem D3{s:St}{most k:Int}(hk:1<=k)(h:k<=still s most):k<=most/\∀v∈s.servs,Lasts s (aQ s) k v:=by
 unfold still at h;exact ym (by omega)
def dT(run:List Int)(n:Int)(v:Serv):Serv:=if v.id∈run then
  { v with s:=(dB v.s n).1,ran:=v.ran+n,jobs:=if v.sec=1 then v.jobs else (match v.jobs with|[]=>[]|j::r=>(eO j n).1::r),held:=if v.sec=2 then v.held+n else v.held }
 else v
def mL:Nat->List Back->Nat->List Back
 | 0,l,_=>l
 | k+1,l,n=>mL k (fb l n) n
def skip(s:St)(n:Int):St:=if n=0 then s else
 { s with servs:=s.servs.map (dT (aQ s) n),backs:=mL n.toNat s.backs (fu s).length,now:=s.now+n }
theorem Ig{σ : St}{p:Nat}{x:Serv}{j:Job}{r:List Job}(hx:σ.servs[p]? = some x)(hj:x.jobs=j::r)(hs:dD j=(j.cur,true))(hd:j.done≠j.cur.2)(hh:x.sec=2->∀l,σ.sems[(j.cur.1-1).toNat]? = some l->x.held≠l.most)(hm:x.s.mode≠2):gn σ p=(σ,[]):=by
 have e1:gT σ p=(σ,[]):=by
  unfold gT;rw[hx];simp only[hj,hs,dP.2 hd,cond_false];cases h2:cT x.sec 2 with
  | false=>simp
  | true=>
   cases hl:σ.sems[(j.cur.1-1).toNat]? with
   | none=>simp
   | some l=>simp[dP.2 (hh (eK.1 h2) l hl)]
 have e2:lM σ p=(σ,[]):=by
  unfold lM;rw[hx];simp only[hj,dP.2 hm,cond_false]
 unfold gn;simp only[e1,e2,List.append_nil]
theorem Af{σ : St}:∀{L:List Nat},(∀p∈L,gn σ p=(σ,[]))->ends σ L=(σ,[])
 | [],_=>rfl
 | p::r,h=>by
  unfold ends;rw[h p (List.mem_cons_self ..)];simp only[Af (L:=r) fun q hq=>h q (List.mem_cons_of_mem _ hq),List.append_nil]
theorem Bm{s:Srv}{n:Int}(h:CF s)(hm:s.mode=1)(h1:1<=n)(h2:n<=s.bud-1):(dB s n).1 = { s with bud:=s.bud-n }:=by
 have hq:=h.q2;have hp:=h.p2;have hb:=h.b2;unfold dB;rw[gu.2 h,dJ.2 h1,show cQ s.bud n=false from dJ.2 (by omega),gq.2 hm];have e:cZ .i64 s.bud n=s.bud-n:=eF (by omega) (by omega);rw[e];show (iI { s with bud:=s.bud-n })=_;unfold iI;rw[show cT ({ s with bud:=s.bud-n }:Srv).bud 0=false from dP.2 (by show s.bud-n≠0;omega)];obtain⟨q,p,b,d,m⟩:=s;simp only at hm;subst hm;rfl
theorem Bn{k:Nat}{j:Job}{n:Int}(h:GoodJ k j)(h1:1<=n)(h2:n<=j.cur.2-j.done):(eO j n).1 = { j with done:=j.done+n }:=by
 have hc:=h.cur;have hd:=h.done;unfold eO;rw[h.step];simp only[Bool.not_true,cond_false];have e1:cZ .i64 j.cur.2 j.done=j.cur.2-j.done:=eF (by omega) (by omega);have e2:fN (jA n 0) (j.cur.2-j.done)=n:=by
  unfold fN jA;rw[if_neg (by omega),if_neg (by omega)]
 rw[e1,e2,dI (by omega) (by omega)]
theorem oo{B:Int}{σ : St}(h:Iv B σ){v:Serv}(hv:v∈σ.servs)(hr:v.id∈aQ σ):v.s.mode=1/\v.jobs≠[]:=by
 obtain⟨y,hy,hyid,hym,hyj⟩:=iR h hr;have:=at_mem h.rise hv;rw[this]at hy;cases hy;exact⟨hym,hyj⟩
theorem Ih{B:Int}{σ : St}(h:Iv B σ)(hd:Hd σ){v:Serv}(hv:v∈σ.servs)(hr:v.id∈aQ σ)(hn:σ.now<4611686018427387904):dT (aQ σ) 1 v=gy v:=by
 have hran:=h.ran v hv;have hho:=hd v hv;unfold HO at hho;obtain⟨hym,hyj⟩:=oo h hv hr;rw[mJ];unfold dT iW pA;rw[if_pos hr];have e1:bh .i64 v.ran 1=v.ran+1:=dI (by omega) (by omega);have e2:bh .i64 v.held 1=v.held+1:=dI (by omega) (by omega);rw[e1,e2];cases hjs:v.jobs with
 | nil=>exact absurd hjs hyj
 | cons j r=>
  by_cases h1:v.sec=1
  .simp only[h1,if_true,show ¬((1:Int)=2) by decide,if_false]
  .simp only[h1,if_false];by_cases h2:v.sec=2
   .rw[if_pos h2,eK.2 h2];rfl
   .rw[if_neg h2,dP.2 h2];rfl
theorem rW{B:Int}{σ : St}{k:Int}(h:Iv B σ){v:Serv}(hv:v∈σ.servs)(hk:1<=k)(hl:Lasts σ (aQ σ) k v):(dT (aQ σ) k v).id=v.id/\(dT (aQ σ) k v).sec=v.sec/\(dT (aQ σ) k v).s.mode=v.s.mode/\(dT (aQ σ) k v).s.due=v.s.due/\(dT (aQ σ) k v).s.p=v.s.p/\headSem (dT (aQ σ) k v)=headSem v/\headN (dT (aQ σ) k v)=headN v/\
  (v.id∈aQ σ->(dT (aQ σ) k v).s.bud=v.s.bud-k/\(v.sec≠1->headDone (dT (aQ σ) k v)=headDone v+k)/\(v.sec=2->(dT (aQ σ) k v).held=v.held+k)):=by
 by_cases hr:v.id∈aQ σ
 .obtain⟨hm,hj⟩:=oo h hv hr;have hg:=h.serv v hv;have hu:=Bm hg.s hm hk (hl.bud hr);cases hjs:v.jobs with
  | nil=>exact absurd hjs hj
  | cons j r=>
   have hgj:=hg.jobs j (by rw[hjs];exact List.mem_cons_self ..);by_cases h1:v.sec=1
   .have ew:dT (aQ σ) k v = { v with s:={ v.s with bud:=v.s.bud-k },ran:=v.ran+k }:=by
     unfold dT;rw[if_pos hr,hu,if_pos h1,if_neg (by omega)]
    rw[ew];exact⟨rfl,rfl,rfl,rfl,rfl,rfl,rfl,fun _=>⟨rfl,fun e=>absurd h1 e,fun e=>absurd e (by omega)⟩⟩
   .have hjob:=hl.job hr h1;have e1:headN v=j.cur.2:=by unfold headN;rw[hjs]
    have e2:headDone v=j.done:=by unfold headDone;rw[hjs]
    have e3:headSem v=j.cur.1:=by unfold headSem;rw[hjs]
    have hjr:=Bn hgj hk (by omega);have ew:dT (aQ σ) k v = { v with s:={ v.s with bud:=v.s.bud-k },ran:=v.ran+k,jobs:={ j with done:=j.done+k }::r,held:=if v.sec=2 then v.held+k else v.held }:=by
     unfold dT;rw[if_pos hr,hu,if_neg h1,hjs];simp only[hjr]
    rw[ew,e1,e2,e3];exact⟨rfl,rfl,rfl,rfl,rfl,rfl,rfl,fun _=>⟨rfl,fun _=>rfl,fun e=>by simp only[e,if_true]⟩⟩
 .unfold dT;rw[if_neg hr];exact⟨rfl,rfl,rfl,rfl,rfl,rfl,rfl,fun e=>absurd e hr⟩
theorem Ag{B:Int}{σ : St}(h:Iv B σ)(hd:Hd σ)(ha:pO σ)(ht:∀x∈σ.servs,fp σ.now x)(hl:∀v∈σ.servs,Lasts σ (aQ σ) 1 v)(hn:σ.now<4611686018427387904):tick σ = (skip σ 1,[],0):=by
 rw[rp hn];simp only[wR h ha ht,List.nil_append];have hL:=ml h ha;obtain⟨e1,e2,e3,e4,e5,e6⟩:=mK _ σ hL.1;have h1:=h.now1;have hmem:∀{i:Nat}{v:Serv},σ.servs[i]? = some v->(i∈(aQ σ).map (at_ σ.servs)↔v.id∈aQ σ):=by
  intro i v hv;constructor
  .intro hi;obtain⟨id,hid,rfl⟩:=List.mem_map.1 hi;obtain⟨y,hy,hyid,_⟩:=iR h hid;rw[hy]at hv;cases hv;rw[hyid];exact hid
  .intro hi;refine List.mem_map.2 ⟨v.id,hi,Bj h.rise hv⟩
 have hservs:(runs σ ((aQ σ).map (at_ σ.servs))).servs = σ.servs.map (dT (aQ σ) 1):=by
  refine List.ext_getElem? fun i=>?_
  rw[e6,List.getElem?_map];cases hv:σ.servs[i]? with
  | none=>simp
  | some v=>
   have hvm:=List.mem_of_getElem? hv;by_cases hr:v.id∈aQ σ
   .rw[if_pos ((hmem hv).2 hr),Option.map_some,Option.map_some,Ih h hd hvm hr hn]
   .rw[if_neg (fun e=>hr ((hmem hv).1 e)),Option.map_some];unfold dT;rw[if_neg hr]
 have hrun:({ runs σ ((aQ σ).map (at_ σ.servs))with backs:=fb (runs σ ((aQ σ).map (at_ σ.servs))).backs (fu σ).length,now:=bh .i64 (runs σ ((aQ σ).map (at_ σ.servs))).now 1 }:St)=skip σ 1:=by
  unfold skip;rw[if_neg (by decide)];have gen:∀(ρ : St)(X:List Serv)(nb:Nat),ρ.m = σ.m->ρ.now = σ.now->ρ.sems = σ.sems->ρ.backs = σ.backs->ρ.servs=X->({ ρ with backs:=fb ρ.backs nb,now:=bh .i64 ρ.now 1 }:St)=⟨σ.m,σ.now+1,X,σ.sems,fb σ.backs nb⟩:=by
   rintro⟨a,b,c,d,e⟩ X nb q1 q2 q3 q4 q5;simp only at q1 q2 q3 q4 q5;subst q1 q2 q3 q4 q5;show (⟨σ.m,bh .i64 σ.now 1,c,σ.sems,fb σ.backs nb⟩:St)=_;rw[dI (by omega) (by omega)]
  exact gen _ _ _ e1 e2 e3 e4 hservs
 rw[hrun];have hiv:=(DZ h hn hL (fu σ).length).1;rw[hrun]at hiv;have hends:ends (skip σ 1) ((aQ σ).map (at_ σ.servs))=(skip σ 1,[]):=by
  refine Af fun p hp=>?_
  obtain⟨v,hv,hm,hj,_⟩:=hL.2 p hp;have hvm:=List.mem_of_getElem? hv;have hr:=(hmem hv).1 hp;obtain⟨i1,i2,i3,i4,i5,i6,i7,i8⟩:=rW h hvm (Int.le_refl _) (hl v hvm);obtain⟨b1,b2,b3⟩:=i8 hr;have hx:(skip σ 1).servs[p]? = some (dT (aQ σ) 1 v):=by
   unfold skip;rw[if_neg (by decide)];show (σ.servs.map _)[p]? = _;rw[List.getElem?_map,hv];rfl
  have hg:=h.serv v hvm;have hg':=hiv.serv _ (List.mem_of_getElem? hx);cases hjs:(dT (aQ σ) 1 v).jobs with
  | nil=>
   exfalso;unfold dT at hjs;rw[if_pos hr]at hjs;cases hjv:v.jobs with
   | nil=>exact hj hjv
   | cons j r=>
    simp only[hjv]at hjs;split at hjs<;>cases hjs
  | cons j r=>
   have hgj:=hg'.jobs j (by rw[hjs];exact List.mem_cons_self ..);have d1:headDone (dT (aQ σ) 1 v)=j.done:=by unfold headDone;rw[hjs]
   have d2:headN (dT (aQ σ) 1 v)=j.cur.2:=by unfold headN;rw[hjs]
   have d3:headSem (dT (aQ σ) 1 v)=j.cur.1:=by unfold headSem;rw[hjs]
   have hlv:=hl v hvm;refine Ig hx hjs hgj.step ?_ ?_ (by rw[i3,hm];decide)
   .by_cases hs:v.sec=1
    ·
     have:=hg'.done0 (by rw[i2,hs];decide) (by
      rcases hg'.sec with e|⟨_,e⟩
      .rw[i2,hs]at e;exact absurd e (by decide)
      .exact e)
     rw[d1]at this;have:=hgj.cur;omega
    .have q1:=hlv.job hr hs;have q2:=b2 hs;rw[d1]at q2;rw[d2]at i7;omega
   .intro hs l hl';have hs':v.sec=2:=by rw[<-i2];exact hs
    have q1:=hlv.sem hr hs';have q2:=b3 hs';have q3:mostAt σ (headSem v)=l.most:=by
     unfold mostAt;rw[<-i6,d3];have:(skip σ 1).sems = σ.sems:=by unfold skip;rw[if_neg (by decide)]
     rw[this]at hl';rw[hl']
    omega
 rw[hends]
theorem Lasts.less{s:St}{run:List Int}{k k':Int}{v:Serv}(h:Lasts s run k v)(hk:k'<=k):Lasts s run k' v:=
 ⟨fun a b=>by have:=h.due a b;omega,fun a=>by have:=h.bud a;omega,fun a b=>by have:=h.job a b;omega,fun a b=>by have:=h.sem a b;omega⟩
theorem gi(σ : St){k:Int}(hk:1<=k):(skip σ k).servs = σ.servs.map (dT (aQ σ) k)/\(skip σ k).now = σ.now+k/\(skip σ k).sems = σ.sems/\(skip σ k).m = σ.m/\(skip σ k).backs=mL k.toNat σ.backs (fu σ).length:=by
 unfold skip;rw[if_neg (by omega)];exact⟨rfl,rfl,rfl,rfl,rfl⟩
theorem BZ{f:Serv->Serv}:∀{l:List Serv},(∀v∈l,(f v).s.mode=v.s.mode/\(f v).ent=v.ent)->(ready (l.map f)).map Serv.ent=(ready l).map Serv.ent
 | [],_=>rfl
 | v::r,h=>by
  obtain⟨h1,h2⟩:=h v (List.mem_cons_self ..);have ih:=BZ (l:=r) fun w hw=>h w (List.mem_cons_of_mem _ hw)
  unfold ready at ih ⊢;rw[List.map_cons,List.filter_cons,List.filter_cons,h1];cases cT v.s.mode 1 with
  | true=>simp only[if_true,List.map_cons,h2,ih]
  | false=>exact ih
theorem rX{B:Int}{σ : St}{k:Int}(h:Iv B σ)(hk:1<=k)(hl:∀v∈σ.servs,Lasts σ (aQ σ) k v):aQ (skip σ k)=aQ σ:=by
 obtain⟨s1,_,_,s4,_⟩:=gi σ hk;unfold aQ;rw[s4,s1];congr 1;refine BZ fun v hv=>?_
 obtain⟨i1,i2,i3,i4,_⟩:=rW h hv hk (hl v hv);refine⟨i3,?_⟩;unfold Serv.ent;rw[i1,i2,i4]
theorem J2{t d p:Int}(hp:1<=p)(hp2:p<=2147483648)(ht:0<=t)(ht2:t+1<=4611686018427387904)(hd:0<=d)(hd2:d<=t)(h:(jH t d p).2=false):(jH (t+1) d p).2=false:=by
 have form:∀u:Int,d<=u->u<=4611686018427387904->(jH u d p).2=decide (d+((u-d).tdiv p+1)*p<=4611686018427387904):=by
  intro u hdu hu;obtain⟨q1,q2,q3,q4⟩:=Ii (a:=u-d) (p:=p) (by omega) hp;unfold jH;have h1:gF u=true:=kO.2 ⟨by omega,by omega⟩;have h2:gF d=true:=kO.2 ⟨by omega,by omega⟩;have h3:ue p 1 2147483648=true:=by unfold ue;rw[fU.2 hp,fU.2 hp2];rfl
  rw[h1,h2,h3,dJ.2 hdu];have e1:cZ .i64 u d=u-d:=eF (by omega) (by omega);have e2:pw .i64 (u-d) p=(u-d).tdiv p:=je (by omega) (by omega);have e3:bh .i64 ((u-d).tdiv p) 1=(u-d).tdiv p+1:=dI (by omega) (by omega);have e4:io .i64 ((u-d).tdiv p+1) p=((u-d).tdiv p+1)*p:=FE (by omega) (by omega);have e5:bh .i64 d (((u-d).tdiv p+1)*p)=d+((u-d).tdiv p+1)*p:=dI (by omega) (by omega);rw[e1,e2,e3,e4,e5];simp only[Bool.and_self,cond_true,cond_false];unfold qO;by_cases hz:d+((u-d).tdiv p+1)*p<=4611686018427387904
  .rw[kO.2 ⟨by omega,hz⟩,decide_eq_true hz];rfl
  .have:gF (d+((u-d).tdiv p+1)*p)=false:=by
    cases hb:gF (d+((u-d).tdiv p+1)*p)with
    | false=>rfl
    | true=>exact absurd (kO.1 hb).2 hz
   rw[this,decide_eq_false hz];rfl
 rw[form t hd2 (by omega)]at h;rw[form (t+1) (by omega) ht2];have h1:=of_decide_eq_false h;refine decide_eq_false fun h2=>h1 ?_
 have m1:(t-d).tdiv p<=(t+1-d).tdiv p:=by
  rw[Int.tdiv_eq_ediv_of_nonneg (by omega),Int.tdiv_eq_ediv_of_nonneg (by omega)];exact Int.ediv_le_ediv (by omega) (by omega)
 have m2:=Int.mul_le_mul_of_nonneg_right (show (t-d).tdiv p+1<=(t+1-d).tdiv p+1 by omega) (show 0<=p by omega);omega
theorem GM{B:Int}{σ : St}{k:Int}(h:Iv B σ)(ha:pO σ)(ht:∀x∈σ.servs,fp σ.now x)(hk:1<=k)(hl:∀v∈σ.servs,Lasts σ (aQ σ) (k+1) v)(hn:σ.now+1<=4611686018427387904)(hI':Iv B (skip σ 1)) :
  pO (skip σ 1)/\(∀x∈(skip σ 1).servs,fp (skip σ 1).now x)/\(∀v∈(skip σ 1).servs,Lasts (skip σ 1) (aQ (skip σ 1)) k v):=by
 have hl1:∀v∈σ.servs,Lasts σ (aQ σ) 1 v:=fun v hv=>(hl v hv).less (by omega)
 have hr:=rX h (Int.le_refl _) hl1;obtain⟨s1,s2,s3,s4,s5⟩:=gi σ (Int.le_refl 1);have hx:∀x∈(skip σ 1).servs,∃v∈σ.servs,dT (aQ σ) 1 v=x:=fun x hx=>by
  rw[s1]at hx;exact List.mem_map.1 hx
 refine⟨fun x hx' hxr hxs=>?_,fun x hx'=>?_,fun x hx'=>?_⟩
 .obtain⟨v,hv,rfl⟩:=hx x hx';obtain⟨i1,i2,i3,i4,i5,i6,i7,i8⟩:=rW h hv (Int.le_refl _) (hl1 v hv);rw[hr,i1]at hxr;rw[i2]at hxs;rw[i6];exact ha v hv hxr hxs
 .have hg':=hI'.serv x hx';obtain⟨v,hv,rfl⟩:=hx x hx';obtain⟨i1,i2,i3,i4,i5,i6,i7,i8⟩:=rW h hv (Int.le_refl _) (hl1 v hv);by_cases hs:v.sec=0
  .have hT:=ht v hv;unfold fp eY at hT ⊢;have hid:(dT (aQ σ) 1 v).idle=v.idle:=by unfold Serv.idle;rw[i3]
   rw[hid,i2];rw[gq.2 hs,Bool.or_false]at hT ⊢;cases hi:v.idle with
   | true=>rfl
   | false=>
    rw[hi]at hT;simp only[cond_false,Prod.mk.injEq]at hT ⊢;have hno:(dw (dT (aQ σ) 1 v).s (skip σ 1).now).2=false:=by
     have h2:=hT.2;have hg:=h.serv v hv;unfold dw at h2 ⊢;rw[gu.2 hg.s]at h2;rw[gu.2 hg'.s,i3,i4,i5,s2];have hmode:cT v.s.mode 0=false:=hi;rw[hmode]at h2 ⊢;simp only[Bool.not_true,Bool.false_or]at h2 ⊢;by_cases hlt:σ.now<v.s.due
     .have:=(hl v hv).due (dP.1 hmode) hlt;rw[gj.2 (show σ.now+1<v.s.due by omega)];rfl
     .rw[dJ.2 (by omega)]at h2;rw[dJ.2 (show v.s.due<=σ.now+1 by omega)];simp only[cond_false]at h2 ⊢;have h3:(jH σ.now v.s.due v.s.p).2=false:=by
       cases hb:(jH σ.now v.s.due v.s.p).2 with
       | false=>rfl
       | true=>rw[hb]at h2;simp at h2
      rw[J2 hg.s.p1 hg.s.p2 h.now1 (by omega) hg.s.d1 (by omega) h3];rfl
    rw[hno];refine⟨?_,rfl⟩;rw[rT hno,<-i2]
  .exact fp.sec (by rw[i2];exact hs)
 .obtain⟨v,hv,rfl⟩:=hx x hx';obtain⟨i1,i2,i3,i4,i5,i6,i7,i8⟩:=rW h hv (Int.le_refl _) (hl1 v hv);have hL:=hl v hv;have hm:mostAt (skip σ 1) (headSem v)=mostAt σ (headSem v):=by unfold mostAt;rw[s3]
  refine⟨fun a b=>?_,fun a=>?_,fun a b=>?_,fun a b=>?_⟩
  .rw[i3]at a;rw[i4,s2]at b ⊢;have:=hL.due a (by omega);omega
  .rw[hr,i1]at a;have:=hL.bud a;rw[(i8 a).1];omega
  .rw[hr,i1]at a;rw[i2]at b;have:=hL.job a b;rw[i7,(i8 a).2.1 b];omega
  .rw[hr,i1]at a;rw[i2]at b;have:=hL.sem a b;rw[i6,(i8 a).2.2 b,hm];omega
theorem Ah(l:List Back)(n:Nat):(fb l n).length=l.length:=by
 unfold fb;rw[List.length_append,List.length_map,List.length_drop,List.length_take];omega
theorem D4{B:Int}{σ : St}(h:Iv B σ)(hl:∀v∈σ.servs,Lasts σ (aQ σ) 1 v):(fu (skip σ 1)).length=(fu σ).length:=by
 obtain⟨s1,s2,s3,s4,s5⟩:=gi σ (Int.le_refl 1);have e:(skip σ 1).backs.length = σ.backs.length:=by rw[s5];exact Ah _ _
 have hr:=rX h (Int.le_refl _) hl;unfold fu;rw[List.length_map,List.length_map,List.length_take,List.length_take,hr,s4,e]
theorem MJ:∀{a b:St},a.m=b.m->a.now=b.now->a.servs=b.servs->a.sems=b.sems->a.backs=b.backs->a=b:=by
 rintro⟨_,_,_,_,_⟩ ⟨_,_,_,_,_⟩ h1 h2 h3 h4 h5;simp only at h1 h2 h3 h4 h5;subst h1 h2 h3 h4 h5;rfl
theorem Fi{B:Int}{σ : St}{k:Int}(h:Iv B σ)(hI':Iv B (skip σ 1)){v:Serv}(hv:v∈σ.servs)(hk:1<=k)(hl:Lasts σ (aQ σ) (k+1) v):dT (aQ σ) k (dT (aQ σ) 1 v)=dT (aQ σ) (k+1) v:=by
 by_cases hr:v.id∈aQ σ
 .obtain⟨hm,hj⟩:=oo h hv hr;have hg:=h.serv v hv;have hb:=hl.bud hr;have hmem:dT (aQ σ) 1 v∈(skip σ 1).servs:=by
   rw[(gi σ (Int.le_refl 1)).1];exact List.mem_map.2 ⟨v,hv,rfl⟩
  have hg':=hI'.serv _ hmem;cases hjs:v.jobs with
  | nil=>exact absurd hjs hj
  | cons j r=>
   have hgj:=hg.jobs j (by rw[hjs];exact List.mem_cons_self ..);have e1:headN v=j.cur.2:=by unfold headN;rw[hjs]
   have e2:headDone v=j.done:=by unfold headDone;rw[hjs]
   have w:∀n:Int,1<=n->n<=k+1->dT (aQ σ) n v = { v with s:={ v.s with bud:=v.s.bud-n },ran:=v.ran+n,jobs:=if v.sec=1 then v.jobs else { j with done:=j.done+n }::r,held:=if v.sec=2 then v.held+n else v.held }:=by
    intro n h1 h2;unfold dT;rw[if_pos hr,Bm hg.s hm h1 (by omega)];by_cases hs:v.sec=1
    .rw[if_pos hs,if_pos hs]
    .rw[if_neg hs,if_neg hs,hjs];have:=hl.job hr hs;simp only[Bn hgj h1 (by omega:n<=j.cur.2-j.done)]
   rw[w 1 (Int.le_refl _) (by omega),w (k+1) (by omega) (Int.le_refl _)];rw[w 1 (Int.le_refl _) (by omega)]at hg';unfold dT;rw[if_pos (show ({ v with s:={ v.s with bud:=v.s.bud-1 },ran:=v.ran+1,jobs:=if v.sec=1 then v.jobs else { j with done:=j.done+1 }::r,held:=if v.sec=2 then v.held+1 else v.held }:Serv).id∈aQ σ from hr)];have hcu:=Bm (s:={ v.s with bud:=v.s.bud-1 }) (n:=k) hg'.s hm hk (by show k<=v.s.bud-1-1;omega);simp only[hcu];by_cases hs:v.sec=1
   .simp only[hs,if_true,show ¬((1:Int)=2) by decide,if_false];congr 1
    .congr 1;omega
    .omega
   .have hjob:=hl.job hr hs;have hgj1:=hg'.jobs { j with done:=j.done+1 } (by simp only[hs,if_false];exact List.mem_cons_self ..);have hj2:=Bn (n:=k) hgj1 hk (by show k<=j.cur.2-(j.done+1);omega);simp only[hs,if_false,hj2];by_cases h2:v.sec=2
    .simp only[h2,if_true];congr 1
     .congr 1;omega
     .congr 2;omega
     .omega
     .omega
    .simp only[h2,if_false];congr 1
     .congr 1;omega
     .congr 2;omega
     .omega
 .unfold dT;rw[if_neg hr,if_neg hr,if_neg hr]
theorem Ij{B:Int}{σ : St}{k:Nat}(h:Iv B σ)(hI':Iv B (skip σ 1))(hk:1<=k)(hl:∀v∈σ.servs,Lasts σ (aQ σ) ((k:Int)+1) v):skip (skip σ 1) k=skip σ ((k:Int)+1):=by
 have hl1:∀v∈σ.servs,Lasts σ (aQ σ) 1 v:=fun v hv=>(hl v hv).less (by omega)
 obtain⟨s1,s2,s3,s4,s5⟩:=gi σ (Int.le_refl 1);have hr:=rX h (Int.le_refl _) hl1;have hb:=D4 h hl1;obtain⟨p1,p2,p3,p4,p5⟩:=gi (skip σ 1) (k:=(k:Int)) (by omega);obtain⟨r1,r2,r3,r4,r5⟩:=gi σ (k:=(k:Int)+1) (by omega);refine MJ ?_ ?_ ?_ ?_ ?_
 .rw[p4,s4,r4]
 .rw[p2,s2,r2];omega
 .rw[p1,r1,hr,s1,List.map_map];exact List.map_congr_left fun v hv=>Fi h hI' hv (by omega) (hl v hv)
 .rw[p3,s3,r3]
 .rw[p5,r5,hb,s5];have e2:((k:Int)+1).toNat=k+1:=by omega
  have e3:(k:Int).toNat=k:=by omega
  rw[e2,e3];rfl
theorem pP{B:Int}:∀(k:Nat){σ : St},1<=k->Iv B σ->Hd σ->pO σ->(∀x∈σ.servs,fp σ.now x)->(∀v∈σ.servs,Lasts σ (aQ σ) k v)->σ.now+k<=4611686018427387904->dL k σ = skip σ k/\ku k σ = []
 | 0,_,h,_,_,_,_,_,_=>absurd h (by omega)
 | 1,σ,_,h,hd,ha,ht,hl,hn=>by
  have:=Ag h hd ha ht hl (by omega);show (tick σ).1=skip σ 1/\[]++(tick σ).2.1=[];rw[this];exact⟨rfl,rfl⟩
 | k+2,σ,_,h,hd,ha,ht,hl,hn=>by
  have hl':∀v∈σ.servs,Lasts σ (aQ σ) (((k+1:Nat):Int)+1) v:=fun v hv=>(hl v hv).less (by omega)
  have hl1:∀v∈σ.servs,Lasts σ (aQ σ) 1 v:=fun v hv=>(hl v hv).less (by omega)
  have ht1:=Ag h hd ha ht hl1 (by omega);have hI':Iv B (skip σ 1):=by have:=(xI h).1;rw[ht1]at this;exact this
  have hd':Hd (skip σ 1):=by have:=Bh h hd;rw[ht1]at this;exact this
  obtain⟨a1,a2,a3⟩:=GM h ha ht (by omega) hl' (by omega) hI';have hnow:=(gi σ (Int.le_refl 1)).2.1;obtain⟨b1,b2⟩:=pP (k+1) (σ:=skip σ 1) (by omega) hI' hd' a1 a2 a3 (by rw[hnow];omega);rw[nt,sY,ht1];simp only;rw[b1,b2,Ij h hI' (by omega) hl'];exact⟨rfl,rfl⟩
end
end Go.AX.pm
namespace Go.AX.pm
open Go.AX
noncomputable section
def gZ(q:Int)(b:Back):Back:={ b with ran:=b.ran+q }
def fj:Nat->List Back->List Back
 | 0,l=>l
 | _+1,[]=>[]
 | k+1,b::r=>fj k (r++[gZ 1 b])
theorem Iq(p q:Int)(b:Back):gZ p (gZ q b)=gZ (q+p) b:=by
 unfold gZ;simp only[Int.add_assoc]
theorem qg:∀k,fj k []=[]
 | 0=>rfl
 | _+1=>rfl
theorem qQ:∀(n:Nat)(r s:List Back),n<=r.length->fj n (r++s)=r.drop n++s++(r.take n).map (gZ 1)
 | 0,r,s,_=>by simp[fj]
 | n+1,[],_,h=>by simp at h
 | n+1,x::r,s,h=>by
  show fj n (r++s++[gZ 1 x])=_;rw[List.append_assoc,qQ n r (s++[gZ 1 x]) (by simpa using h)];simp
theorem wV:∀(k:Nat)(l:List Back),(fj k l).length=l.length
 | 0,_=>rfl
 | _+1,[]=>rfl
 | k+1,b::r=>by
  show (fj k (r++[gZ 1 b])).length=_;rw[wV k];simp
theorem tc:∀(a b:Nat)(l:List Back),fj (a+b) l=fj b (fj a l)
 | 0,b,l=>by rw[Nat.zero_add];rfl
 | a+1,b,[]=>by rw[qg,qg,qg]
 | a+1,b,x::r=>by
  rw[show a+1+b=(a+b)+1 by omega];show fj (a+b) (r++[gZ 1 x])=fj b (fj a (r++[gZ 1 x]));exact tc a b _
theorem Ir(l:List Back):fj l.length l=l.map (gZ 1):=by
 have:=qQ l.length l [] (Nat.le_refl _);simpa using this
theorem yq(l:List Back):∀q:Nat,fj (l.length*q) l=l.map (gZ q)
 | 0=>by
  show l=_;rw[List.map_congr_left (g:=id) (fun b _=>by unfold gZ;simp),List.map_id]
 | q+1=>by
  rw[Nat.mul_succ,tc,yq l q];have:=Ir (l.map (gZ q));rw[List.length_map]at this;rw[this,List.map_map];refine List.map_congr_left fun b _=>?_
  show gZ 1 (gZ q b)=_;rw[Iq];rfl
theorem DW{l:List Back}(T:Nat)(h:0<l.length):fj T l=(l.drop (T % l.length)).map (gZ (T / l.length:Nat))++(l.take (T % l.length)).map (gZ ((T / l.length:Nat)+1)):=by
 have e:=Nat.div_add_mod T l.length;have hm:=Nat.mod_lt T h;have:fj T l=fj (T % l.length) (l.map (gZ (T / l.length:Nat))):=by
  rw[<-yq,<-tc,e]
 rw[this];have hp:=qQ (T % l.length) (l.map (gZ (T / l.length:Nat))) [] (by rw[List.length_map];omega);simp only[List.append_nil]at hp;rw[hp,List.map_drop];congr 1;rw[<-List.map_take,List.map_map];refine List.map_congr_left fun b _=>?_
 show gZ 1 (gZ _ b)=_;rw[Iq]
theorem Is{l:List Back}{n:Nat}(hn:n<=l.length)(h:∀b∈l,0<=b.ran/\b.ran<=4611686018427387904):fb l n=fj n l:=by
 have hp:=qQ n l [] hn;simp only[List.append_nil]at hp;rw[hp];unfold fb;congr 1;refine List.map_congr_left fun b hb=>?_
 have:=h b (List.mem_of_mem_take hb);unfold gZ;rw[dI (by omega) (by omega)]
theorem It{l:List Back}{n:Nat}(h:∀b∈l,0<=b.ran/\b.ran<=4611686018427387904):∀b∈fb l n,∃c∈l,c.ran<=b.ran/\b.ran<=c.ran+1:=by
 intro b hb;unfold fb at hb;rcases List.mem_append.1 hb with hb|hb
 .exact⟨b,List.mem_of_mem_drop hb,by omega,by omega⟩
 .obtain⟨c,hc,rfl⟩:=List.mem_map.1 hb;have hcm:=List.mem_of_mem_take hc;have:=h c hcm;refine⟨c,hcm,?_⟩;show c.ran<=bh .i64 c.ran 1/\bh .i64 c.ran 1<=c.ran+1;rw[dI (by omega) (by omega)];omega
theorem vf:∀(k:Nat){l:List Back}{n:Nat},n<=l.length->(∀b∈l,0<=b.ran/\b.ran+k<=4611686018427387904)->mL k l n=fj (k*n) l
 | 0,l,n,_,_=>by rw[Nat.zero_mul];rfl
 | k+1,l,n,hn,h=>by
  show mL k (fb l n) n=_;have h0:∀b∈l,0<=b.ran/\b.ran<=4611686018427387904:=fun b hb=>by have:=h b hb;omega
  rw[vf k (by rw[Ah];exact hn) (fun b hb=>by
   obtain⟨c,hc,h1,h2⟩:=It h0 b hb;have:=h c hc;omega),Is hn h0,<-tc]
  congr 1;rw[Nat.succ_mul];omega
theorem Iu{k n a:Nat}(ha:0<a):(k*n) / a=k / a*n+(n*(k % a)) / a/\(k*n) % a=(n*(k % a)) % a:=by
 have e:=Nat.div_add_mod k a;have e2:k*n=n*(k % a)+a*(k / a*n):=by
  conv=>lhs;rw[<-e]
  rw[Nat.add_mul,Nat.mul_assoc,Nat.mul_comm n (k % a)];omega
 refine⟨?_,?_⟩
 .rw[e2,Nat.add_mul_div_left _ _ ha];omega
 .rw[e2,Nat.add_mul_mod_self_left]
end
end Go.AX.pm
namespace Go.AX.pm
open Go.AX
noncomputable section
theorem wW:∀(k:Nat)(l:List Back),mL k l 0=l
 | 0,_=>rfl
 | k+1,l=>by
  show mL k (fb l 0) 0=l;have:fb l 0=l:=by unfold fb;simp
  rw[this,wW k l]
def qR(n r j:Nat):Nat:=if j<n-r then r+j else j-(n-r)
theorem J6{n r j:Nat}(hr:r<n)(hj:j<n):qR n r j<n:=by unfold qR;split<;>omega
theorem Ix{n r j:Nat}(hr:r<n)(hj:j<n){f:Nat->Int}:(((List.range n).map f).drop r++((List.range n).map f).take r)[j]? = some (f (qR n r j)):=by
 have hl:((List.range n).map f).length=n:=by simp
 rw[List.getElem?_append,List.length_drop,hl];unfold qR;by_cases h:j<n-r
 .rw[if_pos h,if_pos h,List.getElem?_drop,List.getElem?_map,List.getElem?_range (by omega)];rfl
 .rw[if_neg h,if_neg h,List.getElem?_take,if_pos (by omega),List.getElem?_map,List.getElem?_range (by omega)];rfl
theorem J7{l:List Back}{k many j:Nat}(hj:j<l.length) :
  (fj (k*many) l)[j]? = (l[qR l.length (many*(k % l.length) % l.length) j]?).map (gZ (((k / l.length*many+many*(k % l.length) / l.length:Nat):Int)+if qR l.length (many*(k % l.length) % l.length) j<many*(k % l.length) % l.length then 1 else 0)):=by
 have hpos:0<l.length:=by omega
 obtain⟨e1,e2⟩:=Iu (k:=k) (n:=many) hpos;rw[DW _ hpos,e1,e2];have hr:=Nat.mod_lt (many*(k % l.length)) hpos;generalize many*(k % l.length) % l.length=r at hr;generalize k / l.length*many+many*(k % l.length) / l.length=q;rw[List.getElem?_append,List.length_map,List.length_drop];unfold qR;by_cases h:j<l.length-r
 .rw[if_pos h,if_pos h,List.getElem?_map,List.getElem?_drop,if_neg (by omega),Int.add_zero]
 .rw[if_neg h,if_neg h,List.getElem?_map,List.getElem?_take,if_pos (by omega),if_pos (by omega)]
end
end Go.AX.pm
namespace Go.AX.pm
open Go.AX
noncomputable section
def gH:List Back->Int
 | []=>0
 | b::r=>b.ran+gH r
theorem uY:∀l k:List Back,gH (l++k)=gH l+gH k
 | [],_=>by simp[gH]
 | b::r,k=>by simp only[List.cons_append,gH,uY r k];omega
theorem D5{R:Int}:∀{l:List Back},(∀b∈l,0<=b.ran/\b.ran<=R)->0<=gH l/\gH l<=R*l.length
 | [],_=>by simp[gH]
 | b::r,h=>by
  have hb:=h b (List.mem_cons_self ..);have ih:=D5 (l:=r) (fun c hc=>h c (List.mem_cons_of_mem _ hc));simp only[gH,List.length_cons,Int.natCast_add,Int.natCast_one,Int.mul_add,Int.mul_one];omega
theorem Ik{l:List Back}{k:Nat}{b:Back}(h:l[k]? = some b):gH (l.take (k+1))=gH (l.take k)+b.ran:=by
 rw[List.take_add_one,h,uY];simp[gH]
theorem yn{σ : St}(h:((aQ σ).length:Int)<=σ.m)(hm:σ.m<=64)(hb:σ.backs.length<=1000):((fu σ).length:Int)=min (σ.m-(aQ σ).length) σ.backs.length:=by
 unfold fu;rw[List.length_map,List.length_take];have e:cZ .i64 σ.m (am (aQ σ).length) = σ.m-(aQ σ).length:=eF (by unfold am;omega) (by unfold am;omega);rw[e];have:fN (σ.m-(aQ σ).length) (am σ.backs.length)=min (σ.m-(aQ σ).length) σ.backs.length:=by
  unfold fN am;split<;>omega
 rw[this];omega
end
end Go.AX.pm
namespace Go.AX.pm
open Go.AX
noncomputable section
theorem Fj{B:Int}{σ : St}(h:Iv B σ):(aQ σ).length<=64:=by
 have:=pl.pick_length (wI h);have h2:=h.m2;unfold aQ;unfold wJ at this;omega
theorem J3{B:Int}{σ : St}(h:Iv B σ)(hd:Hd σ)(hz:∀x∈σ.servs,x.s.mode=0)(n:Nat)(hn:σ.now+n<=4611686018427387904):ku n σ = []/\dL n σ = skip σ n:=by
 have hr:∀{v:Serv},v∈σ.servs->v.id∉aQ σ:=fun hv hr=>by
  have:=(oo h hv hr).1;rw[hz _ hv]at this;exact absurd this (by decide)
 cases n with
 | zero=>exact⟨rfl,rfl⟩
 | succ n=>
  have:=pP (n+1) (by omega) h hd (fun x hx hxr _=>absurd hxr (hr hx)) (fun x hx=>by
   unfold fp eY Serv.idle;rw[eK.2 (hz x hx),Bool.true_or];rfl) (fun v hv=>⟨fun e=>absurd (hz v hv) e,fun e=>absurd e (hr hv),fun e=>absurd e (hr hv),fun e=>absurd e (hr hv)⟩) hn
  exact⟨this.2,this.1⟩
end
end Go.AX.pm
namespace Go.AX.pm
open Go.AX
theorem CM{B:Int}{σ : St}(h:Iv B σ):((aQ σ).length:Int)=min σ.m ((ready σ.servs).length:Int):=by
 have:=pl.pick_length (wI h);unfold wJ at this;rw[List.length_map]at this;have h1:=h.m1;unfold aQ;omega
noncomputable def step(s:St)(a:Act):St:=
 bif cT a.op 0 then (add s a.who a.q a.p).1 else
 bif cT a.op 2 then (release s a.who a.steps).1 else dL (min a.n.toNat 40) s
end Go.AX.pm
namespace Go.AX.pm
open Go.AX
noncomputable section
theorem zX:∀(T:Nat){l:List Back},l≠[]->gH (fj T l)=gH l+T
 | 0,l,_=>by show gH l=_;simp
 | T+1,[],h=>absurd rfl h
 | T+1,b::r,_=>by
  show gH (fj T (r++[gZ 1 b]))=_;rw[zX T (by simp),uY];show gH r+(gH [gZ 1 b])+T=b.ran+gH r+((T+1:Nat):Int);show gH r+((b.ran+1)+0)+T=_;omega
def eG(k:Nat):List Back:=(List.range k).map fun(j:Nat)=>(⟨(j:Int)+1,0⟩:Back)
theorem iO(k:Nat):(eG k).length=k:=by unfold eG;simp
theorem yj(k:Nat):eG (k+1)=eG k++[⟨(k:Int)+1,0⟩]:=by unfold eG;rw[List.range_succ];simp
theorem qP{k:Nat}{b:Back}(h:b∈eG k):b.ran=0/\b.id<=k:=by
 unfold eG at h;obtain⟨j,hj,rfl⟩:=List.mem_map.1 h;have:=List.mem_range.1 hj;exact⟨rfl,by show (j:Int)+1<=k;omega⟩
theorem zY:∀k,gH (eG k)=0
 | 0=>rfl
 | k+1=>by rw[yj,uY,zY k];rfl
theorem LH{T k:Nat}{b:Back}(h:b∈fj T (eG k)):((T / k:Nat):Int)<=b.ran/\b.ran<=((T / k:Nat):Int)+1:=by
 by_cases hk:k=0
 .subst hk;have:fj T (eG 0)=[]:=qg T;rw[this]at h;cases h
 .rw[DW T (by rw[iO];omega),iO]at h;rcases List.mem_append.1 h with h|h
  .obtain⟨c,hc,rfl⟩:=List.mem_map.1 h;have:=(qP (List.mem_of_mem_drop hc)).1;unfold gZ;simp only;omega
  .obtain⟨c,hc,rfl⟩:=List.mem_map.1 h;have:=(qP (List.mem_of_mem_take hc)).1;unfold gZ;simp only;omega
theorem DX{σ : St}{k:Nat}(hk:k<16)(hb:σ.backs=eG k):gG σ ((k:Int)+1) true=({ σ with backs:=eG (k+1) },0):=by
 unfold gG;rw[dJ.2 (show (1:Int)<=(k:Int)+1 by omega),show cQ 255 ((k:Int)+1)=false from dJ.2 (by omega)];have hno:back σ.backs ((k:Int)+1)=none:=by
  unfold back;rw[List.findIdx?_eq_none_iff];intro x hx;rw[hb]at hx;have:=(qP hx).2;exact dP.2 (by omega)
 rw[hno,hb,iO,show leI 16 (am k)=false from nW.2 (by unfold am;omega)];show (({ σ with backs:=eG k++[⟨(k:Int)+1,0⟩] }:St),(0:Int))=_;rw[yj]
end
end Go.AX.pm
