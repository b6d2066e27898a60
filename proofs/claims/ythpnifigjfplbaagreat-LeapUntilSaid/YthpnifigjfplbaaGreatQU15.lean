import Derived.Test.YthpnifigjfplbaaGreatQU14
set_option linter.unusedSimpArgs false
set_option linter.unusedVariables false
set_option linter.unusedSectionVars false
namespace Go.AX
variable [Kap]
variable {P:Program} {cx:Cx} {φ : cV} {m:Mem} {w:World}
omit [Kap]in
theorem rY{p p':Nat->Bool}:∀{l:List (Nat×Nat×AObj)} {m:Mem},(∀k id o,(k,id,o)∈l->p k=p' k)->addMade p l m=addMade p' l m
 | [],m,_=>rfl
 | (i,id,o)::r,m,h=>by
  simp only[addMade];rw[h i id o (by simp),rY (l:=r) (fun k id o hm=>h k id o (gQ5 _ hm))]
section
omit [Kap]
theorem pw{st:St}{M:Mem}{x:Operand}:cU cx { st with m:=M } x=cU cx st x:=by cases x<;>rfl
theorem ya{M M':Mem}{ad:Addr}{n:Nat}(h:M'.hp.get ad.block=M.hp.get ad.block):fk M' ad n=fk M ad n:=by
 unfold fk;rw[h]
theorem Hc{M M':Mem}{t:TypeId}{ad:Addr}(h:M'.hp.get ad.block=M.hp.get ad.block):loadT cx M' t ad=loadT cx M t ad:=by
 unfold loadT;simp only[ya h]
theorem JR{call:dB}{st:St}{o:Oper}{ty:TypeId}{x:Operand}{ad:Addr}{M M' m1:Mem}{v:Option Value}(ho:o.op = .load ty x)(hx:cU cx st x=some (.pointer (some ad)))
  (h:dh cx call { st with m:=M } o=some (v,m1)) (hb:M'.hp.get ad.block=M.hp.get ad.block):dh cx call { st with m:=M' } o=some (v,M'):=by
 unfold dh at h ⊢;rw[ho]at h ⊢;simp only[pw,hx]at h ⊢;rw[Hc hb];cases hl:loadT cx M ty ad with
 | none=>rw[hl]at h;cases h
 | some y=>rw[hl]at h;cases h;rfl
def Alike(lo hi:Nat)(o o':AObj):Prop:=o'=o∨∃c c' n e x,o = .cells c n e x/\o' = .cells c' n e x/\∀j,lo<=j->j<hi->c'.get j=c.get j
theorem Alike.trans{lo hi:Nat}{o o1 o2:AObj}(h:Alike lo hi o o1)(k:Alike lo hi o1 o2):Alike lo hi o o2:=by
 rcases h with rfl|⟨c,c1,n,e,x,rfl,rfl,h1⟩
 .exact k
 .rcases k with rfl|⟨c',c2,n',e',x',k0,rfl,k1⟩
  .exact .inr ⟨c,c1,n,e,x,rfl,rfl,h1⟩
  .cases k0;exact .inr ⟨c,c2,n,e,x,rfl,rfl,fun j a b=>(k1 j a b).trans (h1 j a b)⟩
theorem zL{c c':Tr Value}:∀{n off lo hi:Nat},lo<=off->off+n<=hi->(∀j,lo<=j->j<hi->c'.get j=c.get j)->iG c' n off=iG c n off
 | 0,_,_,_,_,_,_=>rfl
 | n+1,off,lo,hi,h1,h2,h=>by
  unfold iG;rw[h off h1 (by omega),zL (n:=n) (off:=off+1) (lo:=lo) (hi:=hi) (by omega) (by omega) h]
theorem yd{M M':Mem}{ad:Addr}{n lo hi:Nat}{o o':AObj}(h1:M.hp.get ad.block=some o)(h2:M'.hp.get ad.block=some o')(ha:Alike lo hi o o')(hl:lo<=ad.off)(hh:ad.off+n<=hi):fk M' ad n=fk M ad n:=by
 rcases ha with rfl|⟨c,c',k,e,x,rfl,rfl,h⟩
 .exact ya (h2.trans h1.symm)
 .unfold fk;simp only[h1,h2];rw[zL hl hh h]
theorem Iz{call:dB}{st:St}{o:Oper}{ty:TypeId}{x:Operand}{ad:Addr}{M M' m1:Mem}{v:Option Value}{k:Nat}{ob ob':AObj}(ho:o.op = .load ty x)(hx:cU cx st x=some (.pointer (some ad)))
  (h:dh cx call { st with m:=M } o=some (v,m1)) (hk:dO cx ty=some k) (hk1:1<=k) (h1:M.hp.get ad.block=some ob) (h2:M'.hp.get ad.block=some ob') (ha:Alike ad.off (ad.off+k) ob ob'):dh cx call { st with m:=M' } o=some (v,M'):=by
 unfold dh at h ⊢;rw[ho]at h ⊢;simp only[pw,hx]at h ⊢;have g1:=yd (n:=k) h1 h2 ha (gQ4 _) (gQ4 _);have g2:=yd (n:=1) h1 h2 ha (gQ4 _) (by omega);have e:loadT cx M' ty ad=loadT cx M ty ad:=by
  unfold loadT;rw[hk];cases cx.un.get ty with
  | none=>rfl
  | some d=>
   cases hd:mX d with
   | true=>simp only[hd,g1]
   | false=>simp only[hd,g2]
 rw[e];cases hl:loadT cx M ty ad with
 | none=>rw[hl]at h;cases h
 | some y=>rw[hl]at h;cases h;rfl
theorem He{call:dB}{st:St}{o:Oper}{ty:TypeId}{c x:Operand}{ad:Addr}{M m1:Mem}{v:Option Value}{n lo hi:Nat}(ho:o.op = .store ty c x)(hx:cU cx st c=some (.pointer (some ad)))
  (h:dh cx call { st with m:=M } o=some (v,m1)) (hn:dO cx ty=some n) (hd:hi<=ad.off∨ad.off+n<=lo):∀ob,M.hp.get ad.block=some ob->∃ob',m1.hp.get ad.block=some ob'/\Alike lo hi ob ob':=by
 intro ob hob;unfold dh at h;rw[ho]at h;simp only[pw,hx]at h;cases hv:cU cx st x with
 | none=>rw[hv]at h;cases h
 | some y=>
  rw[hv]at h;simp only at h;cases hs:storeT cx M ty ad y with
  | none=>rw[hs]at h;cases h
  | some m2=>
   rw[hs]at h;cases h;unfold storeT at hs;rw[hn]at hs;simp only at hs;split at hs
   .rename_i hlen;have hlen:=gR3 hlen;unfold iQ at hs;split at hs
    .cases hs
    .split at hs
     .rename_i c' k e x' hg;split at hs
      .cases hs;rw[hob]at hg;cases hg;refine⟨_,by show (M.hp.put ad.block _).get ad.block=_;rw[Tr.get_put,if_pos rfl],.inr ⟨c',_,k,e,x',rfl,rfl,fun j a b=>by rw[gn,if_neg (by rw[hlen];omega)]⟩⟩
      .cases hs
     .cases hs
   .cases hs
theorem LX{call:dB}{st:St}{o:Oper}{ty:TypeId}{c k x:Operand}{r:Nat}{M m1:Mem}{v:Option Value}{b:Nat}(ho:o.op = .mapUpdate ty c k x)(hx:cU cx st c=some (.map (some r)))
  (h:dh cx call { st with m:=M } o=some (v,m1)) (hb:r≠b):m1.hp.get b=M.hp.get b:=by
 unfold dh at h;rw[ho]at h;simp only[pw,hx]at h;cases hk:cU cx st k with
 | none=>rw[hk]at h;cases h
 | some kv=>
  cases hv:cU cx st x with
  | none=>rw[hk,hv]at h;cases h
  | some y=>
   rw[hk,hv]at h;simp only at h;cases hs:fN cx M ty (.map (some r)) kv y with
   | none=>rw[hs]at h;cases h
   | some m2=>
    rw[hs]at h;cases h;unfold fN at hs;cases hm:mapKey cx ty kv with
    | none=>rw[hm]at hs;cases hs
    | some p=>
    obtain⟨d,et⟩:=p;rw[hm]at hs;simp only at hs;have so:∀{ob:AObj} {m':Mem},mY M r ob=some m'->m'.hp.get b=M.hp.get b:=fun{ob m'} e=>by
     unfold mY at e;split at e
     .cases e;show (M.hp.put r ob).get b=_;rw[Tr.get_put,if_neg (fun e=>hb e.symm)]
     .cases e
    repeat' split at hs
    all_goals first|(cases hs;done)|exact so hs
theorem IA{call:dB}{st:St}{o:Oper}{ty:TypeId}{c x:Operand}{ad:Addr}{M m1:Mem}{v:Option Value}{b:Nat}(ho:o.op = .store ty c x)(hx:cU cx st c=some (.pointer (some ad)))
  (h:dh cx call { st with m:=M } o=some (v,m1)) (hb:ad.block≠b):m1.hp.get b=M.hp.get b:=by
 unfold dh at h;rw[ho]at h;simp only[pw,hx]at h;cases hv:cU cx st x with
 | none=>rw[hv]at h;cases h
 | some y=>
  rw[hv]at h;simp only at h;cases hs:storeT cx M ty ad y with
  | none=>rw[hs]at h;cases h
  | some m2=>
   rw[hs]at h;cases h;unfold storeT at hs;split at hs
   .split at hs
    .unfold iQ at hs;split at hs
     .cases hs
     .split at hs
      .split at hs
       .cases hs;show (M.hp.put ad.block _).get b=_;rw[Tr.get_put,if_neg (fun e=>hb e.symm)]
       .cases hs
      .cases hs
    .cases hs
   .cases hs
end
omit [Kap]in
theorem R0.congr{m1 m2:Mem}(h:R0 P φ m1 w)(he:∀b,m2.hp.get b=m1.hp.get b):R0 P φ m2 w:=pz h (fun b o hb=>by rw[he]at hb;exact hb)
section
variable {call:dB} {ops:Array Oper} {base:Nat} {st0 st':St} (T:Trace cx call ops.toList (eN ops.toList []) base 0 ⟨0,[],[],0⟩ st0 st')
noncomputable def vis(L:Nat->Bool)(t:Nat):Mem:=addMade (fun k=>L k&&!hasBit (T.D t).took k) (T.D ops.toList.length).made (T.S t).m
noncomputable def tmU(L:Nat->Bool):Nat->Nat->Option Value
 | 0,s=>(T.S 0).tm.get s
 | j+1,s=>match ops.toList[j]? with
  | some o=>if L j=true/\o.dst=some s then (T.S (j+1)).tm.get s else tmU L j s
  | none=>tmU L j s
def Away(k t' t:Nat):Prop:=∀h s,t'<=h->h<t->T.isH h->T.own h->(eN ops.toList [])[h]? = some s->hasBit s k=false
structure Inv (P:Program) (φ0:cV) (m0:Mem) (w0:World) (L:Nat->Bool) (φ : cV) (a:Act) (w:World) (t:Nat):Prop where
 tn:t<=ops.toList.length
 hs:∀h,T.isH h->(L h=true↔h<t)
 dc:∀i o,ops.toList[i]? = some o->L i=true->∀e∈o.after.toList,Region.binds .any e=true->L e.on=true
 r0:R0 P φ (vis T L t) w
 fr:Fresh φ (T.S t).m.nx
 nx:base+ops.toList.length<=(T.S t).m.nx
 fl:(T.S t).m.fl=m0.fl
 un:∀k,k<ops.toList.length->L k=false->φ (base+k)=none
 gone:∀k,k<ops.toList.length->hasBit (T.D t).took k=false->(T.S t).m.hp.get (base+k)=none
 sub:∀b t',t'<=t->(∀h,t'<=h->h<t->T.isH h->T.soft h∨T.keeps h b)->
  (∀o,(T.S t').m.hp.get b=some o->(T.S t).m.hp.get b=some o)/\
  (∀k o,base+k=b->(k,base+k,o)∈(T.D ops.toList.length).made->hasBit (T.D t).took k=true->hasBit (T.D t').took k=false->Away T k t' t->(T.S t).m.hp.get (base+k)=some o)
 subc:∀b lo hi t',b<base->t'<=t->(∀h,t'<=h->h<t->T.isH h->T.soft h∨T.keeps h b∨T.keepsC h b lo hi)->
  ∀o,(T.S t').m.hp.get b=some o->∃o',(T.S t).m.hp.get b=some o'/\Alike lo hi o o'
 tm:∀s v,tmU T L ops.toList.length s=some v->VR φ v (a.tmps.getD s undef)
 sz:a.tmps.size=st0.sz
 df:a.defers=[]
 st:Stp φ0 m0 w0 φ (vis T L t) w
omit [Kap]in
theorem HP(L:Nat->Bool):∀n,∃X:Tr Value,∀s,X.get s=tmU T L n s
 | 0=>⟨(T.S 0).tm,fun s=>rfl⟩
 | n+1=>by
  obtain⟨X,hX⟩:=HP L n;cases ho:ops.toList[n]? with
  | none=>exact⟨X,fun s=>by simp only[tmU,ho];exact hX s⟩
  | some o=>
   cases hd:o.dst with
   | none=>exact⟨X,fun s=>by simp only[tmU,ho,hd];rw[if_neg (by simp)];exact hX s⟩
   | some d=>
    cases hL:L n with
    | false=>exact⟨X,fun s=>by simp only[tmU,ho,hL];rw[if_neg (by simp)];exact hX s⟩
    | true=>
     cases hv:(T.S (n+1)).tm.get d with
     | none=>
      refine⟨X.del d,fun s=>?_⟩;simp only[tmU,ho,hd,hL];rw[Tr.get_del];by_cases e:s=d
      .subst e;rw[if_pos rfl,if_pos (by simp),hv]
      .rw[if_neg e,if_neg (by rintro⟨_,q⟩;cases q;exact e rfl)];exact hX s
     | some v=>
      refine⟨X.put d v,fun s=>?_⟩;simp only[tmU,ho,hd,hL];rw[Tr.get_put];by_cases e:s=d
      .subst e;rw[if_pos rfl,if_pos (by simp),hv]
      .rw[if_neg e,if_neg (by rintro⟨_,q⟩;cases q;exact e rfl)];exact hX s
omit [Kap]in
theorem CU{L:Nat->Bool}{s:Nat}:∀{i:Nat},i<=ops.toList.length->(∀j o,j<i->ops.toList[j]? = some o->o.dst=some s->L j=true)->tmU T L i s=(T.S i).tm.get s
 | 0,_,_=>rfl
 | i+1,hi,h=>by
  have ho:=gQ2 (show i<ops.toList.length by omega);simp only[tmU,ho];by_cases hd:ops.toList[i].dst=some s
  .rw[if_pos ⟨h i _ (by omega) ho hd,hd⟩]
  .rw[if_neg (fun q=>hd q.2),T.tm_step ho hd];exact CU (i:=i) (by omega) (fun j o hj=>h j o (by omega))
omit [Kap]in
theorem wx{L:Nat->Bool}{s i:Nat}:∀{j:Nat},i<=j->(∀k o,i<=k->k<j->ops.toList[k]? = some o->o.dst=some s->L k=false)->tmU T L j s=tmU T L i s
 | 0,hij,_=>by
  obtain rfl:i=0:=by omega
  rfl
 | j+1,hij,h=>by
  by_cases e:i=j+1
  .subst e;rfl
  .rw[<-wx (L:=L) (s:=s) (i:=i) (j:=j) (by omega) (fun k o a b=>h k o a (by omega))];simp only[tmU];cases ho:ops.toList[j]? with
   | none=>rfl
   | some o=>
    dsimp only;rw[if_neg];rintro⟨q1,q2⟩;rw[h j o (by omega) (by omega) ho q2]at q1;cases q1
omit [Kap]in
theorem IB{ol:List Oper}{x y:Oper}{d:Nat}(hx:x.dst=some d)(hr:d∈ml ol y):clash ol x y=true:=by
 unfold clash;simp[writesIn,hx,hr]
omit [Kap]in
theorem Hf{ol:List Oper}{x y:Oper}{d:Nat}(hy:y.dst=some d)(hr:d∈ml ol x):clash ol x y=true:=by
 unfold clash;simp[writesIn,hy,hr]
omit [Kap]in
theorem Hg{ol:List Oper}{x y:Oper}{d:Nat}(hx:x.dst=some d)(hy:y.dst=some d):clash ol x y=true:=by
 unfold clash;simp[hx,hy]
omit [Kap]in
theorem N8(hsl:gO ops.toList ops.toList (eN ops.toList []) 0=true){L:Nat->Bool}
  (dc:∀i o,ops.toList[i]? = some o->L i=true->∀e∈o.after.toList,Region.binds .any e=true->L e.on=true)
  {i s:Nat} {o:Oper} (ho:ops.toList[i]? = some o) (hs:(eN ops.toList [])[i]? = some s) (hr:∀e∈o.after.toList,Region.binds .any e=true->L e.on=true) (hL:L i=false) {d:Nat} (hd:d∈ml ops.toList o) :
  tmU T L ops.toList.length d=(T.S i).tm.get d:=by
 have hil:i<ops.toList.length:=(gQ1 ho).1;rw[wx T (i:=i) (by omega) (fun k x hik hk hx hxd=>?_),CU T (by omega) (fun j x hj hx hxd=>?_)]
 .exact jo hsl dc i o s j ho hs hr (vg hsl hj hx ho hs (IB hxd hd))
 .by_cases e:k=i
  .subst e;exact hL
  .obtain⟨sk,hsk⟩:=gY hx;cases hLk:L k with
   | false=>rfl
   | true=>
    have hb:=vg hsl (show i<k by omega) ho hx hsk (Hf hxd hd);have:=jo hsl dc k x sk i hx hsk (dc k x hx hLk) hb;rw[hL]at this;cases this
omit [Kap]in
theorem CV(hsl:gO ops.toList ops.toList (eN ops.toList []) 0=true){L L':Nat->Bool}
  (dc:∀i o,ops.toList[i]? = some o->L i=true->∀e∈o.after.toList,Region.binds .any e=true->L e.on=true)
  {i:Nat} {o:Oper} (ho:ops.toList[i]? = some o) (hL:L i=false) (hL':∀k,L' k=if k=i then true else L k) (d:Nat) :
  tmU T L' ops.toList.length d=if o.dst=some d then (T.S (i+1)).tm.get d else tmU T L ops.toList.length d:=by
 have hil:i<ops.toList.length:=(gQ1 ho).1;have low:∀j,j<=i->tmU T L' j d=tmU T L j d:=by
  intro j
  induction j with
  | zero=>intro _;rfl
  | succ j ih=>
   intro hj;simp only[tmU];rw[ih (by omega),hL' j,if_neg (by omega)]
 by_cases hd:o.dst=some d
 .rw[if_pos hd,wx T (i:=i+1) (by omega) (fun k x hik hk hx hxd=>?_)]
  .simp only[tmU,ho];rw[if_pos ⟨by rw[hL',if_pos rfl],hd⟩]
  .rw[hL',if_neg (by omega)];obtain⟨sk,hsk⟩:=gY hx;cases hLk:L k with
   | false=>rfl
   | true=>
    have hb:=vg hsl (show i<k by omega) ho hx hsk (Hg hd hxd);have:=jo hsl dc k x sk i hx hsk (dc k x hx hLk) hb;rw[hL]at this;cases this
 .rw[if_neg hd];have high:∀j,i+1<=j->tmU T L' j d=tmU T L j d:=by
   intro j hj
   induction j with
   | zero=>omega
   | succ j ih=>
    by_cases e:j=i
    .subst e;simp only[tmU,ho];rw[if_neg (fun q=>hd q.2),if_neg (fun q=>hd q.2),low _ (gQ4 _)]
    .simp only[tmU];rw[ih (by omega),hL' j,if_neg e]
  exact high _ (by omega)
theorem FC{φ0:cV}{m0:Mem}{w0:World}{L:Nat->Bool}{a:Act}{t:Nat}(I:Inv T P φ0 m0 w0 L φ a w t){i t' s b:Nat}(hi:i<=ops.toList.length)(ht:t'<=t)(hsoft:∀h,t'<=h->h<t->T.isH h->T.soft h∨T.keeps h b)
  (hl:∀k,hasBit s k=true->L k=true) (haw:∀k id ob,(k,id,ob)∈(T.D ops.toList.length).made->hasBit s k=true->Away T k t' t):∀o,(addMade (dQ s (T.D t').took) (T.D i).made (T.S t').m).hp.get b=some o->(vis T L t).hp.get b=some o:=by
 obtain⟨sub1,sub2⟩:=I.sub b t' ht hsoft;have base_case:∀o,(T.S t).m.hp.get b=some o->(vis T L t).hp.get b=some o:=by
  intro o h;unfold vis;rw[eX,h];intro k o' hm;obtain⟨hk,rfl⟩:=T.made_in (gQ4 _) hm;cases htk:hasBit (T.D t).took k with
  | true=>simp
  | false=>rw[I.gone k hk htk]at h;cases h
 intro o h;rcases li h with⟨k,h1,h2⟩|⟨h1,_⟩
 .have hm:=T.made_mono hi (gQ4 _) h1;obtain⟨hk,rfl⟩:=T.made_in (gQ4 _) hm;simp only[dQ,Bool.and_eq_true,Bool.not_eq_true']at h2;have hLk:=hl k h2.1;cases htk:hasBit (T.D t).took k with
  | false=>
   unfold vis;exact jA (fun k' o' hm'=>T.made_one (gQ4 _) hm hm') hm (by simp[hLk,htk])
  | true=>exact base_case _ (sub2 k o rfl hm htk h2.2 (haw k _ o hm h2.1))
 .exact base_case _ (sub1 o h1)
theorem zq{φ0:cV}{m0:Mem}{w0:World}{L:Nat->Bool}{a:Act}{t:Nat}(I:Inv T P φ0 m0 w0 L φ a w t){i t' s:Nat}(hi:i<=ops.toList.length)(ht:t'<=t)(hsoft:∀h,t'<=h->h<t->T.isH h->T.soft h)
  (hl:∀k,hasBit s k=true->L k=true) (haw:∀k id ob,(k,id,ob)∈(T.D ops.toList.length).made->hasBit s k=true->Away T k t' t):∀b o,(addMade (dQ s (T.D t').took) (T.D i).made (T.S t').m).hp.get b=some o->(vis T L t).hp.get b=some o:=
 fun _=>FC T I hi ht (fun h a b c=>.inl (hsoft h a b c)) hl haw
theorem DD(hsl:gO ops.toList ops.toList (eN ops.toList []) 0=true){φ0:cV}{m0:Mem}{w0:World}{L L':Nat->Bool}{a:Act}{t:Nat}(I:Inv T P φ0 m0 w0 L φ a w t)
  {i:Nat} {o:Oper} (ho:ops.toList[i]? = some o) (hL:L i=false) (hL':∀k,L' k=if k=i then true else L k) (hr:∀e∈o.after.toList,Region.binds .any e=true->L e.on=true)
  (hnH:¬T.isH i) (hnM:∀id ob,(i,id,ob)∉(T.D ops.toList.length).made) {v':Value} (hv:∀d v,o.dst=some d->(T.S (i+1)).tm.get d=some v->VR φ v v') (hd:∀d,o.dst=some d->d<st0.sz) :
  Inv T P φ0 m0 w0 L' φ (a.put o.dst v') w t:=by
 have hvis:vis T L' t=vis T L t:=by
  unfold vis;apply rY;intro k id ob hm;have hne:k≠i:=by rintro rfl;exact hnM _ _ hm
  simp only[hL' k,if_neg hne]
 have mono:∀k,L k=true->L' k=true:=by
  intro k hk;rw[hL'];split
  .rfl
  .exact hk
 refine⟨I.tn,?_,?_,by rw[hvis];exact I.r0,I.fr,I.nx,I.fl,?_,I.gone,I.sub,I.subc,?_,by rw[tg];exact I.sz,?_,by rw[hvis];exact I.st⟩
 .intro h hh;have hne:h≠i:=by rintro rfl;exact hnH hh
  rw[hL',if_neg hne];exact I.hs h hh
 .intro j x hx hj e he hb;rw[hL']at hj;split at hj
  .rename_i q;subst q;rw[ho]at hx;cases hx;exact mono _ (hr e he hb)
  .exact mono _ (I.dc j x hx hj e he hb)
 .intro k hk hLk;rw[hL']at hLk;split at hLk
  .cases hLk
  .exact I.un k hk hLk
 .intro s v hsv;rw[CV T hsl I.dc ho hL hL']at hsv;by_cases hds:o.dst=some s
  .rw[if_pos hds]at hsv;have hsz:s<a.tmps.size:=by rw[I.sz];exact hd s hds
   rw[hds,pA a s s v' hsz,if_pos rfl];exact hv s v hds hsv
  .rw[if_neg hds]at hsv;have:=I.tm s v hsv;cases hdst:o.dst with
   | none=>exact this
   | some d=>
    have hsz:d<a.tmps.size:=by rw[I.sz];exact hd d hdst
    have hne:s≠d:=by rintro rfl;exact hds hdst
    rw[pA a d s v' hsz,if_neg hne];exact this
 .cases hdst:o.dst with
  | none=>exact I.df
  | some d=>exact I.df
theorem JS{φ0:cV}{m0:Mem}{w0:World}{L:Nat->Bool}{a:Act}{t:Nat}(I:Inv T P φ0 m0 w0 L φ a w t)(M:Mem) :
  ∃X:Tr Value,(∀s,X.get s=tmU T L ops.toList.length s)/\TR φ { tm:=X,sz:=st0.sz,m:=M } a:=by
 obtain⟨X,hX⟩:=HP T L ops.toList.length;exact⟨X,hX,I.sz,I.df,fun s v h=>I.tm s v (by rw[<-hX];exact h)⟩
theorem LY(hsl:gO ops.toList ops.toList (eN ops.toList []) 0=true){φ0:cV}{m0:Mem}{w0:World}{L L':Nat->Bool}{a:Act}{t:Nat}(hm0:m0.nx=base)(hf0:m0.fl<=base)(I:Inv T P φ0 m0 w0 L φ a w t)
  {i:Nat} {o:Oper} (ho:ops.toList[i]? = some o) (hL:L i=false) (hL':∀k,L' k=if k=i then true else L k) (hr:∀e∈o.after.toList,Region.binds .any e=true->L e.on=true)
  (hnH:¬T.isH i) {ob:AObj} (hmade:(i,base+i,ob)∈(T.D ops.toList.length).made) {l:Loc} {rob:Obj} (hl:l.rb=w.heap.size) (hor:OR P (cV.put φ (base+i) l) (w.alloc rob) l ob)
  {v':Value} (hv:∀d v,o.dst=some d->(T.S (i+1)).tm.get d=some v->VR (cV.put φ (base+i) l) v v') (hd:∀d,o.dst=some d->d<st0.sz) :
  Inv T P φ0 m0 w0 L' (cV.put φ (base+i) l) (a.put o.dst v') (w.alloc rob) t:=by
 have hil:i<ops.toList.length:=(gQ1 ho).1;have hid:φ (base+i)=none:=I.un i hil hL;have hext:=cV.put_ext (l:=l) hid;have htook:hasBit (T.D t).took i=false:=by
  cases hb:hasBit (T.D t).took i with
  | false=>rfl
  | true=>
   obtain⟨h,s,q1,q2,q3,q4⟩:=T.took_in I.tn hb;obtain⟨oh,hoh,_⟩:=id q2;have hLh:L h=true:=(I.hs h q2).2 q1;have:=jo hsl I.dc h oh s i hoh q3 (I.dc h oh hoh hLh) q4;rw[hL]at this;cases this
 have hvis:∀b,(vis T L' t).hp.get b=if b=base+i then some ob else (vis T L t).hp.get b:=by
  intro b;unfold vis;by_cases e:b=base+i
  .subst e;rw[if_pos rfl];exact jA (fun k' o' hm'=>T.made_one (gQ4 _) hmade hm') hmade (by simp[hL',htook])
  .rw[if_neg e];have:addMade (fun k=>L' k&&!hasBit (T.D t).took k) (T.D ops.toList.length).made (T.S t).m=addMade (fun k=>if k=i then true else (L k&&!hasBit (T.D t).took k)) (T.D ops.toList.length).made (T.S t).m:=by
    apply rY;intro k id o' hm;by_cases q:k=i
    .subst q;simp[hL',htook]
    .simp[hL',q]
   rw[this];cases h1:(addMade (fun k=>if k=i then true else (L k&&!hasBit (T.D t).took k)) (T.D ops.toList.length).made (T.S t).m).hp.get b with
   | some o1=>
    rcases li h1 with⟨k,q1,q2⟩|⟨q1,q2⟩
    .obtain⟨_,rfl⟩:=T.made_in (gQ4 _) q1;have hne:k≠i:=by rintro rfl;exact e rfl
     rw[if_neg hne]at q2;exact(jA (fun k' o' hm'=>T.made_one (gQ4 _) q1 hm') q1 q2).symm
    .rw[eX,q1];intro k o' hm;have:=q2 k o' hm;by_cases q:k=i
     .rw[if_pos q]at this;cases this
     .rwa [if_neg q]at this
   | none=>
    cases h2:(addMade (fun k=>L k&&!hasBit (T.D t).took k) (T.D ops.toList.length).made (T.S t).m).hp.get b with
    | none=>rfl
    | some o2=>
     exfalso;rcases li h2 with⟨k,q1,q2⟩|⟨q1,q2⟩
     .obtain⟨_,rfl⟩:=T.made_in (gQ4 _) q1;have hne:k≠i:=by rintro rfl;exact e rfl
      rw[jA (fun k' o' hm'=>T.made_one (gQ4 _) q1 hm') q1 (by rw[if_neg hne];exact q2)]at h1;cases h1
     .rw[eX,q1]at h1
      .cases h1
      .intro k o' hm;have hne:k≠i:=by
        rintro rfl;obtain⟨_,q⟩:=T.made_in (gQ4 _) hm;exact e q
       rw[if_neg hne];exact q2 k o' hm
 have hr0:=Pm (P:=P) I.r0 (id:=base+i) (n:=(vis T L t).nx) (f:=(vis T L t).fl) hid hl hor;have mono:∀k,L k=true->L' k=true:=by
  intro k hk;rw[hL'];split
  .rfl
  .exact hk
 have hold:∀r,r<w.heap.size->(w.alloc rob).heap[r]? = w.heap[r]?:=by
  intro r hr;show (w.heap.push rob)[r]? = _;rw[Array.getElem?_push,if_neg (by omega)]
 have hnx:∀L,(vis T L t).nx=(T.S t).m.nx:=fun L=>(fg _ _ _).1
 have hflv:∀L,(vis T L t).fl=(T.S t).m.fl:=fun L=>(fg _ _ _).2
 refine⟨I.tn,?_,?_,?_,?_,I.nx,I.fl,?_,I.gone,I.sub,I.subc,?_,by rw[tg];exact I.sz,?_,?_⟩
 .intro h hh;have hne:h≠i:=by rintro rfl;exact hnH hh
  rw[hL',if_neg hne];exact I.hs h hh
 .intro j x hx hj e he hb;rw[hL']at hj;split at hj
  .rename_i q;subst q;rw[ho]at hx;cases hx;exact mono _ (hr e he hb)
  .exact mono _ (I.dc j x hx hj e he hb)
 .exact hr0.congr (fun b=>by rw[hvis b,Tr.get_put])
 .intro b hb;simp only[cV.put];rw[if_neg (by have:=I.nx;omega)];exact I.fr b hb
 .intro k hk hLk;rw[hL']at hLk;split at hLk
  .cases hLk
  .simp only[cV.put];rw[if_neg (by omega)];exact I.un k hk hLk
 .intro s v hsv;rw[CV T hsl I.dc ho hL hL']at hsv;by_cases hds:o.dst=some s
  .rw[if_pos hds]at hsv;have hsz:s<a.tmps.size:=by rw[I.sz];exact hd s hds
   rw[hds,pA a s s v' hsz,if_pos rfl];exact hv s v hds hsv
  .rw[if_neg hds]at hsv;have:=(I.tm s v hsv).mono hext;cases hdst:o.dst with
   | none=>exact this
   | some d=>
    have hsz:d<a.tmps.size:=by rw[I.sz];exact hd d hdst
    have hne:s≠d:=by rintro rfl;exact hds hdst
    rw[pA a d s v' hsz,if_neg hne];exact this
 .cases hdst:o.dst with
  | none=>exact I.df
  | some d=>exact I.df
 .have S:=I.st;refine⟨fun b x hb=>hext _ _ (S.ext b x hb),?_,?_,?_,S.os,S.tape,S.output,?_,?_,?_,?_,?_,?_⟩
  .rintro r ⟨b,o',l',hfb,hb,hp,hrr⟩;rw[hvis b]at hb;rw[hflv L',<-hflv L]at hfb;by_cases e:b=base+i
   .subst e;rw[cV.put_self]at hp;cases hp;left;rw[<-hrr,hl];exact S.size
   .rw[if_neg e]at hb;have hp':φ b=some l':=by simpa [cV.put,e]using hp
    exact S.own r ⟨b,o',l',hfb,hb,hp',hrr⟩
  .intro r hrr hn;rw[hold r (Nat.lt_of_lt_of_le hrr S.size)];exact S.same r hrr hn
  .exact Nat.le_trans S.size (by show w.heap.size<=(w.heap.push rob).size;simp)
  .rw[hnx L'];rw[<-hnx L];exact S.nx
  .rw[hflv L'];rw[<-hflv L];exact S.fl
  .intro b hb;rw[hvis b,if_neg (by omega)];exact S.low b hb
  .intro b hb hn;rw[hvis b,if_neg (by omega)];exact S.old b hb hn
  .intro b hb;simp only[cV.put];rw[if_neg (by omega)];exact S.keep b hb
  .exact fun hk=>Nat.le_trans (S.drawn hk) (gQ4 _)
omit [Kap]in
theorem JU(hsl:gO ops.toList ops.toList (eN ops.toList []) 0=true){j:Nat}{oj:Oper}{sj k:Nat}(hoj:ops.toList[j]? = some oj)(hsj:(eN ops.toList [])[j]? = some sj)(hkj:hasBit sj k=true):k<j:=by
 induction j using Nat.strongRecOn generalizing oj sj with
 | _ j ih=>
  obtain⟨e2,a1,a2,a3⟩:=ti hoj hsj hkj;have hb2:=nL hsl hoj e2 a1 a2;rcases a3 with rfl|⟨s2',a3,a4⟩
  .exact hb2
  .have hlj:j<ops.toList.length:=(gQ1 hoj).1;have:=ih e2.on hb2 (gQ2 (by omega)) a3 a4;omega
theorem IC(hsl:gO ops.toList ops.toList (eN ops.toList []) 0=true){φ0:cV}{m0:Mem}{w0:World}{L L':Nat->Bool}{a:Act}{t:Nat}(hm0:m0.nx=base)(hf0:m0.fl<=base)(I:Inv T P φ0 m0 w0 L φ a w t)
  {i s:Nat} {o:Oper} (ho:ops.toList[i]? = some o) (hs:(eN ops.toList [])[i]? = some s) (hL:L i=false) (hL':∀k,L' k=if k=i then true else L k) (hr:∀e∈o.after.toList,Region.binds .any e=true->L e.on=true)
  (hH:T.isH i) {M m1:Mem} (hM:∀b,M.hp.get b=(addMade (dQ s (T.D i).took) (T.D i).made (T.S i).m).hp.get b) (hMn:M.nx=(T.S i).m.nx)
  (hS1:(T.S (i+1)).m.hp=m1.hp) (hS2:(T.S (i+1)).m.nx=m1.nx) (hS3:(T.S (i+1)).m.fl=(T.S i).m.fl) (htk:(T.D (i+1)).took=Nat.lor (T.D i).took s)
  (hnx0:st0.m.nx=base+ops.toList.length) (hsoft:T.soft i->M.fl=M.nx∨(M.fl=base/\T.own i)) (hkeep:∀b,T.keeps i b->m1.hp.get b=M.hp.get b) (hkeepC:∀b lo hi,T.keepsC i b lo hi->∀ob,M.hp.get b=some ob->∃ob',m1.hp.get b=some ob'/\Alike lo hi ob ob') (hti:t<=i) (hnoH:∀h,t<=h->h<i->¬T.isH h) (hallH:∀h,h<i->T.isH h->L h=true)
  {φ':cV} {w':World} (hrr:RR P φ' m1 w') (hst:Stp φ M w φ' m1 w') (hflM:m0.fl<=M.fl) {v':Value} (hv:∀d v,o.dst=some d->(T.S (i+1)).tm.get d=some v->VR φ' v v') (hd:∀d,o.dst=some d->d<st0.sz) :
  Inv T P φ0 m0 w0 L' φ' (a.put o.dst v') w' (i+1):=by
 have hil:i<ops.toList.length:=(gQ1 ho).1;obtain⟨hSt,hDt⟩:=T.same hti (by omega) hnoH;have hanc:∀k,hasBit s k=true->L k=true:=fun k hk=>jo hsl I.dc i o s k ho hs hr hk
 have hMsub:∀b x,M.hp.get b=some x->(vis T L t).hp.get b=some x:=by
  intro b x hb;rw[hM,hSt,hDt]at hb;exact zq T I (by omega) (gQ4 t) (fun h a b=>by omega) hanc (fun k id ob _ _ h s a b=>by omega) b x hb
 have hnoM:∀id ob,(i,id,ob)∉(T.D ops.toList.length).made:=by
  intro id' ob hm;obtain⟨o',ho',_,_,hmk,_⟩:=T.made_who hm;obtain⟨o'',ho'',_,_,hmk'⟩:=id hH;rw[ho'']at ho';cases ho';rw[hmk']at hmk;cases hmk
 have hnxM:base+ops.toList.length<=M.nx:=by rw[hMn,hSt];exact I.nx
 have mono:∀k,L k=true->L' k=true:=by
  intro k hk;rw[hL'];split
  .rfl
  .exact hk
 have made_now:∀{k b x},(k,b,x)∈(T.D ops.toList.length).made->(L' k&&!hasBit (T.D (i+1)).took k)=true->
   b=base+k/\(vis T L t).hp.get b=some x/\M.hp.get b=none:=by
  intro k b x hm hp;obtain⟨hk,rfl⟩:=T.made_in (gQ4 _) hm;have hne:k≠i:=by rintro rfl;exact hnoM _ _ hm
  simp only[Bool.and_eq_true,Bool.not_eq_true',hL' k,if_neg hne,htk,iH,Bool.or_eq_false_iff]at hp;obtain⟨p1,p2,p3⟩:=hp;rw[hDt]at p2;refine⟨rfl,?_,?_⟩
  .unfold vis;exact jA (fun k' o' hm'=>T.made_one (gQ4 _) hm hm') hm (by simp[p1,p2])
  .rw[hM,eX,hSt]
   .exact I.gone k hk p2
   .intro k' o' hm';obtain⟨_,q⟩:=T.made_in (i:=i) (by omega) hm';have:k'=k:=by omega
    subst this;simp[dQ,p3]
 have hvis:∀b x,(vis T L' (i+1)).hp.get b=some x->(m1.hp.get b=some x)∨((vis T L t).hp.get b=some x/\M.hp.get b=none):=by
  intro b x h;unfold vis at h;rcases li h with⟨k,q1,q2⟩|⟨q1,_⟩
  .obtain⟨_,h2,h3⟩:=made_now q1 q2;exact .inr ⟨h2,h3⟩
  .left;rw[<-hS1];exact q1
 have away:∀{b x l},(vis T L t).hp.get b=some x->M.hp.get b=none->φ b=some l->l.rb<w.heap.size/\¬Owned φ M l.rb:=by
  intro b x l h1 h2 h3;obtain⟨l',h4,h5⟩:=I.r0.obj _ _ h1;rw[h3]at h4;cases h4;refine⟨h5.lt,?_⟩;rintro⟨b2,x2,l2,_,g1,g2,g3⟩;have:=I.r0.inj _ _ _ _ _ _ (hMsub _ _ g1) h1 g2 h3 g3;subst this;rw[h2]at g1;cases g1
 have hr0':R0 P φ' (vis T L' (i+1)) w':=by
  refine⟨?_,?_,?_⟩
  .intro b x hb;rcases hvis b x hb with h|⟨h,h2⟩
   .exact hrr.r0.obj _ _ h
   .obtain⟨l,h3,h4⟩:=I.r0.obj _ _ h;obtain⟨h5,h6⟩:=away h h2 h3;exact⟨l,hst.ext _ _ h3,h4.mono hst.ext (hst.same _ h5 h6)⟩
  .intro b1 b2 o1 o2 l1 l2 g1 g2 p1 p2 hrb;have cross:∀{b b' x x' l l'},m1.hp.get b=some x->φ' b=some l->(vis T L t).hp.get b'=some x'->M.hp.get b'=none->φ' b'=some l'->l.rb≠l'.rb:=by
    intro b b' x x' l l' c1 c2 c3 c4 c5 c6;obtain⟨l2,c7,c8⟩:=I.r0.obj _ _ c3;have c9:=hst.ext _ _ c7;rw[c5]at c9;cases c9;obtain⟨c10,c11⟩:=away c3 c4 c7;rcases Nat.lt_or_ge b m1.fl with hlt|hge
    .have c12:=hst.low b (by rw[<-hst.fl];exact hlt);rw[c1]at c12;obtain⟨l3,c13,_⟩:=I.r0.obj _ _ (hMsub _ _ c12.symm);have c14:=hst.ext _ _ c13;rw[c2]at c14;cases c14;have:=I.r0.inj _ _ _ _ _ _ (hMsub _ _ c12.symm) c3 c13 c7 c6;subst this;rw[c4]at c12;cases c12
    .rcases hst.own l'.rb ⟨b,x,l,hge,c1,c2,c6⟩with q|q
     .omega
     .exact c11 q
   rcases hvis b1 o1 g1 with h1|⟨h1,h1'⟩
   .rcases hvis b2 o2 g2 with h2|⟨h2,h2'⟩
    .exact hrr.r0.inj _ _ _ _ _ _ h1 h2 p1 p2 hrb
    .exact absurd hrb (cross h1 p1 h2 h2' p2)
   .rcases hvis b2 o2 g2 with h2|⟨h2,h2'⟩
    .exact absurd hrb.symm (cross h2 p2 h1 h1' p1)
    .obtain⟨l3,c1,_⟩:=I.r0.obj _ _ h1;obtain⟨l4,c2,_⟩:=I.r0.obj _ _ h2;have e1:=hst.ext _ _ c1;have e2:=hst.ext _ _ c2;rw[p1]at e1;cases e1;rw[p2]at e2;cases e2;exact I.r0.inj _ _ _ _ _ _ h1 h2 c1 c2 hrb
  .exact hrr.r0.glob
 refine⟨by omega,?_,?_,hr0',?_,?_,?_,?_,?_,?_,?_,?_,by rw[tg];exact I.sz,?_,?_⟩
 .intro h hh;rw[hL'];by_cases e:h=i
  .subst e;rw[if_pos rfl];simp
  .rw[if_neg e,I.hs h hh];constructor
   .intro q;omega
   .intro q;exact(I.hs h hh).1 (hallH h (by omega) hh)
 .intro j x hx hj e he hb;rw[hL']at hj;split at hj
  .rename_i q;subst q;rw[ho]at hx;cases hx;exact mono _ (hr e he hb)
  .exact mono _ (I.dc j x hx hj e he hb)
 .rw[hS2];exact hrr.fresh
 .rw[hS2];exact Nat.le_trans hnxM hst.nx
 .rw[hS3,hSt];exact I.fl
 .intro k hk hLk;rw[hL']at hLk;split at hLk
  .cases hLk
  .rw[hst.keep _ (by omega)];exact I.un k hk hLk
 .intro k hk htk';rw[htk,iH,Bool.or_eq_false_iff]at htk';rw[hS1];refine hst.old _ (by omega) ?_;rw[hM,eX,hSt]
  .exact I.gone k hk (by rw[<-hDt];exact htk'.1)
  .intro k' o' hm';obtain⟨_,q⟩:=T.made_in (i:=i) (by omega) hm';have:k'=k:=by omega
   subst this;simp[dQ,htk'.2]
 .intro b t' ht' hsf;by_cases e:t'=i+1
  .subst e;exact⟨fun _ h=>h,fun k x _ hm h1 h2 _=>by rw[h1]at h2;cases h2⟩
  .have hsi:=hsf i (by omega) (by omega) hH;have hlow0:b<M.nx->T.own i∨m1.hp.get b=M.hp.get b:=fun hb=>by
    rcases hsi with hsi|hkp
    .rcases hsoft hsi with q|⟨_,q⟩
     .exact .inr (hst.low b (by rw[q];exact hb))
     .exact .inl q
    .exact .inr (hkeep b hkp)
   have step1:∀x,(T.S t).m.hp.get b=some x->(T.S (i+1)).m.hp.get b=some x:=by
    intro x hb;have hbv:(vis T L t).hp.get b=some x:=by
     have:=zq T I (i:=0) (t':=t) (s:=0) (by omega) (gQ4 t) (fun h a b=>by omega) (fun k hk=>by rw[kI]at hk;cases hk) (fun k id ob _ _ h s a b=>by omega) b x;refine this ?_;rw[eX]
     .exact hb
     .intro k o' hm;simp[dQ,kI]
    have hbn:b<M.nx:=by
     obtain⟨l,h1,_⟩:=I.r0.obj _ _ hbv;rw[hMn,hSt];cases Nat.lt_or_ge b (T.S t).m.nx with
     | inl h=>exact h
     | inr h=>rw[I.fr b h]at h1;cases h1
    have hlow1:m1.hp.get b=M.hp.get b:=by
     rcases hsi with hsi|hkp
     .rcases hsoft hsi with q|⟨q,q'⟩
      .exact hst.low b (by rw[q];exact hbn)
      .refine hst.low b ?_;rw[q];obtain⟨q1,q2⟩:=T.own_first (by omega) q';cases Nat.lt_or_ge b base with
       | inl h=>exact h
       | inr h=>
        exfalso;have hnx:M.nx=base+ops.toList.length:=by rw[hMn,q1,hnx0]
        have:=I.gone (b-base) (by omega) (by rw[<-hDt,q2,kI]);rw[show base+(b-base)=b by omega,hb]at this;cases this
     .exact hkeep b hkp
    rw[hS1,hlow1,hM,eX,hSt]
    .exact hb
    .intro k o' hm';obtain⟨hk,rfl⟩:=T.made_in (i:=i) (by omega) hm';cases htkk:hasBit (T.D i).took k with
     | true=>simp[dQ,htkk]
     | false=>
      rw[hDt]at htkk;rw[I.gone k (by omega) htkk]at hb;cases hb
   by_cases e2:t'<=t
   .obtain⟨s1,s2⟩:=I.sub b t' e2 (fun h a b hh=>hsf h a (by omega) hh);refine⟨fun x hb=>step1 x (s1 x hb),fun k x hkb hm h1 h2 haw=>?_⟩;subst hkb;rw[htk,iH,hDt]at h1;cases hq:hasBit (T.D t).took k with
    | true=>exact step1 _ (s2 k x rfl hm hq h2 (fun h s a b=>haw h s a (by omega)))
    | false=>
     rw[hq,Bool.false_or]at h1;obtain⟨hk,_⟩:=T.made_in (gQ4 _) hm;have hki:k<i:=by
      obtain⟨e',g1,g2,g3⟩:=ti ho hs h1;have hb:=nL hsl ho e' g1 g2;rcases g3 with rfl|⟨s',g3,g4⟩
      .exact hb
      ·
       have:∀(j:Nat) (oj:Oper) (sj:Nat),ops.toList[j]? = some oj->(eN ops.toList [])[j]? = some sj->hasBit sj k=true->k<j:=by
        intro j
        induction j using Nat.strongRecOn with
        | _ j ih=>
         intro oj sj hoj hsj hkj;obtain⟨e2,a1,a2,a3⟩:=ti hoj hsj hkj;have hb2:=nL hsl hoj e2 a1 a2;rcases a3 with rfl|⟨s2',a3,a4⟩
         .exact hb2
         .have hlj:j<ops.toList.length:=(gQ1 hoj).1;have:=ih e2.on hb2 _ s2' (gQ2 (by omega)) a3 a4;omega
       exact this i o s ho hs h1
     have hmi:=T.made_back (i:=i) (by omega) (gQ4 _) hm hki;have hlowM:m1.hp.get (base+k)=M.hp.get (base+k):=by
      rcases hlow0 (by omega)with q|q
      .have:=haw i s (by omega) (by omega) hH q hs;rw[h1]at this;cases this
      .exact q
     rw[hS1,hlowM,hM];exact jA (fun k' o' hm'=>T.made_one (i:=i) (by omega) hmi hm') hmi (by simp[dQ,h1,hDt,hq])
   .obtain⟨e3,e4⟩:=T.same (a:=t) (b:=t') (by omega) (by omega) (fun h a b=>hnoH h a (by omega));rw[e3,e4];refine⟨step1,fun k x hkb hm h1 h2 haw=>?_⟩;subst hkb;rw[htk,iH,hDt,h2,Bool.false_or]at h1;obtain⟨hk,_⟩:=T.made_in (gQ4 _) hm;have hki:k<i:=by
     have:∀(j:Nat) (oj:Oper) (sj:Nat),ops.toList[j]? = some oj->(eN ops.toList [])[j]? = some sj->hasBit sj k=true->k<j:=by
      intro j
      induction j using Nat.strongRecOn with
      | _ j ih=>
       intro oj sj hoj hsj hkj;obtain⟨e2,a1,a2,a3⟩:=ti hoj hsj hkj;have hb2:=nL hsl hoj e2 a1 a2;rcases a3 with rfl|⟨s2',a3,a4⟩
       .exact hb2
       .have hlj:j<ops.toList.length:=(gQ1 hoj).1;have:=ih e2.on hb2 _ s2' (gQ2 (by omega)) a3 a4;omega
     exact this i o s ho hs h1
    have hmi:=T.made_back (i:=i) (by omega) (gQ4 _) hm hki;have hlowM:m1.hp.get (base+k)=M.hp.get (base+k):=by
     rcases hlow0 (by omega)with q|q
     .have:=haw i s (by omega) (by omega) hH q hs;rw[h1]at this;cases this
     .exact q
    rw[hS1,hlowM,hM];exact jA (fun k' o' hm'=>T.made_one (i:=i) (by omega) hmi hm') hmi (by simp[dQ,h1,hDt,h2])
 .intro b lo hi t' hbb ht' hsf ob hob;by_cases e:t'=i+1
  .subst e;exact⟨ob,hob,.inl rfl⟩
  .have hsi:=hsf i (by omega) (by omega) hH;have e3:M.hp.get b=(T.S t).m.hp.get b:=by
    rw[hM,eX,hSt];intro k o' hm';obtain⟨_,q⟩:=T.made_in (i:=i) (by omega) hm';omega
   have step1:∀x,(T.S t).m.hp.get b=some x->∃x',(T.S (i+1)).m.hp.get b=some x'/\Alike lo hi x x':=by
    intro x hb;rw[<-e3]at hb;rw[hS1];rcases hsi with hsi|hkp|hkc
    .refine⟨x,?_,.inl rfl⟩;rw[<-hb];rcases hsoft hsi with q|⟨q,_⟩
     .exact hst.low b (by rw[q];omega)
     .exact hst.low b (by rw[q];exact hbb)
    .exact⟨x,by rw[hkeep b hkp];exact hb,.inl rfl⟩
    .exact hkeepC b lo hi hkc x hb
   by_cases e2:t'<=t
   .obtain⟨o1,h1,h2⟩:=I.subc b lo hi t' hbb e2 (fun h a b hh=>hsf h a (by omega) hh) ob hob;obtain⟨o2,h3,h4⟩:=step1 o1 h1;exact⟨o2,h3,h2.trans h4⟩
   .obtain⟨e4,_⟩:=T.same (a:=t) (b:=t') (by omega) (by omega) (fun h a b=>hnoH h a (by omega));rw[e4]at hob;exact step1 ob hob
 .intro sl v hsv;rw[CV T hsl I.dc ho hL hL']at hsv;by_cases hds:o.dst=some sl
  .rw[if_pos hds]at hsv;have hsz:sl<a.tmps.size:=by rw[I.sz];exact hd sl hds
   rw[hds,pA a sl sl v' hsz,if_pos rfl];exact hv sl v hds hsv
  .rw[if_neg hds]at hsv;have:=(I.tm sl v hsv).mono hst.ext;cases hdst:o.dst with
   | none=>exact this
   | some d=>
    have hsz:d<a.tmps.size:=by rw[I.sz];exact hd d hdst
    have hne:sl≠d:=by rintro rfl;exact hds hdst
    rw[pA a d sl v' hsz,if_neg hne];exact this
 .cases hdst:o.dst with
  | none=>exact I.df
  | some d=>exact I.df
 .have S:=I.st;have hnx:∀L t,(vis T L t).nx=(T.S t).m.nx:=fun L t=>(fg _ _ _).1
  have hflv:∀L t,(vis T L t).fl=(T.S t).m.fl:=fun L t=>(fg _ _ _).2
  have hvf:∀L,(vis T L t).fl=m0.fl:=fun L=>by rw[hflv,I.fl]
  have hownM:∀r,Owned φ M r->Owned φ (vis T L t) r:=fun r ⟨b,x,l,h0,h1,h2,h3⟩=>⟨b,x,l,by rw[hvf];omega,hMsub _ _ h1,h2,h3⟩
  refine⟨fun b x hb=>hst.ext _ _ (S.ext b x hb),?_,?_,Nat.le_trans S.size hst.size,hst.os.trans S.os,hst.tape.trans S.tape,hst.output.trans S.output,?_,?_,?_,?_,?_,fun hk=>Nat.le_trans (S.drawn hk) (hst.drawn hk)⟩
  .rintro r ⟨b,x,l,hfb,hb,hp,hrb⟩;rw[hflv,hS3,hSt,I.fl]at hfb;rcases hvis b x hb with h|⟨h,h2⟩
   .rcases Nat.lt_or_ge b m1.fl with hlt|hge
    .have c12:=hst.low b (by rw[<-hst.fl];exact hlt);rw[h]at c12;obtain⟨l3,c13,_⟩:=I.r0.obj _ _ (hMsub _ _ c12.symm);have c14:=hst.ext _ _ c13;rw[hp]at c14;cases c14;exact S.own r ⟨b,x,l,by rw[hvf];exact hfb,hMsub _ _ c12.symm,c13,hrb⟩
    .rcases hst.own r ⟨b,x,l,hge,h,hp,hrb⟩with q|q
     .left;exact Nat.le_trans S.size q
     .exact S.own r (hownM r q)
   .obtain⟨l',h3,_⟩:=I.r0.obj _ _ h;have:=hst.ext _ _ h3;rw[hp]at this;cases this;exact S.own r ⟨b,x,l,by rw[hvf];exact hfb,h,h3,hrb⟩
  .intro r hrr' hn;rw[hst.same r (Nat.lt_of_lt_of_le hrr' S.size) (fun q=>?_)]
   .exact S.same r hrr' hn
   .rcases S.own r (hownM r q)with q'|q'
    .omega
    .exact hn q'
  .rw[hnx,hS2];have h1:=S.nx;rw[hnx]at h1;have h2:=hst.nx;rw[hMn,hSt]at h2;omega
  .rw[hflv,hS3,hSt,I.fl]
  .intro b hb;have hbM:m1.hp.get b=M.hp.get b:=hst.low b (by omega);have hbb:b<base:=by omega
   have e1:(vis T L' (i+1)).hp.get b=m1.hp.get b:=by
    unfold vis;rw[eX,hS1];intro k o' hm';obtain⟨_,q⟩:=T.made_in (gQ4 _) hm';omega
   have e2:(vis T L t).hp.get b=(T.S t).m.hp.get b:=by
    unfold vis;rw[eX];intro k o' hm';obtain⟨_,q⟩:=T.made_in (gQ4 _) hm';omega
   have e3:M.hp.get b=(T.S t).m.hp.get b:=by
    rw[hM,eX,hSt];intro k o' hm';obtain⟨_,q⟩:=T.made_in (i:=i) (by omega) hm';omega
   rw[e1,hbM,e3,<-e2];exact S.low b hb
  .intro b hb hn;have hbb:b<base:=by omega
   have e1:(vis T L' (i+1)).hp.get b=m1.hp.get b:=by
    unfold vis;rw[eX,hS1];intro k o' hm';obtain⟨_,q⟩:=T.made_in (gQ4 _) hm';omega
   rw[e1];refine hst.old b (by omega) ?_;cases hg:M.hp.get b with
   | none=>rfl
   | some x=>
    have:=hMsub _ _ hg;rw[S.old b hb hn]at this;cases this
  .intro b hb;rw[hst.keep b (by omega)];exact S.keep b hb
omit [Kap]in
theorem mem_ready{listed:Array Bool}{i:Nat}(h:i∈Region.ready .any ops listed):∃o,ops.toList[i]? = some o/\listed.getD i true=false/\∀e∈o.after.toList,Region.binds .any e=true->listed.getD e.on false=true:=by
 unfold Region.ready at h;obtain⟨h1,h2⟩:=List.mem_filter.1 h;have hi:i<ops.size:=List.mem_range.1 h1;simp only[Bool.and_eq_true,Bool.not_eq_true']at h2;have ho:ops[i]? = some ops[i]:=Array.getElem?_eq_getElem hi;refine⟨ops[i],by simp,h2.1,fun e he hb=>?_⟩;have h3:=h2.2;rw[ho]at h3;simp only[Option.map_some,Option.getD_some]at h3;rw[<-Array.all_toList]at h3;have:=List.all_eq_true.1 h3 e he;simpa [hb]using this
omit [Kap]in
theorem LZ{listed:Array Bool}{i:Nat}{o:Oper}(ho:ops.toList[i]? = some o)(h1:listed.getD i true=false)(h2:∀e∈o.after.toList,Region.binds .any e=true->listed.getD e.on false=true):i∈Region.ready .any ops listed:=by
 unfold Region.ready;have hi:i<ops.size:=by have:=(gQ1 ho).1;simpa using this
 have ho':ops[i]? = some o:=by simpa using ho
 refine List.mem_filter.2 ⟨List.mem_range.2 hi,?_⟩;simp only[h1,Bool.not_false,Bool.true_and,ho',Option.map_some,Option.getD_some];rw[<-Array.all_toList];refine List.all_eq_true.2 (fun e he=>?_);by_cases hb:Region.binds .any e=true
 .simp[hb,h2 e he hb]
 .simp[hb]
omit [Kap]in
theorem JW{listed:Array Bool}{k:Nat}(h:listed.getD k false=true):listed.getD k true=true:=by
 rw[Array.getD_eq_getD_getElem?]at h ⊢;cases hx:listed[k]? with
 | none=>rw[hx]at h;simp at h
 | some b=>rw[hx]at h;simpa using h
omit [Kap]in
theorem ID(hsl:gO ops.toList ops.toList (eN ops.toList []) 0=true){listed:Array Bool}(hls:listed.size=ops.size)(h:Region.ready .any ops listed=[]):∀i,i<ops.size->listed.getD i true=true:=by
 intro i
 induction i using Nat.strongRecOn with
 | _ i ih=>
  intro hi;cases hc:listed.getD i true with
  | true=>rfl
  | false=>
   exfalso;have ho:ops.toList[i]? = some (ops.toList[i]'(by simpa using hi)):=gQ2 (by simpa using hi);have:=LZ ho hc (fun e he hb=>by
    have hlt:=nL hsl ho e he hb;have h1:=ih e.on hlt (by omega);rw[Array.getD_eq_getD_getElem?]at h1 ⊢;rw[Array.getElem?_eq_getElem (by omega)]at h1 ⊢;simpa using h1)
   rw[h]at this;cases this
omit [Kap]in
theorem zM{p q:Nat->Bool}:∀{l:List Nat} {i:Nat},(∀k,q k=true->p k=true)->i∈l->p i=true->q i=false->(l.filter q).length<(l.filter p).length
 | x::r,i,h,hm,hp,hq=>by
  have le:∀l:List Nat,(l.filter q).length<=(l.filter p).length:=by
   intro l
   induction l with
   | nil=>simp
   | cons y r ih=>
    simp only[List.filter_cons];cases hqy:q y with
    | true=>rw[h y hqy];simpa using ih
    | false=>
     cases hpy:p y with
     | true=>simp;omega
     | false=>simpa using ih
  simp only[List.filter_cons];rcases List.mem_cons.1 hm with e|e
  .subst e;rw[hp,hq];have:=le r;simp;omega
  .have ih:=zM (l:=r) h e hp hq;cases hqx:q x with
   | true=>rw[h x hqx];simpa using ih
   | false=>
    cases hpx:p x with
    | true=>simp;omega
    | false=>simpa using ih
theorem JX(hcx:CxOk P cx)(hcall:tj P call)(hsl:gO ops.toList ops.toList (eN ops.toList []) 0=true){Q:Exit->Act->World->Prop}{φ0:cV}{m0:Mem}{w0:World}(hm0:m0.nx=base)(hf0:m0.fl<=base)(hnx0:st0.m.nx=base+ops.toList.length)
  (hfin:∀φ a w,Inv T P φ0 m0 w0 (fun _=>true) φ a w ops.toList.length->Q .normal a w)
  (hdone:∀φ a w t,Inv T P φ0 m0 w0 (fun _=>true) φ a w t->Inv T P φ0 m0 w0 (fun _=>true) φ a w ops.toList.length) :
  ∀(fuel:Nat) (listed:Array Bool) (φ : cV) (a:Act) (w:World) (t:Nat),listed.size=ops.size->((List.range ops.size).filter (fun k=>!listed.getD k true)).length<=fuel->
   Inv T P φ0 m0 w0 (fun k=>listed.getD k true) φ a w t->wpAny P .any ops Q fuel listed a w:=by
 intro fuel;have done:∀(listed:Array Bool) (φ : cV) (a:Act) (w:World) (t:Nat),listed.size=ops.size->(∀i,i<ops.size->listed.getD i true=true)->Inv T P φ0 m0 w0 (fun k=>listed.getD k true) φ a w t->Q .normal a w:=by
  intro listed φ a w t hls hall I;have e:(fun k=>listed.getD k true)=fun _=>true:=by
   funext k;by_cases hk:k<ops.size
   .exact hall k hk
   .rw[Array.getD_eq_getD_getElem?,Array.getElem?_eq_none (by omega)];rfl
  rw[e]at I;exact hfin φ a w (hdone φ a w t I)
 induction fuel with
 | zero=>
  intro listed φ a w t hls hcnt I;have hall:∀i,i<ops.size->listed.getD i true=true:=by
   intro i hi;cases hc:listed.getD i true with
   | true=>rfl
   | false=>
    have:i∈(List.range ops.size).filter (fun k=>!listed.getD k true):=List.mem_filter.2 ⟨List.mem_range.2 hi,by simp[hc]⟩;have:=List.length_pos_of_mem this;omega
  refine⟨?_,done listed φ a w t hls hall I⟩;cases hr:Region.ready .any ops listed with
  | nil=>rfl
  | cons x xs=>
   exfalso;obtain⟨o,ho,h1,_⟩:=mem_ready (ops:=ops) (i:=x) (listed:=listed) (by rw[hr];simp);have hx:x<ops.size:=by have:=(gQ1 ho).1;simpa using this
   rw[hall x hx]at h1;cases h1
 | succ fuel ih=>
  intro listed φ a w t hls hcnt I;refine⟨fun hr=>done listed φ a w t hls (ID hsl hls hr) I,fun i hi=>?_⟩;obtain⟨o,ho,hL,hre⟩:=mem_ready hi;have hil:i<ops.size:=by have:=(gQ1 ho).1;simpa using this
  have hil':i<ops.toList.length:=by simpa using hil
  have ho':ops[i]? = some o:=by simpa using ho
  obtain⟨s,hs⟩:=gY ho;have hr:∀e∈o.after.toList,Region.binds .any e=true->(fun k=>listed.getD k true) e.on=true:=fun e he hb=>JW (hre e he hb)
  have hL':∀k,(fun k=>(listed.setIfInBounds i true).getD k true) k=if k=i then true else (fun k=>listed.getD k true) k:=by
   intro k;dsimp only;rw[Array.getD_eq_getD_getElem?,Array.getElem?_setIfInBounds];by_cases e:i=k
   .subst e;simp[hls,hil]
   .rw[if_neg e,if_neg (Ne.symm e),<-Array.getD_eq_getD_getElem?]
  have hcnt':((List.range ops.size).filter (fun k=>!(listed.setIfInBounds i true).getD k true)).length<=fuel:=by
   have:=zM (p:=fun k=>!listed.getD k true) (q:=fun k=>!(listed.setIfInBounds i true).getD k true) (l:=List.range ops.size) (i:=i) (fun k hk=>by
    have:=hL' k;dsimp only at this;rw[this]at hk;by_cases e:k=i
    ·rw[if_pos e]at hk;cases hk
    ·rw[if_neg e]at hk;exact hk) (List.mem_range.2 hil) (by simp[hL]) (by have:=hL' i;dsimp only at this;rw[this];simp)
   omega
  have next:∀φ' a' w' t',Inv T P φ0 m0 w0 (fun k=>(listed.setIfInBounds i true).getD k true) φ' a' w' t'->wpAny P .any ops Q fuel (listed.setIfInBounds i true) a' w':=
   fun φ' a' w' t' I'=>ih _ φ' a' w' t' (by simpa using hls) hcnt' I'
  have rd:∀d∈ml ops.toList o,tmU T (fun k=>listed.getD k true) ops.toList.length d=(T.S i).tm.get d:=fun d hd=>N8 T hsl I.dc ho hs hr hL hd
  have stX:∀M:Mem,∃X:Tr Value,TR φ { tm:=X,sz:=st0.sz,m:=M } a/\(∀d∈ml ops.toList o,X.get d=(T.S i).tm.get d):=by
   intro M;obtain⟨X,h1,h2⟩:=JS T I M;exact⟨X,h2,fun d hd=>(h1 d).trans (rd d hd)⟩
  have opX:∀{M:Mem} {X:Tr Value},(∀d∈ml ops.toList o,X.get d=(T.S i).tm.get d)->dh cx call { T.S i with m:=M } o=dh cx call { tm:=X,sz:=st0.sz,m:=M } o:=
   fun hX=>JY rfl (fun d hd=>(hX d (EJ hd)).symm)
  have hszi:=T.sz (i:=i) (by omega);unfold wpOp;simp only[ho'];have wnt:∀b,fa ops.toList (T.S i) o=some b->Region.wanted o (yielded ops a.tmps)=b:=by
   intro b hw;obtain⟨X,h1,h2⟩:=stX (T.S i).m;refine ye (φ:=φ) (st:={ tm:=X,sz:=st0.sz,m:=(T.S i).m }) h1 ?_;rw[<-hw];exact EK (fun d hd=>h2 d hd)
  rcases T.wanted ho with hw|hw
  .rw[wnt _ hw];simp only[if_true];left;have quiet:¬T.isH i->(∀id ob,(i,id,ob)∉(T.D ops.toList.length).made)->∀{M:Mem} {v:Option Value} {m1:Mem},R0 P φ M w->fD o.op<=1->dh cx call { T.S i with m:=M } o=some (v,m1)->gu (T.S i) o.dst v (T.S i).m=some (T.S (i+1))->
     o.wp P a w (wpAny P .any ops Q fuel (listed.setIfInBounds i true)) Q:=by
    intro hnH hnM M v m1 h0 hk hop hput;obtain⟨X,h1,h2⟩:=stX M;rw[opX h2]at hop;obtain⟨_,u,u',rfl,hrun,hv⟩:=wy hcx h1 h0 hk hop;obtain⟨_,_,_,p4⟩:=gp hput;refine mZ hrun (next φ _ w t (DD T hsl I ho hL hL' hr hnH hnM ?_ ?_))
    .intro d x hd hx;rw[(p4 d hd).2]at hx;cases hx;exact hv
    .intro d hd;rw[<-hszi];exact(p4 d hd).1
   rcases pR o.op with hk|hk|hk
   .obtain⟨_,v,m1,hop,hput⟩:=T.plain ho hw hk;refine quiet ?_ ?_ (pz I.r0 (fun b x hb=>by rw[Tr.get_nil]at hb;cases hb)) (by omega) hop hput
    .rintro⟨o2,h1,_,h2,_⟩;rw[ho]at h1;cases h1;omega
    .intro id ob hm;obtain⟨o2,h1,_,h2,_⟩:=T.made_who hm;rw[ho]at h1;cases h1;omega
   .obtain⟨_,m00,tk,v,m1,hmem,hop,hput⟩:=T.read ho hs hw hk;obtain⟨t',q1,rfl,rfl,q4,q5⟩:=T.memAt_ok (by omega) hmem;have hanc:∀k,hasBit s k=true->(fun k=>listed.getD k true) k=true:=fun k hk=>jo hsl I.dc i o s k ho hs hr hk
    have ht':t'<=t:=by
     rcases q4 with rfl|⟨h,rfl,hh,hb⟩
     .omega
     .exact(I.hs h hh).1 (hanc h hb)
    have hsoft:∀h,t'<=h->h<t->T.isH h->T.soft h∨∃ty x ad,o.op = .load ty x/\cU cx (T.S i) x=some (.pointer (some ad))/\(T.keeps h ad.block∨(ad.block<base/\∃k,dO cx ty=some k/\1<=k/\T.keepsC h ad.block ad.off (ad.off+k))):=by
     intro h a b hh;by_cases e:h<i
     .exact .inl (q5 h a e hh).1
     .have hne:h≠i:=by
       rintro rfl;obtain⟨o2,h1,_,h2,_⟩:=hh;rw[ho]at h1;cases h1;omega
      obtain⟨oh,hoh,hrest⟩:=id hh;obtain⟨sh,hsh⟩:=gY hoh;refine T.soft_of (i:=i) (by omega) ho hw hk hh hsh ?_;cases hb:hasBit sh i with
      | false=>rfl
      | true=>
       have hLh:(fun k=>listed.getD k true) h=true:=(I.hs h hh).2 b;have:=jo hsl I.dc h oh sh i hoh hsh (I.dc h oh hoh hLh) hb
       (try dsimp only at this)
       rw[hL]at this;cases this
    have haw:∀k id ob,(k,id,ob)∈(T.D ops.toList.length).made->hasBit s k=true->Away T k t' t:=by
     intro k nm ob hm hsk h sh a b hh hown hsh;cases hb:hasBit sh k with
     | false=>rfl
     | true=>
      exfalso;by_cases e:h<i
      .have h1:=(q5 h a e hh).2;have:=T.own_away hown hsh ((let ⟨_,hoh,_⟩:=id hh;JU hsl hoh hsh hb)) hm hb (by omega) ho hs hk h1;rw[hsk]at this;cases this
      .have hne:h≠i:=by
        rintro rfl;obtain⟨o2,h1,_,h2,_⟩:=hh;rw[ho]at h1;cases h1;omega
       obtain⟨oh,hoh,hrest⟩:=id hh;have h2:hasBit sh i=true:=by
        cases h3:hasBit sh i with
        | true=>rfl
        | false=>
         have h4:=T.own_back hown hsh (show i<h by omega) (gQ1 hoh).1 ho hs hw hk (JU hsl hoh hsh hb) hm hb h3;rw[hsk]at h4;cases h4
       have hLh:(fun k=>listed.getD k true) h=true:=(I.hs h hh).2 b;have:=jo hsl I.dc h oh sh i hoh hsh (I.dc h oh hoh hLh) h2
       (try dsimp only at this)
       rw[hL]at this;cases this
    have nq1:¬T.isH i:=by
     rintro⟨o2,h1,_,h2,_⟩;rw[ho]at h1;cases h1;omega
    have nq2:∀id ob,(i,id,ob)∉(T.D ops.toList.length).made:=by
     intro id ob hm;obtain⟨o2,h1,_,h2,_⟩:=T.made_who hm;rw[ho]at h1;cases h1;omega
    by_cases hall:∀h,t'<=h->h<t->T.isH h->T.soft h
    .exact quiet nq1 nq2 (pz I.r0 (zq T I (i:=i) (by omega) ht' hall hanc haw)) (by omega) hop hput
    ·
     have hex:∃ty x ad,o.op = .load ty x/\cU cx (T.S i) x=some (.pointer (some ad)):=by
      refine Classical.byContradiction fun hno=>hall fun h a b hh=>?_
      rcases hsoft h a b hh with hs|⟨ty,x,ad,e1,e2,_⟩
      .exact hs
      .exact absurd ⟨ty,x,ad,e1,e2⟩ hno
     obtain⟨ty,x,ad,e1,e2⟩:=hex;have hsb:∀h,t'<=h->h<t->T.isH h->T.soft h∨(T.keeps h ad.block∨(ad.block<base/\∃k,dO cx ty=some k/\1<=k/\T.keepsC h ad.block ad.off (ad.off+k))):=by
      intro h a b hh;rcases hsoft h a b hh with hs|⟨ty',x',ad',f1,f2,f3⟩
      .exact .inl hs
      .rw[e1]at f1;cases f1;rw[e2]at f2;cases f2;exact .inr f3
     by_cases hkk:∀h,t'<=h->h<t->T.isH h->T.soft h∨T.keeps h ad.block
     .obtain⟨M',g1,g2⟩:∃M':Mem,M'.hp.get ad.block=(addMade (dQ s (T.D t').took) (T.D i).made (T.S t').m).hp.get ad.block/\∀b,b≠ad.block->M'.hp.get b=none:=by
       cases hg:(addMade (dQ s (T.D t').took) (T.D i).made (T.S t').m).hp.get ad.block with
       | none=>exact⟨⟨.nil,0,0⟩,Tr.get_nil _,fun b _=>Tr.get_nil _⟩
       | some ob=>exact⟨⟨Tr.put .nil ad.block ob,0,0⟩,by rw[Tr.get_put,if_pos rfl],fun b hb=>by rw[Tr.get_put,if_neg hb,Tr.get_nil]⟩
      refine quiet nq1 nq2 (M:=M') (pz I.r0 (fun b ob hb=>?_)) (by omega) (JR e1 e2 hop g1) hput;by_cases eb:b=ad.block
      .subst eb;rw[g1]at hb;exact FC T I (i:=i) (by omega) ht' hkk hanc haw ob hb
      .rw[g2 b eb]at hb;cases hb
     ·
      obtain⟨hbb,k,hk,hk1⟩:ad.block<base/\∃k,dO cx ty=some k/\1<=k:=by
       refine Classical.byContradiction fun hno=>hkk fun h a b hh=>?_
       rcases hsb h a b hh with q|q|⟨q1,k,q2,q3,_⟩
       .exact .inl q
       .exact .inr q
       .exact absurd ⟨q1,k,q2,q3⟩ hno
      have hsc:∀h,t'<=h->h<t->T.isH h->T.soft h∨T.keeps h ad.block∨T.keepsC h ad.block ad.off (ad.off+k):=by
       intro h a b hh;rcases hsb h a b hh with q|q|⟨_,k',q2,_,q4⟩
       .exact .inl q
       .exact .inr (.inl q)
       .rw[hk]at q2;cases q2;exact .inr (.inr q4)
      have hgm:(addMade (dQ s (T.D t').took) (T.D i).made (T.S t').m).hp.get ad.block=(T.S t').m.hp.get ad.block:=by
       rw[eX];intro k' o' hm';obtain⟨_,q⟩:=T.made_in (i:=i) (by omega) hm';omega
      cases hob:(T.S t').m.hp.get ad.block with
      | none=>
       exfalso;unfold dh at hop;rw[e1]at hop;simp only[pw,e2]at hop;have hl:loadT cx (addMade (dQ s (T.D t').took) (T.D i).made (T.S t').m) ty ad=none:=by
        unfold loadT fk;rw[hgm,hob];cases cx.un.get ty with
        | none=>rfl
        | some d=>rw[hk];simp only;cases mX d<;>cases ad.spot<;>rfl
       rw[hl]at hop;cases hop
      | some ob=>
       obtain⟨ob',h1,h2⟩:=I.subc ad.block ad.off (ad.off+k) t' hbb ht' hsc ob hob;have g1:(Mem.mk (Tr.put .nil ad.block ob') 0 0).hp.get ad.block=some ob':=by show (Tr.put .nil ad.block ob').get ad.block=_;rw[Tr.get_put,if_pos rfl]
       refine quiet nq1 nq2 (M:=⟨Tr.put .nil ad.block ob',0,0⟩) (pz I.r0 (fun b x hb=>?_)) (by omega) (Iz e1 e2 hop hk hk1 (hgm.trans hob) g1 h2) hput;by_cases eb:b=ad.block
       .subst eb;rw[g1]at hb;cases hb;have e9:(vis T (fun k=>listed.getD k true) t).hp.get ad.block=(T.S t).m.hp.get ad.block:=by
         unfold vis;rw[eX];intro k' o' hm';obtain⟨_,q⟩:=T.made_in (gQ4 _) hm';omega
        rw[e9];exact h1
       .have hb':(Tr.put .nil ad.block ob').get b=some x:=hb;rw[Tr.get_put,if_neg eb,Tr.get_nil]at hb';cases hb'
   .cases hmk:gC o.op with
    | true=>
     obtain⟨v,m1,ob,hD,hop,hob,hput⟩:=T.make ho hw hk hmk;obtain⟨X,h1,h2⟩:=stX { hp:=.nil,nx:=base+i,fl:=0 };rw[opX h2]at hop;have hnH:¬T.isH i:=by
      rintro⟨o2,h1,_,_,h3⟩;rw[ho]at h1;cases h1;rw[hmk]at h3;cases h3
     have hid:φ (base+i)=none:=I.un i hil' hL;obtain⟨u,u',ob',rob,l,rfl,rfl,hl,hrun,hv,hor⟩:=FD (w:=w) hcx I.r0.glob h1 hmk hop hid;have hobe:ob'=ob:=by
      (try dsimp only at hob)
      rw[Tr.get_put,if_pos rfl]at hob;exact Option.some.inj hob
     subst hobe;obtain⟨_,_,_,p4⟩:=gp hput;have hmade:(i,base+i,ob')∈(T.D ops.toList.length).made:=T.made_mono (i:=i+1) (by omega) (gQ4 _) (by rw[hD];simp);refine mZ hrun (next _ _ _ t (LY T hsl hm0 hf0 I ho hL hL' hr hnH hmade hl hor ?_ ?_))
     .intro d x hd hx;rw[(p4 d hd).2]at hx;cases hx;exact hv
     .intro d hd;rw[<-hszi];exact(p4 d hd).1
    | false=>
     have hH:T.isH i:=⟨o,ho,hw,hk,hmk⟩;obtain⟨hch,v,m1,htk,_,_,hput,hcase⟩:=T.change ho hs hw hk hmk;have hanc:∀k,hasBit s k=true->(fun k=>listed.getD k true) k=true:=fun k hk=>jo hsl I.dc i o s k ho hs hr hk
     have hti:t<=i:=by
      cases Nat.lt_or_ge i t with
      | inl h=>have:=(I.hs i hH).2 h;(try dsimp only at this);rw[hL]at this;cases this
      | inr h=>exact h
     have hallH:∀h,h<i->T.isH h->(fun k=>listed.getD k true) h=true:=by
      intro h hhi hh;rcases T.hist_head (i:=i) (by omega)with⟨_,q2⟩|⟨j,x,r,q1,q2,q3,q4⟩
      .exact absurd hh (q2 h hhi)
      .have hbj:hasBit s j=true:=by
        rcases hch with hch|⟨j',x',r',e1,e2⟩
        .rw[hch]at q1;cases q1
        .rw[q1]at e1;simp only[List.cons.injEq,Prod.mk.injEq]at e1;rw[e1.1.1];exact e2
       have hjt:=(I.hs j q3).1 (hanc j hbj);refine(I.hs h hh).2 ?_;by_cases e:j<h
       .exact absurd hh (q4 h e hhi)
       .omega
     have hnoH:∀h,t<=h->h<i->¬T.isH h:=by
      intro h a b hh;have:=(I.hs h hh).1 (hallH h b hh);omega
     obtain⟨hSt,hDt⟩:=T.same hti (by omega) hnoH;obtain⟨_,_,_,p4⟩:=gp hput;have hbase:=I.nx;have hflS:(T.S i).m.fl=m0.fl:=by rw[hSt];exact I.fl
     have hsubv:=zq T I (i:=i) (t':=t) (s:=s) (by omega) (gQ4 t) (fun h a b=>by omega) hanc (fun k id ob _ _ h s a b=>by omega);have go:∀(M:Mem),(∀b,M.hp.get b=(addMade (dQ s (T.D i).took) (T.D i).made (T.S i).m).hp.get b)->M.nx=(T.S i).m.nx->m0.fl<=M.fl->M.fl<=M.nx->dh cx call { T.S i with m:=M } o=some (v,m1)->
       (T.S (i+1)).m.hp=m1.hp->(T.S (i+1)).m.nx=m1.nx->((∀f,m1.fl=f->M.fl=f->(T.S (i+1)).m.fl=(T.S i).m.fl))->(T.soft i->M.fl=M.nx∨(M.fl=base/\T.own i))->o.wp P a w (wpAny P .any ops Q fuel (listed.setIfInBounds i true)) Q:=by
      intro M hM hMn hMf hMfl hop hS1 hS2 hS3 hsf;have hkeep:∀b,T.keeps i b->m1.hp.get b=M.hp.get b:=fun b hb=>by
       obtain⟨o2,k1,hk⟩:=hb;rw[ho]at k1;cases k1;rcases hk with⟨ty,c,x,ad,k2,k3,k4⟩|⟨ty,c,k,x,r,k2,k3,k4⟩
       .exact IA k2 k3 hop k4
       .exact LX k2 k3 hop k4
      have hkeepC:∀b lo hi,T.keepsC i b lo hi->∀ob,M.hp.get b=some ob->∃ob',m1.hp.get b=some ob'/\Alike lo hi ob ob':=fun b lo hi hb=>by
       obtain⟨o2,ty,c,x,ad,n,k1,k2,k3,k4,k5,k6⟩:=hb;rw[ho]at k1;cases k1;subst k5;exact He k2 k3 hop k4 k6
      obtain⟨X,h1,h2⟩:=stX M;rw[opX h2]at hop;have hrM:RR P φ M w:=by
       refine⟨pz I.r0 (fun b x hb=>hsubv b x (by rw[hM,hSt,hDt]at hb;exact hb)),?_,hMfl⟩;rw[hMn,hSt];exact I.fr
      refine NO hcx hcall h1 hrM hop ?_;intro φ' w' v' hrr hst hv;refine next φ' _ w' (i+1) (IC T hsl hm0 hf0 I ho hs hL hL' hr hH hM hMn hS1 hS2 (hS3 _ hst.fl rfl) htk hnx0 hsf hkeep hkeepC hti hnoH hallH hrr hst hMf ?_ ?_)
      .intro d x hd hx;exact hv x (by rw[<-(p4 d hd).2];exact hx)
      .intro d hd;rw[<-hszi];exact(p4 d hd).1
     rcases hcase with⟨hh,hop,hm⟩|⟨hh,hop,hm,_,_⟩
     .have hfls:gh ops.toList base (T.S i).m.nx s i (T.D i) ((eN ops.toList []).drop (i+1)) (ops.toList.drop (i+1))=(T.S i).m.nx∨(gh ops.toList base (T.S i).m.nx s i (T.D i) ((eN ops.toList []).drop (i+1)) (ops.toList.drop (i+1))=base/\T.own i):=by
       unfold gh;split
       .rename_i q;exact .inr ⟨rfl,s,hs,q⟩
       .exact .inl rfl
      generalize gh ops.toList base (T.S i).m.nx s i (T.D i) ((eN ops.toList []).drop (i+1)) (ops.toList.drop (i+1))=F at hop hfls;refine go { addMade (dQ s (T.D i).took) (T.D i).made (T.S i).m with fl:=F } (fun b=>rfl) (fg _ _ _).1 ?_ ?_ hop (by rw[hm]) (by rw[hm]) (fun f _ _=>by rw[hm]) (fun _=>?_)
      .show m0.fl<=F;rcases hfls with q|⟨q,_⟩
       .rw[q,hSt];omega
       .rw[q];exact hf0
      .show F<=(addMade _ _ _).nx;rw[(fg _ _ _).1];rcases hfls with q|⟨q,_⟩
       .rw[q];exact gQ4 _
       .rw[q,hSt];omega
      .show F=(addMade _ _ _).nx∨(F=base/\_);rw[(fg _ _ _).1];exact hfls
     .refine go _ (fun b=>rfl) (fg _ _ _).1 ?_ ?_ hop (by rw[hm]) (by rw[hm]) (fun f h1 h2=>?_) (fun q=>?_)
      .rw[(fg _ _ _).2,hflS];exact gQ4 _
      .rw[(fg _ _ _).1,(fg _ _ _).2,hflS,hSt];omega
      .rw[(fg _ _ _).2]at h2;rw[hm,h1,h2]
      .obtain⟨r,hr'⟩:=q;rw[hh]at hr';simp at hr'
  .rw[wnt _ hw];simp only[Bool.false_eq_true,if_false];obtain⟨hD,hput⟩:=T.skip ho hw;obtain⟨_,_,_,p4⟩:=gp hput;refine next φ _ w t (DD T hsl I ho hL hL' hr ?_ ?_ ?_ ?_)
   .rintro⟨o2,h1,h2,_⟩;rw[ho]at h1;cases h1;rw[hw]at h2;cases h2
   .intro id ob hm;obtain⟨o2,h1,h2,_⟩:=T.made_who hm;rw[ho]at h1;cases h1;rw[hw]at h2;cases h2
   .intro d x hd hx;rw[(p4 d hd).2]at hx;cases hx;exact .tuple _ _ rfl (LR.nil φ).2
   .intro d hd;rw[<-hszi];exact(p4 d hd).1
theorem L0{φ0:cV}{m0:Mem}{w0:World}{a:Act}{t:Nat}(I:Inv T P φ0 m0 w0 (fun _=>true) φ a w t):Inv T P φ0 m0 w0 (fun _=>true) φ a w ops.toList.length:=by
 have hno:∀h,t<=h->h<ops.toList.length->¬T.isH h:=by
  intro h a b hh;have:=(I.hs h hh).1 rfl;omega
 obtain⟨e1,e2⟩:=T.same I.tn (gQ4 _) hno;have hvis:vis T (fun _=>true) ops.toList.length=vis T (fun _=>true) t:=by unfold vis;rw[e1,e2]
 refine⟨gQ4 _,?_,I.dc,by rw[hvis];exact I.r0,by rw[e1];exact I.fr,by rw[e1];exact I.nx,by rw[e1];exact I.fl,I.un,by rw[e1,e2];exact I.gone,?_,?_,I.tm,I.sz,I.df,by rw[hvis];exact I.st⟩
 .intro h hh;obtain⟨o,ho,_⟩:=id hh;exact⟨fun _=>(gQ1 ho).1,fun _=>rfl⟩
 .intro b t' ht' hsf;rw[e1,e2];by_cases q:t'<=t
  .obtain⟨g1,g2⟩:=I.sub b t' q (fun h a b hh=>hsf h a (by have:=I.tn;omega) hh);exact⟨g1,fun k o h0 h1 h2 h3 h4=>g2 k o h0 h1 h2 h3 (fun h s a b=>h4 h s a (by have:=I.tn;omega))⟩
  .obtain⟨e3,e4⟩:=T.same (a:=t) (b:=t') (by omega) ht' (fun h a b=>hno h a (by omega));rw[e3,e4];exact⟨fun _ h=>h,fun k o _ _ h1 h2 _=>by rw[h1]at h2;cases h2⟩
 .intro b lo hi t' hb ht' hsf o ho;rw[e1];by_cases q:t'<=t
  .exact I.subc b lo hi t' hb q (fun h a b hh=>hsf h a (by have:=I.tn;omega) hh) o ho
  .obtain⟨e3,_⟩:=T.same (a:=t) (b:=t') (by omega) ht' (fun h a b=>hno h a (by omega));rw[e3]at ho;exact⟨o,ho,.inl rfl⟩
end
theorem N9(hcx:CxOk P cx){call:dB}(hcall:tj P call){ops:Array Oper}{Q:Exit->Act->World->Prop}{st st':St}{a:Act}(hr:RR P φ st.m w)(ht:TR φ st a)
  (hslots:gO ops.toList ops.toList (eN ops.toList []) 0=true)
  (h:eJ cx call ops.toList st.m.nx ops.toList (eN ops.toList []) 0 ⟨0,[],[],0⟩ { st with m:={ st.m with nx:=st.m.nx+ops.toList.length } }=some st')
  (hq:∀φ' a' w',RR P φ' st'.m w'->TR φ' st' a'->Stp φ st.m w φ' st'.m w'->st'.sz=st.sz->Q .normal a' w') :
  wpAny P .any ops Q ops.size (Array.replicate ops.size false) a { w with drawn:=w.drawn+1 }:=by
 obtain⟨T⟩:=FE (cx:=cx) (ops:=ops.toList) (anc:=eN ops.toList []) ops.toList (eN ops.toList []) 0 _ _ _ (by simp) (by simp) (Nat.zero_le _) h;have hS0:=T.s0;have hD0:=T.d0;have hLf:∀k,k<ops.toList.length->(Array.replicate ops.size false).getD k true=false:=by
  intro k hk;rw[Array.getD_eq_getD_getElem?,Array.getElem?_replicate,if_pos (by simpa using hk)];rfl
 have hvis:∀b,(vis T (fun k=>(Array.replicate ops.size false).getD k true) 0).hp.get b=st.m.hp.get b:=by
  intro b;unfold vis;rw[eX,hS0];intro k o' hm;obtain⟨hk,_⟩:=T.made_in (gQ4 _) hm;show ((Array.replicate ops.size false).getD k true&&_)=false;rw[hLf k hk];rfl
 have h0:=hr.r0;refine JX T (P:=P) (φ0:=φ) (m0:=st.m) (w0:=w) hcx hcall hslots rfl hr.fl rfl ?_ (fun φ a w t I=>L0 T I) ops.size _ φ a _ 0 (by simp) ?_ ?_
 ·
  intro φ' a' w' I;have hl:=T.last;have hm:st'.m=vis T (fun _=>true) ops.toList.length:=congrArg St.m hl;have hnx:st'.m.nx=(T.S ops.toList.length).m.nx:=by rw[hm];exact(fg _ _ _).1
  have hfl:st'.m.fl=(T.S ops.toList.length).m.fl:=by rw[hm];exact(fg _ _ _).2
  have hsz:st'.sz=st.sz:=by
   have:=T.sz (gQ4 _);exact(congrArg St.sz hl).trans this
  refine hq φ' a' w' ⟨by rw[hm];exact I.r0,by rw[hnx];exact I.fr,?_⟩ ⟨?_,I.df,?_⟩ (by rw[hm];exact I.st) hsz
  .rw[hnx,hfl,I.fl];have:=I.nx;have:=hr.fl;omega
  .rw[hsz];exact I.sz
  .intro s v hsv;refine I.tm s v ?_;rw[CU T (gQ4 _) (fun _ _ _ _ _=>rfl),<-hsv];exact congrArg (fun x=>x.tm.get s) hl.symm
 .exact Nat.le_trans (List.length_filter_le _ _) (by simp)
 ·
  refine⟨Nat.zero_le _,?_,?_,?_,?_,?_,?_,?_,?_,?_,?_,?_,ht.1,ht.2.1,?_⟩
  .rintro h ⟨o,ho,_⟩;have hlt:=(gQ1 ho).1;rw[hLf h hlt];exact⟨fun q=>(by cases q),fun q=>(by omega)⟩
  .intro i o ho hL;have hlt:=(gQ1 ho).1;rw[hLf i hlt]at hL;cases hL
  .exact(h0.world (w':={ w with drawn:=w.drawn+1 }) rfl).congr hvis
  .rw[hS0];intro b hb;exact hr.fresh b (Nat.le_trans (Nat.le_add_right _ _) hb)
  .rw[hS0];exact gQ4 _
  .rw[hS0]
  .intro k _ _;exact hr.fresh _ (Nat.le_add_right _ _)
  .intro k hk _;rw[hS0];cases hg:st.m.hp.get (st.m.nx+k)with
   | none=>rfl
   | some x=>
    obtain⟨l,h1,_⟩:=h0.obj _ _ hg;rw[hr.fresh _ (Nat.le_add_right _ _)]at h1;cases h1
  .intro b t' ht' _;obtain rfl:t'=0:=by omega
   exact⟨fun _ h=>h,fun k o _ _ h1 h2 _=>by rw[h1]at h2;cases h2⟩
  .intro b lo hi t' _ ht' _ o ho;obtain rfl:t'=0:=by omega
   exact⟨o,ho,.inl rfl⟩
  .intro s v hsv;rw[wx T (i:=0) (Nat.zero_le _) (fun k o _ hk _ _=>hLf k hk)]at hsv;refine ht.2.2 s v ?_;simp only[tmU]at hsv;rw[hS0]at hsv;exact hsv
  .refine⟨fun _ _ h=>h,?_,fun _ _ _=>rfl,gQ4 _,rfl,rfl,rfl,?_,?_,fun b _=>hvis b,fun b _ hn=>(hvis b).trans hn,fun _ _=>rfl,fun _=>Nat.le_succ _⟩
   .rintro r ⟨b,x,l,h0',h1,h2,h3⟩;rw[hvis b]at h1;refine .inr ⟨b,x,l,?_,h1,h2,h3⟩;unfold vis at h0';rw[(fg _ _ _).2,hS0]at h0';exact h0'
   .unfold vis;rw[(fg _ _ _).1,hS0];exact Nat.le_add_right _ _
   .unfold vis;rw[(fg _ _ _).2,hS0]
end Go.AX
