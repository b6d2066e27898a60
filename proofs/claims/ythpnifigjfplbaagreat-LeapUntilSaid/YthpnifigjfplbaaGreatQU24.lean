import Derived.Test.YthpnifigjfplbaaGreatQU09
import Derived.Test.YthpnifigjfplbaaGreatQU22
set_option linter.unusedSimpArgs false
set_option linter.unusedVariables false
set_option linter.unusedSectionVars false
namespace Go.AX
open Go
noncomputable section
structure SV where
 id:Int
 s:pm.Srv
 ja:Option Addr
 jn:Nat
 jc:Nat
 sec:Int
 held:Int
 num:Int
 ran:Int
structure JV where
 num:Int
 pa:Option Addr
 pn:Nat
 pc:Nat
 at_:Int
 done:Int
structure LV where
 most:Int
 holder:Int
 qa:Option Addr
 qn:Nat
 qc:Nat
 dead:Bool
def encS(v:SV):List Value:=[.int .i64 v.id,.int .i64 v.s.q,.int .i64 v.s.p,.int .i64 v.s.bud,.int .i64 v.s.due,.int .i64 v.s.mode,.slice v.ja v.jn v.jc,.int .i64 v.sec,.int .i64 v.held,.int .i64 v.num,.int .i64 v.ran]
def encJ(v:JV):List Value:=[.int .i64 v.num,.slice v.pa v.pn v.pc,.int .i64 v.at_,.int .i64 v.done]
def encL(v:LV):List Value:=[.int .i64 v.most,.int .i64 v.holder,.slice v.qa v.qn v.qc,.bool v.dead]
def encB(b:pm.Back):List Value:=[.int .i64 b.id,.int .i64 b.ran]
def encEv(e:pm.Ev):List Value:=[.int .i64 e.at_,.int .i64 e.kind,.int .i64 e.who,.int .i64 e.n]
def encI(x:Int):List Value:=[.int .i64 x]
def encP(x:pm.Step):List Value:=[.int .i64 x.1,.int .i64 x.2]
theorem fJ(x:SV):(encS x).length=11:=rfl
theorem fh(x:JV):(encJ x).length=4:=rfl
theorem nz(x:LV):(encL x).length=4:=rfl
theorem fI(x:pm.Back):(encB x).length=2:=rfl
theorem fo(x:pm.Ev):(encEv x).length=4:=rfl
theorem dV(x:Int):(encI x).length=1:=rfl
theorem tL(x:pm.Step):(encP x).length=2:=rfl
theorem rI{α : Type}{enc:α->List Value}(h:∀x,(enc x).all one1=true)(l:List α):(l.flatMap enc).all one1=true:=by
 rw[List.all_eq_true];intro v hv;obtain⟨x,_,hx⟩:=List.mem_flatMap.1 hv;exact List.all_eq_true.1 (h x) v hx
theorem uP(x:SV):(encS x).all one1=true:=rfl
theorem KL(x:JV):(encJ x).all one1=true:=rfl
theorem KM(x:LV):(encL x).all one1=true:=rfl
theorem yK(x:pm.Back):(encB x).all one1=true:=rfl
theorem xd(x:pm.Ev):(encEv x).all one1=true:=rfl
theorem D5(x:Int):(encI x).all one1=true:=rfl
inductive All2 {α β : Type} (R:α->β->Prop):List α->List β->Prop
 | nil:All2 R [] []
 | cons {a b l k}:R a b->All2 R l k->All2 R (a::l) (b::k)
theorem All2.imp{α β : Type}{R S:α->β->Prop}(h:∀a b,R a b->S a b):∀{l:List α} {k:List β},All2 R l k->All2 S l k
 | _,_,.nil=>.nil
 | _,_,.cons x r=>.cons (h _ _ x) (r.imp h)
theorem All2.len{α β : Type}{R:α->β->Prop}:∀{l:List α} {k:List β},All2 R l k->l.length=k.length
 | _,_,.nil=>rfl
 | _,_,.cons _ r=>by simp[r.len]
theorem All2.get{α β : Type}{R:α->β->Prop}:∀{l:List α} {k:List β},All2 R l k->∀{i:Nat} {a:α},l[i]? = some a->∃b,k[i]? = some b/\R a b
 | _,_,.nil,i,a,h=>by cases h
 | _,_,.cons x r,0,a,h=>by cases h;exact⟨_,rfl,x⟩
 | _,_,.cons x r,i+1,a,h=>by simpa using r.get (i:=i) (by simpa using h)
theorem All2.get'{α β : Type}{R:α->β->Prop}:∀{l:List α} {k:List β},All2 R l k->∀{i:Nat} {b:β},k[i]? = some b->∃a,l[i]? = some a/\R a b
 | _,_,.nil,i,a,h=>by cases h
 | _,_,.cons x r,0,a,h=>by cases h;exact⟨_,rfl,x⟩
 | _,_,.cons x r,i+1,a,h=>by simpa using r.get' (i:=i) (by simpa using h)
theorem All2.set{α β : Type}{R:α->β->Prop}{a:α}{b:β}(hab:R a b):∀{l:List α} {k:List β},All2 R l k->∀(i:Nat),All2 R (l.set i a) (k.set i b)
 | _,_,.nil,i=>.nil
 | _,_,.cons x r,0=>.cons hab r
 | _,_,.cons x r,i+1=>.cons x (r.set hab i)
theorem All2.append{α β : Type}{R:α->β->Prop}:∀{l l':List α} {k k':List β},All2 R l k->All2 R l' k'->All2 R (l++l') (k++k')
 | _,_,_,_,.nil,h=>h
 | _,_,_,_,.cons x r,h=>.cons x (r.append h)
theorem All2.take{α β : Type}{R:α->β->Prop}:∀{l:List α} {k:List β},All2 R l k->∀(n:Nat),All2 R (l.take n) (k.take n)
 | _,_,.nil,n=>by simp;exact .nil
 | _,_,.cons x r,0=>.nil
 | _,_,.cons x r,n+1=>.cons x (r.take n)
theorem All2.drop{α β : Type}{R:α->β->Prop}:∀{l:List α} {k:List β},All2 R l k->∀(n:Nat),All2 R (l.drop n) (k.drop n)
 | _,_,.nil,n=>by simp;exact .nil
 | _,_,.cons x r,0=>.cons x r
 | _,_,.cons x r,n+1=>r.drop n
theorem All2.of{α β : Type}{R:α->β->Prop}:∀{l:List α} {k:List β},l.length=k.length->(∀(i:Nat) (a:α) (b:β),l[i]? = some a->k[i]? = some b->R a b)->All2 R l k
 | [],[],_,_=>.nil
 | a::l,b::k,hl,h=>.cons (h 0 a b rfl rfl) (All2.of (by simpa using hl) fun i a b h1 h2=>h (i+1) a b (by simpa using h1) (by simpa using h2))
 | [],_::_,hl,_=>by simp at hl
 | _::_,[],hl,_=>by simp at hl
structure RdJob (m:Mem) (v:JV) (j:pm.Job):Prop where
 num:v.num=j.num
 at_:v.at_=j.at_
 done:v.done=j.done
 prog:Arr encP 2 m v.pa v.pn j.prog
structure RdServ (m:Mem) (v:SV) (x:pm.Serv):Prop where
 id:v.id=x.id
 s:v.s=x.s
 sec:v.sec=x.sec
 held:v.held=x.held
 num:v.num=x.num
 ran:v.ran=x.ran
 jobs:∃js,Arr encJ 4 m v.ja v.jn js/\All2 (RdJob m) js x.jobs
structure RdLock (m:Mem) (v:LV) (l:pm.Lock):Prop where
 most:v.most=l.most
 holder:v.holder=l.holder
 dead:v.dead=l.dead
 queue:Arr encI 1 m v.qa v.qn l.queue
def Cut(cx:Cx)(m:Mem)(a:Option Addr)(n c s:Nat):Prop:=n<=c/\(a=none∨∃b o ob,a=some ⟨b,o,none⟩/\m.hp.get b=some ob/\sameSize cx m b s=true)
theorem Cut.keep{cx:Cx}{m m':Mem}{a:Option Addr}{n c s:Nat}(h:Cut cx m a n c s)(hw:Wf m)(k:Keep m m'):Cut cx m' a n c s:=by
 refine⟨h.1,?_⟩;rcases h.2 with h|⟨b,o,ob,h1,h2,h3⟩
 .exact .inl h
 .have hg:=k.get b (hw.lt h2);refine .inr ⟨b,o,ob,h1,hg.trans h2,?_⟩;unfold sameSize at h3 ⊢;rw[hg];exact h3
theorem Cut.cut{cx:Cx}{m:Mem}{a:Option Addr}{n c s t e i j:Nat}{lo hi:Option Value}(h:Cut cx m a n c s)(ht:cx.un.get t=some (.slice e))(hs:dO cx e=some s)(hhi:fi n hi c=some j)(hlo:fi 0 lo j=some i)(hjc:j<=c) :
  ∃a',cX cx m t (.slice a n c) lo hi none=some (.slice a' (j-i) (c-i))/\((a=none/\a'=none)∨∃b o,a=some ⟨b,o,none⟩/\a'=some ⟨b,o+i*s,none⟩):=by
 rcases h.2 with rfl|⟨b,o,ob,rfl,_,h3⟩
 .refine⟨none,?_,.inl ⟨rfl,rfl⟩⟩;unfold cX;simp only[ht,hs,hhi,hlo]
 .exact⟨_,eR ht hs hhi hlo h3 hjc,.inr ⟨b,o,rfl,rfl⟩⟩
theorem Arr.cut{α : Type}{enc:α->List Value}{s:Nat}{m:Mem}{a a':Option Addr}{n i j:Nat}{l:List α}(h:Arr enc s m a n l)(hj:j<=n)(ha:(a=none/\a'=none)∨∃b o,a=some ⟨b,o,none⟩/\a'=some ⟨b,o+i*s,none⟩):Arr enc s m a' (j-i) ((l.take j).drop i):=by
 refine⟨by rw[List.length_drop,List.length_take];have:=h.1;omega,fun k x hx=>?_⟩;rw[List.getElem?_drop,List.getElem?_take]at hx;split at hx
 .obtain⟨b,o,e1,e2⟩:=h.2 _ x hx;rcases ha with⟨rfl,_⟩|⟨b',o',rfl,rfl⟩
  .cases e1
  .cases e1;refine⟨b,o+i*s,rfl,?_⟩;rw[show o+i*s+k*s=o+(i+k)*s by rw[Nat.add_mul];omega];exact e2
 .cases hx
structure RdSt (cx:Cx) (m:Mem) (M now:Int) (a1:Option Addr) (n1:Nat) (a2:Option Addr) (n2:Nat) (a3:Option Addr) (n3 c3:Nat) (σ : pm.St):Prop where
 em:M = σ.m
 enow:now = σ.now
 servs:∃ss,Arr encS 11 m a1 n1 ss/\All2 (RdServ m) ss σ.servs
 sems:∃ls,Arr encL 4 m a2 n2 ls/\All2 (RdLock m) ls σ.sems
 backs:Arr encB 2 m a3 n3 σ.backs
 cut:Cut cx m a3 n3 c3 2
theorem RdJob.keep{m m':Mem}{v:JV}{j:pm.Job}(h:RdJob m v j)(hw:Wf m)(k:Keep m m'):RdJob m' v j:=⟨h.num,h.at_,h.done,h.prog.keep hw k⟩
theorem RdServ.keep{m m':Mem}{v:SV}{x:pm.Serv}(h:RdServ m v x)(hw:Wf m)(k:Keep m m'):RdServ m' v x:=
 ⟨h.id,h.s,h.sec,h.held,h.num,h.ran,let ⟨js,a,b⟩:=h.jobs;⟨js,a.keep hw k,b.imp fun _ _ r=>r.keep hw k⟩⟩
theorem RdLock.keep{m m':Mem}{v:LV}{l:pm.Lock}(h:RdLock m v l)(hw:Wf m)(k:Keep m m'):RdLock m' v l:=⟨h.most,h.holder,h.dead,h.queue.keep hw k⟩
theorem RdSt.keep{cx:Cx}{m m':Mem}{M now:Int}{a1:Option Addr}{n1:Nat}{a2:Option Addr}{n2:Nat}{a3:Option Addr}{n3 c3:Nat}{σ : pm.St}(h:RdSt cx m M now a1 n1 a2 n2 a3 n3 c3 σ)(hw:Wf m)(k:Keep m m'):RdSt cx m' M now a1 n1 a2 n2 a3 n3 c3 σ:=
 ⟨h.em,h.enow,let ⟨ss,a,b⟩:=h.servs;⟨ss,a.keep hw k,b.imp fun _ _ r=>r.keep hw k⟩,let ⟨ls,a,b⟩:=h.sems;⟨ls,a.keep hw k,b.imp fun _ _ r=>r.keep hw k⟩,h.backs.keep hw k,h.cut.keep hw k⟩
theorem RdSt.len1{cx:Cx}{m:Mem}{M now:Int}{a1:Option Addr}{n1:Nat}{a2:Option Addr}{n2:Nat}{a3:Option Addr}{n3 c3:Nat}{σ : pm.St}(h:RdSt cx m M now a1 n1 a2 n2 a3 n3 c3 σ):σ.servs.length=n1:=by
 obtain⟨ss,a,b⟩:=h.servs;rw[<-b.len,a.1]
theorem RdSt.len2{cx:Cx}{m:Mem}{M now:Int}{a1:Option Addr}{n1:Nat}{a2:Option Addr}{n2:Nat}{a3:Option Addr}{n3 c3:Nat}{σ : pm.St}(h:RdSt cx m M now a1 n1 a2 n2 a3 n3 c3 σ):σ.sems.length=n2:=by
 obtain⟨ss,a,b⟩:=h.sems;rw[<-b.len,a.1]
theorem RdSt.len3{cx:Cx}{m:Mem}{M now:Int}{a1:Option Addr}{n1:Nat}{a2:Option Addr}{n2:Nat}{a3:Option Addr}{n3 c3:Nat}{σ : pm.St}(h:RdSt cx m M now a1 n1 a2 n2 a3 n3 c3 σ):σ.backs.length=n3:=h.backs.1
structure Small (σ : pm.St):Prop where
 servs:σ.servs.length<=1000
 sems:σ.sems.length<=1000
 backs:σ.backs.length<=1000
 jobs:∀x∈σ.servs,x.jobs.length<=1000
 queue:∀l∈σ.sems,l.queue.length<=1000
def Rise:List pm.Serv->Prop
 | []=>True
 | x::r=>(∀y∈r,x.id<y.id)/\Rise r
theorem Rise.lt:∀{l:List pm.Serv},Rise l->∀{i j:Nat} {x y:pm.Serv},i<j->l[i]? = some x->l[j]? = some y->x.id<y.id
 | [],_,i,j,x,y,_,h,_=>by cases h
 | z::r,h,0,j+1,x,y,_,h1,h2=>by
  cases h1;exact h.1 y (gQ3 (by simpa using h2))
 | z::r,h,i+1,j+1,x,y,hij,h1,h2=>Rise.lt (i:=i) (j:=j) h.2 (by omega) (by simpa using h1) (by simpa using h2)
 | z::r,h,i,0,x,y,hij,_,_=>by omega
theorem IZ(l:List pm.Serv)(id:Int):pm.at_ l id<=l.length:=by
 unfold pm.at_
 exact(List.takeWhile_prefix _).length_le
theorem IX:∀{l:List pm.Serv} {id:Int} {i:Nat} {x:pm.Serv},l[i]? = some x->i<pm.at_ l id->x.id<id
 | [],id,i,x,h,_=>by cases h
 | y::r,id,i,x,h,hi=>by
  unfold pm.at_ at hi
  rw[List.takeWhile_cons]at hi;split at hi
  .rename_i hy;cases i with
   | zero=>cases h;exact gH.1 hy
   | succ i=>exact IX (l:=r) (id:=id) (by simpa using h) (by unfold pm.at_;simpa using hi)
  .simp at hi
theorem IY:∀{l:List pm.Serv} (_:Rise l) {id:Int} {i:Nat} {x:pm.Serv},l[i]? = some x->pm.at_ l id<=i->id<=x.id
 | [],_,id,i,x,h,_=>by cases h
 | y::r,hr,id,i,x,h,hi=>by
  unfold pm.at_ at hi
  rw[List.takeWhile_cons]at hi;split at hi
  .rename_i hy;cases i with
   | zero=>simp at hi
   | succ i=>exact IY (l:=r) hr.2 (id:=id) (by simpa using h) (by unfold pm.at_;simpa using hi)
  .rename_i hy;have hy:id<=y.id:=by
    have:cR y.id id=false:=by simpa using hy
    exact dW.1 this
   cases i with
   | zero=>cases h;exact hy
   | succ i=>
    have:=hr.1 x (gQ3 (by simpa using h));omega
theorem NS{l:List pm.Serv}(hr:Rise l){id:Int}{i:Nat}(hi:i<=l.length)(h1:∀j x,j<i->l[j]? = some x->x.id<id)(h2:∀j x,i<=j->l[j]? = some x->id<=x.id):pm.at_ l id=i:=by
 have hle:=IZ l id;rcases Nat.lt_trichotomy (pm.at_ l id) i with h|h|h
 .have hx:=gQ2 (show pm.at_ l id<l.length by omega);have a:=h1 _ _ h hx;have b:=IY hr hx (gQ4 _);omega
 .exact h
 .have hx:=gQ2 (show i<l.length by omega);have a:=h2 _ _ (gQ4 _) hx;have b:=IX hx h;omega
theorem nA:∀{l k:List pm.Serv},l.map (·.id)=k.map (·.id)->∀id,pm.at_ l id=pm.at_ k id
 | [],[],_,_=>rfl
 | [],_::_,h,_=>by simp at h
 | _::_,[],h,_=>by simp at h
 | x::l,y::k,h,id=>by
  simp only[List.map_cons,List.cons.injEq]at h;have ih:=nA h.2 id;unfold pm.at_ at ih ⊢
  rw[List.takeWhile_cons,List.takeWhile_cons,h.1];cases cR y.id id with
  | false=>rfl
  | true=>simp[ih]
theorem kq:∀{l k:List pm.Serv},l.map (·.id)=k.map (·.id)->Rise l->Rise k
 | [],[],_,h=>h
 | [],_::_,h,_=>by simp at h
 | _::_,[],h,_=>by simp at h
 | x::l,y::k,h,hr=>by
  simp only[List.map_cons,List.cons.injEq]at h;refine⟨fun z hz=>?_,kq h.2 hr.2⟩;have:z.id∈l.map (·.id):=by rw[h.2];exact List.mem_map_of_mem hz
  obtain⟨u,hu,e⟩:=List.mem_map.1 this;rw[<-h.1,<-e];exact hr.1 u hu
theorem jH{l:List pm.Serv}{i:Nat}{x x':pm.Serv}(hx:l[i]? = some x)(h:x'.id=x.id):(l.set i x').map (·.id)=l.map (·.id):=by
 apply List.ext_getElem?;intro j;rw[List.getElem?_map,List.getElem?_map,List.getElem?_set];split
 .rename_i e;subst e;rw[if_pos (gQ1 hx).1,hx];simp[h]
 .rfl
theorem half{i j:Nat}(h:i+j<1000000):iF .i64 (lW .u64 (iF .u64 (bh .i64 (i:Int) (j:Int))) (1:Int))=(((i+j) / 2:Nat):Int):=by
 rw[dN (by omega) (by omega)];have e1:iF .u64 ((i:Int)+j)=((i+j:Nat):Int):=by
  unfold iF;rw[DK (by show (0:Int)<=_;omega) (by show _<=(18446744073709551615:Int);omega)];omega
 rw[e1];have e2:lW .u64 ((i+j:Nat):Int) 1=(((i+j) / 2:Nat):Int):=by
  unfold lW;show ((i+j:Nat):Int).fdiv (2 ^ 1)=_;rw[Int.fdiv_eq_ediv_of_nonneg _ (by decide)];omega
 rw[e2];unfold iF;exact jN (by omega) (by omega)
end
end Go.AX
namespace Go.AX
open Go
noncomputable section
theorem AM{α : Type}{enc:α->List Value}{s:Nat}(hs:∀x,(enc x).length=s)(h0:0<s){l:List α}{i k:Nat}{v v':α}{vs:List Value}(hv:l[i]? = some v)(hk:k+vs.length<=s)(he:over (enc v) k vs=enc v') :
  over (l.flatMap enc) (i*s+k) vs=(l.set i v').flatMap enc:=by
 have hi:=(gQ1 hv).1;have hi2:(i+1)*s<=l.length*s:=Nat.mul_le_mul_right _ hi;rw[Nat.succ_mul]at hi2;have hfl:=dm hs l;apply List.ext_getElem?;intro j;rw[wH (by omega)];by_cases hj:j<l.length*s
 .have hq:j / s<l.length:=(Nat.div_lt_iff_lt_mul h0).2 hj;have hr:=Nat.mod_lt j h0;have hjq:j / s*s+j % s=j:=by rw[Nat.mul_comm];exact Nat.div_add_mod j s
  generalize j / s=q at hq hjq;generalize j % s=r at hr hjq;subst hjq;have hy:l[q]? = some (l[q]):=gQ2 hq;by_cases e:q=i
  .subst e;rw[hv]at hy;have e1:(l.set q v')[q]? = some v':=by rw[List.getElem?_set];simp[hi]
   rw[flat_get hs e1 hr,<-he,wH (by rw[hs];exact hk),flat_get hs hv hr];by_cases hc:k<=r/\r<k+vs.length
   .rw[if_pos hc,if_pos ⟨by omega,by omega⟩];congr 1;omega
   .rw[if_neg hc,if_neg (by omega)]
  .have e1:(l.set i v')[q]? = some (l[q]):=by rw[List.getElem?_set,if_neg (fun h=>e h.symm)];exact hy
   rw[flat_get hs e1 hr,flat_get hs hy hr,if_neg];rintro⟨c1,c2⟩;rcases Nat.lt_or_gt_of_ne e with h|h
   .have:=Nat.mul_le_mul_right s (show q+1<=i from h);rw[Nat.succ_mul]at this;omega
   .have:=Nat.mul_le_mul_right s (show i+1<=q from h);rw[Nat.succ_mul]at this;omega
 .have hfl2:=dm hs (l.set i v');rw[List.length_set]at hfl2;rw[if_neg (by omega),List.getElem?_eq_none (by omega),List.getElem?_eq_none (by omega)]
theorem Da{l vs:List Value}(h:l.length=vs.length):over l 0 vs=vs:=by
 unfold over;rw[List.take_zero,List.drop_eq_nil_of_le (by omega),List.nil_append,List.append_nil]
inductive CSl (m0 m:Mem) (e:TypeId) (w:Bool):Option Addr->Nat->Nat->List Value->Prop
 | nil:CSl m0 m e w none 0 0 []
 | empty (b:Nat) (cc:Tr Value) (hb:m0.nx<=b) (hg:m.hp.get b=some (.cells cc 0 e false)):CSl m0 m e w (some ⟨b,0,none⟩) 0 0 []
 | row (b n:Nat) (pre l:List Value) (hw:w=true->pre=[]/\0<n) (hb:m0.nx<=b) (hr:Row m b (pre++l) e true):CSl m0 m e w (some ⟨b,pre.length,none⟩) n n l
theorem OwnSl.csl{m0 m:Mem}{e:TypeId}{a:Option Addr}{n c:Nat}{l:List Value}(h:OwnSl m0 m e a n c l)(w:Bool):CSl m0 m e w a n c l:=by
 cases h with
 | nil=>exact .nil
 | empty b cc h hg=>exact .empty b cc h hg
 | row b n l h0 h hr=>exact .row b n [] l (fun _=>⟨rfl,h0⟩) h hr
theorem CSl.own{m0 m:Mem}{e:TypeId}{a:Option Addr}{n c:Nat}{l:List Value}(h:CSl m0 m e true a n c l):OwnSl m0 m e a n c l:=by
 cases h with
 | nil=>exact .nil
 | empty b cc h hg=>exact .empty b cc h hg
 | row b n pre l hw h hr=>
  obtain⟨rfl,h0⟩:=hw rfl;exact .row b n l h0 h hr
theorem CSl.cap{m0 m:Mem}{e:TypeId}{w:Bool}{a:Option Addr}{n c:Nat}{l:List Value}(h:CSl m0 m e w a n c l):c=n:=by cases h<;>rfl
theorem CSl.lt{m0 m:Mem}{e:TypeId}{w:Bool}{a:Option Addr}{n c:Nat}{l:List Value}(h:CSl m0 m e w a n c l)(hw:Wf m):∀b∈blk a,m0.nx<=b/\b<m.nx:=by
 intro b hb;cases h with
 | nil=>cases hb
 | empty b' _ h1 h=>simp[blk]at hb;subst hb;exact⟨h1,hw.lt h⟩
 | row b' _ _ _ _ h1 h=>simp[blk]at hb;subst hb;exact⟨h1,hw.row h⟩
theorem CSl.fr{m0 m m':Mem}{S:List Nat}{e:TypeId}{w:Bool}{a:Option Addr}{n c:Nat}{l:List Value}(h:CSl m0 m e w a n c l)(hw:Wf m)(f:Fr m m' S)(hS:∀b∈blk a,b∉S):CSl m0 m' e w a n c l:=by
 have hlt:=h.lt hw;cases h with
 | nil=>exact .nil
 | empty b cc h hg=>exact .empty b cc h ((f.get b (hlt b (by simp[blk])).2 (hS b (by simp[blk]))).trans hg)
 | row b n pre l hw h hr=>exact .row b n pre l hw h (hr.congr (f.get b (hlt b (by simp[blk])).2 (hS b (by simp[blk]))))
theorem CSl.arr{α : Type}{enc:α->List Value}{s:Nat}(hs:∀x,(enc x).length=s){m0 m:Mem}{e:TypeId}{w:Bool}{a:Option Addr}{n c:Nat}{l:List α}(h:CSl m0 m e w a n c (l.flatMap enc))(hl:l.length=n):Arr enc s m a n l:=by
 generalize hL:l.flatMap enc=L at h;cases h with
 | nil=>rw[List.length_eq_zero_iff.1 hl];exact jm.nil
 | empty b cc h hg=>rw[List.length_eq_zero_iff.1 hl];exact jm.nil
 | row b n pre L hw h hr=>
  subst hL;refine⟨hl,fun i x hx=>⟨b,pre.length,rfl,fun j v hv=>?_⟩⟩;have hj:j<s:=by rw[<-hs x];exact(gQ1 hv).1
  rw[hr.rd,List.getElem?_append_right (by omega),show pre.length+i*s+j-pre.length=i*s+j by omega,flat_get hs hx hj,hv]
theorem CSl.tail{cx:Cx}{α : Type}{enc:α->List Value}{s t:Nat}(hs:∀x,(enc x).length=s){m0 m:Mem}{e:Nat}{w:Bool}{a:Option Addr}{n c:Nat}{x:α}{l:List α}(h:CSl m0 m e w a n c ((x::l).flatMap enc))(hn:(x::l).length=n)(ht:cx.un.get t=some (.slice e))(hz:dO cx e=some s) :
  ∃a',cX cx m t (.slice a n c) (some (.int .i64 (1:Int))) none none=some (.slice a' (n-1) (c-1))/\CSl m0 m e false a' (n-1) (c-1) (l.flatMap enc)/\blk a'=blk a:=by
 generalize hL:(x::l).flatMap enc=L at h;cases h with
 | nil=>simp at hn
 | empty b cc h hg=>simp at hn
 | row b n pre L hw h hr=>
  subst hL;have hn1:1<=n:=by rw[<-hn];simp
  refine⟨some ⟨b,pre.length+1*s,none⟩,eR ht hz rfl (dC (i:=1) hn1) (hr.sameSize hz) (gQ4 _),?_,rfl⟩;have e1:pre.length+1*s=(pre++enc x).length:=by rw[gR2,hs,Nat.one_mul]
  rw[e1];refine .row b (n-1) (pre++enc x) _ (fun h=>by cases h) h ?_;rw[List.append_assoc,<-List.flatMap_cons];exact hr
theorem CSl.set{α : Type}{enc:α->List Value}{s:Nat}(hs:∀x,(enc x).length=s)(h0:0<s){m0 m:Mem}{e:TypeId}{w:Bool}{a:Option Addr}{n c:Nat}{l:List α}(h:CSl m0 m e w a n c (l.flatMap enc))(hl:l.length=n){i:Nat}{v v':α}(hv:l[i]? = some v){k:Nat}{vs:List Value}(hk:k+vs.length<=s)(he:over (enc v) k vs=enc v')(hfl:m.fl<=m0.nx) :
  ∃b o,a=some ⟨b,o,none⟩/\okW m b (o+Int.toNat (i:Int)*s+k) vs.length/\CSl m0 (wr m b (o+Int.toNat (i:Int)*s+k) vs) e w a n c ((l.set i v').flatMap enc):=by
 have hi:=(gQ1 hv).1;have hi2:(i+1)*s<=l.length*s:=Nat.mul_le_mul_right _ hi;rw[Nat.succ_mul]at hi2;have hfll:=dm hs l;generalize hL:l.flatMap enc=L at h;cases h with
 | nil=>rw[hl]at hi;omega
 | empty b cc h hg=>rw[hl]at hi;omega
 | row b n pre L hw h hr=>
  subst hL;rw[Int.toNat_natCast];refine⟨b,pre.length,rfl,hr.okW (by omega) (by rw[gR2];omega),?_⟩;refine .row b n pre _ hw h ?_;have:=hr.wr (o:=pre.length+i*s+k) (vs:=vs) (by rw[gR2];omega);have e1:over (pre++l.flatMap enc) (pre.length+i*s+k) vs=pre++over (l.flatMap enc) (i*s+k) vs:=by
   unfold over;rw[List.take_append,List.drop_append,List.take_of_length_le (by omega),List.drop_eq_nil_of_le («as»:=pre) (by omega),List.nil_append,List.append_assoc,List.append_assoc,List.append_assoc];rw[show pre.length+i*s+k-pre.length=i*s+k by omega,show pre.length+i*s+k+vs.length-pre.length=i*s+k+vs.length by omega]
  rw[e1,AM hs h0 hv hk he]at this;exact this
inductive Lb where
 | no
 | pr
 | sv
 | lk
 | bk
 | jb (i:Nat)
 | qu (k:Nat)
structure Tys where
 S:Nat
 L:Nat
 B:Nat
 J:Nat
 I:Nat
inductive Kd where
 | rd
 | own (w:Bool)
def Held{α : Type}(enc:α->List Value)(s:Nat)(m0 m:Mem)(lam:Nat->Lb)(e:Nat)(L:Lb)(κ : Kd)(a:Option Addr)(n c:Nat)(l:List α):Prop:=match κ with
 | .rd=>Arr enc s m a n l/\(l≠[]->∀b∈blk a,lam b = .pr)
 | .own w=>CSl m0 m e w a n c (l.flatMap enc)/\(∀b∈blk a,lam b=L)/\l.length=n
theorem Arr.fr'{α : Type}{enc:α->List Value}{s:Nat}{m m':Mem}{S:List Nat}{a:Option Addr}{n:Nat}{l:List α}(h:Arr enc s m a n l)(hw:Wf m)(f:Fr m m' S)(hS:l≠[]->∀b∈blk a,b∉S):Arr enc s m' a n l:=by
 cases l with
 | nil=>
  have:=h.1;simp at this;subst this;exact jm.nil
 | cons x r=>exact h.fr hw f (hS (by simp))
theorem Arr.blk_lt{α : Type}{enc:α->List Value}{s:Nat}(hs:∀x,(enc x).length=s)(h0:0<s){m:Mem}{a:Option Addr}{n:Nat}{l:List α}(h:Arr enc s m a n l)(hw:Wf m)(hl:l≠[]):∀b∈blk a,b<m.nx:=by
 cases l with
 | nil=>exact absurd rfl hl
 | cons x r=>
  obtain⟨b,o,rfl,hc⟩:=h.2 0 x rfl;intro b' hb';simp[blk]at hb';subst hb';cases he:enc x with
  | nil=>have:=hs x;rw[he]at this;simp at this;omega
  | cons u us=>exact hw.rd (hc 0 u (by rw[he];rfl))
theorem Held.arr{α : Type}{enc:α->List Value}{s:Nat}(hs:∀x,(enc x).length=s){m0 m:Mem}{lam:Nat->Lb}{e:Nat}{L:Lb}{κ : Kd}{a:Option Addr}{n c:Nat}{l:List α}(h:Held enc s m0 m lam e L κ a n c l):Arr enc s m a n l:=by
 cases κ with
 | rd=>exact h.1
 | own w=>exact h.1.arr hs h.2.2
theorem Held.fr{α : Type}{enc:α->List Value}{s:Nat}{m0 m m':Mem}{S:List Nat}{lam:Nat->Lb}{e:Nat}{L:Lb}{κ : Kd}{a:Option Addr}{n c:Nat}{l:List α}(h:Held enc s m0 m lam e L κ a n c l)(hw:Wf m)(f:Fr m m' S)(h1:∀b∈S,lam b≠.pr)(h2:∀b∈S,lam b≠L):Held enc s m0 m' lam e L κ a n c l:=by
 cases κ with
 | rd=>exact⟨h.1.fr' hw f (fun hl b hb hs=>h1 b hs (h.2 hl b hb)),h.2⟩
 | own w=>exact⟨h.1.fr hw f (fun b hb hs=>h2 b hs (h.2.1 b hb)),h.2⟩
theorem Held.relab{α : Type}{enc:α->List Value}{s:Nat}{m0 m:Mem}{lam lam':Nat->Lb}{e:Nat}{L:Lb}{κ : Kd}{a:Option Addr}{n c:Nat}{l:List α}(h:Held enc s m0 m lam e L κ a n c l)(h1:∀b,lam b = .pr->lam' b = .pr)(h2:∀b,lam b=L->lam' b=L):Held enc s m0 m lam' e L κ a n c l:=by
 cases κ with
 | rd=>exact⟨h.1,fun hl b hb=>h1 b (h.2 hl b hb)⟩
 | own w=>exact⟨h.1,fun b hb=>h2 b (h.2.1 b hb),h.2.2⟩
structure DpJob (m:Mem) (lam:Nat->Lb) (v:JV) (j:pm.Job):Prop where
 num:v.num=j.num
 at_:v.at_=j.at_
 done:v.done=j.done
 prog:Arr encP 2 m v.pa v.pn j.prog
 lab:j.prog≠[]->∀b∈blk v.pa,lam b = .pr
structure DpServ (v:SV) (x:pm.Serv):Prop where
 id:v.id=x.id
 s:v.s=x.s
 sec:v.sec=x.sec
 held:v.held=x.held
 num:v.num=x.num
 ran:v.ran=x.ran
structure DpLock (v:LV) (l:pm.Lock):Prop where
 most:v.most=l.most
 holder:v.holder=l.holder
 dead:v.dead=l.dead
def il{α : Type}(f:Nat->α)(i:Nat)(a:α):Nat->α:=fun k=>if k=i then a else f k
@[simp] theorem fy {α : Type} (f:Nat->α) (i:Nat) (a:α):il f i a i=a:=by simp[il]
theorem eV{α : Type}{f:Nat->α}{i k:Nat}{a:α}(h:k≠i):il f i a k=f k:=by simp[il,h]
structure Ow (T:Tys) (wj wq:Nat->Kd) (m0 m:Mem) (lam:Nat->Lb) (a1:Option Addr) (n1 c1:Nat) (a2:Option Addr) (n2 c2:Nat) (a3:Option Addr) (n3 c3:Nat) (ss:List SV) (js:Nat->List JV) (ls:List LV) (qs:Nat->List Int) (σ : pm.St):Prop where
 keep:Keep m0 m
 fl0:m0.fl<=m0.nx
 lab:∀b,lam b≠.no->b<m.nx
 new:∀b,lam b≠.pr->m0.nx<=b
 s1:CSl m0 m T.S true a1 n1 c1 (ss.flatMap encS)
 s1l:∀b∈blk a1,lam b = .sv
 s1n:ss.length=n1
 s1d:σ.servs.length=n1
 s2:CSl m0 m T.L true a2 n2 c2 (ls.flatMap encL)
 s2l:∀b∈blk a2,lam b = .lk
 s2n:ls.length=n2
 s2d:σ.sems.length=n2
 s3:CSl m0 m T.B true a3 n3 c3 (σ.backs.flatMap encB)
 s3l:∀b∈blk a3,lam b = .bk
 s3n:σ.backs.length=n3
 jb:∀i v,ss[i]? = some v->Held encJ 4 m0 m lam T.J (.jb i) (wj i) v.ja v.jn v.jc (js i)
 qu:∀k v,ls[k]? = some v->Held encI 1 m0 m lam T.I (.qu k) (wq k) v.qa v.qn v.qc (qs k)
 ds:∀i v x,ss[i]? = some v->σ.servs[i]? = some x->DpServ v x/\All2 (DpJob m lam) (js i) x.jobs
 dl:∀k v l,ls[k]? = some v->σ.sems[k]? = some l->DpLock v l/\qs k=l.queue
section
variable {T:Tys} {wj wq:Nat->Kd} {m0 m m':Mem} {lam:Nat->Lb} {a1 a2 a3:Option Addr} {n1 c1 n2 c2 n3 c3:Nat} {ss:List SV} {js:Nat->List JV} {ls:List LV} {qs:Nat->List Int} {σ : pm.St}
theorem DpJob.fr{S:List Nat}{v:JV}{j:pm.Job}(h:DpJob m lam v j)(hw:Wf m)(f:Fr m m' S)(hS:∀b∈S,lam b≠.pr):DpJob m' lam v j:=
 ⟨h.num,h.at_,h.done,h.prog.fr' hw f fun hl b hb hs=>hS b hs (h.lab hl b hb),h.lab⟩
theorem Ow.fr{S:List Nat}(h:Ow T wj wq m0 m lam a1 n1 c1 a2 n2 c2 a3 n3 c3 ss js ls qs σ)(hw':Wf m')(f:Fr m m' S)(hS:∀b∈S,lam b = .no):Ow T wj wq m0 m' lam a1 n1 c1 a2 n2 c2 a3 n3 c3 ss js ls qs σ:=by
 have hw:=h.keep.wf;have ne:∀{b:Nat} {L:Lb},lam b=L->L≠.no->b∉S:=fun e hn hs=>hn (by rw[<-e,hS _ hs])
 refine { h with keep:=Keep.of_fr h.keep hw' f (fun b hb=>h.new b (by rw[hS b hb];simp)),lab:=fun b hb=>Nat.lt_of_lt_of_le (h.lab b hb) f.nx,s1:=h.s1.fr hw f (fun b hb=>ne (h.s1l b hb) (by simp)),s2:=h.s2.fr hw f (fun b hb=>ne (h.s2l b hb) (by simp)),s3:=h.s3.fr hw f (fun b hb=>ne (h.s3l b hb) (by simp)),jb:=fun i v hv=>?_,qu:=fun k v hv=>?_,ds:=fun i v x hv hx=>?_ }
 .exact(h.jb i v hv).fr hw f (fun b hb=>by rw[hS b hb];simp) (fun b hb=>by rw[hS b hb];simp)
 .exact(h.qu k v hv).fr hw f (fun b hb=>by rw[hS b hb];simp) (fun b hb=>by rw[hS b hb];simp)
 .obtain⟨p,q⟩:=h.ds i v x hv hx;exact⟨p,q.imp fun _ _ r=>r.fr hw f (fun b hb=>by rw[hS b hb];simp)⟩
theorem Ow.then(h:Ow T wj wq m0 m lam a1 n1 c1 a2 n2 c2 a3 n3 c3 ss js ls qs σ)(k:Keep m m'):Ow T wj wq m0 m' lam a1 n1 c1 a2 n2 c2 a3 n3 c3 ss js ls qs σ:=
 h.fr k.wf (k.fr []) (fun _ h=>by cases h)
theorem Ow.own(h:Ow T wj wq m0 m lam a1 n1 c1 a2 n2 c2 a3 n3 c3 ss js ls qs σ){b0:Nat}{L:Lb}(hb0:lam b0 = .no)(hlt:b0<m.nx):Ow T wj wq m0 m (il lam b0 L) a1 n1 c1 a2 n2 c2 a3 n3 c3 ss js ls qs σ:=by
 have ne:∀{b:Nat} {L':Lb},lam b=L'->L'≠.no->il lam b0 L b=L':=fun{b L'} e hn=>by
  rw[eV (fun h=>by subst h;rw[hb0]at e;exact hn e.symm)];exact e
 refine { h with lab:=fun b hb=>?_,new:=fun b hb=>?_,s1l:=fun b hb=>ne (h.s1l b hb) (by simp),s2l:=fun b hb=>ne (h.s2l b hb) (by simp),s3l:=fun b hb=>ne (h.s3l b hb) (by simp),jb:=fun i v hv=>?_,qu:=fun k v hv=>?_,ds:=fun i v x hv hx=>?_ }
 .by_cases e:b=b0
  .subst e;exact hlt
  .rw[eV e]at hb;exact h.lab b hb
 .by_cases e:b=b0
  .subst e;exact h.new b (by rw[hb0];simp)
  .rw[eV e]at hb;exact h.new b hb
 .exact(h.jb i v hv).relab (fun b e=>ne e (by simp)) (fun b e=>ne e (by simp))
 .exact(h.qu k v hv).relab (fun b e=>ne e (by simp)) (fun b e=>ne e (by simp))
 .obtain⟨p,q⟩:=h.ds i v x hv hx;exact⟨p,q.imp fun _ _ r=>⟨r.num,r.at_,r.done,r.prog,fun hl b hb=>ne (r.lab hl b hb) (by simp)⟩⟩
theorem Ow.reads{cx:Cx}{M now:Int}(h:Ow T wj wq m0 m lam a1 n1 c1 a2 n2 c2 a3 n3 c3 ss js ls qs σ)(hM:M = σ.m)(hn:now = σ.now)(hz:dO cx T.B=some 2):RdSt cx m M now a1 n1 a2 n2 a3 n3 c3 σ:=by
 refine⟨hM,hn,⟨ss,h.s1.arr fJ h.s1n,All2.of (by rw[h.s1n,h.s1d]) fun i v x hv hx=>?_⟩,⟨ls,h.s2.arr nz h.s2n,All2.of (by rw[h.s2n,h.s2d]) fun k v l hv hl=>?_⟩,h.s3.arr fI h.s3n,⟨by rw[h.s3.cap];exact gQ4 _,?_⟩⟩
 .obtain⟨p,q⟩:=h.ds i v x hv hx;exact⟨p.id,p.s,p.sec,p.held,p.num,p.ran,js i,(h.jb i v hv).arr fh,q.imp fun _ _ r=>⟨r.num,r.at_,r.done,r.prog⟩⟩
 .obtain⟨p,q⟩:=h.dl k v l hv hl;exact⟨p.most,p.holder,p.dead,by rw[<-q];exact(h.qu k v hv).arr dV⟩
 .have:=h.s3;generalize σ.backs.flatMap encB=L at this;cases this with
  | nil=>exact .inl rfl
  | empty b cc h1 h2=>exact .inr ⟨b,0,_,rfl,h2,by unfold sameSize;rw[h2]⟩
  | row b n pre l hw h1 h2=>
   obtain⟨c',h3,_⟩:=id h2;exact .inr ⟨b,_,_,rfl,h3,h2.sameSize hz⟩
theorem Ow.atS(h:Ow T wj wq m0 m lam a1 n1 c1 a2 n2 c2 a3 n3 c3 ss js ls qs σ){i:Nat}{v:SV}(hv:ss[i]? = some v) :
  ∃b o,a1=some ⟨b,o,none⟩/\lam b = .sv/\∀k u,(encS v)[k]? = some u->rd m b (o+Int.toNat (i:Int)*11+k)=some u:=by
 obtain⟨b,o,e,hc⟩:=(h.s1.arr fJ h.s1n).2 i v hv;exact⟨b,o,e,h.s1l b (by rw[e];simp[blk]),fun k u hu=>by rw[Int.toNat_natCast];exact hc k u hu⟩
theorem Ow.atL(h:Ow T wj wq m0 m lam a1 n1 c1 a2 n2 c2 a3 n3 c3 ss js ls qs σ){i:Nat}{v:LV}(hv:ls[i]? = some v) :
  ∃b o,a2=some ⟨b,o,none⟩/\lam b = .lk/\∀k u,(encL v)[k]? = some u->rd m b (o+Int.toNat (i:Int)*4+k)=some u:=by
 obtain⟨b,o,e,hc⟩:=(h.s2.arr nz h.s2n).2 i v hv;exact⟨b,o,e,h.s2l b (by rw[e];simp[blk]),fun k u hu=>by rw[Int.toNat_natCast];exact hc k u hu⟩
theorem Ow.setS(h:Ow T wj wq m0 m lam a1 n1 c1 a2 n2 c2 a3 n3 c3 ss js ls qs σ){b o i k:Nat}{v v':SV}{vs:List Value}{x':pm.Serv}{js':List JV}{κ : Kd}(hv:ss[i]? = some v)(hab:a1=some ⟨b,o,none⟩)(hk:k+vs.length<=11)(he:over (encS v) k vs=encS v')
  (hj:Held encJ 4 m0 m lam T.J (.jb i) κ v'.ja v'.jn v'.jc js') (hd:DpServ v' x'/\All2 (DpJob m lam) js' x'.jobs) :
  okW m b (o+Int.toNat (i:Int)*11+k) vs.length/\Ow T (il wj i κ) wq m0 (wr m b (o+Int.toNat (i:Int)*11+k) vs) lam a1 n1 c1 a2 n2 c2 a3 n3 c3 (ss.set i v') (il js i js') ls qs { σ with servs:=σ.servs.set i x' }:=by
 have hw:=h.keep.wf;obtain⟨b',o',e,hok,hc⟩:=h.s1.set fJ (by omega) h.s1n hv hk he (by have:=h.keep.fl;have:=h.fl0;omega);rw[hab]at e;cases e;refine⟨hok,?_⟩;have hlb:lam b = .sv:=h.s1l b (by rw[hab];simp[blk]);have hnb:m0.nx<=b:=h.new b (by rw[hlb];simp);have f:Fr m (wr m b (o+Int.toNat (i:Int)*11+k) vs) [b]:=(Fr.refl m _).wr (.inl (by simp));have ne:∀{b':Nat} {L:Lb},lam b'=L->L≠.sv->b'∉[b]:=fun e hn hs=>hn (by rw[<-e,List.mem_singleton.1 hs,hlb])
 have nb:∀b'∈[b],lam b'≠.pr:=fun b' hb'=>by rw[List.mem_singleton.1 hb',hlb];simp
 have hi:=(gQ1 hv).1;refine { h with keep:=h.keep.wr hnb,lab:=fun b hb=>by simpa using h.lab b hb,s1:=hc,s1n:=by rw[List.length_set];exact h.s1n,s1d:=by simpa using h.s1d,s2:=h.s2.fr hw f (fun b hb=>ne (h.s2l b hb) (by simp)),s3:=h.s3.fr hw f (fun b hb=>ne (h.s3l b hb) (by simp)),jb:=fun j u hu=>?_,qu:=fun k u hu=>?_,ds:=fun j u x hu hx=>?_ }
 .by_cases e:j=i
  .subst e;rw[List.getElem?_set]at hu;simp[hi]at hu;subst hu;rw[fy,fy];exact hj.fr hw f nb (fun b' hb'=>by rw[List.mem_singleton.1 hb',hlb];simp)
  .rw[List.getElem?_set,if_neg (fun h=>e h.symm)]at hu;rw[eV e,eV e];exact(h.jb j u hu).fr hw f nb (fun b' hb'=>by rw[List.mem_singleton.1 hb',hlb];simp)
 .exact(h.qu k u hu).fr hw f nb (fun b' hb'=>by rw[List.mem_singleton.1 hb',hlb];simp)
 .by_cases e:j=i
  .subst e;rw[List.getElem?_set]at hu;simp[hi]at hu;subst hu;have hi2:j < σ.servs.length:=by rw[h.s1d,<-h.s1n];exact hi
   simp only[List.getElem?_set,if_true,hi2]at hx;cases hx;rw[fy];exact⟨hd.1,hd.2.imp fun _ _ r=>r.fr hw f nb⟩
  .rw[List.getElem?_set,if_neg (fun h=>e h.symm)]at hu;simp only[List.getElem?_set,if_neg (fun h=>e h.symm:¬i=j)]at hx;obtain⟨p,q⟩:=h.ds j u x hu hx;rw[eV e];exact⟨p,q.imp fun _ _ r=>r.fr hw f nb⟩
theorem Ow.setL(h:Ow T wj wq m0 m lam a1 n1 c1 a2 n2 c2 a3 n3 c3 ss js ls qs σ){b o i k:Nat}{v v':LV}{vs:List Value}{x':pm.Lock}{qs':List Int}{κ : Kd}(hv:ls[i]? = some v)(hab:a2=some ⟨b,o,none⟩)(hk:k+vs.length<=4)(he:over (encL v) k vs=encL v')
  (hj:Held encI 1 m0 m lam T.I (.qu i) κ v'.qa v'.qn v'.qc qs') (hd:DpLock v' x'/\qs'=x'.queue) :
  okW m b (o+Int.toNat (i:Int)*4+k) vs.length/\Ow T wj (il wq i κ) m0 (wr m b (o+Int.toNat (i:Int)*4+k) vs) lam a1 n1 c1 a2 n2 c2 a3 n3 c3 ss js (ls.set i v') (il qs i qs') { σ with sems:=σ.sems.set i x' }:=by
 have hw:=h.keep.wf;obtain⟨b',o',e,hok,hc⟩:=h.s2.set nz (by omega) h.s2n hv hk he (by have:=h.keep.fl;have:=h.fl0;omega);rw[hab]at e;cases e;refine⟨hok,?_⟩;have hlb:lam b = .lk:=h.s2l b (by rw[hab];simp[blk]);have hnb:m0.nx<=b:=h.new b (by rw[hlb];simp);have f:Fr m (wr m b (o+Int.toNat (i:Int)*4+k) vs) [b]:=(Fr.refl m _).wr (.inl (by simp));have ne:∀{b':Nat} {L:Lb},lam b'=L->L≠.lk->b'∉[b]:=fun e hn hs=>hn (by rw[<-e,List.mem_singleton.1 hs,hlb])
 have nb:∀b'∈[b],lam b'≠.pr:=fun b' hb'=>by rw[List.mem_singleton.1 hb',hlb];simp
 have hi:=(gQ1 hv).1;refine { h with keep:=h.keep.wr hnb,lab:=fun b hb=>by simpa using h.lab b hb,s2:=hc,s2n:=by rw[List.length_set];exact h.s2n,s2d:=by simpa using h.s2d,s1:=h.s1.fr hw f (fun b hb=>ne (h.s1l b hb) (by simp)),s3:=h.s3.fr hw f (fun b hb=>ne (h.s3l b hb) (by simp)),qu:=fun j u hu=>?_,jb:=fun k u hu=>?_,dl:=fun j u x hu hx=>?_,ds:=fun j u x hu hx=>?_ }
 .exact(h.jb k u hu).fr hw f nb (fun b' hb'=>by rw[List.mem_singleton.1 hb',hlb];simp)
 .by_cases e:j=i
  .subst e;rw[List.getElem?_set]at hu;simp[hi]at hu;subst hu;rw[fy,fy];exact hj.fr hw f nb (fun b' hb'=>by rw[List.mem_singleton.1 hb',hlb];simp)
  .rw[List.getElem?_set,if_neg (fun h=>e h.symm)]at hu;rw[eV e,eV e];exact(h.qu j u hu).fr hw f nb (fun b' hb'=>by rw[List.mem_singleton.1 hb',hlb];simp)
 .obtain⟨p,q⟩:=h.ds j u x hu hx;exact⟨p,q.imp fun _ _ r=>r.fr hw f nb⟩
 .by_cases e:j=i
  .subst e;rw[List.getElem?_set]at hu;simp[hi]at hu;subst hu;have hi2:j < σ.sems.length:=by rw[h.s2d,<-h.s2n];exact hi
   simp only[List.getElem?_set,if_true,hi2]at hx;cases hx;rw[fy];exact hd
  .rw[List.getElem?_set,if_neg (fun h=>e h.symm)]at hu;simp only[List.getElem?_set,if_neg (fun h=>e h.symm:¬i=j)]at hx;rw[eV e];exact h.dl j u x hu hx
theorem Ow.setJ(h:Ow T wj wq m0 m lam a1 n1 c1 a2 n2 c2 a3 n3 c3 ss js ls qs σ){b o i q k:Nat}{v:SV}{jv jv':JV}{j':pm.Job}{x:pm.Serv}{vs:List Value}{w:Bool}(hv:ss[i]? = some v)(hx:σ.servs[i]? = some x)(hjv:(js i)[q]? = some jv)(hab:v.ja=some ⟨b,o,none⟩)(hκ : wj i = .own w)
  (hk:k+vs.length<=4) (he:over (encJ jv) k vs=encJ jv') (hd:DpJob m lam jv' j') :
  okW m b (o+Int.toNat (q:Int)*4+k) vs.length/\Ow T wj wq m0 (wr m b (o+Int.toNat (q:Int)*4+k) vs) lam a1 n1 c1 a2 n2 c2 a3 n3 c3 ss (il js i ((js i).set q jv')) ls qs { σ with servs:=σ.servs.set i { x with jobs:=x.jobs.set q j' } }:=by
 have hw:=h.keep.wf;have hjb:=h.jb i v hv;rw[hκ]at hjb;obtain⟨p1,p2,p3⟩:=hjb;obtain⟨b',o',e,hok,hc⟩:=p1.set fh (by omega) p3 hjv hk he (by have:=h.keep.fl;have:=h.fl0;omega);rw[hab]at e;cases e;refine⟨hok,?_⟩;have hlb:lam b = .jb i:=p2 b (by rw[hab];simp[blk]);have hnb:m0.nx<=b:=h.new b (by rw[hlb];simp);have f:Fr m (wr m b (o+Int.toNat (q:Int)*4+k) vs) [b]:=(Fr.refl m _).wr (.inl (by simp));have ne:∀{b':Nat} {L:Lb},lam b'=L->L≠.jb i->b'∉[b]:=fun e hn hs=>hn (by rw[<-e,List.mem_singleton.1 hs,hlb])
 have nb:∀b'∈[b],lam b'≠.pr:=fun b' hb'=>by rw[List.mem_singleton.1 hb',hlb];simp
 refine { h with keep:=h.keep.wr hnb,lab:=fun b hb=>by simpa using h.lab b hb,s1d:=by simpa using h.s1d,s1:=h.s1.fr hw f (fun b hb=>ne (h.s1l b hb) (by simp)),s2:=h.s2.fr hw f (fun b hb=>ne (h.s2l b hb) (by simp)),s3:=h.s3.fr hw f (fun b hb=>ne (h.s3l b hb) (by simp)),jb:=fun j u hu=>?_,qu:=fun k u hu=>?_,ds:=fun j u y hu hy=>?_ }
 .by_cases e:j=i
  .subst e;rw[hv]at hu;cases hu;rw[fy,hκ];exact⟨hc,p2,by rw[List.length_set];exact p3⟩
  .rw[eV e];exact(h.jb j u hu).fr hw f nb (fun b' hb'=>by rw[List.mem_singleton.1 hb',hlb];simp;exact fun h=>e h.symm)
 .exact(h.qu k u hu).fr hw f nb (fun b' hb'=>by rw[List.mem_singleton.1 hb',hlb];simp)
 .by_cases e:j=i
  .subst e;rw[hv]at hu;cases hu;have hi2:=(gQ1 hx).1;simp only[List.getElem?_set,if_true,hi2]at hy;cases hy;rw[fy];obtain⟨r1,r2⟩:=h.ds j v x hv hx;exact⟨⟨r1.id,r1.s,r1.sec,r1.held,r1.num,r1.ran⟩,(All2.set hd r2 q).imp fun _ _ r=>r.fr hw f nb⟩
  .simp only[List.getElem?_set,if_neg (fun h=>e h.symm:¬i=j)]at hy;obtain⟨r1,r2⟩:=h.ds j u y hu hy;rw[eV e];exact⟨r1,r2.imp fun _ _ r=>r.fr hw f nb⟩
theorem Ow.kd{wj' wq':Nat->Kd}(h:Ow T wj wq m0 m lam a1 n1 c1 a2 n2 c2 a3 n3 c3 ss js ls qs σ)(h1:∀i,i<n1->wj i=wj' i)(h2:∀k,k<n2->wq k=wq' k):Ow T wj' wq' m0 m lam a1 n1 c1 a2 n2 c2 a3 n3 c3 ss js ls qs σ:=
 by
 refine { h with jb:=fun i v hv=>?_,qu:=fun k v hv=>?_ }
 .rw[<-h1 i (by rw[<-h.s1n];exact(gQ1 hv).1)];exact h.jb i v hv
 .rw[<-h2 k (by rw[<-h.s2n];exact(gQ1 hv).1)];exact h.qu k v hv
theorem set_self{α : Type}{l:List α}{i:Nat}{x:α}(h:l[i]? = some x):l.set i x=l:=by
 apply List.ext_getElem?;intro j;rw[List.getElem?_set];split
 .rename_i e;subst e;rw[h,if_pos (gQ1 h).1]
 .rfl
theorem Ow.ownSl(h:Ow T wj wq m0 m lam a1 n1 c1 a2 n2 c2 a3 n3 c3 ss js ls qs σ){e:Nat}{a:Option Addr}{n c:Nat}{L:List Value}{mo m2:Mem}(k:Keep m m2)(ho:OwnSl mo m2 e a n c L)(hn:m.nx<=mo.nx)(lb:Lb) :
  ∃lam',Ow T wj wq m0 m2 lam' a1 n1 c1 a2 n2 c2 a3 n3 c3 ss js ls qs σ/\(∀b∈blk a,lam' b=lb)/\(∀b,lam b≠.no->lam' b=lam b):=by
 have h2:=h.then k;have hbl:∀b∈blk a,m.nx<=b/\b<m2.nx:=fun b hb=>⟨Nat.le_trans hn (ho.blk b hb),ho.lt k.wf b hb⟩
 cases a with
 | none=>exact⟨lam,h2,(fun b hb=>by cases hb),fun b _=>rfl⟩
 | some ad=>
  obtain⟨q1,q2⟩:=hbl ad.block (by simp[blk]);have hno:lam ad.block = .no:=by
   cases hl:lam ad.block with
   | no=>rfl
   | _=>have:=h.lab ad.block (by rw[hl];simp);omega
  refine⟨il lam ad.block lb,h2.own hno q2,fun b hb=>?_,fun b hb=>?_⟩
  .simp[blk]at hb;subst hb;exact fy ..
  .rw[eV];intro e;subst e;exact hb hno
theorem Ow.cast{σ':pm.St}(h:Ow T wj wq m0 m lam a1 n1 c1 a2 n2 c2 a3 n3 c3 ss js ls qs σ)(e:σ = σ'):Ow T wj wq m0 m lam a1 n1 c1 a2 n2 c2 a3 n3 c3 ss js ls qs σ':=e▸h
end
end
end Go.AX
namespace Go.AX
open Go
noncomputable section
section
variable {T:Tys} {wj wq:Nat->Kd} {m0 m m':Mem} {lam:Nat->Lb} {a1 a2 a3:Option Addr} {n1 c1 n2 c2 n3 c3:Nat} {ss:List SV} {js:Nat->List JV} {ls:List LV} {qs:Nat->List Int} {σ : pm.St}
theorem Ow.noNew(h:Ow T wj wq m0 m lam a1 n1 c1 a2 n2 c2 a3 n3 c3 ss js ls qs σ){b:Nat}(hb:m.nx<=b):lam b = .no:=by
 cases hl:lam b with
 | no=>rfl
 | _=>have:=h.lab b (by rw[hl];simp);omega
theorem CSl.old{m00:Mem}{e:TypeId}{w:Bool}{a:Option Addr}{n c:Nat}{l:List Value}(h:CSl m0 m e w a n c l)(hn:m00.nx<=m0.nx):CSl m00 m e w a n c l:=by
 cases h with
 | nil=>exact .nil
 | empty b cc h hg=>exact .empty b cc (Nat.le_trans hn h) hg
 | row b n pre l hw h hr=>exact .row b n pre l hw (Nat.le_trans hn h) hr
theorem Held.old{m00:Mem}{α : Type}{enc:α->List Value}{s:Nat}{e:Nat}{L:Lb}{κ : Kd}{a:Option Addr}{n c:Nat}{l:List α}(h:Held enc s m0 m lam e L κ a n c l)(hn:m00.nx<=m0.nx):Held enc s m00 m lam e L κ a n c l:=by
 cases κ with
 | rd=>exact h
 | own w=>exact⟨h.1.old hn,h.2⟩
theorem Ow.old0{m00:Mem}(h:Ow T wj wq m0 m lam a1 n1 c1 a2 n2 c2 a3 n3 c3 ss js ls qs σ)(hw:Wf m00)(k:Keep m00 m0):Ow T wj wq m00 m lam a1 n1 c1 a2 n2 c2 a3 n3 c3 ss js ls qs σ:=
 { h with keep:=k.trans h.keep,fl0:=hw.1,new:=fun b hb=>Nat.le_trans k.nx (h.new b hb),s1:=h.s1.old k.nx,s2:=h.s2.old k.nx,s3:=h.s3.old k.nx,jb:=fun i v hv=>(h.jb i v hv).old k.nx,qu:=fun i v hv=>(h.qu i v hv).old k.nx }
theorem Ow.pushQ(h:Ow T wj wq m0 m lam a1 n1 c1 a2 n2 c2 a3 n3 c3 ss js ls qs σ){j b o nb:Nat}{u:LV}{l:pm.Lock}{x:Int}(hu:ls[j]? = some u)(hl:σ.sems[j]? = some l)(hab:a2=some ⟨b,o,none⟩)(hw':Wf m')(f:Fr m m' (blk u.qa))(hκ : wq j = .own true)(hnb:m.nx<=nb)(hnb2:nb<m'.nx)(hR:Row m' nb ((qs j++[x]).flatMap encI) T.I true) :
  okW m' b (o+Int.toNat (j:Int)*4+2) 1/\Ow T wj wq m0 (wr m' b (o+Int.toNat (j:Int)*4+2) [.slice (some ⟨nb,0,none⟩) (u.qn+1) (u.qn+1)]) (il lam nb (.qu j)) a1 n1 c1 a2 n2 c2 a3 n3 c3 ss js (ls.set j { u with qa:=some ⟨nb,0,none⟩,qn:=u.qn+1,qc:=u.qn+1 }) (il qs j (qs j++[x])) { σ with sems:=σ.sems.set j { l with queue:=l.queue++[x] } }:=by
 have hw:=h.keep.wf;have hHj:=h.qu j u hu;rw[hκ]at hHj;obtain⟨p1,p2,p3⟩:=hHj;have hlb:lam b = .lk:=h.s2l b (by rw[hab];simp[blk]);have hS0:∀b'∈blk u.qa,lam b' = .qu j:=p2;have hnbq:b∉blk u.qa:=fun e=>by have:=hS0 b e;rw[hlb]at this;cases this
 have hblt:b<m.nx:=h.lab b (by rw[hlb];simp);have hnb0:b≠nb:=by omega
 have s2':CSl m0 m' T.L true a2 n2 c2 (ls.flatMap encL):=h.s2.fr hw f (fun b' hb' hs=>by have h1:=h.s2l b' hb';have h2:=hS0 b' hs;rw[h1]at h2;cases h2);obtain⟨b',o',e,hok,hc⟩:=s2'.set nz (by omega) h.s2n (v':={ u with qa:=some ⟨nb,0,none⟩,qn:=u.qn+1,qc:=u.qn+1 }) (k:=2) (vs:=[.slice (some ⟨nb,0,none⟩) (u.qn+1) (u.qn+1)]) hu (by simp) rfl (by have:=h.keep.fl;have:=h.fl0;have:=f.fl;omega);rw[hab]at e;cases e;refine⟨hok,?_⟩;have f2:Fr m (wr m' b (o+Int.toNat (j:Int)*4+2) [.slice (some ⟨nb,0,none⟩) (u.qn+1) (u.qn+1)]) (b::blk u.qa):=(f.mono (S':=b::blk u.qa) (fun b' hb'=>.inl (gQ5 _ hb'))).wr (.inl (gQ9 ..));have hlab2:∀b'∈b::blk u.qa,lam b' = .lk∨lam b' = .qu j:=fun b' hb'=>by
  rcases List.mem_cons.1 hb' with e|hb'
  .subst e;exact .inl hlb
  .exact .inr (hS0 b' hb')
 have hno:lam nb = .no:=h.noNew hnb;have ne:∀{b':Nat} {L:Lb},lam b'=L->L≠.lk->L≠.qu j->b'∉b::blk u.qa:=fun e h1 h2 hs=>by
  rcases hlab2 _ hs with h|h
  .exact h1 (by rw[<-e,h])
  .exact h2 (by rw[<-e,h])
 have nb':∀b'∈b::blk u.qa,lam b'≠.pr:=fun b' hb'=>by rcases hlab2 b' hb' with h|h<;>rw[h]<;>simp
 have up:∀{b':Nat} {L:Lb},lam b'=L->L≠.no->il lam nb (.qu j) b'=L:=fun{b' L} e hn=>by
  rw[eV (fun h=>by subst h;rw[hno]at e;exact hn e.symm)];exact e
 have hkeep:Keep m0 (wr m' b (o+Int.toNat (j:Int)*4+2) [.slice (some ⟨nb,0,none⟩) (u.qn+1) (u.qn+1)]):=
  Keep.of_fr h.keep hw'.wr f2 (fun b' hb'=>h.new b' (nb' b' hb'))
 have hj:=(gQ1 hu).1;refine { keep:=hkeep,fl0:=h.fl0,lab:=fun b' hb'=>?_,new:=fun b' hb'=>?_,s1:=h.s1.fr hw f2 (fun b hb=>ne (h.s1l b hb) (by simp) (by simp)),s1l:=fun b hb=>up (h.s1l b hb) (by simp),s1n:=h.s1n,s1d:=h.s1d,s2:=hc,s2l:=fun b hb=>up (h.s2l b hb) (by simp),s2n:=by rw[List.length_set];exact h.s2n,s2d:=by simpa using h.s2d,s3:=h.s3.fr hw f2 (fun b hb=>ne (h.s3l b hb) (by simp) (by simp)),s3l:=fun b hb=>up (h.s3l b hb) (by simp),s3n:=h.s3n,jb:=fun i v hv=>?_,qu:=fun k v hv=>?_,ds:=fun i v y hv hy=>?_,dl:=fun k v y hv hy=>?_ }
 .by_cases e:b'=nb
  .subst e;simpa using hnb2
  .rw[eV e]at hb';have:=h.lab b' hb';have:=f.nx;simp;omega
 .by_cases e:b'=nb
  .subst e;have:=h.keep.nx;omega
  .rw[eV e]at hb';exact h.new b' hb'
 .exact((h.jb i v hv).fr hw f2 nb' (fun b' hb'=>by rcases hlab2 b' hb' with h|h<;>rw[h]<;>simp)).relab (fun b e=>up e (by simp)) (fun b e=>up e (by simp))
 .by_cases e:k=j
  .subst e;rw[List.getElem?_set]at hv;simp[hj]at hv;subst hv;rw[fy,hκ];refine⟨CSl.row nb (u.qn+1) [] _ (fun _=>⟨rfl,by omega⟩) (by have:=h.keep.nx;omega) ?_,fun b' hb'=>?_,?_⟩
   .exact hR.congr (ln (fun e=>hnb0 e.symm))
   .simp[blk]at hb';subst hb';exact fy ..
   .rw[gR2,p3];rfl
  .rw[List.getElem?_set,if_neg (fun h=>e h.symm)]at hv;rw[eV e];exact((h.qu k v hv).fr hw f2 nb' (fun b' hb'=>by
    rcases hlab2 b' hb' with h|h
    ·rw[h];simp
    ·rw[h];simp;exact fun h=>e h.symm)).relab (fun b e=>up e (by simp)) (fun b e=>up e (by simp))
 .obtain⟨p,q⟩:=h.ds i v y hv hy;exact⟨p,q.imp fun _ _ r=>⟨r.num,r.at_,r.done,r.prog.fr' hw f2 (fun hl b' hb' hs=>nb' b' hs (r.lab hl b' hb')),fun hl b hb=>up (r.lab hl b hb) (by simp)⟩⟩
 .by_cases e:k=j
  .subst e;rw[List.getElem?_set]at hv;simp[hj]at hv;subst hv;have hj2:k < σ.sems.length:=(gQ1 hl).1;have hy:(σ.sems.set k { l with queue:=l.queue++[x] })[k]? = some y:=hy;rw[List.getElem?_set,if_pos rfl,if_pos hj2]at hy;cases hy;obtain⟨q1,q2⟩:=h.dl k u l hu hl;rw[fy];exact⟨⟨q1.most,q1.holder,q1.dead⟩,by rw[q2]⟩
  .rw[List.getElem?_set,if_neg (fun h=>e h.symm)]at hv;have hy:(σ.sems.set j { l with queue:=l.queue++[x] })[k]? = some y:=hy;rw[List.getElem?_set,if_neg (fun h=>e h.symm)]at hy;rw[eV e];exact h.dl k v y hv hy
theorem Ow.pushJ(h:Ow T wj wq m0 m lam a1 n1 c1 a2 n2 c2 a3 n3 c3 ss js ls qs σ){i b o nb:Nat}{u:SV}{y:pm.Serv}{jv:JV}{jx:pm.Job}(hu:ss[i]? = some u)(hy:σ.servs[i]? = some y)(hab:a1=some ⟨b,o,none⟩)(hw':Wf m')(f:Fr m m' (blk u.ja))(hκ : wj i = .own true)(hnb:m.nx<=nb)(hnb2:nb<m'.nx)(hR:Row m' nb ((js i++[jv]).flatMap encJ) T.J true)(hd:DpJob m lam jv jx) :
  okW m' b (o+Int.toNat (i:Int)*11+6) 1/\Ow T wj wq m0 (wr m' b (o+Int.toNat (i:Int)*11+6) [.slice (some ⟨nb,0,none⟩) (u.jn+1) (u.jn+1)]) (il lam nb (.jb i)) a1 n1 c1 a2 n2 c2 a3 n3 c3 (ss.set i { u with ja:=some ⟨nb,0,none⟩,jn:=u.jn+1,jc:=u.jn+1 }) (il js i (js i++[jv])) ls qs { σ with servs:=σ.servs.set i { y with jobs:=y.jobs++[jx] } }:=by
 have hw:=h.keep.wf;have hHj:=h.jb i u hu;rw[hκ]at hHj;obtain⟨p1,p2,p3⟩:=hHj;have hlb:lam b = .sv:=h.s1l b (by rw[hab];simp[blk]);have hS0:∀b'∈blk u.ja,lam b' = .jb i:=p2;have hblt:b<m.nx:=h.lab b (by rw[hlb];simp);have hnb0:b≠nb:=by omega
 have s1':CSl m0 m' T.S true a1 n1 c1 (ss.flatMap encS):=h.s1.fr hw f (fun b' hb' hs=>by have h1:=h.s1l b' hb';have h2:=hS0 b' hs;rw[h1]at h2;cases h2);obtain⟨b',o',e,hok,hc⟩:=s1'.set fJ (by omega) h.s1n (v':={ u with ja:=some ⟨nb,0,none⟩,jn:=u.jn+1,jc:=u.jn+1 }) (k:=6) (vs:=[.slice (some ⟨nb,0,none⟩) (u.jn+1) (u.jn+1)]) hu (by simp) rfl (by have:=h.keep.fl;have:=h.fl0;have:=f.fl;omega);rw[hab]at e;cases e;refine⟨hok,?_⟩;have f2:Fr m (wr m' b (o+Int.toNat (i:Int)*11+6) [.slice (some ⟨nb,0,none⟩) (u.jn+1) (u.jn+1)]) (b::blk u.ja):=(f.mono (S':=b::blk u.ja) (fun b' hb'=>.inl (gQ5 _ hb'))).wr (.inl (gQ9 ..));have hlab2:∀b'∈b::blk u.ja,lam b' = .sv∨lam b' = .jb i:=fun b' hb'=>by
  rcases List.mem_cons.1 hb' with e|hb'
  .subst e;exact .inl hlb
  .exact .inr (hS0 b' hb')
 have hno:lam nb = .no:=h.noNew hnb;have ne:∀{b':Nat} {L:Lb},lam b'=L->L≠.sv->L≠.jb i->b'∉b::blk u.ja:=fun e h1 h2 hs=>by
  rcases hlab2 _ hs with h|h
  .exact h1 (by rw[<-e,h])
  .exact h2 (by rw[<-e,h])
 have nb':∀b'∈b::blk u.ja,lam b'≠.pr:=fun b' hb'=>by rcases hlab2 b' hb' with h|h<;>rw[h]<;>simp
 have up:∀{b':Nat} {L:Lb},lam b'=L->L≠.no->il lam nb (.jb i) b'=L:=fun{b' L} e hn=>by
  rw[eV (fun h=>by subst h;rw[hno]at e;exact hn e.symm)];exact e
 have hkeep:Keep m0 (wr m' b (o+Int.toNat (i:Int)*11+6) [.slice (some ⟨nb,0,none⟩) (u.jn+1) (u.jn+1)]):=
  Keep.of_fr h.keep hw'.wr f2 (fun b' hb'=>h.new b' (nb' b' hb'))
 have hj:=(gQ1 hu).1;have dp:∀{v:JV} {j:pm.Job},DpJob m lam v j->DpJob (wr m' b (o+Int.toNat (i:Int)*11+6) [.slice (some ⟨nb,0,none⟩) (u.jn+1) (u.jn+1)]) (il lam nb (.jb i)) v j:=fun r=>
  ⟨r.num,r.at_,r.done,r.prog.fr' hw f2 (fun hl b' hb' hs=>nb' b' hs (r.lab hl b' hb')),fun hl b hb=>up (r.lab hl b hb) (by simp)⟩
 refine { keep:=hkeep,fl0:=h.fl0,lab:=fun b' hb'=>?_,new:=fun b' hb'=>?_,s2:=h.s2.fr hw f2 (fun b hb=>ne (h.s2l b hb) (by simp) (by simp)),s2l:=fun b hb=>up (h.s2l b hb) (by simp),s2n:=h.s2n,s2d:=h.s2d,s1:=hc,s1l:=fun b hb=>up (h.s1l b hb) (by simp),s1n:=by rw[List.length_set];exact h.s1n,s1d:=by simpa using h.s1d,s3:=h.s3.fr hw f2 (fun b hb=>ne (h.s3l b hb) (by simp) (by simp)),s3l:=fun b hb=>up (h.s3l b hb) (by simp),s3n:=h.s3n,jb:=fun k v hv=>?_,qu:=fun k v hv=>?_,ds:=fun k v z hv hz=>?_,dl:=h.dl }
 .by_cases e:b'=nb
  .subst e;simpa using hnb2
  .rw[eV e]at hb';have:=h.lab b' hb';have:=f.nx;simp;omega
 .by_cases e:b'=nb
  .subst e;have:=h.keep.nx;omega
  .rw[eV e]at hb';exact h.new b' hb'
 .by_cases e:k=i
  .subst e;rw[List.getElem?_set]at hv;simp[hj]at hv;subst hv;rw[fy,hκ];refine⟨CSl.row nb (u.jn+1) [] _ (fun _=>⟨rfl,by omega⟩) (by have:=h.keep.nx;omega) ?_,fun b' hb'=>?_,?_⟩
   .exact hR.congr (ln (fun e=>hnb0 e.symm))
   .simp[blk]at hb';subst hb';exact fy ..
   .rw[gR2,p3];rfl
  .rw[List.getElem?_set,if_neg (fun h=>e h.symm)]at hv;rw[eV e];exact((h.jb k v hv).fr hw f2 nb' (fun b' hb'=>by
    rcases hlab2 b' hb' with h|h
    ·rw[h];simp
    ·rw[h];simp;exact fun h=>e h.symm)).relab (fun b e=>up e (by simp)) (fun b e=>up e (by simp))
 .exact((h.qu k v hv).fr hw f2 nb' (fun b' hb'=>by rcases hlab2 b' hb' with h|h<;>rw[h]<;>simp)).relab (fun b e=>up e (by simp)) (fun b e=>up e (by simp))
 .by_cases e:k=i
  .subst e;rw[List.getElem?_set]at hv;simp[hj]at hv;subst hv;have hj2:k < σ.servs.length:=(gQ1 hy).1;have hz:(σ.servs.set k { y with jobs:=y.jobs++[jx] })[k]? = some z:=hz;rw[List.getElem?_set,if_pos rfl,if_pos hj2]at hz;cases hz;obtain⟨q1,q2⟩:=h.ds k u y hu hy;rw[fy];exact⟨⟨q1.id,q1.s,q1.sec,q1.held,q1.num,q1.ran⟩,(q2.imp fun _ _ r=>dp r).append (.cons (dp hd) .nil)⟩
  .rw[List.getElem?_set,if_neg (fun h=>e h.symm)]at hv;have hz:(σ.servs.set i { y with jobs:=y.jobs++[jx] })[k]? = some z:=hz;rw[List.getElem?_set,if_neg (fun h=>e h.symm)]at hz;rw[eV e];obtain⟨q1,q2⟩:=h.ds k v z hv hz;exact⟨q1,q2.imp fun _ _ r=>dp r⟩
end
end
end Go.AX
namespace Go.AX.pm
open Go.AX
theorem fP(n:Nat):aQ n=(n:Int):=rfl
structure CF (s:Srv):Prop where
 p1:1<=s.p
 p2:s.p<=2147483648
 q1:1<=s.q
 q2:s.q<=s.p
 b1:0<=s.bud
 b2:s.bud<=s.q
 d1:0<=s.due
 d2:s.due<=4611686018427387904
 m1:0<=s.mode
 m2:s.mode<=2
 r:s.mode≠1∨0<s.bud
theorem gA{s:Srv}:ka s=true↔CF s:=by
 unfold ka pair gy;simp only[Bool.and_eq_true,fZ,Bool.or_eq_true,iw,gH];constructor
 .rintro⟨⟨a,b,c,d⟩,e,f,⟨g,h⟩,i,j,k⟩;exact⟨a,b,c,d,e,f,g,h,i,j,k⟩
 .rintro⟨a,b,c,d,e,f,g,h,i,j,k⟩;exact⟨⟨a,b,c,d⟩,e,f,⟨g,h⟩,i,j,k⟩
theorem Mv{q p:Int}:pair q p=true↔1<=p/\p<=2147483648/\1<=q/\q<=p:=by
 unfold pair;simp only[Bool.and_eq_true,fZ]
theorem jB{t:Int}:gy t=true↔0<=t/\t<=4611686018427387904:=by
 unfold gy;simp only[Bool.and_eq_true,fZ]
theorem DT{q p:Int}(h:(gi q p).2=0):CF (gi q p).1/\(gi q p).1.mode=0/\gi q p=(⟨q,p,0,0,0⟩,0):=by
 unfold gi at h ⊢;cases hp:pair q p with
 | false=>rw[hp]at h;simp at h
 | true=>
  obtain⟨a,b,c,d⟩:=Mv.1 hp;exact⟨⟨a,b,c,d,by simp,by simp;omega,by simp,by simp,by simp,by simp,.inl (by simp)⟩,rfl,rfl⟩
theorem oH{s:Srv}(p1:1<=s.p)(p2:s.p<=2147483648)(q1:1<=s.q)(q2:s.q<=s.p)(b1:0<=s.bud)(b2:s.bud<=s.q)(d1:0<=s.due)(d2:s.due<=4611686018427387904):CF (ji s)/\(ji s).mode≠0:=by
 unfold ji;cases hb:cT s.bud 0 with
 | true=>exact⟨⟨p1,p2,q1,q2,b1,b2,d1,d2,by simp,by simp,.inl (by simp)⟩,by simp⟩
 | false=>
  have:=dY.1 hb;exact⟨⟨p1,p2,q1,q2,b1,b2,d1,d2,by simp,by simp,.inr (by simp;omega)⟩,by simp⟩
theorem DU{s:Srv}(h:CF s):CF (dM s 1).1/\(s.mode≠0->(dM s 1).1.mode≠0):=by
 unfold dM;rw[gA.2 h];cases h1:(!true || (cR 1 1 || cR s.bud 1))with
 | true=>exact⟨h,fun h=>h⟩
 | false=>
  cases h2:dT s.mode 1 with
  | true=>exact⟨h,fun h=>h⟩
  | false=>
   have hb:=h.b2;simp only[Bool.not_true,Bool.false_or,Bool.or_eq_false_iff,dW]at h1;have e:de .i64 s.bud 1=s.bud-1:=eO (by omega) (by have:=h.q2;have:=h.p2;omega);have:=oH (s:={ s with bud:=de .i64 s.bud 1 }) h.p1 h.p2 h.q1 h.q2 (by rw[e];simp;omega) (by rw[e];simp;omega) h.d1 h.d2;exact⟨this.1,fun _=>this.2⟩
theorem BE{s:Srv}(h:CF s):CF (fL s).1/\(fL s).1.mode=0:=by
 unfold fL;rw[gA.2 h];cases h2:cT s.mode 0 with
 | true=>exact⟨h,eH.1 h2⟩
 | false=>exact⟨⟨h.p1,h.p2,h.q1,h.q2,h.b1,h.b2,h.d1,h.d2,by simp,by simp,.inl (by simp)⟩,rfl⟩
theorem BF{s:Srv}(h:CF s)(hm:s.mode=1):CF (eS s).1/\(eS s).1 = { s with mode:=2 }:=by
 unfold eS;rw[gA.2 h];cases h2:dT s.mode 1 with
 | true=>exact absurd hm (iw.1 h2)
 | false=>exact⟨⟨h.p1,h.p2,h.q1,h.q2,h.b1,h.b2,h.d1,h.d2,by simp,by simp,.inl (by simp)⟩,rfl⟩
theorem Mw{t d p r:Int}(h:kp t d p=(r,true)):0<=r/\r<=4611686018427387904:=by
 unfold kp at h;cases hg:gy t&&(gy d&&sx p 1 2147483648)with
 | false=>rw[hg]at h;simp at h
 | true=>
  rw[hg,cond_true]at h;simp only[Bool.and_eq_true]at hg;have hd:=jB.1 hg.2.1;cases hl:cR t d with
  | true=>rw[hl,cond_true]at h;cases h;exact hd
  | false=>
   rw[hl,cond_false]at h;unfold rh at h;cases hz:gy (bh .i64 d (io .i64 (bh .i64 (ot .i64 (de .i64 t d) p) 1) p))with
   | false=>rw[hz]at h;simp at h
   | true=>
    rw[hz,cond_true]at h;cases h;exact jB.1 hz
theorem BG{s:Srv}{now:Int}(h:CF s):CF (dE s now).1/\(s.mode≠0->(dE s now).1.mode≠0)/\(s.mode=0->(dE s now).1=s):=by
 unfold dE;rw[gA.2 h];cases h1:(!true || (cT s.mode 0 || cR now s.due))with
 | true=>exact⟨h,fun h=>h,fun _=>rfl⟩
 | false=>
  simp only[Bool.not_true,Bool.false_or,Bool.or_eq_false_iff,dY]at h1;cases h2:(kp now s.due s.p).2 with
  | false=>exact⟨h,fun h=>h,fun _=>rfl⟩
  | true=>
   have hd:=Mw (r:=(kp now s.due s.p).1) (by rw[<-h2]);have:=oH (s:={ s with bud:=s.q,due:=(kp now s.due s.p).1 }) h.p1 h.p2 h.q1 h.q2 (by have:=h.q1;simp;omega) (by simp) hd.1 hd.2;exact⟨this.1,fun _=>this.2,fun h0=>absurd h0 h1.1⟩
theorem tG{s:Srv}{now:Int}(h:(dE s now).2=false):(dE s now).1=s:=by
 unfold dE at h ⊢;cases h1:(!ka s || (cT s.mode 0 || cR now s.due))with
 | true=>rfl
 | false=>
  rw[h1,cond_false]at h;cases h2:(kp now s.due s.p).2 with
  | false=>rfl
  | true=>rw[h2]at h;simp at h
theorem IV{s:Srv}{now:Int}(h:CF s)(hn:0<=now)(hn2:now<=4611686018427387904)(hz:(gz s now).2=0):CF (gz s now).1/\(gz s now).1.mode≠0:=by
 have q1:=h.q1;have q2:=h.q2;have p2:=h.p2;have b1:=h.b1;have b2:=h.b2;have d2:=h.d2;unfold gz at hz ⊢;rw[gA.2 h,jB.2 ⟨hn,hn2⟩]at hz ⊢;simp only[Bool.not_true,Bool.or_self,cond_false]at hz ⊢;cases h1:dT s.mode 0 with
 | true=>rw[h1]at hz;simp at hz
 | false=>
  rw[h1]at hz;simp only[cond_false]at hz ⊢;cases h2:leI s.due now with
  | true=>
   rw[h2]at hz;simp only[cond_true]at hz ⊢;cases h3:(si now s.p).2 with
   | false=>rw[h3]at hz;simp at hz
   | true=>
    simp only[cond_true];have hd:0<=(si now s.p).1/\(si now s.p).1<=4611686018427387904:=by
     unfold si at h3 ⊢;cases h4:gy now&&gy s.p with
     | false=>rw[h4]at h3;simp at h3
     | true=>
      rw[h4,cond_true]at h3;rw[cond_true];unfold rh at h3 ⊢;cases h5:gy (bh .i64 now s.p)with
      | false=>rw[h5]at h3;simp at h3
      | true=>exact jB.1 h5
    exact oH (s:={ s with bud:=s.q,due:=(si now s.p).1 }) h.p1 h.p2 h.q1 h.q2 (by simp;omega) (by simp) hd.1 hd.2
  | false=>
   rw[h2]at hz;simp only[cond_false]at hz ⊢;cases h3:cR (io .i64 (fG (de .i64 s.due now) s.p) s.q) (io .i64 s.bud s.p)with
   | false=>exact oH h.p1 h.p2 h.q1 h.q2 h.b1 h.b2 h.d1 h.d2
   | true=>
    have hlt:=ki.1 h2;have e1:de .i64 s.due now=s.due-now:=eO (by omega) (by omega);have hx:0<=fG (de .i64 s.due now) s.p/\fG (de .i64 s.due now) s.p<=s.p:=by
     rw[e1];unfold fG;split<;>omega
    generalize fG (de .i64 s.due now) s.p=x at hx;have hsh:0<=(nu x s.q s.p).1/\(nu x s.q s.p).1<=s.q:=by
     unfold nu;cases h4:(sx x 0 2147483648&&(sx s.p 1 2147483648&&sx s.q 0 s.p))with
     | false=>simp;omega
     | true=>
      simp only[cond_true];have hm1:0<=x*s.q:=Int.mul_nonneg hx.1 (by omega);have hm2:x*s.q<=s.p*s.q:=Int.mul_le_mul_of_nonneg_right hx.2 (by omega);have hm3:s.p*s.q<=2147483648*2147483648:=Int.mul_le_mul p2 (by omega) (by omega) (by omega);rw[CY (by omega) (by omega)];have e2:ot .i64 (x*s.q) s.p=x*s.q / s.p:=by
       unfold ot;rw[Int.tdiv_eq_ediv_of_nonneg hm1];exact jN (by have:=Int.ediv_nonneg hm1 (show 0<=s.p by omega);omega) (by have:=Int.ediv_le_self s.p hm1;omega)
      rw[e2];refine⟨Int.ediv_nonneg hm1 (by omega),?_⟩;have h5:x*s.q / s.p<=s.p*s.q / s.p:=Int.ediv_le_ediv (by omega) hm2
      rwa [Int.mul_ediv_cancel_left _ (by omega)]at h5
    exact oH (s:={ s with bud:=(nu x s.q s.p).1 }) h.p1 h.p2 h.q1 h.q2 hsh.1 hsh.2 h.d1 h.d2
theorem rF{p:List Step}:pGood p=true↔1<=p.length/\p.length<=8/\∀s∈p,0<=s.1/\s.1<=8/\1<=s.2/\s.2<=2147483648:=by
 unfold pGood;simp only[Bool.and_eq_true,fZ,fP,Bool.not_eq_true',List.any_eq_false];have:∀s:Step,¬wV s=true↔(0<=s.1/\s.1<=8/\1<=s.2/\s.2<=2147483648):=fun s=>by
  unfold wV;simp only[Bool.not_eq_true,Bool.or_eq_false_iff,dW]
 simp only[this];constructor
 .rintro⟨a,b,c⟩;exact⟨by omega,by omega,c⟩
 .rintro⟨a,b,c⟩;exact⟨by omega,by omega,c⟩
structure JF (j:Job):Prop where
 num:1<=j.num
 prog:pGood j.prog=true
 a0:0<=j.at_
 al:j.at_<=j.prog.length
 d0:0<=j.done
 dl:j.at_=j.prog.length->j.done=0
 dn:j.at_≠j.prog.length->j.done<=j.cur.2
theorem Ku{j:Job}:oP j=true↔JF j:=by
 unfold oP;cases he:cT j.at_ (aQ j.prog.length)with
 | true=>
  have e:=eH.1 he;simp only[fP]at e;simp only[Bool.and_eq_true,Bool.not_eq_true',dW,cond_true,eH,fP];constructor
  .rintro⟨a,b,c,d,f,g⟩;exact⟨a,b,c,d,f,fun _=>g,fun h=>absurd e h⟩
  .rintro⟨a,b,c,d,f,g,_⟩;exact⟨a,b,c,d,f,g e⟩
 | false=>
  have e:=dY.1 he;simp only[fP]at e;simp only[Bool.and_eq_true,Bool.not_eq_true',dW,cond_false,fZ,fP];constructor
  .rintro⟨a,b,c,d,f,g⟩;exact⟨a,b,c,d,f,fun h=>absurd h e,fun _=>g⟩
  .rintro⟨a,b,c,d,f,_,g⟩;exact⟨a,b,c,d,f,g e⟩
structure GoodJ (k:Nat) (j:Job):Prop where
 good:JF j
 at_:j.at_<j.prog.length
 fits:∀s∈j.prog,s.1<=(k:Int)
theorem JF.step{j:Job}(h:JF j)(ha:j.at_<j.prog.length):dI j=(j.cur,true):=by
 unfold dI;rw[Ku.2 h];have:cT j.at_ (aQ j.prog.length)=false:=dY.2 (by simp only[fP];omega)
 rw[this];rfl
theorem JF.cur_mem{j:Job}(h:JF j)(ha:j.at_<j.prog.length):j.cur∈j.prog:=by
 unfold Job.cur;have h0:=h.a0;have:j.at_.toNat<j.prog.length:=by omega
 rw[List.getD_eq_getElem?_getD,gQ2 this];exact List.getElem_mem this
theorem GoodJ.step{k:Nat}{j:Job}(h:GoodJ k j):dI j=(j.cur,true):=h.good.step h.at_
theorem GoodJ.mem{k:Nat}{j:Job}(h:GoodJ k j):j.cur∈j.prog:=h.good.cur_mem h.at_
theorem GoodJ.cur{k:Nat}{j:Job}(h:GoodJ k j):0<=j.cur.1/\j.cur.1<=(k:Int)/\1<=j.cur.2/\j.cur.2<=2147483648:=by
 obtain⟨a,b,c,d⟩:=(rF.1 h.good.prog).2.2 _ h.mem;exact⟨a,h.fits _ h.mem,c,d⟩
theorem GoodJ.done{k:Nat}{j:Job}(h:GoodJ k j):0<=j.done/\j.done<=j.cur.2:=⟨h.good.d0,h.good.dn (by have:=h.at_;omega)⟩
theorem Kv{k:Nat}{j:Job}(h:GoodJ k j):GoodJ k (eY j 1).1/\(eY j 1).1.prog=j.prog/\(eY j 1).1.at_=j.at_/\(eY j 1).1.num=j.num/\(eY j 1).1.cur=j.cur/\(eY j 1).1.done=(if j.done<j.cur.2 then j.done+1 else j.done):=by
 obtain⟨d0,d1⟩:=h.done;obtain⟨_,_,c1,c2⟩:=h.cur;unfold eY;rw[h.step];simp only[Bool.not_true,cond_false];have e1:de .i64 j.cur.2 j.done=j.cur.2-j.done:=eO (by omega) (by omega);rw[e1];have e2:ke 1 0=1:=by unfold ke;simp
 rw[e2];have e3:bh .i64 j.done (fG 1 (j.cur.2-j.done))=if j.done<j.cur.2 then j.done+1 else j.done:=by
  unfold fG;split
  .rename_i h1;rw[dN (by omega) (by omega)];split<;>omega
  .rename_i h1;rw[dN (by omega) (by omega)];split<;>omega
 rw[e3];refine⟨⟨⟨h.good.num,h.good.prog,h.good.a0,h.good.al,?_,fun e=>?_,fun _=>?_⟩,h.at_,h.fits⟩,?_⟩
 .show 0<=(if j.done<j.cur.2 then j.done+1 else j.done);split<;>omega
 .have:=h.at_
  have e:j.at_=j.prog.length:=e
  omega
 .show (if j.done<j.cur.2 then j.done+1 else j.done)<=j.cur.2;split<;>omega
 .refine⟨?_,?_,?_,?_,?_⟩<;>first|rfl|trivial
theorem BC{k:Nat}{j:Job}(h:GoodJ k j)(hd:j.done=j.cur.2):(eL j).1 = { j with at_:=j.at_+1,done:=0 }/\(j.at_+1≠j.prog.length->GoodJ k (eL j).1):=by
 have a0:=h.good.a0;have al:=h.at_
 obtain⟨p1,p2,_⟩:=rF.1 h.good.prog;have e:(eL j).1 = { j with at_:=j.at_+1,done:=0 }:=by
  unfold eL;rw[h.step];have:dT j.done j.cur.2=false:=fF.2 hd;simp only[this,Bool.not_true,Bool.or_self,cond_false];rw[dN (by omega) (by omega)]
 refine⟨e,fun hne=>?_⟩;rw[e];refine⟨⟨h.good.num,h.good.prog,by simp;omega,by simp;omega,by simp,fun _=>rfl,fun _=>?_⟩,by simp;omega,h.fits⟩;have hm:(⟨j.num,j.prog,j.at_+1,0⟩:Job).cur∈j.prog:=by
  unfold Job.cur;have:(j.at_+1).toNat<j.prog.length:=by omega
  rw[List.getD_eq_getElem?_getD,gQ2 this];exact List.getElem_mem this
 have:=((rF.1 h.good.prog).2.2 _ hm).2.2.1;show (0:Int)<=_;omega
theorem DV{p:List Step}{k:Nat}:qf p k=true↔pGood p=true/\∀s∈p,s.1<=(k:Int):=by
 unfold qf;simp only[Bool.and_eq_true,Bool.not_eq_true',List.any_eq_false,Bool.not_eq_true,dW,fP]
theorem DW{k:Nat}{p:List Step}{n:Int}(h:qf p k=true)(hn:1<=n):qg n p=(⟨n,p,0,0⟩,true)/\GoodJ k ⟨n,p,0,0⟩:=by
 obtain⟨h1,h2⟩:=DV.1 h;obtain⟨p1,p2,p3⟩:=rF.1 h1;refine⟨?_,⟨hn,h1,Int.le_refl _,by simp,Int.le_refl _,fun _=>rfl,fun _=>?_⟩,by show (0:Int)<p.length;omega,h2⟩
 .unfold qg;rw[h1];have:cR n 1=false:=dW.2 hn;rw[this];rfl
 .show (0:Int)<=(Job.cur ⟨n,p,0,0⟩).2;have hm:(⟨n,p,0,0⟩:Job).cur∈p:=by
   unfold Job.cur;have:(0:Int).toNat<p.length:=by simp;omega
   rw[List.getD_eq_getElem?_getD,gQ2 this];exact List.getElem_mem this
  have:=(p3 _ hm).2.2.1;omega
end Go.AX.pm
