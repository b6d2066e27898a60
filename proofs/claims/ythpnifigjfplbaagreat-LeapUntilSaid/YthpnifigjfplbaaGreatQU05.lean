import Derived.Test.YthpnifigjfplbaaGreatQU04
namespace Go.AX
variable {cx:Cx}
theorem dz{o:Option Value}{K:Value->Prop}(h:eW o K):∃v,o=some v/\K v:=by
 cases o with
 | none=>exact h.elim
 | some v=>exact⟨v,rfl,h⟩
theorem nC{o:Option (List Value)}{K:List Value->Prop}(h:sI o K):∃v,o=some v/\K v:=by
 cases o with
 | none=>exact h.elim
 | some v=>exact⟨v,rfl,h⟩
theorem sX{p:Option Addr}{K:Nat->Nat->Prop}(h:cZ p K):∃b o,p=some ⟨b,o,none⟩/\K b o:=by
 unfold cZ at h;split at h
 .exact⟨_,_,rfl,h⟩
 .exact h.elim
theorem nD{m:Mem}{K:Mem->Prop}(h:cY m K):K m:=h m rfl
theorem zD{v:Value}{P:Prop}(h:GA v P):(AX.one1 v=true/\bQ v=[v])/\P:=by
 cases v<;>first|exact h.elim|exact⟨⟨rfl,rfl⟩,h⟩
theorem uS{b:Bool}{t e:Prop}(h:splitB b t e):(b=true/\t)∨(b=false/\e):=by
 cases b with
 | true=>exact .inl ⟨rfl,h⟩
 | false=>exact .inr ⟨rfl,h⟩
theorem GG:∀{l:List Value} {n:Nat} {P:Prop},KY l n P->l.length=n/\l.all AX.one1=true/\P
 | [],0,_,h=>⟨rfl,rfl,h⟩
 | [],n+1,_,h=>h.elim
 | v::r,0,_,h=>h.elim
 | v::r,n+1,P,h=>by
  obtain⟨⟨h1,_⟩,h2⟩:=zD (P:=KY r n P) h;obtain⟨k1,k2,k3⟩:=GG h2;exact⟨by simp[k1],by rw[List.all_cons,h1,k2];rfl,k3⟩
theorem Lf.ex_ok{l:Lf}{P:Value->Prop}(h:l.ex P):∃v,P v:=by
 cases l with
 | sl=>obtain⟨a,n,c,h⟩:=h;exact⟨_,h⟩
 | _=>obtain⟨x,h⟩:=h;exact⟨_,h⟩
theorem K1:∀{ls:List Lf} {P:List Value->Prop},PK ls P->∃vs,vs.length=ls.length/\P vs
 | [],P,h=>⟨[],rfl,h⟩
 | f::r,P,h=>by
  obtain⟨v,h1⟩:=Lf.ex_ok h;obtain⟨vs,h2,h3⟩:=K1 h1;exact⟨v::vs,by simp[h2],h3⟩
theorem Shp.ex_ok{s:Shp}{P:Value->Prop}(h:s.ex P):∃v,P v:=by
 cases s with
 | one l=>exact Lf.ex_ok h
 | agg ls=>obtain⟨vs,_,h⟩:=K1 h;exact⟨_,h⟩
 | big n=>obtain⟨vs,_,h⟩:=h;exact⟨_,h⟩
theorem Ia:∀{ls:List Shp} {P:List Value->Prop},MO ls P->∃vs,P vs
 | [],P,h=>⟨[],h⟩
 | f::r,P,h=>by
  obtain⟨v,h1⟩:=Shp.ex_ok h;obtain⟨vs,h3⟩:=Ia h1;exact⟨v::vs,h3⟩
theorem K2{m:Mem}{b o:Nat}:∀{ls:List Lf} {i:Nat} {P:List Value->Prop},PM m b o ls i P->∃vs,vs.length=ls.length/\P vs/\∀j v,vs[j]? = some v->rd m b (o+(i+j))=some v
 | [],i,P,h=>⟨[],rfl,h,fun j v e=>by simp at e⟩
 | f::r,i,P,h=>by
  obtain⟨v,h0,h1⟩:=Lf.ex_ok h;obtain⟨vs,k1,k2,k3⟩:=K2 h1;refine⟨v::vs,by simp[k1],k2,fun j x e=>?_⟩;cases j with
  | zero=>simp at e;subst e;exact h0
  | succ j=>
   have:=k3 j x (by simpa using e)
   rwa [show i+(j+1)=i+1+j by omega]
theorem OD{t:TypeId}{r:Value}{K:Value->Prop}(h:MP cx t r K):K r:=by
 unfold MP at h;split at h
 .split at h
  .obtain⟨vs,h1,h2⟩:=Ia h;rw[h1];exact h2
  .exact h.elim
 .split at h
  .obtain⟨v,h1,h2⟩:=Shp.ex_ok h;rw[h1];exact h2
  .exact h.elim
theorem zE{dst:Option Tmp}{t:TypeId}{K:Value->Mem->Prop}{r:Value}{m:Mem}(h:GF cx dst t K r m):K r m:=by
 cases dst with
 | none=>exact h
 | some d=>exact OD (K:=fun v=>K v m) h
theorem Eb{agg:Bool}{v:Value}{P:List Value->Prop}(h:GB agg v P):P (bQ v):=by
 cases agg with
 | false=>obtain⟨⟨_,h1⟩,h2⟩:=zD (P:=P [v]) h;rw[h1];exact h2
 | true=>cases v<;>first|exact h|exact h.elim
theorem dX(tm:Tr Value)(sz:Nat)(m:Mem)(x:Operand):fQ cx tm x=cU cx ⟨tm,sz,m⟩ x:=by
 cases x<;>rfl
theorem yR{tm:Tr Value}{sz:Nat}{m:Mem}:∀{l:List Operand} {P:List Value->Prop},H8 cx tm l P->∃vs,gZ cx ⟨tm,sz,m⟩ l=some vs/\P vs
 | [],P,h=>⟨[],rfl,h⟩
 | x::r,P,h=>by
  obtain⟨v,h1,h2⟩:=dz h;rw[dX tm sz m]at h1;obtain⟨vs,h3,h4⟩:=yR (sz:=sz) (m:=m) h2;exact⟨v::vs,by simp only[gZ,h1,h3],h4⟩
theorem GH{tm:Tr Value}{sz:Nat}{m:Mem}{x:Option Operand}{P:Option Value->Prop}(h:NW cx tm x P):∃v,iI cx ⟨tm,sz,m⟩ x=some v/\P v:=by
 cases x with
 | none=>exact⟨none,rfl,h⟩
 | some x=>
  obtain⟨v,h1,h2⟩:=dz h;rw[dX tm sz m]at h1;exact⟨some v,by simp only[iI,h1],h2⟩
theorem AF{m:Mem}{b o:Nat}{v:Value}(h:rd m b o=some v):∃c n,wG (m.hp.get b)=some (c,n)/\o<n/\c.get o=some v:=by
 unfold rd at h;split at h
 .rename_i c n hb;split at h
  .rename_i hlt;exact⟨c,n,hb,gQ6 hlt,h⟩
  .cases h
 .cases h
theorem zP{m:Mem}{b o:Nat}{c:Tr Value}{n:Nat}(hb:wG (m.hp.get b)=some (c,n))(ho:o<n):rd m b o=c.get o:=by
 unfold rd;rw[hb];have:Nat.blt o n=true:=gQ8 ho;simp only[this]
theorem lH{m:Mem}{b o n:Nat}:fk m ⟨b,o,none⟩ n=match wG (m.hp.get b)with
  | some (c,k)=>match Nat.ble (o+n) k with
   | true=>iG c n o
   | false=>none
  | none=>none:=by
 unfold fk;cases m.hp.get b with
 | none=>rfl
 | some o=>cases o<;>rfl
theorem oU{c:Tr Value}:∀{vs:List Value} {i:Nat},(∀j v,vs[j]? = some v->c.get (i+j)=some v)->iG c vs.length i=some vs
 | [],i,_=>rfl
 | v::r,i,h=>by
  have h0:=h 0 v rfl;have h1:=oU (c:=c) (vs:=r) (i:=i+1) (fun j x e=>by rw[show i+1+j=i+(j+1) by omega];exact h (j+1) x (by simpa using e));simp only[List.length_cons,iG];rw[Nat.add_zero]at h0;simp only[h0,h1]
theorem yS{m:Mem}{b o:Nat}{vs:List Value}(hne:vs≠[])(h:∀j v,vs[j]? = some v->rd m b (o+j)=some v):fk m ⟨b,o,none⟩ vs.length=some vs:=by
 cases vs with
 | nil=>exact(hne rfl).elim
 | cons v0 r=>
  obtain⟨c,n,hb,h1,h2⟩:=AF (h 0 v0 rfl);have hall:∀j v,(v0::r)[j]? = some v->o+j<n/\c.get (o+j)=some v:=by
   intro j v e';obtain⟨c',n',hb',k1,k2⟩:=AF (h j v e');rw[hb]at hb';cases hb';exact⟨k1,k2⟩
  have hlen:o+(v0::r).length<=n:=by
   have:=(hall r.length ((v0::r)[r.length]'(by simp)) (gQ2 (by simp))).1;simp only[List.length_cons];omega
  rw[lH];simp only[hb,gQ8 hlen];exact oU (fun j v e'=>(hall j v e').2)
theorem AQ{t:TypeId}{s:Shp}(h:Ea cx t=some s):∃d n,cx.un.get t=some d/\dO cx t=some n/\
  match s with
  | .one _=>mX d=false/\n=1
  | .agg ls=>mX d=true/\n=ls.length/\ls≠[]
  | .big k=>mX d=true/\n=k/\k≠0:=by
 unfold Ea at h;split at h
 .rename_i d n hd hn;refine⟨d,n,hd,hn,?_⟩;split at h
  .rename_i ha;split at h
   .rename_i f ls _;split at h
    .rename_i hb;cases h;exact⟨ha,(gR3 hb).symm,by simp⟩
    .cases h
   .split at h
    .cases h
    .cases h;exact⟨ha,rfl,by simp⟩
  .rename_i ha;split at h
   .rename_i hb;split at h
    .cases h;exact⟨ha,gR3 hb⟩
    .cases h
   .cases h
 .cases h
theorem GI{m:Mem}{t:TypeId}{b o:Nat}{K:Value->Prop}(h:Fx cx m t b o K):∃v,loadT cx m t ⟨b,o,none⟩=some v/\K v:=by
 unfold Fx at h;split at h
 .rename_i l hs;obtain⟨d,n,hd,hn,ha,rfl⟩:=AQ hs;obtain⟨v,h1,h2⟩:=Lf.ex_ok h;refine⟨v,?_,h2⟩;have:fk m ⟨b,o,none⟩ 1=some [v]:=yS (vs:=[v]) (by simp) (fun j x e=>by
   cases j with
   | zero=>simp at e;subst e;exact h1
   | succ j=>simp at e)
  simp only[loadT,hd,hn,ha,this]
 .rename_i ls hs;obtain⟨d,n,hd,hn,ha,rfl,hne⟩:=AQ hs;obtain⟨vs,k1,k2,k3⟩:=K2 h;refine⟨_,?_,k2⟩;have:fk m ⟨b,o,none⟩ vs.length=some vs:=yS (by intro e;subst e;exact hne (List.length_eq_zero_iff.1 k1.symm)) (fun j v e=>by have:=k3 j v e;rwa [Nat.zero_add]at this);rw[k1]at this;simp only[loadT,hd,hn,ha,this]
 .rename_i n hs;obtain⟨d,n',hd,hn,ha,rfl,hne⟩:=AQ hs;obtain⟨vs,h1,h2⟩:=h;refine⟨_,?_,h2⟩;simp only[loadT,hd,hn,ha,h1]
 .exact h.elim
theorem jf{m:Mem}{b o:Nat}{l:List Value}(h:okW m b o l.length)(h1:l.all AX.one1=true):iQ m ⟨b,o,none⟩ l=some (wr m b o l):=by
 obtain⟨hf,c,k,e,x,hb,hk⟩:=h;unfold iQ wr;simp only[hb,gQ8 hk,gQ8 hf,h1,Bool.and_self]
theorem K3{m:Mem}{t:TypeId}{b o:Nat}{v:Value}{K:Mem->Prop}(h:GC cx m t b o v K):∃m',storeT cx m t ⟨b,o,none⟩ v=some m'/\K m':=by
 unfold GC at h;split at h
 .rename_i n hn;split at h
  .split at h
   .rename_i hb;have hb':=gR3 hb;subst hb';obtain⟨⟨h1,h2⟩,h3,h4⟩:=zD h;replace h4:=nD h4;refine⟨_,?_,h4⟩;unfold storeT;simp only[hn,h2];exact jf h3 (by simp[h1])
   .exact h.elim
  .split at h
   .rename_i cs;obtain⟨h1,h2,h3,h4⟩:=GG h;replace h4:=nD h4;refine⟨_,?_,h4⟩;unfold storeT;simp only[hn,bQ,h1,Nat.beq_refl];rw[<-h1]at h3;exact jf h3 h2
   .exact h.elim
 .exact h.elim
theorem OE{op:BinOp}{k k':IntKind}{x y:Int}{K:Value->Prop}{m:Mem}{t:TypeId}(h:MQ op k k' x y K):∃v,gP cx m op t (.int k x) (.int k' y)=some v/\K v:=by
 unfold MQ at h;cases op with
 | shl=>exact⟨_,by simp[gP,pC,show ¬y<0 by omega];rfl,h.2⟩
 | shr=>exact⟨_,by simp[gP,pC,show ¬y<0 by omega];rfl,h.2⟩
 | quo=>
  simp only at h;split at h
  .exact h.elim
  .rename_i hk;exact⟨_,by simp only[gP,hk,nM,decide_eq_false h.1];rfl,h.2⟩
 | rem=>
  simp only at h;split at h
  .exact h.elim
  .rename_i hk;exact⟨_,by simp only[gP,hk,nM,decide_eq_false h.1],h.2⟩
 | _=>
  simp only at h;split at h
  .exact h.elim
  .rename_i hk
   (try simp only[cT,dT,cR,leI,Oz]at h)
   first
    | exact h.elim
    | exact⟨_,by simp only[gP,hk,nM];rfl,h⟩
    | exact⟨_,by simp only[gP,hk,nM],h⟩
theorem OF{op:BinOp}{x y:ByteArray}{K:Value->Prop}{m:Mem}{t:TypeId}(h:MR op x y K):∃v,gP cx m op t (.string x) (.string y)=some v/\K v:=by
 unfold MR at h;cases op with
 | add=>
  have e:Nat.ble (x.data.toList.length+y.data.toList.length) 140737488355328=true:=gQ8 h.1;refine⟨_,?_,h.2⟩;simp only[gP,stringOp,e];rfl
 | _=>first|exact h.elim|exact⟨_,rfl,h⟩
theorem Jj(m:Mem)(x:Option Addr):pS m x none=some x.isNone:=by
 cases x<;>rfl
theorem Ib{m:Mem}{t:TypeId}{x y:Operand}{a b:Value}{K:Bool->Prop}(h:Jd cx m t x y a b K):rs cx t x y a b=true/\(∃r,gj cx m 40 t a b=some r/\K r)/\(∀k n k' n',¬(a = .int k n/\b = .int k' n'))/\(∀s s',¬(a = .string s/\b = .string s')):=by
 unfold Jd at h;have noInt:∀{d:TypeDesc},cx.un.get t=some d->(∀k,d≠.int k)->(∃r,gj cx m 40 t a b=some r/\K r)->∀k n k' n',¬(a = .int k n/\b = .int k' n'):=by
  intro d hd hk ⟨r,hr,_⟩ k n k' n' ⟨e1,e2⟩;subst e1;subst e2;unfold gj at hr;rw[hd]at hr;cases d<;>simp at hr hk
 have noStr:∀{d:TypeDesc},cx.un.get t=some d->d≠.string->(∃r,gj cx m 40 t a b=some r/\K r)->∀s s',¬(a = .string s/\b = .string s'):=by
  intro d hd hk ⟨r,hr,_⟩ s s' ⟨e1,e2⟩;subst e1;subst e2;unfold gj at hr;rw[hd]at hr;cases d<;>simp at hr hk
 split at h
 .rename_i ms hd;split at h
  .rename_i hc;refine⟨?_,h,noInt hd (by simp) h,noStr hd (by simp) h⟩;unfold rs;split
   .split
    .rfl
    .rename_i hx;rw[hx]at hc;simp only[hd];simpa using hc
   .rename_i hr;rename_i xs ys _;exfalso;obtain⟨r,hr,_⟩:=h;unfold gj at hr;rw[hd]at hr;simp at hr
   .rfl
  .refine⟨?_,h.2,noInt hd (by simp) h.2,noStr hd (by simp) h.2⟩;unfold rs;split
   .exact(h.1 rfl rfl).elim
   .exfalso;obtain⟨_,r,hr,_⟩:=h;unfold gj at hr;rw[hd]at hr;simp at hr
   .rfl
 .rename_i fs hd;split at h
  .rename_i hf;refine⟨?_,h,noInt hd (by simp) h,noStr hd (by simp) h⟩;unfold rs;split
   .exfalso;obtain⟨r,hr,_⟩:=h;unfold gj at hr;rw[hd]at hr;simp at hr
   .simp only[hd];exact hf
   .rfl
  .exact h.elim
 .rename_i e hd;split at h
  .rename_i s hs;split at h
   .rename_i p q;have hh:∃r,gj cx m 40 t (.pointer p) (.pointer q)=some r/\K r:=by
     unfold KZ at h;split at h
     .exact⟨_,by unfold gj;rw[hd];simp only[hs];exact Jj m p,h⟩
     .obtain⟨r,h1,h2⟩:=h;exact⟨r,by unfold gj;rw[hd];simp only[hs];exact h1,h2⟩
    exact⟨rfl,hh,(fun _ _ _ _ e=>nomatch e.1),(fun _ _ e=>nomatch e.1)⟩
   .exact h.elim
  .exact h.elim
 all_goals first
  | exact h.elim
  | skip
 all_goals
  rename_i hd;refine⟨?_,h,noInt hd (by simp) h,noStr hd (by simp) h⟩;unfold rs;split
  .exfalso;obtain⟨r,hr,_⟩:=h;unfold gj at hr;rw[hd]at hr;simp at hr
  .exfalso;obtain⟨r,hr,_⟩:=h;unfold gj at hr;rw[hd]at hr;simp at hr
  .rfl
theorem Ai{m:Mem}{op:BinOp}{t:TypeId}{a b:Value}(h1:∀k n k' n',¬(a = .int k n/\b = .int k' n'))(h2:∀s s',¬(a = .string s/\b = .string s')) :
  gP cx m op t a b=match op with
  | .eql=>match gj cx m 40 t a b with
   | some b=>some (.bool b)
   | none=>none
  | .neq=>match gj cx m 40 t a b with
   | some b=>some (.bool (!b))
   | none=>none
  | _=>none:=by
 unfold gP;split
 .exact(h1 _ _ _ _ ⟨rfl,rfl⟩).elim
 .exact(h2 _ _ ⟨rfl,rfl⟩).elim
 .rfl
theorem OG{m:Mem}{op:BinOp}{t:TypeId}{x y:Operand}{a b:Value}{K:Value->Prop}(h:MS cx m op t x y a b K):sR cx op t x y a b=true/\∃v,gP cx m op t a b=some v/\K v:=by
 unfold MS at h;split at h
 .split at h
  .exact⟨by unfold sR;cases op<;>rfl,OE h⟩
  .exact h.elim
 .split at h
  .exact⟨by unfold sR;cases op<;>rfl,OF h⟩
  .exact h.elim
 .rename_i hd;split at h
  .rename_i p q;refine⟨by unfold sR;cases op<;>rfl,?_⟩;have he:gj cx m 40 t (.bool p) (.bool q)=some (p == q):=by unfold gj;rw[hd]
   cases op with
   | eql=>exact⟨_,by unfold gP;simp only[he],h⟩
   | neq=>exact⟨_,by unfold gP;simp only[he],h⟩
   | _=>exact h.elim
  .exact h.elim
 .cases op with
  | eql=>
   obtain⟨g1,⟨r,g2,g3⟩,g4,g5⟩:=Ib h;exact⟨g1,_,by rw[Ai g4 g5];simp only[g2],g3⟩
  | neq=>
   obtain⟨g1,⟨r,g2,g3⟩,g4,g5⟩:=Ib h;exact⟨g1,_,by rw[Ai g4 g5];simp only[g2],g3⟩
  | _=>exact h.elim
theorem PX{op:UnOp}{a:Value}{K:Value->Prop}(h:PS op a K):∃v,Fu op a=some v/\K v:=by
 unfold PS at h;split at h
 .exact⟨_,rfl,h⟩
 .exact⟨_,rfl,h⟩
 .exact⟨_,rfl,h⟩
 .exact h.elim
theorem uT{agg:Nat->Bool}{tm:Tr Value}{sz:Nat}{m:Mem}:∀{ps:List (Nat×Operand)} {P:List (Nat×List Value)->Prop},yQ cx agg tm ps P->∃vs,gT cx ⟨tm,sz,m⟩ ps=some vs/\P (vs.map fun x=>(x.1,bQ x.2))
 | [],P,h=>⟨[],rfl,h⟩
 | (i,x)::r,P,h=>by
  obtain⟨v,h1,h2⟩:=dz h;rw[dX tm sz m]at h1;have h3:=Eb h2;obtain⟨vs,k1,k2⟩:=uT (sz:=sz) (m:=m) h3;exact⟨(i,v)::vs,by simp only[gT,h1,k1],k2⟩
theorem uU{place:Nat->Option (Nat×Nat)}:∀{ps:List (Nat×Value)} {cells:List Value},sD place cells ps=zC place cells (ps.map fun x=>(x.1,bQ x.2))
 | [],cells=>rfl
 | (i,v)::r,cells=>by
  simp only[sD,List.map_cons,zC];cases place i with
  | none=>rfl
  | some q=>
   simp only;cases Nat.beq (bQ v).length q.2&&Nat.ble (q.1+(bQ v).length) cells.length with
   | true=>exact uU
   | false=>rfl
theorem K4{tm:Tr Value}{sz:Nat}{m:Mem}{t:TypeId}{ps:List (Nat×Operand)}{K:Value->Prop}(h:BY cx tm t ps K):∃vs v,gT cx ⟨tm,sz,m⟩ ps=some vs/\vT cx t vs=some v/\K v:=by
 unfold BY at h;split at h
 .rename_i z fs hz hd;split at h
  .rename_i pl hp;obtain⟨vs,h1,h2⟩:=uT (sz:=sz) (m:=m) h;obtain⟨l,h3,h4⟩:=nC h2;refine⟨vs,_,h1,?_,h4⟩;unfold vT;simp only[hz,hd,hp,uU,h3]
  .exact h.elim
 .rename_i z n e hz hd;split at h
  .rename_i s hs;obtain⟨vs,h1,h2⟩:=uT (sz:=sz) (m:=m) h;obtain⟨l,h3,h4⟩:=nC h2;refine⟨vs,_,h1,?_,h4⟩;unfold vT;simp only[hz,hd,hs,uU,h3]
  .exact h.elim
 .exact h.elim
theorem lq(m:Mem)(l:List Value)(e:TypeId)(x:Bool):gd m l e x=(m.nx,newO m (row l e x)):=rfl
theorem qP{call:dB}{tm:Tr Value}{sz:Nat}{o:Oper}{id:Nat}{K:Value->AObj->Prop}(h:sJ cx tm o.op id K) :
  ∃v ob,(∀m:Mem,m.nx=id->dh cx call ⟨tm,sz,m⟩ o=some (some v,newO m ob))/\K v ob:=by
 unfold sJ at h;split at h
 .rename_i e ho;obtain⟨z,h1,h2⟩:=dz h;refine⟨_,_,fun m hm=>?_,h2⟩;subst hm;unfold dh;simp only[ho,h1,lq]
 .rename_i e x ho;obtain⟨v,h1,h2⟩:=dz h;have h3:=Eb h2;refine⟨_,_,fun m hm=>?_,h3⟩;subst hm;rw[dX tm sz m]at h1;unfold dh;simp only[ho,h1,lq]
 .rename_i t n ps ho;split at h
  .rename_i e hd;split at h
   .rename_i s z hs hz;split at h
    .rename_i hc;obtain⟨vs,h1,h2⟩:=uT (sz:=sz) (m:=⟨.nil,0,0⟩) h;obtain⟨l,h3,h4⟩:=nC h2;refine⟨_,_,fun m hm=>?_,h4⟩;subst hm;have h1':gT cx ⟨tm,sz,m⟩ ps.toList=some vs:=by
      have:∀(l:List (Nat×Operand)),gT cx ⟨tm,sz,m⟩ l=gT cx ⟨tm,sz,⟨.nil,0,0⟩⟩ l:=by
       intro l
       induction l with
       | nil=>rfl
       | cons x r ih=>simp only[gT,ih];rw[<-dX tm sz m,<-dX tm sz ⟨.nil,0,0⟩]
      rw[this];exact h1
     unfold dh;simp only[ho,h1',iJ,hd,hs,hz,hc,uU,h3,lq]
    .exact h.elim
   .exact h.elim
  .exact h.elim
 .rename_i t ho;refine⟨_,_,fun m hm=>?_,h⟩;subst hm;unfold dh;simp only[ho];rfl
 .rename_i t l c ho;split at h
  .rename_i e hd;split at h
   .rename_i s z i hs hz hi;split at h
    .rename_i hc;obtain⟨a,h1,h2⟩:=dz h;obtain⟨b,h3,h4⟩:=dz h2;split at h4
     .rename_i k1 l1 k2 c1;obtain⟨⟨q1,q2,q3,q4⟩,q5⟩:=h4;refine⟨_,_,fun m hm=>?_,q5⟩;subst hm;rw[dX tm sz m]at h1 h3;unfold dh;simp only[ho,h1,h3,jp,hd,hs,hz,hi,decide_eq_true q1,decide_eq_true q2,decide_eq_true q3,gQ8 q4,Bool.true_and];simp only[hc,lq]
     .exact h4.elim
    .exact h.elim
   .exact h.elim
  .exact h.elim
 .exact h.elim
theorem Ic{t:TypeId}{o:Option Value}{K:Value->Prop}(h:Je cx t o K):∃v,o=some v/\K v:=by
 unfold Je at h;split at h
 .exact Shp.ex_ok h
 .exact h.elim
theorem Ec{t:TypeId}{ok:Bool}{o:Option Value}{K:Value->Prop}(h:BZ cx t ok o K):∃v,o=some v/\K v:=by
 unfold BZ at h;split at h
 .exact Ic h
 .split at h
  .obtain⟨v,b,h1,h2⟩:=Shp.ex_ok h;exact⟨_,h1,h2⟩
  .exact h.elim
theorem K5{m:Mem}{t:TypeId}{x:Value}{lo hi mx:Option Value}{K:Value->Prop}(h:GD cx m t x lo hi mx K):∃v,cX cx m t x lo hi mx=some v/\K v:=by
 unfold GD at h;split at h
 .obtain⟨s,h1,h2⟩:=h;exact⟨_,h1,h2⟩
 .obtain⟨a,n,c,h1,h2⟩:=h;exact⟨_,h1,h2⟩
theorem Ie{a:Option Addr}{n s:Nat}{i:Int}{K:Value->Prop}(h:MU a n s i K):∃b o,a=some ⟨b,o,none⟩/\(decide (0<=i)&&decide (i<n))=true/\K (.pointer (some ⟨b,o+i.toNat*s,none⟩)):=by
 obtain⟨⟨h1,h2⟩,h3⟩:=h;obtain⟨b,o,h4,h5⟩:=sX h3;exact⟨b,o,h4,by rw[decide_eq_true h1,decide_eq_true h2];rfl,h5⟩
theorem EZ{t:TypeId}{x ix:Value}{K:Value->Prop}(h:xg cx t x ix K):∃v,nN cx t x ix=some v/\K v:=by
 unfold xg at h;split at h
 .rename_i e hd;split at h
  .rename_i s a n c k i hs;obtain⟨b,o,h1,h2,h3⟩:=Ie h;subst h1;refine⟨_,?_,h3⟩;unfold nN;simp only[hd,hs,h2,ng]
  .exact h.elim
 .rename_i n e hd;split at h
  .rename_i s a k i hs;obtain⟨b,o,h1,h2,h3⟩:=Ie h;subst h1;refine⟨_,?_,h3⟩;unfold nN;simp only[hd,hs,h2,ng]
  .exact h.elim
 .exact h.elim
theorem E4{t:TypeId}{x:Value}{f:Nat}{K:Value->Prop}(h:xh cx t x f K):∃v,lN cx t x f=some v/\K v:=by
 unfold xh at h;split at h
 .rename_i fs hd;split at h
  .rename_i fd hf;split at h
   .rename_i s hs;split at h
    .obtain⟨b,o,h1,h2⟩:=sX h;subst h1;refine⟨_,?_,h2⟩;unfold lN;simp only[hd,hf,hs,ng]
    .exact h.elim
   .exact h.elim
  .exact h.elim
 .exact h.elim
theorem K6{t:TypeId}{x ix:Value}{K:Value->Prop}(h:GE cx t x ix K):∃v,vS cx t x ix=some v/\K v:=by
 unfold GE at h;split at h
 .rename_i hd;split at h
  .obtain⟨h0,c,h1,h2⟩:=h;refine⟨_,?_,h2⟩;unfold vS;simp only[hd,decide_eq_true h0,h1];rfl
  .exact h.elim
 .exact Ic h
theorem MX{m:Mem}{s d:TypeId}{x:Value}{K:Value->Prop}(h:Jg cx m s d x K):∃v,kK cx m s d x=some v/\K v:=by
 unfold Jg at h;split at h
 .rename_i h1 h2;split at h
  .exact⟨_,by unfold kK;simp only[h1,h2];rfl,h⟩
  .exact h.elim
 .rename_i h1 h2;split at h
  .exact⟨_,by unfold kK;simp only[h1,h2],h⟩
  .exact h.elim
 .obtain⟨r,h1,h2⟩:=h;exact⟨_,h1,h2⟩
 .exact h.elim
theorem HC{v:Value}{i:Nat}{K:Value->Prop}(h:AP v i K):∃vs r,v = .tuple vs/\vs.toList[i]? = some r/\K r:=by
 unfold AP at h;split at h
 .obtain⟨r,h1,h2⟩:=dz h;exact⟨_,r,rfl,h1,h2⟩
 .exact h.elim
theorem B1{big:Bool}:∀{r:List Value} {x:Value} {K:Value->Prop},wc big r x K->∃v,rt big x r=some v/\K v:=by
 intro r
 induction r with
 | nil=>intro x K h;cases x<;>exact⟨_,rfl,h⟩
 | cons y r ih=>
  intro x K h;cases x with
  | int k x=>
   cases y with
   | int k' y=>
    cases big with
    | true=>exact ih (x:=.int k (ke x y)) h
    | false=>exact ih (x:=.int k (fG x y)) h
   | _=>exact False.elim h
  | _=>exact False.elim h
theorem MY{m:Mem}{t:TypeId}{ts:List TypeId}{x:Value}:qF cx m (t::ts) [x]=qF cx m [t] [x]:=rfl
theorem OH{m:Mem}{t:TypeId}{ts:List TypeId}{x:Value}{K:Value->Prop}(h:MW cx m t x K):∃v,qF cx m (t::ts) [x]=some v/\K v:=by
 rw[MY];unfold MW at h;split at h
 .rename_i hd;split at h
  .exact⟨_,by unfold qF;simp only[hd];rfl,h⟩
  .exact h.elim
 .rename_i n e hd;exact⟨_,by unfold qF;simp only[hd];rfl,h⟩
 .rename_i e hd;split at h
  .exact⟨_,by unfold qF;simp only[hd];rfl,h⟩
  .exact h.elim
 .obtain⟨n,h1,h2⟩:=h;exact⟨_,h1,h2⟩
theorem Aj{m:Mem}{b:Builtin}{ts:List TypeId}{args:List Value}{K:Value->Mem->Prop}(h:xi cx m b ts args K):∃v m',ge cx m b ts args=some (v,m')/\K v m':=by
 unfold xi at h;split at h
 .obtain⟨a,n,c,m',h1,h2⟩:=h;exact⟨_,_,h1,h2⟩
 .obtain⟨x,m',h1,h2⟩:=h;exact⟨_,_,h1,h2⟩
 .split at h
  .rename_i t ts x;obtain⟨v,h1,h2⟩:=OH (ts:=ts) h;exact⟨_,_,by simp only[ge,h1],h2⟩
  .exact h.elim
 .obtain⟨x,h1,h2⟩:=h;exact⟨_,_,by simp only[ge,h1],h2⟩
 .split at h
  .obtain⟨v,h1,h2⟩:=B1 h;exact⟨_,_,by simp only[ge,h1],h2⟩
  .exact h.elim
 .split at h
  .obtain⟨v,h1,h2⟩:=B1 h;exact⟨_,_,by simp only[ge,h1],h2⟩
  .exact h.elim
 .split at h
  .obtain⟨m',h1,h2⟩:=h;exact⟨_,_,by simp only[ge,h1],h2⟩
  .exact h.elim
 .obtain⟨m',h1,h2⟩:=h;exact⟨_,_,h1,h2⟩
 .exact h.elim
theorem MZ{tm:Tr Value}{sz:Nat}{m:Mem}{dst:Option Tmp}{ty:TypeId}{c:Call}{K:Value->Mem->Prop}(h:Jh cx tm m dst ty c K):∃n v m',gq cx (dU cx (eI cx n)) ⟨tm,sz,m⟩ c=some (v,m')/\K v m':=by
 unfold Jh at h;obtain⟨args,h1,h2⟩:=yR (sz:=sz) (m:=m) h;split at h2
 .rename_i b hb;obtain⟨v,m',h3,h4⟩:=Aj h2;exact⟨0,v,m',by simp only[gq,h1,hb,h3],h4⟩
 .rename_i f hf;obtain⟨fv,h3,h4⟩:=dz h2;rw[dX tm sz m]at h3;unfold K0 at h4;split at h4
  .obtain⟨n,r,m',h5,h6⟩:=h4;refine⟨n,r,m',?_,zE h6⟩;simp only[gq,h1,hf,h3,List.append_assoc];exact h5
  .exact h4.elim
 .rename_i x name hx;obtain⟨xv,h3,h4⟩:=dz h2;rw[dX tm sz m]at h3;obtain⟨t,v,rfl,k,r,h5,n,q,m',h6,h7⟩:=h4;refine⟨n,q,m',?_,zE h7⟩;simp only[gq,h1,hx,h3,h5];exact h6
theorem PY{tm:Tr Value}{sz:Nat}{m:Mem}{o:Oper}{K:Option Value->Mem->Prop}(h:PW cx tm m o.dst o.type o.op K):∃n v m',dh cx (dU cx (eI cx n)) ⟨tm,sz,m⟩ o=some (v,m')/\K v m':=by
 cases ho:o.op with
 | move x=>
  rw[ho]at h;obtain⟨v,h1,h2⟩:=dz h;rw[dX tm sz m]at h1;exact⟨0,_,_,by unfold dh;simp only[ho,h1],h2⟩
 | assign x=>
  rw[ho]at h;obtain⟨v,h1,h2⟩:=dz h;rw[dX tm sz m]at h1;exact⟨0,_,_,by unfold dh;simp only[ho,h1],h2⟩
 | pick c x y=>
  rw[ho]at h;obtain⟨v,h1,h2⟩:=dz h;rw[dX tm sz m]at h1;split at h2
  .rcases uS h2 with⟨rfl,h3⟩|⟨rfl,h3⟩
   .obtain⟨q,h4,h5⟩:=dz h3;rw[dX tm sz m]at h4;exact⟨0,_,_,by unfold dh;simp only[ho,h1,h4],h5⟩
   .obtain⟨q,h4,h5⟩:=dz h3;rw[dX tm sz m]at h4;exact⟨0,_,_,by unfold dh;simp only[ho,h1,h4],h5⟩
  .exact h2.elim
 | build t ps=>
  rw[ho]at h;have h':BY cx tm t ps.toList (fun v=>K (some v) m):=h;obtain⟨vs,v,h1,h2,h3⟩:=K4 (sz:=sz) (m:=m) h';exact⟨0,_,_,by unfold dh;simp only[ho,h1,h2],h3⟩
 | load t a=>
  rw[ho]at h;obtain⟨v,h1,h2⟩:=dz h;rw[dX tm sz m]at h1;split at h2
  .obtain⟨b,of,h3,h4⟩:=sX h2;subst h3;obtain⟨w,h5,h6⟩:=GI h4;exact⟨0,_,_,by unfold dh;simp only[ho,h1,h5],h6⟩
  .exact h2.elim
 | store t a x=>
  rw[ho]at h;obtain⟨v,h1,h2⟩:=dz h;rw[dX tm sz m]at h1;split at h2
  .obtain⟨b,of,h3,h4⟩:=sX h2;subst h3;obtain⟨w,h5,h6⟩:=dz h4;rw[dX tm sz m]at h5;obtain⟨m',h7,h8⟩:=K3 h6;exact⟨0,_,_,by unfold dh;simp only[ho,h1,h5,h7],h8⟩
  .exact h2.elim
 | nilCheck x=>
  rw[ho]at h;obtain⟨v,h1,h2⟩:=dz h;rw[dX tm sz m]at h1;unfold PT at h2;split at h2
  .obtain⟨b,of,h3,h4⟩:=sX h2;subst h3;exact⟨0,_,_,by unfold dh;simp only[ho,h1],h4⟩
  .exact⟨0,_,_,by unfold dh;simp only[ho,h1],h2⟩
  .exact⟨0,_,_,by unfold dh;simp only[ho,h1],h2⟩
  .exact h2.elim
 | binOp op t x y u=>
  rw[ho]at h;obtain⟨a,h1,h2⟩:=dz h;obtain⟨b,h3,h4⟩:=dz h2;rw[dX tm sz m]at h1 h3;obtain⟨h5,v,h6,h7⟩:=OG h4;exact⟨0,_,_,by unfold dh;simp only[ho,h1,h3,h5,h6],h7⟩
 | unOp op t x=>
  rw[ho]at h;obtain⟨a,h1,h2⟩:=dz h;rw[dX tm sz m]at h1;obtain⟨v,h6,h7⟩:=PX h2;exact⟨0,_,_,by unfold dh;simp only[ho,h1,h6],h7⟩
 | convert s d x=>
  rw[ho]at h;obtain⟨a,h1,h2⟩:=dz h;rw[dX tm sz m]at h1;obtain⟨v,h6,h7⟩:=MX h2;exact⟨0,_,_,by unfold dh;simp only[ho,h1,h6],h7⟩
 | makeInterface t x=>
  rw[ho]at h;obtain⟨a,h1,h2⟩:=dz h;rw[dX tm sz m]at h1;split at h2
  .exact h2.elim
  .rename_i d hd hne;refine⟨0,_,_,?_,h2⟩;unfold dh;simp only[ho,h1,hne]
   try (split;· rename_i e;cases e.2;exact(hd _ rfl).elim;· rfl;· rename_i e;exact(e _ _ rfl rfl).elim)
  .exact h2.elim
 | makeFunc fn f c=>
  rw[ho]at h;obtain⟨fs,h1,h2⟩:=yR (sz:=sz) (m:=m) h;obtain⟨cs,h3,h4⟩:=yR (sz:=sz) (m:=m) h2;exact⟨0,_,_,by unfold dh;simp only[ho,h1,h3],h4⟩
 | slice t x lo hi mx=>
  rw[ho]at h;obtain⟨a,h1,h2⟩:=dz h;rw[dX tm sz m]at h1;obtain⟨lo',h3,h4⟩:=GH (sz:=sz) (m:=m) h2;obtain⟨hi',h5,h6⟩:=GH (sz:=sz) (m:=m) h4;obtain⟨mx',h7,h8⟩:=GH (sz:=sz) (m:=m) h6;obtain⟨v,h9,h10⟩:=K5 h8;exact⟨0,_,_,by unfold dh;simp only[ho,h1,h3,h5,h7,h9],h10⟩
 | fieldAddr t x f=>
  rw[ho]at h;obtain⟨a,h1,h2⟩:=dz h;rw[dX tm sz m]at h1;obtain⟨v,h6,h7⟩:=E4 h2;exact⟨0,_,_,by unfold dh;simp only[ho,h1,h6],h7⟩
 | field t x f=>
  rw[ho]at h;obtain⟨a,h1,h2⟩:=dz h;rw[dX tm sz m]at h1;obtain⟨v,h6,h7⟩:=dz h2;exact⟨0,_,_,by unfold dh;simp only[ho,h1,h6],h7⟩
 | indexAddr t x i=>
  rw[ho]at h;obtain⟨a,h1,h2⟩:=dz h;obtain⟨b,h3,h4⟩:=dz h2;rw[dX tm sz m]at h1 h3;obtain⟨v,h6,h7⟩:=EZ h4;exact⟨0,_,_,by unfold dh;simp only[ho,h1,h3,h6],h7⟩
 | index t x i=>
  rw[ho]at h;obtain⟨a,h1,h2⟩:=dz h;obtain⟨b,h3,h4⟩:=dz h2;rw[dX tm sz m]at h1 h3;obtain⟨v,h6,h7⟩:=K6 h4;exact⟨0,_,_,by unfold dh;simp only[ho,h1,h3,h6],h7⟩
 | lookup t x k ok=>
  rw[ho]at h;obtain⟨a,h1,h2⟩:=dz h;obtain⟨b,h3,h4⟩:=dz h2;rw[dX tm sz m]at h1 h3;obtain⟨v,h6,h7⟩:=Ec h4;exact⟨0,_,_,by unfold dh;simp only[ho,h1,h3,h6],h7⟩
 | mapUpdate t x k y=>
  rw[ho]at h;obtain⟨a,h1,h2⟩:=dz h;obtain⟨b,h3,h4⟩:=dz h2;obtain⟨c,h5,h6⟩:=dz h4;rw[dX tm sz m]at h1 h3 h5;obtain⟨m',h7,h8⟩:=h6;exact⟨0,_,_,by unfold dh;simp only[ho,h1,h3,h5,h7],h8⟩
 | insert t x k y=>
  rw[ho]at h;obtain⟨a,h1,h2⟩:=dz h;obtain⟨b,h3,h4⟩:=dz h2;obtain⟨c,h5,h6⟩:=dz h4;rw[dX tm sz m]at h1 h3 h5;obtain⟨m',h7,h8⟩:=h6;exact⟨0,_,_,by unfold dh;simp only[ho,h1,h3,h5,h7],h8⟩
 | mapEntry t x k=>
  rw[ho]at h;obtain⟨a,h1,h2⟩:=dz h;obtain⟨b,h3,h4⟩:=dz h2;rw[dX tm sz m]at h1 h3;split at h4
  .obtain⟨v,i,m',h7,h8⟩:=Shp.ex_ok h4;exact⟨0,_,_,by unfold dh;simp only[ho,h1,h3,h7],h8⟩
  .exact h4.elim
 | entryStore t x s y=>
  rw[ho]at h;obtain⟨a,h1,h2⟩:=dz h;obtain⟨b,h3,h4⟩:=dz h2;obtain⟨c,h5,h6⟩:=dz h4;rw[dX tm sz m]at h1 h3 h5;obtain⟨m',h7,h8⟩:=h6;exact⟨0,_,_,by unfold dh;simp only[ho,h1,h3,h5,h7],h8⟩
 | typeAssert x xT t ok=>
  rw[ho]at h;obtain⟨a,h1,h2⟩:=dz h;rw[dX tm sz m]at h1;obtain⟨v,h6,h7⟩:=Ec h2;exact⟨0,_,_,by unfold dh;simp only[ho,h1,h6],h7⟩
 | extract x i=>
  rw[ho]at h;obtain⟨a,h1,h2⟩:=dz h;rw[dX tm sz m]at h1;obtain⟨vs,r,rfl,h6,h7⟩:=HC h2;exact⟨0,_,_,by unfold dh;simp only[ho,h1,h6],h7⟩
 | call c=>
  rw[ho]at h;obtain⟨n,v,m',h1,h2⟩:=MZ (sz:=sz) h;exact⟨n,_,_,by unfold dh;simp only[ho,h1],h2⟩
 | makeMap t r=>
  cases r with
  | none=>
   have h':sJ cx tm o.op m.nx fun v ob=>cY (newO m ob) (K (some v)):=by rw[ho]at h ⊢;exact h
   obtain⟨v,ob,h1,h2⟩:=qP (call:=dU cx (eI cx 0)) (sz:=sz) h';exact⟨0,_,_,h1 m rfl,nD h2⟩
  | some r=>rw[ho]at h;exact h.elim
 | alloc e=>
  have h':sJ cx tm o.op m.nx fun v ob=>cY (newO m ob) (K (some v)):=by rw[ho]at h ⊢;exact h
  obtain⟨v,ob,h1,h2⟩:=qP (call:=dU cx (eI cx 0)) (sz:=sz) h';exact⟨0,_,_,h1 m rfl,nD h2⟩
 | box e x=>
  have h':sJ cx tm o.op m.nx fun v ob=>cY (newO m ob) (K (some v)):=by rw[ho]at h ⊢;exact h
  obtain⟨v,ob,h1,h2⟩:=qP (call:=dU cx (eI cx 0)) (sz:=sz) h';exact⟨0,_,_,h1 m rfl,nD h2⟩
 | buildSlice t n ps=>
  have h':sJ cx tm o.op m.nx fun v ob=>cY (newO m ob) (K (some v)):=by rw[ho]at h ⊢;exact h
  obtain⟨v,ob,h1,h2⟩:=qP (call:=dU cx (eI cx 0)) (sz:=sz) h';exact⟨0,_,_,h1 m rfl,nD h2⟩
 | makeSlice t l c=>
  have h':sJ cx tm o.op m.nx fun v ob=>cY (newO m ob) (K (some v)):=by rw[ho]at h ⊢;exact h
  obtain⟨v,ob,h1,h2⟩:=qP (call:=dU cx (eI cx 0)) (sz:=sz) h';exact⟨0,_,_,h1 m rfl,nD h2⟩
 | _=>rw[ho]at h;exact h.elim
end Go.AX
namespace Go.AX
variable [Kap]
variable {cx:Cx}
omit [Kap]in
theorem Ed{ops:List Oper}{tm tm1:Tr Value}{o:Oper}{run:Tr Value->Bool->Prop}(h:B0 ops tm o run)(hs:Sub tm tm1)(sz:Nat)(m:Mem) :
  ∃b tm',fa ops ⟨tm1,sz,m⟩ o=some b/\Sub tm' tm1/\run tm' b:=by
 unfold B0 at h;split at h
 .rename_i hg;exact⟨true,tm,by simp only[fa,hg],hs,h⟩
 .rename_i j want hg;split at h
  .rename_i g hj;split at h
   .rename_i d hd;split at h
    .rename_i b hb;have h1:=hs _ _ hb;rcases uS h with⟨rfl,h2⟩|⟨rfl,h2⟩
     .exact⟨want,_,by simp only[fa,hg,hj,hd,h1];cases want<;>rfl,hs.put_of h1,h2⟩
     .exact⟨!want,_,by simp only[fa,hg,hj,hd,h1];cases want<;>rfl,hs.put_of h1,h2⟩
    .rename_i c hc;have h1:=hs _ _ hc;exact⟨false,tm,by simp only[fa,hg,hj,hd,h1],hs,h⟩
    .exact h.elim
   .exact h.elim
  .exact h.elim
omit [Kap]in
theorem OI{T:Type}{d:Mem->T}{tm big:Tr Value}(hb:Sub tm big):∀{live:Live} {f:Tr Value->Mem->T} {tm0:Tr Value} {m:Mem},Sub tm0 big->
  eP live (qy live tm0 f) tm d m=d m∨∃tm',Sub tm' big/\eP live (qy live tm0 f) tm d m=f tm' m:=by
 intro live
 induction live with
 | nil=>intro f tm0 m hs;exact .inr ⟨tm0,hs,rfl⟩
 | cons x r ih=>
  intro f tm0 m hs;obtain⟨i,l⟩:=x;cases l with
  | any=>
   cases hg:tm.get i with
   | none=>exact .inl (by simp only[eP,hg])
   | some v=>
    have:=ih (f:=f) (tm0:=tm0.put i v) (m:=m) (hs.put_of (hb _ _ hg));simpa only[eP,hg,qy]using this
  | int k=>
   cases hg:tm.get i with
   | none=>exact .inl (by simp only[eP,hg])
   | some v=>
    cases v with
    | int k' x=>
     by_cases hk:k=k'
     .subst hk;have:=ih (f:=f) (tm0:=tm0.put i (.int k x)) (m:=m) (hs.put_of (hb _ _ hg));simpa only[eP,hg,qy,decide_true]using this
     .exact .inl (by simp only[eP,hg,decide_eq_false hk])
    | _=>exact .inl (by simp only[eP,hg])
  | sl=>
   cases hg:tm.get i with
   | none=>exact .inl (by simp only[eP,hg])
   | some v=>
    cases v with
    | slice a n c=>
     have:=ih (f:=f) (tm0:=tm0.put i (.slice a n c)) (m:=m) (hs.put_of (hb _ _ hg));simpa only[eP,hg,qy]using this
    | _=>exact .inl (by simp only[eP,hg])
  | bool=>
   cases hg:tm.get i with
   | none=>exact .inl (by simp only[eP,hg])
   | some v=>
    cases v with
    | bool x=>
     have:=ih (f:=f) (tm0:=tm0.put i (.bool x)) (m:=m) (hs.put_of (hb _ _ hg));simpa only[eP,hg,qy]using this
    | _=>exact .inl (by simp only[eP,hg])
  | str=>
   cases hg:tm.get i with
   | none=>exact .inl (by simp only[eP,hg])
   | some v=>
    cases v with
    | string x=>
     have:=ih (f:=f) (tm0:=tm0.put i (.string x)) (m:=m) (hs.put_of (hb _ _ hg));simpa only[eP,hg,qy]using this
    | _=>exact .inl (by simp only[eP,hg])
  | ptr=>
   cases hg:tm.get i with
   | none=>exact .inl (by simp only[eP,hg])
   | some v=>
    cases v with
    | pointer x=>
     have:=ih (f:=f) (tm0:=tm0.put i (.pointer x)) (m:=m) (hs.put_of (hb _ _ hg));simpa only[eP,hg,qy]using this
    | _=>exact .inl (by simp only[eP,hg])
  | map=>
   cases hg:tm.get i with
   | none=>exact .inl (by simp only[eP,hg])
   | some v=>
    cases v with
    | map x=>
     have:=ih (f:=f) (tm0:=tm0.put i (.map x)) (m:=m) (hs.put_of (hb _ _ hg));simpa only[eP,hg,qy]using this
    | _=>exact .inl (by simp only[eP,hg])
omit [Kap]in
theorem OJ{T:Type}{d:T}{tm big:Tr Value}(hb:Sub tm big):∀{live:Live} {J:tQ live T} {tm0:Tr Value} {F:T->Tr Value->Prop},Ah live J tm0 F->Sub tm0 big->
  eP live J tm d=d∨∃I tm',Sub tm' big/\eP live J tm d=I/\F I tm':=by
 intro live
 induction live with
 | nil=>intro J tm0 F h hs;exact .inr ⟨J,tm0,hs,rfl,h⟩
 | cons x r ih=>
  intro J tm0 F h hs;obtain⟨i,l⟩:=x;cases l with
  | any=>
   cases hg:tm.get i with
   | none=>exact .inl (by simp only[eP,hg])
   | some v=>
    have:=ih (h v) (hs.put_of (hb _ _ hg));simpa only[eP,hg]using this
  | int k=>
   cases hg:tm.get i with
   | none=>exact .inl (by simp only[eP,hg])
   | some v=>
    cases v with
    | int k' x=>
     by_cases hk:k=k'
     .subst hk;have:=ih (h x) (hs.put_of (hb _ _ hg));simpa only[eP,hg,decide_true]using this
     .exact .inl (by simp only[eP,hg,decide_eq_false hk])
    | _=>exact .inl (by simp only[eP,hg])
  | sl=>
   cases hg:tm.get i with
   | none=>exact .inl (by simp only[eP,hg])
   | some v=>
    cases v with
    | slice a n c=>
     have:=ih (h a n c) (hs.put_of (hb _ _ hg));simpa only[eP,hg]using this
    | _=>exact .inl (by simp only[eP,hg])
  | bool=>
   cases hg:tm.get i with
   | none=>exact .inl (by simp only[eP,hg])
   | some v=>
    cases v with
    | bool x=>
     have:=ih (h x) (hs.put_of (hb _ _ hg));simpa only[eP,hg]using this
    | _=>exact .inl (by simp only[eP,hg])
  | str=>
   cases hg:tm.get i with
   | none=>exact .inl (by simp only[eP,hg])
   | some v=>
    cases v with
    | string x=>
     have:=ih (h x) (hs.put_of (hb _ _ hg));simpa only[eP,hg]using this
    | _=>exact .inl (by simp only[eP,hg])
  | ptr=>
   cases hg:tm.get i with
   | none=>exact .inl (by simp only[eP,hg])
   | some v=>
    cases v with
    | pointer x=>
     have:=ih (h x) (hs.put_of (hb _ _ hg));simpa only[eP,hg]using this
    | _=>exact .inl (by simp only[eP,hg])
  | map=>
   cases hg:tm.get i with
   | none=>exact .inl (by simp only[eP,hg])
   | some v=>
    cases v with
    | map x=>
     have:=ih (h x) (hs.put_of (hb _ _ hg));simpa only[eP,hg]using this
    | _=>exact .inl (by simp only[eP,hg])
omit [Kap]in
theorem gf(n:Nat)(c:Code)(st:St):eI cx (n+1) c st=step cx (eI cx n) c st:=rfl
omit [Kap]in
theorem B2{l:List Nat}{i:Nat}(h:Dc l i=false):∀x∈l,x≠i:=by
 induction l with
 | nil=>intro x hx;cases hx
 | cons a r ih=>
  simp only[Dc]at h;split at h
  .cases h
  .rename_i hb;intro x hx;rcases List.mem_cons.1 hx with rfl|hx
   .exact Tr.beq_false.1 hb
   .exact ih h x hx
omit [Kap]in
theorem yT{keep ws:List Nat}(h:rK keep ws=true):∀i∈keep,∀x∈ws,x≠i:=by
 induction keep with
 | nil=>intro i hi;cases hi
 | cons a r ih=>
  simp only[rK]at h;split at h
  .cases h
  .rename_i hm;intro i hi;rcases List.mem_cons.1 hi with rfl|hi
   .exact B2 hm
   .exact ih h i hi
omit [Kap]in
theorem pG{tm:Tr Value}:∀{keep:List Nat} {i:Nat} {v:Value},(mQ tm keep).get i=some v->i∈keep/\tm.get i=some v
 | [],i,v,h=>by simp only[mQ]at h;rw[Tr.get_nil]at h;cases h
 | j::r,i,v,h=>by
  simp only[mQ]at h;split at h
  .rename_i x hx;rw[Tr.get_put]at h;split at h
   .rename_i e;subst e;cases h;exact⟨gQ9 ..,hx⟩
   .obtain⟨h1,h2⟩:=pG h;exact⟨gQ5 _ h1,h2⟩
  .obtain⟨h1,h2⟩:=pG h;exact⟨gQ5 _ h1,h2⟩
omit [Kap]in
theorem sK{st st':St}{dst:Option Tmp}{v:Option Value}{m:Mem}(h:gu st dst v m=some st'){i:Nat}(hi:dst≠some i):st'.tm.get i=st.tm.get i:=by
 unfold gu at h;split at h
 .cases h;rfl
 .rename_i d;split at h
  .split at h
   .cases h;show (st.tm.put d _).get i=_;rw[Tr.get_put,if_neg (fun e=>hi (by rw[e]))]
   .cases h;show (st.tm.del d).get i=_;rw[Tr.get_del,if_neg (fun e=>hi (by rw[e]))]
  .cases h
omit [Kap]in
theorem tR{call:dB}{ops:List Oper}{i:Nat}:∀{rest:List Oper} {st st':St},(∀o∈rest,o.dst≠some i)->gD cx call ops rest st=some st'->st'.tm.get i=st.tm.get i
 | [],st,st',_,h=>by cases h;rfl
 | o::r,st,st',hr,h=>by
  unfold gD at h;split at h
  .split at h
   .split at h
    .rename_i hp;rw[tR (fun o ho=>hr o (gQ5 _ ho)) h,sK hp (hr o (gQ9 ..))]
    .cases h
   .cases h
  .split at h
   .rename_i hp;rw[tR (fun o ho=>hr o (gQ5 _ ho)) h,sK hp (hr o (gQ9 ..))]
   .cases h
  .cases h
omit [Kap]in
theorem sq{call:dB}{ops:List Oper}{base i:Nat}:∀{rest:List Oper} {ss:List Nat} {k:Nat} {d:Dr} {st st':St},(∀o∈rest,o.dst≠some i)->eJ cx call ops base rest ss k d st=some st'->st'.tm.get i=st.tm.get i
 | [],ss,k,d,st,st',_,h=>by unfold eJ at h;cases h;rfl
 | o::r,[],k,d,st,st',_,h=>by unfold eJ at h;cases h
 | o::r,s::q,k,d,st,st',hr,h=>by
  unfold eJ at h;split at h
  .split at h
   .split at h
    .rename_i hp;rw[sq (fun o ho=>hr o (gQ5 _ ho)) h,sK hp (hr o (gQ9 ..))]
    .cases h
   .cases h
  .split at h
   .rename_i hp;rw[sq (fun o ho=>hr o (gQ5 _ ho)) h,sK hp (hr o (gQ9 ..))]
   .cases h
  .cases h
omit [Kap]in
theorem B3{i:Nat}:∀{n:Nat} {c:Code} {st:St} {ex:Ex} {st':St},(∀x∈iy c,x≠i)->eI cx n c st=some (ex,st')->st'.tm.get i=st.tm.get i:=by
 intro n
 induction n with
 | zero=>intro c st ex st' _ h;cases h
 | succ n ih=>
  intro c st ex st' hw h;rw[gf]at h;cases c with
  | skip=>cases h;rfl
  | label l=>cases h;rfl
  | exit id=>cases h;rfl
  | ret=>cases h;rfl
  | region id ops draw=>
   have hd:∀o∈ops.toList,o.dst≠some i:=fun o ho e=>hw i (List.mem_filterMap.2 ⟨o,ho,e⟩) rfl
   cases draw with
   | false=>
    simp only[step]at h;split at h
    .rename_i h1;cases h;exact tR hd h1
    .cases h
   | true=>
    simp only[step]at h;split at h
    .split at h
     .rename_i h1;cases h;exact(sq hd h1).trans rfl
     .cases h
    .cases h
  | seq x y=>
   have hx:∀a∈iy x,a≠i:=fun a ha=>hw a (List.mem_append.2 (.inl ha))
   have hy:∀a∈iy y,a≠i:=fun a ha=>hw a (List.mem_append.2 (.inr ha))
   simp only[step]at h;split at h
   .rename_i h1;rw[ih hy h,ih hx h1]
   .exact ih hx h
  | cond o x y=>
   have hx:∀a∈iy x,a≠i:=fun a ha=>hw a (List.mem_append.2 (.inl ha))
   have hy:∀a∈iy y,a≠i:=fun a ha=>hw a (List.mem_append.2 (.inr ha))
   simp only[step]at h;split at h
   .exact ih hx h
   .exact ih hy h
   .cases h
  | block id x=>
   simp only[step]at h;split at h
   .rename_i h1;split at h
    .cases h;exact ih (c:=x) hw h1
    .cases h;exact ih (c:=x) hw h1
   .exact ih (c:=x) hw h
  | loop x=>
   simp only[step]at h;split at h
   .rename_i h1;rw[ih (c:=.loop x) hw h,ih (c:=x) hw h1]
   .exact ih (c:=x) hw h
  | rangeFunc _ _ _ _=>simp[step]at h
  | goto _=>simp[step]at h
  | scope _=>simp[step]at h
  | refuse _=>simp[step]at h
omit [Kap]in
theorem K7{tm big st:Tr Value}{keep:List Nat}(hs:Sub tm big)(hk:∀i∈keep,st.get i=big.get i):Sub (mQ tm keep) st:=by
 intro i v h;obtain⟨h1,h2⟩:=pG h;rw[hk i h1];exact hs i v h2
end Go.AX
