import Derived.Test.YthpnifigjfplbaaGreatQP04
namespace Go.AX
variable {cx:Cx}
theorem dz{o:Option Value}{K:Value->Prop}(h:eS o K):∃v,o=some v/\K v:=by
 cases o with
 | none=>exact h.elim
 | some v=>exact⟨v,rfl,h⟩
theorem nj{o:Option (List Value)}{K:List Value->Prop}(h:su o K):∃v,o=some v/\K v:=by
 cases o with
 | none=>exact h.elim
 | some v=>exact⟨v,rfl,h⟩
theorem sJ{p:Option Addr}{K:Nat->Nat->Prop}(h:da p K):∃b o,p=some ⟨b,o,none⟩/\K b o:=by
 unfold da at h;split at h
 .exact⟨_,_,rfl,h⟩
 .exact h.elim
theorem nk{m:Mem}{K:Mem->Prop}(h:cZ m K):K m:=h m rfl
theorem zb{v:Value}{P:Prop}(h:F8 v P):(AX.one1 v=true/\bQ v=[v])/\P:=by
 cases v<;>first|exact h.elim|exact⟨⟨rfl,rfl⟩,h⟩
theorem uv{b:Bool}{t e:Prop}(h:splitB b t e):(b=true/\t)∨(b=false/\e):=by
 cases b with
 | true=>exact .inl ⟨rfl,h⟩
 | false=>exact .inr ⟨rfl,h⟩
theorem Gf:∀{l:List Value} {n:Nat} {P:Prop},Ky l n P->l.length=n/\l.all AX.one1=true/\P
 | [],0,_,h=>⟨rfl,rfl,h⟩
 | [],n+1,_,h=>h.elim
 | v::r,0,_,h=>h.elim
 | v::r,n+1,P,h=>by
  obtain⟨⟨h1,_⟩,h2⟩:=zb (P:=Ky r n P) h;obtain⟨k1,k2,k3⟩:=Gf h2;exact⟨by simp[k1],by rw[List.all_cons,h1,k2];rfl,k3⟩
theorem Lf.ex_ok{l:Lf}{P:Value->Prop}(h:l.ex P):∃v,P v:=by
 cases l with
 | sl=>obtain⟨a,n,c,h⟩:=h;exact⟨_,h⟩
 | _=>obtain⟨x,h⟩:=h;exact⟨_,h⟩
theorem KB:∀{ls:List Lf} {P:List Value->Prop},Pj ls P->∃vs,vs.length=ls.length/\P vs
 | [],P,h=>⟨[],rfl,h⟩
 | f::r,P,h=>by
  obtain⟨v,h1⟩:=Lf.ex_ok h;obtain⟨vs,h2,h3⟩:=KB h1;exact⟨v::vs,by simp[h2],h3⟩
theorem Shp.ex_ok{s:Shp}{P:Value->Prop}(h:s.ex P):∃v,P v:=by
 cases s with
 | one l=>exact Lf.ex_ok h
 | agg ls=>obtain⟨vs,_,h⟩:=KB h;exact⟨_,h⟩
 | big n=>obtain⟨vs,_,h⟩:=h;exact⟨_,h⟩
theorem HK:∀{ls:List Shp} {P:List Value->Prop},Mq ls P->∃vs,P vs
 | [],P,h=>⟨[],h⟩
 | f::r,P,h=>by
  obtain⟨v,h1⟩:=Shp.ex_ok h;obtain⟨vs,h3⟩:=HK h1;exact⟨v::vs,h3⟩
theorem KC{m:Mem}{b o:Nat}:∀{ls:List Lf} {i:Nat} {P:List Value->Prop},Pk m b o ls i P->∃vs,vs.length=ls.length/\P vs/\∀j v,vs[j]? = some v->rd m b (o+(i+j))=some v
 | [],i,P,h=>⟨[],rfl,h,fun j v e=>by simp at e⟩
 | f::r,i,P,h=>by
  obtain⟨v,h0,h1⟩:=Lf.ex_ok h;obtain⟨vs,k1,k2,k3⟩:=KC h1;refine⟨v::vs,by simp[k1],k2,fun j x e=>?_⟩;cases j with
  | zero=>simp at e;subst e;exact h0
  | succ j=>
   have:=k3 j x (by simpa using e)
   rwa [show i+(j+1)=i+1+j by omega]
theorem Oa{t:TypeId}{r:Value}{K:Value->Prop}(h:Mr cx t r K):K r:=by
 unfold Mr at h;split at h
 .split at h
  .obtain⟨vs,h1,h2⟩:=HK h;rw[h1];exact h2
  .exact h.elim
 .split at h
  .obtain⟨v,h1,h2⟩:=Shp.ex_ok h;rw[h1];exact h2
  .exact h.elim
theorem zc{dst:Option Tmp}{t:TypeId}{K:Value->Mem->Prop}{r:Value}{m:Mem}(h:Ge cx dst t K r m):K r m:=by
 cases dst with
 | none=>exact h
 | some d=>exact Oa (K:=fun v=>K v m) h
theorem DG{agg:Bool}{v:Value}{P:List Value->Prop}(h:Ga agg v P):P (bQ v):=by
 cases agg with
 | false=>obtain⟨⟨_,h1⟩,h2⟩:=zb (P:=P [v]) h;rw[h1];exact h2
 | true=>cases v<;>first|exact h|exact h.elim
theorem dW(tm:Tr Value)(sz:Nat)(m:Mem)(x:Operand):fO cx tm x=cT cx ⟨tm,sz,m⟩ x:=by
 cases x<;>rfl
theorem yp{tm:Tr Value}{sz:Nat}{m:Mem}:∀{l:List Operand} {P:List Value->Prop},HI cx tm l P->∃vs,gU cx ⟨tm,sz,m⟩ l=some vs/\P vs
 | [],P,h=>⟨[],rfl,h⟩
 | x::r,P,h=>by
  obtain⟨v,h1,h2⟩:=dz h;rw[dW tm sz m]at h1;obtain⟨vs,h3,h4⟩:=yp (sz:=sz) (m:=m) h2;exact⟨v::vs,by simp only[gU,h1,h3],h4⟩
theorem Gg{tm:Tr Value}{sz:Nat}{m:Mem}{x:Option Operand}{P:Option Value->Prop}(h:Nx cx tm x P):∃v,iA cx ⟨tm,sz,m⟩ x=some v/\P v:=by
 cases x with
 | none=>exact⟨none,rfl,h⟩
 | some x=>
  obtain⟨v,h1,h2⟩:=dz h;rw[dW tm sz m]at h1;exact⟨some v,by simp only[iA,h1],h2⟩
theorem Ag{m:Mem}{b o:Nat}{v:Value}(h:rd m b o=some v):∃c n,vZ (m.hp.get b)=some (c,n)/\o<n/\c.get o=some v:=by
 unfold rd at h;split at h
 .rename_i c n hb;split at h
  .rename_i hlt;exact⟨c,n,hb,Nat.le_of_ble_eq_true hlt,h⟩
  .cases h
 .cases h
theorem zp{m:Mem}{b o:Nat}{c:Tr Value}{n:Nat}(hb:vZ (m.hp.get b)=some (c,n))(ho:o<n):rd m b o=c.get o:=by
 unfold rd;rw[hb];have:Nat.blt o n=true:=Nat.ble_eq_true_of_le ho;simp only[this]
theorem lz{m:Mem}{b o n:Nat}:fi m ⟨b,o,none⟩ n=match vZ (m.hp.get b)with
  | some (c,k)=>match Nat.ble (o+n) k with
   | true=>iy c n o
   | false=>none
  | none=>none:=by
 unfold fi;cases m.hp.get b with
 | none=>rfl
 | some o=>cases o<;>rfl
theorem oF{c:Tr Value}:∀{vs:List Value} {i:Nat},(∀j v,vs[j]? = some v->c.get (i+j)=some v)->iy c vs.length i=some vs
 | [],i,_=>rfl
 | v::r,i,h=>by
  have h0:=h 0 v rfl;have h1:=oF (c:=c) (vs:=r) (i:=i+1) (fun j x e=>by rw[show i+1+j=i+(j+1) by omega];exact h (j+1) x (by simpa using e));simp only[List.length_cons,iy];rw[Nat.add_zero]at h0;simp only[h0,h1]
theorem yq{m:Mem}{b o:Nat}{vs:List Value}(hne:vs≠[])(h:∀j v,vs[j]? = some v->rd m b (o+j)=some v):fi m ⟨b,o,none⟩ vs.length=some vs:=by
 cases vs with
 | nil=>exact(hne rfl).elim
 | cons v0 r=>
  obtain⟨c,n,hb,h1,h2⟩:=Ag (h 0 v0 rfl);have hall:∀j v,(v0::r)[j]? = some v->o+j<n/\c.get (o+j)=some v:=by
   intro j v e';obtain⟨c',n',hb',k1,k2⟩:=Ag (h j v e');rw[hb]at hb';cases hb';exact⟨k1,k2⟩
  have hlen:o+(v0::r).length<=n:=by
   have:=(hall r.length ((v0::r)[r.length]'(by simp)) (List.getElem?_eq_getElem (by simp))).1;simp only[List.length_cons];omega
  rw[lz];simp only[hb,Nat.ble_eq_true_of_le hlen];exact oF (fun j v e'=>(hall j v e').2)
theorem Ar{t:TypeId}{s:Shp}(h:DF cx t=some s):∃d n,cx.un.get t=some d/\dL cx t=some n/\
  match s with
  | .one _=>mL d=false/\n=1
  | .agg ls=>mL d=true/\n=ls.length/\ls≠[]
  | .big k=>mL d=true/\n=k/\k≠0:=by
 unfold DF at h;split at h
 .rename_i d n hd hn;refine⟨d,n,hd,hn,?_⟩;split at h
  .rename_i ha;split at h
   .rename_i f ls _;split at h
    .rename_i hb;cases h;exact⟨ha,(Nat.eq_of_beq_eq_true hb).symm,by simp⟩
    .cases h
   .split at h
    .cases h
    .cases h;exact⟨ha,rfl,by simp⟩
  .rename_i ha;split at h
   .rename_i hb;split at h
    .cases h;exact⟨ha,Nat.eq_of_beq_eq_true hb⟩
    .cases h
   .cases h
 .cases h
theorem Gh{m:Mem}{t:TypeId}{b o:Nat}{K:Value->Prop}(h:EX cx m t b o K):∃v,loadT cx m t ⟨b,o,none⟩=some v/\K v:=by
 unfold EX at h;split at h
 .rename_i l hs;obtain⟨d,n,hd,hn,ha,rfl⟩:=Ar hs;obtain⟨v,h1,h2⟩:=Lf.ex_ok h;refine⟨v,?_,h2⟩;have:fi m ⟨b,o,none⟩ 1=some [v]:=yq (vs:=[v]) (by simp) (fun j x e=>by
   cases j with
   | zero=>simp at e;subst e;exact h1
   | succ j=>simp at e)
  simp only[loadT,hd,hn,ha,this]
 .rename_i ls hs;obtain⟨d,n,hd,hn,ha,rfl,hne⟩:=Ar hs;obtain⟨vs,k1,k2,k3⟩:=KC h;refine⟨_,?_,k2⟩;have:fi m ⟨b,o,none⟩ vs.length=some vs:=yq (by intro e;subst e;exact hne (List.length_eq_zero_iff.1 k1.symm)) (fun j v e=>by have:=k3 j v e;rwa [Nat.zero_add]at this);rw[k1]at this;simp only[loadT,hd,hn,ha,this]
 .rename_i n hs;obtain⟨d,n',hd,hn,ha,rfl,hne⟩:=Ar hs;obtain⟨vs,h1,h2⟩:=h;refine⟨_,?_,h2⟩;simp only[loadT,hd,hn,ha,h1]
 .exact h.elim
theorem iR{m:Mem}{b o:Nat}{l:List Value}(h:okW m b o l.length)(h1:l.all AX.one1=true):iH m ⟨b,o,none⟩ l=some (wr m b o l):=by
 obtain⟨hf,c,k,e,x,hb,hk⟩:=h;unfold iH wr;simp only[hb,Nat.ble_eq_true_of_le hk,Nat.ble_eq_true_of_le hf,h1,Bool.and_self]
theorem KD{m:Mem}{t:TypeId}{b o:Nat}{v:Value}{K:Mem->Prop}(h:Gb cx m t b o v K):∃m',storeT cx m t ⟨b,o,none⟩ v=some m'/\K m':=by
 unfold Gb at h;split at h
 .rename_i n hn;split at h
  .split at h
   .rename_i hb;have hb':=Nat.eq_of_beq_eq_true hb;subst hb';obtain⟨⟨h1,h2⟩,h3,h4⟩:=zb h;replace h4:=nk h4;refine⟨_,?_,h4⟩;unfold storeT;simp only[hn,h2];exact iR h3 (by simp[h1])
   .exact h.elim
  .split at h
   .rename_i cs;obtain⟨h1,h2,h3,h4⟩:=Gf h;replace h4:=nk h4;refine⟨_,?_,h4⟩;unfold storeT;simp only[hn,bQ,h1,Nat.beq_refl];rw[<-h1]at h3;exact iR h3 h2
   .exact h.elim
 .exact h.elim
theorem Ob{op:BinOp}{k k':IntKind}{x y:Int}{K:Value->Prop}{m:Mem}{t:TypeId}(h:Ms op k k' x y K):∃v,gL cx m op t (.int k x) (.int k' y)=some v/\K v:=by
 unfold Ms at h;cases op with
 | shl=>exact⟨_,by simp[gL,pd,show ¬y<0 by omega];rfl,h.2⟩
 | shr=>exact⟨_,by simp[gL,pd,show ¬y<0 by omega];rfl,h.2⟩
 | quo=>
  simp only at h;split at h
  .exact h.elim
  .rename_i hk;exact⟨_,by simp only[gL,hk,nA,decide_eq_false h.1];rfl,h.2⟩
 | rem=>
  simp only at h;split at h
  .exact h.elim
  .rename_i hk;exact⟨_,by simp only[gL,hk,nA,decide_eq_false h.1],h.2⟩
 | _=>
  simp only at h;split at h
  .exact h.elim
  .rename_i hk
   (try simp only[cU,dV,cR,leI,N6]at h)
   first
    | exact h.elim
    | exact⟨_,by simp only[gL,hk,nA];rfl,h⟩
    | exact⟨_,by simp only[gL,hk,nA],h⟩
theorem Oc{op:BinOp}{x y:ByteArray}{K:Value->Prop}{m:Mem}{t:TypeId}(h:Mt op x y K):∃v,gL cx m op t (.string x) (.string y)=some v/\K v:=by
 unfold Mt at h;cases op with
 | add=>
  have e:Nat.ble (x.data.toList.length+y.data.toList.length) 140737488355328=true:=Nat.ble_eq_true_of_le h.1;refine⟨_,?_,h.2⟩;simp only[gL,stringOp,e];rfl
 | _=>first|exact h.elim|exact⟨_,rfl,h⟩
theorem IT(m:Mem)(x:Option Addr):pG m x none=some x.isNone:=by
 cases x<;>rfl
theorem HL{m:Mem}{t:TypeId}{x y:Operand}{a b:Value}{K:Bool->Prop}(h:IN cx m t x y a b K):qU cx t x y a b=true/\(∃r,fM cx m 40 t a b=some r/\K r)/\(∀k n k' n',¬(a = .int k n/\b = .int k' n'))/\(∀s s',¬(a = .string s/\b = .string s')):=by
 unfold IN at h;have noInt:∀{d:TypeDesc},cx.un.get t=some d->(∀k,d≠.int k)->(∃r,fM cx m 40 t a b=some r/\K r)->∀k n k' n',¬(a = .int k n/\b = .int k' n'):=by
  intro d hd hk ⟨r,hr,_⟩ k n k' n' ⟨e1,e2⟩;subst e1;subst e2;unfold fM at hr;rw[hd]at hr;cases d<;>simp at hr hk
 have noStr:∀{d:TypeDesc},cx.un.get t=some d->d≠.string->(∃r,fM cx m 40 t a b=some r/\K r)->∀s s',¬(a = .string s/\b = .string s'):=by
  intro d hd hk ⟨r,hr,_⟩ s s' ⟨e1,e2⟩;subst e1;subst e2;unfold fM at hr;rw[hd]at hr;cases d<;>simp at hr hk
 split at h
 .rename_i ms hd;split at h
  .rename_i hc;refine⟨?_,h,noInt hd (by simp) h,noStr hd (by simp) h⟩;unfold qU;split
   .split
    .rfl
    .rename_i hx;rw[hx]at hc;simp only[hd];simpa using hc
   .rename_i hr;rename_i xs ys _;exfalso;obtain⟨r,hr,_⟩:=h;unfold fM at hr;rw[hd]at hr;simp at hr
   .rfl
  .refine⟨?_,h.2,noInt hd (by simp) h.2,noStr hd (by simp) h.2⟩;unfold qU;split
   .exact(h.1 rfl rfl).elim
   .exfalso;obtain⟨_,r,hr,_⟩:=h;unfold fM at hr;rw[hd]at hr;simp at hr
   .rfl
 .rename_i fs hd;split at h
  .rename_i hf;refine⟨?_,h,noInt hd (by simp) h,noStr hd (by simp) h⟩;unfold qU;split
   .exfalso;obtain⟨r,hr,_⟩:=h;unfold fM at hr;rw[hd]at hr;simp at hr
   .simp only[hd];exact hf
   .rfl
  .exact h.elim
 .rename_i e hd;split at h
  .rename_i s hs;split at h
   .rename_i p q;have hh:∃r,fM cx m 40 t (.pointer p) (.pointer q)=some r/\K r:=by
     unfold Kz at h;split at h
     .exact⟨_,by unfold fM;rw[hd];simp only[hs];exact IT m p,h⟩
     .obtain⟨r,h1,h2⟩:=h;exact⟨r,by unfold fM;rw[hd];simp only[hs];exact h1,h2⟩
    exact⟨rfl,hh,(fun _ _ _ _ e=>nomatch e.1),(fun _ _ e=>nomatch e.1)⟩
   .exact h.elim
  .exact h.elim
 all_goals first
  | exact h.elim
  | skip
 all_goals
  rename_i hd;refine⟨?_,h,noInt hd (by simp) h,noStr hd (by simp) h⟩;unfold qU;split
  .exfalso;obtain⟨r,hr,_⟩:=h;unfold fM at hr;rw[hd]at hr;simp at hr
  .exfalso;obtain⟨r,hr,_⟩:=h;unfold fM at hr;rw[hd]at hr;simp at hr
  .rfl
theorem zL{m:Mem}{op:BinOp}{t:TypeId}{a b:Value}(h1:∀k n k' n',¬(a = .int k n/\b = .int k' n'))(h2:∀s s',¬(a = .string s/\b = .string s')) :
  gL cx m op t a b=match op with
  | .eql=>match fM cx m 40 t a b with
   | some b=>some (.bool b)
   | none=>none
  | .neq=>match fM cx m 40 t a b with
   | some b=>some (.bool (!b))
   | none=>none
  | _=>none:=by
 unfold gL;split
 .exact(h1 _ _ _ _ ⟨rfl,rfl⟩).elim
 .exact(h2 _ _ ⟨rfl,rfl⟩).elim
 .rfl
theorem Od{m:Mem}{op:BinOp}{t:TypeId}{x y:Operand}{a b:Value}{K:Value->Prop}(h:Mu cx m op t x y a b K):sE cx op t x y a b=true/\∃v,gL cx m op t a b=some v/\K v:=by
 unfold Mu at h;split at h
 .split at h
  .exact⟨by unfold sE;cases op<;>rfl,Ob h⟩
  .exact h.elim
 .split at h
  .exact⟨by unfold sE;cases op<;>rfl,Oc h⟩
  .exact h.elim
 .rename_i hd;split at h
  .rename_i p q;refine⟨by unfold sE;cases op<;>rfl,?_⟩;have he:fM cx m 40 t (.bool p) (.bool q)=some (p == q):=by unfold fM;rw[hd]
   cases op with
   | eql=>exact⟨_,by unfold gL;simp only[he],h⟩
   | neq=>exact⟨_,by unfold gL;simp only[he],h⟩
   | _=>exact h.elim
  .exact h.elim
 .cases op with
  | eql=>
   obtain⟨g1,⟨r,g2,g3⟩,g4,g5⟩:=HL h;exact⟨g1,_,by rw[zL g4 g5];simp only[g2],g3⟩
  | neq=>
   obtain⟨g1,⟨r,g2,g3⟩,g4,g5⟩:=HL h;exact⟨g1,_,by rw[zL g4 g5];simp only[g2],g3⟩
  | _=>exact h.elim
theorem Pv{op:UnOp}{a:Value}{K:Value->Prop}(h:Pq op a K):∃v,EU op a=some v/\K v:=by
 unfold Pq at h;split at h
 .exact⟨_,rfl,h⟩
 .exact⟨_,rfl,h⟩
 .exact⟨_,rfl,h⟩
 .exact h.elim
theorem uw{agg:Nat->Bool}{tm:Tr Value}{sz:Nat}{m:Mem}:∀{ps:List (Nat×Operand)} {P:List (Nat×List Value)->Prop},yo cx agg tm ps P->∃vs,gO cx ⟨tm,sz,m⟩ ps=some vs/\P (vs.map fun x=>(x.1,bQ x.2))
 | [],P,h=>⟨[],rfl,h⟩
 | (i,x)::r,P,h=>by
  obtain⟨v,h1,h2⟩:=dz h;rw[dW tm sz m]at h1;have h3:=DG h2;obtain⟨vs,k1,k2⟩:=uw (sz:=sz) (m:=m) h3;exact⟨(i,v)::vs,by simp only[gO,h1,k1],k2⟩
theorem uy{place:Nat->Option (Nat×Nat)}:∀{ps:List (Nat×Value)} {cells:List Value},rZ place cells ps=za place cells (ps.map fun x=>(x.1,bQ x.2))
 | [],cells=>rfl
 | (i,v)::r,cells=>by
  simp only[rZ,List.map_cons,za];cases place i with
  | none=>rfl
  | some q=>
   simp only;cases Nat.beq (bQ v).length q.2&&Nat.ble (q.1+(bQ v).length) cells.length with
   | true=>exact uy
   | false=>rfl
theorem KE{tm:Tr Value}{sz:Nat}{m:Mem}{t:TypeId}{ps:List (Nat×Operand)}{K:Value->Prop}(h:BD cx tm t ps K):∃vs v,gO cx ⟨tm,sz,m⟩ ps=some vs/\vt cx t vs=some v/\K v:=by
 unfold BD at h;split at h
 .rename_i z fs hz hd;split at h
  .rename_i pl hp;obtain⟨vs,h1,h2⟩:=uw (sz:=sz) (m:=m) h;obtain⟨l,h3,h4⟩:=nj h2;refine⟨vs,_,h1,?_,h4⟩;unfold vt;simp only[hz,hd,hp,uy,h3]
  .exact h.elim
 .rename_i z n e hz hd;split at h
  .rename_i s hs;obtain⟨vs,h1,h2⟩:=uw (sz:=sz) (m:=m) h;obtain⟨l,h3,h4⟩:=nj h2;refine⟨vs,_,h1,?_,h4⟩;unfold vt;simp only[hz,hd,hs,uy,h3]
  .exact h.elim
 .exact h.elim
theorem kV(m:Mem)(l:List Value)(e:TypeId)(x:Bool):fY m l e x=(m.nx,newO m (row l e x)):=rfl
theorem qD{call:dB}{tm:Tr Value}{sz:Nat}{o:Oper}{id:Nat}{K:Value->AObj->Prop}(h:sw cx tm o.op id K) :
  ∃v ob,(∀m:Mem,m.nx=id->de cx call ⟨tm,sz,m⟩ o=some (some v,newO m ob))/\K v ob:=by
 unfold sw at h;split at h
 .rename_i e ho;obtain⟨z,h1,h2⟩:=dz h;refine⟨_,_,fun m hm=>?_,h2⟩;subst hm;unfold de;simp only[ho,h1,kV]
 .rename_i e x ho;obtain⟨v,h1,h2⟩:=dz h;have h3:=DG h2;refine⟨_,_,fun m hm=>?_,h3⟩;subst hm;rw[dW tm sz m]at h1;unfold de;simp only[ho,h1,kV]
 .rename_i t n ps ho;split at h
  .rename_i e hd;split at h
   .rename_i s z hs hz;split at h
    .rename_i hc;obtain⟨vs,h1,h2⟩:=uw (sz:=sz) (m:=⟨.nil,0,0⟩) h;obtain⟨l,h3,h4⟩:=nj h2;refine⟨_,_,fun m hm=>?_,h4⟩;subst hm;have h1':gO cx ⟨tm,sz,m⟩ ps.toList=some vs:=by
      have:∀(l:List (Nat×Operand)),gO cx ⟨tm,sz,m⟩ l=gO cx ⟨tm,sz,⟨.nil,0,0⟩⟩ l:=by
       intro l
       induction l with
       | nil=>rfl
       | cons x r ih=>simp only[gO,ih];rw[<-dW tm sz m,<-dW tm sz ⟨.nil,0,0⟩]
      rw[this];exact h1
     unfold de;simp only[ho,h1',iB,hd,hs,hz,hc,uy,h3,kV]
    .exact h.elim
   .exact h.elim
  .exact h.elim
 .rename_i t ho;refine⟨_,_,fun m hm=>?_,h⟩;subst hm;unfold de;simp only[ho];rfl
 .rename_i t l c ho;split at h
  .rename_i e hd;split at h
   .rename_i s z i hs hz hi;split at h
    .rename_i hc;obtain⟨a,h1,h2⟩:=dz h;obtain⟨b,h3,h4⟩:=dz h2;split at h4
     .rename_i k1 l1 k2 c1;obtain⟨⟨q1,q2,q3,q4⟩,q5⟩:=h4;refine⟨_,_,fun m hm=>?_,q5⟩;subst hm;rw[dW tm sz m]at h1 h3;unfold de;simp only[ho,h1,h3,iY,hd,hs,hz,hi,decide_eq_true q1,decide_eq_true q2,decide_eq_true q3,Nat.ble_eq_true_of_le q4,Bool.true_and];simp only[hc,kV]
     .exact h4.elim
    .exact h.elim
   .exact h.elim
  .exact h.elim
 .exact h.elim
theorem HM{t:TypeId}{o:Option Value}{K:Value->Prop}(h:IO cx t o K):∃v,o=some v/\K v:=by
 unfold IO at h;split at h
 .exact Shp.ex_ok h
 .exact h.elim
theorem DI{t:TypeId}{ok:Bool}{o:Option Value}{K:Value->Prop}(h:BE cx t ok o K):∃v,o=some v/\K v:=by
 unfold BE at h;split at h
 .exact HM h
 .split at h
  .obtain⟨v,b,h1,h2⟩:=Shp.ex_ok h;exact⟨_,h1,h2⟩
  .exact h.elim
theorem KF{m:Mem}{t:TypeId}{x:Value}{lo hi mx:Option Value}{K:Value->Prop}(h:Gc cx m t x lo hi mx K):∃v,cW cx m t x lo hi mx=some v/\K v:=by
 unfold Gc at h;split at h
 .obtain⟨s,h1,h2⟩:=h;exact⟨_,h1,h2⟩
 .obtain⟨a,n,c,h1,h2⟩:=h;exact⟨_,h1,h2⟩
theorem HN{a:Option Addr}{n s:Nat}{i:Int}{K:Value->Prop}(h:Mv a n s i K):∃b o,a=some ⟨b,o,none⟩/\(decide (0<=i)&&decide (i<n))=true/\K (.pointer (some ⟨b,o+i.toNat*s,none⟩)):=by
 obtain⟨⟨h1,h2⟩,h3⟩:=h;obtain⟨b,o,h4,h5⟩:=sJ h3;exact⟨b,o,h4,by rw[decide_eq_true h1,decide_eq_true h2];rfl,h5⟩
theorem Ez{t:TypeId}{x ix:Value}{K:Value->Prop}(h:wG cx t x ix K):∃v,nB cx t x ix=some v/\K v:=by
 unfold wG at h;split at h
 .rename_i e hd;split at h
  .rename_i s a n c k i hs;obtain⟨b,o,h1,h2,h3⟩:=HN h;subst h1;refine⟨_,?_,h3⟩;unfold nB;simp only[hd,hs,h2,mP]
  .exact h.elim
 .rename_i n e hd;split at h
  .rename_i s a k i hs;obtain⟨b,o,h1,h2,h3⟩:=HN h;subst h1;refine⟨_,?_,h3⟩;unfold nB;simp only[hd,hs,h2,mP]
  .exact h.elim
 .exact h.elim
theorem EA{t:TypeId}{x:Value}{f:Nat}{K:Value->Prop}(h:wH cx t x f K):∃v,lG cx t x f=some v/\K v:=by
 unfold wH at h;split at h
 .rename_i fs hd;split at h
  .rename_i fd hf;split at h
   .rename_i s hs;split at h
    .obtain⟨b,o,h1,h2⟩:=sJ h;subst h1;refine⟨_,?_,h2⟩;unfold lG;simp only[hd,hf,hs,mP]
    .exact h.elim
   .exact h.elim
  .exact h.elim
 .exact h.elim
theorem KG{t:TypeId}{x ix:Value}{K:Value->Prop}(h:Gd cx t x ix K):∃v,vr cx t x ix=some v/\K v:=by
 unfold Gd at h;split at h
 .rename_i hd;split at h
  .obtain⟨h0,c,h1,h2⟩:=h;refine⟨_,?_,h2⟩;unfold vr;simp only[hd,decide_eq_true h0,h1];rfl
  .exact h.elim
 .exact HM h
theorem My{m:Mem}{s d:TypeId}{x:Value}{K:Value->Prop}(h:IQ cx m s d x K):∃v,kr cx m s d x=some v/\K v:=by
 unfold IQ at h;split at h
 .rename_i h1 h2;split at h
  .exact⟨_,by unfold kr;simp only[h1,h2];rfl,h⟩
  .exact h.elim
 .rename_i h1 h2;split at h
  .exact⟨_,by unfold kr;simp only[h1,h2],h⟩
  .exact h.elim
 .obtain⟨r,h1,h2⟩:=h;exact⟨_,h1,h2⟩
 .exact h.elim
theorem G9{v:Value}{i:Nat}{K:Value->Prop}(h:Aq v i K):∃vs r,v = .tuple vs/\vs.toList[i]? = some r/\K r:=by
 unfold Aq at h;split at h
 .obtain⟨r,h1,h2⟩:=dz h;exact⟨_,r,rfl,h1,h2⟩
 .exact h.elim
theorem BG{big:Bool}:∀{r:List Value} {x:Value} {K:Value->Prop},vE big r x K->∃v,qV big x r=some v/\K v:=by
 intro r
 induction r with
 | nil=>intro x K h;cases x<;>exact⟨_,rfl,h⟩
 | cons y r ih=>
  intro x K h;cases x with
  | int k x=>
   cases y with
   | int k' y=>
    cases big with
    | true=>exact ih (x:=.int k (jP x y)) h
    | false=>exact ih (x:=.int k (fI x y)) h
   | _=>exact False.elim h
  | _=>exact False.elim h
theorem Mz{m:Mem}{t:TypeId}{ts:List TypeId}{x:Value}:qq cx m (t::ts) [x]=qq cx m [t] [x]:=rfl
theorem Oe{m:Mem}{t:TypeId}{ts:List TypeId}{x:Value}{K:Value->Prop}(h:Mx cx m t x K):∃v,qq cx m (t::ts) [x]=some v/\K v:=by
 rw[Mz];unfold Mx at h;split at h
 .rename_i hd;split at h
  .exact⟨_,by unfold qq;simp only[hd];rfl,h⟩
  .exact h.elim
 .rename_i n e hd;exact⟨_,by unfold qq;simp only[hd];rfl,h⟩
 .rename_i e hd;split at h
  .exact⟨_,by unfold qq;simp only[hd];rfl,h⟩
  .exact h.elim
 .obtain⟨n,h1,h2⟩:=h;exact⟨_,h1,h2⟩
theorem zM{m:Mem}{b:Builtin}{ts:List TypeId}{args:List Value}{K:Value->Mem->Prop}(h:wI cx m b ts args K):∃v m',fZ cx m b ts args=some (v,m')/\K v m':=by
 unfold wI at h;split at h
 .obtain⟨a,n,c,m',h1,h2⟩:=h;exact⟨_,_,h1,h2⟩
 .obtain⟨x,m',h1,h2⟩:=h;exact⟨_,_,h1,h2⟩
 .split at h
  .rename_i t ts x;obtain⟨v,h1,h2⟩:=Oe (ts:=ts) h;exact⟨_,_,by simp only[fZ,h1],h2⟩
  .exact h.elim
 .obtain⟨x,h1,h2⟩:=h;exact⟨_,_,by simp only[fZ,h1],h2⟩
 .split at h
  .obtain⟨v,h1,h2⟩:=BG h;exact⟨_,_,by simp only[fZ,h1],h2⟩
  .exact h.elim
 .split at h
  .obtain⟨v,h1,h2⟩:=BG h;exact⟨_,_,by simp only[fZ,h1],h2⟩
  .exact h.elim
 .split at h
  .obtain⟨m',h1,h2⟩:=h;exact⟨_,_,by simp only[fZ,h1],h2⟩
  .exact h.elim
 .obtain⟨m',h1,h2⟩:=h;exact⟨_,_,h1,h2⟩
 .exact h.elim
theorem MA{tm:Tr Value}{sz:Nat}{m:Mem}{dst:Option Tmp}{ty:TypeId}{c:Call}{K:Value->Mem->Prop}(h:IR cx tm m dst ty c K):∃n v m',gn cx (dT cx (eG cx n)) ⟨tm,sz,m⟩ c=some (v,m')/\K v m':=by
 unfold IR at h;obtain⟨args,h1,h2⟩:=yp (sz:=sz) (m:=m) h;split at h2
 .rename_i b hb;obtain⟨v,m',h3,h4⟩:=zM h2;exact⟨0,v,m',by simp only[gn,h1,hb,h3],h4⟩
 .rename_i f hf;obtain⟨fv,h3,h4⟩:=dz h2;rw[dW tm sz m]at h3;unfold KA at h4;split at h4
  .obtain⟨n,r,m',h5,h6⟩:=h4;refine⟨n,r,m',?_,zc h6⟩;simp only[gn,h1,hf,h3,List.append_assoc];exact h5
  .exact h4.elim
 .rename_i x name hx;obtain⟨xv,h3,h4⟩:=dz h2;rw[dW tm sz m]at h3;obtain⟨t,v,rfl,k,r,h5,n,q,m',h6,h7⟩:=h4;refine⟨n,q,m',?_,zc h7⟩;simp only[gn,h1,hx,h3,h5];exact h6
theorem Pw{tm:Tr Value}{sz:Nat}{m:Mem}{o:Oper}{K:Option Value->Mem->Prop}(h:Pu cx tm m o.dst o.type o.op K):∃n v m',de cx (dT cx (eG cx n)) ⟨tm,sz,m⟩ o=some (v,m')/\K v m':=by
 cases ho:o.op with
 | move x=>
  rw[ho]at h;obtain⟨v,h1,h2⟩:=dz h;rw[dW tm sz m]at h1;exact⟨0,_,_,by unfold de;simp only[ho,h1],h2⟩
 | assign x=>
  rw[ho]at h;obtain⟨v,h1,h2⟩:=dz h;rw[dW tm sz m]at h1;exact⟨0,_,_,by unfold de;simp only[ho,h1],h2⟩
 | pick c x y=>
  rw[ho]at h;obtain⟨v,h1,h2⟩:=dz h;rw[dW tm sz m]at h1;split at h2
  .rcases uv h2 with⟨rfl,h3⟩|⟨rfl,h3⟩
   .obtain⟨q,h4,h5⟩:=dz h3;rw[dW tm sz m]at h4;exact⟨0,_,_,by unfold de;simp only[ho,h1,h4],h5⟩
   .obtain⟨q,h4,h5⟩:=dz h3;rw[dW tm sz m]at h4;exact⟨0,_,_,by unfold de;simp only[ho,h1,h4],h5⟩
  .exact h2.elim
 | build t ps=>
  rw[ho]at h;have h':BD cx tm t ps.toList (fun v=>K (some v) m):=h;obtain⟨vs,v,h1,h2,h3⟩:=KE (sz:=sz) (m:=m) h';exact⟨0,_,_,by unfold de;simp only[ho,h1,h2],h3⟩
 | load t a=>
  rw[ho]at h;obtain⟨v,h1,h2⟩:=dz h;rw[dW tm sz m]at h1;split at h2
  .obtain⟨b,of,h3,h4⟩:=sJ h2;subst h3;obtain⟨w,h5,h6⟩:=Gh h4;exact⟨0,_,_,by unfold de;simp only[ho,h1,h5],h6⟩
  .exact h2.elim
 | store t a x=>
  rw[ho]at h;obtain⟨v,h1,h2⟩:=dz h;rw[dW tm sz m]at h1;split at h2
  .obtain⟨b,of,h3,h4⟩:=sJ h2;subst h3;obtain⟨w,h5,h6⟩:=dz h4;rw[dW tm sz m]at h5;obtain⟨m',h7,h8⟩:=KD h6;exact⟨0,_,_,by unfold de;simp only[ho,h1,h5,h7],h8⟩
  .exact h2.elim
 | nilCheck x=>
  rw[ho]at h;obtain⟨v,h1,h2⟩:=dz h;rw[dW tm sz m]at h1;unfold Pr at h2;split at h2
  .obtain⟨b,of,h3,h4⟩:=sJ h2;subst h3;exact⟨0,_,_,by unfold de;simp only[ho,h1],h4⟩
  .exact⟨0,_,_,by unfold de;simp only[ho,h1],h2⟩
  .exact⟨0,_,_,by unfold de;simp only[ho,h1],h2⟩
  .exact h2.elim
 | binOp op t x y u=>
  rw[ho]at h;obtain⟨a,h1,h2⟩:=dz h;obtain⟨b,h3,h4⟩:=dz h2;rw[dW tm sz m]at h1 h3;obtain⟨h5,v,h6,h7⟩:=Od h4;exact⟨0,_,_,by unfold de;simp only[ho,h1,h3,h5,h6],h7⟩
 | unOp op t x=>
  rw[ho]at h;obtain⟨a,h1,h2⟩:=dz h;rw[dW tm sz m]at h1;obtain⟨v,h6,h7⟩:=Pv h2;exact⟨0,_,_,by unfold de;simp only[ho,h1,h6],h7⟩
 | convert s d x=>
  rw[ho]at h;obtain⟨a,h1,h2⟩:=dz h;rw[dW tm sz m]at h1;obtain⟨v,h6,h7⟩:=My h2;exact⟨0,_,_,by unfold de;simp only[ho,h1,h6],h7⟩
 | makeInterface t x=>
  rw[ho]at h;obtain⟨a,h1,h2⟩:=dz h;rw[dW tm sz m]at h1;split at h2
  .exact h2.elim
  .rename_i d hd hne;refine⟨0,_,_,?_,h2⟩;unfold de;simp only[ho,h1,hne]
   try (split;· rename_i e;cases e.2;exact(hd _ rfl).elim;· rfl;· rename_i e;exact(e _ _ rfl rfl).elim)
  .exact h2.elim
 | makeFunc fn f c=>
  rw[ho]at h;obtain⟨fs,h1,h2⟩:=yp (sz:=sz) (m:=m) h;obtain⟨cs,h3,h4⟩:=yp (sz:=sz) (m:=m) h2;exact⟨0,_,_,by unfold de;simp only[ho,h1,h3],h4⟩
 | slice t x lo hi mx=>
  rw[ho]at h;obtain⟨a,h1,h2⟩:=dz h;rw[dW tm sz m]at h1;obtain⟨lo',h3,h4⟩:=Gg (sz:=sz) (m:=m) h2;obtain⟨hi',h5,h6⟩:=Gg (sz:=sz) (m:=m) h4;obtain⟨mx',h7,h8⟩:=Gg (sz:=sz) (m:=m) h6;obtain⟨v,h9,h10⟩:=KF h8;exact⟨0,_,_,by unfold de;simp only[ho,h1,h3,h5,h7,h9],h10⟩
 | fieldAddr t x f=>
  rw[ho]at h;obtain⟨a,h1,h2⟩:=dz h;rw[dW tm sz m]at h1;obtain⟨v,h6,h7⟩:=EA h2;exact⟨0,_,_,by unfold de;simp only[ho,h1,h6],h7⟩
 | field t x f=>
  rw[ho]at h;obtain⟨a,h1,h2⟩:=dz h;rw[dW tm sz m]at h1;obtain⟨v,h6,h7⟩:=dz h2;exact⟨0,_,_,by unfold de;simp only[ho,h1,h6],h7⟩
 | indexAddr t x i=>
  rw[ho]at h;obtain⟨a,h1,h2⟩:=dz h;obtain⟨b,h3,h4⟩:=dz h2;rw[dW tm sz m]at h1 h3;obtain⟨v,h6,h7⟩:=Ez h4;exact⟨0,_,_,by unfold de;simp only[ho,h1,h3,h6],h7⟩
 | index t x i=>
  rw[ho]at h;obtain⟨a,h1,h2⟩:=dz h;obtain⟨b,h3,h4⟩:=dz h2;rw[dW tm sz m]at h1 h3;obtain⟨v,h6,h7⟩:=KG h4;exact⟨0,_,_,by unfold de;simp only[ho,h1,h3,h6],h7⟩
 | lookup t x k ok=>
  rw[ho]at h;obtain⟨a,h1,h2⟩:=dz h;obtain⟨b,h3,h4⟩:=dz h2;rw[dW tm sz m]at h1 h3;obtain⟨v,h6,h7⟩:=DI h4;exact⟨0,_,_,by unfold de;simp only[ho,h1,h3,h6],h7⟩
 | mapUpdate t x k y=>
  rw[ho]at h;obtain⟨a,h1,h2⟩:=dz h;obtain⟨b,h3,h4⟩:=dz h2;obtain⟨c,h5,h6⟩:=dz h4;rw[dW tm sz m]at h1 h3 h5;obtain⟨m',h7,h8⟩:=h6;exact⟨0,_,_,by unfold de;simp only[ho,h1,h3,h5,h7],h8⟩
 | insert t x k y=>
  rw[ho]at h;obtain⟨a,h1,h2⟩:=dz h;obtain⟨b,h3,h4⟩:=dz h2;obtain⟨c,h5,h6⟩:=dz h4;rw[dW tm sz m]at h1 h3 h5;obtain⟨m',h7,h8⟩:=h6;exact⟨0,_,_,by unfold de;simp only[ho,h1,h3,h5,h7],h8⟩
 | mapEntry t x k=>
  rw[ho]at h;obtain⟨a,h1,h2⟩:=dz h;obtain⟨b,h3,h4⟩:=dz h2;rw[dW tm sz m]at h1 h3;split at h4
  .obtain⟨v,i,m',h7,h8⟩:=Shp.ex_ok h4;exact⟨0,_,_,by unfold de;simp only[ho,h1,h3,h7],h8⟩
  .exact h4.elim
 | entryStore t x s y=>
  rw[ho]at h;obtain⟨a,h1,h2⟩:=dz h;obtain⟨b,h3,h4⟩:=dz h2;obtain⟨c,h5,h6⟩:=dz h4;rw[dW tm sz m]at h1 h3 h5;obtain⟨m',h7,h8⟩:=h6;exact⟨0,_,_,by unfold de;simp only[ho,h1,h3,h5,h7],h8⟩
 | typeAssert x xT t ok=>
  rw[ho]at h;obtain⟨a,h1,h2⟩:=dz h;rw[dW tm sz m]at h1;obtain⟨v,h6,h7⟩:=DI h2;exact⟨0,_,_,by unfold de;simp only[ho,h1,h6],h7⟩
 | extract x i=>
  rw[ho]at h;obtain⟨a,h1,h2⟩:=dz h;rw[dW tm sz m]at h1;obtain⟨vs,r,rfl,h6,h7⟩:=G9 h2;exact⟨0,_,_,by unfold de;simp only[ho,h1,h6],h7⟩
 | call c=>
  rw[ho]at h;obtain⟨n,v,m',h1,h2⟩:=MA (sz:=sz) h;exact⟨n,_,_,by unfold de;simp only[ho,h1],h2⟩
 | makeMap t r=>
  cases r with
  | none=>
   have h':sw cx tm o.op m.nx fun v ob=>cZ (newO m ob) (K (some v)):=by rw[ho]at h ⊢;exact h
   obtain⟨v,ob,h1,h2⟩:=qD (call:=dT cx (eG cx 0)) (sz:=sz) h';exact⟨0,_,_,h1 m rfl,nk h2⟩
  | some r=>rw[ho]at h;exact h.elim
 | alloc e=>
  have h':sw cx tm o.op m.nx fun v ob=>cZ (newO m ob) (K (some v)):=by rw[ho]at h ⊢;exact h
  obtain⟨v,ob,h1,h2⟩:=qD (call:=dT cx (eG cx 0)) (sz:=sz) h';exact⟨0,_,_,h1 m rfl,nk h2⟩
 | box e x=>
  have h':sw cx tm o.op m.nx fun v ob=>cZ (newO m ob) (K (some v)):=by rw[ho]at h ⊢;exact h
  obtain⟨v,ob,h1,h2⟩:=qD (call:=dT cx (eG cx 0)) (sz:=sz) h';exact⟨0,_,_,h1 m rfl,nk h2⟩
 | buildSlice t n ps=>
  have h':sw cx tm o.op m.nx fun v ob=>cZ (newO m ob) (K (some v)):=by rw[ho]at h ⊢;exact h
  obtain⟨v,ob,h1,h2⟩:=qD (call:=dT cx (eG cx 0)) (sz:=sz) h';exact⟨0,_,_,h1 m rfl,nk h2⟩
 | makeSlice t l c=>
  have h':sw cx tm o.op m.nx fun v ob=>cZ (newO m ob) (K (some v)):=by rw[ho]at h ⊢;exact h
  obtain⟨v,ob,h1,h2⟩:=qD (call:=dT cx (eG cx 0)) (sz:=sz) h';exact⟨0,_,_,h1 m rfl,nk h2⟩
 | _=>rw[ho]at h;exact h.elim
end Go.AX
namespace Go.AX
variable [Kap]
variable {cx:Cx}
omit [Kap]in
theorem DJ{ops:List Oper}{tm tm1:Tr Value}{o:Oper}{run:Tr Value->Bool->Prop}(h:BF ops tm o run)(hs:Sub tm tm1)(sz:Nat)(m:Mem) :
  ∃b tm',eX ops ⟨tm1,sz,m⟩ o=some b/\Sub tm' tm1/\run tm' b:=by
 unfold BF at h;split at h
 .rename_i hg;exact⟨true,tm,by simp only[eX,hg],hs,h⟩
 .rename_i j want hg;split at h
  .rename_i g hj;split at h
   .rename_i d hd;split at h
    .rename_i b hb;have h1:=hs _ _ hb;rcases uv h with⟨rfl,h2⟩|⟨rfl,h2⟩
     .exact⟨want,_,by simp only[eX,hg,hj,hd,h1];cases want<;>rfl,hs.put_of h1,h2⟩
     .exact⟨!want,_,by simp only[eX,hg,hj,hd,h1];cases want<;>rfl,hs.put_of h1,h2⟩
    .rename_i c hc;have h1:=hs _ _ hc;exact⟨false,tm,by simp only[eX,hg,hj,hd,h1],hs,h⟩
    .exact h.elim
   .exact h.elim
  .exact h.elim
omit [Kap]in
theorem Of{T:Type}{d:Mem->T}{tm big:Tr Value}(hb:Sub tm big):∀{live:Live} {f:Tr Value->Mem->T} {tm0:Tr Value} {m:Mem},Sub tm0 big->
  eL live (qi live tm0 f) tm d m=d m∨∃tm',Sub tm' big/\eL live (qi live tm0 f) tm d m=f tm' m:=by
 intro live
 induction live with
 | nil=>intro f tm0 m hs;exact .inr ⟨tm0,hs,rfl⟩
 | cons x r ih=>
  intro f tm0 m hs;obtain⟨i,l⟩:=x;cases l with
  | any=>
   cases hg:tm.get i with
   | none=>exact .inl (by simp only[eL,hg])
   | some v=>
    have:=ih (f:=f) (tm0:=tm0.put i v) (m:=m) (hs.put_of (hb _ _ hg));simpa only[eL,hg,qi]using this
  | int k=>
   cases hg:tm.get i with
   | none=>exact .inl (by simp only[eL,hg])
   | some v=>
    cases v with
    | int k' x=>
     by_cases hk:k=k'
     .subst hk;have:=ih (f:=f) (tm0:=tm0.put i (.int k x)) (m:=m) (hs.put_of (hb _ _ hg));simpa only[eL,hg,qi,decide_true]using this
     .exact .inl (by simp only[eL,hg,decide_eq_false hk])
    | _=>exact .inl (by simp only[eL,hg])
  | sl=>
   cases hg:tm.get i with
   | none=>exact .inl (by simp only[eL,hg])
   | some v=>
    cases v with
    | slice a n c=>
     have:=ih (f:=f) (tm0:=tm0.put i (.slice a n c)) (m:=m) (hs.put_of (hb _ _ hg));simpa only[eL,hg,qi]using this
    | _=>exact .inl (by simp only[eL,hg])
  | bool=>
   cases hg:tm.get i with
   | none=>exact .inl (by simp only[eL,hg])
   | some v=>
    cases v with
    | bool x=>
     have:=ih (f:=f) (tm0:=tm0.put i (.bool x)) (m:=m) (hs.put_of (hb _ _ hg));simpa only[eL,hg,qi]using this
    | _=>exact .inl (by simp only[eL,hg])
  | str=>
   cases hg:tm.get i with
   | none=>exact .inl (by simp only[eL,hg])
   | some v=>
    cases v with
    | string x=>
     have:=ih (f:=f) (tm0:=tm0.put i (.string x)) (m:=m) (hs.put_of (hb _ _ hg));simpa only[eL,hg,qi]using this
    | _=>exact .inl (by simp only[eL,hg])
  | ptr=>
   cases hg:tm.get i with
   | none=>exact .inl (by simp only[eL,hg])
   | some v=>
    cases v with
    | pointer x=>
     have:=ih (f:=f) (tm0:=tm0.put i (.pointer x)) (m:=m) (hs.put_of (hb _ _ hg));simpa only[eL,hg,qi]using this
    | _=>exact .inl (by simp only[eL,hg])
  | map=>
   cases hg:tm.get i with
   | none=>exact .inl (by simp only[eL,hg])
   | some v=>
    cases v with
    | map x=>
     have:=ih (f:=f) (tm0:=tm0.put i (.map x)) (m:=m) (hs.put_of (hb _ _ hg));simpa only[eL,hg,qi]using this
    | _=>exact .inl (by simp only[eL,hg])
omit [Kap]in
theorem Og{T:Type}{d:T}{tm big:Tr Value}(hb:Sub tm big):∀{live:Live} {J:tz live T} {tm0:Tr Value} {F:T->Tr Value->Prop},zK live J tm0 F->Sub tm0 big->
  eL live J tm d=d∨∃I tm',Sub tm' big/\eL live J tm d=I/\F I tm':=by
 intro live
 induction live with
 | nil=>intro J tm0 F h hs;exact .inr ⟨J,tm0,hs,rfl,h⟩
 | cons x r ih=>
  intro J tm0 F h hs;obtain⟨i,l⟩:=x;cases l with
  | any=>
   cases hg:tm.get i with
   | none=>exact .inl (by simp only[eL,hg])
   | some v=>
    have:=ih (h v) (hs.put_of (hb _ _ hg));simpa only[eL,hg]using this
  | int k=>
   cases hg:tm.get i with
   | none=>exact .inl (by simp only[eL,hg])
   | some v=>
    cases v with
    | int k' x=>
     by_cases hk:k=k'
     .subst hk;have:=ih (h x) (hs.put_of (hb _ _ hg));simpa only[eL,hg,decide_true]using this
     .exact .inl (by simp only[eL,hg,decide_eq_false hk])
    | _=>exact .inl (by simp only[eL,hg])
  | sl=>
   cases hg:tm.get i with
   | none=>exact .inl (by simp only[eL,hg])
   | some v=>
    cases v with
    | slice a n c=>
     have:=ih (h a n c) (hs.put_of (hb _ _ hg));simpa only[eL,hg]using this
    | _=>exact .inl (by simp only[eL,hg])
  | bool=>
   cases hg:tm.get i with
   | none=>exact .inl (by simp only[eL,hg])
   | some v=>
    cases v with
    | bool x=>
     have:=ih (h x) (hs.put_of (hb _ _ hg));simpa only[eL,hg]using this
    | _=>exact .inl (by simp only[eL,hg])
  | str=>
   cases hg:tm.get i with
   | none=>exact .inl (by simp only[eL,hg])
   | some v=>
    cases v with
    | string x=>
     have:=ih (h x) (hs.put_of (hb _ _ hg));simpa only[eL,hg]using this
    | _=>exact .inl (by simp only[eL,hg])
  | ptr=>
   cases hg:tm.get i with
   | none=>exact .inl (by simp only[eL,hg])
   | some v=>
    cases v with
    | pointer x=>
     have:=ih (h x) (hs.put_of (hb _ _ hg));simpa only[eL,hg]using this
    | _=>exact .inl (by simp only[eL,hg])
  | map=>
   cases hg:tm.get i with
   | none=>exact .inl (by simp only[eL,hg])
   | some v=>
    cases v with
    | map x=>
     have:=ih (h x) (hs.put_of (hb _ _ hg));simpa only[eL,hg]using this
    | _=>exact .inl (by simp only[eL,hg])
omit [Kap]in
theorem gd(n:Nat)(c:Code)(st:St):eG cx (n+1) c st=step cx (eG cx n) c st:=rfl
omit [Kap]in
theorem BH{l:List Nat}{i:Nat}(h:CN l i=false):∀x∈l,x≠i:=by
 induction l with
 | nil=>intro x hx;cases hx
 | cons a r ih=>
  simp only[CN]at h;split at h
  .cases h
  .rename_i hb;intro x hx;rcases List.mem_cons.1 hx with rfl|hx
   .exact Tr.beq_false.1 hb
   .exact ih h x hx
omit [Kap]in
theorem yu{keep ws:List Nat}(h:rp keep ws=true):∀i∈keep,∀x∈ws,x≠i:=by
 induction keep with
 | nil=>intro i hi;cases hi
 | cons a r ih=>
  simp only[rp]at h;split at h
  .cases h
  .rename_i hm;intro i hi;rcases List.mem_cons.1 hi with rfl|hi
   .exact BH hm
   .exact ih h i hi
omit [Kap]in
theorem pk{tm:Tr Value}:∀{keep:List Nat} {i:Nat} {v:Value},(mG tm keep).get i=some v->i∈keep/\tm.get i=some v
 | [],i,v,h=>by simp only[mG]at h;rw[Tr.get_nil]at h;cases h
 | j::r,i,v,h=>by
  simp only[mG]at h;split at h
  .rename_i x hx;rw[Tr.get_put]at h;split at h
   .rename_i e;subst e;cases h;exact⟨List.mem_cons_self ..,hx⟩
   .obtain⟨h1,h2⟩:=pk h;exact⟨List.mem_cons_of_mem _ h1,h2⟩
  .obtain⟨h1,h2⟩:=pk h;exact⟨List.mem_cons_of_mem _ h1,h2⟩
omit [Kap]in
theorem sx{st st':St}{dst:Option Tmp}{v:Option Value}{m:Mem}(h:gq st dst v m=some st'){i:Nat}(hi:dst≠some i):st'.tm.get i=st.tm.get i:=by
 unfold gq at h;split at h
 .cases h;rfl
 .rename_i d;split at h
  .split at h
   .cases h;show (st.tm.put d _).get i=_;rw[Tr.get_put,if_neg (fun e=>hi (by rw[e]))]
   .cases h;show (st.tm.del d).get i=_;rw[Tr.get_del,if_neg (fun e=>hi (by rw[e]))]
  .cases h
omit [Kap]in
theorem tA{call:dB}{ops:List Oper}{i:Nat}:∀{rest:List Oper} {st st':St},(∀o∈rest,o.dst≠some i)->gA cx call ops rest st=some st'->st'.tm.get i=st.tm.get i
 | [],st,st',_,h=>by cases h;rfl
 | o::r,st,st',hr,h=>by
  unfold gA at h;split at h
  .split at h
   .split at h
    .rename_i hp;rw[tA (fun o ho=>hr o (List.mem_cons_of_mem _ ho)) h,sx hp (hr o (List.mem_cons_self ..))]
    .cases h
   .cases h
  .split at h
   .rename_i hp;rw[tA (fun o ho=>hr o (List.mem_cons_of_mem _ ho)) h,sx hp (hr o (List.mem_cons_self ..))]
   .cases h
  .cases h
omit [Kap]in
theorem rP{call:dB}{ops:List Oper}{base i:Nat}:∀{rest:List Oper} {ss:List Nat} {k:Nat} {d:Dr} {st st':St},(∀o∈rest,o.dst≠some i)->eH cx call ops base rest ss k d st=some st'->st'.tm.get i=st.tm.get i
 | [],ss,k,d,st,st',_,h=>by unfold eH at h;cases h;rfl
 | o::r,[],k,d,st,st',_,h=>by unfold eH at h;cases h
 | o::r,s::q,k,d,st,st',hr,h=>by
  unfold eH at h;split at h
  .split at h
   .split at h
    .rename_i hp;rw[rP (fun o ho=>hr o (List.mem_cons_of_mem _ ho)) h,sx hp (hr o (List.mem_cons_self ..))]
    .cases h
   .cases h
  .split at h
   .rename_i hp;rw[rP (fun o ho=>hr o (List.mem_cons_of_mem _ ho)) h,sx hp (hr o (List.mem_cons_self ..))]
   .cases h
  .cases h
omit [Kap]in
theorem BI{i:Nat}:∀{n:Nat} {c:Code} {st:St} {ex:Ex} {st':St},(∀x∈ip c,x≠i)->eG cx n c st=some (ex,st')->st'.tm.get i=st.tm.get i:=by
 intro n
 induction n with
 | zero=>intro c st ex st' _ h;cases h
 | succ n ih=>
  intro c st ex st' hw h;rw[gd]at h;cases c with
  | skip=>cases h;rfl
  | label l=>cases h;rfl
  | exit id=>cases h;rfl
  | ret=>cases h;rfl
  | region id ops draw=>
   have hd:∀o∈ops.toList,o.dst≠some i:=fun o ho e=>hw i (List.mem_filterMap.2 ⟨o,ho,e⟩) rfl
   cases draw with
   | false=>
    simp only[step]at h;split at h
    .rename_i h1;cases h;exact tA hd h1
    .cases h
   | true=>
    simp only[step]at h;split at h
    .split at h
     .rename_i h1;cases h;exact(rP hd h1).trans rfl
     .cases h
    .cases h
  | seq x y=>
   have hx:∀a∈ip x,a≠i:=fun a ha=>hw a (List.mem_append.2 (.inl ha))
   have hy:∀a∈ip y,a≠i:=fun a ha=>hw a (List.mem_append.2 (.inr ha))
   simp only[step]at h;split at h
   .rename_i h1;rw[ih hy h,ih hx h1]
   .exact ih hx h
  | cond o x y=>
   have hx:∀a∈ip x,a≠i:=fun a ha=>hw a (List.mem_append.2 (.inl ha))
   have hy:∀a∈ip y,a≠i:=fun a ha=>hw a (List.mem_append.2 (.inr ha))
   simp only[step]at h;split at h
   .exact ih hx h
   .exact ih hy h
   .cases h
  | block id x=>
   simp only[step]at h;split at h
   .rename_i h1;split at h
    .cases h;exact ih (c:=x) hw h1
    .cases h;exact ih (c:=x) hw h1
   .exact ih (c:=x) hw h
  | loop x=>
   simp only[step]at h;split at h
   .rename_i h1;rw[ih (c:=.loop x) hw h,ih (c:=x) hw h1]
   .exact ih (c:=x) hw h
  | rangeFunc _ _ _ _=>simp[step]at h
  | goto _=>simp[step]at h
  | scope _=>simp[step]at h
  | refuse _=>simp[step]at h
omit [Kap]in
theorem KH{tm big st:Tr Value}{keep:List Nat}(hs:Sub tm big)(hk:∀i∈keep,st.get i=big.get i):Sub (mG tm keep) st:=by
 intro i v h;obtain⟨h1,h2⟩:=pk h;rw[hk i h1];exact hs i v h2
end Go.AX
