import Derived.Test.YthpnifigjfplbaaGreatQU08
import Derived.Test.YthpnifigjfplbaaGreatQU22
import Derived.Lib.Overlaps
set_option linter.unusedVariables false
set_option linter.unusedSectionVars false
set_option linter.unusedSimpArgs false
namespace Go.AX
open Go
noncomputable section
def gQ(m:Mem)(b:Nat):Bool:=match m.hp.get b with
 | some (.cells ..)=>true
 | _=>false
def oW:List Value->Mem->Option (Value×Mem)
 | [.slice (some a) n _,.slice (some b) n' _],m=>
  match a.spot,b.spot with
  | none,none=>match Nat.beq a.block b.block,gQ m a.block&&Nat.blt 0 n&&Nat.blt 0 n',gQ m b.block,Nat.blt 0 (match m.hp.get b.block with|some (.cells _ n _ _)=>n|_=>0)with
   | false,true,true,true=>some (.bool false,m)
   | _,_,_,_=>none
  | _,_=>none
 | _,_=>none
def qH(nx:Nat):Value->Bool
 | .slice (some a) _ _=>match a.spot with
  | some _=>true
  | none=>Nat.blt a.block nx
 | .pointer (some a)=>match a.spot with
  | some _=>false
  | none=>Nat.blt a.block nx
 | v=>plain1 v
def wI(m:Mem)(e e' sz b off n c i k bv N by_:Nat)(l vs:List Value):Bool:=
 Nat.beq e' e&&Nat.beq (off+c*sz) N&&Nat.ble m.fl b&&!Nat.beq bv b&&gQ m bv&&l.all (qH m.nx)&&vs.all (qH m.nx)&&l.all one1&&vs.all one1&&Nat.blt 0 k&&Nat.blt i n&&Nat.ble n c&&Nat.beq vs.length (k*sz)&&Nat.beq l.length (n*sz)&&
  Nat.blt 0 sz&&Nat.ble by_ 1000&&Nat.ble (n+k) 1000000
def ym(e sz by_:Nat)(m:Mem)(b off n c i k:Nat)(av:Addr)(ck:Nat):Option (Value×Mem):=
 match m.hp.get b,fk m ⟨b,off,none⟩ (n*sz),dA m sz k (.slice (some av) k ck)with
 | some (.cells _ N e' true),some l,some vs=>match wI m e e' sz b off n c i k av.block N by_ l vs with
  | true=>some (.slice (some ⟨m.nx,0,none⟩) (n+k) (n+k),(gd { m with hp:=m.hp.del b } (l.take (i*sz)++vs++l.drop (i*sz)) e true).2)
  | false=>none
 | _,_,_=>none
def IJ:Option Value->Bool
 | some (.slice ..)=>true
 | _=>false
def pX(cxb:Cx)(t e sz by_:Nat):List Value->Mem->Option (Value×Mem)
 | [.slice a n c,.int .i64 i,.slice v k ck],m=>
  match decide (i=(n:Int))with
  | true=>match IJ (cX cxb m t (.slice a n c) (some (.int .i64 i)) none none),Nat.blt 0 k with
   | true,true=>cQ cxb m [t,t] [.slice a n c,.slice v k ck]
   | _,_=>none
  | false=>match decide (0<=i),a,v with
   | true,some ⟨b,off,none⟩,some av=>match av.spot with
    | none=>ym e sz by_ m b off n c i.toNat k av ck
    | some _=>none
   | _,_,_=>none
 | _,_=>none
theorem wJ{E:Nat->Option AObj}{u m:Mem}(h:Bes E u m){b:Nat}(e:gQ u b=true):gQ m b=true:=by
 unfold gQ at e ⊢;cases hg:u.hp.get b with
 | none=>rw[hg]at e;cases e
 | some o=>rw[hg]at e;rw[h.got hg];exact e
theorem Ma{a:List Value}{u:Mem}{r:Value}{u':Mem}(e:oW a u=some (r,u'))(E:Nat->Option AObj)(m:Mem)(h:Bes E u m):∃m',oW a m=some (r,m')/\Bes E u' m':=by
 unfold oW at e ⊢;split at e
 .rename_i a n c b n' c';split at e
  .rename_i h1 h2;split at e
   .rename_i g1 g2 g3 g4;cases e;refine⟨m,?_,h⟩;have k4:(match m.hp.get b.block with|some (.cells _ n _ _)=>n|_=>0)=(match u.hp.get b.block with|some (.cells _ n _ _)=>n|_=>0):=by
     unfold gQ at g3;cases hg:u.hp.get b.block with
     | none=>rw[hg]at g3;cases g3
     | some o=>rw[h.got hg]
    simp only[Bool.and_eq_true]at g2;have g2':(gQ m a.block&&Nat.blt 0 n&&Nat.blt 0 n')=true:=by rw[wJ h g2.1.1,g2.1.2,g2.2];rfl
    simp only[h1,h2,g1,g2',wJ h g3,k4,g4]
   .cases e
  .cases e
 .cases e
theorem J4{E:Nat->Option AObj}{u m:Mem}(h:Bes E u m){e e' sz b off n c i k bv N by_:Nat}{l vs:List Value}(g:wI u e e' sz b off n c i k bv N by_ l vs=true):wI m e e' sz b off n c i k bv N by_ l vs=true:=by
 unfold wI at g ⊢;rw[h.nx,h.fl];simp only[Bool.and_eq_true]at g ⊢;obtain⟨⟨⟨⟨⟨⟨⟨⟨⟨⟨⟨⟨⟨⟨⟨⟨g1,g2⟩,g3⟩,g4⟩,g5⟩,g6⟩,g7⟩,g8⟩,g9⟩,g10⟩,g11⟩,g12⟩,g13⟩,g14⟩,g15⟩,g16⟩,g17⟩:=g;exact⟨⟨⟨⟨⟨⟨⟨⟨⟨⟨⟨⟨⟨⟨⟨⟨g1,g2⟩,g3⟩,g4⟩,wJ h g5⟩,g6⟩,g7⟩,g8⟩,g9⟩,g10⟩,g11⟩,g12⟩,g13⟩,g14⟩,g15⟩,g16⟩,g17⟩
theorem Mb{e sz by_:Nat}{u:Mem}{b off n c i k:Nat}{av:Addr}{ck:Nat}{r:Value}{u':Mem}(g:ym e sz by_ u b off n c i k av ck=some (r,u'))(E:Nat->Option AObj)(m:Mem)(h:Bes E u m):∃m',ym e sz by_ m b off n c i k av ck=some (r,m')/\Bes E u' m':=by
 unfold ym at g ⊢;split at g
 .rename_i cc N e' l vs h1 h2 h3;split at g
  .rename_i hok;cases g;have hd:=h.del (b:=b) (h.noE h1);obtain⟨_,hb⟩:=jM hd (l.take (i*sz)++vs++l.drop (i*sz)) e true;refine⟨_,?_,hb⟩;simp only[h.got h1,pT h h2,pU h h3,J4 h hok,h.nx]
  .cases g
 .cases g
theorem Mc{cxb:Cx}{t e sz by_:Nat}{a:List Value}{u:Mem}{r:Value}{u':Mem}(g:pX cxb t e sz by_ a u=some (r,u'))(E:Nat->Option AObj)(m:Mem)(h:Bes E u m):∃m',pX cxb t e sz by_ a m=some (r,m')/\Bes E u' m':=by
 unfold pX at g ⊢;split at g
 .rename_i a n c i v k ck;split at g
  .rename_i hd;split at g
   .rename_i h1 h2;obtain⟨m',p,q⟩:=zO h g;refine⟨m',?_,q⟩;have h1':IJ (cX cxb m t (.slice a n c) (some (.int .i64 i)) none none)=true:=by
     cases hs:cX cxb u t (.slice a n c) (some (.int .i64 i)) none none with
     | none=>rw[hs]at h1;cases h1
     | some x=>rw[hs]at h1;rw[zN h hs];exact h1
    (try simp only[hd,h1',h2]);exact p
   .cases g
  .rename_i hd;split at g
   .rename_i b off av h1;split at g
    .rename_i hs;obtain⟨m',p,q⟩:=Mb g E m h;refine⟨m',?_,q⟩
     (try simp only[hd,h1,hs]);exact p
    .cases g
   .cases g
 .cases g
theorem J5{a:List Value}{u:Mem}{r:Value}{u':Mem}(e:oW a u=some (r,u'))(hw:Wf u):Nice u u':=by
 unfold oW at e;split at e
 .split at e
  .split at e
   .cases e;exact Nice.refl hw
   .cases e
  .cases e
 .cases e
theorem FQ{u:Mem}(hw:Wf u)(b:Nat):Nice u { u with hp:=u.hp.del b }:=
 ⟨⟨hw.1,fun b' hb'=>by
  show (u.hp.del b).get b'=none;rw[Tr.get_del];split
  ·rfl
  ·exact hw.2 b' hb'⟩,rfl,gQ4 _⟩
theorem J6{e sz by_:Nat}{u:Mem}{b off n c i k:Nat}{av:Addr}{ck:Nat}{r:Value}{u':Mem}(g:ym e sz by_ u b off n c i k av ck=some (r,u'))(hw:Wf u):Nice u u':=by
 unfold ym at g;split at g
 .split at g
  .cases g;have h1:=FQ hw b;exact h1.trans (ik h1.wf _ _ _)
  .cases g
 .cases g
theorem J7{cxb:Cx}{t e sz by_:Nat}{a:List Value}{u:Mem}{r:Value}{u':Mem}(g:pX cxb t e sz by_ a u=some (r,u'))(hw:Wf u):Nice u u':=by
 unfold pX at g;split at g
 .split at g
  .split at g
   .exact yn hw g
   .cases g
  .split at g
   .split at g
    .exact J6 g hw
    .cases g
   .cases g
 .cases g
end
end Go.AX
namespace Go.AX
open Go
noncomputable section
def IK(cx:Cx)(t tint:TypeId)(kov krot:FuncId)(a0:Option Addr)(n0 c0:Nat)(x1:Int)(a2:Option Addr)(n2 c2:Nat)(m:Mem)(Q:Value->Mem->Prop):Prop:=
 (∃(a12:Option Addr) (n12 c12:Nat),cX cx m t (.slice a0 (n0) (c0)) (some (.int .i64 (x1))) none none=some (.slice a12 (n12) (c12))/\(splitB (cT (aQ (n2)) (0:Int))
 (Q (.slice a0 (n0) (c0)) m)
 (splitB (cT (x1) (aQ (n0)))
 (∃(a25:Option Addr) (n25 c25:Nat) (m1:Mem),cQ cx m [t,t] [.slice a0 (n0) (c0),.slice a2 (n2) (c2)]=some (.slice a25 (n25) (c25),m1)/\(Q (.slice a25 (n25) (c25)) m1))
 (∃x30:Int,mF cx m [t] [.slice a0 (n0) (c0)]=some (.int .i64 x30)/\(splitB (cR (x30) (bh .i64 (aQ (n0)) (aQ (n2))))
 (∃(a34:Option Addr) (n34 c34:Nat),cX cx m t (.slice a0 (n0) (c0)) none (some (.int .i64 (x1))) none=some (.slice a34 (n34) (c34))/\(∃(a40:Option Addr) (n40 c40:Nat) (m2:Mem),cQ cx m [t,tint] [.slice a34 (n34) (c34),.int .i64 (de .i64 (bh .i64 (aQ (n0)) (aQ (n2))) (x1))]=some (.slice a40 (n40) (c40),m2)/\(∃(a43:Option Addr) (n43 c43:Nat),cX cx m2 t (.slice a40 (n40) (c40)) (some (.int .i64 (x1))) none none=some (.slice a43 (n43) (c43))/\(∃(x45:Int) (m3:Mem),iK cx m2 [t,t] [.slice a43 (n43) (c43),.slice a2 (n2) (c2)]=some (.int .i64 x45,m3)/\(∃(a50:Option Addr) (n50 c50:Nat),cX cx ((bump m3 9)) t (.slice a40 (n40) (c40)) (some (.int .i64 (bh .i64 (x1) (aQ (n2))))) none none=some (.slice a50 (n50) (c50))/\(∃(a53:Option Addr) (n53 c53:Nat),cX cx ((bump m3 9)) t (.slice a0 (n0) (c0)) (some (.int .i64 (x1))) none none=some (.slice a53 (n53) (c53))/\(∃(x54:Int) (m4:Mem),iK cx ((bump m3 9)) [t,t] [.slice a50 (n50) (c50),.slice a53 (n53) (c53)]=some (.int .i64 x54,m4)/\(Q (.slice a40 (n40) (c40)) m4))))))))
 (∃(a60:Option Addr) (n60 c60:Nat),cX cx m t (.slice a0 (n0) (c0)) none (some (.int .i64 (bh .i64 (aQ (n0)) (aQ (n2))))) none=some (.slice a60 (n60) (c60))/\(∃(a66:Option Addr) (n66 c66:Nat),cX cx m t (.slice a60 (n60) (c60)) (some (.int .i64 (bh .i64 (x1) (aQ (n2))))) none none=some (.slice a66 (n66) (c66))/\(ah cx kov [.slice a2 (n2) (c2),.slice a66 (n66) (c66)] m fun r67 m5=>(∃(b67:Bool),r67=(.bool (b67))/\(splitB (!(b67))
 (∃(a73:Option Addr) (n73 c73:Nat),cX cx ((bump m5 9)) t (.slice a60 (n60) (c60)) (some (.int .i64 (bh .i64 (x1) (aQ (n2))))) none none=some (.slice a73 (n73) (c73))/\(∃(a76:Option Addr) (n76 c76:Nat),cX cx ((bump m5 9)) t (.slice a60 (n60) (c60)) (some (.int .i64 (x1))) none none=some (.slice a76 (n76) (c76))/\(∃(x77:Int) (m6:Mem),iK cx ((bump m5 9)) [t,t] [.slice a73 (n73) (c73),.slice a76 (n76) (c76)]=some (.int .i64 x77,m6)/\(∃(a80:Option Addr) (n80 c80:Nat),cX cx m6 t (.slice a60 (n60) (c60)) (some (.int .i64 (x1))) none none=some (.slice a80 (n80) (c80))/\(∃(x82:Int) (m7:Mem),iK cx m6 [t,t] [.slice a80 (n80) (c80),.slice a2 (n2) (c2)]=some (.int .i64 x82,m7)/\(Q (.slice a60 (n60) (c60)) m7))))))
 (∃(a86:Option Addr) (n86 c86:Nat),cX cx m5 t (.slice a60 (n60) (c60)) (some (.int .i64 (aQ (n0)))) none none=some (.slice a86 (n86) (c86))/\(∃(x88:Int) (m8:Mem),iK cx m5 [t,t] [.slice a86 (n86) (c86),.slice a2 (n2) (c2)]=some (.int .i64 x88,m8)/\(∃(a91:Option Addr) (n91 c91:Nat),cX cx m8 t (.slice a60 (n60) (c60)) (some (.int .i64 (x1))) none none=some (.slice a91 (n91) (c91))/\(ah cx krot [.slice a91 (n91) (c91),.int .i64 (aQ (n2))] m8 fun r93 m9=>r93=(.tuple #[])/\(Q (.slice a60 (n60) (c60)) m9)))))))))))))))
def ni(m:Mem)(b N:Nat)(e:TypeId)(x:Bool)(f:Nat->Option Value):Prop:=∃c,m.hp.get b=some (.cells c N e x)/\∀i,c.get i=f i
theorem ni.wr{m:Mem}{b N:Nat}{e:TypeId}{x:Bool}{f:Nat->Option Value}(h:ni m b N e x f)(o:Nat)(l:List Value):ni (wr m b o l) b N e x (fun i=>if o<=i/\i<o+l.length then l[i-o]? else f i):=by
 obtain⟨c,h1,h2⟩:=h;refine⟨ec c l o,?_,fun i=>by rw[kN,h2]⟩;unfold AX.wr;simp only[h1];show (m.hp.put b _).get b=_;rw[Tr.get_put,if_pos rfl]
theorem ni.congr{m m':Mem}{b N:Nat}{e:TypeId}{x:Bool}{f:Nat->Option Value}(h:ni m b N e x f)(hg:m'.hp.get b=m.hp.get b):ni m' b N e x f:=by
 obtain⟨c,h1,h2⟩:=h;exact⟨c,hg.trans h1,h2⟩
theorem ni.okW{m:Mem}{b N:Nat}{e:TypeId}{x:Bool}{f:Nat->Option Value}(h:ni m b N e x f)(hf:m.fl<=b){o n:Nat}(hn:o+n<=N):okW m b o n:=by
 obtain⟨c,h1,_⟩:=h;exact⟨hf,c,N,e,x,h1,hn⟩
theorem ni.rowAt{m:Mem}{b N:Nat}{e:TypeId}{x:Bool}{f:Nat->Option Value}(h:ni m b N e x f){o:Nat}{l:List Value}(hn:o+l.length<=N)(hl:∀j,j<l.length->f (o+j)=l[j]?):fk m ⟨b,o,none⟩ l.length=some l:=by
 obtain⟨c,h1,h2⟩:=h;rw[lH,h1];simp only[wG,gQ8 hn];exact oU fun j v hj=>by
  rw[h2,hl j (gQ1 hj).1,hj]
theorem ni.sameSize{cx:Cx}{m:Mem}{b N:Nat}{e:TypeId}{x:Bool}{f:Nat->Option Value}{s:Nat}(h:ni m b N e x f)(hs:dO cx e=some s):sameSize cx m b s=true:=by
 obtain⟨c,h1,_⟩:=h;unfold AX.sameSize;rw[h1];cases x with
 | false=>rfl
 | true=>simp[hs]
theorem vo{m:Mem}{s n nn c:Nat}{a:Addr}{l:List Value}(hn:0<n)(h:fk m a (n*s)=some l):dA m s n (.slice (some a) nn c)=some l:=by
 cases n with
 | zero=>omega
 | succ n=>exact h
theorem zx{cx:Cx}{m:Mem}{t e e':TypeId}{s b o dl dc n nc N k:Nat}{x:Bool}{f:Nat->Option Value}{src:Option Addr}{l:List Value}(ht:cx.un.get t=some (.slice e))(hs:dO cx e=some s)(hk:min n dl=k)
  (hsrc:dA m s k (.slice src n nc)=some l) (hne:0<l.length) (hc:ni m b N e' x f) (hfl:m.fl<=b) (hN:o+l.length<=N) (ho:l.all one1=true) :
  iK cx m [t,t] [.slice (some ⟨b,o,none⟩) dl dc,.slice src n nc]=some (.int .i64 (k:Nat),wr m b o l):=by
 unfold iK;simp only[ht,hs,mE,hk,hsrc];cases l with
 | nil=>simp at hne
 | cons v r=>
  simp only;rw[jf (hc.okW hfl hN) ho]
theorem FS{n k:Nat}(h:n+k<=1000000):bh .i64 (aQ n) (aQ k)=((n+k:Nat):Int):=by
 rw[show aQ n=(n:Int)from rfl,show aQ k=(k:Int)from rfl,dN (by omega) (by omega)];omega
def Oc(q0 sz n k:Nat)(e:TypeId)(res:List Value)(r:Value)(u:Mem):Prop:=
 ∃q o2 cp N x f,r = .slice (some ⟨q,o2,none⟩) (n+k) cp/\q0<=q/\ni u q N e x f/\o2+cp*sz<=N/\n+k<=cp/\∀j,j<res.length->f (o2+j)=res[j]?
theorem HS{l vs:List Value}{p j:Nat}(hp:p<=l.length):(l.take p++vs++l.drop p)[j]? = if j<p then l[j]? else if j<p+vs.length then vs[j-p]? else l[j-vs.length]?:=by
 by_cases h1:j<p
 .rw[if_pos h1,List.append_assoc,List.getElem?_append_left (by simp;omega),List.getElem?_take_of_lt h1]
 .rw[if_neg h1,List.append_assoc,List.getElem?_append_right (by simp;omega)];have hl:(l.take p).length=p:=by simp;omega
  rw[hl];by_cases h2:j<p+vs.length
  .rw[if_pos h2,List.getElem?_append_left (by omega)]
  .rw[if_neg h2,List.getElem?_append_right (by omega),List.getElem?_drop];congr 1;omega
theorem Md{cx:Cx}{t tint e:TypeId}{kov krot:FuncId}{sz q0 off n c i k ck:Nat}{inf:TypeInfo}{z:Value}{av:Addr}{m:Mem}{l vs:List Value}{f:Nat->Option Value}{N:Nat}
  (hni:mG cx) (hov:cx.ov.get kov=some oW) (ht:cx.un.get t=some (.slice e)) (htint:cx.un.get tint=some (.int .i64)) (hi:cx.ty.get e=some inf) (his:inf.size=sz) (hz:fB cx e=some z) (hzl:(bQ z).length=sz) (hzo:(bQ z).all one1=true) (hby:inf.bytes<=1000) (hsz:0<sz)
  (hw:Wf m) (hq:ni m q0 N e false f) (hN:off+c*sz=N) (hfl:m.fl=q0) (hnx:m.nx=q0+1) (hll:l.length=n*sz) (hf:∀j,j<l.length->f (off+j)=l[j]?) (hlo:l.all one1=true) (hnc:n<=c)
  (hav:av.spot=none) (hne:av.block≠q0) (hcb:gQ m av.block=true) (hv:dA m sz k (.slice (some av) k ck)=some vs) (hvl:vs.length=k*sz) (hvo:vs.all one1=true) (hk:0<k) (hin:i<n) (hnk:n+k<=1000000) :
  IK cx t tint kov krot (some ⟨q0,off,none⟩) n c (i:Int) (some av) k ck m (Oc q0 sz n k e (l.take (i*sz)++vs++l.drop (i*sz))):=by
 have hs:dO cx e=some sz:=by unfold dO;rw[hi,<-his]
 have e1:bh .i64 (aQ n) (aQ k)=((n+k:Nat):Int):=FS hnk;have e2:bh .i64 (i:Int) (aQ k)=((i+k:Nat):Int):=FS (n:=i) (by omega);have his2:i*sz<=n*sz:=Nat.mul_le_mul_right _ (by omega);have hin2:(i+1)*sz<=n*sz:=Nat.mul_le_mul_right _ (by omega);have hin3:(i+1)*sz=i*sz+sz:=Nat.succ_mul _ _;have hik:(i+k)*sz=i*sz+k*sz:=Nat.add_mul _ _ _;have hnks:(n+k)*sz=n*sz+k*sz:=Nat.add_mul _ _ _;have hks:1*sz<=k*sz:=Nat.mul_le_mul_right _ (by omega);have hncs:n*sz<=c*sz:=Nat.mul_le_mul_right _ hnc;have hdl:(l.drop (i*sz)).length=(n-i)*sz:=by rw[List.length_drop,hll,Nat.sub_mul]
 have hdo:(l.drop (i*sz)).all one1=true:=List.all_eq_true.2 fun v hv=>List.all_eq_true.1 hlo v (List.mem_of_mem_drop hv)
 have hni1:1*sz<=(n-i)*sz:=Nat.mul_le_mul_right _ (by omega);have hnis:(n-i)*sz=n*sz-i*sz:=Nat.sub_mul _ _ _;unfold IK;refine⟨_,_,_,eR ht hs rfl (dC (by omega)) (hq.sameSize hs) hnc,?_⟩;refine fe.2 ⟨fun h=>?_,fun _=>?_⟩
 .have:=eH.1 h;simp[aQ]at this;omega
 refine fe.2 ⟨fun h=>?_,fun _=>?_⟩
 .have:=eH.1 h;simp[aQ]at this;omega
 refine⟨(c:Int),?_,?_⟩
 .unfold mF;obtain⟨c',h1,_⟩:=hq;simp only[ht,h1]
 rw[e1,e2];refine fe.2 ⟨fun h=>?_,fun h=>?_⟩
 ·
  have hc:c<n+k:=by have:=gH.1 h;omega
  have e3:de .i64 ((n+k:Nat):Int) (i:Int)=((n+k-i:Nat):Int):=by rw[eO (by omega) (by omega)];omega
  rw[e3];refine⟨some ⟨q0,off,none⟩,i,c,?_,?_⟩
  .have:=eR (cx:=cx) (m:=m) (t:=t) (e:=e) (s:=sz) (b:=q0) (o:=off) (n:=n) (c:=c) (i:=0) (j:=i) (lo:=none) (hi:=some (.int .i64 (i:Int))) ht hs (dC (by omega)) mA (hq.sameSize hs) (by omega);simpa using this
  have hfirst:dA m sz i (.slice (some ⟨q0,off,none⟩) i c)=some (l.take (i*sz)):=by
   have hlt:(l.take (i*sz)).length=i*sz:=by simp;omega
   cases i with
   | zero=>simp[dA]
   | succ i=>
    refine vo (by omega) ?_;have:=hq.rowAt (o:=off) (l:=l.take ((i+1)*sz)) (by omega) (fun j hj=>by
     rw[hf j (by omega),List.getElem?_take_of_lt (by omega)])
    rwa [hlt]at this
  have hzz:(ey (bQ z) (n+k-i)).length=(n+k-i)*sz:=by rw[oG,hzl]
  have hzo':∀j,(ey (bQ z) j).all one1=true:=by
   intro j
   induction j with
   | zero=>rfl
   | succ j ih=>simp only[ey,List.all_append,hzo,ih,Bool.and_self]
  have hap:cQ cx m [t,tint] [.slice (some ⟨q0,off,none⟩) i c,.int .i64 ((n+k-i:Nat):Int)]=some (.slice (some ⟨m.nx,0,none⟩) (n+k) (n+k),newO m (row (l.take (i*sz)++ey (bQ z) (n+k-i)) e true)):=by
   unfold cQ;simp only[ht,htint,hi,mE,iR];unfold lj;have b1:(decide (0<=((n+k-i:Nat):Int))&&decide (((n+k-i:Nat):Int)<=1000000000)&&Nat.ble (((n+k-i:Nat):Int).toNat*inf.bytes) 281474976710656&&Nat.beq (bQ z).length inf.size&&Nat.blt 0 inf.size)=true:=by
    have h1:((n+k-i:Nat):Int).toNat*inf.bytes<=1000000*1000:=Nat.mul_le_mul (by omega) hby;simp only[Bool.and_eq_true,decide_eq_true_eq];refine⟨⟨⟨⟨by omega,by omega⟩,gQ8 (by omega)⟩,by rw[hzl,his];exact Nat.beq_refl _⟩,by rw[his];exact gQ8 hsz⟩
   simp only[Bi,hz,b1];simp only[Int.toNat_natCast];unfold kh;rw[his];have b2:(Nat.beq (ey (bQ z) (n+k-i)).length ((n+k-i)*sz)&&Nat.blt 0 sz&&(ey (bQ z) (n+k-i)).all one1)=true:=by
    rw[hzz,hzo',Tr.beq_true.2 rfl,show Nat.blt 0 sz=true from gQ8 hsz];rfl
   have b3:Nat.ble (i+(n+k-i)) c=false:=by
    cases hh:Nat.ble (i+(n+k-i)) c with
    | false=>rfl
    | true=>have:=gQ6 hh;omega
   have b4:(Nat.ble ((2*(i+(n+k-i))+192)*inf.bytes) 140737488355328&&Nat.ble (i+(n+k-i)) 1099511627776)=true:=by
    have h1:(2*(i+(n+k-i))+192)*inf.bytes<=2000192*1000:=Nat.mul_le_mul (by omega) hby;rw[gQ8 (by omega),gQ8 (by omega)];rfl
   have b5:giveUp m (some ⟨q0,off,none⟩) e sz c=some m:=by
    unfold giveUp;obtain⟨c',h1,_⟩:=hq;simp only[h1]
   have b6:(Nat.beq (l.take (i*sz)).length (i*sz)&&Nat.beq (bQ z).length sz)=true:=by
    rw[hzl,show (l.take (i*sz)).length=i*sz by simp;omega,Tr.beq_true.2 rfl,Tr.beq_true.2 rfl];rfl
   simp only[b2,b3,b4,hfirst,hz,b5,b6];rw[show i+(n+k-i)=n+k by omega];rfl
  refine⟨_,_,_,_,hap,?_⟩;have hL0:(l.take (i*sz)++ey (bQ z) (n+k-i)).length=(n+k)*sz:=by
   rw[gR2,hzz,List.length_take,Nat.sub_mul];omega
  have hc2:ni (newO m (row (l.take (i*sz)++ey (bQ z) (n+k-i)) e true)) m.nx ((n+k)*sz) e true (fun j=>(l.take (i*sz)++ey (bQ z) (n+k-i))[j]?):=by
   refine⟨ec .nil (l.take (i*sz)++ey (bQ z) (n+k-i)) 0,?_,fun j=>?_⟩
   .rw[kM,if_pos rfl,row,hL0]
   .rw[kN];by_cases hj:j<(l.take (i*sz)++ey (bQ z) (n+k-i)).length
    .rw[if_pos ⟨by omega,by omega⟩];simp
    .rw[if_neg (by omega)];show _=(l.take (i*sz)++ey (bQ z) (n+k-i))[j]?;rw[List.getElem?_eq_none (by omega)];rfl
  generalize hm2:newO m (row (l.take (i*sz)++ey (bQ z) (n+k-i)) e true)=m2 at hc2;have fl2:m2.fl=q0:=by rw[<-hm2];exact hfl
  have nx2:m2.nx=q0+2:=by rw[<-hm2];show m.nx+1=_;omega
  have g2:∀b,b≠m.nx->m2.hp.get b=m.hp.get b:=fun b hb=>by rw[<-hm2,kM,if_neg hb]
  have hq2:ni m2 q0 N e false f:=hq.congr (g2 _ (by omega));refine⟨_,_,_,eR ht hs rfl (dC (by omega)) (hc2.sameSize hs) (gQ4 _),?_⟩;have hvx:av.block<m.nx:=by
   unfold gQ at hcb;split at hcb
   .rename_i hg;exact hw.lt hg
   .cases hcb
  have hv2:dA m2 sz k (.slice (some av) k ck)=some vs:=by
   cases k with
   | zero=>omega
   | succ k=>
    simp only[dA]at hv ⊢;obtain⟨ab,ao,asp⟩:=av;simp only at hav;subst hav;rw[lH]at hv ⊢;rw[g2 ab (by simp only at hvx;omega)];exact hv
  refine⟨_,_,zx (l:=vs) (k:=k) ht hs (by omega) hv2 (by omega) hc2 (by omega) (by omega) hvo,?_⟩;rw[Nat.zero_add];have hc3:=hc2.wr (i*sz) vs;have hq3:ni (wr m2 m.nx (i*sz) vs) q0 N e false f:=hq2.congr (ln (by omega));have fl3:(wr m2 m.nx (i*sz) vs).fl=q0:=by rw[Bp];exact fl2
  generalize wr m2 m.nx (i*sz) vs=m3 at hc3 hq3 fl3;have hc3':ni (bump m3 9) m.nx ((n+k)*sz) e true _:=hc3;have hq3':ni (bump m3 9) q0 N e false f:=hq3;refine⟨_,_,_,eR ht hs rfl (dC (by omega)) (hc3'.sameSize hs) (gQ4 _),?_⟩;refine⟨_,_,_,eR ht hs rfl (dC (by omega)) (hq3'.sameSize hs) hnc,?_⟩;have hsrc:dA (bump m3 9) sz (n-i) (.slice (some ⟨q0,off+i*sz,none⟩) (n-i) (c-i))=some (l.drop (i*sz)):=by
   refine vo (by omega) ?_;rw[<-hdl];exact hq3'.rowAt (by omega) (fun j hj=>by
    rw[Nat.add_assoc,hf (i*sz+j) (by omega),List.getElem?_drop])
  refine⟨_,_,zx (l:=l.drop (i*sz)) (k:=n-i) ht hs (by omega) hsrc (by omega) hc3' (by show m3.fl<=_;omega) (by rw[hdl,hik,hnks,hnis];omega) hdo,?_⟩;rw[Nat.zero_add];refine⟨m.nx,0,n+k,_,true,_,rfl,by omega,hc3'.wr ((i+k)*sz) (l.drop (i*sz)),by omega,gQ4 _,fun j hj=>?_⟩;have hres:(l.take (i*sz)++vs++l.drop (i*sz)).length=n*sz+k*sz:=by simp;omega
  rw[hres]at hj;rw[Nat.zero_add,HS (by omega),hdl];by_cases j1:j<i*sz
  .rw[if_neg (by omega),if_neg (by omega),if_pos j1,List.getElem?_append_left (by simp;omega),List.getElem?_take_of_lt j1]
  .rw[if_neg j1];by_cases j2:j<i*sz+vs.length
   .rw[if_neg (by omega),if_pos (by omega),if_pos j2]
   .rw[if_pos (by omega),if_neg j2,List.getElem?_drop];congr 1;omega
 ·
  have hc:n+k<=c:=by have:=dW.1 h;omega
  have hcs:(n+k)*sz<=c*sz:=Nat.mul_le_mul_right _ hc;refine⟨some ⟨q0,off,none⟩,n+k,c,?_,?_⟩
  .have:=eR (cx:=cx) (m:=m) (t:=t) (e:=e) (s:=sz) (b:=q0) (o:=off) (n:=n) (c:=c) (i:=0) (j:=n+k) (lo:=none) (hi:=some (.int .i64 ((n+k:Nat):Int))) ht hs (dC (by omega)) mA (hq.sameSize hs) hc;simpa using this
  refine⟨_,_,_,eR ht hs rfl (dC (by omega)) (hq.sameSize hs) hc,?_⟩;refine ah.ov (r:=.bool false) (u':=m) hni hov ?_ ?_
  .obtain⟨ab,ao,asp⟩:=av;simp only at hav hne hcb;subst hav;unfold oW;obtain⟨c',h1,_⟩:=hq;have g1:Nat.beq ab q0=false:=Tr.beq_false.2 hne;have g2:(gQ m ab&&Nat.blt 0 k&&Nat.blt 0 (n+k-(i+k)))=true:=by
    rw[hcb,show Nat.blt 0 k=true from gQ8 hk,show Nat.blt 0 (n+k-(i+k))=true from gQ8 (by omega)];rfl
   have g3:gQ m q0=true:=by unfold gQ;rw[h1]
   have g4:Nat.blt 0 N=true:=gQ8 (by omega);simp only[g1,g2,g3,h1,g4]
  refine⟨false,rfl,?_⟩;show splitB true _ _;rw[eG];have hq':ni (bump m 9) q0 N e false f:=hq;refine⟨_,_,_,eR ht hs rfl (dC (by omega)) (hq'.sameSize hs) hc,?_⟩;refine⟨_,_,_,eR ht hs rfl (dC (by omega)) (hq'.sameSize hs) hc,?_⟩;have hsrc:dA (bump m 9) sz (n-i) (.slice (some ⟨q0,off+i*sz,none⟩) (n+k-i) (c-i))=some (l.drop (i*sz)):=by
   refine vo (by omega) ?_;rw[<-hdl];exact hq'.rowAt (by omega) (fun j hj=>by
    rw[Nat.add_assoc,hf (i*sz+j) (by omega),List.getElem?_drop])
  refine⟨_,_,zx (l:=l.drop (i*sz)) (k:=n-i) ht hs (by omega) hsrc (by omega) hq' (by show m.fl<=_;omega) (by rw[hdl,hik,hnis];omega) hdo,?_⟩;have hq3:=hq'.wr (off+(i+k)*sz) (l.drop (i*sz));have fl3:(wr (bump m 9) q0 (off+(i+k)*sz) (l.drop (i*sz))).fl=q0:=by rw[Bp];exact hfl
  have g3:∀b,b≠q0->(wr (bump m 9) q0 (off+(i+k)*sz) (l.drop (i*sz))).hp.get b=m.hp.get b:=fun b hb=>ln hb
  generalize wr (bump m 9) q0 (off+(i+k)*sz) (l.drop (i*sz))=m3 at hq3 fl3 g3;refine⟨_,_,_,eR ht hs rfl (dC (by omega)) (hq3.sameSize hs) hc,?_⟩;have hv2:dA m3 sz k (.slice (some av) k ck)=some vs:=by
   cases k with
   | zero=>omega
   | succ k=>
    simp only[dA]at hv ⊢;obtain⟨ab,ao,asp⟩:=av;simp only at hav hne;subst hav;rw[lH]at hv ⊢;rw[g3 ab hne];exact hv
  refine⟨_,_,zx (l:=vs) (k:=k) ht hs (by omega) hv2 (by omega) hq3 (by omega) (by omega) hvo,?_⟩;refine⟨q0,off,c,_,false,_,rfl,gQ4 _,hq3.wr (off+i*sz) vs,by omega,hc,fun j hj=>?_⟩;have hres:(l.take (i*sz)++vs++l.drop (i*sz)).length=n*sz+k*sz:=by simp;omega
  rw[hres]at hj;rw[HS (by omega),hdl];by_cases j1:j<i*sz
  .rw[if_neg (by omega),if_neg (by omega),if_pos j1,hf j (by omega)]
  .rw[if_neg j1];by_cases j2:j<i*sz+vs.length
   .rw[if_pos (by omega),if_pos j2];congr 1;omega
   .rw[if_neg (by omega),if_pos (by omega),if_neg j2,List.getElem?_drop];congr 1;omega
end
end Go.AX
