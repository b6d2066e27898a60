import Derived.Test.YthpnifigjfplbaaGreatQU32
import Derived.Test.YthpnifigjfplbaaGreatQU33
import Derived.KernelRfl
import Derived.Test.YthpnifigjfplbaaGreatQU24
set_option linter.unusedVariables false
set_option linter.unusedSimpArgs false
set_option linter.unusedSectionVars false
namespace Go.Proofs.YthpnifigjfplbaaGreat.vc
open Go Go.AX
@[reducible] def QK (e:pm.Ev):Value:=.agg #[.int .i64 e.at_,.int .i64 e.kind,.int .i64 e.who,.int .i64 e.n]
section
variable {m:Mem} {Q:Value->Mem->Prop} {M now:Int} {a1 a2 a3:Option Addr} {n1 c1 n2 c2 n3 c3:Nat} {σ : pm.St}
theorem Di{id q p b d mo:Int}{a:Option Addr}{n c:Nat}{sec held num ran:Int}(hw:Wf m)(h:∀m',Keep m m'->Q (.bool (cT mo 0)) m') :
  ah cx jk [.agg #[.int .i64 id,.int .i64 q,.int .i64 p,.int .i64 b,.int .i64 d,.int .i64 mo,.slice a n c,.int .i64 sec,.int .i64 held,.int .i64 num,.int .i64 ran]] m Q:=by
 apply xF;unfold sC;exact h _ (Keep.refl hw).bump
theorem ul{k who n:Int}(hw:Wf m)(h:∀m',Keep m m'->Q (QK ⟨now,k,who,n⟩) m') :
  ah cx dF [.agg #[.int .i64 M,.int .i64 now,.slice a1 n1 c1,.slice a2 n2 c2,.slice a3 n3 c3],.int .i64 k,.int .i64 who,.int .i64 n] m Q:=by
 apply vM;unfold qC;exact h _ (Keep.refl hw).bump
theorem Ql{x y:Int}:cR (pl.c2 x y) 0=cR x y:=by
 unfold pl.c2 cR;by_cases h1:x<y
 .simp[h1]
 .by_cases h2:y<x<;>simp[h1,h2]
theorem Qm{x y:Int}:cT (pl.c2 x y) 0=cT x y:=by
 unfold pl.c2 cT;by_cases h1:x<y
 .rw[if_pos h1];simp;omega
 .by_cases h2:y<x
  .rw[if_neg h1,if_pos h2];simp;omega
  .rw[if_neg h1,if_neg h2];simp;omega
theorem Lv{id q p b d mo:Int}{a:Option Addr}{n c:Nat}{sec held num ran x:Int}(hw:Wf m)(h:∀m',Keep m m'->Q (.int .i64 (pl.c2 id x)) m') :
  ah cx kG [.agg #[.int .i64 id,.int .i64 q,.int .i64 p,.int .i64 b,.int .i64 d,.int .i64 mo,.slice a n c,.int .i64 sec,.int .i64 held,.int .i64 num,.int .i64 ran],.int .i64 x] m Q:=by
 apply wl;unfold rQ;exact vD ⟨_,rfl,h _ (Keep.refl hw).bump⟩
theorem JE{ss:List SV}{l:List pm.Serv}{id:Int}(hw:Wf m)(ha:Arr encS 11 m a1 n1 ss)(hs:All2 (RdServ m) ss l)(hr:Rise l)(hn:n1<=100000)
  (h:∀m',Keep m m'->Q (.tuple #[.int .i64 (pm.at_ l id:Nat),.bool (pm.has l id)]) m') :
  ah cx fU [.slice a1 n1 c1,.int .i64 id,.func (.func kG) #[] #[]] m Q:=by
 apply lB;unfold im;have hl:l.length=n1:=by rw[<-hs.len,ha.1]
 refine⟨fun x9 x10 m1 w=>∃i j:Nat,x9=(i:Int)/\x10=(j:Int)/\i<=j/\j<=n1/\w=j-i/\Keep m m1/\(∀k x,k<i->l[k]? = some x->x.id<id)/\(∀k x,j<=k->l[k]? = some x->id<=x.id),
  ⟨n1,0,n1,rfl,rfl,Nat.zero_le _,gQ4 _,rfl,Keep.refl hw,fun k x hk=>by omega,fun k x hk hx=>by have:=(gQ1 hx).1;omega⟩,?_⟩
 rintro x9 x10 m1 w ⟨i,j,rfl,rfl,hij,hj,rfl,k1,g1,g2⟩;refine dP (fun hlt=>?_) (fun hge=>?_)
 .simp only[half (show i+j<1000000 by omega)];have hh:(i+j) / 2<n1:=by omega
  obtain⟨sv,hsv⟩:=ha.get hh;obtain⟨x,hx,hR⟩:=hs.get hsv;refine⟨by decide,ha.open hsv fun b o hc=>?_⟩;have hc1:=hc.keep hw k1;refine⟨_,hc1 0 _ rfl,_,hc1 1 _ rfl,_,hc1 2 _ rfl,_,hc1 3 _ rfl,_,hc1 4 _ rfl,_,hc1 5 _ rfl,_,_,_,hc1 6 _ rfl,_,hc1 7 _ rfl,_,hc1 8 _ rfl,_,hc1 9 _ rfl,_,hc1 10 _ rfl,?_⟩;refine Lv k1.wf fun m2 k2=>⟨_,rfl,?_⟩
  rw[Ql,hR.id];refine dP (fun h1=>?_) (fun h1=>?_)
  .refine⟨j-((i+j) / 2+1),by omega,(i+j) / 2+1,j,?_,rfl,by omega,hj,rfl,k1.trans k2,fun k y hk hy=>?_,g2⟩
   .rw[dN (by omega) (by omega)];omega
   .by_cases e:k=(i+j) / 2
    .subst e;rw[hx]at hy;cases hy;exact h1
    .have:=hr.lt (show k<(i+j) / 2 by omega) hy hx;omega
  .refine⟨(i+j) / 2-i,by omega,i,(i+j) / 2,rfl,rfl,by omega,by omega,rfl,k1.trans k2,g1,fun k y hk hy=>?_⟩;by_cases e:k=(i+j) / 2
   .subst e;rw[hx]at hy;cases hy;exact h1
   .have:=hr.lt (show (i+j) / 2<k by omega) hx hy;omega
 .have hat:pm.at_ l id=i:=NS hr (by omega) g1 fun k x hk hx=>g2 k x (by omega) hx
  refine dG (fun hlt=>?_) (fun hge=>?_)
  .obtain⟨sv,hsv⟩:=ha.get hlt;obtain⟨x,hx,hR⟩:=hs.get hsv;refine ha.open hsv fun b o hc=>?_
   have hc1:=hc.keep hw k1;refine⟨_,hc1 0 _ rfl,_,hc1 1 _ rfl,_,hc1 2 _ rfl,_,hc1 3 _ rfl,_,hc1 4 _ rfl,_,hc1 5 _ rfl,_,_,_,hc1 6 _ rfl,_,hc1 7 _ rfl,_,hc1 8 _ rfl,_,hc1 9 _ rfl,_,hc1 10 _ rfl,?_⟩;refine Lv k1.wf fun m2 k2=>⟨_,rfl,?_⟩
   refine dw h (k1.trans k2) ?_;rw[Qm,hR.id,hat];have:pm.has l id=cT x.id id:=by unfold pm.has;rw[hat,hx]
   rw[this]
  .refine dw h k1 ?_;have:pm.has l id=false:=by unfold pm.has;rw[hat,List.getElem?_eq_none (by omega)]
   rw[hat,this]
theorem zH{id:Int}(hw:Wf m)(hσ : RdSt cx m M now a1 n1 a2 n2 a3 n3 c3 σ)(hr:Rise σ.servs)(hn:n1<=100000)
  (h:∀m',Keep m m'->Q (.tuple #[.int .i64 (pm.at_ σ.servs id:Nat),.bool (pm.has σ.servs id)]) m') :
  ah cx gm [.agg #[.int .i64 M,.int .i64 now,.slice a1 n1 c1,.slice a2 n2 c2,.slice a3 n3 c3],.int .i64 id] m Q:=by
 apply xW;unfold ut;have k0:Keep m (bump m 1):=(Keep.refl hw).bump;obtain⟨ss,ha,hs⟩:=(hσ.keep hw k0).servs;exact JE k0.wf ha hs hr hn fun m1 k1=>⟨_,_,rfl,h m1 (k0.trans k1)⟩
theorem OT{id:Int}(hw:Wf m)(hσ : RdSt cx m M now a1 n1 a2 n2 a3 n3 c3 σ)(hn:n3<=100000)
  (h:∀m',Keep m m'->Q (.int .i64 (match pm.back σ.backs id with|some i=>(i:Int)|none=>-1)) m') :
  ah cx nH [.agg #[.int .i64 M,.int .i64 now,.slice a1 n1 c1,.slice a2 n2 c2,.slice a3 n3 c3],.int .i64 id] m Q:=by
 apply wn;unfold rR;rw[cO];have k0:Keep m (newO (bump m 1) (row [.int .i64 id] t_int false)):=(Keep.refl hw).bump.newO;have hR:Row (newO (bump m 1) (row [.int .i64 id] t_int false)) (bump m 1).nx [.int .i64 id] t_int false:=Row.newO;generalize newO (bump m 1) (row [.int .i64 id] t_int false)=m0 at k0 hR;have ha:=hσ.backs.keep hw k0;have hl:=ha.1;apply nZ;unfold jV;refine og (show n3<=4611686018427387904 by omega) (fun k m1=>Keep m0 m1/\∀j x,j<k->σ.backs[j]? = some x->cT x.id id=false) ⟨Keep.refl k0.wf,fun j x hj=>by omega⟩ ?_;rintro k m1 hk ⟨k1,hb⟩ I w hI;refine dG (fun hlt=>?_) (fun hge=>?_)
 .obtain⟨x,hx⟩:=ha.get hlt;refine ha.open hx fun b o hc=>?_
  have hc1:=hc.keep k0.wf k1;refine⟨x.id,hc1 0 _ rfl,x.ran,hc1 1 _ rfl,?_⟩;show ah cx me [.agg #[.int .i64 x.id,.int .i64 x.ran],.pointer (some ⟨(bump m 1).nx,0,none⟩)] m1 _;apply uA;unfold qo;rw[cW];refine⟨id,by rw[CX,(k1.row k0.wf hR).rd];rfl,_,rfl,?_⟩;have k2:Keep m1 (bump m1 1):=(Keep.refl k1.wf).bump;refine cJ (fun h1=>?_) (fun h1=>?_)
  .refine⟨_,rfl,dw h ((k0.trans k1).trans k2) ?_⟩;obtain⟨hlk1,hlk2⟩:=(gQ1 hx);have:pm.back σ.backs id=some k:=List.findIdx?_eq_some_iff_getElem.2 ⟨hlk1,by rw[hlk2];exact h1,fun j hj=>by rw[hb j _ hj (gQ2 (by omega))];simp⟩;rw[this]
  .exact hI _ hlt ⟨k1.trans k2,fun j y hj hy=>by
    by_cases e:j=k
    ·subst e;rw[hx]at hy;cases hy;exact h1
    ·exact hb j y (by omega) hy⟩
 .refine⟨_,rfl,dw h (k0.trans k1) ?_⟩;have:pm.back σ.backs id=none:=List.findIdx?_eq_none_iff.2 fun x hx=>by
   obtain⟨i,hi⟩:=List.getElem?_of_mem hx;have:=(gQ1 hi).1;exact hb i x (by omega) hi
  rw[this]
end
end Go.Proofs.YthpnifigjfplbaaGreat.vc
namespace Go.Proofs.YthpnifigjfplbaaGreat.vc
open Go Go.AX
set_option maxRecDepth 100000
noncomputable section
def Au(k:Option Addr)(i j:Nat)(m:Mem)(Q:Value->Mem->Prop):Prop:=
 ah cx jz [.slice k i j] m fun d f=>∃a c b,d=(.slice a c b)/\(ah cx eQ [.slice a c b,.func (.func fA) #[] #[]] f fun e g=>e=(.tuple #[])/\Q (.slice a c b) g)
theorem Dn{k:Option Addr}{i j:Nat}{m:Mem}{Q:Value->Mem->Prop}(h:Au k i j m Q):ah cx vG [.slice k i j] m Q:=
 ah.of (fn:=Tryz.f154) (LS:=[]) (ann:=[]) di db (by kernel_rfl) (by kernel_rfl) (Eq.mp (by kernel_rfl) h)
def Av(o:Int)(q:Option Addr)(t s:Nat)(m:Mem)(Q:Value->Mem->Prop):Prop:=
 ah cx xt [.int .i64 o,.slice q t s] m fun r f=>∃n,r=(.bool n)/\splitB (!n) (Q (.tuple #[.slice none 0 0,.slice none 0 0]) f) (ah cx vG [.slice q t s] f fun p c=>∃d a b,p=(.slice d a b)/\∃e i g,cX cx (bump c 8) ib (.slice d a b) none (some (.int .i64 (fG o (aQ a)))) none=some (.slice e i g)/\∃l k j,cX cx (bump c 8) ib (.slice d a b) (some (.int .i64 (fG o (aQ a)))) none none=some (.slice l k j)/\Q (.tuple #[.slice e i g,.slice l k j]) (bump c 8))
theorem Do{o:Int}{q:Option Addr}{t s:Nat}{m:Mem}{Q:Value->Mem->Prop}(h:Av o q t s m Q):ah cx vH [.int .i64 o,.slice q t s] m Q:=
 ah.of (fn:=Tryz.f121) (LS:=[]) (ann:=[]) di db (by kernel_rfl) (by kernel_rfl) (Eq.mp (by kernel_rfl) h)
def Cu(q:Int)(y:Option Addr)(o z:Nat)(m:Mem)(Q:Value->Mem->Prop):Prop:=
 dJ (fun(i:Mem)=>(cY (newO i (.map [] 0)) fun t=>∃e:Int->Int->Mem->Nat->Prop,(∃u:Nat,e 0 0 t u)/\∀d b a f,e d b a f->splitB (cR b (aQ o)) ((0<=b/\b<((o:Nat):Int))/\(cZ y fun j k=>∃c,rd a j (k+Int.toNat b*3)=some (.int .i64 c)/\∃v,rd a j (k+Int.toNat b*3+1)=some (.int .i64 v)/\∃n,rd a j (k+Int.toNat b*3+2)=some (.bool n)/\(dJ (fun(w:Mem)=>∃g,fN cx w qU (.map (some i.nx)) (.int .i64 c) (.bool true)=some g/\splitB n (∃r:Nat,r<f/\e (bh .i64 d 1) (bh .i64 b 1) g r) (∃p:Nat,p<f/\e d (bh .i64 b 1) g p)) fun s=>splitB (cR c 0) (Q (.bool false) (bump a 1)) (splitB (leI 1024 c) (Q (.bool false) (bump a 1)) (∃l,mw cx (bump a 1) qU (.map (some i.nx)) (.int .i64 c) false=some (.bool l)/\splitB l (Q (.bool false) (bump a 1)) (s (bump a 1))))))) (Q (.bool (leI d q)) a))) fun x=>splitB (cR q 1) (Q (.bool false) m) (splitB (cR 64 q) (Q (.bool false) m) (splitB (cR 64 (aQ o)) (Q (.bool false) m) (x m)))
theorem Fi{q:Int}{y:Option Addr}{o z:Nat}{m:Mem}{Q:Value->Mem->Prop}(h:Cu q y o z m Q):ah cx xt [.int .i64 q,.slice y o z] m Q:=
 ah.of (fn:=Tryz.f153) (LS:=[8]) (ann:=[none,some ⟨[0,1],[],[],[],[],0⟩,none,none,none,none,none,none,some ⟨[0,5,21,22],[(6,.int .i64),(23,.int .i64)],[],[],[],1⟩,none,none,none,none,some ⟨[0,5,6,21,22,23],[],[(8,2,0)],[2],[],4⟩]) di db (by kernel_rfl) (by kernel_rfl) (Eq.mp (by kernel_rfl) h)
def Cv(I:Int)(F:Option Addr)(H G:Nat)(m:Mem)(Q:Value->Mem->Prop):Prop:=
 ah cx vH [.int .i64 I,.slice F H G] m fun D A=>∃p g B z y u,D=(.tuple #[.slice p g B,.slice z y u])/\∃f:Option Addr->Nat->Nat->Int->Mem->Nat->Prop,(∃C:Nat,f none 0 0 0 A C)/\∀c e d a b o,f c e d a b o->splitB (cR a (aQ g)) ((0<=a/\a<((g:Nat):Int))/\(cZ p fun i j=>∃s,rd b i (j+Int.toNat a*3)=some (.int .i64 s)/\∃x,rd b i (j+Int.toNat a*3+1)=some (.int .i64 x)/\∃t,rd b i (j+Int.toNat a*3+2)=some (.bool t)/\(cY (newO (bump b 1) (row [.int .i64 s] t_int false)) fun v=>∃l k r q,cQ cx v [dt,dt] [.slice c e d,.slice (some ⟨(bump b 1).nx,0,none⟩) 1 1]=some (.slice l k r,q)/\∃n:Nat,n<o/\f l k r (bh .i64 a 1) q n))) (ah cx fO [.slice c e d] b fun E w=>E=(.tuple #[])/\Q (.slice c e d) w)
theorem Fj{I:Int}{F:Option Addr}{H G:Nat}{m:Mem}{Q:Value->Mem->Prop}(h:Cv I F H G m Q):ah cx xu [.int .i64 I,.slice F H G] m Q:=
 ah.of (fn:=Tryz.f82) (LS:=[9]) (ann:=[none,none,none,none,none,some ⟨[16,17],[(5,.sl),(18,.int .i64)],[],[],[],0⟩]) di db (by kernel_rfl) (by kernel_rfl) (Eq.mp (by kernel_rfl) h)
def mT(j:Option Addr)(f g:Nat)(m:Mem)(Q:Value->Mem->Prop):Prop:=
 ∃d,gj cx m 40 ib (.slice j f g) (.slice none 0 0)=some d/\splitB d (Q (.slice none 0 0) m) (cY (newO m (row [] iS false)) fun i=>∃e b c a,cQ cx i [ib,ib] [.slice (some ⟨m.nx,0,none⟩) 0 0,.slice j f g]=some (.slice e b c,a)/\Q (.slice e b c) a)
theorem qV{j:Option Addr}{f g:Nat}{m:Mem}{Q:Value->Mem->Prop}(h:mT j f g m Q):ah cx jz [.slice j f g] m Q:=
 ah.of (fn:=Tryz.f163) (LS:=[]) (ann:=[]) di db (by kernel_rfl) (by kernel_rfl) (Eq.mp (by kernel_rfl) h)
end
end Go.Proofs.YthpnifigjfplbaaGreat.vc
namespace Go.Proofs.YthpnifigjfplbaaGreat.vc
open Go Go.AX
theorem pj(x:pl.E):(fp x).length=3:=rfl
theorem Ll(x:pl.E):(fp x).all one1=true:=rfl
def xr(l:List pl.E):Int->Option Value:=fun j=>if j∈pl.ids l then some (.bool true) else none
theorem Jv(n:Int):AX.mapKey cx qU (.int .i64 n)=some (.int .i64,G0):=by kernel_rfl
theorem NZ:fB cx G0=some (.bool false):=by kernel_rfl
theorem N0{k:Nat}(h:k<=1000000):bh .i64 (k:Int) 1=((k+1:Nat):Int):=by rw[dN (by omega) (by omega)];omega
theorem Lm{n k:Nat}(h:k<n):n-(k+1)<n-k:=by omega
theorem A5(l:List pl.E)(x:pl.E):pl.ids (l++[x])=pl.ids l++[x.1]:=by simp[pl.ids]
theorem Ln(l:List pl.E)(x:pl.E):pl.nfix (l++[x])=pl.nfix l+if x.2.2=true then 1 else 0:=by
 unfold pl.nfix;rw[List.countP_append,List.countP_cons,List.countP_nil];simp
theorem OY(l:List pl.E):pl.nfix l<=l.length:=List.countP_le_length
theorem Jw{l:List pl.E}{n k:Nat}(h:l.length=n)(hn:(n:Int)<=64):pl.nfix (l.take k)<=1000000:=by
 have h1:=OY (l.take k);rw[List.length_take]at h1;omega
theorem gR{α : Type}{l:List α}{i:Nat}{x:α}(h:l[i]? = some x):l.take (i+1)=l.take i++[x]:=by
 rw[List.take_add_one,h];rfl
open Classical in
noncomputable def Ct(m:Int)(l:List pl.E):Bool:=decide (pl.Good m l)
open Classical in
theorem uX{m:Int}{l:List pl.E}:Ct m l=true↔pl.Good m l:=by unfold Ct;rw[decide_eq_true_iff]
theorem HI{m:Int}{l:List pl.E}(h:¬pl.Good m l):Ct m l=false:=Bool.eq_false_iff.2 fun e=>h (uX.1 e)
section
variable {m:Mem} {Q:Value->Mem->Prop} {a:Option Addr} {n c:Nat} {l:List pl.E} {mm:Int}
theorem Nm(hw:Wf m)(hl:Arr fp 3 m a n l)(h:∀m',Keep m m'->Q (.bool (Ct mm l)) m'):ah cx xt [.int .i64 mm,.slice a n c] m Q:=by
 have no:¬pl.Good mm l->∀m',Keep m m'->Q (.bool false) m':=fun hn m' k=>by
  have:=h m' k;rw[HI hn]at this;exact this
 apply Fi;unfold Cu;simp only[dJ];refine dP (fun e=>no (fun g=>by have:=g.m1;omega) m (Keep.refl hw)) fun e1=>?_
 refine dP (fun e=>no (fun g=>by have:=g.m2;omega) m (Keep.refl hw)) fun e2=>?_
 refine dP (fun e=>no (fun g=>by unfold aQ at e;have:=g.len;have:=hl.1;omega) m (Keep.refl hw)) fun e3=>?_
 unfold aQ at *;rw[cO];generalize hm2:newO m _=m2;have k2:Keep m m2:=hm2▸(Keep.refl hw).newO;have n2:m2.nx=m.nx+1:=by rw[<-hm2];rfl
 have i2:oV m2 m.nx .i64 (xr []):=hm2▸oV.newO;refine⟨fun f i m3 w=>∃k:Nat,k<=n/\i=(k:Int)/\w=n-k/\f=(pl.nfix (l.take k):Int)/\Keep m m3/\m.nx<m3.nx/\oV m3 m.nx .i64 (xr (l.take k))/\(∀x∈l.take k,0<=x.1/\x.1<=1023)/\(pl.ids (l.take k)).Nodup,
  ⟨n,0,by omega,rfl,by omega,rfl,k2,by omega,i2,by simp,by simp[pl.ids]⟩,?_⟩
 rintro f i m3 w ⟨k,hk,rfl,rfl,rfl,k3,n3,i3,hid,hnd⟩;refine dP (fun e=>?_) (fun e=>?_)
 .have hkn:k<n:=by omega
  obtain⟨x,hx⟩:=hl.get hkn;refine hl.open hx fun b o hc=>?_
  have hc1:=hc.keep hw k3;have hmem:x∈l:=gQ3 hx;refine⟨x.1,hc1 0 _ rfl,x.2.1,hc1 1 _ rfl,x.2.2,hc1 2 _ rfl,?_⟩;have k4:Keep m (bump m3 1):=k3.bump;have i4:oV (bump m3 1) m.nx .i64 (xr (l.take k)):=i3.congr rfl;have n4:m.nx<(bump m3 1).nx:=by simp;omega
  generalize bump m3 1=m4 at k4 i4 n4;refine dP (fun e=>no (fun g=>by have:=(g.id _ hmem).1;omega) m4 k4) fun e4=>?_
  refine xZ (fun e=>no (fun g=>by have:=(g.id _ hmem).2;omega) m4 k4) fun e5=>?_
  by_cases hin:x.1∈pl.ids (l.take k)
  .refine⟨true,?_,?_⟩
   .rw[i4.look (Jv x.1) NZ];unfold xr;rw[if_pos hin];rfl
   .rw[eG];refine no (fun g=>?_) m4 k4;have h1:=g.nd;rw[<-List.take_append_drop (k+1) l,gR hx,List.append_assoc]at h1;unfold pl.ids at h1 hin;rw[List.map_append,List.map_append,List.nodup_append]at h1;exact h1.2.2 _ hin x.1 (by simp) rfl
  .refine⟨false,?_,?_⟩
   .rw[i4.look (Jv x.1) NZ];unfold xr;rw[if_neg hin];rfl
   .rw[gk];obtain⟨m7,u1,u2,u3,u4,u5⟩:=i4.update (by have:=k4.fl;have:=hw.1;omega) (Jv x.1) (.bool true);have k7:Keep m m7:=⟨k4.wf.at (r:=m.nx) (by omega) u3 u4 (fun b hb=>u5 b hb),by have:=k4.nx;omega,by rw[u4];exact k4.fl,fun b hb=>by rw[u5 b (by omega)];exact k4.get b hb⟩;refine⟨m7,u1,?_⟩;have i7:oV m7 m.nx .i64 (xr (l.take (k+1))):=by
     have:FP (xr (l.take k)) x.1 (.bool true)=xr (l.take (k+1)):=by
      funext j;unfold FP xr;rw[gR hx,A5];by_cases hj:j=x.1
      .subst hj;simp
      .rw[if_neg hj];simp[hj]
     rw[<-this];exact u2
    have ek:bh .i64 (k:Int) 1=((k+1:Nat):Int):=N0 (by omega);have hid':∀y∈l.take (k+1),0<=y.1/\y.1<=1023:=by
     rw[gR hx];intro y hy;rcases List.mem_append.1 hy with q|q
     .exact hid y q
     .simp at q;subst q;exact⟨e4,by omega⟩
    have hnd':(pl.ids (l.take (k+1))).Nodup:=by
     rw[gR hx,A5,List.nodup_append];exact⟨hnd,by simp,fun a ha b hb=>by simp at hb;subst hb;rintro rfl;exact hin ha⟩
    have hf:=Ln (l.take k) x;rw[<-gR hx]at hf;have hfl:=Jw (k:=k) hl.1 e3;have n7:m.nx<m7.nx:=by omega
    refine cJ (fun hb=>?_) (fun hb=>?_)
    .refine⟨n-(k+1),Lm hkn,k+1,hkn,ek,rfl,?_,k7,n7,i7,hid',hnd'⟩;rw[N0 hfl,hf,if_pos hb]
    .refine⟨n-(k+1),Lm hkn,k+1,hkn,ek,rfl,?_,k7,n7,i7,hid',hnd'⟩;rw[hf,hb];simp
 .have:k=n:=by omega
  subst this;have hlk:l.take k=l:=List.take_of_length_le (by rw[hl.1];exact gQ4 _);rw[hlk]at hid hnd ⊢;refine dw h k3 ?_;have hg:Ct mm l=leI (pl.nfix l:Int) mm:=by
   rw[Bool.eq_iff_iff,uX,fZ];exact⟨fun g=>g.fx,fun g=>⟨by omega,by omega,by have:=hl.1;omega,hid,hnd,g⟩⟩
  rw[hg]
theorem Lo(hw:Wf m)(hl:Arr fp 3 m a n l)(hn:n<=1000000)(h:∀m' a' c',Keep m m'->OwnSl m m' iS a' n c' (l.flatMap fp)->Q (.slice a' n c') m'):ah cx jz [.slice a n c] m Q:=by
 apply qV;unfold mT;exact sU (by kernel_rfl) pj Ll hw hl hn h
theorem Nn{m0:Mem}(hw:Wf m)(hfl:m.fl<=m0.nx)(hl:l.length=n)(ho:OwnSl m0 m iS a n c (l.flatMap fp))(hn:n<=1000000)
  (h:∀m',Wf m'->Fr m m' (blk a)->OwnSl m0 m' iS a n c ((pl.srt l).flatMap fp)->Q (.tuple #[]) m'):ah cx eQ [.slice a n c,.func (.func fA) #[] #[]] m Q:=by
 have hz:n=0->ah cx eQ [.slice a n c,.func (.func fA) #[] #[]] m Q:=fun h0=>by
  subst h0;have hl0:l=[]:=List.length_eq_zero_iff.1 hl;subst hl0;have e0:pl.srt []=[]:=List.eq_nil_of_length_eq_zero (by rw[pl.srt_length];rfl);refine ah.ov db Lk (r:=.tuple #[]) (u':=m) ?_ (h m hw (Fr.refl _ _) (by rw[e0];exact ho));unfold A4 qe;simp only[if_true]
 generalize hL:l.flatMap fp=L at ho;cases ho with
 | nil=>exact hz rfl
 | empty b cc h1 h2=>exact hz rfl
 | row b n L h0 hb hR=>
  subst hL;have hsl:((pl.srt l).flatMap fp).length=(l.flatMap fp).length:=by rw[dm pj,dm pj,pl.srt_length]
  have hR2:Row (wr m b 0 ((pl.srt l).flatMap fp)) b ((pl.srt l).flatMap fp) iS true:=by
   have:=hR.wr (o:=0) (vs:=(pl.srt l).flatMap fp) (by rw[hsl];omega);have e:over (l.flatMap fp) 0 ((pl.srt l).flatMap fp)=(pl.srt l).flatMap fp:=by
    unfold over;rw[List.take_zero,List.drop_eq_nil_of_le (by omega),List.nil_append,List.append_nil]
   rw[e]at this;exact this
  refine ah.ov db Lk (r:=.tuple #[]) (u':=wr m b 0 ((pl.srt l).flatMap fp)) ?_ (h _ hw.wr ((Fr.refl m _).wr (.inl (by simp[blk]))) (.row b n _ h0 hb hR2));have hlen:(l.flatMap fp).length=n*3:=by rw[dm pj,hl]
  obtain⟨tr,hg,hc⟩:=hR;have hrl:iG tr (n*3) 0=some (l.flatMap fp):=by
   have:=oU (c:=tr) (vs:=l.flatMap fp) (i:=0) (fun j v hv=>by rw[Nat.zero_add,hc j (gQ1 hv).1];exact hv)
   rwa [hlen]at this
  cases n with
  | zero=>omega
  | succ k=>
   unfold A4 qe;simp only[if_true,hg,hrl,BX,Ey,hl];rw[if_pos ⟨by rw[hlen];omega,by omega,by omega⟩];unfold wr;simp only[hg]
theorem Lp(hw:Wf m)(hl:Arr fp 3 m a n l)(hn:n<=1000000)(h:∀m' a' c',Keep m m'->OwnSl m m' iS a' n c' ((pl.srt l).flatMap fp)->Q (.slice a' n c') m'):ah cx vG [.slice a n c] m Q:=by
 apply Dn;unfold Au;refine Lo hw hl hn fun m1 a' c' k1 ho=>⟨_,_,_,rfl,Nn (m0:=m) k1.wf (by rw[k1.fl];exact hw.1) hl.1 ho hn fun m2 hw2 f2 ho2=>⟨rfl,?_⟩⟩
 exact h m2 a' c' (Keep.of_fr k1 hw2 f2 ho.blk) ho2
theorem P5:cx.un.get ib=some (.slice iS):=by kernel_rfl
theorem P6:dO cx iS=some 3:=by kernel_rfl
theorem Im{cx:Cx}{t e s:Nat}{m0:Mem}{a:Option Addr}{n c i j:Nat}{L:List Value}{lo hi:Option Value}(ht:cx.un.get t=some (.slice e))(hs:dO cx e=some s)(ho:OwnSl m0 m e a n c L)(hhi:fi n hi c=some j)(hlo:fi 0 lo j=some i)(hjc:j<=c) :
  ∃a',cX cx m t (.slice a n c) lo hi none=some (.slice a' (j-i) (c-i))/\((a=none/\a'=none)∨∃b,a=some ⟨b,0,none⟩/\a'=some ⟨b,i*s,none⟩):=by
 cases ho with
 | nil=>
  refine⟨none,?_,.inl ⟨rfl,rfl⟩⟩;unfold cX;simp only[ht,hs,hhi,hlo]
 | empty b cc h1 h2=>
  refine⟨some ⟨b,i*s,none⟩,?_,.inr ⟨b,rfl,rfl⟩⟩;have:=eR (cx:=cx) (m:=m) (b:=b) (o:=0) (n:=0) (c:=0) (lo:=lo) (hi:=hi) (i:=i) (j:=j) ht hs hhi hlo (by unfold sameSize;rw[h2]) hjc;rw[Nat.zero_add]at this;exact this
 | row b n L h0 h1 h2=>
  refine⟨some ⟨b,i*s,none⟩,?_,.inr ⟨b,rfl,rfl⟩⟩;have:=eR (cx:=cx) (m:=m) (b:=b) (o:=0) (n:=n) (c:=n) (lo:=lo) (hi:=hi) (i:=i) (j:=j) ht hs hhi hlo (h2.sameSize hs) hjc;rw[Nat.zero_add]at this;exact this
theorem Lq(hw:Wf m)(hl:Arr fp 3 m a n l)
  (h:∀m' a1 n1 c1 a2 n2 c2,Keep m m'->Arr fp 3 m' a1 n1 (pl.run mm l)->Q (.tuple #[.slice a1 n1 c1,.slice a2 n2 c2]) m'):ah cx vH [.int .i64 mm,.slice a n c] m Q:=by
 apply Do;unfold Av;refine Nm (mm:=mm) hw hl fun m1 k1=>⟨_,rfl,dR (fun hg=>?_) (fun hg=>?_)⟩
 .have hb:¬pl.Good mm l:=fun g=>by rw[uX.2 g]at hg;cases hg
  refine h m1 none 0 0 none 0 0 k1 ?_;rw[pl.run_bad hb];exact jm.nil
 .have g:=uX.1 hg;have hln:=hl.1;have hn64:=g.len;refine Lp k1.wf (hl.keep hw k1) (by omega) fun m2 a' c' k2 ho=>⟨_,_,_,rfl,?_⟩
  have k:=(k1.trans k2).bump (n:=8);have ho2:OwnSl m1 (bump m2 8) iS a' n c' ((pl.srt l).flatMap fp):=ho.keep k2.wf ((Keep.refl k2.wf).bump);have hcn:c'=n:=ho2.cap;subst hcn;have e:fG mm (aQ c')=((min mm.toNat c':Nat):Int):=by
   have:=g.m1;unfold fG aQ;split<;>omega
  rw[e];have hmn:min mm.toNat c'<=c':=Nat.min_le_right _ _;obtain⟨b1,p1,q1⟩:=Im (cx:=cx) (lo:=none) (hi:=some (.int .i64 ((min mm.toNat c':Nat):Int))) P5 P6 ho2 (dC hmn) mA hmn;obtain⟨b2,p2,_⟩:=Im (cx:=cx) (lo:=some (.int .i64 ((min mm.toNat c':Nat):Int))) (hi:=none) P5 P6 ho2 mA (dC hmn) (gQ4 _);refine⟨_,_,_,p1,_,_,_,p2,?_⟩;refine h _ _ _ _ _ _ _ k ?_;have hA:=ho2.arr pj (by omega) (by rw[pl.srt_length];exact hln);rw[pl.run_good g];refine⟨by rw[List.length_take,pl.srt_length,hln];omega,fun i x hx=>?_⟩;have hx':(pl.srt l)[i]? = some x:=by
   rw[List.getElem?_take]at hx;split at hx
   .exact hx
   .cases hx
  obtain⟨b,o,e1,e2⟩:=hA.2 i x hx';rcases q1 with⟨rfl,_⟩|⟨b',rfl,rfl⟩
  .cases e1
  .cases e1;exact⟨b,0*3,rfl,by rw[Nat.zero_mul];exact e2⟩
theorem A6:∀l:List Int,l.flatMap encI=l.map (Value.int .i64 ·)
 | []=>rfl
 | x::r=>by rw[List.flatMap_cons,A6 r];rfl
theorem No{m0:Mem}{zs:List Int}(hacc:Acc m0 m a n c 1 t_int (zs.flatMap encI))(hw0:Wf m0)(hn:n<=1000000)
  (h:∀m',Acc m0 m' a n c 1 t_int ((pl.srtI zs).flatMap encI)->Q (.tuple #[]) m'):ah cx fO [.slice a n c] m Q:=by
 have hw:=hacc.keep.wf;have hsl:(pl.srtI zs).length=zs.length:=(pl.srtI_perm zs).length_eq;have hl:=hacc.len dV (by omega);obtain⟨hg1,hG⟩:=hacc.grow;have hz:n=0->ah cx fO [.slice a n c] m Q:=fun h0=>by
  subst h0;have hl0:zs=[]:=List.length_eq_zero_iff.1 hl;subst hl0;have e0:pl.srtI []=[]:=List.mergeSort_nil;refine ah.ov db Il (r:=.tuple #[]) (u':=m) (by unfold xq qe;simp only[if_true]) (h m (by rw[e0];exact hacc))
 rcases hG with⟨_,h0,_⟩|⟨b,rfl,rfl,hfl,hR⟩
 .exact hz h0
 .cases c with
  | zero=>exact hz rfl
  | succ k=>
   rw[A6]at hR;have hR2:Row (wr m b 0 ((pl.srtI zs).map (Value.int .i64 ·))) b ((pl.srtI zs).map (Value.int .i64 ·)) t_int true:=by
    have:=hR.wr (o:=0) (vs:=(pl.srtI zs).map (Value.int .i64 ·)) (by simp[hsl]);have e:over (zs.map (Value.int .i64 ·)) 0 ((pl.srtI zs).map (Value.int .i64 ·))=(pl.srtI zs).map (Value.int .i64 ·):=by
     unfold over;rw[List.take_zero,List.drop_eq_nil_of_le (by simp[hsl]),List.nil_append,List.append_nil]
    rw[e]at this;exact this
   have hb:m0.nx<=b:=hacc.new b (by simp[blk]);refine ah.ov db Il (r:=.tuple #[]) (u':=wr m b 0 ((pl.srtI zs).map (Value.int .i64 ·))) ?_ (h _ ⟨hacc.keep.wr hb,⟨?_,.inr ⟨b,rfl,rfl,by simpa using hfl,?_⟩⟩,hacc.new⟩)
   .obtain⟨tr,hg,hc⟩:=hR;have hrl:iG tr ((k+1)*1) 0=some (zs.map (Value.int .i64 ·)):=by
     have:=oU (c:=tr) (vs:=zs.map (Value.int .i64 ·)) (i:=0) (fun j v hv=>by rw[Nat.zero_add,hc j (gQ1 hv).1];exact hv)
     rwa [List.length_map,hl,<-Nat.mul_one (k+1)]at this
    unfold xq qe;simp only[if_true,hg,hrl,BW,BV];rw[if_pos ⟨by simp;omega,hfl,by omega⟩];unfold wr;simp only[hg];rfl
   .rw[dm dV,hsl,hl]
   .rw[A6];exact hR2
theorem Np(hw:Wf m)(hl:Arr fp 3 m a n l)(h:∀m' a' c',Acc m m' a' (pl.pick mm l).length c' 1 t_int ((pl.pick mm l).flatMap encI)->Q (.slice a' (pl.pick mm l).length c') m'):ah cx xu [.int .i64 mm,.slice a n c] m Q:=by
 apply Fj;unfold Cv;refine Lq hw hl fun m1 a13 n13 c13 a2 n2 c2 k1 hA=>⟨_,_,_,_,_,_,rfl,?_⟩
 have hn:n13<=64:=by
  rw[<-hA.1];by_cases g:pl.Good mm l
  .rw[pl.run_length g];have:=g.len;omega
  .rw[pl.run_bad g];simp
 refine oN (show n13<=4611686018427387904 by omega) (fun k a5 n5 c5 m2=>n5=k/\Acc m1 m2 a5 n5 c5 1 t_int ((pl.ids ((pl.run mm l).take k)).flatMap encI)) ⟨rfl,Acc.nil (Keep.refl k1.wf) _ _⟩ ?_;rintro k a5 n5 c5 m2 hk ⟨rfl,hacc⟩ I w hI;refine dG (fun hlt=>?_) (fun hge=>?_)
 .obtain⟨x,hx⟩:=hA.get hlt;refine hA.open hx fun b o hc=>?_
  have hc1:=hc.keep k1.wf hacc.keep;refine⟨x.1,hc1 0 _ rfl,x.2.1,hc1 1 _ rfl,x.2.2,hc1 2 _ rfl,?_⟩;rw[cO];obtain⟨m4,p1,p2,p3,p4,p5⟩:=(hacc.then ((Keep.refl hacc.keep.wf).bump (n:=1))).push (cx:=cx) (t:=dt) (vs:=[.int .i64 x.1]) (by kernel_rfl) rfl rfl (by omega);refine⟨_,_,_,_,p1,hI _ _ _ _ hlt ⟨rfl,?_⟩⟩;rw[gR hx,A5,List.flatMap_append];exact p2
 .have ht:(pl.run mm l).take n5=pl.run mm l:=List.take_of_length_le (by rw[hA.1];exact hge);rw[ht]at hacc;have hlen:=hacc.len dV (by omega);have hpl:(pl.pick mm l).length=n5:=by
   unfold pl.pick;rw[(pl.srtI_perm _).length_eq,hlen]
  refine No hacc k1.wf (by omega) fun m5 hacc2=>⟨rfl,?_⟩
  have:=h m5 a5 c5 ⟨k1.trans hacc2.keep,by rw[hpl];exact hacc2.grow,fun b hb=>Nat.le_trans k1.nx (hacc2.new b hb)⟩;rw[hpl]at this;exact this
end
end Go.Proofs.YthpnifigjfplbaaGreat.vc
namespace Go.Proofs.YthpnifigjfplbaaGreat.vc
open Go Go.AX
theorem CK(l:List pm.Serv)(x:pm.Serv):pm.ready (l++[x])=pm.ready l++(bif cT x.s.mode 1 then [x] else []):=by
 unfold pm.ready;rw[List.filter_append,List.filter_cons,List.filter_nil];cases cT x.s.mode 1<;>rfl
theorem Lx(l:List pm.Serv):(pm.ready l).length<=l.length:=List.length_filter_le _ _
theorem jG(s:pm.St)(hM:1<=s.m):((pm.bm s).length:Int)<=s.m:=by
 unfold pm.bm;by_cases g:pl.Good s.m ((pm.ready s.servs).map pm.Serv.ent)
 .rw[pl.pick_length g];omega
 .unfold pl.pick;rw[pl.run_bad g];have:(pl.srtI (pl.ids [])).length=0:=by rw[(pl.srtI_perm _).length_eq];rfl
  omega
theorem Dw:cx.un.get cS=some (.slice dk):=by kernel_rfl
theorem iN:dO cx dk=some 2:=by kernel_rfl
section
variable {m:Mem} {Q:Value->Mem->Prop} {M now:Int} {a1 a2 a3:Option Addr} {n1 c1 n2 c2 n3 c3:Nat} {σ : pm.St}
theorem te(hw:Wf m)(hσ : RdSt cx m M now a1 n1 a2 n2 a3 n3 c3 σ)(h1:n1<=100000)(h3:n3<=100000)(hM:1<=M)(hM2:M<=1000000)
  (h:∀m' a c a' c',Keep m m'->Arr encI 1 m' a (pm.bm σ).length (pm.bm σ)->Arr encI 1 m' a' (pm.fX σ).length (pm.fX σ)->(∀b∈blk a,m.nx<=b)->(∀b∈blk a',m.nx<=b)->Q (.tuple #[.slice a (pm.bm σ).length c,.slice a' (pm.fX σ).length c']) m') :
  ah cx iT [.agg #[.int .i64 M,.int .i64 now,.slice a1 n1 c1,.slice a2 n2 c2,.slice a3 n3 c3]] m Q:=by
 apply CL;unfold zi;obtain⟨ss,ha,hs⟩:=hσ.servs;have k0:Keep m (bump m 1):=(Keep.refl hw).bump;have hl1:=hσ.len1;refine oN (show n1<=4611686018427387904 by omega) (fun k a4 n4 c4 m1=>Acc m m1 a4 n4 c4 3 iS (((pm.ready (σ.servs.take k)).map pm.Serv.ent).flatMap fp)) (Acc.nil k0 _ _) ?_;rintro k a4 n4 c4 m1 hk hacc I w hI;have hlen:=hacc.len pj (by omega);have hle:=Lx (σ.servs.take k);rw[List.length_map]at hlen;rw[List.length_take]at hle;refine dG (fun hlt=>?_) (fun hge=>?_)
 .obtain⟨sv,hsv⟩:=ha.get hlt;obtain⟨x,hx,hR⟩:=hs.get hsv;refine ha.open hsv fun b o hc=>?_
  have hc1:=hc.keep hw hacc.keep;refine⟨_,hc1 0 _ rfl,_,hc1 1 _ rfl,_,hc1 2 _ rfl,_,hc1 3 _ rfl,_,hc1 4 _ rfl,_,hc1 5 _ rfl,_,_,_,hc1 6 _ rfl,_,hc1 7 _ rfl,_,hc1 8 _ rfl,_,hc1 9 _ rfl,_,hc1 10 _ rfl,?_⟩;have hacc':=hacc.then ((Keep.refl hacc.keep.wf).bump (n:=1));rw[hR.s];refine cJ (fun hb=>?_) (fun hb=>?_)
  .rw[cO];obtain⟨m4,p1,p2,p3,p4,p5⟩:=hacc'.push (cx:=cx) (t:=ib) (vs:=fp x.ent) (by kernel_rfl) rfl rfl (by omega);have e:fp x.ent=[.int .i64 sv.id,.int .i64 x.s.due,.bool (dT sv.sec 0)]:=by rw[hR.id,hR.sec];rfl
   rw[e]at p1;refine⟨_,_,_,_,p1,hI _ _ _ _ hlt ?_⟩;rw[gR hx,CK,hb,cond_true,List.map_append,List.flatMap_append];simpa using p2
  .refine hI _ _ _ _ hlt ?_;rw[gR hx,CK,hb,cond_false,List.append_nil];exact hacc'
 .have ht:σ.servs.take k = σ.servs:=List.take_of_length_le (by omega);rw[ht]at hacc;have hE:=hacc.arr pj (by omega);refine Np (mm:=M) hacc.keep.wf hE fun m2 a' c' hacc2=>⟨_,_,_,rfl,?_⟩
  have hru:pl.pick M ((pm.ready σ.servs).map pm.Serv.ent)=pm.bm σ:=by unfold pm.bm;rw[hσ.em]
  rw[hru]at hacc2 ⊢;have k2:Keep m m2:=hacc.keep.trans hacc2.keep;have hσ2:=hσ.keep hw k2;have hrl:=jG σ (by rw[<-hσ.em];exact hM);rw[<-hσ.em]at hrl;have hl3:=hσ.len3;obtain⟨j,hj,hjn⟩:∃j:Nat,fG (de .i64 M (aQ (pm.bm σ).length)) (aQ n3)=(j:Int)/\j<=n3:=by
   have e:de .i64 M (aQ (pm.bm σ).length)=M-(pm.bm σ).length:=eO (by unfold aQ;omega) (by unfold aQ;omega);rw[e];unfold fG aQ;split
   .exact⟨n3,rfl,gQ4 _⟩
   .exact⟨(M-(pm.bm σ).length).toNat,by omega,by omega⟩
  rw[hj];obtain⟨hc3,_⟩:=hσ2.cut;obtain⟨ac,p1,q1⟩:=hσ2.cut.cut (lo:=none) (hi:=some (.int .i64 (j:Int))) Dw iN (dC (by omega)) mA (by omega:j<=c3);refine⟨_,_,_,p1,?_⟩;have hB:=hσ2.backs.cut (i:=0) hjn q1;rw[List.drop_zero,Nat.sub_zero]at hB;have hA2:=hacc2.arr dV (by omega);have hbk:(σ.backs.take j).map (·.id)=pm.fX σ:=by
   unfold pm.fX;rw[<-hσ.em,hl3,hj,Int.toNat_natCast]
  refine oN (show j-0<=4611686018427387904 by omega) (fun k a4 n4 c4 m1=>n4=k/\Acc m2 m1 a4 n4 c4 1 t_int (((σ.backs.take k).map (·.id)).flatMap encI)) ⟨rfl,Acc.nil (Keep.refl k2.wf) _ _⟩ ?_;rintro k a4 n4 c4 m3 hk ⟨rfl,hacc3⟩ I w hI;refine dG (fun hlt=>?_) (fun hge=>?_)
  .obtain⟨x,hx⟩:=hB.get hlt;refine hB.open hx fun b o hc=>?_
   have hc1:=hc.keep k2.wf hacc3.keep;refine⟨x.id,hc1 0 _ rfl,x.ran,hc1 1 _ rfl,?_⟩;rw[cO];obtain⟨m4,p1,p2,p3,p4,p5⟩:=(hacc3.then ((Keep.refl hacc3.keep.wf).bump (n:=1))).push (cx:=cx) (t:=dt) (vs:=[.int .i64 x.id]) (by kernel_rfl) rfl rfl (by omega);refine⟨_,_,_,_,p1,hI _ _ _ _ hlt ⟨rfl,?_⟩⟩;have hx':σ.backs[n4]? = some x:=by
    rw[List.getElem?_take]at hx;split at hx
    .exact hx
    .cases hx
   rw[gR hx',List.map_append,List.flatMap_append];exact p2
  .have hkj:n4=j:=by omega
   subst hkj;rw[hbk]at hacc3;have hln:=hacc3.len dV (by omega);have hA3:=hacc3.arr dV (by omega);have:=h m3 a' c' a4 c4 (k2.trans hacc3.keep) (hA2.keep k2.wf hacc3.keep) (by rw[hln];exact hA3) (fun b hb=>Nat.le_trans hacc.keep.nx (hacc2.new b hb)) (fun b hb=>Nat.le_trans k2.nx (hacc3.new b hb));rw[hln]at this;exact this
noncomputable def rq(l:List pm.Serv)(id:Int):Option (Nat×Int):=match l[pm.at_ l id]? with
 | none=>none
 | some v=>match v.jobs with
  | []=>none
  | j::_=>bif (pm.dI j).2&&(cR 0 (pm.dI j).1.1&&cT v.sec 0) then some (pm.at_ l id,(pm.dI j).1.1) else none
theorem zI(s:pm.St):pm.asks s=(pm.bm s).filterMap (rq s.servs):=rfl
theorem lD{α β : Type}(f:α->Option β)(l:List α)(x:α):(l++[x]).filterMap f=l.filterMap f++(match f x with|some y=>[y]|none=>[]):=by
 rw[List.filterMap_append,List.filterMap_cons,List.filterMap_nil];cases f x<;>rfl
def Nw(σ : pm.St):Prop:=∀id∈pm.bm σ,∃x,σ.servs[pm.at_ σ.servs id]? = some x/\x.jobs≠[]
theorem Iu(hw:Wf m)(hσ : RdSt cx m M now a1 n1 a2 n2 a3 n3 c3 σ)(h1:n1<=100000)(h3:n3<=100000)(hM:1<=M)(hM2:M<=1000000)(hr:Rise σ.servs)(hb:Nw σ)
  (h:∀m' a c a' c',Keep m m'->Arr encI 1 m' a (pm.asks σ).length ((pm.asks σ).map fun x=>(x.1:Int))->Arr encI 1 m' a' (pm.asks σ).length ((pm.asks σ).map (·.2))->(∀b∈blk a,m.nx<=b)->(∀b∈blk a',m.nx<=b)->Q (.tuple #[.slice a (pm.asks σ).length c,.slice a' (pm.asks σ).length c']) m') :
  ah cx kF [.agg #[.int .i64 M,.int .i64 now,.slice a1 n1 c1,.slice a2 n2 c2,.slice a3 n3 c3]] m Q:=by
 apply wt;unfold rV;have k0:Keep m (bump m 1):=(Keep.refl hw).bump;refine te k0.wf (hσ.keep hw k0) h1 h3 hM hM2 fun m1 ar cr ab cb k1 hA _ _ _=>⟨_,_,_,_,_,_,rfl,?_⟩
 have k01:=k0.trans k1;have hrn:(pm.bm σ).length<=1000000:=by
  have:=jG σ (by rw[<-hσ.em];exact hM);rw[<-hσ.em]at this;omega
 refine Qh (show (pm.bm σ).length<=4611686018427387904 by omega) (fun k a n c a' n' c' m2=>Acc m1 m2 a n c 1 t_int ((((pm.bm σ).take k).filterMap (rq σ.servs)).flatMap fun x=>encI (x.1:Int))/\
  Acc m1 m2 a' n' c' 1 t_int ((((pm.bm σ).take k).filterMap (rq σ.servs)).flatMap fun x=>encI x.2)/\∀b∈blk a,b∉blk a') ⟨Acc.nil (Keep.refl k1.wf) _ _,Acc.nil (Keep.refl k1.wf) _ _,fun b hb=>by cases hb⟩ ?_
 rintro k a n c a' n' c' m2 hk ⟨hp,hq,hd⟩ I w hI;have hln:(((pm.bm σ).take k).filterMap (rq σ.servs)).length=n:=Acc.len (enc:=fun x:Nat×Int=>encI (x.1:Int)) (s:=1) (fun _=>rfl) (by omega) hp;have hln':(((pm.bm σ).take k).filterMap (rq σ.servs)).length=n':=Acc.len (enc:=fun x:Nat×Int=>encI x.2) (s:=1) (fun _=>rfl) (by omega) hq;have hle:(((pm.bm σ).take k).filterMap (rq σ.servs)).length<=k:=Nat.le_trans (List.length_filterMap_le _ _) (by rw[List.length_take];omega);refine dG (fun hlt=>?_) (fun hge=>?_)
 .obtain⟨id,hid⟩:=hA.get hlt;refine hA.open hid fun b o hc=>?_
  have hc1:=hc.keep k1.wf hp.keep;refine⟨id,hc1 0 _ rfl,?_⟩;have k2:=k01.trans hp.keep;obtain⟨x,hx,hxj⟩:=hb id (gQ3 hid);refine zH hp.keep.wf (hσ.keep hw k2) hr h1 fun m3 k3=>⟨_,_,rfl,?_⟩
  have k23:=k2.trans k3;obtain⟨ss,ha,hs⟩:=(hσ.keep hw k23).servs;obtain⟨sv,hsv,hR⟩:=hs.get' hx;refine ha.open hsv fun b o hc=>?_
  refine⟨_,hc 0 _ rfl,_,hc 1 _ rfl,_,hc 2 _ rfl,_,hc 3 _ rfl,_,hc 4 _ rfl,_,hc 5 _ rfl,_,_,_,hc 6 _ rfl,_,hc 7 _ rfl,_,hc 8 _ rfl,_,hc 9 _ rfl,_,hc 10 _ rfl,?_⟩;obtain⟨js,hja,hjs⟩:=hR.jobs;obtain⟨j,r,hxr⟩:∃j r,x.jobs=j::r:=by
   cases hj:x.jobs with
   | nil=>exact absurd hj hxj
   | cons j r=>exact⟨j,r,rfl⟩
  obtain⟨jv,hjv,hJ⟩:=hjs.get' (i:=0) (b:=j) (by rw[hxr];rfl);refine hja.open (k:=0) hjv fun b o hc=>?_
  refine⟨_,hc 0 _ rfl,_,_,_,hc 1 _ rfl,_,hc 2 _ rfl,_,hc 3 _ rfl,?_⟩;have k4:Keep m3 (bump m3 1):=(Keep.refl k3.wf).bump;refine ud k4.wf (hJ.prog.keep k3.wf k4) fun m5 k5=>⟨_,_,_,rfl,?_⟩
  have ej:(⟨jv.num,j.prog,jv.at_,jv.done⟩:pm.Job)=j:=by rw[hJ.num,hJ.at_,hJ.done]
  rw[ej,hR.sec];have hrest:Keep m2 (bump m5 1):=(k3.trans (k4.trans k5)).bump;have hp':=hp.then hrest;have hq':=hq.then hrest;generalize bump m5 1=m6 at hp' hq' hrest;have ask:rq σ.servs id=bif (pm.dI j).2&&(cR 0 (pm.dI j).1.1&&cT x.sec 0) then some (pm.at_ σ.servs id,(pm.dI j).1.1) else none:=by
   unfold rq;simp only[hx,hxr]
  refine dL (fun f:Bool->Mem->Prop=>f ((pm.dI j).2&&(cR 0 (pm.dI j).1.1&&cT x.sec 0)) m6) ?_ ?_
  .refine cJ (fun hc=>?_) (fun hc=>?_)
   .rw[hc,cond_true]at ask;rw[cO];obtain⟨m7,p1,p2,p3,p4,p5⟩:=hp'.push (cx:=cx) (t:=dt) (vs:=[.int .i64 (pm.at_ σ.servs id:Nat)]) (by kernel_rfl) rfl rfl (by omega);have hq7:Acc m1 m7 a' n' c' 1 t_int ((((pm.bm σ).take k).filterMap (rq σ.servs)).flatMap fun x=>encI x.2):=hq'.fr p3 p4 fun b hb=>⟨hp'.new b hb,hd b hb⟩
    refine⟨_,_,_,_,p1,?_⟩;rw[cO];obtain⟨m9,q1,q2,q3,q4,q5⟩:=hq7.push (cx:=cx) (t:=dt) (vs:=[.int .i64 (pm.dI j).1.1]) (by kernel_rfl) rfl rfl (by omega);have hlt7:=hq'.lt;have hp9:=p2.fr q3 q4 fun b hb=>⟨hq7.new b hb,fun hb2=>by
     simp[blk]at hb2;have:=hlt7 b hb;omega⟩
    refine⟨_,_,_,_,q1,hI _ _ _ _ _ _ _ hlt ⟨?_,?_,fun b hb hb2=>?_⟩⟩
    .rw[gR hid,lD,ask,List.flatMap_append];exact hp9
    .rw[gR hid,lD,ask,List.flatMap_append];exact q2
    .simp[blk]at hb hb2;omega
   .rw[hc,cond_false]at ask;refine hI _ _ _ _ _ _ _ hlt ⟨?_,?_,hd⟩
    .rw[gR hid,lD,ask,List.append_nil];exact hp'
    .rw[gR hid,lD,ask,List.append_nil];exact hq'
  .intro J hJ;refine cJ (fun g1=>cJ (fun g2=>?_) (fun g2=>?_)) (fun g1=>?_)
   .rw[g1,g2,Bool.true_and,Bool.true_and]at hJ;exact hJ
   .rw[g1,g2,Bool.true_and,Bool.false_and]at hJ;exact hJ
   .rw[g1,Bool.false_and]at hJ;exact hJ
 .have ht:(pm.bm σ).take k=pm.bm σ:=List.take_of_length_le (by omega);rw[ht,<-zI]at hp hq hln hln';subst hln;have hn':n'=(pm.asks σ).length:=hln'.symm;subst hn';refine h m2 a c a' c' (k01.trans hp.keep) ?_ ?_ (fun b hb=>Nat.le_trans k01.nx (hp.new b hb)) (fun b hb=>Nat.le_trans k01.nx (hq.new b hb))
  .refine Arr.of_grow dV (by omega) (e:=t_int) (c:=c) ?_;rw[List.flatMap_map];exact hp.grow
  .refine Arr.of_grow dV (by omega) (e:=t_int) (c:=c') ?_;rw[List.flatMap_map];exact hq.grow
end
end Go.Proofs.YthpnifigjfplbaaGreat.vc
namespace Go.Proofs.YthpnifigjfplbaaGreat.vc
open Go Go.AX
abbrev TT:Tys:=⟨dr,jR,dk,fH,t_int⟩
section
variable {m:Mem} {Q:Value->Mem->Prop} {M now:Int} {a a1 a2 a3:Option Addr} {n c n1 c1 n2 c2 n3 c3:Nat} {σ : pm.St}
theorem Et{l:List SV}(hw:Wf m)(hl:Arr encS 11 m a n l)(hn:n<=1000000)(h:∀m' a' c',Keep m m'->OwnSl m m' dr a' n c' (l.flatMap encS)->Q (.slice a' n c') m'):ah cx gr [.slice a n c] m Q:=by
 apply pL;unfold lw;exact sU (by kernel_rfl) fJ uP hw hl hn h
theorem Li{l:List LV}(hw:Wf m)(hl:Arr encL 4 m a n l)(hn:n<=1000000)(h:∀m' a' c',Keep m m'->OwnSl m m' jR a' n c' (l.flatMap encL)->Q (.slice a' n c') m'):ah cx iA [.slice a n c] m Q:=by
 apply pM;unfold lx;exact sU (by kernel_rfl) nz KM hw hl hn h
theorem Lj{l:List pm.Back}(hw:Wf m)(hl:Arr encB 2 m a n l)(hn:n<=1000000)(h:∀m' a' c',Keep m m'->OwnSl m m' dk a' n c' (l.flatMap encB)->Q (.slice a' n c') m'):ah cx iB [.slice a n c] m Q:=by
 apply pN;unfold ly;exact sU (by kernel_rfl) fI yK hw hl hn h
theorem Eu{l:List JV}(hw:Wf m)(hl:Arr encJ 4 m a n l)(hn:n<=1000000)(h:∀m' a' c',Keep m m'->OwnSl m m' fH a' n c' (l.flatMap encJ)->Q (.slice a' n c') m'):ah cx gV [.slice a n c] m Q:=by
 apply qT;unfold mR;exact sU (by kernel_rfl) fh KL hw hl hn h
theorem Ew{l:List Int}(hw:Wf m)(hl:Arr encI 1 m a n l)(hn:n<=1000000)(h:∀m' a' c',Keep m m'->OwnSl m m' t_int a' n c' (l.flatMap encI)->Q (.slice a' n c') m'):ah cx iY [.slice a n c] m Q:=by
 apply ub;unfold pK;exact sU (by kernel_rfl) dV D5 hw hl hn h
theorem Jt{α β : Type}{r:α->β->Prop}(h:∀x,∃y,r x y):∃f:α->β,∀x,r x (f x):=Classical.axiomOfChoice h
theorem Nf{m1 m2 m3:Mem}{b1 b2 b3:Option Addr}{d1 d2 d3:Nat}{ss:List SV}{ls:List LV}(hw:Wf m)(hs:All2 (RdServ m) ss σ.servs)(hl:All2 (RdLock m) ls σ.sems)(e1:ss.length=n1)(e2:ls.length=n2)(e3:σ.backs.length=n3)
  (k1:Keep m m1) (k2:Keep m1 m2) (k3:Keep m2 m3) (o1:OwnSl m m1 dr b1 n1 d1 (ss.flatMap encS)) (o2:OwnSl m1 m2 jR b2 n2 d2 (ls.flatMap encL)) (o3:OwnSl m2 m3 dk b3 n3 d3 (σ.backs.flatMap encB)) :
  ∃lam js qs,Ow TT (fun _=>.rd) (fun _=>.rd) m m3 lam b1 n1 d1 b2 n2 d2 b3 n3 d3 ss js ls qs σ:=by
 classical
 have kk:Keep m m3:=(k1.trans k2).trans k3;have w1:=k1.wf;have w2:=k2.wf;have w3:=k3.wf;have x1:=k1.nx;have x2:=k2.nx;have x3:=k3.nx;have l1:=o1.lt w1;have l2:=o2.lt w2;have l3:=o3.lt w3;have p1:=o1.blk;have p2:=o2.blk;have p3:=o3.blk;obtain⟨js,hjs⟩:=Jt (α:=Nat) (β:=List JV) (r:=fun i l=>∀v x,ss[i]? = some v->σ.servs[i]? = some x->Arr encJ 4 m v.ja v.jn l/\All2 (RdJob m) l x.jobs) (fun i=>by
  cases hv:ss[i]? with
  | none=>exact⟨[],fun v x h=>by cases h⟩
  | some v=>
   obtain⟨x,hx,hR⟩:=hs.get hv;obtain⟨l,q1,q2⟩:=hR.jobs;refine⟨l,fun v' x' h h'=>?_⟩;cases h;rw[hx]at h';cases h';exact⟨q1,q2⟩)
 let lam:Nat->Lb:=fun b=>if b<m.nx then .pr else if b∈blk b1 then .sv else if b∈blk b2 then .lk else if b∈blk b3 then .bk else .no
 have lpr:∀b,b<m.nx->lam b = .pr:=fun b hb=>by show (if _ then _ else _)=_;rw[if_pos hb]
 refine⟨lam,js,fun k=>match σ.sems[k]? with|some l=>l.queue|none=>[],?_⟩;refine⟨kk,hw.1,fun b hb=>?_,fun b hb=>?_,(o1.keep w1 (k2.trans k3)).csl _,fun b hb=>?_,e1,by rw[<-hs.len,e1],((o2.keep w2 k3).old x1).csl _,fun b hb=>?_,e2,by rw[<-hl.len,e2],(o3.old (by omega)).csl _,fun b hb=>?_,e3,fun i v hv=>?_,fun k v hv=>?_,fun i v x hv hx=>?_,fun k v l hv hx=>?_⟩
 .have hb:(if b<m.nx then Lb.pr else if b∈blk b1 then .sv else if b∈blk b2 then .lk else if b∈blk b3 then .bk else .no)≠.no:=hb;by_cases q1:b<m.nx
  .omega
  .rw[if_neg q1]at hb;by_cases q2:b∈blk b1
   .have:=l1 b q2;omega
   .rw[if_neg q2]at hb;by_cases q3:b∈blk b2
    .have:=l2 b q3;omega
    .rw[if_neg q3]at hb;by_cases q4:b∈blk b3
     .have:=l3 b q4;omega
     .rw[if_neg q4]at hb;exact absurd rfl hb
 .by_cases q1:b<m.nx
  .exact absurd (lpr b q1) hb
  .omega
 .show (if _ then _ else _)=_;have:=p1 b hb;rw[if_neg (by omega),if_pos hb]
 .show (if _ then _ else _)=_;have:=p2 b hb;rw[if_neg (by omega),if_neg (fun h=>by have:=l1 b h;omega),if_pos hb]
 .show (if _ then _ else _)=_;have:=p3 b hb;rw[if_neg (by omega),if_neg (fun h=>by have:=l1 b h;omega),if_neg (fun h=>by have:=l2 b h;omega),if_pos hb]
 .obtain⟨x,hx,hR⟩:=hs.get hv;obtain⟨q1,q2⟩:=hjs i v x hv hx;exact⟨q1.keep hw kk,fun hne b hb=>lpr b (q1.blk_lt fh (by omega) hw hne b hb)⟩
 .obtain⟨l,hl',hR⟩:=hl.get hv;simp only[hl'];exact⟨hR.queue.keep hw kk,fun hne b hb=>lpr b (hR.queue.blk_lt dV (by omega) hw hne b hb)⟩
 .obtain⟨q1,q2⟩:=hjs i v x hv hx;obtain⟨x',hx',hR⟩:=hs.get hv;rw[hx]at hx';cases hx';exact⟨⟨hR.id,hR.s,hR.sec,hR.held,hR.num,hR.ran⟩,q2.imp fun jv j r=>⟨r.num,r.at_,r.done,r.prog.keep hw kk,fun hne b hb=>lpr b (r.prog.blk_lt tL (by omega) hw hne b hb)⟩⟩
 .obtain⟨l',hl',hR⟩:=hl.get hv;rw[hx]at hl';cases hl';simp only[hx];exact⟨⟨hR.most,hR.holder,hR.dead⟩,trivial⟩
theorem tW(hw:Wf m)(hσ : RdSt cx m M now a1 n1 a2 n2 a3 n3 c3 σ)(hz:Small σ)
  (h:∀m' lam b1 d1 b2 d2 b3 d3 ss js ls qs,Ow TT (fun _=>.own true) (fun _=>.own true) m m' lam b1 n1 d1 b2 n2 d2 b3 n3 d3 ss js ls qs σ->Q (.agg #[.int .i64 M,.int .i64 now,.slice b1 n1 d1,.slice b2 n2 d2,.slice b3 n3 d3]) m') :
  ah cx gg [.agg #[.int .i64 M,.int .i64 now,.slice a1 n1 c1,.slice a2 n2 c2,.slice a3 n3 c3]] m Q:=by
 apply vE;unfold qA;have hl1:=hσ.len1;have hl2:=hσ.len2;have hl3:=hσ.len3;have z1:=hz.servs;have z2:=hz.sems;have z3:=hz.backs;have k0:Keep m (bump m 17):=(Keep.refl hw).bump;have nx0:(bump m 17).nx=m.nx+17:=rfl;have hf0:(bump m 2).nx<=(bump m 17).nx:=by simp
 generalize bump m 17=m0 at k0 nx0 hf0;generalize (bump m 2).nx=f0 at hf0;have hw0:Wf (setFl m0 f0):=k0.wf.setFl hf0;obtain⟨ss,ha1,hs1⟩:=hσ.servs;obtain⟨ls,ha2,hs2⟩:=hσ.sems;have ha10:Arr encS 11 (setFl m0 f0) a1 n1 ss:=(ha1.keep hw k0).hp rfl;refine Et hw0 ha10 (by omega) fun m1 b1 d1 k1 o1=>⟨_,_,_,rfl,?_⟩
 have k1':Keep m (setFl m1 m0.fl):=Keep.unset' k0 k1;have o1':OwnSl m (setFl m1 m0.fl) dr b1 n1 d1 (ss.flatMap encS):=o1.hp k0.nx rfl;generalize setFl m1 m0.fl=m1' at k1' o1';have hw1:Wf (setFl m1' m1'.nx):=k1'.wf.setFl (gQ4 _);have ha21:Arr encL 4 (setFl m1' m1'.nx) a2 n2 ls:=(ha2.keep hw k1').hp rfl;refine Li hw1 ha21 (by omega) fun m2 b2 d2 k2 o2=>⟨_,_,_,rfl,?_⟩
 have k2':Keep m1' (setFl m2 m1'.fl):=Keep.unset k1'.wf k2;have o2':OwnSl m1' (setFl m2 m1'.fl) jR b2 n2 d2 (ls.flatMap encL):=o2.hp (gQ4 _) rfl;generalize setFl m2 m1'.fl=m2' at k2' o2';have ha32:=hσ.backs.keep hw (k1'.trans k2');refine Lj k2'.wf ha32 (by omega) fun m3 b3 d3 k3 o3=>⟨_,_,_,rfl,?_⟩
 obtain⟨lam,js,qs,hO⟩:=Nf hw hs1 hs2 ha1.1 ha2.1 hl3 k1' k2' k3 o1' o2' o3;refine og (show n1<=4611686018427387904 by omega) (fun k m4=>∃lam wj ss js,Ow TT wj (fun _=>.rd) m m4 lam b1 n1 d1 b2 n2 d2 b3 n3 d3 ss js ls qs σ/\∀i,i<k->wj i = .own true) ⟨lam,_,ss,js,hO,fun i hi=>by omega⟩ ?_;rintro k m4 hk ⟨lam,wj,ss,js,hO,hdone⟩ I w hI;refine dG (fun hlt=>?_) (fun hge=>?_)
 .obtain⟨v,hv⟩:∃v,ss[k]? = some v:=⟨_,gQ2 (by rw[hO.s1n];exact hlt)⟩;obtain⟨x,hx⟩:∃x,σ.servs[k]? = some x:=⟨_,gQ2 (by rw[hO.s1d];exact hlt)⟩;obtain⟨b,o,rfl,hlb,hc⟩:=hO.atS hv;refine⟨⟨by omega,by omega⟩,?_⟩;rw[cW];refine⟨v.ja,v.jn,v.jc,hc 6 _ rfl,?_⟩;have k5:Keep m4 (bump m4 13):=(Keep.refl hO.keep.wf).bump;have hwf:Wf (setFl (bump m4 13) m4.nx):=k5.wf.setFl (by simp);have hjarr:=(hO.jb k v hv).arr fh;have hd:=hO.ds k v x hv hx;have hjl:v.jn<=1000000:=by
   have:=hz.jobs x (gQ3 hx);rw[<-hd.2.len,hjarr.1]at this;omega
  refine Eu hwf ((hjarr.keep hO.keep.wf k5).hp rfl) hjl fun m5 a' c' k6 ho=>⟨_,_,_,rfl,⟨⟨by omega,by omega⟩,?_⟩⟩
  rw[cW];have k6':Keep m4 (setFl m5 (bump m4 13).fl):=Keep.unset' k5 k6;have ho':OwnSl m4 (setFl m5 (bump m4 13).fl) fH a' v.jn c' ((js k).flatMap encJ):=ho.hp k5.nx rfl;generalize setFl m5 (bump m4 13).fl=m6 at k6' ho';obtain⟨lam',hO2,hlab,hold⟩:=hO.ownSl k6' ho' (gQ4 _) (.jb k);have hjs':(js k).length=v.jn:=hjarr.1;obtain⟨g1,g2⟩:=hO2.setS (κ:=.own true) (js':=js k) (x':=x) (v':={ v with ja:=a',jc:=c' }) (k:=6) (vs:=[.slice a' v.jn c']) hv rfl (by simp) rfl ⟨(ho'.old hO.keep.nx).csl _,hlab,hjs'⟩ (by
   obtain⟨q1,q2⟩:=hO2.ds k v x hv hx;exact⟨⟨q1.id,q1.s,q1.sec,q1.held,q1.num,q1.ran⟩,q2⟩)
  refine⟨g1,?_⟩;rw[cO];rw[set_self hx]at g2;refine hI _ hlt ⟨lam',_,_,_,g2,fun i hi=>?_⟩;by_cases e:i=k
  .subst e;exact fy ..
  .rw[eV e];exact hdone i (by omega)
 .have hO1:=hO.kd (wj':=fun _=>.own true) (wq':=fun _=>.rd) (fun i hi=>hdone i (by omega)) (fun _ _=>rfl);clear hI I w;refine og (show n2<=4611686018427387904 by omega) (fun k m4=>∃lam wq ls qs,Ow TT (fun _=>.own true) wq m m4 lam b1 n1 d1 b2 n2 d2 b3 n3 d3 ss js ls qs σ/\∀i,i<k->wq i = .own true) ⟨lam,_,ls,qs,hO1,fun i hi=>by omega⟩ ?_;rintro k m4 hk ⟨lam,wq,ls,qs,hO,hdone⟩ I w hI;refine dG (fun hlt=>?_) (fun hge=>?_)
  .obtain⟨v,hv⟩:∃v,ls[k]? = some v:=⟨_,gQ2 (by rw[hO.s2n];exact hlt)⟩;obtain⟨x,hx⟩:∃x,σ.sems[k]? = some x:=⟨_,gQ2 (by rw[hO.s2d];exact hlt)⟩;obtain⟨b,o,rfl,hlb,hc⟩:=hO.atL hv;refine⟨⟨by omega,by omega⟩,?_⟩;rw[cW];refine⟨v.qa,v.qn,v.qc,hc 2 _ rfl,?_⟩;have k5:Keep m4 (bump m4 13):=(Keep.refl hO.keep.wf).bump;have hwf:Wf (setFl (bump m4 13) m4.nx):=k5.wf.setFl (by simp);have hjarr:=(hO.qu k v hv).arr dV;have hd:=hO.dl k v x hv hx;have hjl:v.qn<=1000000:=by
    have:=hz.queue x (gQ3 hx);rw[<-hd.2,hjarr.1]at this;omega
   refine Ew hwf ((hjarr.keep hO.keep.wf k5).hp rfl) hjl fun m5 a' c' k6 ho=>⟨_,_,_,rfl,⟨⟨by omega,by omega⟩,?_⟩⟩
   rw[cW];have k6':Keep m4 (setFl m5 (bump m4 13).fl):=Keep.unset' k5 k6;have ho':OwnSl m4 (setFl m5 (bump m4 13).fl) t_int a' v.qn c' ((qs k).flatMap encI):=ho.hp k5.nx rfl;generalize setFl m5 (bump m4 13).fl=m6 at k6' ho';obtain⟨lam',hO2,hlab,hold⟩:=hO.ownSl k6' ho' (gQ4 _) (.qu k);obtain⟨g1,g2⟩:=hO2.setL (κ:=.own true) (qs':=qs k) (x':=x) (v':={ v with qa:=a',qc:=c' }) (k:=2) (vs:=[.slice a' v.qn c']) hv rfl (by simp) rfl ⟨(ho'.old hO.keep.nx).csl _,hlab,hjarr.1⟩ (by
    obtain⟨q1,q2⟩:=hO2.dl k v x hv hx;exact⟨⟨q1.most,q1.holder,q1.dead⟩,q2⟩)
   refine⟨g1,?_⟩;rw[cO];rw[set_self hx]at g2;refine hI _ hlt ⟨lam',_,_,_,g2,fun i hi=>?_⟩;by_cases e:i=k
   .subst e;exact fy ..
   .rw[eV e];exact hdone i (by omega)
  .exact h _ _ _ _ _ _ _ _ _ _ _ _ (hO.kd (wj':=fun _=>.own true) (wq':=fun _=>.own true) (fun _ _=>rfl) (fun i hi=>hdone i (by omega)))
end
end Go.Proofs.YthpnifigjfplbaaGreat.vc
namespace Go.Proofs.YthpnifigjfplbaaGreat.vc
open Go Go.AX
def N5(σ : pm.St):Prop:=∀p∈pm.asks σ,1<=p.2/\p.2<=(σ.sems.length:Int)
theorem Qc{σ : pm.St}{p:Nat×Int}(h:p∈pm.asks σ):∃x,σ.servs[p.1]? = some x:=by
 rw[zI]at h;obtain⟨id,_,h2⟩:=List.mem_filterMap.1 h;unfold rq at h2;split at h2
 .cases h2
 .rename_i v hv;split at h2
  .cases h2
  .cases hc:((pm.dI _).2&&(cR 0 (pm.dI _).1.1&&cT v.sec 0))with
   | true=>rw[hc]at h2;cases h2;exact⟨v,hv⟩
   | false=>rw[hc]at h2;cases h2
section
variable {wj wq:Nat->Kd} {m0 m:Mem} {lam:Nat->Lb} {Q:Value->Mem->Prop} {M now:Int} {a1 a2 a3:Option Addr} {n1 c1 n2 c2 n3 c3:Nat} {ss:List SV} {js:Nat->List JV} {ls:List LV} {qs:Nat->List Int} {σ : pm.St}
theorem Lw(hO:Ow TT wj wq m0 m lam a1 n1 c1 a2 n2 c2 a3 n3 c3 ss js ls qs σ)(eM:M = σ.m)(en:now = σ.now)(hz:Small σ)(hM:1<=M)(hM2:M<=64)(hr:Rise σ.servs)(hb:Nw σ)(ha:N5 σ)
  (h0:∀m',pm.refuse σ = none->Keep m m'->Q (.tuple #[.slice none 0 0,.bool false]) m')
  (h1:∀m' b v e ss' js' σ',pm.refuse σ = some (σ',e)->Ow TT wj wq m0 m' lam a1 n1 c1 a2 n2 c2 a3 n3 c3 ss' js' ls qs σ'->(∃S,Fr m m' S/\∀b∈S,lam b = .sv)->m.nx<=b->b<m'.nx->Row m' b (encEv e) v false->Q (.tuple #[.slice (some ⟨b,0,none⟩) 1 1,.bool true]) m') :
  ah cx ic [.agg #[.int .i64 M,.int .i64 now,.slice a1 n1 c1,.slice a2 n2 c2,.slice a3 n3 c3]] m Q:=by
 apply uB;unfold qp;have hw:=hO.keep.wf;have k0:Keep m (bump m 1):=(Keep.refl hw).bump;have hz1:=hz.servs;have hz2:=hz.sems;have hz3:=hz.backs;have l1:=hO.s1d;have l2:=hO.s2d;have l3:=hO.s3n;have hRd:=(hO.then k0).reads (cx:=cx) eM en iN;refine Iu k0.wf hRd (by omega) (by omega) hM (by omega) hr hb fun m1 ap cp aq cq k1 hP hQ np nq=>⟨_,_,_,_,_,_,rfl,?_⟩
 have hP':=hP;have k01:=k0.trans k1;have hlen:(pm.asks σ).length<=1000000:=by
  rw[zI];refine Nat.le_trans (List.length_filterMap_le _ _) ?_;have:=jG σ (by rw[<-eM];exact hM);rw[<-eM]at this;omega
 refine og (show (pm.asks σ).length<=4611686018427387904 by omega) (fun k m2=>Keep m1 m2/\pm.lS σ (pm.asks σ)=pm.lS σ ((pm.asks σ).drop k)) ⟨Keep.refl k1.wf,rfl⟩ ?_;rintro k m2 hk ⟨k2,hrf⟩ I w hI;refine dG (fun hlt=>?_) (fun hge=>?_)
 .obtain⟨p,hp⟩:∃p,(pm.asks σ)[k]? = some p:=⟨_,gQ2 hlt⟩;have hmem:=gQ3 hp;obtain⟨x,hx⟩:=Qc hmem;obtain⟨hq1,hq2⟩:=ha p hmem;obtain⟨i,q⟩:=p;simp only at hx hq1 hq2;obtain⟨j,rfl⟩:∃j:Nat,q=(j:Int)+1:=⟨(q-1).toNat,by omega⟩;have hjl:j < σ.sems.length:=by omega
  obtain⟨l,hl⟩:∃l,σ.sems[j]? = some l:=⟨_,gQ2 hjl⟩;have hi:=(gQ1 hx).1;obtain⟨v,hv⟩:∃v,ss[i]? = some v:=⟨_,gQ2 (by rw[hO.s1n];omega)⟩;obtain⟨u,hu⟩:∃u,ls[j]? = some u:=⟨_,gQ2 (by rw[hO.s2n];omega)⟩;have hdrop:(pm.asks σ).drop k=(i,(j:Int)+1)::(pm.asks σ).drop (k+1):=by
   have:=List.drop_eq_getElem_cons hlt;rw[this];congr 1;exact Option.some.inj ((gQ2 hlt).symm.trans hp)
  have ej:de .i64 ((j:Int)+1) 1=(j:Int):=by rw[eO (by omega) (by omega)];omega
  have hp1:((pm.asks σ).map fun x=>(x.1:Int))[k]? = some (i:Int):=by rw[List.getElem?_map,hp];rfl
  have hp2:((pm.asks σ).map (·.2))[k]? = some ((j:Int)+1):=by rw[List.getElem?_map,hp];rfl
  have k3:Keep m2 (bump m2 27):=(Keep.refl k2.wf).bump;have kA:=(k01.trans k2).trans k3;have hO3:=hO.then kA;obtain⟨b1,o1,rfl,hlb1,hc1⟩:=hO3.atS hv;obtain⟨b2,o2,rfl,hlb2,hc2⟩:=hO3.atL hu;refine hP.open hp1 fun b o hc=>?_
  refine⟨_,(hc.keep k1.wf k2) 0 _ rfl,⟨⟨by omega,by omega⟩,?_⟩⟩;rw[cW];refine hQ.open hp2 fun bq oq hcq=>?_
  refine⟨_,(hcq.keep k1.wf (k2.trans k3)) 0 _ rfl,?_⟩;rw[ej];refine⟨⟨by omega,by omega⟩,?_⟩;rw[cW];obtain⟨dv,dj⟩:=hO.ds i v x hv hx;obtain⟨dl,dq⟩:=hO.dl j u l hu hl;refine⟨_,hc2 0 _ rfl,_,hc1 3 _ rfl,_,hc1 4 _ rfl,?_⟩;refine Jq k3.wf fun m3 k4=>⟨_,rfl,?_⟩
  have hO4:=hO3.then k4;obtain⟨b1',o1',e1,_,hc1'⟩:=hO4.atS hv;cases e1;rw[dl.most,dv.s,eM,en];have step:pm.lS σ ((pm.asks σ).drop k)=bif pm.pE σ.m l.most x.s.bud (de .i64 x.s.due σ.now) then pm.lS σ ((pm.asks σ).drop (k+1)) else some ({ σ with servs:=σ.servs.set i { x with s:=(pm.eS x.s).1 } },pm.dS σ 8 x.id ((j:Int)+1)):=by
   rw[hdrop,pm.lS];simp only[hx,show ((j:Int)+1-1).toNat=j by omega,hl]
  refine dR (fun hg=>?_) (fun hg=>?_)
  .refine⟨_,hc1' 1 _ rfl,_,hc1' 2 _ rfl,_,hc1' 3 _ rfl,_,hc1' 4 _ rfl,_,hc1' 5 _ rfl,?_⟩;refine Na k4.wf fun m4 k5=>⟨_,_,_,_,_,_,rfl,?_⟩
   have hO5:=hO4.then k5;have e1:(⟨v.s.q,v.s.p,v.s.bud,v.s.due,v.s.mode⟩:pm.Srv)=x.s:=dv.s;rw[e1];obtain⟨g1,g2⟩:=hO5.setS (κ:=wj i) (js':=js i) (x':={ x with s:=(pm.eS x.s).1 }) (v':={ v with s:=(pm.eS x.s).1 }) (k:=1) (vs:=[.int .i64 (pm.eS x.s).1.q,.int .i64 (pm.eS x.s).1.p,.int .i64 (pm.eS x.s).1.bud,.int .i64 (pm.eS x.s).1.due,.int .i64 (pm.eS x.s).1.mode]) hv rfl (by simp) rfl (hO5.jb i v hv) (by
    obtain⟨q1,q2⟩:=hO5.ds i v x hv hx;exact⟨⟨q1.id,rfl,q1.sec,q1.held,q1.num,q1.ran⟩,q2⟩)
   refine⟨g1,?_⟩;rw[cO];have hupj:il wj i (wj i)=wj:=by funext z;unfold il;split<;>simp_all
   have hupq:il js i (js i)=js:=by funext z;unfold il;split<;>simp_all
   rw[hupj,hupq]at g2;have fW:Fr m4 (wr m4 b1 (o1+Int.toNat (i:Int)*11+1) [.int .i64 (pm.eS x.s).1.q,.int .i64 (pm.eS x.s).1.p,.int .i64 (pm.eS x.s).1.bud,.int .i64 (pm.eS x.s).1.due,.int .i64 (pm.eS x.s).1.mode]) [b1]:=(Fr.refl m4 _).wr (.inl (by simp));generalize wr m4 b1 (o1+Int.toNat (i:Int)*11+1) [.int .i64 (pm.eS x.s).1.q,.int .i64 (pm.eS x.s).1.p,.int .i64 (pm.eS x.s).1.bud,.int .i64 (pm.eS x.s).1.due,.int .i64 (pm.eS x.s).1.mode]=m5 at g2 fW;have k6:Keep m5 (bump m5 13):=(Keep.refl g2.keep.wf).bump;have hO6:=g2.then k6;have hsv:(ss.set i { v with s:=(pm.eS x.s).1 })[i]? = some { v with s:=(pm.eS x.s).1 }:=by
    rw[List.getElem?_set];simp[(gQ1 hv).1]
   obtain⟨b1',o1',e1',_,hc6⟩:=hO6.atS hsv;cases e1';have hltb:b1<m.nx:=hO.lab b1 (by rw[hlb1];simp);have k14:Keep m1 m4:=(k2.trans k3).trans (k4.trans k5);have hQ5:Arr encI 1 (bump m5 13) aq (pm.asks σ).length ((pm.asks σ).map (·.2)):=((hQ.keep k1.wf k14).fr k14.wf fW (fun b hb hs=>by
    have h1:=nq b hb;have h2:(bump m 1).nx=m.nx+1:=rfl;rw[List.mem_singleton.1 hs]at h1;omega)).keep g2.keep.wf k6
   refine⟨_,hc6 0 _ rfl,?_⟩;refine hQ5.open hp2 fun bq' oq' hcq'=>⟨_,hcq' 0 _ rfl,?_⟩
   refine ul k6.wf fun m6 k7=>⟨_,_,_,_,rfl,?_⟩
   rw[cO];have hO7:=hO6.then k7;have x7:=k7.nx;have x6:(bump m5 13).nx=m5.nx+13:=rfl;have hno:lam (m5.nx+10) = .no:=by
    cases hl:lam (m5.nx+10)with
    | no=>rfl
    | _=>have:=g2.lab (m5.nx+10) (by rw[hl];simp);omega
   have fr0:Fr m m6 [b1]:=((((k01.trans k14).fr [b1]).trans fW (fun b hb=>.inl hb)).trans (k6.fr []) (fun b hb=>by cases hb)).trans (k7.fr []) (fun b hb=>by cases hb);have hmn:m.nx<=m5.nx+10:=by
    have:=(k01.trans k14).nx;have:=fW.nx;omega
   refine h1 _ (m5.nx+10) t_model_Event _ _ _ _ (by unfold pm.refuse;rw[hrf,step,hg];rfl) (hO7.fr (S:=[m5.nx+10]) (k7.wf.addO (by omega)) ((Fr.refl m6 _).addO (.inl (by simp))) (fun b hb=>by rw[List.mem_singleton.1 hb];exact hno)) ⟨[b1],fr0.addO (.inr hmn),fun b hb=>by rw[List.mem_singleton.1 hb];exact hlb1⟩ hmn (by simp;omega) ?_;refine Row.of_row ?_;rw[gJ,if_pos rfl,<-dv.id];rfl
  .refine hI _ hlt ⟨k2.trans (k3.trans k4),?_⟩;rw[hrf,step,hg];rfl
 .refine h0 m2 ?_ (k01.trans k2);unfold pm.refuse;rw[hrf,List.drop_eq_nil_of_le (by omega)];rfl
end
end Go.Proofs.YthpnifigjfplbaaGreat.vc
namespace Go.Proofs.YthpnifigjfplbaaGreat.vc
open Go Go.AX
structure EvS (m mm:Mem) (a:Option Addr) (n c:Nat) (E:List pm.Ev):Prop where
 grow:Grow mm a n c 4 t_model_Event (E.flatMap encEv)
 new:∀b∈blk a,m.nx<=b
theorem EvS.nil(m mm:Mem):EvS m mm none 0 0 []:=⟨Grow.nil _ _ _,fun b hb=>by cases hb⟩
theorem EvS.arr{m mm:Mem}{a:Option Addr}{n c:Nat}{E:List pm.Ev}(h:EvS m mm a n c E):Arr encEv 4 mm a n E:=Arr.of_grow fo (by omega) h.grow
theorem EvS.fr{m mm m2:Mem}{S:List Nat}{a:Option Addr}{n c:Nat}{E:List pm.Ev}(h:EvS m mm a n c E)(hw:Wf mm)(f:Fr mm m2 S)(hS:∀b∈blk a,b∉S):EvS m m2 a n c E:=⟨h.grow.fr f hw hS,h.new⟩
theorem EvS.then{m mm m2:Mem}{a:Option Addr}{n c:Nat}{E:List pm.Ev}(h:EvS m mm a n c E)(hw:Wf mm)(k:Keep mm m2):EvS m m2 a n c E:=h.fr hw (k.fr []) (fun _ _ h=>by cases h)
section
variable {wj wq:Nat->Kd} {m0 m mm:Mem} {lam:Nat->Lb} {M now:Int} {a a1 a2 a3:Option Addr} {n c n1 c1 n2 c2 n3 c3:Nat} {ss:List SV} {js:Nat->List JV} {ls:List LV} {qs:Nat->List Int} {σ : pm.St} {E:List pm.Ev}
theorem G1{lam:Nat->Lb}{m:Mem}(hm:∀b,lam b≠.no->b<m.nx){b:Nat}(hb:m.nx<=b):lam b = .no:=by
 cases hl:lam b with
 | no=>rfl
 | _=>have:=hm b (by rw[hl];simp);omega
theorem sY{k d:Nat}{kind who num:Int}{K:Option Addr->Nat->Nat->Mem->Prop}(hO:Ow TT wj wq m0 mm lam a1 n1 c1 a2 n2 c2 a3 n3 c3 ss js ls qs σ)(hm:∀b,lam b≠.no->b<m.nx)(hmm:m.nx<=mm.nx)(hE:EvS m mm a n c E)(hn:n<=100000)(hd:d<k)
  (hK:∀m2,Ow TT wj wq m0 m2 lam a1 n1 c1 a2 n2 c2 a3 n3 c3 ss js ls qs σ->EvS m m2 (some ⟨m2.nx-1,0,none⟩) (n+1) (n+1) (E++[⟨now,kind,who,num⟩])->Fr mm m2 (blk a)->mm.nx<m2.nx->K (some ⟨m2.nx-1,0,none⟩) (n+1) (n+1) m2) :
  ah cx dF [.agg #[.int .i64 M,.int .i64 now,.slice a1 n1 c1,.slice a2 n2 c2,.slice a3 n3 c3],.int .i64 kind,.int .i64 who,.int .i64 num] (bump mm k) fun r m9=>
   ∃(x1:Int),(∃(x2:Int),(∃(x3:Int),(∃(x4:Int),r=(.agg #[.int .i64 x1,.int .i64 x2,.int .i64 x3,.int .i64 x4])/\(∃(a84:Option Addr) (n84 c84:Nat) (m10:Mem),cQ cx (addO m9 (mm.nx+d) (row [.int .i64 x1,.int .i64 x2,.int .i64 x3,.int .i64 x4] t_model_Event false)) [bJ,bJ] [.slice a n c,.slice (some ⟨mm.nx+d,0,none⟩) 1 1]=some (.slice a84 n84 c84,m10)/\(cY m10 fun m11=>K a84 n84 c84 m11))))):=by
 have hw:=hO.keep.wf;have k10:Keep mm (bump mm k):=(Keep.refl hw).bump;have x10:(bump mm k).nx=mm.nx+k:=rfl;refine ul k10.wf fun m9 k11=>⟨_,_,_,_,rfl,?_⟩
 have x11:=k11.nx;have k12:Keep mm (addO m9 (mm.nx+d) (row [.int .i64 now,.int .i64 kind,.int .i64 who,.int .i64 num] t_model_Event false)):=(k10.trans k11).addO (by omega) (by omega);have hR:Row (addO m9 (mm.nx+d) (row [.int .i64 now,.int .i64 kind,.int .i64 who,.int .i64 num] t_model_Event false)) (mm.nx+d) [.int .i64 now,.int .i64 kind,.int .i64 who,.int .i64 num] t_model_Event false:=Row.of_row (by rw[gJ,if_pos rfl]);generalize addO m9 (mm.nx+d) (row [.int .i64 now,.int .i64 kind,.int .i64 who,.int .i64 num] t_model_Event false)=m10 at k12 hR;have hO10:=hO.then k12;have hE10:=hE.then hw k12;obtain⟨m11,q1,q2,q3,q4,q5⟩:=rz (cx:=cx) (t:=bJ) (by kernel_rfl) k12.wf hE10.grow (hR.first1 rfl) rfl rfl (by omega);refine⟨_,_,_,_,q1,?_⟩;rw[cO];have hx:m10.nx=m11.nx-1:=by omega
 have hgl:=hE10.grow.1;have x12:=k12.nx;rw[hx]at q5 ⊢;refine hK m11 (hO10.fr q2 q3 fun b hb=>G1 hm (hE.new b hb)) ⟨⟨?_,.inr ⟨_,rfl,rfl,?_,?_⟩⟩,fun b hb=>?_⟩ ((k12.fr (blk a)).trans q3 (fun b hb=>.inl hb)) (by omega)
 .rw[List.flatMap_append,gR2,hgl];simp[fo,Nat.succ_mul]
 .have:=q3.fl;have:=k12.fl;have:=hw.1;omega
 .rw[List.flatMap_append];exact q5
 .simp[blk]at hb;omega
end
end Go.Proofs.YthpnifigjfplbaaGreat.vc
