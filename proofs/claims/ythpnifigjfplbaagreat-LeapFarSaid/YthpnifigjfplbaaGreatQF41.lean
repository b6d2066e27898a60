import Derived.Test.YthpnifigjfplbaaGreatQF39
import Derived.Test.YthpnifigjfplbaaGreatQF27
import Derived.Test.YthpnifigjfplbaaGreatQF30
set_option linter.unusedVariables false
set_option linter.unusedSimpArgs false
set_option linter.unusedSectionVars false
namespace Go.Proofs.YthpnifigjfplbaaGreat.vc
open Go Go.AX
section
variable {B:Int}{m:Mem}{Q:Value->Mem->Prop}{a1 a2:Option Addr}{n1 c1 n2 c2:Nat}
theorem KP(h:Q (.bool true) m):ah cx ka [] m Q:=ah.ov dh KE rfl h
end
end Go.Proofs.YthpnifigjfplbaaGreat.vc
namespace Go.Proofs.YthpnifigjfplbaaGreat.vc
open Go Go.AX
section
variable {m:Mem}{a1 a2 a3:Option Addr}{n1 c1 n2 c2 n3 c3:Nat}
end
end Go.Proofs.YthpnifigjfplbaaGreat.vc
namespace Go.Proofs.YthpnifigjfplbaaGreat.vc
open Go Go.AX
section
variable {m:Mem}{a1 a2 a3:Option Addr}{n1 c1 n2 c2 n3 c3:Nat}
theorem He{k:Nat}(h:k<=100000000):bh .i64 (k:Int) 1=((k+1:Nat):Int):=by
 rw[dI (by omega) (by omega)];rfl
theorem Hf{a b:Nat}(h:b<a):a-(b+1)<a-b:=by omega
end
end Go.Proofs.YthpnifigjfplbaaGreat.vc
namespace Go.Proofs.YthpnifigjfplbaaGreat.vc
open Go Go.AX
section
variable {B:Int}{m mm mm' u:Mem}{Q:Value->Mem->Prop}{M now:Int}{a a' a1 a2 a3:Option Addr}{n c n' c' n1 c1 n2 c2 n3 c3:Nat}{σ : pm.St}
noncomputable def Hk(σ : pm.St):Bool:=σ.servs.any fun x=>dY x.s.mode 0&&cT x.s.due σ.now
theorem I6(hw:Wf m)(hσ : RdSt cx m M now a1 n1 a2 n2 a3 n3 c3 σ)(hn:n1<=1000)
  (h:∀m',Keep m m'->Q (.bool (Hk σ)) m') :
  ah cx qX [.agg #[.int .i64 M,.int .i64 now,.slice a1 n1 c1,.slice a2 n2 c2,.slice a3 n3 c3]] m Q:=by
 apply C5;unfold vI;rw[cP];have k0:Keep m (newO m (row [.int .i64 M,.int .i64 now,.slice a1 n1 c1,.slice a2 n2 c2,.slice a3 n3 c3] lB false)):=(Keep.refl hw).newO;have hR:Row (newO m (row [.int .i64 M,.int .i64 now,.slice a1 n1 c1,.slice a2 n2 c2,.slice a3 n3 c3] lB false)) m.nx [.int .i64 M,.int .i64 now,.slice a1 n1 c1,.slice a2 n2 c2,.slice a3 n3 c3] lB false:=Row.newO;generalize newO m (row [.int .i64 M,.int .i64 now,.slice a1 n1 c1,.slice a2 n2 c2,.slice a3 n3 c3] lB false)=m0 at k0 hR ⊢;refine⟨a1,n1,c1,by rw[hR.rd];rfl,?_⟩;obtain⟨ss,aS,rS⟩:=hσ.servs;have l1:=hσ.len1;have en:=hσ.enow;have aS0:=aS.keep hw k0;apply lR;unfold fT;apply mO;unfold gp;refine tq (show n1<=4611686018427387904 by omega) (fun k m1=>Keep m0 m1/\∀x∈σ.servs.take k,(dY x.s.mode 0&&cT x.s.due σ.now)=false) ⟨Keep.refl k0.wf,by simp⟩ ?_;rintro k m1 hk ⟨k1,hb⟩ I w hI;refine dN (fun hlt=>?_) (fun hge=>?_)
 .obtain⟨x,hx⟩:∃x,σ.servs[k]? = some x:=⟨_,List.getElem?_eq_getElem (by omega)⟩;obtain⟨v,hv,rv⟩:=rS.get' hx;have ev:v.s=x.s:=rv.s;refine(aS0.keep k0.wf k1).open (k:=k) hv fun b o hc=>⟨_,hc 0 _ rfl,_,hc 1 _ rfl,_,hc 2 _ rfl,_,hc 3 _ rfl,_,hc 4 _ rfl,_,hc 5 _ rfl,_,_,_,hc 6 _ rfl,_,hc 7 _ rfl,_,hc 8 _ rfl,_,hc 9 _ rfl,_,hc 10 _ rfl,?_⟩
  show ah cx sE [.agg #[.int .i64 v.id,.int .i64 v.s.q,.int .i64 v.s.p,.int .i64 v.s.bud,.int .i64 v.s.due,.int .i64 v.s.mode,.slice v.ja v.jn v.jc,.int .i64 v.sec,.int .i64 v.held,.int .i64 v.num,.int .i64 v.ran],.pointer (some ⟨m.nx,0,none⟩)] m1 _;rw[ev];apply A1;unfold sF;have k2:Keep m1 (bump m1 1):=(Keep.refl k1.wf).bump;have stop:∀mz,Keep m1 mz->(dY x.s.mode 0&&cT x.s.due σ.now)=true->∃x7,(Value.int .i64 (k:Int)) = .int .i64 x7/\∃b6,(Value.bool (leI 0 x7)) = .bool b6/\Q (.bool b6) mz:=by
   intro mz kz ht;refine⟨_,rfl,_,rfl,?_⟩;have e:leI 0 (k:Int)=Hk σ:=by
    rw[fU.2 (by omega)];exact(List.any_eq_true.2 ⟨x,List.mem_of_getElem? hx,ht⟩).symm
   rw[e];exact h mz ((k0.trans k1).trans kz)
  have on:∀mz,Keep m1 mz->(dY x.s.mode 0&&cT x.s.due σ.now)=false->Keep m0 mz/\∀y∈σ.servs.take (k+1),(dY y.s.mode 0&&cT y.s.due σ.now)=false:=by
   intro mz kz hf;refine⟨k1.trans kz,fun y hy=>?_⟩;rw[List.take_add_one,hx]at hy;rcases List.mem_append.1 hy with hy|hy
   .exact hb y hy
   .simp at hy;subst hy;exact hf
  refine gR (fun h0=>?_) (fun h0=>?_)
  .rw[cS];refine⟨now,by rw[FD,(k1.row k0.wf hR).rd];rfl,_,rfl,?_⟩;refine cO (fun h1=>stop _ k2 (by rw[gS.2 h0,<-en,h1];rfl)) (fun h1=>hI _ hlt (on _ k2 (by rw[gS.2 h0,<-en,h1];rfl)))
  .refine⟨_,rfl,cO (fun h=>by cases h) (fun _=>hI _ hlt (on _ k2 (by rw[gq.2 h0];rfl)))⟩
 .rw[List.take_of_length_le (by omega)]at hb;refine⟨_,rfl,_,rfl,?_⟩;have e:leI 0 (-1)=Hk σ:=by
   have:Hk σ = false:=List.any_eq_false.2 fun x hx=>by rw[hb x hx];decide
   rw[this,nW.2 (by decide)]
  rw[e];exact h m1 (k0.trans k1)
theorem Hl{l l':List Int}(hw:Wf m)(h1:Arr encI 1 m a n l)(h2:Arr encI 1 m a' n' l')(hn:n<=1000)(h:∀m' b,Keep m m'->Q (.bool b) m'):ah cx kG [.slice a n c,.slice a' n' c'] m Q:=by
 apply sG;unfold oA;refine gR (fun hne=>h m _ (Keep.refl hw)) (fun he=>?_);simp only[am]at he;refine tq (show n<=4611686018427387904 by omega) (fun k mm=>Keep m mm) (Keep.refl hw) ?_;rintro k m1 hk k1 I w hI;refine dN (fun hlt=>?_) (fun hge=>h m1 _ k1);have k2:Keep m1 (bump m1 9):=(Keep.refl k1.wf).bump;obtain⟨y,hy⟩:∃y,l[k]? = some y:=⟨_,List.getElem?_eq_getElem (by have:=h1.1;omega)⟩;obtain⟨z,hz⟩:∃z,l'[k]? = some z:=⟨_,List.getElem?_eq_getElem (by have:=h2.1;omega)⟩;refine(h1.keep hw (k1.trans k2)).open (k:=k) hy fun b o hc=>⟨_,hc 0 _ rfl,?_⟩
 refine(h2.keep hw (k1.trans k2)).open (k:=k) hz fun b o hc=>⟨_,hc 0 _ rfl,?_⟩
 exact gR (fun _=>h _ _ (k1.trans k2)) (fun _=>hI _ hlt (k1.trans k2))
theorem A2(h:pm.Iv B σ):pm.Iv B { σ with backs:=[] }:=
 { h with len3:=by simp,back:=(fun b hb=>by cases hb),bnd:=by simp }
theorem uC(hw:Wf m)(hσ : RdSt cx m M now a1 n1 a2 n2 a3 n3 c3 σ)(hI:pm.Iv B σ)(hd:pm.Hd σ)
  (h:∀m' q ok,Keep m m'->(ok=true->1<=q/\q<=4611686018427387904/\σ.servs≠[])->Q (.tuple #[.int .i64 q,.bool ok]) m') :
  ah cx sD [.agg #[.int .i64 M,.int .i64 now,.slice a1 n1 c1,.slice a2 n2 c2,.slice a3 n3 c3]] m Q:=by
 apply A3;unfold sH;have k0:Keep m (bump m 1):=(Keep.refl hw).bump;have en:=hσ.enow;have hn0:=hI.now1;have hn1:=hI.now2;refine vF k0.wf (hσ.keep hw k0) hI fun m1 b1 d1 b2 d2 b3 d3 ae ne ce k1 hT hTE _=>⟨_,_,_,_,_,_,_,_,_,_,_,_,_,_,rfl,?_⟩
 obtain⟨hIT,hAT,hTm⟩:=pm.jJ hI;have hdT:=pm.sW hd;have hTT:=pm.nB hI;have hTn:=pm.pN hI;have hz1:=hIT.len1;have hz4:=hIT.m1;have hz5:=hIT.m2;have l1:=hT.len1;have eM:=hT.em;have hT0:RdSt cx m1 M now b1 n1 b2 n2 none 0 0 { (pm.settle σ).1 with backs:=[] }:=⟨hT.em,hT.enow,hT.servs,hT.sems,iZ.nil,Nat.le_refl _,.inl rfl⟩;refine rz k1.wf hT0 (by omega) (by omega) (by omega) (by omega) fun m2 ra rc ba bc k2 hAw _ _ _=>⟨_,_,_,_,_,_,rfl,?_⟩
 have hrl:(pm.aQ { (pm.settle σ).1 with backs:=[] }).length<=64:=pm.Fj (A2 hIT);have k02:=(k0.trans k1).trans k2;have hlen0:(pm.settle σ).1.servs.length = σ.servs.length:=by have:=congrArg List.length (pm.mI hI).2.2.2;simpa using this
 refine⟨fun xc xc21 ac nc cc ac22 nc23 cc24 ac25 nc26 cc27 mm w=>∃τ : pm.St,xc=M/\RdSt cx mm M xc21 ac nc ac22 nc23 ac25 nc26 cc27 τ/\pm.Iv B τ/\pm.Hd τ/\pm.pO τ/\(∀x∈τ.servs,pm.fp τ.now x)/\Keep m2 mm/\σ.now<=τ.now/\τ.servs.length = σ.servs.length/\w=(4611686018427387904 - τ.now).toNat,
  ⟨_,_,rfl,hT0.keep k1.wf k2,A2 hIT,hdT,hAT,hTT,Keep.refl k2.wf,(by show σ.now<=(pm.settle σ).1.now;omega),hlen0,rfl⟩,?_⟩
 rintro xc xc21 ac nc cc ac22 nc23 cc24 ac25 nc26 cc27 m3 w ⟨τ,rfl,hS,hIτ,hdτ,hAτ,hTτ,k3,hge,hlen,rfl⟩;have ex:=hS.enow;have ht0:=hIτ.now1;have ht1:=hIτ.now2;have k3b:Keep m3 (bump m3 8):=(Keep.refl k3.wf).bump;have e1:cZ .i64 4611686018427387904 xc21=4611686018427387904 - τ.now:=by rw[ex];exact eF (by omega) (by omega)
 rw[e1];have hwf:Wf (setFl (bump m3 8) m3.nx):=k3b.wf.setFl (by simp);refine EK hwf (hS.keep k3.wf k3b).setFl hIτ hdτ fun m4 k4=>⟨_,rfl,?_⟩
 have k4':Keep (bump m3 8) (setFl m4 (bump m3 8).fl):=Keep.unset k3b.wf k4;generalize setFl m4 (bump m3 8).fl=m4' at k4' ⊢;have k34:=k3b.trans k4';obtain⟨kk,hkk⟩:∃kk:Nat,(kk:Int)=pm.still τ (4611686018427387904 - τ.now):=⟨(pm.still τ (4611686018427387904 - τ.now)).toNat,by
  have:0<=pm.still τ (4611686018427387904 - τ.now):=by unfold pm.still;omega
  omega⟩
 rw[<-hkk];have hskip:τ.now+kk<=4611686018427387904/\pm.Iv B (pm.skip τ kk)/\pm.Hd (pm.skip τ kk)/\(pm.skip τ kk).now = τ.now+kk/\(pm.skip τ kk).servs.length = τ.servs.length:=by
  by_cases hz:kk=0
  .subst hz;have e:pm.skip τ ((0:Nat):Int) = τ:=by unfold pm.skip;exact if_pos rfl
   rw[e];exact⟨by omega,hIτ,hdτ,by simp,rfl⟩
  .obtain⟨hkn,hlast⟩:=pm.D3 (s:=τ) (most:=4611686018427387904 - τ.now) (k:=(kk:Int)) (by omega) (by rw[hkk];exact Int.le_refl _);have hkt:τ.now+kk<=4611686018427387904:=by omega
   obtain⟨t1,t2⟩:=pm.pP kk (by omega) hIτ hdτ hAτ hTτ hlast hkt;obtain⟨s1,s2,_⟩:=pm.gi τ (k:=(kk:Int)) (by omega);refine⟨hkt,?_,?_,s2,by rw[s1,List.length_map]⟩
   .rw[<-t1];exact(pm.rQ hIτ kk).1
   .rw[<-t1];exact pm.yW hIτ hdτ kk
 obtain⟨g1,g2,g3,g4,g5⟩:=hskip;refine Gf k4'.wf (hS.keep k3.wf k34) hIτ hdτ g1 fun m5 now5 s1 t1 s3 t3 k5 hR5=>⟨_,_,_,_,_,_,_,_,_,_,_,rfl,?_⟩
 have e5:=hR5.enow;have hnone:σ.servs=[]->(pm.skip τ kk).now=4611686018427387904:=by
  intro hz;have hτ : τ.servs=[]:=List.eq_nil_of_length_eq_zero (by rw[hlen,hz];rfl);have:pm.still τ (4611686018427387904 - τ.now)=max (4611686018427387904 - τ.now) 0:=by unfold pm.still;rw[hτ];rfl
  rw[g4];omega
 have k35:=k34.trans k5;have k05:=(k02.trans k3).trans k35;generalize pm.skip τ kk = τs at hR5 g2 g3 g4 g5 e5 hnone;have hz1':=g2.len1;have l5:=hR5.len1;refine dW (fun f:Bool->Mem->Prop=>∀mz b,Keep m5 mz->(b=true->now<now5/\σ.servs≠[])->f b mz) ?_ ?_
 .intro m6 b k6 hb;have k06:=k05.trans k6;refine cO (fun ht=>?_) (fun _=>?_)
  .obtain⟨h1,h2⟩:=hb ht;have e:cZ .i64 now5 now=now5-now:=eF (by omega) (by omega);rw[e];have:=g2.now2;exact h _ _ _ k06 fun _=>⟨by omega,by omega,h2⟩
  .refine Gg k6.wf (hR5.keep k5.wf k6) g2 fun m7 now7 u1 v1 u2 v2 u3 v3 av nv cv k7 hU hUE _=>⟨_,_,_,_,_,_,_,_,_,_,_,_,_,_,_,rfl,?_⟩
   obtain⟨hIU,_,_,hUn,hUerr⟩:=pm.xI g2;have hdU:=pm.Bh g2 g3;refine gR (fun _=>h _ _ _ ((k06.trans k7).bump) fun e=>by cases e) (fun herr=>?_);have hlt:τs.now<4611686018427387904:=by
    rw[hUerr]at herr;by_cases hc:τs.now<4611686018427387904
    .exact hc
    .rw[if_neg hc]at herr;exact absurd herr (by decide)
   rw[if_pos hlt]at hUn;have e7:=hU.enow;have hsne:σ.servs≠[]:=fun hz=>by have:=hnone hz;omega
   have hUlen:(pm.tick τs).1.servs.length = τs.servs.length:=by
    have h1:=hU.len1;omega
   have k7b:Keep m7 (bump m7 1):=(Keep.refl k7.wf).bump;refine vF k7b.wf (hU.keep k7.wf k7b) hIU fun m8 x1 y1 x2 y2 x3 y3 aw nw cw k8 hV hVE _=>⟨_,_,_,_,_,_,_,_,_,_,_,_,_,_,rfl,?_⟩
   obtain⟨hIV,hAV,hVm⟩:=pm.jJ hIU;have hdV:=pm.sW hdU;have hTV:=pm.nB hIU;have hVn:=pm.pN hIU;have hVlen:(pm.settle (pm.tick τs).1).1.servs.length=(pm.tick τs).1.servs.length:=by have:=congrArg List.length (pm.mI hIU).2.2.2;simpa using this
   have q1:=hIV.len1;have q3:=hIV.len3;have q4:=hIV.m1;have q5:=hIV.m2;have ll1:=hV.len1;have ll3:=hV.len3;have eMV:=hV.em;have k8b:Keep m8 (bump m8 1):=(Keep.refl k8.wf).bump;refine rz k8b.wf (hV.keep k8.wf k8b) (by omega) (by omega) (by omega) (by omega) fun m9 ra2 rc2 ba2 bc2 k9 hAn _ _ _=>⟨_,_,_,_,_,_,rfl,?_⟩
   have k89:=k8b.trans k9;have k79:=(k7b.trans k8).trans k89;have k09:=(k06.trans k7).trans k79;have k29:=(k3.trans k35).trans ((k6.trans k7).trans k79);refine dW (fun f:Bool->Mem->Prop=>∀mz b,Keep m9 mz->f b mz) ?_ ?_
   .intro m10 b2 k10;refine cO (fun _=>?_) (fun _=>?_)
    .have e:cZ .i64 now7 now=now7-now:=eF (by omega) (by omega);rw[e];exact h _ _ _ (k09.trans k10) fun _=>⟨by omega,by omega,hsne⟩
    .exact⟨_,by omega,_,rfl,(hV.keep k8.wf k89).keep k9.wf k10,hIV,hdV,hAV,hTV,k29.trans k10,by omega,by omega,rfl⟩
   .intro J hJ;refine dF (fun _=>hJ _ _ (Keep.refl k9.wf)) (fun _=>dF (fun _=>hJ _ _ (Keep.refl k9.wf)) (fun _=>?_));refine I6 k9.wf (hU.keep k7.wf k79) (by omega) fun m11 k11=>⟨_,rfl,cO (fun _=>hJ _ _ k11) (fun _=>?_)⟩
    exact Hl k11.wf (hAw.keep k2.wf (k29.trans k11)) (hAn.keep k9.wf k11) (by omega) fun m12 b k12=>⟨_,rfl,hJ _ _ (k11.trans k12)⟩
 .intro J hJ;refine dF (fun hlt=>?_) (fun _=>hJ _ _ (Keep.refl k5.wf) fun e=>by cases e);refine I6 k5.wf hR5 (by omega) fun m13 k13=>⟨_,rfl,hJ _ _ k13 fun e=>⟨hlt,fun hz=>?_⟩⟩
  obtain⟨x,hx,_⟩:=List.any_eq_true.1 e;have:τs.servs=[]:=List.eq_nil_of_length_eq_zero (by rw[g5,hlen,hz];rfl);rw[this]at hx;cases hx
end
end Go.Proofs.YthpnifigjfplbaaGreat.vc
namespace Go.Proofs.YthpnifigjfplbaaGreat.vc
open Go Go.AX
section
variable {B:Int}{m:Mem}{Q:Value->Mem->Prop}{M now:Int}{a1 a2 a3:Option Addr}{n1 c1 n2 c2 n3 c3:Nat}{σ : pm.St}
end
end Go.Proofs.YthpnifigjfplbaaGreat.vc
namespace Go.Proofs.YthpnifigjfplbaaGreat.vc
open Go Go.AX
section
variable {m:Mem}{a1 a2 a3:Option Addr}{n1 c1 n2 c2 n3 c3:Nat}
end
end Go.Proofs.YthpnifigjfplbaaGreat.vc
namespace Go.Proofs.YthpnifigjfplbaaGreat.vc
open Go Go.AX
section
variable {m:Mem} {a1 a2 a3:Option Addr} {n1 c1 n2 c2 n3 c3:Nat}
theorem Mf {x0 x1 x2:Int} (hw:Wf m) :
  ah cx vW [.int .i64 x0,.int .i64 x1,.int .i64 x2] m fun r _=>r = .bool true:=by
 apply zr; unfold qF
 refine KP ⟨true,rfl,fm (fun h=>by cases h) (fun _=>?_)⟩
 refine dW (fun f:Mem→Prop=>1≤x0→x0≤64→0≤x1→x1≤16→0≤x2→x2≤1099511627776→f m) ?_ ?_
 ·intro h1 h2 h3 h4 h5 h6
  obtain ⟨bk,rfl⟩:∃ bk:Nat,x1=(bk:Int):=⟨x1.toNat,by omega⟩
  obtain ⟨n,rfl⟩:∃ n:Nat,x2=(n:Int):=⟨x2.toNat,by omega⟩
  have hnew:pm.new x0 []=(⟨x0,0,[],[],[]⟩,0):=by
   unfold pm.new
   rw [dJ.2 h1,dJ.2 h2,show cQ 8 (am ([]:List Int).length)=false from dJ.2 (by decide)]
   rfl
  refine zO hw (iZ.nil (P:=uA encI) (s:=1)) (fun m1 k1 hne _=>absurd (show (pm.new x0 []).2=0 by rw [hnew]) hne) (fun m1 b2 d2 k1 he hR=>⟨_,_,_,_,_,_,_,_,_,_,_,_,rfl,?_⟩)
  have hI0:=(pm.MI he).1
  rw [hnew] at hR hI0
  have kb:Keep m1 (bump m1 1):=(Keep.refl k1.wf).bump
  refine ⟨fun x9 xc xc1 ac nc cc ac2 nc2 cc2 ac3 nc3 cc3 mm w=>∃ i:Nat,x9=(i:Int)∧i≤bk∧w=bk - i∧xc=x0∧Keep m1 mm∧RdSt cx mm x0 xc1 ac nc ac2 nc2 ac3 nc3 cc3 ⟨x0,0,[],[],pm.eG i⟩∧pm.Iv 0 ⟨x0,0,[],[],pm.eG i⟩,
   ⟨_,0,rfl,Nat.zero_le _,rfl,rfl,kb,hR.keep k1.wf kb,hI0⟩,?_⟩
  rintro x9 xc xc1 ac nc cc ac2 nc2 cc2 ac3 nc3 cc3 m4 w ⟨i,rfl,hi,rfl,rfl,k4,hS,hI⟩
  refine dF (fun hlt=>?_) (fun hge=>?_)
  ·have hlt':i < bk:=by omega
   have ea:bh .i64 (i:Int) 1=((i+1:Nat):Int):=He (by omega)
   have ea2:((i+1:Nat):Int)=(i:Int)+1:=by omega
   rw [ea,ea2]
   have hg:=pm.DX (σ:=⟨xc,0,[],[],pm.eG i⟩) (k:=i) (by omega) rfl
   have hIg:=(pm.Ia hI ((i:Int)+1) true).1
   refine IR k4.wf hS hI fun m5 b1 d1 b2 d2 b3 n3' d3 k5 hR5=>⟨_,_,_,_,_,_,_,_,_,_,_,_,rfl,_,Hf hlt',i+1,ea2.symm,hlt',rfl,rfl,k4.trans k5,?_,?_⟩
   ·rw [hg] at hR5; exact hR5
   ·rw [hg] at hIg; exact hIg
  ·have ei:i=bk:=by omega
   subst ei
   have hd:pm.Hd ⟨xc,0,[],[],pm.eG i⟩:=fun x hx=>by cases hx
   have hz:∀ x∈(⟨xc,0,[],[],pm.eG i⟩:pm.St).servs,x.s.mode=0:=fun x hx=>by cases hx
   have hnn:(⟨xc,0,[],[],pm.eG i⟩:pm.St).now+(n:Int)≤4611686018427387904:=by show (0:Int)+n≤_; omega
   obtain ⟨q1,q2⟩:=pm.J3 hI hd hz n hnn
   refine Nv k4.wf hS hI hd hnn (by rw [q1]; simp) fun m6 now6 s1 t1 s2 t2 s3 t3 ae ne ce k6 hT hTE=>⟨_,_,_,_,_,_,_,_,_,_,_,_,_,_,_,rfl,?_⟩
   rw [q1] at hTE
   rw [q2] at hT
   have hne:ne=0:=hTE.1.symm
   have hrun0:pm.aQ ⟨xc,0,[],[],pm.eG i⟩=[]:=by
    have:=pm.CM hI
    have h0:(pm.ready (⟨xc,0,[],[],pm.eG i⟩:pm.St).servs).length=0:=rfl
    exact List.eq_nil_of_length_eq_zero (by rw [h0] at this; omega)
   obtain ⟨many,hmany⟩:∃ many:Nat,many=(pm.fu ⟨xc,0,[],[],pm.eG i⟩).length:=⟨_,rfl⟩
   have hml:(many:Int)=min xc i:=by
    have:=pm.yn (σ:=⟨xc,0,[],[],pm.eG i⟩) (by rw [hrun0]; show (0:Int)≤xc; omega) h2 (by rw [pm.iO]; omega)
    rw [← hmany,hrun0] at this
    rw [this]
    show min (xc - 0) ((pm.eG i).length:Int)=_
    rw [pm.iO]; omega
   have hbk:(pm.skip ⟨xc,0,[],[],pm.eG i⟩ (n:Int)).backs=pm.fj (n*many) (pm.eG i):=by
    by_cases hn0:n=0
    ·subst hn0
     have e:pm.skip ⟨xc,0,[],[],pm.eG i⟩ ((0:Nat):Int)=⟨xc,0,[],[],pm.eG i⟩:=by unfold pm.skip; exact if_pos rfl
     rw [e,Nat.zero_mul]; rfl
    ·rw [(pm.gi _ (k:=(n:Int)) (by omega)).2.2.2.2,Int.toNat_natCast,← hmany]
     exact pm.vf n (by rw [pm.iO]; omega) fun b hb=>by have:=(pm.qP hb).1; omega
   have hnow:now6=(n:Int):=by
    rw [hT.enow]
    by_cases hn0:n=0
    ·subst hn0
     have e:pm.skip ⟨xc,0,[],[],pm.eG i⟩ ((0:Nat):Int)=⟨xc,0,[],[],pm.eG i⟩:=by unfold pm.skip; exact if_pos rfl
     rw [e]; rfl
    ·rw [(pm.gi _ (k:=(n:Int)) (by omega)).2.1]; show (0:Int)+n=n; omega
   have hB:=hT.backs
   rw [hbk] at hB
   have hl3:nc3=i:=by have:=hS.len3; rw [← this]; exact pm.iO i
   have kb6:Keep m6 (bump m6 1):=(Keep.refl k6.wf).bump
   subst hl3
   refine dW (fun f:Mem→Prop=>f (bump m6 1)) ?_ ?_
   ·have k46:=k6.trans kb6
    refine uC kb6.wf (hS.keep k4.wf k46) hI hd fun m8 q ok k8 hq=>⟨_,_,rfl,?_⟩
    have hok:ok=false:=by
     cases ok with
     | false=>rfl
     | true=>exact absurd rfl (hq rfl).2.2
    subst hok
    have B8:=hB.keep k6.wf (kb6.trans k8)
    have hvals:∀ {b},b∈pm.fj (n*many) (pm.eG nc3)→(((n*many) / nc3:Nat):Int)≤b.ran∧b.ran≤(((n*many) / nc3:Nat):Int)+1:=fun hb=>pm.LH hb
    have hmn:many≤16:=by omega
    have hnm:n*many≤1099511627776*16:=Nat.mul_le_mul (by omega) hmn
    have hdiv:=Nat.div_le_self (n*many) nc3
    generalize hD:n*many / nc3=D at hvals hdiv
    have hsum0:pm.gH (pm.fj (n*many) (pm.eG nc3))=((n*many:Nat):Int):=by
     by_cases hz0:nc3=0
     ·subst hz0
      have e1:pm.fj (n*many) (pm.eG 0)=[]:=pm.qg _
      have e2:many=0:=by omega
      rw [e1,e2]; rfl
     ·rw [pm.zX _ (fun e=>by have:=pm.iO nc3; rw [e] at this; simp at this; omega),pm.zY]; omega
    have hTl:(pm.fj (n*many) (pm.eG nc3)).length=nc3:=by rw [pm.wV,pm.iO]
    generalize pm.fj (n*many) (pm.eG nc3)=X at B8 hvals hsum0 hTl
    refine ⟨fun x15 x16 x17 x18 mm w=>∃ j:Nat,x18=(j:Int)∧j≤nc3∧w=nc3 - j∧mm=m8∧x15=pm.gH (X.take j)∧(D:Int)≤x16∧x16≤4611686018427387904∧0≤x17∧x17≤(D:Int)+1,
     ⟨_,0,rfl,Nat.zero_le _,rfl,rfl,rfl,by omega,by omega,by omega,by omega⟩,?_⟩
    rintro x15 x16 x17 x18 m9 w ⟨j,rfl,hj,rfl,rfl,rfl,g1,g2,g3,g4⟩
    have hsb:0≤pm.gH (X.take j)∧pm.gH (X.take j)≤((D:Int)+1)*(X.take j).length:=pm.D5 fun b hb=>by have:=hvals (List.mem_of_mem_take hb); omega
    have hjl:((X.take j).length:Int)≤16:=by rw [List.length_take]; omega
    have hsb2:pm.gH (X.take j)≤((D:Int)+1)*16:=Int.le_trans hsb.2 (Int.mul_le_mul_of_nonneg_left hjl (by omega))
    refine dF (fun hlt=>?_) (fun hge=>?_)
    ·have hlt':j < nc3:=by omega
     obtain ⟨b,hb⟩:∃ b,X[j]? = some b:=⟨_,List.getElem?_eq_getElem (by omega)⟩
     have hv:=hvals (List.mem_of_getElem? hb)
     refine B8.open (k:=j) hb fun bb o hc=>⟨_,hc 1 _ rfl,?_⟩
     have es:bh .i64 (pm.gH (X.take j)) b.ran=pm.gH (X.take (j+1)):=by
      rw [pm.Ik hb,dI (by omega) (by omega)]
     rw [es]
     refine dW (fun f:Int→Mem→Prop=>∀ y,(D:Int)≤y→y≤4611686018427387904→f y m9) ?_ ?_
     ·intro y hy1 hy2
      exact dF (fun _=>⟨_,Hf hlt',j+1,He (by omega),hlt',rfl,rfl,rfl,hy1,hy2,by omega,by omega⟩) (fun _=>⟨_,Hf hlt',j+1,He (by omega),hlt',rfl,rfl,rfl,hy1,hy2,g3,g4⟩)
     ·intro J hJ
      exact dF (fun _=>hJ _ (by omega) (by omega)) (fun _=>hJ _ g1 g2)
    ·have ej:j=nc3:=by omega
     subst ej
     rw [List.take_of_length_le (by omega)]
     refine dW (fun f:Int→Mem→Prop=>f (many:Int) m9) ?_ ?_
     ·have em:io .i64 (n:Int) (many:Int)=((n*many:Nat):Int):=by
       have:(n:Int)*(many:Int)=((n*many:Nat):Int):=by simp
       unfold io
       rw [this]
       exact je (by omega) (by omega)
      rw [em]
      refine fm (fun _=>iY (fun _=>iY (fun _=>rfl) (fun _=>?_)) (fun e=>absurd hsum0 e)) (fun h=>by cases h)
      have el:cZ .i64 x17 x16=x17 - x16:=eF (by omega) (by omega)
      rw [el,fU.2 (by omega)]
     ·intro J hJ
      refine dF (fun h=>?_) (fun h=>?_)
      ·have:(j:Int)=(many:Int):=by omega
       rw [this]; exact hJ
      ·have:xc=(many:Int):=by omega
       rw [this]; exact hJ
   ·intro J hJ
    refine gR (fun e=>absurd rfl e) (fun _=>gR (fun e=>absurd rfl e) (fun _=>gR (fun e=>absurd (by rw [hne]; rfl) e) (fun _=>gR (fun e=>absurd hnow e) (fun _=>gR (fun e=>absurd rfl e) (fun _=>hJ)))))
 ·intro J hJ
  exact dF (fun _=>rfl) (fun h1=>dF (fun _=>rfl) (fun h2=>dF (fun _=>rfl) (fun h3=>dF (fun _=>rfl) (fun h4=>dF (fun _=>rfl) (fun h5=>dF (fun _=>rfl) (fun h6=>hJ h1 h2 h3 h4 h5 h6))))))
end
end Go.Proofs.YthpnifigjfplbaaGreat.vc
