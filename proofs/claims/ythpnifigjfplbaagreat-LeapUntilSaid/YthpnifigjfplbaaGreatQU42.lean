import Derived.Test.YthpnifigjfplbaaGreatQU39
import Derived.Test.YthpnifigjfplbaaGreatQU40
import Derived.Test.YthpnifigjfplbaaGreatQU27
import Derived.Test.YthpnifigjfplbaaGreatQU30
set_option linter.unusedVariables false
set_option linter.unusedSimpArgs false
set_option linter.unusedSectionVars false
namespace Go.Proofs.YthpnifigjfplbaaGreat.vc
open Go Go.AX
section
variable {B:Int} {m:Mem} {Q:Value->Mem->Prop} {a1 a2:Option Addr} {n1 c1 n2 c2:Nat}
theorem Nt(h:Q (.bool true) m):ah cx kR [] m Q:=ah.ov db Nh rfl h
theorem N4{k:Nat}(h:k<=1000000):bh .i64 (k:Int) 1=((k+1:Nat):Int):=by
 rw[dN (by omega) (by omega)];rfl
structure MadeOk (x0:Int) (k:Nat) (τ : pm.St):Prop where
 iv:pm.Iv (k:Int) τ
 hd:pm.Hd τ
 m:τ.m=x0
 now:τ.now<=30*(k:Int)
theorem O4{x0:Int}{most:List Int}{l:List AV}{A:List pm.Act}(hw:Wf m)(hm:Arr encI 1 m a1 n1 most)(hl:Arr Iy 6 m a2 n2 l)(hA:All2 (RdAct m) l A)
  (hF:∀m' x0' now' b1 e1 d1 b2 e2 d2 b3 e3 d3,Keep m m'->Q (.tuple #[.agg #[.int .i64 x0',.int .i64 now',.slice b1 e1 d1,.slice b2 e2 d2,.slice b3 e3 d3],.bool false]) m')
  (hQ:∀m' now' b1 e1 d1 b2 e2 d2 b3 e3 d3 k τ,Keep m m'->RdSt cx m' x0 now' b1 e1 b2 e2 b3 e3 d3 τ->k<=40->MadeOk x0 k τ->Q (.tuple #[.agg #[.int .i64 x0,.int .i64 now',.slice b1 e1 d1,.slice b2 e2 d2,.slice b3 e3 d3],.bool true]) m') :
  ah cx xA [.int .i64 x0,.slice a1 n1 c1,.slice a2 n2 c2] m Q:=by
 apply Fl;unfold xB;have k0:Keep m (bump m 1):=(Keep.refl hw).bump;refine Bv k0.wf (hm.keep hw k0) (fun m1 k1 hne _=>⟨_,_,_,_,_,_,_,_,_,_,_,_,rfl,?_⟩) (fun m1 b2 d2 k1 he hR=>⟨_,_,_,_,_,_,_,_,_,_,_,_,rfl,?_⟩)
 .have k01:=(k0.trans k1).bump (n:=1);refine dL (fun f:Bool->Mem->Prop=>f true (bump m1 1)) ?_ ?_
  .exact cJ (fun _=>hF _ _ _ _ _ _ _ _ _ _ _ _ k01) (fun h=>by cases h)
  .exact fun J hJ=>fu (fun _=>hJ) (fun e=>absurd e (by decide))
 .obtain⟨hI,he2,_⟩:=pm.Pz he;have hn0:(pm.new x0 most).1.now=0:=by rw[he2]
  have hM:(pm.new x0 most).1.m=x0:=by rw[he2]
  have hd:=pm.Py x0 most;generalize (pm.new x0 most).1 = σ at hI hR hn0 hM hd;have k01:=(k0.trans k1).bump (n:=1);have kb:Keep m1 (bump m1 1):=(Keep.refl k1.wf).bump;refine dL (fun f:Bool->Mem->Prop=>∀b,(b=false->n2<=40)->f b (bump m1 1)) ?_ ?_
  .intro b hb;refine cJ (fun _=>hF _ _ _ _ _ _ _ _ _ _ _ _ k01) (fun hbf=>?_);have hn2:=hb hbf;refine⟨fun x10 xc xc1 ac nc cc ac2 nc2 cc2 ac3 nc3 cc3 mm w=>∃(k:Nat) (τ : pm.St),x10=(k:Int)/\k<=n2/\w=n2-k/\xc=x0/\Keep m mm/\RdSt cx mm x0 xc1 ac nc ac2 nc2 ac3 nc3 cc3 τ/\MadeOk x0 k τ,
    ⟨n2,0,σ,rfl,Nat.zero_le _,rfl,rfl,k01,hR.keep k1.wf kb,hI,hd,hM,by rw[hn0];simp⟩,?_⟩
   rintro x10 xc xc1 ac nc cc ac2 nc2 cc2 ac3 nc3 cc3 mm w ⟨k,τ,rfl,hk,rfl,rfl,kk,hS,hO⟩;refine dG (fun hlt=>?_) (fun hge=>hQ _ _ _ _ _ _ _ _ _ _ _ k τ kk hS (by omega) hO);obtain⟨v,hv⟩:∃v,l[k]? = some v:=⟨_,gQ2 (by have:=hl.1;omega)⟩;obtain⟨X',hX',hr⟩:=hA.get hv;obtain⟨op,who,q,p,n,steps⟩:=X';obtain⟨o1,o2,o3,o4,o5,oa,on,oc⟩:=v;obtain⟨z1,z2,z3,z4,z5,hst⟩:=hr;simp only at z1 z2 z3 z4 z5 hst;subst z1 z2 z3 z4 z5;have k4:Keep mm (bump mm 1):=(Keep.refl kk.wf).bump;have hBk:(k:Int)<4611686018427387904:=by omega
   have hkc:((k+1:Nat):Int)=(k:Int)+1:=by omega
   have ea:=N4 (k:=k) (by omega);have hdec:n2-(k+1)<n2-k:=by omega
   have next:∀{τ':pm.St},pm.Iv ((k:Int)+1) τ'->pm.Hd τ'->τ'.m = τ.m->τ'.now<=τ.now+30->MadeOk xc (k+1) τ':=fun h1 h2 h3 h4=>
    ⟨by rw[hkc];exact h1,h2,h3.trans hO.m,by have:=hO.now;omega⟩
   refine(hl.keep hw kk).open (k:=k) hv fun b o hc=>⟨o1,hc 0 _ rfl,o2,hc 1 _ rfl,o3,hc 2 _ rfl,o4,hc 3 _ rfl,o5,hc 4 _ rfl,oa,on,oc,hc 5 _ rfl,?_⟩
   refine dP (fun _=>hF _ _ _ _ _ _ _ _ _ _ _ _ (kk.trans k4)) (fun _=>?_);have hIk:=hO.iv;refine cJ (fun c0=>?_) (fun c0=>?_)
   .obtain⟨i1,i2,i3,_⟩:=pm.PC hIk (by omega) o2 o3 o4;exact Bu k4.wf (hS.keep kk.wf k4) hIk fun m' b1 n1' d1 b2 d2 b3 d3 k' hR'=>⟨_,_,_,_,_,_,_,_,_,_,_,_,rfl,_,hdec,k+1,_,ea,hlt,rfl,rfl,(kk.trans k4).trans k',hR',next (i1.mono (by omega)) (pm.Px hO.hd _ _ _) i2 (by rw[i3];omega)⟩
   refine cJ (fun c1=>?_) (fun c1=>?_)
   .obtain⟨i1,i2,i3,_⟩:=pm.Ov hIk o2;exact OQ k4.wf (hS.keep kk.wf k4) hIk fun m' b1 n1' d1 b2 d2 b3 d3 k' hR'=>⟨_,_,_,_,_,_,_,_,_,_,_,_,rfl,_,hdec,k+1,_,ea,hlt,rfl,rfl,(kk.trans k4).trans k',hR',next (i1.mono (by omega)) (pm.Ot hO.hd _) i2 (by rw[i3];omega)⟩
   refine cJ (fun c2=>?_) (fun c2=>?_)
   .obtain⟨i1,i2,i3,_⟩:=pm.I0 hIk hBk o2 steps;exact Jy k4.wf (hS.keep kk.wf k4) hIk hBk (hst.keep hw (kk.trans k4)) fun m' b1 d1 b2 d2 b3 d3 ae ne ce k' hR' _ _=>⟨_,_,_,_,_,_,_,_,_,_,_,_,_,_,_,rfl,_,hdec,k+1,_,ea,hlt,rfl,rfl,(kk.trans k4).trans k',hR',next i1 (pm.IW hO.hd _ _) i2 (by rw[i3];omega)⟩
   refine dL (fun f:Bool->Mem->Prop=>f (cT o1 3 || cT o1 4) (bump mm 1)) ?_ ?_
   .refine cJ (fun c3=>?_) (fun c3=>?_)
    .obtain⟨i1,i2,i3,_⟩:=pm.KB hIk o2 (cT o1 3);exact Le k4.wf (hS.keep kk.wf k4) hIk fun m' b1 d1 b2 d2 b3 n3' d3 k' hR'=>⟨_,_,_,_,_,_,_,_,_,_,_,_,rfl,_,hdec,k+1,_,ea,hlt,rfl,rfl,(kk.trans k4).trans k',hR',next (i1.mono (by omega)) (pm.Kz hO.hd _ _) i2 (by rw[i3];omega)⟩
    .refine⟨fun x5' yc yc1 bc oc dc bc2 oc2 dc2 bc3 oc3 dc3 mt w=>∃t:Nat,x5'=(t:Int)/\t<=30/\w=30-t/\yc=xc/\Keep mm mt/\RdSt cx mt xc yc1 bc oc bc2 oc2 bc3 oc3 dc3 (pm.dK t τ),⟨30,0,rfl,Nat.zero_le _,rfl,rfl,k4,hS.keep kk.wf k4⟩,?_⟩;rintro x5' yc yc1 bc oc dc bc2 oc2 dc2 bc3 oc3 dc3 mt w ⟨t,rfl,ht,rfl,rfl,kt,hR'⟩;obtain⟨j1,j2,_,_,j5⟩:=pm.lU hIk t;have done:MadeOk yc (k+1) (pm.dK t τ):=next (j1.mono (by omega)) (pm.tH hIk hO.hd t) j2 (by omega);refine dL (fun f:Mem->Prop=>t<30->f mt) ?_ ?_
     .intro hlt';refine Dq kt.wf hR' j1 fun m' now' b1 d1 b2 d2 b3 d3 ae ne ce k2 hR2 _ _=>⟨_,_,_,_,_,_,_,_,_,_,_,_,_,_,_,rfl,30-(t+1),?_,t+1,N4 (by omega),hlt',rfl,rfl,kt.trans k2,hR2⟩
      clear hdec;omega
     .intro J' hJ';refine dP (fun l1=>dP (fun l2=>hJ' (by clear hdec;omega)) (fun l2=>⟨_,hdec,k+1,_,ea,hlt,rfl,rfl,kk.trans kt,hR',done⟩)) (fun l1=>⟨_,hdec,k+1,_,ea,hlt,rfl,rfl,kk.trans kt,hR',done⟩)
   .intro J' hJ';refine cJ (fun c3=>?_) (fun c3=>?_)
    .rw[c3,Bool.true_or]at hJ';exact hJ'
    .rw[c3,Bool.false_or]at hJ';exact hJ'
  .intro J hJ;refine fu (fun e=>absurd (by rfl) e) (fun _=>dP (fun _=>hJ true (fun h=>by cases h)) (fun h15=>hJ _ (fun _=>?_)));simp only[aQ]at h15;omega
theorem Qz:ActT Tryz.prog EB (match Tryz.prog.underlying EB with|some (.struct fs)=>fs|_=>#[]) where
 he:=by kernel_rfl
 hone:=by kernel_rfl
 hC:=by kernel_rfl
 hs:=by kernel_rfl
 ints:=fun j hj=>match j,hj with
  | 0,_=>⟨t_int,by kernel_rfl,Tryz.underlying3⟩
  | 1,_=>⟨t_int,by kernel_rfl,Tryz.underlying3⟩
  | 2,_=>⟨jK,by kernel_rfl,Tryz.underlying2⟩
  | 3,_=>⟨jK,by kernel_rfl,Tryz.underlying2⟩
  | 4,_=>⟨jK,by kernel_rfl,Tryz.underlying2⟩
 steps:=⟨Ds,fY,t_int,jK,(match Tryz.prog.underlying fY with|some (.struct fs)=>fs|_=>#[]),by kernel_rfl,by kernel_rfl,by kernel_rfl,by kernel_rfl,by kernel_rfl,by kernel_rfl,by kernel_rfl,Tryz.underlying3,by kernel_rfl,Tryz.underlying2⟩
end
end Go.Proofs.YthpnifigjfplbaaGreat.vc
namespace Go.Proofs.YthpnifigjfplbaaGreat.vc
open Go Go.AX
section
variable {m:Mem} {a1 a2 a3:Option Addr} {n1 c1 n2 c2 n3 c3:Nat}
theorem O6(x y z w x' y' z' w':Int)(m:Mem):gj cx m 40 t_model_Event (.agg #[.int .i64 x,.int .i64 y,.int .i64 z,.int .i64 w]) (.agg #[.int .i64 x',.int .i64 y',.int .i64 z',.int .i64 w'])=qW (some (decide (x=x'))) (qW (some (decide (y=y'))) (qW (some (decide (z=z'))) (qW (some (decide (w=w'))) (some true)))):=by kernel_rfl
theorem Nv(x y z w:Int)(m:Mem):gj cx m 40 t_model_Event (.agg #[.int .i64 x,.int .i64 y,.int .i64 z,.int .i64 w]) (.agg #[.int .i64 x,.int .i64 y,.int .i64 z,.int .i64 w])=some true:=by
 rw[O6,pp,pp,pp,pp];rfl
end
end Go.Proofs.YthpnifigjfplbaaGreat.vc
namespace Go.Proofs.YthpnifigjfplbaaGreat.vc
open Go Go.AX
section
variable {m:Mem} {a1 a2 a3:Option Addr} {n1 c1 n2 c2 n3 c3:Nat}
theorem N6{k:Nat}(h:k<=100000000):bh .i64 (k:Int) 1=((k+1:Nat):Int):=by
 rw[dN (by omega) (by omega)];rfl
theorem Qk{a b:Nat}(h:b<a):a-(b+1)<a-b:=by omega
end
end Go.Proofs.YthpnifigjfplbaaGreat.vc
namespace Go.Proofs.YthpnifigjfplbaaGreat.vc
open Go Go.AX
section
variable {B:Int} {m mm mm' u:Mem} {Q:Value->Mem->Prop} {M now:Int} {a a' a1 a2 a3:Option Addr} {n c n' c' n1 c1 n2 c2 n3 c3:Nat} {σ : pm.St}
noncomputable def JC(σ : pm.St):Bool:=σ.servs.any fun x=>dT x.s.mode 0&&cT x.s.due σ.now
theorem Lu(hw:Wf m)(hσ : RdSt cx m M now a1 n1 a2 n2 a3 n3 c3 σ)(hn:n1<=1000)
  (h:∀m',Keep m m'->Q (.bool (JC σ)) m') :
  ah cx sO [.agg #[.int .i64 M,.int .i64 now,.slice a1 n1 c1,.slice a2 n2 c2,.slice a3 n3 c3]] m Q:=by
 apply Fs;unfold xE;rw[cO];have k0:Keep m (newO m (row [.int .i64 M,.int .i64 now,.slice a1 n1 c1,.slice a2 n2 c2,.slice a3 n3 c3] mq false)):=(Keep.refl hw).newO;have hR:Row (newO m (row [.int .i64 M,.int .i64 now,.slice a1 n1 c1,.slice a2 n2 c2,.slice a3 n3 c3] mq false)) m.nx [.int .i64 M,.int .i64 now,.slice a1 n1 c1,.slice a2 n2 c2,.slice a3 n3 c3] mq false:=Row.newO;generalize newO m (row [.int .i64 M,.int .i64 now,.slice a1 n1 c1,.slice a2 n2 c2,.slice a3 n3 c3] mq false)=m0 at k0 hR ⊢;refine⟨a1,n1,c1,by rw[hR.rd];rfl,?_⟩;obtain⟨ss,aS,rS⟩:=hσ.servs;have l1:=hσ.len1;have en:=hσ.enow;have aS0:=aS.keep hw k0;apply mM;unfold gt;apply nY;unfold gN;refine og (show n1<=4611686018427387904 by omega) (fun k m1=>Keep m0 m1/\∀x∈σ.servs.take k,(dT x.s.mode 0&&cT x.s.due σ.now)=false) ⟨Keep.refl k0.wf,by simp⟩ ?_;rintro k m1 hk ⟨k1,hb⟩ I w hI;refine dG (fun hlt=>?_) (fun hge=>?_)
 .obtain⟨x,hx⟩:∃x,σ.servs[k]? = some x:=⟨_,gQ2 (by omega)⟩;obtain⟨v,hv,rv⟩:=rS.get' hx;have ev:v.s=x.s:=rv.s;refine(aS0.keep k0.wf k1).open (k:=k) hv fun b o hc=>⟨_,hc 0 _ rfl,_,hc 1 _ rfl,_,hc 2 _ rfl,_,hc 3 _ rfl,_,hc 4 _ rfl,_,hc 5 _ rfl,_,_,_,hc 6 _ rfl,_,hc 7 _ rfl,_,hc 8 _ rfl,_,hc 9 _ rfl,_,hc 10 _ rfl,?_⟩
  show ah cx uk [.agg #[.int .i64 v.id,.int .i64 v.s.q,.int .i64 v.s.p,.int .i64 v.s.bud,.int .i64 v.s.due,.int .i64 v.s.mode,.slice v.ja v.jn v.jc,.int .i64 v.sec,.int .i64 v.held,.int .i64 v.num,.int .i64 v.ran],.pointer (some ⟨m.nx,0,none⟩)] m1 _;rw[ev];apply CH;unfold um;have k2:Keep m1 (bump m1 1):=(Keep.refl k1.wf).bump;have stop:∀mz,Keep m1 mz->(dT x.s.mode 0&&cT x.s.due σ.now)=true->∃x7,(Value.int .i64 (k:Int)) = .int .i64 x7/\∃b6,(Value.bool (leI 0 x7)) = .bool b6/\Q (.bool b6) mz:=by
   intro mz kz ht;refine⟨_,rfl,_,rfl,?_⟩;have e:leI 0 (k:Int)=JC σ:=by
    rw[fZ.2 (by omega)];exact(List.any_eq_true.2 ⟨x,gQ3 hx,ht⟩).symm
   rw[e];exact h mz ((k0.trans k1).trans kz)
  have on:∀mz,Keep m1 mz->(dT x.s.mode 0&&cT x.s.due σ.now)=false->Keep m0 mz/\∀y∈σ.servs.take (k+1),(dT y.s.mode 0&&cT y.s.due σ.now)=false:=by
   intro mz kz hf;refine⟨k1.trans kz,fun y hy=>?_⟩;rw[List.take_add_one,hx]at hy;rcases List.mem_append.1 hy with hy|hy
   .exact hb y hy
   .simp at hy;subst hy;exact hf
  refine fu (fun h0=>?_) (fun h0=>?_)
  .rw[cW];refine⟨now,by rw[CX,(k1.row k0.wf hR).rd];rfl,_,rfl,?_⟩;refine cJ (fun h1=>stop _ k2 (by rw[iw.2 h0,<-en,h1];rfl)) (fun h1=>hI _ hlt (on _ k2 (by rw[iw.2 h0,<-en,h1];rfl)))
  .refine⟨_,rfl,cJ (fun h=>by cases h) (fun _=>hI _ hlt (on _ k2 (by rw[fF.2 h0];rfl)))⟩
 .rw[List.take_of_length_le (by omega)]at hb;refine⟨_,rfl,_,rfl,?_⟩;have e:leI 0 (-1)=JC σ:=by
   have:JC σ = false:=List.any_eq_false.2 fun x hx=>by rw[hb x hx];decide
   rw[this,ki.2 (by decide)]
  rw[e];exact h m1 (k0.trans k1)
theorem JD{l l':List Int}(hw:Wf m)(h1:Arr encI 1 m a n l)(h2:Arr encI 1 m a' n' l')(hn:n<=1000)(h:∀m' b,Keep m m'->Q (.bool b) m'):ah cx gS [.slice a n c,.slice a' n' c'] m Q:=by
 apply nJ;unfold lA;refine fu (fun hne=>h m _ (Keep.refl hw)) (fun he=>?_);simp only[aQ]at he;refine og (show n<=4611686018427387904 by omega) (fun k mm=>Keep m mm) (Keep.refl hw) ?_;rintro k m1 hk k1 I w hI;refine dG (fun hlt=>?_) (fun hge=>h m1 _ k1);have k2:Keep m1 (bump m1 9):=(Keep.refl k1.wf).bump;obtain⟨y,hy⟩:∃y,l[k]? = some y:=⟨_,gQ2 (by have:=h1.1;omega)⟩;obtain⟨z,hz⟩:∃z,l'[k]? = some z:=⟨_,gQ2 (by have:=h2.1;omega)⟩;refine(h1.keep hw (k1.trans k2)).open (k:=k) hy fun b o hc=>⟨_,hc 0 _ rfl,?_⟩
 refine(h2.keep hw (k1.trans k2)).open (k:=k) hz fun b o hc=>⟨_,hc 0 _ rfl,?_⟩
 exact fu (fun _=>h _ _ (k1.trans k2)) (fun _=>hI _ hlt (k1.trans k2))
theorem CI(h:pm.Iv B σ):pm.Iv B { σ with backs:=[] }:=
 { h with len3:=by simp,back:=(fun b hb=>by cases hb),bnd:=by simp }
theorem wy(hw:Wf m)(hσ : RdSt cx m M now a1 n1 a2 n2 a3 n3 c3 σ)(hI:pm.Iv B σ)(hd:pm.Hd σ)
  (h:∀m' q ok,Keep m m'->(ok=true->1<=q/\q<=4611686018427387904/\σ.servs≠[])->Q (.tuple #[.int .i64 q,.bool ok]) m') :
  ah cx uh [.agg #[.int .i64 M,.int .i64 now,.slice a1 n1 c1,.slice a2 n2 c2,.slice a3 n3 c3]] m Q:=by
 apply CJ;unfold uo;have k0:Keep m (bump m 1):=(Keep.refl hw).bump;have en:=hσ.enow;have hn0:=hI.now1;have hn1:=hI.now2;refine xz k0.wf (hσ.keep hw k0) hI fun m1 b1 d1 b2 d2 b3 d3 ae ne ce k1 hT hTE _=>⟨_,_,_,_,_,_,_,_,_,_,_,_,_,_,rfl,?_⟩
 obtain⟨hIT,hAT,hTm⟩:=pm.jD hI;have hdT:=pm.uL hd;have hTT:=pm.oQ hI;have hTn:=pm.ri hI;have hz1:=hIT.len1;have hz4:=hIT.m1;have hz5:=hIT.m2;have l1:=hT.len1;have eM:=hT.em;have hT0:RdSt cx m1 M now b1 n1 b2 n2 none 0 0 { (pm.settle σ).1 with backs:=[] }:=⟨hT.em,hT.enow,hT.servs,hT.sems,jm.nil,gQ4 _,.inl rfl⟩;refine te k1.wf hT0 (by omega) (by omega) (by omega) (by omega) fun m2 ra rc ba bc k2 hAw _ _ _=>⟨_,_,_,_,_,_,rfl,?_⟩
 have hrl:(pm.bm { (pm.settle σ).1 with backs:=[] }).length<=64:=pm.vt (CI hIT);have k02:=(k0.trans k1).trans k2;have hlen0:(pm.settle σ).1.servs.length = σ.servs.length:=by have:=congrArg List.length (pm.nR hI).2.2.2;simpa using this
 refine⟨fun xc xc21 ac nc cc ac22 nc23 cc24 ac25 nc26 cc27 mm w=>∃τ : pm.St,xc=M/\RdSt cx mm M xc21 ac nc ac22 nc23 ac25 nc26 cc27 τ/\pm.Iv B τ/\pm.Hd τ/\pm.rk τ/\(∀x∈τ.servs,pm.fM τ.now x)/\Keep m2 mm/\σ.now<=τ.now/\τ.servs.length = σ.servs.length/\w=(4611686018427387904 - τ.now).toNat,
  ⟨_,_,rfl,hT0.keep k1.wf k2,CI hIT,hdT,hAT,hTT,Keep.refl k2.wf,(by show σ.now<=(pm.settle σ).1.now;omega),hlen0,rfl⟩,?_⟩
 rintro xc xc21 ac nc cc ac22 nc23 cc24 ac25 nc26 cc27 m3 w ⟨τ,rfl,hS,hIτ,hdτ,hAτ,hTτ,k3,hge,hlen,rfl⟩;have ex:=hS.enow;have ht0:=hIτ.now1;have ht1:=hIτ.now2;have k3b:Keep m3 (bump m3 8):=(Keep.refl k3.wf).bump;have e1:de .i64 4611686018427387904 xc21=4611686018427387904 - τ.now:=by rw[ex];exact eO (by omega) (by omega)
 rw[e1];have hwf:Wf (setFl (bump m3 8) m3.nx):=k3b.wf.setFl (by simp);refine G5 hwf (hS.keep k3.wf k3b).setFl hIτ hdτ fun m4 k4=>⟨_,rfl,?_⟩
 have k4':Keep (bump m3 8) (setFl m4 (bump m3 8).fl):=Keep.unset k3b.wf k4;generalize setFl m4 (bump m3 8).fl=m4' at k4' ⊢;have k34:=k3b.trans k4';obtain⟨kk,hkk⟩:∃kk:Nat,(kk:Int)=pm.still τ (4611686018427387904 - τ.now):=⟨(pm.still τ (4611686018427387904 - τ.now)).toNat,by
  have:0<=pm.still τ (4611686018427387904 - τ.now):=by unfold pm.still;omega
  omega⟩
 rw[<-hkk];have hskip:τ.now+kk<=4611686018427387904/\pm.Iv B (pm.skip τ kk)/\pm.Hd (pm.skip τ kk)/\(pm.skip τ kk).now = τ.now+kk/\(pm.skip τ kk).servs.length = τ.servs.length:=by
  by_cases hz:kk=0
  .subst hz;have e:pm.skip τ ((0:Nat):Int) = τ:=by unfold pm.skip;exact if_pos rfl
   rw[e];exact⟨by omega,hIτ,hdτ,by simp,rfl⟩
  .obtain⟨hkn,hlast⟩:=pm.Gm (s:=τ) (most:=4611686018427387904 - τ.now) (k:=(kk:Int)) (by omega) (by rw[hkk];exact Int.le_refl _);have hkt:τ.now+kk<=4611686018427387904:=by omega
   obtain⟨t1,t2⟩:=pm.vr kk (by omega) hIτ hdτ hAτ hTτ hlast hkt;obtain⟨s1,s2,_⟩:=pm.iM τ (k:=(kk:Int)) (by omega);refine⟨hkt,?_,?_,s2,by rw[s1,List.length_map]⟩
   .rw[<-t1];exact(pm.lU hIτ kk).1
   .rw[<-t1];exact pm.tH hIτ hdτ kk
 obtain⟨g1,g2,g3,g4,g5⟩:=hskip;refine Ip k4'.wf (hS.keep k3.wf k34) hIτ hdτ g1 fun m5 now5 s1 t1 s3 t3 k5 hR5=>⟨_,_,_,_,_,_,_,_,_,_,_,rfl,?_⟩
 have e5:=hR5.enow;have hnone:σ.servs=[]->(pm.skip τ kk).now=4611686018427387904:=by
  intro hz;have hτ : τ.servs=[]:=List.eq_nil_of_length_eq_zero (by rw[hlen,hz];rfl);have:pm.still τ (4611686018427387904 - τ.now)=max (4611686018427387904 - τ.now) 0:=by unfold pm.still;rw[hτ];rfl
  rw[g4];omega
 have k35:=k34.trans k5;have k05:=(k02.trans k3).trans k35;generalize pm.skip τ kk = τs at hR5 g2 g3 g4 g5 e5 hnone;have hz1':=g2.len1;have l5:=hR5.len1;refine dL (fun f:Bool->Mem->Prop=>∀mz b,Keep m5 mz->(b=true->now<now5/\σ.servs≠[])->f b mz) ?_ ?_
 .intro m6 b k6 hb;have k06:=k05.trans k6;refine cJ (fun ht=>?_) (fun _=>?_)
  .obtain⟨h1,h2⟩:=hb ht;have e:de .i64 now5 now=now5-now:=eO (by omega) (by omega);rw[e];have:=g2.now2;exact h _ _ _ k06 fun _=>⟨by omega,by omega,h2⟩
  .refine Dq k6.wf (hR5.keep k5.wf k6) g2 fun m7 now7 u1 v1 u2 v2 u3 v3 av nv cv k7 hU hUE _=>⟨_,_,_,_,_,_,_,_,_,_,_,_,_,_,_,rfl,?_⟩
   obtain⟨hIU,_,_,hUn,hUerr⟩:=pm.zA g2;have hdU:=pm.C3 g2 g3;refine fu (fun _=>h _ _ _ ((k06.trans k7).bump) fun e=>by cases e) (fun herr=>?_);have hlt:τs.now<4611686018427387904:=by
    rw[hUerr]at herr;by_cases hc:τs.now<4611686018427387904
    .exact hc
    .rw[if_neg hc]at herr;exact absurd herr (by decide)
   rw[if_pos hlt]at hUn;have e7:=hU.enow;have hsne:σ.servs≠[]:=fun hz=>by have:=hnone hz;omega
   have hUlen:(pm.tick τs).1.servs.length = τs.servs.length:=by
    have h1:=hU.len1;omega
   have k7b:Keep m7 (bump m7 1):=(Keep.refl k7.wf).bump;refine xz k7b.wf (hU.keep k7.wf k7b) hIU fun m8 x1 y1 x2 y2 x3 y3 aw nw cw k8 hV hVE _=>⟨_,_,_,_,_,_,_,_,_,_,_,_,_,_,rfl,?_⟩
   obtain⟨hIV,hAV,hVm⟩:=pm.jD hIU;have hdV:=pm.uL hdU;have hTV:=pm.oQ hIU;have hVn:=pm.ri hIU;have hVlen:(pm.settle (pm.tick τs).1).1.servs.length=(pm.tick τs).1.servs.length:=by have:=congrArg List.length (pm.nR hIU).2.2.2;simpa using this
   have q1:=hIV.len1;have q3:=hIV.len3;have q4:=hIV.m1;have q5:=hIV.m2;have ll1:=hV.len1;have ll3:=hV.len3;have eMV:=hV.em;have k8b:Keep m8 (bump m8 1):=(Keep.refl k8.wf).bump;refine te k8b.wf (hV.keep k8.wf k8b) (by omega) (by omega) (by omega) (by omega) fun m9 ra2 rc2 ba2 bc2 k9 hAn _ _ _=>⟨_,_,_,_,_,_,rfl,?_⟩
   have k89:=k8b.trans k9;have k79:=(k7b.trans k8).trans k89;have k09:=(k06.trans k7).trans k79;have k29:=(k3.trans k35).trans ((k6.trans k7).trans k79);refine dL (fun f:Bool->Mem->Prop=>∀mz b,Keep m9 mz->f b mz) ?_ ?_
   .intro m10 b2 k10;refine cJ (fun _=>?_) (fun _=>?_)
    .have e:de .i64 now7 now=now7-now:=eO (by omega) (by omega);rw[e];exact h _ _ _ (k09.trans k10) fun _=>⟨by omega,by omega,hsne⟩
    .exact⟨_,by omega,_,rfl,(hV.keep k8.wf k89).keep k9.wf k10,hIV,hdV,hAV,hTV,k29.trans k10,by omega,by omega,rfl⟩
   .intro J hJ;refine dP (fun _=>hJ _ _ (Keep.refl k9.wf)) (fun _=>dP (fun _=>hJ _ _ (Keep.refl k9.wf)) (fun _=>?_));refine Lu k9.wf (hU.keep k7.wf k79) (by omega) fun m11 k11=>⟨_,rfl,cJ (fun _=>hJ _ _ k11) (fun _=>?_)⟩
    exact JD k11.wf (hAw.keep k2.wf (k29.trans k11)) (hAn.keep k9.wf k11) (by omega) fun m12 b k12=>⟨_,rfl,hJ _ _ (k11.trans k12)⟩
 .intro J hJ;refine dP (fun hlt=>?_) (fun _=>hJ _ _ (Keep.refl k5.wf) fun e=>by cases e);refine Lu k5.wf hR5 (by omega) fun m13 k13=>⟨_,rfl,hJ _ _ k13 fun e=>⟨hlt,fun hz=>?_⟩⟩
  obtain⟨x,hx,_⟩:=List.any_eq_true.1 e;have:τs.servs=[]:=List.eq_nil_of_length_eq_zero (by rw[g5,hlen,hz];rfl);rw[this]at hx;cases hx
end
end Go.Proofs.YthpnifigjfplbaaGreat.vc
namespace Go.Proofs.YthpnifigjfplbaaGreat.vc
open Go Go.AX
section
variable {B:Int} {m:Mem} {Q:Value->Mem->Prop} {M now:Int} {a1 a2 a3:Option Addr} {n1 c1 n2 c2 n3 c3:Nat} {σ : pm.St}
theorem NK{n:Nat}(hw:Wf m)(hσ : RdSt cx m M now a1 n1 a2 n2 a3 n3 c3 σ)(hI:pm.Iv B σ)(hd:pm.Hd σ)(hn:σ.now+n<=4611686018427387904)(hE:(pm.iu n σ).length<=100000000)
  (hQ:∀m' now' b1 d1 b2 d2 b3 d3 ae ne ce d,Keep m m'->d<=n->(1<=n->1<=d)->RdSt cx m' M now' b1 n1 b2 n2 b3 n3 d3 (pm.dK d σ)->Arr encEv 4 m' ae ne (pm.iu d σ)->Q (.tuple #[.agg #[.int .i64 M,.int .i64 now',.slice b1 n1 d1,.slice b2 n2 d2,.slice b3 n3 d3],.slice ae ne ce,.int .i64 (d:Int),.int .i64 0]) m') :
  ah cx ui [.agg #[.int .i64 M,.int .i64 now,.slice a1 n1 c1,.slice a2 n2 c2,.slice a3 n3 c3],.int .i64 (n:Int)] m Q:=by
 apply CR;unfold uy;have k0:Keep m (bump m 2):=(Keep.refl hw).bump;refine dP (fun e=>absurd e (by omega)) (fun _=>?_);refine dL (fun f:Int->Mem->Prop=>∀(d:Nat) mz,d<=n->(1<=n->1<=d)->Keep m mz->f (d:Int) mz) ?_ ?_
 .intro d m1 hdn hd1 k1;refine N1 k1.wf (hσ.keep hw k1) hI hd (by omega) (Nat.le_trans (G3 hdn σ) hE) fun m2 now2 s1 t1 s2 t2 s3 t3 ae ne ce k2 hT hTE=>⟨_,_,_,_,_,_,_,_,_,_,_,_,_,_,_,rfl,?_⟩
  exact fu (fun e=>absurd rfl e) (fun _=>hQ _ _ _ _ _ _ _ _ _ _ _ d (k1.trans k2) hdn hd1 hT hTE)
 .intro J hJ;refine wy k0.wf (hσ.keep hw k0) hI hd fun m3 q ok k3 hq=>⟨_,_,rfl,?_⟩
  refine cJ (fun ho=>?_) (fun _=>hJ n m3 (gQ4 _) (fun h=>h) (k0.trans k3));obtain⟨h1,h2,_⟩:=hq ho;obtain⟨d,hd'⟩:∃d:Nat,(d:Int)=fG (n:Int) q:=⟨(fG (n:Int) q).toNat,by rw[td];omega⟩;rw[<-hd'];rw[td]at hd';exact hJ d m3 (by omega) (fun h=>by omega) (k0.trans k3)
end
end Go.Proofs.YthpnifigjfplbaaGreat.vc
namespace Go.Proofs.YthpnifigjfplbaaGreat.vc
open Go Go.AX
section
variable {m:Mem} {a1 a2 a3:Option Addr} {n1 c1 n2 c2 n3 c3:Nat}
theorem LN{x0 xn:Int}{most:List Int}{l:List AV}{A:List pm.Act}(hw:Wf m)(hm:Arr encI 1 m a1 n1 most)(hl:Arr Iy 6 m a2 n2 l)(hA:All2 (RdAct m) l A) :
  ah cx uZ [.int .i64 x0,.slice a1 n1 c1,.slice a2 n2 c2,.int .i64 xn] m fun r _=>r = .bool true:=by
 apply zn;unfold qw;refine Nt ⟨true,rfl,dR (fun h=>by cases h) (fun _=>?_)⟩;refine O4 hw hm hl hA (fun m' _ _ _ _ _ _ _ _ _ _ _ k=>⟨_,_,_,_,_,_,_,_,_,_,_,_,rfl,dL (fun _=>True) trivial fun J _=>dR (fun _=>rfl) (fun h=>by cases h)⟩) (fun m2 now2 b1 e1 d1 b2 e2 d2 b3 e3 d3 k σ k2 hS hk hO=>⟨_,_,_,_,_,_,_,_,_,_,_,_,rfl,?_⟩);have hI:=hO.iv;have hd:=hO.hd;have hnw:=hO.now;have hn0:=hI.now1;have kb:Keep m2 (bump m2 1):=(Keep.refl k2.wf).bump;refine dL (fun f:Mem->Prop=>0<=xn->xn<=300->f (bump m2 1)) ?_ ?_
 .intro hn1 hn2;obtain⟨n,rfl⟩:∃n:Nat,xn=(n:Int):=⟨xn.toNat,by omega⟩;have hnn:n<=300:=by omega
  have hev:(pm.iu n σ).length<=150000:=by have:=pm.H5 hI n;omega
  refine N1 kb.wf (hS.keep k2.wf kb) hI hd (by omega) (by omega) fun m4 now4 s1 t1 s2 t2 s3 t3 ae ne ce k4 hT hTE=>⟨_,_,_,_,_,_,_,_,_,_,_,_,_,_,_,rfl,?_⟩
  have hne:ne<=150000:=by rw[<-hTE.1];exact hev
  have hIn:=(pm.lU hI n).1;have k4b:Keep m4 (bump m4 2):=(Keep.refl k4.wf).bump;have k24:=(kb.trans k4).trans k4b;refine dL (fun f:Int->Option Addr->Nat->Nat->Int->Int->Option Addr->Nat->Nat->Option Addr->Nat->Nat->Option Addr->Nat->Nat->Mem->Prop=>∀ao co now' q1 r1 q2 r2 q3 r3 mz,Keep (bump m4 2) mz->RdSt cx mz x0 now' q1 e1 q2 e2 q3 e3 r3 (pm.dK n σ)->Arr encEv 4 mz ao ne (pm.iu n σ)->f 0 ao ne co x0 now' q1 e1 r1 q2 e2 r2 q3 e3 r3 mz) ?_ ?_
  .intro ao co now5 q1 r1 q2 r2 q3 r3 m5 k5 hU hUE;refine dL (fun f:Mem->Prop=>∀m6,Keep m5 m6->f m6) ?_ ?_
   .intro m6 k6;refine⟨fun x22 mm w=>∃i:Nat,x22=(i:Int)/\i<=ne/\w=ne-i/\Keep m6 mm,⟨_,0,rfl,Nat.zero_le _,rfl,Keep.refl k6.wf⟩,?_⟩;rintro x22 m7 w ⟨i,rfl,hi,rfl,k7⟩;refine dG (fun hlt=>?_) (fun _=>rfl);obtain⟨e,he⟩:∃e,(pm.iu n σ)[i]? = some e:=⟨_,gQ2 (by rw[hTE.1];exact hlt)⟩;have k77:Keep m7 (bump m7 9):=(Keep.refl k7.wf).bump;have k57:=k6.trans (k7.trans k77);refine(hTE.keep k4.wf (k4b.trans (k5.trans k57))).open (k:=i) he fun b o hc=>⟨_,hc 0 _ rfl,_,hc 1 _ rfl,_,hc 2 _ rfl,_,hc 3 _ rfl,?_⟩
    refine(hUE.keep k5.wf k57).open (k:=i) he fun b o hc=>⟨_,hc 0 _ rfl,_,hc 1 _ rfl,_,hc 2 _ rfl,_,hc 3 _ rfl,true,Nv _ _ _ _ _,dR (fun h=>by cases h) (fun _=>?_)⟩
    exact⟨_,Qk hlt,i+1,N6 (by omega),hlt,rfl,k7.trans k77⟩
   .intro J hJ;refine fu (fun e=>absurd rfl e) (fun _=>fu (fun e=>absurd rfl e) (fun _=>?_));refine Pf k5.wf (hT.keep k4.wf (k4b.trans k5)) hU hIn fun m8 k8=>⟨true,rfl,dR (fun h=>by cases h) (fun _=>?_)⟩
    exact fu (fun e=>absurd rfl e) (fun _=>hJ m8 k8)
  .intro J hJ;refine⟨fun x15 a16 n16 c16 x17 xc xc1 ac nc cc ac2 nc2 cc2 ac3 nc3 cc3 mm w=>∃(d i:Nat) (u:Mem) (E:Nat->Option AObj),x15=((n-d:Nat):Int)/\x17=(i:Int)/\i<=d/\d<=n/\w=n-d/\xc=x0/\nc=e1/\nc2=e2/\nc3=e3/\OutS (bump m4 2) u mm E a16 n16 c16 (pm.iu d σ)/\RdSt cx u x0 xc1 ac e1 ac2 e2 ac3 e3 cc3 (pm.dK d σ),
    ⟨n,0,0,_,_,rfl,rfl,gQ4 _,Nat.zero_le _,rfl,rfl,rfl,rfl,rfl,OutS.begin k4b.wf,hS.keep k2.wf k24⟩,?_⟩
   rintro x15 a16 n16 c16 x17 xc xc1 ac nc cc ac2 nc2 cc2 ac3 nc3 cc3 m9 w ⟨d,i,u,E,rfl,rfl,hid,hdn,rfl,rfl,rfl,rfl,rfl,hOut,hR⟩;have hId:=(pm.lU hI d).1;have hdd:=pm.tH hI hd d;have hnd:=pm.yH hI d (by omega);refine dL (fun f:Mem->Prop=>d<n->f m9) ?_ ?_
   .intro hdlt;have hsum:=pm.sW d (n-d) σ;rw[show d+(n-d)=n by omega]at hsum;have hEl:(pm.iu (n-d) (pm.dK d σ)).length<=100000000:=by
     rw[hsum,gR2]at hev;omega
    refine ah.mono (ah.beside di hOut.bes hOut.wu (NK (n:=n-d) (c1:=cc) (c2:=cc2) (Q:=fun r u'=>∃now' b1 d1 b2 d2 b3 d3 ae ne ce q,r=(.tuple #[.agg #[.int .i64 xc,.int .i64 now',.slice b1 nc d1,.slice b2 nc2 d2,.slice b3 nc3 d3],.slice ae ne ce,.int .i64 ((q:Nat):Int),.int .i64 0])/\Keep u u'/\q<=n-d/\1<=q/\RdSt cx u' xc now' b1 nc b2 nc2 b3 nc3 d3 (pm.dK q (pm.dK d σ))/\Arr encEv 4 u' ae ne (pm.iu q (pm.dK d σ))) hOut.wu hR hId hdd (by omega) hEl fun u' now' b1 d1 b2 d2 b3 d3 ae ne ce q k hq hq1 hR' hE'=>⟨now',b1,d1,b2,d2,b3,d3,ae,ne,ce,q,rfl,k,hq,hq1 (by omega),hR',hE'⟩)) ?_;rintro r m11 ⟨u11,hB11,hw11,now11,s1,t1,s2,t2,s3,t3,av,nv,cv,q,rfl,k11,hqn,hq1,hR11,hE11⟩;refine⟨_,_,_,_,_,_,_,_,_,_,_,_,_,_,_,_,rfl,?_⟩;have hO11:=(hOut.call hB11 hw11 k11 (ze hB11 hw11)).bump (k:=1);have kb11:Keep u11 (bump u11 1):=(Keep.refl hw11).bump;refine dL (fun f:Mem->Prop=>f (bump m11 1)) ?_ ?_
    .have hdq:=pm.sW d q σ;have hpre:=G3 (show d+q<=n by omega) σ;have hb:n16+nv<=100000000:=by
      have h1:=hOut.len;have h2:=hE11.1;rw[hdq,gR2]at hpre;omega
     obtain⟨a9,c9,m13,u13,E13,hap,hO13,k13⟩:=hO11.app (ck:=cv) (hE11.keep hw11 kb11) hb;have es:de .i64 ((n-d:Nat):Int) (q:Int)=((n-(d+q):Nat):Int):=by rw[eO (by omega) (by omega)];omega
     rw[es];refine⟨_,_,_,m13,hap,n-(d+q),by omega,d+q,i+1,u13,E13,rfl,N6 (by omega),by omega,by omega,rfl,rfl,rfl,rfl,rfl,by rw[hdq];exact hO13,?_⟩;rw[pm.uO];exact(hR11.keep hw11 kb11).keep kb11.wf k13
    .intro J' hJ';refine fu (fun e=>absurd rfl e) (fun _=>dP (fun e=>absurd e (by omega)) (fun _=>dP (fun e=>absurd e (by omega)) (fun _=>hJ')))
   .intro J' hJ';refine dP (fun _=>?_) (fun e=>absurd e (by omega));refine dP (fun h=>hJ' (by omega)) (fun h=>?_);have ed:d=n:=by omega
    subst ed;have hn16:n16=ne:=by rw[<-hOut.len,<-hTE.1]
    subst hn16;have ez:((d-d:Nat):Int)=0:=by omega
    rw[ez];exact hJ _ _ _ _ _ _ _ _ _ m9 hOut.keep (G2 hOut.bes hR) (Arr.of_grow fo (by omega) hOut.out)
 .intro J hJ;exact dR (fun h=>by cases h) (fun _=>dP (fun _=>rfl) (fun h1=>dP (fun _=>rfl) (fun h2=>hJ h1 h2)))
end
end Go.Proofs.YthpnifigjfplbaaGreat.vc
