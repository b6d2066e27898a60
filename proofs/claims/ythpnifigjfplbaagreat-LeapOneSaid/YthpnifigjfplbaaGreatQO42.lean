import Derived.Test.YthpnifigjfplbaaGreatQO38
import Derived.Test.YthpnifigjfplbaaGreatQO40
import Derived.Test.YthpnifigjfplbaaGreatQO27
import Derived.Test.YthpnifigjfplbaaGreatQO30
set_option linter.unusedVariables false
set_option linter.unusedSimpArgs false
set_option linter.unusedSectionVars false
namespace Go.Proofs.YthpnifigjfplbaaGreat.vc
open Go Go.AX
section
variable {B:Int}{m:Mem}{Q:Value->Mem->Prop}{a1 a2:Option Addr}{n1 c1 n2 c2:Nat}
theorem MZ(h:Q (.bool true) m):ah cx kF [] m Q:=ah.ov de MK rfl h
theorem I8{k:Nat}(h:k<=1000000):bh .i64 (k:Int) 1=((k+1:Nat):Int):=by
 rw[dL (by omega) (by omega)];rfl
structure MadeOk (x0:Int)(k:Nat) (τ : pm.St):Prop where
 iv:pm.Iv (k:Int) τ
 hd:pm.Hd τ
 m:τ.m=x0
 now:τ.now<=30*(k:Int)
theorem OA{x0:Int}{most:List Int}{l:List AV}{A:List pm.Act}(hw:Wf m)(hm:Arr encI 1 m a1 n1 most)(hl:Arr H3 6 m a2 n2 l)(hA:All2 (RdAct m) l A)
  (hF:∀m' x0' now' b1 e1 d1 b2 e2 d2 b3 e3 d3,Keep m m'->Q (.tuple #[.agg #[.int .i64 x0',.int .i64 now',.slice b1 e1 d1,.slice b2 e2 d2,.slice b3 e3 d3],.bool false]) m')
  (hQ:∀m' now' b1 e1 d1 b2 e2 d2 b3 e3 d3 k τ,Keep m m'->RdSt cx m' x0 now' b1 e1 b2 e2 b3 e3 d3 τ->k<=40->MadeOk x0 k τ->Q (.tuple #[.agg #[.int .i64 x0,.int .i64 now',.slice b1 e1 d1,.slice b2 e2 d2,.slice b3 e3 d3],.bool true]) m') :
  ah cx wP [.int .i64 x0,.slice a1 n1 c1,.slice a2 n2 c2] m Q:=by
 apply EL;unfold wQ;have k0:Keep m (bump m 1):=(Keep.refl hw).bump;refine A7 k0.wf (hm.keep hw k0) (fun m1 k1 hne _=>⟨_,_,_,_,_,_,_,_,_,_,_,_,rfl,?_⟩) (fun m1 b2 d2 k1 he hR=>⟨_,_,_,_,_,_,_,_,_,_,_,_,rfl,?_⟩)
 .have k01:=(k0.trans k1).bump (n:=1);refine ey (fun f:Bool->Mem->Prop=>f true (bump m1 1)) ?_ ?_
  .exact cJ (fun _=>hF _ _ _ _ _ _ _ _ _ _ _ _ k01) (fun h=>by cases h)
  .exact fun J hJ=>gg (fun _=>hJ) (fun e=>absurd e (by decide))
 .obtain⟨hI,he2,_⟩:=pm.O3 he;have hn0:(pm.new x0 most).1.now=0:=by rw[he2]
  have hM:(pm.new x0 most).1.m=x0:=by rw[he2]
  have hd:=pm.O2 x0 most;generalize (pm.new x0 most).1 = σ at hI hR hn0 hM hd;have k01:=(k0.trans k1).bump (n:=1);have kb:Keep m1 (bump m1 1):=(Keep.refl k1.wf).bump;refine ey (fun f:Bool->Mem->Prop=>∀b,(b=false->n2<=40)->f b (bump m1 1)) ?_ ?_
  .intro b hb;refine cJ (fun _=>hF _ _ _ _ _ _ _ _ _ _ _ _ k01) (fun hbf=>?_);have hn2:=hb hbf;refine⟨fun x10 xc xc1 ac nc cc ac2 nc2 cc2 ac3 nc3 cc3 mm w=>∃(k:Nat) (τ : pm.St),x10=(k:Int)/\k<=n2/\w=n2-k/\xc=x0/\Keep m mm/\RdSt cx mm x0 xc1 ac nc ac2 nc2 ac3 nc3 cc3 τ/\MadeOk x0 k τ,
    ⟨n2,0,σ,rfl,Nat.zero_le _,rfl,rfl,k01,hR.keep k1.wf kb,hI,hd,hM,by rw[hn0];simp⟩,?_⟩
   rintro x10 xc xc1 ac nc cc ac2 nc2 cc2 ac3 nc3 cc3 mm w ⟨k,τ,rfl,hk,rfl,rfl,kk,hS,hO⟩;refine dJ (fun hlt=>?_) (fun hge=>hQ _ _ _ _ _ _ _ _ _ _ _ k τ kk hS (by omega) hO);obtain⟨v,hv⟩:∃v,l[k]? = some v:=⟨_,List.getElem?_eq_getElem (by have:=hl.1;omega)⟩;obtain⟨X',hX',hr⟩:=hA.get hv;obtain⟨op,who,q,p,n,steps⟩:=X';obtain⟨o1,o2,o3,o4,o5,oa,on,oc⟩:=v;obtain⟨z1,z2,z3,z4,z5,hst⟩:=hr;simp only at z1 z2 z3 z4 z5 hst;subst z1 z2 z3 z4 z5;have k4:Keep mm (bump mm 1):=(Keep.refl kk.wf).bump;have hBk:(k:Int)<4611686018427387904:=by omega
   have hkc:((k+1:Nat):Int)=(k:Int)+1:=by omega
   have ea:=I8 (k:=k) (by omega);have hdec:n2-(k+1)<n2-k:=by omega
   have next:∀{τ':pm.St},pm.Iv ((k:Int)+1) τ'->pm.Hd τ'->τ'.m = τ.m->τ'.now<=τ.now+30->MadeOk xc (k+1) τ':=fun h1 h2 h3 h4=>
    ⟨by rw[hkc];exact h1,h2,h3.trans hO.m,by have:=hO.now;omega⟩
   refine(hl.keep hw kk).open (k:=k) hv fun b o hc=>⟨o1,hc 0 _ rfl,o2,hc 1 _ rfl,o3,hc 2 _ rfl,o4,hc 3 _ rfl,o5,hc 4 _ rfl,oa,on,oc,hc 5 _ rfl,?_⟩
   refine eO (fun _=>hF _ _ _ _ _ _ _ _ _ _ _ _ (kk.trans k4)) (fun _=>?_);have hIk:=hO.iv;refine cJ (fun c0=>?_) (fun c0=>?_)
   .obtain⟨i1,i2,i3,_⟩:=pm.O4 hIk (by omega) o2 o3 o4;exact A6 k4.wf (hS.keep kk.wf k4) hIk fun m' b1 n1' d1 b2 d2 b3 d3 k' hR'=>⟨_,_,_,_,_,_,_,_,_,_,_,_,rfl,_,hdec,k+1,_,ea,hlt,rfl,rfl,(kk.trans k4).trans k',hR',next (i1.mono (by omega)) (pm.O1 hO.hd _ _ _) i2 (by rw[i3];omega)⟩
   refine cJ (fun c1=>?_) (fun c1=>?_)
   .obtain⟨i1,i2,i3,_⟩:=pm.NV hIk o2;exact Oh k4.wf (hS.keep kk.wf k4) hIk fun m' b1 n1' d1 b2 d2 b3 d3 k' hR'=>⟨_,_,_,_,_,_,_,_,_,_,_,_,rfl,_,hdec,k+1,_,ea,hlt,rfl,rfl,(kk.trans k4).trans k',hR',next (i1.mono (by omega)) (pm.NT hO.hd _) i2 (by rw[i3];omega)⟩
   refine cJ (fun c2=>?_) (fun c2=>?_)
   .obtain⟨i1,i2,i3,_⟩:=pm.Iz hIk hBk o2 steps;exact I9 k4.wf (hS.keep kk.wf k4) hIk hBk (hst.keep hw (kk.trans k4)) fun m' b1 d1 b2 d2 b3 d3 ae ne ce k' hR' _ _=>⟨_,_,_,_,_,_,_,_,_,_,_,_,_,_,_,rfl,_,hdec,k+1,_,ea,hlt,rfl,rfl,(kk.trans k4).trans k',hR',next i1 (pm.It hO.hd _ _) i2 (by rw[i3];omega)⟩
   refine ey (fun f:Bool->Mem->Prop=>f (cU o1 3 || cU o1 4) (bump mm 1)) ?_ ?_
   .refine cJ (fun c3=>?_) (fun c3=>?_)
    .obtain⟨i1,i2,i3,_⟩:=pm.J9 hIk o2 (cU o1 3);exact KM k4.wf (hS.keep kk.wf k4) hIk fun m' b1 d1 b2 d2 b3 n3' d3 k' hR'=>⟨_,_,_,_,_,_,_,_,_,_,_,_,rfl,_,hdec,k+1,_,ea,hlt,rfl,rfl,(kk.trans k4).trans k',hR',next (i1.mono (by omega)) (pm.J7 hO.hd _ _) i2 (by rw[i3];omega)⟩
    .refine⟨fun x5' yc yc1 bc oc dc bc2 oc2 dc2 bc3 oc3 dc3 mt w=>∃t:Nat,x5'=(t:Int)/\t<=30/\w=30-t/\yc=xc/\Keep mm mt/\RdSt cx mt xc yc1 bc oc bc2 oc2 bc3 oc3 dc3 (pm.dP t τ),⟨30,0,rfl,Nat.zero_le _,rfl,rfl,k4,hS.keep kk.wf k4⟩,?_⟩;rintro x5' yc yc1 bc oc dc bc2 oc2 dc2 bc3 oc3 dc3 mt w ⟨t,rfl,ht,rfl,rfl,kt,hR'⟩;obtain⟨j1,j2,_,_,j5⟩:=pm.qw hIk t;have done:MadeOk yc (k+1) (pm.dP t τ):=next (j1.mono (by omega)) (pm.Ak hIk hO.hd t) j2 (by omega);refine ey (fun f:Mem->Prop=>t<30->f mt) ?_ ?_
     .intro hlt';refine CY kt.wf hR' j1 fun m' now' b1 d1 b2 d2 b3 d3 ae ne ce k2 hR2 _ _=>⟨_,_,_,_,_,_,_,_,_,_,_,_,_,_,_,rfl,30-(t+1),?_,t+1,I8 (by omega),hlt',rfl,rfl,kt.trans k2,hR2⟩
      clear hdec;omega
     .intro J' hJ';refine eO (fun l1=>eO (fun l2=>hJ' (by clear hdec;omega)) (fun l2=>⟨_,hdec,k+1,_,ea,hlt,rfl,rfl,kk.trans kt,hR',done⟩)) (fun l1=>⟨_,hdec,k+1,_,ea,hlt,rfl,rfl,kk.trans kt,hR',done⟩)
   .intro J' hJ';refine cJ (fun c3=>?_) (fun c3=>?_)
    .rw[c3,Bool.true_or]at hJ';exact hJ'
    .rw[c3,Bool.false_or]at hJ';exact hJ'
  .intro J hJ;refine gg (fun e=>absurd (by rfl) e) (fun _=>eO (fun _=>hJ true (fun h=>by cases h)) (fun h15=>hJ _ (fun _=>?_)));simp only[aQ]at h15;omega
theorem P6:ActT Tryz.prog D6 (match Tryz.prog.underlying D6 with|some (.struct fs)=>fs|_=>#[]) where
 he:=by kernel_rfl
 hone:=by kernel_rfl
 hC:=by kernel_rfl
 hs:=by kernel_rfl
 ints:=fun j hj=>match j,hj with
  | 0,_=>⟨t_int,by kernel_rfl,Tryz.underlying3⟩
  | 1,_=>⟨t_int,by kernel_rfl,Tryz.underlying3⟩
  | 2,_=>⟨jp,by kernel_rfl,Tryz.underlying2⟩
  | 3,_=>⟨jp,by kernel_rfl,Tryz.underlying2⟩
  | 4,_=>⟨jp,by kernel_rfl,Tryz.underlying2⟩
 steps:=⟨CZ,fU,t_int,jp,(match Tryz.prog.underlying fU with|some (.struct fs)=>fs|_=>#[]),by kernel_rfl,by kernel_rfl,by kernel_rfl,by kernel_rfl,by kernel_rfl,by kernel_rfl,by kernel_rfl,Tryz.underlying3,by kernel_rfl,Tryz.underlying2⟩
end
end Go.Proofs.YthpnifigjfplbaaGreat.vc
namespace Go.Proofs.YthpnifigjfplbaaGreat.vc
open Go Go.AX
section
variable {m:Mem}{a1 a2 a3:Option Addr}{n1 c1 n2 c2 n3 c3:Nat}
theorem OC(x y z w x' y' z' w':Int)(m:Mem):gf cx m 40 t_model_Event (.agg #[.int .i64 x,.int .i64 y,.int .i64 z,.int .i64 w]) (.agg #[.int .i64 x',.int .i64 y',.int .i64 z',.int .i64 w'])=qJ (some (decide (x=x'))) (qJ (some (decide (y=y'))) (qJ (some (decide (z=z'))) (qJ (some (decide (w=w'))) (some true)))):=by kernel_rfl
theorem M2(x y z w:Int)(m:Mem):gf cx m 40 t_model_Event (.agg #[.int .i64 x,.int .i64 y,.int .i64 z,.int .i64 w]) (.agg #[.int .i64 x,.int .i64 y,.int .i64 z,.int .i64 w])=some true:=by
 rw[OC,oT,oT,oT,oT];rfl
theorem OD{x0:Int}{most:List Int}{l:List AV}{A:List pm.Act}(hw:Wf m)(hm:Arr encI 1 m a1 n1 most)(hl:Arr H3 6 m a2 n2 l)(hA:All2 (RdAct m) l A) :
  ah cx xl [.int .i64 x0,.slice a1 n1 c1,.slice a2 n2 c2] m fun r _=>r = .bool true:=by
 apply AJ;unfold rR;refine MZ ⟨true,rfl,dM (fun h=>by cases h) (fun _=>?_)⟩;refine OA hw hm hl hA (fun m' _ _ _ _ _ _ _ _ _ _ _ k=>⟨_,_,_,_,_,_,_,_,_,_,_,_,rfl,dM (fun _=>rfl) (fun h=>by cases h)⟩) (fun m2 now2 b1 e1 d1 b2 e2 d2 b3 e3 d3 k σ k2 hS hk hO=>⟨_,_,_,_,_,_,_,_,_,_,_,_,rfl,dM (fun h=>by cases h) (fun _=>?_)⟩);have hI:=hO.iv;have hn:=hO.now;have hn0:=hI.now1;have kb:Keep m2 (bump m2 1):=(Keep.refl k2.wf).bump;refine Ny (n:=1) kb.wf (hS.keep k2.wf kb) hI hO.hd (by omega) (by have:=pm.HD hI 1;omega) fun m3 now3 s1 t1 s2 t2 s3 t3 ae ne ce k3 hT hTE=>⟨_,_,_,_,_,_,_,_,_,_,_,_,_,_,_,rfl,?_⟩
 have k23:=kb.trans (k3.bump (n:=1));have k33:Keep m3 (bump m3 1):=(Keep.refl k3.wf).bump;refine CY k23.wf (hS.keep k2.wf k23) hI fun m4 now4 u1 v1 u2 v2 u3 v3 av nv cv k4 hU hUE _=>⟨_,_,_,_,_,_,_,_,_,_,_,_,_,_,_,rfl,?_⟩
 have k24:=(k23.trans k4).bump (n:=1);refine Ny (n:=0) k24.wf (hS.keep k2.wf k24) hI hO.hd (by omega) (by simp[pm.jD]) fun m5 now5 x1 y1 x2 y2 x3 y3 aw nw cw k5 hV hVE=>⟨_,_,_,_,_,_,_,_,_,_,_,_,_,_,_,rfl,?_⟩
 have k25:=(k24.trans k5).bump (n:=1);have k44:Keep m4 (bump m4 1):=(Keep.refl k4.wf).bump;have k55:Keep m5 (bump m5 1):=(Keep.refl k5.wf).bump;have k45:Keep m4 (bump m5 1):=k44.trans (k5.trans k55);have k35:Keep m3 (bump m5 1):=(k33.trans k4).trans k45;have hnlt:σ.now<4611686018427387904:=by omega
 obtain⟨hIU,_,_,_,hte⟩:=pm.yU hI;rw[if_pos hnlt]at hte;have eT:pm.dP 1 σ = (pm.tick σ).1:=rfl;have eE:pm.jD 1 σ = (pm.tick σ).2.1:=by show []++_=_;rfl
 rw[eT]at hT;rw[eE]at hTE;have hlen:ne=nv:=by rw[<-hTE.1,<-hUE.1]
 have hnw:nw=0:=hVE.1.symm;rw[hte];refine ey (fun f:Mem->Prop=>∀m6,Keep (bump m5 1) m6->f m6) ?_ ?_
 .intro m6 k6;refine⟨fun x18 mm w=>∃i:Nat,x18=(i:Int)/\i<=ne/\w=ne-i/\Keep m6 mm,⟨_,0,rfl,Nat.zero_le _,rfl,Keep.refl k6.wf⟩,?_⟩;rintro x18 m7 w ⟨i,rfl,hi,rfl,k7⟩;refine dJ (fun hlt=>?_) (fun _=>rfl);obtain⟨e,he⟩:∃e,(pm.tick σ).2.1[i]? = some e:=⟨_,List.getElem?_eq_getElem (by rw[hTE.1];exact hlt)⟩;have k77:Keep m7 (bump m7 9):=(Keep.refl k7.wf).bump;have k67:=k6.trans (k7.trans k77);refine(hTE.keep k3.wf (k35.trans k67)).open (k:=i) he fun b o hc=>⟨_,hc 0 _ rfl,_,hc 1 _ rfl,_,hc 2 _ rfl,_,hc 3 _ rfl,?_⟩
  refine(hUE.keep k4.wf (k45.trans k67)).open (k:=i) he fun b o hc=>⟨_,hc 0 _ rfl,_,hc 1 _ rfl,_,hc 2 _ rfl,_,hc 3 _ rfl,true,M2 _ _ _ _ _,dM (fun h=>by cases h) (fun _=>?_)⟩
  have hne:ne<=500:=by have:=pm.FQ hI;have:=hTE.1;omega
  refine⟨ne-(i+1),by omega,i+1,I8 (by omega),hlt,rfl,k7.trans k77⟩
 .intro J hJ;refine gg (fun e=>absurd rfl e) (fun _=>fp (fun _=>?_) (fun e=>absurd rfl e));refine HW k25.wf (hT.keep k3.wf k35) (hU.keep k4.wf k45) hIU fun m8 k8=>⟨true,rfl,dM (fun h=>by cases h) (fun _=>?_)⟩
  refine gg (fun e=>absurd (by rw[hlen]) e) (fun _=>gg (fun e=>absurd rfl e) (fun _=>gg (fun e=>absurd (by rw[hnw];rfl) e) (fun _=>?_)));have k28:=k25.trans k8;exact HW k8.wf ((hV.keep k5.wf k55).keep k25.wf k8) (hS.keep k2.wf k28) hI fun m9 k9=>⟨true,rfl,dM (fun h=>by cases h) (fun _=>hJ m9 (k8.trans k9))⟩
end
end Go.Proofs.YthpnifigjfplbaaGreat.vc
